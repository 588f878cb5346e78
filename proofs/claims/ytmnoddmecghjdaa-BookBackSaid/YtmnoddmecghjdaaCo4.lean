/- Walks of package coder: Put. -/
import Derived.Test.YtmnoddmecghjdaaCo3
namespace Go.Kin
/-- A code as a number, how many bytes it has, and the range. -/
structure St where
  V : Nat
  L : Nat
  R : Nat
/-- The range is one that needs no byte more. -/
def St.ok (s : St) : Prop := 16777216 ≤ s.R ∧ s.R ≤ 4294967295
def St.bd (s : St) (c : Nat) : Nat := s.R / 2048 * c
/-- Behind a bit, ahead of what makes the range great again. -/
def St.half (s : St) (c bit : Nat) : St := if bit = 0 then ⟨s.V, s.L, s.bd c⟩ else ⟨s.V + s.bd c, s.L, s.R - s.bd c⟩
def St.norm (s : St) : St := if s.R < 16777216 then ⟨s.V * 256, s.L + 1, s.R * 256⟩ else s
def St.put (s : St) (c bit : Nat) : St := (s.half c bit).norm
theorem St.bd_bd {s : St} {c : Nat} (h : s.ok) (h1 : 31 ≤ c) (h2 : c ≤ 2017) : 253952 ≤ s.bd c ∧ s.bd c + 253952 ≤ s.R := by
  obtain ⟨a, b⟩ := h
  unfold St.bd
  have e1 : 8192 ≤ s.R / 2048 := by omega
  have e2 : s.R / 2048 * 31 ≤ s.R / 2048 * c := Nat.mul_le_mul_left _ h1
  have e3 : s.R / 2048 * c ≤ s.R / 2048 * 2017 := Nat.mul_le_mul_left _ h2
  omega
theorem St.half_bd {s : St} {c bit : Nat} (h : s.ok) (h1 : 31 ≤ c) (h2 : c ≤ 2017) : 253952 ≤ (s.half c bit).R ∧ (s.half c bit).R ≤ 4294967295 ∧ (s.half c bit).L = s.L := by
  have := St.bd_bd h h1 h2
  obtain ⟨a, b⟩ := h
  unfold St.half
  split <;> (try dsimp only) <;> omega
theorem St.put_ok {s : St} {c bit : Nat} (h : s.ok) (h1 : 31 ≤ c) (h2 : c ≤ 2017) : (s.put c bit).ok ∧ (s.put c bit).L ≤ s.L + 1 ∧ s.L ≤ (s.put c bit).L := by
  have := St.half_bd (bit := bit) h h1 h2
  unfold St.put St.norm St.ok
  split <;> (try dsimp only) <;> omega
end Go.Kin
namespace Go.Proofs.Ytmnoddmecghjdaa
open Go.RowKit Go.Kin
set_option linter.unusedVariables false
theorem Enc.L0 {w : World} {col : Nat → Nat} {i p V L R c : Nat} {A : Option Addr} (h : Enc w col i p V L R A c) (hL : 1 ≤ L) : ∃ k, A = some ⟨k, 0, none⟩ ∧ k ≠ p ∧ col k = i ∧ Row w k L (by8 (dig V L)) ∧ L ≤ c := by
  obtain ⟨k, rfl, _, hr, hc⟩ := h.own.row (by omega)
  exact ⟨k, rfl, (h.hA k 0 rfl).2, (h.hA k 0 rfl).1, hr, hc⟩
set_option maxHeartbeats 1000000 in
/-- What cannot be put. -/
theorem put_arg (p : Nat) (c bit : Int) (w : World) (h : chB c = false ∨ (chB c = true ∧ ¬ bit = 0 ∧ ¬ bit = 1)) :
    Calls Try.prog 90 #[.pointer (some ⟨p, 0, none⟩), .int .u16 c, .int .i64 bit] w fun e w' => e = .returned (.int .i64 1) ∧ w = w' := by
  rcases h with h | ⟨h, h1, h2⟩
  · go_enter Try.func90, Try.ntmps90
    go_wp2_with (go_at_call 99; refine (cright_any _ _).mono ?_; rintro e w' ⟨rfl, rfl⟩; rw [h])
    go_ret
    exact ⟨rfl, rfl⟩
  · have b1 : (bit != 0) = true := by simp [h1]
    have b2 : (bit != 1) = true := by simp [h2]
    go_enter Try.func90, Try.ntmps90
    go_wp2_with (go_at_call 99; refine (cright_any _ _).mono ?_; rintro e w' ⟨rfl, rfl⟩; rw [h])
    go_ret
    exact ⟨rfl, rfl⟩
end Go.Proofs.Ytmnoddmecghjdaa
