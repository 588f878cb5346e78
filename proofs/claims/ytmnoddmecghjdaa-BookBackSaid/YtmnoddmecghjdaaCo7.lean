/- Walks of package coder: End; Get, when it answers with ErrArg; Put of no encoder. -/
import Derived.Test.YtmnoddmecghjdaaCo6
namespace Go.Proofs.Ytmnoddmecghjdaa
open Go.RowKit Go.Kin
set_option linter.unusedVariables false
/-- The decoder: its struct, and the bytes that were not needed yet. -/
structure Dec (w : World) (col : Nat → Nat) (i p : Nat) (A : Option Addr) (n c : Nat) (g : Nat → Int) (rest wide : Nat) : Prop where
  box : Box w p #[.slice A n c, .int .u32 rest, .int .u32 wide]
  rd : Rd w A n (by8 g)
  hp : col p = i
  hA : n = 0 ∨ ∀ k o, A = some ⟨k, o, none⟩ → col k = i ∧ k ≠ p
  le : n ≤ c ∧ c ≤ 9223372036854775807
theorem end_nil (w : World) : Calls Try.prog 31 #[.pointer none] w fun e w' => e = .returned (.int .i64 1) ∧ w = w' := by
  go_enter Try.func31, Try.ntmps31
  go_wp2
  go_ret
  exact ⟨rfl, rfl⟩
/-- What End answers. -/
def endK (n rest : Nat) : Int := if n = 0 ∧ rest = 0 then 0 else 41
theorem end_any (p : Nat) (A : Option Addr) (n c rest : Nat) (x : Value) (w : World) (hB : Box w p #[.slice A n c, .int .u32 rest, x]) :
    Calls Try.prog 31 #[.pointer (some ⟨p, 0, none⟩)] w fun e w' => e = .returned (.int .i64 (endK n rest)) ∧ w = w' := by
  have kc := Box.cells hB
  by_cases h : n = 0
  · subst h
    by_cases h2 : rest = 0
    · have H := Lib.hid (show endK 0 rest = 0 by unfold endK; rw [if_pos ⟨rfl, h2⟩])
      have r0 : ((rest : Int) != 0) = false := by simp [h2]
      clear h2
      go_enter Try.func31, Try.ntmps31
      go_wp2
      go_ret
      exact ⟨ret_int (by rw [H.out]), rfl⟩
    · have H := Lib.hid (show endK 0 rest = 41 by unfold endK; rw [if_neg (fun e => h2 e.2)])
      have r0 : ((rest : Int) != 0) = true := by simp [h2]
      clear h2
      go_enter Try.func31, Try.ntmps31
      go_wp2
      go_ret
      exact ⟨ret_int (by rw [H.out]), rfl⟩
  · have H := Lib.hid (show endK n rest = 41 by unfold endK; rw [if_neg (fun e => h e.1)])
    have n0 : 0 < (n : Int) := by omega
    clear h
    go_enter Try.func31, Try.ntmps31
    go_wp2
    go_ret
    exact ⟨ret_int (by rw [H.out]), rfl⟩
theorem get_nil (c : Int) (w : World) : Calls Try.prog 97 #[.pointer none, .int .u16 c] w fun e w' => e = .returned (.tuple #[.int .i64 0, .int .i64 1]) ∧ w = w' := by
  go_enter Try.func97, Try.ntmps97
  go_wp2
  go_ret2
  exact ⟨rfl, rfl⟩
theorem get_arg (p : Nat) (c : Int) (w : World) (h : chB c = false) : Calls Try.prog 97 #[.pointer (some ⟨p, 0, none⟩), .int .u16 c] w fun e w' => e = .returned (.tuple #[.int .i64 0, .int .i64 1]) ∧ w = w' := by
  go_enter Try.func97, Try.ntmps97
  go_wp2_with (go_at_call 99; refine (cright_any _ _).mono ?_; rintro e w' ⟨rfl, rfl⟩; rw [h])
  go_ret2
  exact ⟨rfl, rfl⟩
theorem put_nil (c bit : Int) (w : World) : Calls Try.prog 90 #[.pointer none, .int .u16 c, .int .i64 bit] w fun e w' => e = .returned (.int .i64 1) ∧ w = w' := by
  go_enter Try.func90, Try.ntmps90
  go_wp2
  go_ret
  exact ⟨rfl, rfl⟩
end Go.Proofs.Ytmnoddmecghjdaa
