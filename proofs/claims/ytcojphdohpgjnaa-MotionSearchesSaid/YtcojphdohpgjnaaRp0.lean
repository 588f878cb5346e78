/- Walks of the document's answer for layer 6: side, Right; the text of bytes. -/
import Derived.Test.YtcojphdohpgjnaaPw1
import Derived.Test.YtcojphdohpgjnaaApp
namespace Go.Kin
theorem strEq_iff {n m : Nat} {g h : Nat → Int} (hg : Byt g) (hh : Byt h) : ((strOf n g).toList == (strOf m h).toList) = true ↔ (n = m ∧ ∀ i, i < n → g i = h i) := by
  rw [beq_iff_eq, ← strOf_eq hg hh]
  constructor
  · intro e
    rw [ByteArray.toList_eq, ByteArray.toList_eq] at e
    exact ByteArray.ext (Array.ext' e)
  · intro e; rw [e]
theorem strEq_rfl {n : Nat} {g : Nat → Int} : ((strOf n g).toList == (strOf n g).toList) = true := by rw [beq_iff_eq]
theorem Rd.nil_ {w : World} {A : Option Addr} {n : Nat} {f : Nat → Value} (h : Rd w A n f) (hA : A = none) : n = 0 := by
  rcases Nat.eq_zero_or_pos n with h0 | h0
  · exact h0
  · obtain ⟨b, off, e, _⟩ := h h0
    rw [hA] at e; cases e
end Go.Kin
namespace Go.Proofs.Ytcojphdohpgjnaa
open Go.RowKit Go.Kin
set_option linter.unusedVariables false

def sideB (a : Int) : Bool := decide (1 ≤ a ∧ a ≤ 4096)
theorem sidesB_side (a b : Int) : (sideB a && sideB b) = sidesB a b := by
  unfold sideB sidesB
  rw [Bool.eq_iff_iff]; simp; omega
set_option maxHeartbeats 400000 in
theorem rside_any (a : Int) (w : World) :
    Calls Try.prog 54 #[.int .i64 a] w fun e w' => e = .returned (.bool (sideB a)) ∧ w = w' := by
  have H := Lib.hid (show sideB a = decide (1 ≤ a ∧ a ≤ 4096) from rfl)
  by_cases h1 : 1 ≤ a
  all_goals by_cases h2 : a ≤ 4096
  all_goals go_enter Try.func54, Try.ntmps54
  all_goals go_wp2
  all_goals go_ret
  all_goals exact ⟨ret_bool (by rw [H.out]; simp [*]), rfl⟩

set_option maxHeartbeats 400000 in
theorem rright_any (a b : Int) (A : Option Addr) (n c : Nat) (w : World) :
    Calls Try.prog 35 #[.agg #[.int .i64 a, .int .i64 b, .slice A n c]] w fun e w' => e = .returned (.bool (rightB a b n)) ∧ Below w.heap.size w w' := by
  have H := Lib.hid (show rightB a b n = ((sideB a && sideB b) && ((n : Int) == a * b)) from by rw [sidesB_side]; rfl)
  cases h1 : sideB a with
  | false =>
    go_enter Try.func35, Try.ntmps35
    go_wp2_with (go_at_call 54; refine (rside_any _ _).mono ?_; rintro e w' ⟨rfl, rfl⟩)
    go_ret
    exact ⟨ret_bool (by rw [H.out, h1]; simp), (Below.refl _ _).alloc (Nat.le_refl _) _⟩
  | true =>
    cases h2 : sideB b with
    | false =>
      go_enter Try.func35, Try.ntmps35
      go_wp2_with (go_at_call 54; refine (rside_any _ _).mono ?_; rintro e w' ⟨rfl, rfl⟩)
      go_ret
      exact ⟨ret_bool (by rw [H.out, h1, h2]; simp), (Below.refl _ _).alloc (Nat.le_refl _) _⟩
    | true =>
      have g1 : 1 ≤ a ∧ a ≤ 4096 := by simpa [sideB] using h1
      have g2 : 1 ≤ b ∧ b ≤ 4096 := by simpa [sideB] using h2
      have hm1 : 0 ≤ a * b := Int.mul_nonneg (by omega) (by omega)
      have hm2 : a * b ≤ 16777216 := by
        have := Int.mul_le_mul g1.2 g2.2 (by omega) (by omega)
        omega
      clear g1 g2
      go_enter Try.func35, Try.ntmps35
      go_wp2_with (go_at_call 54; refine (rside_any _ _).mono ?_; rintro e w' ⟨rfl, rfl⟩)
      go_ret
      exact ⟨ret_bool (by rw [H.out, h1, h2]; simp), (Below.refl _ _).alloc (Nat.le_refl _) _⟩

theorem parts_u8 : ∃ i, Try.prog.info? 5 = some i ∧ i.zero = some (.int .u8 0) ∧ i.size = 1 ∧ i.bytes = 1 := info_parts info_u8

theorem conv_any {w : World} {A : Option Addr} {n c : Nat} {g : Nat → Int} (h : Rd w A n (by8 g)) : (convert 22 9 (.slice A n c)).run Try.prog w = .ok (.string (strOf n g)) w :=
  conv_u8 Try.underlying22 Try.underlying5 Try.underlying9 h

end Go.Proofs.Ytcojphdohpgjnaa
