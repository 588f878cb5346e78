/- Walks of the document's layer 9: at. -/
import Derived.Test.YtcojphdohpgjnaaIn3
namespace Go.Kin
/-- A sample; 128 outside. -/
def at9 (W H : Int) (g : Nat → Int) (x y : Int) : Int := if 0 ≤ x ∧ x < W ∧ 0 ≤ y ∧ y < H then g (y * W + x).toNat else 128
theorem at9_bd {W H : Int} {g : Nat → Int} {x y : Int} (hg : Byt g) : 0 ≤ at9 W H g x y ∧ at9 W H g x y ≤ 255 := by
  unfold at9
  split
  · exact hg _
  · omega
end Go.Kin
namespace Go.Proofs.Ytcojphdohpgjnaa
open Go.RowKit Go.Kin
set_option linter.unusedVariables false

set_option maxHeartbeats 1000000 in
theorem r9at_any (W H : Int) (A : Option Addr) (n c : Nat) (g : Nat → Int) (x y : Int) (w : World) (hr : rightB W H n = true) (hS : Rd w A n (by8 g)) (hg : Byt g) :
    Calls Try.prog 55 #[.agg #[.int .i64 W, .int .i64 H, .slice A n c], .int .i64 x, .int .i64 y] w fun e w' => e = .returned (.int .i64 (at9 W H g x y)) ∧ Below w.heap.size w w' := by
  obtain ⟨r1, r2, r3, r4, r5⟩ := rightB_iff.1 hr
  obtain ⟨b, off, rfl, hb, hc⟩ := hS.some_ (rightB_pos hr)
  have hn := rightB_le hr
  by_cases hin : 0 ≤ x ∧ x < W ∧ 0 ≤ y ∧ y < H
  · obtain ⟨x0, x1, y0, y1⟩ := hin
    obtain ⟨p1, p2, p3⟩ := place_in r5 ⟨x0, x1⟩ ⟨y0, y1⟩
    have HA := Lib.hid (show at9 W H g x y = g (y * W + x).toNat by unfold at9; rw [if_pos ⟨x0, x1, y0, y1⟩])
    have hc1 := (hS.alloc (.cells #[.int .i64 W, .int .i64 H, .slice (some ⟨b, off, none⟩) n c] 24)).at_ (i := (y * W + x).toNat) (by omega)
    simp only [by8] at hc1
    have bg := hg (y * W + x).toNat
    have xn : ¬ x < 0 := by omega
    have yn : ¬ y < 0 := by omega
    have xw : ¬ W ≤ x := by omega
    have yw : ¬ H ≤ y := by omega
    clear hS hc r5
    have K := (Kn.start w).new w.heap.size #[.int .i64 W, .int .i64 H, .slice (some ⟨b, off, none⟩) n c] 24 rfl
    go_enter Try.func55, Try.ntmps55
    go_wp2
    generalize w.alloc (.cells #[.int .i64 W, .int .i64 H, .slice (some ⟨b, off, none⟩) n c] 24) = w1 at K hc1 ⊢
    have kc := Box.cells K.1
    go_wp2
    go_ret
    exact ⟨ret_int HA.out.symm, K.2.1⟩
  · have HA := Lib.hid (show at9 W H g x y = 128 by unfold at9; rw [if_neg hin])
    have hT : (decide (x < 0) || decide (y < 0) || decide (W ≤ x) || decide (H ≤ y)) = true := by
      simp only [Bool.or_eq_true, decide_eq_true_eq]
      omega
    clear hS hc r5 hin
    go_enter Try.func55, Try.ntmps55
    go_wp2
    all_goals go_ret
    all_goals exact ⟨ret_int HA.out.symm, (Below.refl _ _).alloc (Nat.le_refl _) _⟩
end Go.Proofs.Ytcojphdohpgjnaa
