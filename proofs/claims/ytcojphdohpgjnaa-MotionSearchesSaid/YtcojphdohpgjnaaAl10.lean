/- The live question of layer 10. -/
import Derived.Test.YtcojphdohpgjnaaMo7
import Derived.Test.YtcojphdohpgjnaaPw5
namespace Go.Proofs.Ytcojphdohpgjnaa
open Go.RowKit Go.Kin
set_option linter.unusedVariables false

theorem chroma_any (vx vy : Int) (w : World) :
    Calls Try.prog 41 #[.agg #[.int .i64 vx, .int .i64 vy]] w fun e w' => e = .returned (.agg #[.int .i64 (vx / 2), .int .i64 (vy / 2)]) ∧ Below w.heap.size w w' := by
  have K := ((Kn.start w).new w.heap.size #[.int .i64 vx, .int .i64 vy] 48 rfl).new (w.heap.size + 1) #[.int .i64 0, .int .i64 0] 48 (by simp)
  have KF := (Kn.start w).new w.heap.size #[.int .i64 vx, .int .i64 vy] 48 rfl
  replace KF := KF.new (w.heap.size + 1) #[.int .i64 (vx / 2), .int .i64 (vy / 2)] 48 (by simp)
  have kc0 := Box.cells K.2.1
  clear K
  go_enter Try.func41, Try.ntmps41
  go_wp2
  generalize (w.alloc (.cells #[.int .i64 vx, .int .i64 vy] 48)).alloc (.cells #[.int .i64 (vx / 2), .int .i64 (vy / 2)] 48) = wf at KF ⊢
  have d0 := Box.cell KF.1 0
  have d1 := Box.cell KF.1 1
  simp at d0 d1
  refine bodyPost_ret (v := .agg #[.int .i64 (vx / 2), .int .i64 (vy / 2)]) (by simp [results, Try.results41, go_sem, d0, d1]) rfl ⟨rfl, KF.2.2.1⟩

def q10 : Nat → Int := layP 8 (fun _ => 0) 4 4 1 (fun k => if k = 0 then 100 else 0)
def D10 (vx vy : Int) : Int := sumAbs (bmP 8 8 q10 3 4 1 vx vy) (fun _ => 100) 1
theorem q10_byt : Byt q10 := by
  unfold q10 layP
  exact layJ_byt (fun _ => by show (0 : Int) ≤ 0 ∧ (0 : Int) ≤ 255; omega) (fun k => by show (0 : Int) ≤ (if k = 0 then 100 else 0) ∧ (if k = 0 then (100 : Int) else 0) ≤ 255; split <;> omega)
set_option maxRecDepth 100000 in
set_option maxHeartbeats 2000000 in
theorem alive10 (w : World) : Calls Try.prog 26 #[] w fun e w' => e = .returned (.bool true) ∧ Below w.heap.size w w' := by
  have K := Kn.start w
  have hr : rightB 8 8 64 = true := by decide
  go_enter Try.func26, Try.ntmps26
  go_wp2_with fail
  refine (new_yes 8 8 0 64 _ (by decide) (by decide)).mono ?_
  rintro e w1 ⟨b1, rfl, hb1, hr1, hL1⟩
  replace K := (K.below hL1).add (x := .row b1 64 (by8 fun _ => 0)) hr1
  clear hL1 hr1 hb1
  go_upto_region 2 with (fail)
  replace K := K.new w1.heap.size #[.int .i64 8, .int .i64 8, .slice (some ⟨b1, 0, none⟩) 64 64] 24 rfl
  generalize w1.alloc (.cells #[.int .i64 8, .int .i64 8, .slice (some ⟨b1, 0, none⟩) 64 64] 24) = w2 at K ⊢
  have kc := Box.cells K.1
  go_wp2_with fail
  replace K := K.new w2.heap.size #[.int .u8 100] 5 rfl
  refine (lay_yes 8 8 _ _ 64 64 1 1 (fun _ => 0) (fun k => if k = 0 then 100 else 0) 4 4 1 _ (by omega) (by omega) rfl hr ⟨by omega, by omega⟩ ⟨by omega, by omega⟩ (Row.rd K.2.2.1) (Box.rd K.1 (fun i hi => by obtain rfl : i = 0 := (by omega); rfl)) (by omega) (by omega)).mono ?_
  rintro e w3 ⟨b3, rfl, hb3, hr3, hL3⟩
  replace K := (K.below hL3).add (x := .row b3 64 (by8 q10)) hr3
  clear hL3 hr3 kc hb3
  go_upto_region 3 with (fail)
  replace K := K.new w3.heap.size #[.int .i64 8, .int .i64 8, .slice (some ⟨b3, 0, none⟩) 64 64] 24 rfl
  generalize w3.alloc (.cells #[.int .i64 8, .int .i64 8, .slice (some ⟨b3, 0, none⟩) 64 64] 24) = w4 at K ⊢
  have kc := Box.cells K.1
  go_wp2_with fail
  replace K := K.new w4.heap.size #[.int .u8 100] 5 rfl
  refine (msearch_yes 8 8 _ 64 64 q10 3 4 1 _ 1 1 (fun _ => 100) 2 _ hr (Row.rd K.2.2.1) q10_byt (Box.rd K.1 (fun i hi => by obtain rfl : i = 0 := (by omega); rfl)) (fun _ => by show (0 : Int) ≤ 100 ∧ (100 : Int) ≤ 255; omega) (by omega) (by omega) ⟨by omega, by omega⟩ ⟨by omega, by omega⟩ rfl (by omega) D10 (fun _ _ => rfl)).mono ?_
  have ex : (srch D10 2 ((2 * 2 + 1) * (2 * 2 + 1))).x = 2 := by decide +kernel
  have ey : (srch D10 2 ((2 * 2 + 1) * (2 * 2 + 1))).y = 0 := by decide +kernel
  have ef : (srch D10 2 ((2 * 2 + 1) * (2 * 2 + 1))).far = 0 := by decide +kernel
  rw [ex, ey, ef]
  clear ex ey ef
  rintro e w5 ⟨A5, c5, rfl, _, hL5⟩
  replace K := K.below hL5
  clear hL5 kc
  have sz := Box.lt K.2.1
  go_upto_region 6 with (fail)
  replace K := K.new w5.heap.size #[.int .i64 2, .int .i64 0] 48 rfl
  generalize w5.alloc (.cells #[.int .i64 2, .int .i64 0] 48) = w6 at K ⊢
  have kc := Box.cells K.2.2.1
  go_wp2_with fail
  refine (msample_yes 8 8 _ 64 64 q10 7 8 _ hr (Row.rd K.2.2.2.1) q10_byt (by omega) (by omega)).mono ?_
  rintro e w7 ⟨rfl, hb7⟩
  rw [show sampP 8 8 q10 7 8 = 63 by decide +kernel]
  replace K := K.below hb7
  replace kc := Box.cells K.2.2.1
  clear hb7
  go_wp2_with fail
  refine (msample_yes 8 8 _ 64 64 q10 8 8 _ hr (Row.rd K.2.2.2.1) q10_byt (by omega) (by omega)).mono ?_
  rintro e w8 ⟨rfl, hb8⟩
  rw [show sampP 8 8 q10 8 8 = 100 by decide +kernel]
  replace K := K.below hb8
  replace kc := Box.cells K.1
  clear hb8
  go_wp2_with fail
  refine (chroma_any _ _ _).mono ?_
  rintro e w9 ⟨rfl, hb9⟩
  replace K := K.below hb9
  have L : Below _ _ _ := K.2.2.2.2.2.2.2.1
  clear kc K
  go_wp2
  go_ret
  exact ⟨rfl, L⟩
end Go.Proofs.Ytcojphdohpgjnaa
