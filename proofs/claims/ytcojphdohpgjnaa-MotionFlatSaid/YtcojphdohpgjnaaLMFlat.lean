/- MotionFlat: in a plane of one sample every sample at every half place is that one; far outside, left and right, in whole rows, a sample is that of the edge: proved for every plane, place and sample, no condition. -/
import Derived.Test.YtcojphdohpgjnaaAl10
import Derived.Test.YtcojphdohpgjnaaFt
import Derived.Test.YtcojphdohpgjnaaClose
namespace Go.Kin
theorem half6_flat {l : Nat → Int} {v : Int} (hv : 0 ≤ v ∧ v ≤ 255) (h : ∀ i, i < 6 → l i = v) : half6 l = v := by
  unfold half6
  rw [h 0 (by omega), h 1 (by omega), h 2 (by omega), h 3 (by omega), h 4 (by omega), h 5 (by omega)]
  omega
theorem samp_flat {W H v x y : Int} (hv : 0 ≤ v ∧ v ≤ 255) : sampP W H (fun _ => v) x y = v := by
  have e1 : ∀ a b, acrP W H (fun _ => v) a b = v := fun a b => half6_flat hv (fun _ _ => rfl)
  have e2 : ∀ a b, dwnP W H (fun _ => v) a b = v := fun a b => half6_flat hv (fun _ _ => rfl)
  unfold sampP
  rw [e1, e1, e2]
  split
  · split <;> rfl
  · split
    · rfl
    · omega
theorem atP_left {W H a b : Int} {g : Nat → Int} (hW : 1 ≤ W) (ha : a ≤ 0) : atP W H g a b = atP W H g 0 b := by
  unfold atP
  rw [show min (max a 0) (W - 1) = min (max 0 0) (W - 1) by omega]
theorem atP_right {W H a b : Int} {g : Nat → Int} (hW : 1 ≤ W) (ha : W - 1 ≤ a) : atP W H g a b = atP W H g (W - 1) b := by
  unfold atP
  rw [show min (max a 0) (W - 1) = min (max (W - 1) 0) (W - 1) by omega]
theorem samp_left {W H x y : Int} {g : Nat → Int} (hg : Byt g) (hW : 1 ≤ W) (hx : x ≤ -10) (hy : y % 2 = 0) : sampP W H g x y = atP W H g 0 (y / 2) := by
  unfold sampP
  rw [if_pos hy, if_pos hy]
  split
  · exact atP_left hW (by omega)
  · exact half6_flat (hg _) (fun i hi => atP_left hW (by omega))
theorem samp_right {W H x y : Int} {g : Nat → Int} (hg : Byt g) (hW : 1 ≤ W) (hx : 2 * W + 4 ≤ x) (hy : y % 2 = 0) : sampP W H g x y = atP W H g (W - 1) (y / 2) := by
  unfold sampP
  rw [if_pos hy, if_pos hy]
  split
  · exact atP_right hW (by omega)
  · exact half6_flat (hg _) (fun i hi => atP_right hW (by omega))
theorem even_of (z : Int) : (z - z.tmod 2) % 2 = 0 ∧ z - 1 ≤ z - z.tmod 2 ∧ z - z.tmod 2 ≤ z + 1 := by rcases tmod2_abs z with h | h <;> omega
end Go.Kin
namespace Go.Proofs.Ytcojphdohpgjnaa
open Go.ChangeShapes Go.WideShapes Go.ChangeAt Go.RowKit Go.Joins Go.Kin
set_option linter.unusedVariables false

namespace MotionFlat
set_option maxRecDepth 100000 in
set_option maxHeartbeats 2000000 in
theorem walk_no (w : World) (p : PlV) (x y v : Int) (h : fitB p.n = false ∨ (fitB p.n = true ∧ rightB p.a p.b p.n = false) ∨ (fitB p.n = true ∧ rightB p.a p.b p.n = true ∧ ¬ (-1099511627776 ≤ x ∧ x ≤ 1099511627776 ∧ -1099511627776 ≤ y ∧ y ≤ 1099511627776))) :
    Calls Try.prog 11 #[.agg #[.int .i64 p.a, .int .i64 p.b, .slice p.A p.n p.c], .agg #[.int .i64 x, .int .i64 y], .int .u8 v] w fun e w' => e = .returned (.bool true) ∧ Below w.heap.size w w' := by
  have K := Kn.start w
  rcases h with h1 | ⟨h1, h2⟩ | ⟨h1, h2, h3⟩
  · go_enter Try.func11, Try.ntmps11
    go_wp2_with fail
    refine (fits_any _ _ _ _ _ _).mono ?_
    rintro e w1 ⟨rfl, hb1⟩
    replace K := ((K.new w.heap.size _ _ rfl).new (w.heap.size + 1) _ _ (by simp)).below hb1
    clear hb1
    replace kc0 := Box.cells K.1
    replace kl0 := Box.lt K.1
    replace kc1 := Box.cells K.2.1
    replace kl1 := Box.lt K.2.1
    replace L : Below _ _ _ := K.2.2.1
    go_wp2_with fail
    refine (alive10 _).mono ?_
    rintro e w2 ⟨rfl, hb2⟩
    replace K := K.below hb2
    clear hb2
    replace kc0 := Box.cells K.1
    replace kl0 := Box.lt K.1
    replace kc1 := Box.cells K.2.1
    replace kl1 := Box.lt K.2.1
    replace L : Below _ _ _ := K.2.2.1
    go_wp2
    go_ret
    exact ⟨rfl, L⟩
  · go_enter Try.func11, Try.ntmps11
    go_wp2_with fail
    refine (fits_any _ _ _ _ _ _).mono ?_
    rintro e w1 ⟨rfl, hb1⟩
    replace K := ((K.new w.heap.size _ _ rfl).new (w.heap.size + 1) _ _ (by simp)).below hb1
    clear hb1
    replace kc0 := Box.cells K.1
    replace kl0 := Box.lt K.1
    replace kc1 := Box.cells K.2.1
    replace kl1 := Box.lt K.2.1
    replace L : Below _ _ _ := K.2.2.1
    go_wp2_with fail
    refine (right_any _ _ _ _ _ _).mono ?_
    rintro e w2 ⟨rfl, hb2⟩
    replace K := K.below hb2
    clear hb2
    replace kc0 := Box.cells K.1
    replace kl0 := Box.lt K.1
    replace kc1 := Box.cells K.2.1
    replace kl1 := Box.lt K.2.1
    replace L : Below _ _ _ := K.2.2.1
    go_wp2_with fail
    refine (alive10 _).mono ?_
    rintro e w3 ⟨rfl, hb3⟩
    replace K := K.below hb3
    clear hb3
    replace kc0 := Box.cells K.1
    replace kl0 := Box.lt K.1
    replace kc1 := Box.cells K.2.1
    replace kl1 := Box.lt K.2.1
    replace L : Below _ _ _ := K.2.2.1
    go_wp2
    go_ret
    exact ⟨rfl, L⟩
  · have HH := Lib.hid h3
    clear h3
    go_enter Try.func11, Try.ntmps11
    go_wp2_with fail
    refine (fits_any _ _ _ _ _ _).mono ?_
    rintro e w1 ⟨rfl, hb1⟩
    replace K := ((K.new w.heap.size _ _ rfl).new (w.heap.size + 1) _ _ (by simp)).below hb1
    clear hb1
    replace kc0 := Box.cells K.1
    replace kl0 := Box.lt K.1
    replace kc1 := Box.cells K.2.1
    replace kl1 := Box.lt K.2.1
    replace L : Below _ _ _ := K.2.2.1
    go_wp2_with fail
    refine (right_any _ _ _ _ _ _).mono ?_
    rintro e w2 ⟨rfl, hb2⟩
    replace K := K.below hb2
    clear hb2
    replace kc0 := Box.cells K.1
    replace kl0 := Box.lt K.1
    replace kc1 := Box.cells K.2.1
    replace kl1 := Box.lt K.2.1
    replace L : Below _ _ _ := K.2.2.1
    have HK := Lib.hid K
    clear K
    have c4 : x < -1099511627776 ∨ (¬ x < -1099511627776 ∧ 1099511627776 < x) ∨ (¬ x < -1099511627776 ∧ ¬ 1099511627776 < x ∧ y < -1099511627776) ∨ (¬ x < -1099511627776 ∧ ¬ 1099511627776 < x ∧ ¬ y < -1099511627776 ∧ 1099511627776 < y) := by have := HH.out; omega
    clear HH
    rcases c4 with c1 | ⟨c1, c2⟩ | ⟨c1, c2, c3⟩ | ⟨c1, c2, c3, c4⟩
    all_goals go_wp2_with fail
    all_goals refine (alive10 _).mono ?_
    all_goals rintro e w3 ⟨rfl, hb3⟩
    all_goals have K := HK.out.below hb3
    all_goals go_wp2
    all_goals go_ret
    all_goals exact ⟨rfl, K.2.2.1⟩
set_option maxRecDepth 100000 in
set_option maxHeartbeats 2000000 in
theorem walk_yes (w : World) (p : PlV) (x y v : Int) (hp : p.Ok w) (hv : 0 ≤ v ∧ v ≤ 255) (h1 : fitB p.n = true) (hr : rightB p.a p.b p.n = true) (x1 : ¬ x < -1099511627776) (x2 : ¬ 1099511627776 < x) (y1 : ¬ y < -1099511627776) (y2 : ¬ 1099511627776 < y) :
    Calls Try.prog 11 #[.agg #[.int .i64 p.a, .int .i64 p.b, .slice p.A p.n p.c], .agg #[.int .i64 x, .int .i64 y], .int .u8 v] w fun e w' => e = .returned (.bool true) ∧ Below w.heap.size w w' := by
  obtain ⟨W, H, A, N, c, g⟩ := p
  obtain ⟨ia, ib, hR, hg, hnc, hc⟩ := hp
  dsimp only at *
  obtain ⟨r1, r2, r3, r4, r5⟩ := rightB_iff.1 hr
  have HS : Hid (sidesB W H = true ∧ W * H = (N : Int)) := Lib.hid ⟨sidesB_iff.2 ⟨r1, r2, r3, r4⟩, r5.symm⟩
  clear r5
  obtain ⟨e1, e2, e3⟩ := even_of y
  have HF := Lib.hid (samp_flat (W := W) (H := H) (x := x) (y := y) hv)
  have HL1 := Lib.hid (samp_left (W := W) (H := H) (x := -20) hg r1 (by omega) e1)
  have HL2 := Lib.hid (samp_left (W := W) (H := H) (x := -19) hg r1 (by omega) e1)
  have HR1 := Lib.hid (samp_right (W := W) (H := H) (x := 2 * W + 20) hg r1 (by omega) e1)
  have HR2 := Lib.hid (samp_right (W := W) (H := H) (x := 2 * W + 20 + 1) hg r1 (by omega) e1)
  have HR3 := Lib.hid (samp_right (W := W) (H := H) (x := 2 * W + 20 + 40) hg r1 (by omega) e1)
  clear e1
  have K := (Kn.start w).add (x := .rd A N (by8 g)) hR
  clear hR
  go_enter Try.func11, Try.ntmps11
  go_wp2_with fail
  refine (fits_any _ _ _ _ _ _).mono ?_
  rintro e w1 ⟨rfl, hb1⟩
  replace K := ((K.new w.heap.size _ _ rfl).new (w.heap.size + 1) _ _ (by simp)).below hb1
  clear hb1
  replace kc0 := Box.cells K.1
  replace kl0 := Box.lt K.1
  replace kc1 := Box.cells K.2.1
  replace kl1 := Box.lt K.2.1
  replace L : Below _ _ _ := K.2.2.2.1
  go_wp2_with fail
  refine (right_any _ _ _ _ _ _).mono ?_
  rintro e w2 ⟨rfl, hb2⟩
  replace K := K.below hb2
  clear hb2
  replace kc0 := Box.cells K.1
  replace kl0 := Box.lt K.1
  replace kc1 := Box.cells K.2.1
  replace kl1 := Box.lt K.2.1
  replace L : Below _ _ _ := K.2.2.2.1
  go_wp2_with fail
  refine (new_yes W H v N _ HS.out.1 HS.out.2).mono ?_
  rintro e w3 ⟨b3, rfl, hb3', R3, hb3⟩
  replace K := K.below hb3
  clear hb3
  replace kc0 := Box.cells K.1
  replace kl0 := Box.lt K.1
  replace kc1 := Box.cells K.2.1
  replace kl1 := Box.lt K.2.1
  replace L : Below _ _ _ := K.2.2.2.1
  replace K := K.add (x := .row b3 N (by8 fun _ => v)) R3
  clear R3 hb3'
  go_upto_region 5 with (fail)
  replace K := K.new w3.heap.size #[.int .i64 W, .int .i64 H, .slice (some ⟨b3, 0, none⟩) N N] 24 rfl
  generalize w3.alloc (.cells #[.int .i64 W, .int .i64 H, .slice (some ⟨b3, 0, none⟩) N N] 24) = w4 at K ⊢
  clear kc0 kl0 kc1 kl1 L
  replace kc0 := Box.cells K.1
  replace kl0 := Box.lt K.1
  replace kc2 := Box.cells K.2.2.1
  replace kl2 := Box.lt K.2.2.1
  replace kc3 := Box.cells K.2.2.2.1
  replace kl3 := Box.lt K.2.2.2.1
  replace L : Below _ _ _ := K.2.2.2.2.2.1
  go_wp2_with fail
  refine (msample_yes W H _ N N (fun _ => v) x y _ hr (Row.rd K.2.1) (fun _ => hv) (by omega) (by omega)).mono ?_
  rintro e w5 ⟨rfl, hb5⟩
  replace K := K.below hb5
  clear hb5
  replace kc2 := Box.cells K.2.2.1
  replace kl2 := Box.lt K.2.2.1
  replace kc3 := Box.cells K.2.2.2.1
  replace kl3 := Box.lt K.2.2.2.1
  replace L : Below _ _ _ := K.2.2.2.2.2.1
  rw [HF.out]
  have hyy : -1099511627777 ≤ y - y.tmod 2 ∧ y - y.tmod 2 ≤ 1099511627777 := by omega
  generalize hY : y - y.tmod 2 = Y at *
  have HY := Lib.hid hY
  have hYm : -1 ≤ y.tmod 2 ∧ y.tmod 2 ≤ 1 := by omega
  clear e2 e3
  go_wp2_with fail
  refine (msample_yes W H A N c g (-20) Y _ hr K.2.2.2.2.1 hg (by omega) (by omega)).mono ?_
  rintro e w6 ⟨rfl, hb6⟩
  replace K := K.below hb6
  clear hb6
  replace kc2 := Box.cells K.2.2.1
  replace kl2 := Box.lt K.2.2.1
  replace kc3 := Box.cells K.2.2.2.1
  replace kl3 := Box.lt K.2.2.2.1
  replace L : Below _ _ _ := K.2.2.2.2.2.1
  rw [HL1.out]
  go_wp2_with fail
  refine (msample_yes W H A N c g (2 * W + 20) Y _ hr K.2.2.2.2.1 hg (by omega) (by omega)).mono ?_
  rintro e w7 ⟨rfl, hb7⟩
  replace K := K.below hb7
  clear hb7
  replace kc2 := Box.cells K.2.2.1
  replace kl2 := Box.lt K.2.2.1
  replace kc3 := Box.cells K.2.2.2.1
  replace kl3 := Box.lt K.2.2.2.1
  replace L : Below _ _ _ := K.2.2.2.2.2.1
  rw [HR1.out]
  go_wp2_with fail
  refine (alive10 _).mono ?_
  rintro e w8 ⟨rfl, hb8⟩
  replace K := K.below hb8
  clear hb8
  replace kc2 := Box.cells K.2.2.1
  replace kl2 := Box.lt K.2.2.1
  replace kc3 := Box.cells K.2.2.2.1
  replace kl3 := Box.lt K.2.2.2.1
  replace L : Below _ _ _ := K.2.2.2.2.2.1
  go_wp2_with fail
  refine (msample_yes W H A N c g (-19) Y _ hr K.2.2.2.2.1 hg (by omega) (by omega)).mono ?_
  rintro e w9 ⟨rfl, hb9⟩
  replace K := K.below hb9
  clear hb9
  replace kc2 := Box.cells K.2.2.1
  replace kl2 := Box.lt K.2.2.1
  replace kc3 := Box.cells K.2.2.2.1
  replace kl3 := Box.lt K.2.2.2.1
  replace L : Below _ _ _ := K.2.2.2.2.2.1
  rw [HL2.out]
  go_wp2_with fail
  refine (msample_yes W H A N c g (2 * W + 20 + 1) Y _ hr K.2.2.2.2.1 hg (by omega) (by omega)).mono ?_
  rintro e w10 ⟨rfl, hb10⟩
  replace K := K.below hb10
  clear hb10
  replace kc2 := Box.cells K.2.2.1
  replace kl2 := Box.lt K.2.2.1
  replace kc3 := Box.cells K.2.2.2.1
  replace kl3 := Box.lt K.2.2.2.1
  replace L : Below _ _ _ := K.2.2.2.2.2.1
  rw [HR2.out]
  go_wp2_with fail
  refine (msample_yes W H A N c g (2 * W + 20 + 40) Y _ hr K.2.2.2.2.1 hg (by omega) (by omega)).mono ?_
  rintro e w11 ⟨rfl, hb11⟩
  replace K := K.below hb11
  clear hb11
  replace kc2 := Box.cells K.2.2.1
  replace kl2 := Box.lt K.2.2.1
  replace kc3 := Box.cells K.2.2.2.1
  replace kl3 := Box.lt K.2.2.2.1
  replace L : Below _ _ _ := K.2.2.2.2.2.1
  rw [HR3.out]
  go_wp2
  go_ret
  exact ⟨rfl, L⟩
theorem walk (w : World) (a b : Int) (A : Option Addr) (N c : Nat) (g : Nat → Int) (ia : I64 a) (ib : I64 b) (hR : Rd w A N (by8 g)) (hg : Byt g) (hnc : N ≤ c) (hc : c ≤ 9223372036854775807) (x y : Int) (ix : I64 x) (iy : I64 y) (v : Int) (hv : 0 ≤ v ∧ v ≤ 255) :
    Calls Try.prog 11 #[.agg #[.int .i64 a, .int .i64 b, .slice A N c], .agg #[.int .i64 x, .int .i64 y], .int .u8 v] w fun e w' => e = .returned (.bool true) ∧ Below w.heap.size w w' := by
  cases h1 : fitB N with
  | false => exact walk_no w ⟨a, b, A, N, c, g⟩ x y v (.inl h1)
  | true =>
    cases hr : rightB a b N with
    | false => exact walk_no w ⟨a, b, A, N, c, g⟩ x y v (.inr (.inl ⟨h1, hr⟩))
    | true =>
      by_cases h : -1099511627776 ≤ x ∧ x ≤ 1099511627776 ∧ -1099511627776 ≤ y ∧ y ≤ 1099511627776
      · exact walk_yes w ⟨a, b, A, N, c, g⟩ x y v ⟨ia, ib, hR, hg, hnc, hc⟩ hv h1 hr (by omega) (by omega) (by omega) (by omega)
      · exact walk_no w ⟨a, b, A, N, c, g⟩ x y v (.inr (.inr ⟨h1, hr, h⟩))
end MotionFlat
namespace MotionFlat
set_option maxRecDepth 100000 in
theorem lifted (os : Os) (started : os.Started) (H : Type) (enc : TypeId × Value → H) :
    ReturnsInHanded {} Try.checked os 11 .any (Rows.motionFlatSpec.pre6 enc Try.prog Try.f11 Rows.motionFlatRow.domain false) (Rows.motionFlatSpec.post enc Try.prog Try.f11 false true false false) := by
  refine returnsInHanded_of_change (C := Try.checked) own started (by kernel_rfl) Try.func11
    (ChangeSpec.witness6 (enc := enc) (C := Try.checked) false ⟨#[], #[.agg #[.int .i64 0, .int .i64 0, .slice none 0 0], .agg #[.int .i64 0, .int .i64 0], .int .u8 0], []⟩ 8 (by kernel_rfl) (by kernel_rfl) (by kernel_rfl) (by kernel_rfl)) ?_
  intro W base args ds gs before hval0 hW hcnd _
  have hval : ∀ (j : Nat) t v, Try.f11.params[j]? = some t → args[j]? = some v → Value.okWide Try.prog W .any base t v := hval0
  refine law_post (tb := 4) laidOut (by kernel_rfl) rfl Try.underlying4 rfl (fun ds' h => ?_) hW ?_
  · rw [Try.params11] at h
    match ds', h with
    | [d1, d2, d3], _ => exact ⟨rfl, rfl, rfl⟩
  obtain ⟨p, q, hA0, hV, rfl, hfz, hnd⟩ := hW
  have hA : DataW.TrodAll enc Try.prog W 0 (fun _ => true) true Try.f11.params.toList args.toList ds p := hA0
  rw [Try.params11] at hA hval
  obtain ⟨v0, vs0, d0, ds0, p0, q0, hargs, rfl, rfl, h0, r0⟩ := trodAll_cons hA
  obtain ⟨v1, vs1, d1, ds1, p1, q1, rfl, rfl, rfl, h1, r1⟩ := trodAll_cons r0
  obtain ⟨v2, vs2, d2, ds2, p2, q2, rfl, rfl, rfl, h2, r2⟩ := trodAll_cons r1
  obtain ⟨rfl, rfl, rfl⟩ := trodAll_nil r2
  obtain rfl : args = #[v0, v1, v2] := by cases args; simp_all
  obtain ⟨a0, b0, A0, n0, c0, g0, rfl, w0, x0, rr0, t0, l0, m0⟩ := open_plane Try.underlying24 (by kernel_rfl) ⟨rfl, rfl⟩ ⟨rfl, rfl⟩ ⟨rfl, rfl⟩ Try.underlying3 Try.underlying22 Try.underlying5 (by kernel_rfl) (by kernel_rfl) (by kernel_rfl) (hval 0 24 v0 rfl rfl) h0
  obtain ⟨a1, b1, rfl, w1, x1⟩ := open_arr2 Try.underlying25 Try.underlying3 (by kernel_rfl) (by kernel_rfl) (hval 1 25 v1 rfl rfl) h1
  obtain ⟨a2, rfl, rfl, rfl, w2⟩ := open_int Try.underlying5 (hval 2 5 v2 rfl rfl) h2
  exact walk W a0 b0 A0 n0 c0 g0 w0 x0 rr0 t0 l0 m0 a1 b1 w1 x1 a2 (bounds_u8 w2)
theorem over : Rows.motionFlatRow.holds Try.pinned (OpenSpec.ofChange Rows.motionFlatSpec) :=
  OpenClaim.holds_of_wide 11 Try.f11 rfl rfl rfl rfl rfl rfl rfl ⟨rfl, rfl, rfl, rfl, rfl⟩ rfl rfl rfl rfl rfl (by kernel_rfl) Try.func11 (by kernel_rfl)
    (of_decide_eq_true (by kernel_rfl)) (by unfold Func.isWrapper; first | (rw [if_pos (by decide +kernel)]; kernel_rfl) | (rw [if_neg (by decide +kernel)]; exact ⟨rfl, rfl⟩))
    (fun os started H enc _ => lifted os started H enc)
end MotionFlat
theorem motionFlat_holds : Rows.MotionFlatSaid := MotionFlat.over

end Go.Proofs.Ytcojphdohpgjnaa
