/- DeblockMean: where nothing is cut off a line's inner samples keep their sum, far ones stay, and turned about they are turned about or one off: proved for every line and every quantiser, no condition. -/
import Derived.Test.YtlkogokhcdehfaaDw4
import Derived.Test.YtlkogokhcdehfaaClose
namespace Go.Kin
theorem ap_comm (a b : Int) : ap a b = ap b a := by unfold ap; omega
theorem lnOff_comm (a b c d q : Int) : lnOff d c b a q = lnOff a b c d q := by
  unfold lnOff
  rw [ap_comm c b, ap_comm d c, ap_comm b a]
  cases decide (q < 0) <;> cases decide (31 < q) <;> cases decide (4 * (q / 2) ≤ ap b c) <;> cases decide (2 * (q / 2) ≤ ap a b) <;> cases decide (2 * (q / 2) ≤ ap c d) <;> rfl
theorem ln_sum {a b c d q : Int} (hb : 0 ≤ b ∧ b ≤ 255) (hc : 0 ≤ c ∧ c ≤ 255) : ln1 a b c d q = 0 ∨ ln1 a b c d q = 255 ∨ ln2 a b c d q = 0 ∨ ln2 a b c d q = 255 ∨ ln1 a b c d q + ln2 a b c d q = b + c := by
  cases h : lnOff a b c d q with
  | true => obtain ⟨h1, h2⟩ := ln_off h; omega
  | false => obtain ⟨h1, h2⟩ := ln_on h; rw [h1, h2]; unfold clipI; omega
theorem ln_turn {a b c d q : Int} : ln1 d c b a q - ln2 a b c d q ≤ 1 ∧ ln2 a b c d q - ln1 d c b a q ≤ 1 ∧ ln2 d c b a q - ln1 a b c d q ≤ 1 ∧ ln1 a b c d q - ln2 d c b a q ≤ 1 := by
  cases h : lnOff a b c d q with
  | true =>
    obtain ⟨h1, h2⟩ := ln_off h
    obtain ⟨h3, h4⟩ := ln_off ((lnOff_comm a b c d q).trans h)
    omega
  | false =>
    obtain ⟨h1, h2⟩ := ln_on h
    obtain ⟨h3, h4⟩ := ln_on ((lnOff_comm a b c d q).trans h)
    have hq : 0 ≤ q := by simp [lnOff] at h; omega
    rw [h1, h2, h3, h4]
    unfold clipI lnM
    omega
end Go.Kin
namespace Go.Proofs.Ytlkogokhcdehfaa
open Go.ChangeShapes Go.WideShapes Go.ChangeAt Go.RowKit Go.Joins Go.Kin
set_option linter.unusedVariables false

namespace DeblockMean
theorem cases5 {B C b c : Int} (h : B = 0 ∨ B = 255 ∨ C = 0 ∨ C = 255 ∨ B + C = b + c) :
    ((B != 0) = false) ∨ ((B != 0) = true ∧ (B != 255) = false) ∨ ((B != 0) = true ∧ (B != 255) = true ∧ (C != 0) = false) ∨ ((B != 0) = true ∧ (B != 255) = true ∧ (C != 0) = true ∧ (C != 255) = false) ∨
      ((B != 0) = true ∧ (B != 255) = true ∧ (C != 0) = true ∧ (C != 255) = true ∧ (B + C != b + c) = false) := by
  by_cases h1 : B = 0
  · left; simp [h1]
  · by_cases h2 : B = 255
    · right; left; simp [h2]
    · by_cases h3 : C = 0
      · right; right; left; simp [h1, h2, h3]
      · by_cases h4 : C = 255
        · right; right; right; left; simp [h1, h2, h4]
        · right; right; right; right
          have h5 : B + C = b + c := by omega
          simp [h1, h2, h3, h4, h5]

set_option maxHeartbeats 1000000 in
theorem rest (w : World) (a b c d B C X Y q : Int)
    (L1 : Hid (∀ w, Calls Try.prog 15 #[.int .u8 a, .int .u8 b, .int .u8 c, .int .u8 d, .int .i64 q] w fun e w' => e = .returned (.tuple #[.int .u8 B, .int .u8 C]) ∧ w = w'))
    (L2 : Hid (∀ w, Calls Try.prog 15 #[.int .u8 d, .int .u8 c, .int .u8 b, .int .u8 a, .int .i64 q] w fun e w' => e = .returned (.tuple #[.int .u8 X, .int .u8 Y]) ∧ w = w'))
    (hT : (q ≤ 31 ∧ decide (4 * (max q 0 / 2) ≤ max b c - min b c) = false) ∨ decide (q ≤ 31) = false)
    (k1 : 0 ≤ B) (k2 : B ≤ 255) (k3 : 0 ≤ C) (k4 : C ≤ 255) (k5 : 0 ≤ X) (k6 : X ≤ 255) (k7 : 0 ≤ Y) (k8 : Y ≤ 255) (hb0 : 0 ≤ b) (hb1 : b ≤ 255) (hc0 : 0 ≤ c) (hc1 : c ≤ 255)
    (wq0 : -9223372036854775808 ≤ q) (wq1 : q ≤ 9223372036854775807) (hsum : B = 0 ∨ B = 255 ∨ C = 0 ∨ C = 255 ∨ B + C = b + c) (t1 : X - C ≤ 1) (t2 : C - X ≤ 1) (t3 : Y - B ≤ 1) (t4 : B - Y ≤ 1) :
    Calls Try.prog 5 #[.agg #[.int .u8 a, .int .u8 b, .int .u8 c, .int .u8 d], .int .i64 q] w fun e w' => e = .returned (.bool true) ∧ Below w.heap.size w w' := by
  have u1 : max X C - min X C ≤ 1 := by omega
  have u2 : max Y B - min Y B ≤ 1 := by omega
  have h5 := cases5 hsum
  clear hsum t1 t2 t3 t4
  rcases hT with ⟨T2, D1⟩ | D2
  all_goals rcases h5 with g1 | ⟨g1, g2⟩ | ⟨g1, g2, g3⟩ | ⟨g1, g2, g3, g4⟩ | ⟨g1, g2, g3, g4, g5⟩
  all_goals go_enter Try.func5, Try.ntmps5
  all_goals go_wp2_with fail
  all_goals refine (L1.out _).mono ?_
  all_goals rintro e w' ⟨rfl, rfl⟩
  all_goals go_wp2_with fail
  all_goals refine (L2.out _).mono ?_
  all_goals rintro e w' ⟨rfl, rfl⟩
  all_goals go_wp2_with (go_at_call 17; refine (alive11 _).mono ?_; rintro e w' ⟨rfl, hb1⟩)
  all_goals go_ret
  all_goals exact ⟨rfl, ((Below.refl _ _).alloc (Nat.le_refl _) _).trans (hb1.mono (by simp))⟩

set_option maxHeartbeats 1000000 in
theorem walk (w : World) (a b c d : Int) (ha : 0 ≤ a ∧ a ≤ 255) (hb : 0 ≤ b ∧ b ≤ 255) (hc : 0 ≤ c ∧ c ≤ 255) (hd : 0 ≤ d ∧ d ≤ 255) (q : Int) (wq : I64 q) :
    Calls Try.prog 5 #[.agg #[.int .u8 a, .int .u8 b, .int .u8 c, .int .u8 d], .int .i64 q] w fun e w' => e = .returned (.bool true) ∧ Below w.heap.size w w' := by
  have hsum := ln_sum (a := a) (d := d) (q := q) hb hc
  have hturn := ln_turn (a := a) (b := b) (c := c) (d := d) (q := q)
  obtain ⟨t1, t2, t3, t4⟩ := hturn
  obtain ⟨k1, k2⟩ := ln1_bd (a := a) (c := c) (d := d) (q := q) hb
  obtain ⟨k3, k4⟩ := ln2_bd (a := a) (b := b) (d := d) (q := q) hc
  obtain ⟨k5, k6⟩ := ln1_bd (a := d) (c := b) (d := a) (q := q) hc
  obtain ⟨k7, k8⟩ := ln2_bd (a := d) (b := c) (d := a) (q := q) hb
  have L1 := Lib.hid (fun w => line_any a b c d q ha hb hc hd w)
  have L2 := Lib.hid (fun w => line_any d c b a q hd hc hb ha w)
  have hoff : (q < 0 ∨ (q ≤ 31 ∧ 4 * (q / 2) ≤ max b c - min b c)) → ln1 a b c d q = b ∧ ln2 a b c d q = c := by
    intro h
    refine ln_off ?_
    have : ap b c = max b c - min b c := rfl
    simp only [lnOff, Bool.or_eq_true, decide_eq_true_eq]
    omega
  have HO := Lib.hid hoff
  clear hoff
  obtain ⟨hb0, hb1⟩ := hb
  obtain ⟨hc0, hc1⟩ := hc
  obtain ⟨wq0, wq1⟩ := wq
  clear ha hd
  generalize ln1 a b c d q = B at *
  generalize ln2 a b c d q = C at *
  generalize ln1 d c b a q = X at *
  generalize ln2 d c b a q = Y at *
  by_cases T2 : q ≤ 31
  · by_cases T1 : 4 * (max q 0 / 2) ≤ max b c - min b c
    · obtain ⟨rfl, rfl⟩ := HO.out (by omega)
      clear HO hsum t1 t2 t3 t4 L2
      go_enter Try.func5, Try.ntmps5
      go_wp2_with (first | (go_at_call 15; refine (L1.out _).mono ?_; rintro e w' ⟨rfl, rfl⟩) | (go_at_call 17; refine (alive11 _).mono ?_; rintro e w' ⟨rfl, hb1⟩; have g1 : w'.cell? ⟨w.heap.size, 1, none⟩ = some (.int .u8 B) := ((Box.new w _ _).below hb1 (by simp)).cell 1; have g2 : w'.cell? ⟨w.heap.size, 2, none⟩ = some (.int .u8 C) := ((Box.new w _ _).below hb1 (by simp)).cell 2))
      go_ret
      exact ⟨rfl, ((Below.refl _ _).alloc (Nat.le_refl _) _).trans (hb1.mono (by simp))⟩
    · have D1 : decide (4 * (max q 0 / 2) ≤ max b c - min b c) = false := by simpa using T1
      exact rest w a b c d B C X Y q L1 L2 (.inl ⟨T2, D1⟩) k1 k2 k3 k4 k5 k6 k7 k8 hb0 hb1 hc0 hc1 wq0 wq1 hsum t1 t2 t3 t4
  · have D2 : decide (q ≤ 31) = false := by simpa using T2
    exact rest w a b c d B C X Y q L1 L2 (.inr D2) k1 k2 k3 k4 k5 k6 k7 k8 hb0 hb1 hc0 hc1 wq0 wq1 hsum t1 t2 t3 t4
end DeblockMean
namespace DeblockMean
set_option maxRecDepth 100000 in
theorem lifted (os : Os) (started : os.Started) (H : Type) (enc : TypeId × Value → H) :
    ReturnsInHanded {} Try.checked os 5 .any (Rows.deblockMeanSpec.pre6 enc Try.prog Try.f5 Rows.deblockMeanRow.domain false) (Rows.deblockMeanSpec.post enc Try.prog Try.f5 false true false false) := by
  refine returnsInHanded_of_change (C := Try.checked) own started (by kernel_rfl) Try.func5
    (ChangeSpec.witness6 (enc := enc) (C := Try.checked) false ⟨#[], #[.agg #[.int .u8 0, .int .u8 0, .int .u8 0, .int .u8 0], .int .i64 0], []⟩ 8 (by kernel_rfl) (by kernel_rfl) (by kernel_rfl) (by kernel_rfl)) ?_
  intro W base args ds gs before hval0 hW hcnd _
  have hval : ∀ (j : Nat) t v, Try.f5.params[j]? = some t → args[j]? = some v → Value.okWide Try.prog W .any base t v := hval0
  refine law_post (tb := 4) laidOut (by kernel_rfl) rfl Try.underlying4 rfl (fun ds' h => ?_) hW ?_
  · rw [Try.params5] at h
    match ds', h with
    | [d1, d2], _ => exact ⟨rfl, rfl, rfl⟩
  obtain ⟨p, q, hA0, hV, rfl, hfz, hnd⟩ := hW
  have hA : DataW.TrodAll enc Try.prog W 0 (fun _ => true) true Try.f5.params.toList args.toList ds p := hA0
  rw [Try.params5] at hA hval
  obtain ⟨v0, vs0, d0, ds0, p0, q0, hargs, rfl, rfl, h0, r0⟩ := trodAll_cons hA
  obtain ⟨v1, vs1, d1, ds1, p1, q1, rfl, rfl, rfl, h1, r1⟩ := trodAll_cons r0
  obtain ⟨rfl, rfl, rfl⟩ := trodAll_nil r1
  obtain rfl : args = #[v0, v1] := by cases args; simp_all
  obtain ⟨a0, b0, c0, d0, rfl, w0, x0, y0, z0⟩ := open_arr4_u8 Try.underlying22 Try.underlying5 (by kernel_rfl) (by kernel_rfl) (hval 0 22 v0 rfl rfl) h0
  obtain ⟨a1, rfl, rfl, rfl, w1⟩ := open_int Try.underlying3 (hval 1 3 v1 rfl rfl) h1
  exact walk W a0 b0 c0 d0 w0 x0 y0 z0 a1 (bounds_i64 w1)
theorem over : Rows.deblockMeanRow.holds Try.pinned (OpenSpec.ofChange Rows.deblockMeanSpec) :=
  OpenClaim.holds_of_wide 5 Try.f5 rfl rfl rfl rfl rfl rfl rfl ⟨rfl, rfl, rfl, rfl, rfl⟩ rfl rfl rfl rfl rfl (by kernel_rfl) Try.func5 (by kernel_rfl)
    (of_decide_eq_true (by kernel_rfl)) (by unfold Func.isWrapper; first | (rw [if_pos (by decide +kernel)]; kernel_rfl) | (rw [if_neg (by decide +kernel)]; exact ⟨rfl, rfl⟩))
    (fun os started H enc _ => lifted os started H enc)
end DeblockMean
theorem deblockMean_holds : Rows.DeblockMeanSaid := DeblockMean.over

end Go.Proofs.Ytlkogokhcdehfaa
