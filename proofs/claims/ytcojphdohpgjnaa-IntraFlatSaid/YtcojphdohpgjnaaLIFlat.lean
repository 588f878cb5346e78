/- IntraFlat: in a plane of one sample every mode of a block that has something above and left is that sample; on the plane's edge 128 stands for what is not there: proved for every sample and place, no condition. -/
import Derived.Test.YtcojphdohpgjnaaAl9
import Derived.Test.YtcojphdohpgjnaaClose
namespace Go.Kin
/-- What is wanted of a mode. -/
def wantV (v : Int) (X Y m : Nat) : Int := if (m = 1 ∧ Y = 0) ∨ (m = 2 ∧ X = 0) then 128 else v
theorem flS_flat {v n : Int} {ab lf : Nat → Int} : ∀ k, (∀ i, i < k → ab i = v ∧ lf i = v) → flS n ab lf k = n + 2 * v * k
  | 0, _ => by simp [flS]
  | k + 1, h => by
    simp only [flS]
    rw [flS_flat k (fun i hi => h i (by omega)), (h k (by omega)).1, (h k (by omega)).2]
    push_cast
    rw [Int.mul_add]
    omega
theorem gs_flat {v : Int} {X Y m k : Nat} (hv : 0 ≤ v ∧ v ≤ 255) (hk : k < 64) (hm : m < 4) (h : m = 1 ∨ m = 2 ∨ (0 < X ∧ 0 < Y)) : gsP 24 (fun _ => v) X Y 8 m k = wantV v X Y m := by
  have h1 : k % 8 < 8 := Nat.mod_lt _ (by omega)
  have h2 : k / 8 < 8 := by omega
  unfold gsP moV wantV
  match m, hm with
  | 0, _ =>
    obtain ⟨x0, y0⟩ : 0 < X ∧ 0 < Y := by omega
    rw [if_pos rfl, if_neg (by omega), flS_flat (v := v) 8 (fun i hi => by simp [abP, lfP, hi, x0, y0])]
    omega
  | 1, _ =>
    rw [if_neg (by omega), if_pos rfl]
    unfold abP
    rw [if_pos h1]
    by_cases y0 : Y = 0
    · rw [if_neg (by omega), if_pos (by omega)]
    · rw [if_pos (by omega), if_neg (by omega)]
  | 2, _ =>
    rw [if_neg (by omega), if_neg (by omega), if_pos rfl]
    unfold lfP
    rw [if_pos h2]
    by_cases x0 : X = 0
    · rw [if_neg (by omega), if_pos (by omega)]
    · rw [if_pos (by omega), if_neg (by omega)]
  | 3, _ =>
    obtain ⟨x0, y0⟩ : 0 < X ∧ 0 < Y := by omega
    rw [if_neg (by omega), if_neg (by omega), if_neg (by omega), if_neg (by omega)]
    unfold abP lfP coP clip8
    rw [if_pos h1, if_pos h2, if_pos y0, if_pos x0, if_pos ⟨x0, y0⟩]
    dsimp only
    omega
end Go.Kin
namespace Go.Proofs.Ytcojphdohpgjnaa
open Go.ChangeShapes Go.WideShapes Go.ChangeAt Go.RowKit Go.Joins Go.Kin
set_option linter.unusedVariables false

namespace IntraFlat
set_option maxRecDepth 100000 in
set_option maxHeartbeats 2000000 in
theorem walk_no (w : World) (v x y : Int) (h : ¬ (0 ≤ x ∧ x ≤ 16 ∧ 0 ≤ y ∧ y ≤ 16)) :
    Calls Try.prog 8 #[.int .u8 v, .agg #[.int .i64 x, .int .i64 y]] w fun e w' => e = .returned (.bool true) ∧ Below w.heap.size w w' := by
  have K := Kn.start w
  have HH := Lib.hid h
  clear h
  go_enter Try.func8, Try.ntmps8
  go_wp2_with fail
  replace K := K.new w.heap.size #[.int .i64 x, .int .i64 y] 25 rfl
  refine (new_yes 24 24 v 576 _ (by decide) (by decide)).mono ?_
  rintro e w1 ⟨b1, rfl, hb1, hr1, hL1⟩
  replace K := K.below hL1
  clear hL1 hr1 hb1
  have kc := Box.cells K.1
  have kl := Box.lt K.1
  go_upto_region 2 with (fail)
  replace K := K.alloc (.cells #[.int .i64 24, .int .i64 24, .slice (some ⟨b1, 0, none⟩) 576 576] 24)
  generalize w1.alloc (.cells #[.int .i64 24, .int .i64 24, .slice (some ⟨b1, 0, none⟩) 576 576] 24) = w2 at K ⊢
  replace kc := Box.cells K.1
  have HK := Lib.hid K
  clear K
  go_wp2_with fail
  all_goals first
    | (go_ret; exact ⟨rfl, HK.out.2.1⟩)
    | (exfalso; have hh := HH.out; omega)
set_option maxRecDepth 100000 in
set_option maxHeartbeats 8000000 in
theorem walk_yes (w : World) (v : Int) (X Y : Nat) (hv : 0 ≤ v ∧ v ≤ 255) (hX : X ≤ 16) (hY : Y ≤ 16) :
    Calls Try.prog 8 #[.int .u8 v, .agg #[.int .i64 X, .int .i64 Y]] w fun e w' => e = .returned (.bool true) ∧ Below w.heap.size w w' := by
  have K := Kn.start w
  have hr : rightB 24 24 576 = true := by decide
  have x0 : ¬ (X : Int) < 0 := by omega
  have y0 : ¬ (Y : Int) < 0 := by omega
  have x1 : ¬ (16 : Int) < X := by omega
  have y1 : ¬ (16 : Int) < Y := by omega
  go_enter Try.func8, Try.ntmps8
  go_wp2_with fail
  replace K := K.new w.heap.size #[.int .i64 X, .int .i64 Y] 25 rfl
  refine (new_yes 24 24 v 576 _ (by decide) (by decide)).mono ?_
  rintro e w1 ⟨b1, rfl, hb1, hr1, hL1⟩
  replace K := (K.below hL1).add (x := .row b1 576 (by8 fun _ => v)) hr1
  clear hL1 hr1 hb1
  have kc := Box.cells K.2.1
  have kl := Box.lt K.2.1
  go_upto_region 2 with (fail)
  replace K := K.new w1.heap.size #[.int .i64 24, .int .i64 24, .slice (some ⟨b1, 0, none⟩) 576 576] 24 rfl
  generalize w1.alloc (.cells #[.int .i64 24, .int .i64 24, .slice (some ⟨b1, 0, none⟩) 576 576] 24) = w2 at K ⊢
  replace kc := Box.cells K.2.2.1
  have HK := Lib.hid K
  clear K kl
  go_wp2_with fail
  clear kc x0 y0 x1 y1
  go_loopw [7] (fun i wr => ∃ m : Nat, m ≤ 4 ∧ i = .int .i64 m ∧ Kn wr [.box w1.heap.size #[.int .i64 24, .int .i64 24, .slice (some ⟨b1, 0, none⟩) 576 576], .row b1 576 (by8 fun _ => v), .box w.heap.size #[.int .i64 X, .int .i64 Y], .since w]) (fun i _ => 4 - (intOf i).toNat)
  case atStart => exact ⟨0, by omega, rfl, HK.out⟩
  case round =>
    obtain ⟨m, hm, rfl, K⟩ := hrel
    clear HK
    by_cases hm4 : m < 4
    · have kc1 := Box.cells K.1
      have kc2 := Box.cells K.2.2.1
      go_wp2_with fail
      refine (guess_yes 24 24 X Y 8 m b1 0 576 576 (fun _ => v) _ hr (Row.rd K.2.1) (Row.lt K.2.1) (by omega) (by omega) (.inr rfl) (by omega) (by omega) hm4 (fun _ => hv)).mono ?_
      rintro e w3 ⟨A3, c3, rfl, R3, _, _, hb3⟩
      replace K := (K.below hb3).add (x := .rd A3 64 (by8 (gsP 24 (fun _ => v) X Y 8 m))) R3
      clear hb3 R3 kc1 kc2
      obtain ⟨b3, o3, rfl, _, _⟩ := Rd.some_ K.1 (by omega)
      have kc := Box.cells K.2.2.2.1
      have HG := Lib.hid (fun k (hk : k < 64) => gs_flat (X := X) (Y := Y) (m := m) hv hk hm4)
      have HK := Lib.hid K
      clear K
      have HM : Hid (m = 1 ∨ m = 2 ∨ (m ≠ 1 ∧ m ≠ 2)) := Lib.hid (by omega)
      have HX : Hid (X = 0 ∨ 0 < X) := Lib.hid (by omega)
      have HY : Hid (Y = 0 ∨ 0 < Y) := Lib.hid (by omega)
      rcases HM.out with hM | hM | hM <;> rcases HX.out with hX0 | hX0 <;> rcases HY.out with hY0 | hY0
      all_goals clear HM HX HY
      all_goals first | have m3 : ((m : Int) == 1) = true := (by simp; omega) | have m3 : ((m : Int) == 1) = false := (by simp; omega)
      all_goals first | have m4 : ((m : Int) == 2) = true := (by simp; omega) | have m4 : ((m : Int) == 2) = false := (by simp; omega)
      all_goals first | have m5 : ((m : Int) != 1) = true := (by simp; omega) | have m5 : ((m : Int) != 1) = false := (by simp; omega)
      all_goals first | have m6 : ((m : Int) != 2) = true := (by simp; omega) | have m6 : ((m : Int) != 2) = false := (by simp; omega)
      all_goals first | have x2 : ((X : Int) == 0) = true := (by simp; omega) | have x2 : ((X : Int) == 0) = false := (by simp; omega)
      all_goals first | have y2 : ((Y : Int) == 0) = true := (by simp; omega) | have y2 : ((Y : Int) == 0) = false := (by simp; omega)
      all_goals first
        | have HE : Hid (∀ k, k < 64 → gsP 24 (fun _ => v) X Y 8 m k = 128) := Lib.hid (fun k hk => by rw [HG.out k hk (by omega)]; unfold wantV; rw [if_pos (by omega)])
        | have HE : Hid (∀ k, k < 64 → gsP 24 (fun _ => v) X Y 8 m k = v) := Lib.hid (fun k hk => by rw [HG.out k hk (by omega)]; unfold wantV; rw [if_neg (by omega)])
        | skip
      all_goals have HH1 := Lib.hid hM
      all_goals have HH2 := Lib.hid hX0
      all_goals have HH3 := Lib.hid hY0
      all_goals clear hM hX0 hY0 HG
      all_goals go_wp2_with fail
      all_goals first
        | (go_roundw
           case rel => exact ⟨m + 1, by omega, by go_num, HK.out.2⟩
           case measure => simp [intOf]; omega)
        | (clear m3 m4 m5 m6 x2 y2 kc
           go_loopw [11] (fun i wr => ∃ k : Nat, k ≤ 64 ∧ i = .int .i64 k ∧ Kn wr [.rd (some ⟨b3, o3, none⟩) 64 (by8 (gsP 24 (fun _ => v) X Y 8 m)), .box w1.heap.size #[.int .i64 24, .int .i64 24, .slice (some ⟨b1, 0, none⟩) 576 576], .row b1 576 (by8 fun _ => v), .box w.heap.size #[.int .i64 X, .int .i64 Y], .since w]) (fun i _ => 64 - (intOf i).toNat)
           case atStart => exact ⟨0, by omega, rfl, HK.out⟩
           case round =>
             obtain ⟨k, hk, rfl, K⟩ := hrel
             clear HK
             by_cases hk64 : k < 64
             · have c1 := Rd.at_ K.1 hk64
               simp only [by8] at c1
               rw [HE.out k hk64] at c1
               have HK := Lib.hid K
               clear K
               go_wp2
               go_roundw
               case rel => exact ⟨k + 1, by omega, by go_num, HK.out⟩
               case measure => simp [intOf]; omega
             · obtain rfl : k = 64 := by omega
               have HK := Lib.hid K
               clear K
               go_wp2
               go_roundw
               case rel => exact ⟨m + 1, by omega, by go_num, HK.out.2⟩
               case measure => simp [intOf]; omega)
    · obtain rfl : m = 4 := by omega
      go_wp2_with fail
      refine (alive09 _).mono ?_
      rintro e w3 ⟨rfl, hb3⟩
      replace K := K.below hb3
      go_wp2
      go_ret
      exact ⟨rfl, K.2.2.2.1⟩
theorem walk (w : World) (v : Int) (hv : 0 ≤ v ∧ v ≤ 255) (x y : Int) (ix : I64 x) (iy : I64 y) :
    Calls Try.prog 8 #[.int .u8 v, .agg #[.int .i64 x, .int .i64 y]] w fun e w' => e = .returned (.bool true) ∧ Below w.heap.size w w' := by
  by_cases h : 0 ≤ x ∧ x ≤ 16 ∧ 0 ≤ y ∧ y ≤ 16
  · obtain ⟨X, rfl⟩ := Int.eq_ofNat_of_zero_le h.1
    obtain ⟨Y, rfl⟩ := Int.eq_ofNat_of_zero_le h.2.2.1
    exact walk_yes w v X Y hv (by omega) (by omega)
  · exact walk_no w v x y h
end IntraFlat
namespace IntraFlat
set_option maxRecDepth 100000 in
theorem lifted (os : Os) (started : os.Started) (H : Type) (enc : TypeId × Value → H) :
    ReturnsInHanded {} Try.checked os 8 .any (Rows.intraFlatSpec.pre6 enc Try.prog Try.f8 Rows.intraFlatRow.domain false) (Rows.intraFlatSpec.post enc Try.prog Try.f8 false true false false) := by
  refine returnsInHanded_of_change (C := Try.checked) own started (by kernel_rfl) Try.func8
    (ChangeSpec.witness6 (enc := enc) (C := Try.checked) false ⟨#[], #[.int .u8 0, .agg #[.int .i64 0, .int .i64 0]], []⟩ 8 (by kernel_rfl) (by kernel_rfl) (by kernel_rfl) (by kernel_rfl)) ?_
  intro W base args ds gs before hval0 hW hcnd _
  have hval : ∀ (j : Nat) t v, Try.f8.params[j]? = some t → args[j]? = some v → Value.okWide Try.prog W .any base t v := hval0
  refine law_post (tb := 4) laidOut (by kernel_rfl) rfl Try.underlying4 rfl (fun ds' h => ?_) hW ?_
  · rw [Try.params8] at h
    match ds', h with
    | [d1, d2], _ => exact ⟨rfl, rfl, rfl⟩
  obtain ⟨p, q, hA0, hV, rfl, hfz, hnd⟩ := hW
  have hA : DataW.TrodAll enc Try.prog W 0 (fun _ => true) true Try.f8.params.toList args.toList ds p := hA0
  rw [Try.params8] at hA hval
  obtain ⟨v0, vs0, d0, ds0, p0, q0, hargs, rfl, rfl, h0, r0⟩ := trodAll_cons hA
  obtain ⟨v1, vs1, d1, ds1, p1, q1, rfl, rfl, rfl, h1, r1⟩ := trodAll_cons r0
  obtain ⟨rfl, rfl, rfl⟩ := trodAll_nil r1
  obtain rfl : args = #[v0, v1] := by cases args; simp_all
  obtain ⟨a0, rfl, rfl, rfl, w0⟩ := open_int Try.underlying5 (hval 0 5 v0 rfl rfl) h0
  obtain ⟨a1, b1, rfl, w1, x1⟩ := open_arr2 Try.underlying25 Try.underlying3 (by kernel_rfl) (by kernel_rfl) (hval 1 25 v1 rfl rfl) h1
  exact walk W a0 (bounds_u8 w0) a1 b1 w1 x1
theorem over : Rows.intraFlatRow.holds Try.pinned (OpenSpec.ofChange Rows.intraFlatSpec) :=
  OpenClaim.holds_of_wide 8 Try.f8 rfl rfl rfl rfl rfl rfl rfl ⟨rfl, rfl, rfl, rfl, rfl⟩ rfl rfl rfl rfl rfl (by kernel_rfl) Try.func8 (by kernel_rfl)
    (of_decide_eq_true (by kernel_rfl)) (by unfold Func.isWrapper; first | (rw [if_pos (by decide +kernel)]; kernel_rfl) | (rw [if_neg (by decide +kernel)]; exact ⟨rfl, rfl⟩))
    (fun os started H enc _ => lifted os started H enc)
end IntraFlat
theorem intraFlat_holds : Rows.IntraFlatSaid := IntraFlat.over

end Go.Proofs.Ytcojphdohpgjnaa
