/- PlaneMakes: any plane and any frame of one sample is as the document says, or the error: proved for every pair of sides and every sample, no condition. -/
import Derived.Test.YtlkogokhcdehfaaAl6
import Derived.Test.YtlkogokhcdehfaaRp2
import Derived.Test.YtlkogokhcdehfaaClose
import Derived.Deep.DeepCutAuto
namespace Go.Proofs.Ytlkogokhcdehfaa
open Go.ChangeShapes Go.WideShapes Go.ChangeAt Go.RowKit Go.Joins Go.Kin
set_option linter.unusedVariables false

theorem news_both (a b v : Int) : ∃ r k, (∀ w1, Calls Try.prog 21 #[.int .i64 a, .int .i64 b, .int .u8 v] w1 (GivesP r k w1)) ∧ (∀ w1, Calls Try.prog 31 #[.int .i64 a, .int .i64 b, .int .u8 v] w1 (GivesP r k w1)) := by
  cases h : sidesB a b with
  | false => exact ⟨noP, 61, fun w1 => (new_no a b v w1 h).mono fun _ _ h => .no h, fun w1 => (rnew_no a b v w1 h).mono fun _ _ h => .no h⟩
  | true =>
    obtain ⟨h1, h2, h3, h4⟩ := sidesB_iff.1 h
    obtain ⟨N, hN⟩ := Int.eq_ofNat_of_zero_le (show 0 ≤ a * b from Int.mul_nonneg (by omega) (by omega))
    have hm2 : a * b ≤ 16777216 := by
      have := Int.mul_le_mul h2 h4 (by omega) (by omega)
      omega
    exact ⟨⟨a, b, none, N, 0, fun _ => v⟩, 0, fun w1 => (new_yes a b v N w1 h hN).mono fun _ _ h => GivesP.made (by omega) h, fun w1 => (rnew_yes a b v N w1 h hN).mono fun _ _ h => GivesP.made (by omega) h⟩
theorem blanks_both (a b v : Int) (ia : I64 a) (ib : I64 b) : ∃ r s t k, (∀ w1, Calls Try.prog 32 #[.int .i64 a, .int .i64 b, .int .u8 v] w1 (GivesF r s t k w1)) ∧ (∀ w1, Calls Try.prog 33 #[.int .i64 a, .int .i64 b, .int .u8 v] w1 (GivesF r s t k w1)) := by
  cases h : blankB a b with
  | false => exact ⟨noP, noP, noP, 61, fun w1 => blank_no a b v w1 h, fun w1 => rblank_no a b v w1 h ia ib⟩
  | true =>
    obtain ⟨⟨h1, h2, h3, h4⟩, _⟩ := blankB_iff.1 h
    obtain ⟨N, hN⟩ := Int.eq_ofNat_of_zero_le (show 0 ≤ a * b from Int.mul_nonneg (by omega) (by omega))
    obtain ⟨M, hM⟩ := Int.eq_ofNat_of_zero_le (show 0 ≤ (a / 2) * (b / 2) from Int.mul_nonneg (by omega) (by omega))
    exact ⟨_, _, _, 0, fun w1 => blank_yes a b v N M w1 h hN hM, fun w1 => rblank_yes a b v N M w1 h hN hM⟩

namespace PlaneMakes
set_option maxRecDepth 100000 in
set_option maxHeartbeats 2000000 in
theorem walk (w : World) (a : Int) (ia : I64 a) (b : Int) (ib : I64 b) (v : Int) (iv : 0 ≤ v ∧ v ≤ 255) :
    Calls Try.prog 8 #[.int .i64 a, .int .i64 b, .int .u8 v] w fun e w' => e = .returned (.bool true) ∧ Below w.heap.size w w' := by
  obtain ⟨r, k, hP1, hP2⟩ := news_both a b v
  obtain ⟨ry, ru, rx, j, hF1, hF2⟩ := blanks_both a b v ia ib
  have HP1 := Lib.hid hP1
  have HP2 := Lib.hid hP2
  have HF1 := Lib.hid hF1
  have HF2 := Lib.hid hF2
  clear hP1 hP2 hF1 hF2
  have K := Kn.start w
  go_enter Try.func8, Try.ntmps8
  go_upto_region 1 with (fail)
  go_cut [38] (fun v w' => w = w' ∧ ∃ t : Bool, v = .bool t)
  case first =>
    go_wp2
    all_goals go_meet
    all_goals exact ⟨rfl, _, rfl⟩
  case rest =>
    obtain ⟨rfl, t, rfl⟩ := hcut
    cases t
    ·
      go_wp2_with fail
      refine (HP1.out _).mono ?_
      rintro e w1 ⟨A1, c1, rfl, R1, _, _, hb1⟩
      replace K := K.below hb1
      clear hb1
      replace L : Below _ _ _ := K.1
      replace K := K.add (x := .rd A1 r.n (by8 r.g)) R1
      clear R1
      go_wp2_with fail
      refine (HP2.out _).mono ?_
      rintro e w2 ⟨A2, c2, rfl, R2, _, _, hb2⟩
      replace K := (K.new w1.heap.size _ _ rfl).below hb2
      clear hb2
      replace kc0 := Box.cells K.1
      replace kl0 := Box.lt K.1
      replace L : Below _ _ _ := K.2.2.1
      replace K := K.add (x := .rd A2 r.n (by8 r.g)) R2
      clear R2
      go_wp2_with fail
      refine (HF1.out _).mono ?_
      rintro e w3 ⟨A7, c7, B7, d7, C7, e7, rfl, Y7, U7, X7, hb3⟩
      replace K := (K.new w2.heap.size _ _ rfl).below hb3
      clear hb3
      replace kc0 := Box.cells K.1
      replace kl0 := Box.lt K.1
      replace kc2 := Box.cells K.2.2.1
      replace kl2 := Box.lt K.2.2.1
      replace L : Below _ _ _ := K.2.2.2.2.1
      replace K := ((K.add (x := .rd A7 ry.n (by8 ry.g)) Y7).add (x := .rd B7 ru.n (by8 ru.g)) U7).add (x := .rd C7 rx.n (by8 rx.g)) X7
      clear Y7 U7 X7
      go_wp2_with fail
      refine (HF2.out _).mono ?_
      rintro e w4 ⟨A8, c8, B8, d8, C8, e8, rfl, Y8, U8, X8, hb4⟩
      replace K := (K.new w3.heap.size _ _ rfl).below hb4
      clear hb4
      replace kc0 := Box.cells K.1
      replace kl0 := Box.lt K.1
      replace X7 : Rd _ _ _ _ := K.2.1
      replace U7 : Rd _ _ _ _ := K.2.2.1
      replace Y7 : Rd _ _ _ _ := K.2.2.2.1
      replace kc4 := Box.cells K.2.2.2.2.1
      replace kl4 := Box.lt K.2.2.2.2.1
      replace R2 : Rd _ _ _ _ := K.2.2.2.2.2.1
      replace kc6 := Box.cells K.2.2.2.2.2.2.1
      replace kl6 := Box.lt K.2.2.2.2.2.2.1
      replace R1 : Rd _ _ _ _ := K.2.2.2.2.2.2.2.1
      replace L : Below _ _ _ := K.2.2.2.2.2.2.2.2.1
      replace K := ((K.add (x := .rd A8 ry.n (by8 ry.g)) Y8).add (x := .rd B8 ru.n (by8 ru.g)) U8).add (x := .rd C8 rx.n (by8 rx.g)) X8
      clear Y8 U8 X8
      go_wp2_with fail
      refine (sameP_yes _ _ _ _ _ _ _ r.g _ (R1.alloc _) (R2.alloc _)).mono ?_
      rintro e w5 ⟨rfl, hb5⟩
      replace K := (K.new w4.heap.size _ _ rfl).below hb5
      clear hb5
      replace kc0 := Box.cells K.1
      replace kl0 := Box.lt K.1
      replace X8 : Rd _ _ _ _ := K.2.1
      replace U8 : Rd _ _ _ _ := K.2.2.1
      replace Y8 : Rd _ _ _ _ := K.2.2.2.1
      replace kc4 := Box.cells K.2.2.2.2.1
      replace kl4 := Box.lt K.2.2.2.2.1
      replace X7 : Rd _ _ _ _ := K.2.2.2.2.2.1
      replace U7 : Rd _ _ _ _ := K.2.2.2.2.2.2.1
      replace Y7 : Rd _ _ _ _ := K.2.2.2.2.2.2.2.1
      replace kc8 := Box.cells K.2.2.2.2.2.2.2.2.1
      replace kl8 := Box.lt K.2.2.2.2.2.2.2.2.1
      replace kc10 := Box.cells K.2.2.2.2.2.2.2.2.2.2.1
      replace kl10 := Box.lt K.2.2.2.2.2.2.2.2.2.2.1
      replace L : Below _ _ _ := K.2.2.2.2.2.2.2.2.2.2.2.2.1
      go_wp2_with fail
      refine (sameF_yes ry ru rx _ _ _ _ _ _ _ _ _ _ _ _ _ Y7 U7 X7 Y8 U8 X8).mono ?_
      rintro e w6 ⟨rfl, hb6⟩
      replace K := K.below hb6
      clear hb6
      replace kc0 := Box.cells K.1
      replace kl0 := Box.lt K.1
      replace kc4 := Box.cells K.2.2.2.2.1
      replace kl4 := Box.lt K.2.2.2.2.1
      replace kc8 := Box.cells K.2.2.2.2.2.2.2.2.1
      replace kl8 := Box.lt K.2.2.2.2.2.2.2.2.1
      replace kc10 := Box.cells K.2.2.2.2.2.2.2.2.2.2.1
      replace kl10 := Box.lt K.2.2.2.2.2.2.2.2.2.2.1
      replace L : Below _ _ _ := K.2.2.2.2.2.2.2.2.2.2.2.2.1
      go_wp2_with fail
      refine (alive06 _).mono ?_
      rintro e w7 ⟨rfl, hb7⟩
      replace K := K.below hb7
      clear hb7
      replace L : Below _ _ _ := K.2.2.2.2.2.2.2.2.2.2.2.2.1
      go_wp2
      go_ret
      exact ⟨rfl, L⟩
    ·
      go_wp2_with fail
      refine (alive06 _).mono ?_
      rintro e w1 ⟨rfl, hb1⟩
      replace K := K.below hb1
      clear hb1
      replace L : Below _ _ _ := K.1
      go_wp2
      go_ret
      exact ⟨rfl, L⟩
end PlaneMakes
namespace PlaneMakes
set_option maxRecDepth 100000 in
theorem lifted (os : Os) (started : os.Started) (H : Type) (enc : TypeId × Value → H) :
    ReturnsInHanded {} Try.checked os 8 .any (Rows.planeMakesSpec.pre6 enc Try.prog Try.f8 Rows.planeMakesRow.domain false) (Rows.planeMakesSpec.post enc Try.prog Try.f8 false true false false) := by
  refine returnsInHanded_of_change (C := Try.checked) own started (by kernel_rfl) Try.func8
    (ChangeSpec.witness6 (enc := enc) (C := Try.checked) false ⟨#[], #[.int .i64 0, .int .i64 0, .int .u8 0], []⟩ 8 (by kernel_rfl) (by kernel_rfl) (by kernel_rfl) (by kernel_rfl)) ?_
  intro W base args ds gs before hval0 hW hcnd _
  have hval : ∀ (j : Nat) t v, Try.f8.params[j]? = some t → args[j]? = some v → Value.okWide Try.prog W .any base t v := hval0
  refine law_post (tb := 4) laidOut (by kernel_rfl) rfl Try.underlying4 rfl (fun ds' h => ?_) hW ?_
  · rw [Try.params8] at h
    match ds', h with
    | [d1, d2, d3], _ => exact ⟨rfl, rfl, rfl⟩
  obtain ⟨p, q, hA0, hV, rfl, hfz, hnd⟩ := hW
  have hA : DataW.TrodAll enc Try.prog W 0 (fun _ => true) true Try.f8.params.toList args.toList ds p := hA0
  rw [Try.params8] at hA hval
  obtain ⟨v0, vs0, d0, ds0, p0, q0, hargs, rfl, rfl, h0, r0⟩ := trodAll_cons hA
  obtain ⟨v1, vs1, d1, ds1, p1, q1, rfl, rfl, rfl, h1, r1⟩ := trodAll_cons r0
  obtain ⟨v2, vs2, d2, ds2, p2, q2, rfl, rfl, rfl, h2, r2⟩ := trodAll_cons r1
  obtain ⟨rfl, rfl, rfl⟩ := trodAll_nil r2
  obtain rfl : args = #[v0, v1, v2] := by cases args; simp_all
  obtain ⟨a0, rfl, rfl, rfl, w0⟩ := open_int Try.underlying3 (hval 0 3 v0 rfl rfl) h0
  obtain ⟨a1, rfl, rfl, rfl, w1⟩ := open_int Try.underlying3 (hval 1 3 v1 rfl rfl) h1
  obtain ⟨a2, rfl, rfl, rfl, w2⟩ := open_int Try.underlying5 (hval 2 5 v2 rfl rfl) h2
  exact walk W a0 (bounds_i64 w0) a1 (bounds_i64 w1) a2 (bounds_u8 w2)
theorem over : Rows.planeMakesRow.holds Try.pinned (OpenSpec.ofChange Rows.planeMakesSpec) :=
  OpenClaim.holds_of_wide 8 Try.f8 rfl rfl rfl rfl rfl rfl rfl ⟨rfl, rfl, rfl, rfl, rfl⟩ rfl rfl rfl rfl rfl (by kernel_rfl) Try.func8 (by kernel_rfl)
    (of_decide_eq_true (by kernel_rfl)) (by unfold Func.isWrapper; first | (rw [if_pos (by decide +kernel)]; kernel_rfl) | (rw [if_neg (by decide +kernel)]; exact ⟨rfl, rfl⟩))
    (fun os started H enc _ => lifted os started H enc)
end PlaneMakes
theorem planeMakes_holds : Rows.PlaneMakesSaid := PlaneMakes.over

end Go.Proofs.Ytlkogokhcdehfaa
