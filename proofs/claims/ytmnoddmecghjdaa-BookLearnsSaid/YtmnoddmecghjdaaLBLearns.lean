/- BookLearns: a number that is put again and again has a code of at most half the bits, and two bytes. No condition. -/
import Derived.Test.YtmnoddmecghjdaaAl5
import Derived.Test.YtmnoddmecghjdaaLe1
import Derived.Test.YtmnoddmecghjdaaClose3
set_option linter.unusedVariables false
namespace Go.Proofs.Ytmnoddmecghjdaa
open Go.ChangeShapes Go.WideShapes Go.ChangeAt Go.RowKit Go.Joins Go.Kin
theorem again_step (t v k : Nat) (hv : v ≤ 14) (ht : t ≤ 15) : actP (again (37 * t) v k) 1 t 0 v = again (37 * t) v (k + 1) := by
  have ho : actOk 1 t 0 v = true := by
    unfold actOk topB
    simp
    omega
  unfold actP
  rw [if_pos ho, if_pos rfl]
  rfl
namespace BookLearns
set_option maxRecDepth 100000 in
set_option maxHeartbeats 8000000 in
theorem walk (w : World) (v : Int) (hv : I64 v) (t : Int) (ht : I64 t) : Calls Try.prog 6 #[.int .i64 v, .int .i64 t] w fun e w' => e = .returned (.bool true) ∧ Below w.heap.size w w' := by
  by_cases hin : 0 ≤ v ∧ v ≤ 14 ∧ 0 ≤ t ∧ t ≤ 15
  · obtain ⟨v, rfl⟩ := Int.eq_ofNat_of_zero_le hin.1
    obtain ⟨t, rfl⟩ := Int.eq_ofNat_of_zero_le hin.2.2.1
    have hv4 : v ≤ 14 := by omega
    have ht4 : t ≤ 15 := by omega
    have l1 : ¬ (v : Int) < 0 := by omega
    have l2 : ¬ (v : Int) > 14 := by omega
    have l3 : ¬ (t : Int) < 0 := by omega
    have l4 : ¬ (t : Int) > 15 := by omega
    have HOK : Hid (∀ k, (again (37 * t) v k).ok ∧ (again (37 * t) v k).s.L ≤ 4 + 43 * k ∧ 4 ≤ (again (37 * t) v k).s.L) := Lib.hid (again_ok (37 * t) v hv4)
    have HST : Hid (∀ k, actP (again (37 * t) v k) 1 t 0 v = again (37 * t) v (k + 1)) := Lib.hid (fun k => again_step t v k hv4 ht4)
    have HGD : Hid ((again (37 * t) v (100 + 100)).s.L ≤ (again (37 * t) v 100).s.L + ((again (37 * t) v 100).s.L / 2 + 2)) := Lib.hid (again_good (37 * t) v hv4)
    clear hin hv ht
    have K := Kc.start w
    go_enter Try.func6, Try.ntmps6
    go_wp2_with (go_at_call 21; fail)
    refine (bnew_s _).mono ?_
    rintro e w1 ⟨b, rfl, hB, hb⟩
    replace hB := hB (fun _ => 0) 1
    have hk := Kp.newc hb (fun _ => 0) 1
    replace K := hk.kc K (by simp [Nos])
    generalize recol _ _ _ = c1 at *
    have HS := Lib.hid (And.intro hB K)
    clear hk hb hB K
    go_wp2_with (go_at_call 21; fail)
    refine (cnew_s _).mono ?_
    rintro e w2 ⟨x, rfl, hE, hb⟩
    replace hE := hE c1 2
    have hk := Kp.newc hb c1 2
    have hB := Bk.kp HS.out.1 hk (by simp)
    have K := hk.kc HS.out.2 (by simp [Nos])
    generalize recol _ _ _ = c2 at *
    have HS2 := Lib.hid (And.intro (show SS w2 c2 2 x 1 b (again (37 * t) v 0) from ⟨hE, hB⟩) K)
    clear hk hb hB K hE HS
    go_wp2_with (go_at_call 21; fail)
    go_loopw [7] (fun i wr => ∃ (j : Nat) (col : Nat → Nat), j ≤ 100 ∧ i = .int .i64 j ∧ SS wr col 2 x 1 b (again (37 * t) v j) ∧ Kc wr col [(0, .since w)]) (fun i _ => (100 - intOf i).toNat)
    case atStart => exact ⟨0, c2, by omega, rfl, HS2.out.1, HS2.out.2⟩
    case round =>
      obtain ⟨j, col, hj, rfl, hS, K⟩ := hrel
      clear HS2
      by_cases hlt : j < 100
      · have l5 : (j : Int) < 100 := by omega
        have HS := Lib.hid (And.intro hS K)
        clear hS K
        go_wp2_with (go_at_call 21; fail)
        refine (bPut_all t v HS.out.1 (by omega) (HOK.out j).1 (by have := (HOK.out j).2.1; omega)).mono ?_
        rintro e w3 ⟨c3, rfl, hS, hk⟩
        rw [HST.out] at hS
        have K := hk.kc HS.out.2 (by simp [Nos])
        have HS3 := Lib.hid (And.intro hS K)
        clear hS K hk HS
        go_wp2
        go_roundw
        case rel => exact ⟨j + 1, c3, by omega, by go_num, HS3.out.1, HS3.out.2⟩
        case measure => simp [intOf]; omega
      · obtain rfl : j = 100 := by omega
        have HS := Lib.hid (And.intro hS K)
        clear hS K hlt hj
        generalize hL1 : (again (37 * t) v 100).s.L = L1 at *
        have hL1b : 4 ≤ L1 ∧ L1 ≤ 10000 := by have := (HOK.out 100).2; omega
        have HL1 := Lib.hid hL1
        clear hL1
        go_wp2_with (go_at_call 21; fail)
        refine (bytes_s HS.out.1.1 (by rw [HL1.out]; omega)).mono ?_
        rintro e w3 ⟨A3, rfl, hR, hf, hb⟩
        have hk := Kp.below hb [] col
        have hS := SS.kp HS.out.1 hk (by simp) (by simp)
        have K := hk.kc HS.out.2 (by simp)
        rw [HL1.out]
        have HS3 := Lib.hid (And.intro hS K)
        clear hk hS K hR hf hb HS
        go_wp2_with (go_at_call 21; fail)
        go_loopw [9] (fun i wr => ∃ (j : Nat) (col : Nat → Nat), j ≤ 100 ∧ i = .int .i64 j ∧ SS wr col 2 x 1 b (again (37 * t) v (100 + j)) ∧ Kc wr col [(0, .since w)]) (fun i _ => (100 - intOf i).toNat)
        case atStart => exact ⟨0, col, by omega, rfl, HS3.out.1, HS3.out.2⟩
        case round =>
          obtain ⟨j, col, hj, rfl, hS, K⟩ := hrel
          clear HS3
          by_cases hlt : j < 100
          · have l5 : (j : Int) < 100 := by omega
            have HS := Lib.hid (And.intro hS K)
            clear hS K
            go_wp2_with (go_at_call 21; fail)
            refine (bPut_all t v HS.out.1 (by omega) (HOK.out _).1 (by have := (HOK.out (100 + j)).2.1; omega)).mono ?_
            rintro e w3 ⟨c3, rfl, hS, hk⟩
            rw [HST.out] at hS
            have K := hk.kc HS.out.2 (by simp [Nos])
            have HS3 := Lib.hid (And.intro hS K)
            clear hS K hk HS
            go_wp2
            go_roundw
            case rel => exact ⟨j + 1, c3, by omega, by go_num, HS3.out.1, HS3.out.2⟩
            case measure => simp [intOf]; omega
          · obtain rfl : j = 100 := by omega
            have HS := Lib.hid (And.intro hS K)
            clear hS K hlt hj
            go_wp2_with (go_at_call 21; fail)
            refine (alive05 _).mono ?_
            rintro e w4 ⟨rfl, hb⟩
            have hk := Kp.below hb [] col
            have hS := SS.kp HS.out.1 hk (by simp) (by simp)
            have K := hk.kc HS.out.2 (by simp)
            have HS4 := Lib.hid (And.intro hS K)
            clear hk hS K hb HS
            generalize hL2 : (again (37 * t) v (100 + 100)).s.L = L2 at *
            have hL2b : 4 ≤ L2 ∧ L2 ≤ 20000 := by have := (HOK.out (100 + 100)).2; rw [hL2] at this; omega
            have hgood : L2 ≤ L1 + (L1 / 2 + 2) := by have hg := HGD.out; omega
            have HL2 := Lib.hid hL2
            clear hL2
            go_wp2_with (go_at_call 21; fail)
            refine (bytes_s HS4.out.1.1 (by rw [HL2.out]; omega)).mono ?_
            rintro e w5 ⟨A5, rfl, hR, hf, hb⟩
            rw [HL2.out]
            have L := Kc.sinceB ((Kp.below hb [] col).kc HS4.out.2 (by simp))
            clear hR hf hb
            have zd : (L1 : Int).tdiv 2 = (L1 : Int) / 2 := Int.tdiv_eq_ediv_of_nonneg (by omega)
            have z1 : IntKind.i64.wrap ((L2 : Int) - L1) = (L2 : Int) - L1 := by rw [IntKind.wrap_i64]; omega
            have z2 : IntKind.i64.wrap ((L1 : Int) / 2) = (L1 : Int) / 2 := by rw [IntKind.wrap_i64]; omega
            have z3 : IntKind.i64.wrap ((L1 : Int) / 2 + 2) = (L1 : Int) / 2 + 2 := by rw [IntKind.wrap_i64]; omega
            have l6 : (L2 : Int) - L1 ≤ (L1 : Int) / 2 + 2 := by omega
            go_wp2
            go_ret
            exact ⟨rfl, L⟩
  · have hb : v < 0 ∨ (¬ v < 0 ∧ v > 14) ∨ (¬ v < 0 ∧ ¬ v > 14 ∧ t < 0) ∨ (¬ v < 0 ∧ ¬ v > 14 ∧ ¬ t < 0 ∧ t > 15) := by omega
    clear hin
    rcases hb with h1 | ⟨h1, h2⟩ | ⟨h1, h2, h3⟩ | ⟨h1, h2, h3, h4⟩
    all_goals
      go_enter Try.func6, Try.ntmps6
      go_wp2_with (go_at_call 21; fail)
      refine (alive05 _).mono ?_
      rintro e w1 ⟨rfl, L⟩
      go_wp2
      go_ret
      exact ⟨rfl, L⟩
end BookLearns
namespace BookLearns
set_option maxRecDepth 100000 in
theorem lifted (os : Os) (started : os.Started) (H : Type) (enc : TypeId × Value → H) :
    ReturnsInHanded {} Try.checked os 6 .any (Rows.bookLearnsSpec.pre6 enc Try.prog Try.f6 Rows.bookLearnsRow.domain false) (Rows.bookLearnsSpec.post enc Try.prog Try.f6 false true false false) := by
  refine returnsInHanded_of_change (C := Try.checked) own started (by kernel_rfl) Try.func6
    (ChangeSpec.witness6 (enc := enc) (C := Try.checked) false ⟨#[], #[.int .i64 0, .int .i64 0], []⟩ 8 (by kernel_rfl) (by kernel_rfl) (by kernel_rfl) (by kernel_rfl)) ?_
  intro W base args ds gs before hval0 hW hcnd _
  have hval : ∀ (j : Nat) t v, Try.f6.params[j]? = some t → args[j]? = some v → Value.okWide Try.prog W .any base t v := hval0
  refine law_post (tb := 4) laidOut (by kernel_rfl) rfl Try.underlying4 rfl (fun ds' h => ?_) hW ?_
  · rw [Try.params6] at h
    match ds', h with
    | [d1, d2], _ => exact ⟨rfl, rfl, rfl⟩
  obtain ⟨p, q, hA0, hV, rfl, hfz, hnd⟩ := hW
  have hA : DataW.TrodAll enc Try.prog W 0 (fun _ => true) true Try.f6.params.toList args.toList ds p := hA0
  rw [Try.params6] at hA hval
  obtain ⟨v0, vs0, d0, ds0, p0, q0, hargs, rfl, rfl, h0, r0⟩ := trodAll_cons hA
  obtain ⟨v1, vs1, d1, ds1, p1, q1, rfl, rfl, rfl, h1, r1⟩ := trodAll_cons r0
  obtain ⟨rfl, rfl, rfl⟩ := trodAll_nil r1
  obtain rfl : args = #[v0, v1] := by cases args; simp_all
  obtain ⟨a0, rfl, rfl, rfl, w0⟩ := open_int Try.underlying3 (hval 0 3 v0 rfl rfl) h0
  obtain ⟨a1, rfl, rfl, rfl, w1⟩ := open_int Try.underlying3 (hval 1 3 v1 rfl rfl) h1
  exact walk W a0 (bounds_i64 w0) a1 (bounds_i64 w1)
theorem over : Rows.bookLearnsRow.holds Try.pinned (OpenSpec.ofChange Rows.bookLearnsSpec) :=
  OpenClaim.holds_of_wide 6 Try.f6 rfl rfl rfl rfl rfl rfl rfl ⟨rfl, rfl, rfl, rfl, rfl⟩ rfl rfl rfl rfl rfl (by kernel_rfl) Try.func6 (by kernel_rfl)
    (of_decide_eq_true (by kernel_rfl)) (by unfold Func.isWrapper; first | (rw [if_pos (by decide +kernel)]; kernel_rfl) | (rw [if_neg (by decide +kernel)]; exact ⟨rfl, rfl⟩))
    (fun os started H enc _ => lifted os started H enc)
end BookLearns
theorem bookLearns_holds : Rows.BookLearnsSaid := BookLearns.over

end Go.Proofs.Ytmnoddmecghjdaa
