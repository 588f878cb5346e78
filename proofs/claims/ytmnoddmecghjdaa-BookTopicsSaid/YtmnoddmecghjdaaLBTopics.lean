/- BookTopics: numbers of one topic leave the chances of all others. No condition. -/
import Derived.Test.YtmnoddmecghjdaaAl5
import Derived.Test.YtmnoddmecghjdaaTp1
import Derived.Test.YtmnoddmecghjdaaClose4
import Derived.Test.YtmnoddmecghjdaaRg4
set_option linter.unusedVariables false
namespace Go.Proofs.Ytmnoddmecghjdaa
open Go.ChangeShapes Go.WideShapes Go.ChangeAt Go.RowKit Go.Joins Go.Kin
namespace BookTopics
set_option maxRecDepth 100000 in
set_option maxHeartbeats 8000000 in
theorem walk (w : World) (A : Option Addr) (n cap : Nat) (f : Nat → Nat → Int) (hR : Rd w A (n * 4) (recs 4 f)) (hf : ∀ i r, I64 (f i r)) (hn : n ≤ cap) (hcap : cap ≤ 9223372036854775807) (k t m v : Int) (hk : I64 k) (ht : I64 t) (hm : I64 m) (hv : I64 v) :
    Calls Try.prog 5 #[.slice A n cap, .agg #[.int .i64 k, .int .i64 t, .int .i64 m, .int .i64 v]] w fun e w' => e = .returned (.bool true) ∧ Below w.heap.size w w' := by
  have K : Kc (w.alloc (.cells #[.int .i64 k, .int .i64 t, .int .i64 m, .int .i64 v] 33)) (fun _ => 0) [(0, .box w.heap.size #[.int .i64 k, .int .i64 t, .int .i64 m, .int .i64 v]), (0, .since w)] :=
    (Kc.below (Kc.start w) ((Below.refl _ w).alloc (Nat.le_refl _) _)).add (Box.newAt w _ _ rfl) rfl
  have HR := Lib.hid hR
  clear hR hf
  go_enter Try.func5, Try.ntmps5
  go_wp2_with (go_at_call 21; fail)
  refine (bnew_s _).mono ?_
  rintro e w1 ⟨b, rfl, hB, hb⟩
  replace hB := hB (fun _ => 0) 2
  have hkp := Kp.newc hb (fun _ => 0) 2
  replace K := hkp.kc K (by simp [Nos])
  generalize recol _ _ _ = c1 at *
  have HS := Lib.hid (And.intro hB K)
  clear hkp hb hB K
  go_wp2_with (go_at_call 21; fail)
  refine (cnew_s _).mono ?_
  rintro e w2 ⟨x, rfl, hE, hb⟩
  replace hE := hE c1 1
  have hkp := Kp.newc hb c1 1
  have hB := Bk.kp HS.out.1 hkp (by simp)
  have K := hkp.kc HS.out.2 (by simp [Nos])
  generalize recol _ _ _ = c2 at *
  have HS2 := Lib.hid (And.intro (show SS w2 c2 1 x 2 b PS0 from ⟨hE, hB⟩) K)
  clear hkp hb hB K hE HS
  go_wp2_with (go_at_call 21; fail)
  refine (cnew_s _).mono ?_
  rintro e w3 ⟨y, rfl, hE, hb⟩
  replace hE := hE c2 3
  have hkp := Kp.newc hb c2 3
  have hS := SS.kp HS2.out.1 hkp (by simp) (by simp)
  have K := hkp.kc HS2.out.2 (by simp [Nos])
  generalize recol _ _ _ = c3 at *
  have HS := Lib.hid (And.intro hS (And.intro hE K))
  clear hkp hb hS K hE HS2
  go_wp2_with (go_at_call 21; fail)
  refine (bnew_s _).mono ?_
  rintro e w4 ⟨c, rfl, hB, hb⟩
  replace hB := hB c3 5
  have hkp := Kp.newc hb c3 5
  have hS := SS.kp HS.out.1 hkp (by simp) (by simp)
  have hE := EncS.kp HS.out.2.1 hkp (by simp)
  have K := hkp.kc HS.out.2.2 (by simp [Nos])
  generalize recol _ _ _ = c4 at *
  have HS2 := Lib.hid (And.intro hS (And.intro hE (And.intro hB K)))
  clear hkp hb hS K hE HS hB
  go_wp2_with (go_at_call 21; fail)
  refine (bnew_s _).mono ?_
  rintro e w5 ⟨z, rfl, hB, hb⟩
  replace hB := hB c4 4
  have hkp := Kp.newc hb c4 4
  have hS := SS.kp HS2.out.1 hkp (by simp) (by simp)
  have hE := EncS.kp HS2.out.2.1 hkp (by simp)
  have hC := Bk.kp HS2.out.2.2.1 hkp (by simp)
  have K := hkp.kc HS2.out.2.2.2 (by simp [Nos])
  generalize recol _ _ _ = c5 at *
  have HS : Hid (SS w5 c5 1 x 2 b PS0 ∧ SS w5 c5 3 y 4 z PS0 ∧ Bk w5 c5 5 c PS0.C ∧ Kc w5 c5 [(0, .box w.heap.size #[.int .i64 k, .int .i64 t, .int .i64 m, .int .i64 v]), (0, .since w)]) := Lib.hid ⟨hS, ⟨hE, hB⟩, hC, K⟩
  clear hkp hb hS K hE HS2 hB hC
  go_wp2_with (go_at_call 21; fail)
  go_loopw [10] (fun i wr => ∃ (j : Nat) (Y : PS) (col : Nat → Nat), j ≤ n ∧ j ≤ 100 ∧ i = .int .i64 j ∧ Y.ok ∧ Y.s.L ≤ 4 + 44 * j ∧ Fresh t Y ∧ SS wr col 1 x 2 b Y ∧ SS wr col 3 y 4 z Y ∧ Bk wr col 5 c PS0.C ∧ Kc wr col [(0, .box w.heap.size #[.int .i64 k, .int .i64 t, .int .i64 m, .int .i64 v]), (0, .since w)]) (fun i _ => (100 - intOf i).toNat)
  case atStart => exact ⟨0, PS0, c5, by omega, by omega, rfl, PS0_ok, Nat.le_refl _, fun _ _ _ _ => rfl, HS.out⟩
  case round =>
    obtain ⟨j, Y, col, hjn, hj1, rfl, hok, hL, hfr, hS, hS2, hC, K⟩ := hrel
    clear HS
    have HS := Lib.hid (And.intro hS (And.intro hS2 (And.intro hC K)))
    have HY := Lib.hid (And.intro hok (And.intro hL hfr))
    clear hS hS2 hC K hok hL hfr
    by_cases hlt : j < n ∧ j < 100
    · have l1 : (j : Int) < n := by omega
      have l2 : (j : Int) < 100 := by omega
      have HRW : Hid (Rd wr A (n * 4) (recs 4 f)) := Lib.hid (HR.out.below HS.out.2.2.2.2.1.1)
      obtain ⟨b0, off, rfl, -, -⟩ := HR.out.some_ (by omega)
      have HS0 := Lib.hid (And.intro (HS.out.1.kp (Kp.below (below_drew _) [] col) (by simp) (by simp)) (And.intro (HS.out.2.1.kp (Kp.below (below_drew _) [] col) (by simp) (by simp)) (And.intro (HS.out.2.2.1.kp (Kp.below (below_drew _) [] col) (by simp)) (Kc.below HS.out.2.2.2 (below_drew _)))))
      have HRD : Hid (Rd wr.drew (some ⟨b0, off, none⟩) (n * 4) (recs 4 f) ∧ Box wr.drew w.heap.size #[.int .i64 k, .int .i64 t, .int .i64 m, .int .i64 v]) := Lib.hid ⟨HRW.out.drew, HS0.out.2.2.2.1.1⟩
      have hjlt := hlt.1
      clear hlt HS HRW
      go_wp2_with fail
      refine wp_region_allH (fun w' => Rd w' (some ⟨b0, off, none⟩) (n * 4) (recs 4 f) ∧ Box w' w.heap.size #[.int .i64 k, .int .i64 t, .int .i64 m, .int .i64 v]) [] [(0,1),(1,1),(2,1),(3,1),(4,1),(5,1),(6,1),(7,1)] (by kernel_rfl) (by kernel_rfl) (fun _ _ d _ _ h => by cases d <;> exact h) (HRD.out) ?_
      generalize wr.drew = wd at *
      repeat (first | (refine oH_freeG rfl rfl (fun w' hS => by have s1 := recs_cell hS.1 (i := j) (r := 1) hjlt (by omega); have s2 := Box.cells hS.2; clear hS; go_simp; with_reducible rfl) ?_; go_simp) | (refine oH_skipG rfl rfl ?_; go_simp))
      refine oH_nil ?_
      by_cases heq : f j 1 = t
      · have e1 : (f j 1 == t) = true := by simp [heq]
        clear heq
        go_wp2
        go_roundw
        case rel => exact ⟨j + 1, Y, col, by omega, by omega, by go_num, HY.out.1, by have := HY.out.2.1; omega, HY.out.2.2, HS0.out⟩
        case measure => simp [intOf]; omega
      · have e1 : (f j 1 == t) = false := by simp [heq]
        have HN := Lib.hid heq
        have HS := Lib.hid (And.intro (HS0.out.1.kp (Kp.below (below_drew _) [] col) (by simp) (by simp)) (And.intro (HS0.out.2.1.kp (Kp.below (below_drew _) [] col) (by simp) (by simp)) (And.intro (HS0.out.2.2.1.kp (Kp.below (below_drew _) [] col) (by simp)) (Kc.below HS0.out.2.2.2 (below_drew _)))))
        have HRE : Hid (Rd wd.drew (some ⟨b0, off, none⟩) (n * 4) (recs 4 f)) := Lib.hid HRD.out.1.drew
        clear heq HS0 HRD
        go_wp2_with fail
        clear e1
        have hne : (actE (f j 0) (f j 1) (f j 2) (f j 3) != actE (f j 0) (f j 1) (f j 2) (f j 3)) = false := by simp
        refine wp_region_allH (fun w' => Rd w' (some ⟨b0, off, none⟩) (n * 4) (recs 4 f)) [6, 13] [(0,1),(1,1),(2,1),(3,1),(4,1),(5,1),(7,1),(8,1),(9,1),(10,1),(11,1),(12,1),(6,2),(13,2),(14,0)] (by kernel_rfl) (by kernel_rfl) (fun _ _ d _ _ h => by cases d <;> exact h) (HRE.out) ?_
        generalize wd.drew = we at *
        repeat (first | (refine oH_freeG rfl rfl (fun w' hS => by have s1 := recs_cell hS (i := j) (r := 0) hjlt (by omega); rw [Nat.add_zero] at s1; have s2 := recs_cell hS (i := j) (r := 1) hjlt (by omega); have s3 := recs_cell hS (i := j) (r := 2) hjlt (by omega); have s4 := recs_cell hS (i := j) (r := 3) hjlt (by omega); clear hS; go_simp; with_reducible rfl) ?_; go_simp) | (refine oH_skipG rfl rfl ?_; go_simp))
        refine oH_doG rfl rfl (fun KK hKK => ?_)
        go_simp
        refine (actPut_any (f j 0) (f j 1) (f j 2) (f j 3) HS.out.1 (by omega) HY.out.1 (by have := HY.out.2.1; omega)).mono ?_
        rintro e w6 ⟨c6, rfl, hS, hkp⟩
        have hS2 := SS.kp HS.out.2.1 hkp (by simp) (by simp)
        have hC := Bk.kp HS.out.2.2.1 hkp (by simp)
        have K := hkp.kc HS.out.2.2.2 (by simp [Nos])
        have HS6 := Lib.hid (And.intro hS (And.intro hS2 (And.intro hC K)))
        have HR6 : Hid (Rd w6 (some ⟨b0, off, none⟩) (n * 4) (recs 4 f)) := Lib.hid (HR.out.below K.2.1.1)
        clear hS hS2 hC K hkp HS HRE
        refine hKK _ _ ⟨HR6.out, ?_⟩
        clear hKK KK
        refine oH_doG rfl rfl (fun KK hKK => ?_)
        go_simp
        refine (actPut_any (f j 0) (f j 1) (f j 2) (f j 3) HS6.out.2.1 (by omega) HY.out.1 (by have := HY.out.2.1; omega)).mono ?_
        rintro e w7 ⟨c7, rfl, hS2, hkp⟩
        have hS := SS.kp HS6.out.1 hkp (by simp) (by simp)
        have hC := Bk.kp HS6.out.2.2.1 hkp (by simp)
        have K := hkp.kc HS6.out.2.2.2 (by simp [Nos])
        have HS := Lib.hid (And.intro hS (And.intro hS2 (And.intro hC K)))
        have HR7 : Hid (Rd w7 (some ⟨b0, off, none⟩) (n * 4) (recs 4 f)) := Lib.hid (HR.out.below K.2.1.1)
        clear hS hS2 hC K hkp HS6 HR6
        refine hKK _ _ ⟨HR7.out, ?_⟩
        clear hKK KK
        repeat (refine oH_still rfl (fun KK hKK => ?_); go_simp; refine hKK _ ?_; clear hKK KK)
        refine oH_nil ?_
        have HA := Lib.hid (actP_ok (k := f j 0) (t := f j 1) (n := f j 2) (v := f j 3) HY.out.1)
        have HFr := Lib.hid (fresh_act HY.out.2.2 HN.out (f j 0) (f j 2) (f j 3))
        go_wp2
        go_roundw
        case rel => exact ⟨j + 1, _, c7, by omega, by omega, by go_num, HA.out.1, by have := HA.out.2.1; have := HY.out.2.1; omega, HFr.out, HS.out⟩
        case measure => simp [intOf]; omega
    · have hex : (¬ (j : Int) < n) ∨ ((j : Int) < n ∧ ¬ (j : Int) < 100) := by omega
      have kc := Box.cells (show Box wr _ _ from HS.out.2.2.2.1.1)
      clear hlt
      rcases hex with l1 | ⟨l1, l2⟩
      all_goals
        go_wp2_with (go_at_call 21; fail)
        refine (actPut_any k t m v HS.out.1 (by omega) HY.out.1 (by have := HY.out.2.1; omega)).mono ?_
        rintro e w6 ⟨c6, rfl, hS, hkp⟩
        have hS2 := SS.kp HS.out.2.1 hkp (by simp) (by simp)
        have hC := Bk.kp HS.out.2.2.1 hkp (by simp)
        have K := hkp.kc HS.out.2.2.2 (by simp [Nos])
        have HS6 := Lib.hid (And.intro hS (And.intro (show SS w6 c6 3 y 5 c ⟨PS0.C, Y.s⟩ from ⟨hS2.1, hC⟩) K))
        replace kc := Box.cells (show Box w6 _ _ from K.1.1)
        clear hS hS2 hC K hkp HS
        go_wp2_with (go_at_call 21; fail)
        refine (actPut_any k t m v HS6.out.2.1 (by omega) (show PS.ok ⟨PS0.C, Y.s⟩ from ⟨PS0_ok.1, HY.out.1.2⟩) (by show Y.s.L ≤ 600000; have := HY.out.2.1; omega)).mono ?_
        rintro e w7 ⟨c7, rfl, hS2, hkp⟩
        have hS := SS.kp HS6.out.1 hkp (by simp) (by simp)
        have L7 : Below _ _ _ := (hkp.kc HS6.out.2.2 (by simp [Nos])).2.1.1
        have HE2 : Hid (EncS w7 c7 3 y (actP Y k t m v).s) := Lib.hid (by have := hS2.1; rw [last_act HY.out.2.2] at this; exact this)
        have HE1 : Hid (EncS w7 c7 1 x (actP Y k t m v).s) := Lib.hid hS.1
        have hA := actP_ok (k := k) (t := t) (n := m) (v := v) HY.out.1
        have hL3 : (actP Y k t m v).s.L ≤ 1000000 := by have := HY.out.2.1; omega
        have HL7 := Lib.hid L7
        have heq : (actE k t m v == actE k t m v) = true := by simp
        clear hS hS2 hkp hA L7 HS6 kc HY
        generalize (actP Y k t m v).s = s at *
        go_wp2_with fail
        have K := Kn.drew (Kn.start w7)
        refine wp_region_allX (fun w' => Kn w' _) [0, 8, 11] [(0,2),(1,1),(2,1),(3,1),(4,1),(5,1),(6,1),(7,1),(10,1),(8,2),(9,1),(11,2),(12,1),(13,1),(14,1),(15,0)] (by kernel_rfl) (by kernel_rfl) (fun _ _ d _ _ h => by cases d <;> exact h) (K) ?_
        generalize World.drew _ = wd6 at K ⊢
        refine oX_doG rfl rfl (fun KK hKK => ?_)
        go_simp
        refine (alive05 _).mono ?_
        rintro e w5 ⟨rfl, hb5⟩
        replace K := K.below hb5
        refine hKK (fun w' => Kn w' _) _ _ ?hsub K ?_
        case hsub => exact fun _ h => h
        clear hKK KK hb5
        repeat (first | (refine oX_freeG rfl rfl (fun w' hS => by skip; clear hS; go_simp; with_reducible rfl) ?_; go_simp) | (refine oX_skipG rfl rfl ?_; go_simp))
        refine oX_doG rfl rfl (fun KK hKK => ?_)
        go_simp
        refine (bytes_s (HE1.out.below K.1) hL3).mono ?_
        rintro e w6 ⟨A6, rfl, Q6, _, hb6⟩
        replace K := K.below hb6
        replace K := K.add (x := .rd A6 s.L (by8 (dig s.V s.L))) Q6
        refine hKK (fun w' => Kn w' _) _ _ ?hsub K ?_
        case hsub => exact fun _ h => h.2
        clear hKK KK hb6
        clear Q6
        repeat (first | (refine oX_freeG rfl rfl (fun w' hS => by have s1 := conv_any (c := s.L) hS.1; clear hS; go_simp; with_reducible rfl) ?_; go_simp) | (refine oX_skipG rfl rfl ?_; go_simp))
        refine oX_doG rfl rfl (fun KK hKK => ?_)
        go_simp
        refine (bytes_s (HE2.out.below K.2.1) hL3).mono ?_
        rintro e w8 ⟨A8, rfl, Q8, _, hb8⟩
        replace K := K.below hb8
        replace K := K.add (x := .rd A8 s.L (by8 (dig s.V s.L))) Q8
        refine hKK (fun w' => Kn w' _) _ _ ?hsub K ?_
        case hsub => exact fun _ h => h.2
        clear hKK KK hb8
        clear Q8
        repeat (first | (refine oX_freeG rfl rfl (fun w' hS => by have s1 := conv_any (c := s.L) hS.1; clear hS; go_simp; with_reducible rfl) ?_; go_simp) | (refine oX_skipG rfl rfl ?_; go_simp))
        repeat (refine oX_still rfl (fun KK hKK => ?_); go_simp; refine hKK _ ?_; clear hKK KK)
        refine oX_nil ?_
        have HL := Lib.hid K.2.2.1
        clear K
        go_wp2
        go_ret
        exact ⟨rfl, Kin.Below.step HL7.out HL.out HL7.out.size⟩
end BookTopics
namespace BookTopics
set_option maxRecDepth 100000 in
theorem lifted (os : Os) (started : os.Started) (H : Type) (enc : TypeId × Value → H) :
    ReturnsInHanded {} Try.checked os 5 .any (Rows.bookTopicsSpec.pre6 enc Try.prog Try.f5 Rows.bookTopicsRow.domain false) (Rows.bookTopicsSpec.post enc Try.prog Try.f5 false true false false) := by
  refine returnsInHanded_of_change (C := Try.checked) own started (by kernel_rfl) Try.func5
    (ChangeSpec.witness6 (enc := enc) (C := Try.checked) false ⟨#[], #[.slice none 0 0, .agg #[.int .i64 0, .int .i64 0, .int .i64 0, .int .i64 0]], []⟩ 8 (by kernel_rfl) (by kernel_rfl) (by kernel_rfl) (by kernel_rfl)) ?_
  intro W base args ds gs before hval0 hW hcnd _
  have hval : ∀ (j : Nat) t v, Try.f5.params[j]? = some t → args[j]? = some v → Value.okWide Try.prog W .any base t v := hval0
  refine law_post (tb := 4) laidOut (by kernel_rfl) rfl Try.underlying4 rfl (fun ds' h => ?_) hW ?_
  · rw [Try.params5] at h
    match ds', h with
    | [d1, d2], _ => exact ⟨rfl, rfl, rfl⟩
  obtain ⟨p, q, hA0, hV, rfl, hfz, hnd⟩ := hW
  have hA : DataW.TrodAll enc Try.prog W 0 (fun _ => true) true Try.f5.params.toList args.toList ds p := hA0
  rw [Try.params5] at hA hval
  obtain ⟨v0, vs0, d0, ds0, p0, q0, hargs, rfl, rfl, h0, r0⟩ := trodAll_cons hA
  obtain ⟨v1, vs1, d1, ds1, p1, q1, rfl, rfl, rfl, h1, r1⟩ := trodAll_cons r0
  obtain ⟨rfl, rfl, rfl⟩ := trodAll_nil r1
  obtain rfl : args = #[v0, v1] := by cases args; simp_all
  obtain ⟨A0, n0, c0, g0, rfl, rr0, t0, l0, m0⟩ := open_acts4 Try.underlying22 Try.underlying33 (by kernel_rfl) ⟨rfl, rfl⟩ ⟨rfl, rfl⟩ ⟨rfl, rfl⟩ ⟨rfl, rfl⟩ Try.underlying3 (by kernel_rfl) (hval 0 22 v0 rfl rfl) h0
  obtain ⟨a1, b1, c1, d41, rfl, w1, x1, y1, z1⟩ := open_act4 Try.underlying33 (by kernel_rfl) ⟨rfl, rfl⟩ ⟨rfl, rfl⟩ ⟨rfl, rfl⟩ ⟨rfl, rfl⟩ Try.underlying3 (by kernel_rfl) (hval 1 33 v1 rfl rfl) h1
  exact walk W A0 n0 c0 g0 rr0 t0 l0 m0 a1 b1 c1 d41 w1 x1 y1 z1
theorem over : Rows.bookTopicsRow.holds Try.pinned (OpenSpec.ofChange Rows.bookTopicsSpec) :=
  OpenClaim.holds_of_wide 5 Try.f5 rfl rfl rfl rfl rfl rfl rfl ⟨rfl, rfl, rfl, rfl, rfl⟩ rfl rfl rfl rfl rfl (by kernel_rfl) Try.func5 (by kernel_rfl)
    (of_decide_eq_true (by kernel_rfl)) (by unfold Func.isWrapper; first | (rw [if_pos (by decide +kernel)]; kernel_rfl) | (rw [if_neg (by decide +kernel)]; exact ⟨rfl, rfl⟩))
    (fun os started H enc _ => lifted os started H enc)
end BookTopics
theorem bookTopics_holds : Rows.BookTopicsSaid := BookTopics.over

end Go.Proofs.Ytmnoddmecghjdaa
