/- BookWrites: any numbers of any topics are put as the document says, or answered with its error; the code is as it says. No condition. -/
import Derived.Test.YtmnoddmecghjdaaAl5
import Derived.Test.YtmnoddmecghjdaaAc2
import Derived.Test.YtmnoddmecghjdaaBr6
import Derived.Test.YtmnoddmecghjdaaClose4
import Derived.Test.YtmnoddmecghjdaaRg3M
set_option linter.unusedVariables false
namespace Go.Proofs.Ytmnoddmecghjdaa
open Go.ChangeShapes Go.WideShapes Go.ChangeAt Go.RowKit Go.Joins Go.Kin
namespace BookWrites
set_option maxRecDepth 100000 in
set_option maxHeartbeats 8000000 in
theorem walk (w : World) (A : Option Addr) (n cap : Nat) (f : Nat → Nat → Int) (hR : Rd w A (n * 4) (recs 4 f)) (hf : ∀ i r, I64 (f i r)) (hn : n ≤ cap) (hcap : cap ≤ 9223372036854775807) :
    Calls Try.prog 3 #[.slice A n cap] w fun e w' => e = .returned (.bool true) ∧ Below w.heap.size w w' := by
  have HR := Lib.hid hR
  clear hR hf
  have K := Kc.start w
  go_enter Try.func3, Try.ntmps3
  go_wp2_with fail
  refine (bnew_s _).mono ?_
  rintro e w1 ⟨b, rfl, hB, hb⟩
  replace hB := hB (fun _ => 0) 2
  have hkp := Kp.newc hb (fun _ => 0) 2
  replace K := hkp.kc K (by simp [Nos])
  generalize recol _ _ _ = c1 at *
  have HS := Lib.hid (And.intro hB K)
  clear hkp hb hB K
  go_wp2_with fail
  refine (rbnew_s _).mono ?_
  rintro e w2 ⟨m, rfl, hM, hb⟩
  replace hM := hM c1 4
  have hkp := Kp.newc hb c1 4
  have hB := Bk.kp HS.out.1 hkp (by simp)
  have K := hkp.kc HS.out.2 (by simp [Nos])
  generalize recol _ _ _ = c2 at *
  have HS2 := Lib.hid (And.intro hB (And.intro hM K))
  clear hkp hb hB K hM HS
  go_wp2_with fail
  refine (cnew_s _).mono ?_
  rintro e w3 ⟨x, rfl, hE, hb⟩
  replace hE := hE c2 1
  have hkp := Kp.newc hb c2 1
  have hB := Bk.kp HS2.out.1 hkp (by simp)
  have hM := BkR.kp HS2.out.2.1 hkp (by simp)
  have K := hkp.kc HS2.out.2.2 (by simp [Nos])
  generalize recol _ _ _ = c3 at *
  have HS3 := Lib.hid (And.intro (show SS w3 c3 1 x 2 b PS0 from ⟨hE, hB⟩) (And.intro hM K))
  clear hkp hb hB K hM hE HS2
  go_wp2_with fail
  refine (rnew_s _).mono ?_
  rintro e w4 ⟨y, rfl, hE, hb⟩
  replace hE := hE c3 3
  have hkp := Kp.newc hb c3 3
  have hS := SS.kp HS3.out.1 hkp (by simp) (by simp)
  have hM := BkR.kp HS3.out.2.1 hkp (by simp)
  have K := hkp.kc HS3.out.2.2 (by simp [Nos])
  generalize recol _ _ _ = c4 at *
  have HS4 := Lib.hid (And.intro hS (And.intro (show SSR w4 c4 3 y 4 m PS0 from ⟨hE, hM⟩) K))
  clear hkp hb hS K hM hE HS3
  go_wp2_with fail
  go_loopw [7] (fun i wr => ∃ (j : Nat) (Y : PS) (col : Nat → Nat), j ≤ n ∧ j ≤ 100 ∧ i = .int .i64 j ∧ Y.ok ∧ Y.s.L ≤ 4 + 44 * j ∧ SS wr col 1 x 2 b Y ∧ SSR wr col 3 y 4 m Y ∧ Kc wr col [(0, .since w)]) (fun i _ => (100 - intOf i).toNat)
  case atStart => exact ⟨0, PS0, c4, by omega, by omega, rfl, PS0_ok, Nat.le_refl _, HS4.out.1, HS4.out.2.1, HS4.out.2.2⟩
  case round =>
    obtain ⟨j, Y, col, hjn, hj1, rfl, hok, hYL, hS, hM, K⟩ := hrel
    have HY := Lib.hid (And.intro hok hYL)
    clear HS4 hok hYL
    by_cases hlt : j < n ∧ j < 100
    · have l1 : (j : Int) < n := by omega
      have l2 : (j : Int) < 100 := by omega
      have HRE : Hid (Rd wr.drew A (n * 4) (recs 4 f)) := Lib.hid (HR.out.below K.sinceB).drew
      obtain ⟨b0, off, rfl, -, -⟩ := HR.out.some_ (by omega)
      have hjlt := hlt.1
      have hd := Kp.below (below_drew wr) [] col
      have HS := Lib.hid (And.intro (SS.kp hS hd (by simp) (by simp)) (And.intro (SSR.kp hM hd (by simp) (by simp)) (hd.kc K (by simp))))
      have HPL := Lib.hid (actP_ok (k := f j 0) (t := f j 1) (n := f j 2) (v := f j 3) HY.out.1)
      clear hS hM K hlt hd
      have hne : (actE (f j 0) (f j 1) (f j 2) (f j 3) != actE (f j 0) (f j 1) (f j 2) (f j 3)) = false := by simp
      go_wp2_with fail
      refine wp_region_allH (fun w' => Rd w' (some ⟨b0, off, none⟩) (n * 4) (recs 4 f)) [6, 13] [(0,1),(1,1),(2,1),(3,1),(4,1),(5,1),(7,1),(8,1),(9,1),(10,1),(11,1),(12,1),(6,2),(13,2),(14,0)] (by kernel_rfl) (by kernel_rfl) (fun _ _ d _ _ h => by cases d <;> exact h) (HRE.out) ?_
      generalize wr.drew = we at *
      repeat (first | (refine oH_freeG rfl rfl (fun w' hS => by have s1 := recs_cell hS (i := j) (r := 0) hjlt (by omega); rw [Nat.add_zero] at s1; have s2 := recs_cell hS (i := j) (r := 1) hjlt (by omega); have s3 := recs_cell hS (i := j) (r := 2) hjlt (by omega); have s4 := recs_cell hS (i := j) (r := 3) hjlt (by omega); clear hS; go_simp; with_reducible rfl) ?_; go_simp) | (refine oH_skipG rfl rfl ?_; go_simp))
      refine oH_doG rfl rfl (fun KK hKK => ?_)
      go_simp
      refine (actPut_any (f j 0) (f j 1) (f j 2) (f j 3) HS.out.1 (by omega) HY.out.1 (by have := HY.out.2; omega)).mono ?_
      rintro e w6 ⟨c6, rfl, hS, hkp⟩
      have hM := SSR.kp HS.out.2.1 hkp (by simp) (by simp)
      have K := hkp.kc HS.out.2.2 (by simp [Nos])
      have HS6 := Lib.hid (And.intro hS (And.intro hM K))
      have HR6 : Hid (Rd w6 (some ⟨b0, off, none⟩) (n * 4) (recs 4 f)) := Lib.hid (HR.out.below K.sinceB)
      clear hS hM K hkp HS HRE
      refine hKK _ _ ⟨HR6.out, ?_⟩
      clear hKK KK
      refine oH_doG rfl rfl (fun KK hKK => ?_)
      go_simp
      refine (actPutR_any (f j 0) (f j 1) (f j 2) (f j 3) HS6.out.2.1 (by omega) HY.out.1 (by have := HY.out.2; omega)).mono ?_
      rintro e w7 ⟨c7, rfl, hM, hkp⟩
      have hS := SS.kp HS6.out.1 hkp (by simp) (by simp)
      have K := hkp.kc HS6.out.2.2 (by simp [Nos])
      have HS7 := Lib.hid (And.intro hS (And.intro hM K))
      have HR7 : Hid (Rd w7 (some ⟨b0, off, none⟩) (n * 4) (recs 4 f)) := Lib.hid (HR.out.below K.sinceB)
      clear hS hM K hkp HS6 HR6
      refine hKK _ _ ⟨HR7.out, ?_⟩
      clear hKK KK HR7
      repeat (refine oH_still rfl (fun KK hKK => ?_); go_simp; refine hKK _ ?_; clear hKK KK)
      refine oH_nil ?_
      go_wp2
      go_roundw
      case rel => exact ⟨j + 1, _, c7, by omega, by omega, by go_num, HPL.out.1, by have := HPL.out.2.1; have := HY.out.2; omega, HS7.out.1, HS7.out.2.1, HS7.out.2.2⟩
      case measure => simp [intOf]; omega
    · have HS := Lib.hid (And.intro hS (And.intro hM K))
      have hex : (¬ (j : Int) < n) ∨ ((j : Int) < n ∧ ¬ (j : Int) < 100) := by omega
      have hL3 : Y.s.L ≤ 1000000 := by have := HY.out.2; omega
      clear hlt hS hM K
      rcases hex with l1 | ⟨l1, l2⟩
      all_goals
        go_wp2_with fail
        have K := Kn.drew (Kn.start wr)
        refine wp_region_allX (fun w' => Kn w' _) [0, 3, 6] [(0,2),(1,1),(2,1),(5,1),(3,2),(4,1),(6,2),(7,1),(8,1),(9,1),(10,0)] (by kernel_rfl) (by kernel_rfl) (fun _ _ d _ _ h => by cases d <;> exact h) (K) ?_
        generalize World.drew _ = wd6 at K ⊢
        refine oX_doG rfl rfl (fun KK hKK => ?_)
        go_simp
        refine (alive05 _).mono ?_
        rintro e w5 ⟨rfl, hb5⟩
        replace K := K.below hb5
        refine hKK (fun w' => Kn w' _) _ _ ?hsub K ?_
        case hsub => exact fun _ h => h
        clear hKK KK hb5
        repeat (first | (refine oX_freeG rfl rfl (fun w' hS => by skip; clear hS; go_simp; with_reducible rfl) ?_; go_simp) | (refine oX_skipG rfl rfl ?_; go_simp))
        refine oX_doG rfl rfl (fun KK hKK => ?_)
        go_simp
        refine (bytes_s (HS.out.1.1.below K.1) hL3).mono ?_
        rintro e w6 ⟨A6, rfl, Q6, _, hb6⟩
        replace K := K.below hb6
        replace K := K.add (x := .rd A6 Y.s.L (by8 (dig Y.s.V Y.s.L))) Q6
        refine hKK (fun w' => Kn w' _) _ _ ?hsub K ?_
        case hsub => exact fun _ h => h.2
        clear hKK KK hb6
        clear Q6
        repeat (first | (refine oX_freeG rfl rfl (fun w' hS => by have s1 := conv_any (c := Y.s.L) hS.1; clear hS; go_simp; with_reducible rfl) ?_; go_simp) | (refine oX_skipG rfl rfl ?_; go_simp))
        refine oX_doG rfl rfl (fun KK hKK => ?_)
        go_simp
        refine (rbytes_s (HS.out.2.1.1.below K.2.1) hL3).mono ?_
        rintro e w7 ⟨A7, c7, rfl, Q7, _, hb7⟩
        replace K := K.below hb7
        replace K := K.add (x := .rd A7 Y.s.L (by8 (dig Y.s.V Y.s.L))) Q7
        refine hKK (fun w' => Kn w' _) _ _ ?hsub K ?_
        case hsub => exact fun _ h => h.2
        clear hKK KK hb7
        clear Q7
        repeat (first | (refine oX_freeG rfl rfl (fun w' hS => by have s1 := conv_any (c := c7) hS.1; clear hS; go_simp; with_reducible rfl) ?_; go_simp) | (refine oX_skipG rfl rfl ?_; go_simp))
        repeat (refine oX_still rfl (fun KK hKK => ?_); go_simp; refine hKK _ ?_; clear hKK KK)
        refine oX_nil ?_
        have HL := Lib.hid K.2.2.1
        clear K
        go_wp2
        go_ret
        exact ⟨rfl, Kin.Below.step HS.out.2.2.sinceB HL.out HS.out.2.2.sinceB.size⟩
end BookWrites
namespace BookWrites
set_option maxRecDepth 100000 in
theorem lifted (os : Os) (started : os.Started) (H : Type) (enc : TypeId × Value → H) :
    ReturnsInHanded {} Try.checked os 3 .any (Rows.bookWritesSpec.pre6 enc Try.prog Try.f3 Rows.bookWritesRow.domain false) (Rows.bookWritesSpec.post enc Try.prog Try.f3 false true false false) := by
  refine returnsInHanded_of_change (C := Try.checked) own started (by kernel_rfl) Try.func3
    (ChangeSpec.witness6 (enc := enc) (C := Try.checked) false ⟨#[], #[.slice none 0 0], []⟩ 8 (by kernel_rfl) (by kernel_rfl) (by kernel_rfl) (by kernel_rfl)) ?_
  intro W base args ds gs before hval0 hW hcnd _
  have hval : ∀ (j : Nat) t v, Try.f3.params[j]? = some t → args[j]? = some v → Value.okWide Try.prog W .any base t v := hval0
  refine law_post (tb := 4) laidOut (by kernel_rfl) rfl Try.underlying4 rfl (fun ds' h => ?_) hW ?_
  · rw [Try.params3] at h
    match ds', h with
    | [d1], _ => exact ⟨rfl, rfl, rfl⟩
  obtain ⟨p, q, hA0, hV, rfl, hfz, hnd⟩ := hW
  have hA : DataW.TrodAll enc Try.prog W 0 (fun _ => true) true Try.f3.params.toList args.toList ds p := hA0
  rw [Try.params3] at hA hval
  obtain ⟨v0, vs0, d0, ds0, p0, q0, hargs, rfl, rfl, h0, r0⟩ := trodAll_cons hA
  obtain ⟨rfl, rfl, rfl⟩ := trodAll_nil r0
  obtain rfl : args = #[v0] := by cases args; simp_all
  obtain ⟨A0, n0, c0, g0, rfl, rr0, t0, l0, m0⟩ := open_acts4 Try.underlying22 Try.underlying33 (by kernel_rfl) ⟨rfl, rfl⟩ ⟨rfl, rfl⟩ ⟨rfl, rfl⟩ ⟨rfl, rfl⟩ Try.underlying3 (by kernel_rfl) (hval 0 22 v0 rfl rfl) h0
  exact walk W A0 n0 c0 g0 rr0 t0 l0 m0
theorem over : Rows.bookWritesRow.holds Try.pinned (OpenSpec.ofChange Rows.bookWritesSpec) :=
  OpenClaim.holds_of_wide 3 Try.f3 rfl rfl rfl rfl rfl rfl rfl ⟨rfl, rfl, rfl, rfl, rfl⟩ rfl rfl rfl rfl rfl (by kernel_rfl) Try.func3 (by kernel_rfl)
    (of_decide_eq_true (by kernel_rfl)) (by unfold Func.isWrapper; first | (rw [if_pos (by decide +kernel)]; kernel_rfl) | (rw [if_neg (by decide +kernel)]; exact ⟨rfl, rfl⟩))
    (fun os started H enc _ => lifted os started H enc)
end BookWrites
theorem bookWrites_holds : Rows.BookWritesSaid := BookWrites.over

end Go.Proofs.Ytmnoddmecghjdaa
