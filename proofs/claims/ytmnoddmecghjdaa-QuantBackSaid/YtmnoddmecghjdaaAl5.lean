/- Layer 5: acts put and got back, in plain numbers; the law's own live question is answered with yes. -/
import Derived.Test.YtmnoddmecghjdaaAc1
set_option linter.unusedVariables false
namespace Go.Proofs.Ytmnoddmecghjdaa
open Go.RowKit Go.Kin
section
variable {g : Nat → Int} {m : Nat} {f : St} {y : PS} {z : GS} {k t n v : Int}
theorem actP_ok (h : y.ok) : (actP y k t n v).ok ∧ (actP y k t n v).s.L ≤ y.s.L + 44 ∧ y.s.L ≤ (actP y k t n v).s.L := by
  unfold actP
  by_cases ho : actOk k t n v = true
  · rw [if_pos ho]
    unfold actOk at ho
    rw [Bool.and_eq_true] at ho
    obtain ⟨_, ho⟩ := ho
    by_cases h1 : k = 1
    · rw [if_pos h1] at ho ⊢
      have := of_decide_eq_true ho
      obtain ⟨a, b, c⟩ := PS.num_ok h (37 * t.toNat) (v := v.toNat) (by omega)
      exact ⟨a, by omega, c⟩
    · rw [if_neg h1] at ho ⊢
      by_cases h2 : k = 2
      · rw [if_pos h2] at ho ⊢
        exact PS.sgn_ok h _ (of_decide_eq_true ho)
      · rw [if_neg h2] at ho ⊢
        have := of_decide_eq_true ho
        obtain ⟨a, b, c⟩ := PS.one_ok h (37 * t.toNat) v.toNat (n := n.toNat) (by omega)
        exact ⟨a, by omega, c⟩
  · rw [if_neg ho]
    exact ⟨h, by omega, Nat.le_refl _⟩
theorem actP_within (h : y.ok) : Within y.s (actP y k t n v).s := by
  unfold actP
  by_cases ho : actOk k t n v = true
  · rw [if_pos ho]
    unfold actOk at ho
    rw [Bool.and_eq_true] at ho
    obtain ⟨_, ho⟩ := ho
    by_cases h1 : k = 1
    · rw [if_pos h1]; exact num_within h _ _
    · rw [if_neg h1] at ho ⊢
      by_cases h2 : k = 2
      · rw [if_pos h2] at ho ⊢; exact sgn_within h _ (of_decide_eq_true ho)
      · rw [if_neg h2]; exact one_within h _ _ _
  · rw [if_neg ho]; exact Within.refl _
theorem actG_ok (hg : Byt g) (h : z.ok m) : (actG g m z k t n).x.ok m := by
  unfold actG
  split
  · split
    · exact (GS.num_ok hg h _).1
    · split
      · have hn := GS.num_ok hg h (37 * t.toNat)
        unfold GS.sgn
        split
        · have := GS.get1_ok hg hn.1 (some (37 * t.toNat + 36))
          unfold nrSgn
          split <;> exact this
        · exact hn.1
      · have hl := GS.low_ok hg h (37 * t.toNat) (Lib.bitLen (n.toNat - 1))
        unfold GS.one nrOne
        split
        · split <;> exact hl.1
        · exact hl.1
  · exact h
theorem act_back (ht : Tw g y z) (hok : y.ok) (ho : actOk k t n v = true) (hw : Within (actP y k t n v).s f) (hf : FinC g m f) :
    (actG g m z k t n).v = v ∧ (actG g m z k t n).e = 0 ∧ Tw g (actP y k t n v) (actG g m z k t n).x := by
  have hgo : gotOk k t n = true := by
    unfold actOk at ho
    unfold gotOk
    rw [Bool.and_eq_true] at ho ⊢
    refine ⟨ho.1, ?_⟩
    have h2 := ho.2
    by_cases h1 : k = 1
    · rw [if_pos h1]
    · rw [if_neg h1] at h2 ⊢
      by_cases h3 : k = 2
      · rw [if_pos h3]
      · rw [if_neg h3] at h2 ⊢
        have := of_decide_eq_true h2
        exact decide_eq_true (by omega)
  unfold actP at hw ⊢
  unfold actG
  rw [if_pos ho] at hw ⊢
  rw [if_pos hgo]
  unfold actOk at ho
  rw [Bool.and_eq_true] at ho
  obtain ⟨_, ho⟩ := ho
  by_cases h1 : k = 1
  · rw [if_pos h1] at ho hw ⊢
    rw [if_pos h1]
    have := of_decide_eq_true ho
    obtain ⟨a, b, c⟩ := num_back ht hok (37 * t.toNat) (v := v.toNat) (by omega) hw hf
    exact ⟨by rw [a]; omega, b, c⟩
  · rw [if_neg h1] at ho hw ⊢
    rw [if_neg h1]
    by_cases h2 : k = 2
    · rw [if_pos h2] at ho hw ⊢
      rw [if_pos h2]
      exact sgn_back ht hok _ (of_decide_eq_true ho) hw hf
    · rw [if_neg h2] at ho hw ⊢
      rw [if_neg h2]
      have := of_decide_eq_true ho
      obtain ⟨a, b, c⟩ := one_back ht hok (37 * t.toNat) (m := n.toNat) (v := v.toNat) (by omega) (by omega) (by omega) hw hf
      exact ⟨by rw [a]; omega, b, c⟩
end
/-- The two acts of the live question. -/
def a5y1 : PS := actP PS0 2 3 0 (-70)
def a5y2 : PS := actP a5y1 3 3 5 4
def a5g : Nat → Int := dig a5y2.s.V a5y2.s.L
def a5z1 : NR := actG a5g a5y2.s.L (GS0 a5g) 2 3 0
def a5z2 : NR := actG a5g a5y2.s.L a5z1.x 3 3 5
theorem a5_y1 : a5y1.ok ∧ a5y1.s.L ≤ 48 ∧ 4 ≤ a5y1.s.L := by
  have := actP_ok (k := 2) (t := 3) (n := 0) (v := -70) PS0_ok
  exact ⟨this.1, this.2.1, this.2.2⟩
theorem a5_y2 : a5y2.ok ∧ a5y2.s.L ≤ 92 ∧ 4 ≤ a5y2.s.L := by
  have h1 := a5_y1
  have := actP_ok (k := 3) (t := 3) (n := 5) (v := 4) a5_y1.1
  exact ⟨this.1, Nat.le_trans this.2.1 (by omega), Nat.le_trans h1.2.2 this.2.2⟩
theorem a5_within : Within ⟨0, 4, 4294967295⟩ a5y2.s := (actP_within PS0_ok).trans (actP_within a5_y1.1)
theorem a5_fin : FinC a5g a5y2.s.L a5y2.s := fin_dig a5_y2.1.2 a5_within
theorem a5_1 : a5z1.v = -70 ∧ a5z1.e = 0 ∧ Tw a5g a5y1 a5z1.x := act_back (tw_start a5g) PS0_ok (by decide) (actP_within a5_y1.1) a5_fin
theorem a5_2 : a5z2.v = 4 ∧ a5z2.e = 0 ∧ Tw a5g a5y2 a5z2.x := act_back a5_1.2.2 a5_y1.1 (by decide) (Within.refl _) a5_fin
theorem a5_end : endK (a5y2.s.L - a5z2.x.d.I) a5z2.x.d.rest = 0 := tw_end a5_2.2.2 a5_y2.1.2 a5_within
theorem a5_same : sameC a5y2.C a5z2.x.C = true := by rw [a5_2.2.2.1]; exact sameC_iff.2 fun _ _ => rfl
theorem a5_other : sameC a5y2.C (fun _ => 1024) = false := by
  have h : a5y2.C 147 = 992 := by decide +kernel
  cases hs : sameC a5y2.C (fun _ => 1024)
  · rfl
  · have := sameC_iff.1 hs 147 (by omega)
    rw [h] at this
    simp at this
theorem a5_e1 : actE 2 3 0 (-70) = 0 := by decide
theorem a5_e2 : actE 3 3 5 4 = 0 := by decide
theorem a5_gok : (GS0 a5g).ok a5y2.s.L := GS0_ok (dig_byt _ _) a5_y2.2.2
theorem a5_z1ok : a5z1.x.ok a5y2.s.L := actG_ok (dig_byt _ _) a5_gok
theorem Kp.newc {w w' : World} (hb : Below w.heap.size w w') (col : Nat → Nat) (i : Nat) : Kp [i] w col w' (recol col w i) := Kp.upd (Upd.of_below hb col i)
set_option maxRecDepth 100000 in
set_option maxHeartbeats 4000000 in
theorem alive05 (w : World) : Calls Try.prog 21 #[] w fun e w' => e = .returned (.bool true) ∧ Below w.heap.size w w' := by
  have K := Kc.start w
  go_enter Try.func21, Try.ntmps21
  go_wp2_with fail
  refine (bnew_s _).mono ?_
  rintro e w1 ⟨b, rfl, hB, hb⟩
  replace hB := hB (fun _ => 0) 1
  have hk := Kp.newc hb (fun _ => 0) 1
  replace K := hk.kc K (by simp [Nos])
  generalize recol _ _ _ = c1 at *
  have HS := Lib.hid (And.intro hB K)
  clear hk hb hB K
  go_wp2_with fail
  refine (bnew_s _).mono ?_
  rintro e w2 ⟨c, rfl, hC, hb⟩
  replace hC := hC c1 2
  have hk := Kp.newc hb c1 2
  have hB := Bk.kp HS.out.1 hk (by simp)
  have K := hk.kc HS.out.2 (by simp [Nos])
  generalize recol _ _ _ = c2 at *
  have HS2 := Lib.hid (And.intro hB (And.intro hC K))
  clear hk hb hB K hC HS
  go_wp2_with fail
  refine (cnew_s _).mono ?_
  rintro e w3 ⟨x, rfl, hE, hb⟩
  replace hE := hE c2 3
  have hk := Kp.newc hb c2 3
  have hB := Bk.kp HS2.out.1 hk (by simp)
  have hC := Bk.kp HS2.out.2.1 hk (by simp)
  have K := hk.kc HS2.out.2.2 (by simp [Nos])
  generalize recol _ _ _ = c3 at *
  have HS := Lib.hid (And.intro (show SS w3 c3 3 x 1 b PS0 from ⟨hE, hB⟩) (And.intro hC K))
  clear hk hb hB K hC hE HS2
  go_wp2_with fail
  refine (bPutS_all 3 (-70) HS.out.1 (by omega) PS0_ok (by unfold PS0; dsimp only; omega)).mono ?_
  rintro e w4 ⟨c4, rfl, hS, hk⟩
  rw [a5_e1]
  have hC := Bk.kp HS.out.2.1 hk (by simp)
  have K := hk.kc HS.out.2.2 (by simp [Nos])
  have HS4 := Lib.hid (And.intro (show SS w4 c4 3 x 1 b a5y1 from hS) (And.intro hC K))
  clear hk hS K hC HS
  go_wp2_with fail
  refine (bPutO_all 3 3 5 4 (by decide) (by decide) HS4.out.1 (by omega) a5_y1.1 (by have := a5_y1.2; omega)).mono ?_
  rintro e w5 ⟨c5, rfl, hS, hk⟩
  rw [a5_e2]
  have hC := Bk.kp HS4.out.2.1 hk (by simp)
  have K := hk.kc HS4.out.2.2 (by simp [Nos])
  have HS := Lib.hid (And.intro (show SS w5 c5 3 x 1 b a5y2 from hS) (And.intro hC K))
  clear hk hS K hC HS4
  have hL := a5_y2
  go_wp2_with fail
  refine (bytes_s HS.out.1.1 (by omega)).mono ?_
  rintro e w6 ⟨A6, rfl, hR, hf, hb⟩
  have hk := Kp.below hb [] c5
  have hS6 := SS.kp HS.out.1 hk (by simp) (by simp)
  have hC := Bk.kp HS.out.2.1 hk (by simp)
  have K := hk.kc HS.out.2.2 (by simp)
  obtain ⟨b6, o6, rfl, -, -⟩ := hR.some_ (by omega)
  have HR := Lib.hid (show Rd w6 (some ⟨b6, o6, none⟩) a5y2.s.L (by8 a5g) from hR)
  have HS6 := Lib.hid (And.intro hS6 (And.intro hC K))
  clear hk hS6 K hC HS hR hb hf
  generalize hLL : a5y2.s.L = LL at *
  have HLL := Lib.hid hLL
  clear hLL
  go_wp2_with fail
  refine (open_s _ LL LL a5g _ HR.out (dig_byt _ _) (by omega) (by omega) (by omega) (by omega)).mono ?_
  rintro e w7 ⟨q, rfl, hD, hb⟩
  replace hD := hD c5 4
  have hk := Kp.newc hb c5 4
  have hS7 := SS.kp HS6.out.1 hk (by simp) (by simp)
  have hC := Bk.kp HS6.out.2.1 hk (by simp)
  have K := hk.kc HS6.out.2.2 (by simp [Nos])
  generalize recol _ _ _ = c7 at *
  have HS := Lib.hid (And.intro (show SG w7 c7 4 q LL a5g 2 c (GS0 a5g) from ⟨hD, hC⟩) (And.intro hS7.2 K))
  clear hk hS7 K hC hD hb HS6 HR
  go_wp2_with fail
  have hgok := a5_gok
  rw [HLL.out] at hgok
  refine (bGetS_all 3 HS.out.1 (dig_byt _ _) (by omega) hgok).mono ?_
  rintro e w8 ⟨c8, rfl, hS, hk⟩
  have h1 := a5_1
  have HZ1 : Hid (actG a5g LL (GS0 a5g) 2 3 0 = a5z1) := Lib.hid (by unfold a5z1; rw [HLL.out])
  rw [HZ1.out] at hS ⊢
  rw [h1.1, h1.2.1]
  have hB := Bk.kp HS.out.2.1 hk (by simp)
  have K := hk.kc HS.out.2.2 (by simp [Nos])
  have HS8 := Lib.hid (And.intro hS (And.intro hB K))
  clear hk hS K hB HS h1 hgok
  go_wp2_with fail
  have hgok := a5_z1ok
  rw [HLL.out] at hgok
  refine (bGetO_all 3 3 5 (by decide) (by decide) HS8.out.1 (dig_byt _ _) (by omega) hgok).mono ?_
  rintro e w9 ⟨c9, rfl, hS, hk⟩
  have h2 := a5_2
  have HZ2 : Hid (actG a5g LL a5z1.x 3 3 5 = a5z2) := Lib.hid (by unfold a5z2; rw [HLL.out])
  rw [HZ2.out] at hS ⊢
  rw [h2.1, h2.2.1]
  have hB := Bk.kp HS8.out.2.1 hk (by simp)
  have K := hk.kc HS8.out.2.2 (by simp [Nos])
  have HS := Lib.hid (And.intro hS (And.intro hB K))
  clear hk hS K hB HS8 h2 hgok
  go_wp2_with fail
  refine (end_s HS.out.1.1).mono ?_
  rintro e w' ⟨rfl, rfl⟩
  have hend := a5_end
  rw [HLL.out] at hend
  rw [hend]
  clear hend
  go_wp2_with fail
  refine (same_any b c _ _ _ HS.out.2.1.1 HS.out.1.2.1).mono ?_
  rintro e w10 ⟨rfl, hb⟩
  rw [a5_same]
  have K := (Kp.below hb [] c9).kc HS.out.2.2 (by simp)
  have hB := Bk.kp HS.out.2.1 (Kp.below hb [] c9) (by simp)
  have HS10 := Lib.hid (And.intro hB K)
  clear HS K hB hb
  go_wp2_with fail
  refine (bnew_s _).mono ?_
  rintro e w11 ⟨d, rfl, hD, hb⟩
  replace hD := hD c9 5
  have hk := Kp.newc hb c9 5
  have hB := Bk.kp HS10.out.1 hk (by simp)
  have K := hk.kc HS10.out.2 (by simp [Nos])
  generalize recol _ _ _ = c11 at *
  have HS := Lib.hid (And.intro hB (And.intro hD K))
  clear hk hb hB K hD HS10
  go_wp2_with fail
  refine (same_any b d _ _ _ HS.out.1.1 HS.out.2.1.1).mono ?_
  rintro e w12 ⟨rfl, hb⟩
  rw [a5_other]
  have L := Kc.sinceB ((Kp.below hb [] c11).kc HS.out.2.2 (by simp))
  clear hb
  go_wp2
  go_ret
  exact ⟨rfl, L⟩
end Go.Proofs.Ytmnoddmecghjdaa
