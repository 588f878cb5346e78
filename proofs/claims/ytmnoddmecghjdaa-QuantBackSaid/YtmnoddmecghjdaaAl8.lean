/- Layer 8: the law's own live question is answered with yes. -/
import Derived.Test.YtmnoddmecghjdaaQu5
import Derived.Test.YtmnoddmecghjdaaAl5
set_option linter.unusedVariables false
namespace Go.Proofs.Ytmnoddmecghjdaa
open Go.RowKit Go.Kin
def a8b : Nat → Int := fun i => if i = 4 then -3 else 0
def a8y : PS := PS0.blk 2 16 a8b
def a8g : Nat → Int := dig a8y.s.V a8y.s.L
def a8z : VR := (GS0 a8g).blk a8g a8y.s.L 2 16
theorem a8_b : Wi 1048576 16 a8b := fun i _ => by unfold a8b; split <;> omega
theorem a8_s : sideN 16 ≠ 0 := by decide
theorem a8_y : a8y.ok ∧ a8y.s.L ≤ 2904 ∧ 4 ≤ a8y.s.L := by
  have := PS.blk_ok (t := 2) PS0_ok a8_s a8_b
  exact ⟨this.1, this.2.1, this.2.2⟩
theorem a8_within : Within ⟨0, 4, 4294967295⟩ a8y.s := blk_within PS0_ok a8_s a8_b
theorem a8_fin : FinC a8g a8y.s.L a8y.s := fin_dig a8_y.1.2 a8_within
theorem a8_back : a8z.e = 0 ∧ (∀ j, j < 16 → uns 16 a8z.h j = a8b j) ∧ Tw a8g a8y a8z.x := blk_back (tw_start a8g) PS0_ok 2 a8_s a8_b (Within.refl _) a8_fin
theorem a8_end : endK (a8y.s.L - a8z.x.d.I) a8z.x.d.rest = 0 := tw_end a8_back.2.2 a8_y.1.2 a8_within
theorem a8_gok : (GS0 a8g).ok a8y.s.L := GS0_ok (dig_byt _ _) a8_y.2.2
theorem a8_stp : stp 13 2 1 = 17 := by decide
theorem a8_lev : levI (-20) 17 = -1 := by decide
set_option maxRecDepth 100000 in
set_option maxHeartbeats 8000000 in
theorem alive08 (w : World) : Calls Try.prog 34 #[] w fun e w' => e = .returned (.bool true) ∧ Below w.heap.size w w' := by
  have hmk : ∀ w, (Instr.makeSlice 57 (.int .i64 16) (.int .i64 16)).run Try.prog w = .ok (.slice (some ⟨w.heap.size, 0, none⟩) 16 16) (w.alloc (.cells (madeCells #[.int .i64 0] 16) 3)) := make_i64 16 (by omega)
  have KN := (Kn.start w).make w.heap.size (.int .i64 0) 16 3 rfl
  have cr := Row.cell KN.1 (i := 4) (by omega)
  have fr := Row.frozen KN.1 4
  have KN2 := (Kn.setRow KN 4 (.int .i64 (-3)) ⟨Nat.le_refl _, trivial⟩).row (g := in64 a8b) (fun i hi => by unfold in64 a8b; split <;> rfl)
  rw [World.setCell_alloc_at _ _ _ _ _ rfl] at KN2
  have hk := Kp.newc (show Below w.heap.size w _ from KN2.2.1) (fun _ => 0) 5
  have K := ((hk.kc (Kc.start w) (by simp [Nos])).add (j := 5) KN2.1 (recol_ge (Nat.le_refl _)))
  have HK := Lib.hid K
  clear KN KN2 hk K
  go_enter Try.func34, Try.ntmps34
  go_wp2_with fail
  refine (qstep_yes 13 2 1 _ (by omega) (by omega) (by omega)).mono ?_
  rintro e w' ⟨rfl, hww⟩
  subst hww
  rw [a8_stp]
  go_wp2_with fail
  refine (bnew_s _).mono ?_
  rintro e w2 ⟨b, rfl, hB, hb⟩
  generalize recol (fun _ => 0) w 5 = c0 at *
  replace hB := hB c0 1
  have hk := Kp.newc hb c0 1
  have K := hk.kc HK.out (by simp [Nos])
  generalize recol _ _ _ = c2 at *
  have HS2 := Lib.hid (And.intro hB K)
  generalize w.heap.size = bl at *
  clear hk hb hB K HK cr fr
  go_wp2_with fail
  refine (cnew_s _).mono ?_
  rintro e w3 ⟨x, rfl, hE, hb⟩
  replace hE := hE c2 3
  have hk := Kp.newc hb c2 3
  have hB := Bk.kp HS2.out.1 hk (by simp)
  have K := hk.kc HS2.out.2 (by simp [Nos])
  generalize recol _ _ _ = c3 at *
  have HS := Lib.hid (And.intro (show SS w3 c3 3 x 1 b PS0 from ⟨hE, hB⟩) K)
  clear hk hb hB K hE HS2
  go_wp2_with fail
  have hP := qput_yes 2 (some ⟨bl, 0, none⟩) 16 16 a8b HS.out.1 (by omega) PS0_ok (by unfold PS0; dsimp only; omega) (Row.rd HS.out.2.1.1) a8_s a8_b (by omega)
  refine hP.mono ?_
  rintro e w4 ⟨c4, rfl, hS, hk⟩
  have K := hk.kc HS.out.2 (by simp [Nos])
  have HS4 := Lib.hid (And.intro (show SS w4 c4 3 x 1 b a8y from hS) K)
  clear hk hS K HS hP
  have hL := a8_y
  go_wp2_with fail
  refine (bytes_s HS4.out.1.1 (by omega)).mono ?_
  rintro e w6 ⟨A6, rfl, hR, hf, hb⟩
  have hk := Kp.below hb [] c4
  have K := hk.kc HS4.out.2 (by simp)
  obtain ⟨b6, o6, rfl, -, -⟩ := hR.some_ (by omega)
  have HR := Lib.hid (show Rd w6 (some ⟨b6, o6, none⟩) a8y.s.L (by8 a8g) from hR)
  have HS6 := Lib.hid K
  clear hk K HS4 hR hb hf
  generalize hLL : a8y.s.L = LL at *
  have HLL := Lib.hid hLL
  clear hLL
  go_wp2_with fail
  refine (open_s _ LL LL a8g _ HR.out (dig_byt _ _) (by omega) (by omega) (by omega) (by omega)).mono ?_
  rintro e w7 ⟨q, rfl, hD, hb⟩
  replace hD := hD c4 4
  have hk := Kp.newc hb c4 4
  have K := hk.kc HS6.out (by simp [Nos])
  generalize recol _ _ _ = c7 at *
  have HS := Lib.hid (And.intro hD K)
  clear hk K hD hb HS6 HR
  go_wp2_with fail
  refine (bnew_s _).mono ?_
  rintro e w8 ⟨c, rfl, hC, hb⟩
  replace hC := hC c7 2
  have hk := Kp.newc hb c7 2
  have hD := DecS.kp HS.out.1 hk (by simp)
  have K := hk.kc HS.out.2 (by simp [Nos])
  generalize recol _ _ _ = c8 at *
  have HS8 := Lib.hid (And.intro (show SG w8 c8 4 q LL a8g 2 c (GS0 a8g) from ⟨hD, hC⟩) K)
  clear hk hb hC K hD HS
  have hgok := a8_gok
  rw [HLL.out] at hgok
  go_wp2_with fail
  have hP := qget_yes (k := 6) (N := 16) 2 HS8.out.1 (dig_byt _ _) (by omega) (by omega) hgok a8_s (by omega)
  have HZ : Hid ((GS0 a8g).blk a8g LL 2 16 = a8z) := Lib.hid (by unfold a8z; rw [HLL.out])
  rw [HZ.out] at hP
  refine hP.mono ?_
  rintro e w9 ⟨c9, B, cb, n, rfl, hn, hcb, hcm, hI, hG, hk⟩
  rw [a8_back.1, if_pos rfl] at hn
  rw [a8_back.1]
  subst hn
  have K := hk.kc HS8.out.2 (by simp [Nos])
  have HS := Lib.hid (And.intro hI.1 (And.intro hG.1 K))
  have hend := a8_end
  rw [HLL.out] at hend
  have HEN := Lib.hid hend
  clear hP hgok HS8 hI hG hk K hend
  go_wp2_with fail
  refine (lev_any (-20) 17 _ (by omega) (by omega)).mono ?_
  rintro e w' ⟨rfl, hww⟩
  subst hww
  rw [a8_lev]
  go_wp2_with fail
  refine (same7_yes B (some ⟨bl, 0, none⟩) 16 cb 16 _ a8b _ HS.out.1 (Row.rd HS.out.2.2.1.1) a8_back.2.1 (by omega)).mono ?_
  rintro e w10 ⟨rfl, hb⟩
  have hk := Kp.below hb [] c9
  have HS10 := Lib.hid (And.intro (DecS.kp HS.out.2.1 hk (by simp)) (hk.kc HS.out.2.2 (by simp)))
  clear hk hb HS
  go_wp2_with fail
  refine (end_s HS10.out.1).mono ?_
  rintro e w' ⟨rfl, hww⟩
  subst hww
  rw [HEN.out]
  go_wp2
  go_ret
  exact ⟨rfl, Kc.sinceB HS10.out.2.2⟩
end Go.Proofs.Ytmnoddmecghjdaa
