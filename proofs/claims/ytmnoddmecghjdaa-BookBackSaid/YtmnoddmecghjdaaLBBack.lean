/- BookBack: what was put by a book is got by another one, and that was all; what is refused changes nothing. No condition. -/
import Derived.Test.YtmnoddmecghjdaaBb1
import Derived.Test.YtmnoddmecghjdaaClose4
import Derived.Test.YtmnoddmecghjdaaRg4
set_option linter.unusedVariables false
namespace Go.Proofs.Ytmnoddmecghjdaa
open Go.ChangeShapes Go.WideShapes Go.ChangeAt Go.RowKit Go.Joins Go.Kin
namespace BookBack
set_option maxRecDepth 100000 in
set_option maxHeartbeats 8000000 in
theorem walk (w : World) (A : Option Addr) (n cap : Nat) (f : Nat → Nat → Int) (hR : Rd w A (n * 4) (recs 4 f)) (hf : ∀ i r, I64 (f i r)) (hn : n ≤ cap) (hcap : cap ≤ 9223372036854775807) :
    Calls Try.prog 7 #[.slice A n cap] w fun e w' => e = .returned (.bool true) ∧ Below w.heap.size w w' := by
  obtain ⟨ia, hia, ha0, ha1, ha2⟩ := parts_act4
  have HIA := Lib.hid hia
  have HR := Lib.hid hR
  clear hR hf hia
  have K := Kc.start w
  go_enter Try.func7, Try.ntmps7
  go_wp2_with fail
  refine (bnew_s _).mono ?_
  rintro e w1 ⟨b, rfl, hB, hb⟩
  replace hB := hB (fun _ => 0) 2
  have hkp := Kp.newc hb (fun _ => 0) 2
  replace K := hkp.kc K (by simp [Nos])
  generalize recol _ _ _ = c1 at *
  have HS := Lib.hid (And.intro hB K)
  clear hkp hb hB K
  go_wp2_with fail
  refine (cnew_s _).mono ?_
  rintro e w2 ⟨x, rfl, hE, hb⟩
  replace hE := hE c1 1
  have hkp := Kp.newc hb c1 1
  have hB := Bk.kp HS.out.1 hkp (by simp)
  have K := hkp.kc HS.out.2 (by simp [Nos])
  generalize recol _ _ _ = c2 at *
  have HS2 := Lib.hid (And.intro (show SS w2 c2 1 x 2 b PS0 from ⟨hE, hB⟩) K)
  clear hkp hb hB K hE HS
  go_wp2_with fail
  go_loopw [5, 6] (fun dn i wr => ∃ (j q c : Nat) (B : Option Addr) (F : Nat → Nat → Int) (col : Nat → Nat), j ≤ n ∧ j ≤ 100 ∧ q ≤ j ∧ i = .int .i64 j ∧ dn = .slice B q c ∧ AllOk F q ∧ Recs wr col 5 33 4 B q c F ∧ SS wr col 1 x 2 b (runB F q) ∧ Kc wr col [(0, .since w)]) (fun _ i _ => (100 - intOf i).toNat)
  case atStart => exact ⟨0, 0, 0, none, fun _ _ => 0, c2, by omega, by omega, by omega, rfl, rfl, fun i hi => absurd hi (by omega), ⟨OwnK.nil _ _ _ _ _, fun b o hA => by cases hA⟩, HS2.out.1, HS2.out.2⟩
  case round =>
    obtain ⟨j, q, c, B, F, col, hjn, hj1, hq, rfl, rfl, hF, hD, hS, K⟩ := hrel
    have HF := Lib.hid hF
    have HS := Lib.hid (And.intro hD (And.intro hS K))
    clear HS2 hF hD hS K
    by_cases hlt : j < n ∧ j < 100
    · have l1 : (j : Int) < n := by omega
      have l2 : (j : Int) < 100 := by omega
      obtain ⟨b0, off, rfl, -, -⟩ := HR.out.some_ (by omega)
      have hjlt := hlt.1
      have HO := Lib.hid (runB_ok F q)
      have HM : Hid (∀ x, runB (recAdd F q x) (q + 1) = actP (runB F q) (x 0) (x 1) (x 2) (x 3)) := Lib.hid (runB_more F q)
      have HYF : Hid (∃ Y, Y = runB F q) := Lib.hid ⟨_, rfl⟩
      clear hlt
      generalize hY : runB F q = Y at *
      have HY := Lib.hid hY
      clear hY HYF
      go_wp2_with fail
      refine (copy_any b _ _ HS.out.2.1.2.1).mono ?_
      rintro e w3 ⟨rfl, hW, hb⟩
      have hkp := Kp.newc hb col 6
      have hD := Recs.kp HS.out.1 hkp (by simp)
      have hS := SS.kp HS.out.2.1 hkp (by simp) (by simp)
      have K := hkp.kc HS.out.2.2 (by simp [Nos])
      have hW' : Bk w3 (recol col wr 6) 6 wr.heap.size Y.C := ⟨hW, recol_ge (Nat.le_refl _)⟩
      clear hkp hb hW HS
      generalize recol _ _ _ = c3 at *
      generalize wr.heap.size = was at *
      have HS3 := Lib.hid (And.intro hD (And.intro hS (And.intro hW' K)))
      clear hD hS hW' K
      go_wp2_with fail
      refine (bytes_s HS3.out.2.1.1 (by have := HO.out.2.1; omega)).mono ?_
      rintro e w4 ⟨A4, rfl, hR4, hA4, hb⟩
      have hkp := Kp.newc hb c3 7
      have hD := Recs.kp HS3.out.1 hkp (by simp)
      have hS := SS.kp HS3.out.2.1 hkp (by simp) (by simp)
      have hW := Bk.kp HS3.out.2.2.1 hkp (by simp)
      have K := (hkp.kc HS3.out.2.2.2 (by simp [Nos])).fresh hR4 hA4
      clear hkp hb hR4 hA4 HS3
      generalize recol _ _ _ = c4 at *
      have HS4 := Lib.hid (And.intro hD (And.intro hS (And.intro hW K)))
      have x1 := recs_cell (HR.out.below K.2.1.1) (i := j) (r := 0) hjlt (by omega)
      rw [Nat.add_zero] at x1
      have x2 := recs_cell (HR.out.below K.2.1.1) (i := j) (r := 1) hjlt (by omega)
      have x3 := recs_cell (HR.out.below K.2.1.1) (i := j) (r := 2) hjlt (by omega)
      have x4 := recs_cell (HR.out.below K.2.1.1) (i := j) (r := 3) hjlt (by omega)
      clear hD hS hW K
      go_wp2_with fail
      refine (actPut_any (f j 0) (f j 1) (f j 2) (f j 3) HS4.out.2.1 (by omega) HO.out.1 (by have := HO.out.2.1; omega)).mono ?_
      rintro e w5 ⟨c5, rfl, hS, hkp⟩
      have hD := Recs.kp HS4.out.1 hkp (by simp)
      have hW := Bk.kp HS4.out.2.2.1 hkp (by simp)
      have K := hkp.kc HS4.out.2.2.2 (by simp [Nos])
      clear x1 x2 x3 x4 hkp HS4
      by_cases ho : actOk (f j 0) (f j 1) (f j 2) (f j 3) = true
      · rw [actE_yes ho]
        have HE : Hid (SS w5 c5 1 x 2 b (runB (recAdd F q (f j)) (q + 1))) := Lib.hid (by rw [HM.out]; exact hS)
        have HA := Lib.hid (AllOk.more HF.out ho)
        have x1 := recs_cell (HR.out.below K.2.1.1) (i := j) (r := 0) hjlt (by omega)
        rw [Nat.add_zero] at x1
        have x2 := recs_cell (HR.out.below K.2.1.1) (i := j) (r := 1) hjlt (by omega)
        have x3 := recs_cell (HR.out.below K.2.1.1) (i := j) (r := 2) hjlt (by omega)
        have x4 := recs_cell (HR.out.below K.2.1.1) (i := j) (r := 3) hjlt (by omega)
        have HD := Lib.hid hD
        have HK := Lib.hid K
        have hO := OwnK.alloc hD.1 (.cells #[.int .i64 (f j 0), .int .i64 (f j 1), .int .i64 (f j 2), .int .i64 (f j 3)] 33)
        have HSR : Hid (∀ r, r < 1 * 4 → (w5.alloc (.cells #[.int .i64 (f j 0), .int .i64 (f j 1), .int .i64 (f j 2), .int .i64 (f j 3)] 33)).cell? ((⟨w5.heap.size, 0, none⟩ : Addr).add r) = some (.int .i64 (f j r))) := Lib.hid (fun r hr => by
          rw [addr_add, Nat.zero_add, (Box.new w5 _ _).cell]
          rcases (show r = 0 ∨ r = 1 ∨ r = 2 ∨ r = 3 by omega) with rfl | rfl | rfl | rfl <;> rfl)
        clear hD K hS hW ho
        go_wp2_with (at_builtin; refine wpList_appK rfl (.tmp 41) (.tmp 46) rfl Try.underlying22 HIA.out ha0 ha1 ha2 rfl (by omega) rfl rfl hO HSR.out (fun _ => rfl) ?_ ?_ ?_ ?_; rotate_right; intro A6 c6 w6 hO6 hG6 hL6)
        case refine_1 => unfold maxLen; omega
        case refine_2 => omega
        case refine_3 => omega
        have hM := Recs.more HD.out (by omega) ((Below.refl _ w5).alloc (Nat.le_refl _) _) hO6 hG6 hL6 (by simp)
        have hkp := Kp.upd hM.2
        have hS6 := SS.kp HE.out hkp (by simp) (by simp)
        have K6 := hkp.kc HK.out.2 (by simp [Nos])
        go_roundw
        case rel => exact ⟨j + 1, q + 1, c6, A6, _, _, by omega, by omega, by omega, by go_num, rfl, HA.out, hM.1, hS6, K6⟩
        case measure => simp [intOf]; omega
      · have ho' : actOk (f j 0) (f j 1) (f j 2) (f j 3) = false := by simpa using ho
        have h12 := act_no (y := Y) ho'
        rw [h12.2] at hS
        rw [h12.1]
        clear ho ho' h12
        have HS5 := Lib.hid (And.intro hD (And.intro hS (And.intro hW K)))
        have hL3 : Y.s.L ≤ 1000000 := by have := HO.out.2.1; omega
        clear hD hS hW K
        go_wp2_with fail
        have K := Kn.drew ((Kn.start w5).add (x := .rd A4 Y.s.L (by8 (dig Y.s.V Y.s.L))) HS5.out.2.2.2.1.1)
        refine wp_region_allX (fun w' => Kn w' _) [2, 6] [(0,1),(1,1),(2,2),(3,1),(4,1),(5,1),(8,1),(9,1),(6,2),(7,1),(10,1),(11,0)] (by kernel_rfl) (by kernel_rfl) (fun _ _ d _ _ h => by cases d <;> exact h) (K) ?_
        generalize World.drew _ = wd6 at K ⊢
        repeat (first | (refine oX_freeG rfl rfl (fun w' hS => by skip; clear hS; go_simp; with_reducible rfl) ?_; go_simp) | (refine oX_skipG rfl rfl ?_; go_simp))
        refine oX_doG rfl rfl (fun KK hKK => ?_)
        go_simp
        refine (same_self (Box.below HS5.out.2.2.1.1 K.2.1 (Box.lt HS5.out.2.2.1.1)) (Box.below HS5.out.2.1.2.1 K.2.1 (Box.lt HS5.out.2.1.2.1))).mono ?_
        rintro e w8 ⟨rfl, hb8⟩
        replace K := K.below hb8
        refine hKK (fun w' => Kn w' _) _ _ ?hsub K ?_
        case hsub => exact fun _ h => h
        clear hKK KK hb8
        repeat (first | (refine oX_freeG rfl rfl (fun w' hS => by have s1 := conv_any (c := Y.s.L) hS.1; clear hS; go_simp; with_reducible rfl) ?_; go_simp) | (refine oX_skipG rfl rfl ?_; go_simp))
        refine oX_doG rfl rfl (fun KK hKK => ?_)
        go_simp
        refine (bytes_s (HS5.out.2.1.1.below K.2.1) hL3).mono ?_
        rintro e w9 ⟨A9, rfl, Q9, _, hb9⟩
        replace K := K.below hb9
        replace K := K.add (x := .rd A9 Y.s.L (by8 (dig Y.s.V Y.s.L))) Q9
        refine hKK (fun w' => Kn w' _) _ _ ?hsub K ?_
        case hsub => exact fun _ h => h.2
        clear hKK KK hb9
        clear Q9
        repeat (first | (refine oX_freeG rfl rfl (fun w' hS => by have s1 := conv_any (c := Y.s.L) hS.1; clear hS; go_simp; with_reducible rfl) ?_; go_simp) | (refine oX_skipG rfl rfl ?_; go_simp))
        repeat (refine oX_still rfl (fun KK hKK => ?_); go_simp; refine hKK _ ?_; clear hKK KK)
        refine oX_nil ?_
        have HL := Lib.hid K.2.2.1
        clear K
        go_wp2
        go_roundw
        case rel => exact ⟨j + 1, q, c, B, F, c5, by omega, by omega, by omega, by go_num, rfl, HF.out, Recs.kp HS5.out.1 (Kp.below HL.out [] c5) (by simp), by rw [HY.out]; exact SS.kp HS5.out.2.1 (Kp.below HL.out [] c5) (by simp) (by simp), ((Kp.below HL.out [] c5).kc HS5.out.2.2.2 (by simp)).2⟩
        case measure => simp [intOf]; omega
    · have hex : (¬ (j : Int) < n) ∨ ((j : Int) < n ∧ ¬ (j : Int) < 100) := by omega
      clear hlt
      have HO := Lib.hid (runB_ok F q)
      have hL3 : (runB F q).s.L ≤ 4 + 44 * 100 := by have := HO.out.2.1; omega
      have hL4 : 4 ≤ (runB F q).s.L := HO.out.2.2
      rcases hex with l1 | ⟨l1, l2⟩
      all_goals
        go_wp2_with fail
        refine (bnew_s _).mono ?_
        rintro e w3 ⟨d, rfl, hC, hb⟩
        replace hC := hC col 4
        have hkp := Kp.newc hb col 4
        have hD := Recs.kp HS.out.1 hkp (by simp)
        have hS := SS.kp HS.out.2.1 hkp (by simp) (by simp)
        have K := hkp.kc HS.out.2.2 (by simp [Nos])
        clear hkp hb HS
        generalize recol _ _ _ = c3 at *
        have HS3 := Lib.hid (And.intro hD (And.intro hS (And.intro hC K)))
        clear hD hS hC K
        go_wp2_with fail
        refine (bytes_s HS3.out.2.1.1 (by omega)).mono ?_
        rintro e w4 ⟨A4, rfl, hR4, -, hb⟩
        have hkp := Kp.below hb [] c3
        have hD := Recs.kp HS3.out.1 hkp (by simp)
        have hB := Bk.kp HS3.out.2.1.2 hkp (by simp)
        have hC := Bk.kp HS3.out.2.2.1 hkp (by simp)
        have K := hkp.kc HS3.out.2.2.2 (by simp)
        clear hkp hb HS3
        have HR4 := Lib.hid hR4
        have HS4 := Lib.hid (And.intro hD (And.intro hB (And.intro hC K)))
        clear hD hB hC K hR4
        have HST : Hid (∀ k, k < q → ∀ z, Tw (dig (runB F q).s.V (runB F q).s.L) (runB F k) z → (actG (dig (runB F q).s.V (runB F q).s.L) (runB F q).s.L z (F k 0) (F k 1) (F k 2)).v = F k 3 ∧ (actG (dig (runB F q).s.V (runB F q).s.L) (runB F q).s.L z (F k 0) (F k 1) (F k 2)).e = 0 ∧ Tw (dig (runB F q).s.V (runB F q).s.L) (runB F (k + 1)) (actG (dig (runB F q).s.V (runB F q).s.L) (runB F q).s.L z (F k 0) (F k 1) (F k 2)).x) := Lib.hid (fun k hk z hz => runB_step HF.out hk hz)
        have HEN : Hid (∀ z, Tw (dig (runB F q).s.V (runB F q).s.L) (runB F q) z → endK ((runB F q).s.L - z.d.I) z.d.rest = 0) := Lib.hid (fun z hz => runB_end hz)
        have HBY : Hid (Byt (dig (runB F q).s.V (runB F q).s.L)) := Lib.hid (dig_byt _ _)
        generalize dig (runB F q).s.V (runB F q).s.L = g at *
        generalize hLL : (runB F q).s.L = LL at *
        have HLL := Lib.hid hLL
        clear hLL
        go_wp2_with fail
        refine (open_s A4 LL LL g _ HR4.out HBY.out hL4 (Nat.le_refl _) (by omega) (by omega)).mono ?_
        rintro e w5 ⟨y, rfl, hG, hb⟩
        replace hG := hG c3 3
        have hkp := Kp.newc hb c3 3
        have hD := Recs.kp HS4.out.1 hkp (by simp)
        have hB := Bk.kp HS4.out.2.1 hkp (by simp)
        have hC := Bk.kp HS4.out.2.2.1 hkp (by simp)
        have K := hkp.kc HS4.out.2.2.2 (by simp [Nos])
        clear hkp hb HS4
        generalize recol _ _ _ = c5 at *
        have HS5 := Lib.hid (And.intro hD (And.intro hB (And.intro (show SG w5 c5 3 y LL g 4 d (GS0 g) from ⟨hG, hC⟩) K)))
        clear hD hB hC hG K HR4
        go_wp2_with fail
        go_loopw [12] (fun i wr2 => ∃ (k : Nat) (z : GS) (col : Nat → Nat), k ≤ q ∧ i = .int .i64 k ∧ Tw g (runB F k) z ∧ z.ok LL ∧ Recs wr2 col 5 33 4 B q c F ∧ Bk wr2 col 2 b (runB F q).C ∧ SG wr2 col 3 y LL g 4 d z ∧ Kc wr2 col [(0, .since w)]) (fun i _ => ((q : Int) - intOf i).toNat)
        case atStart => exact ⟨0, GS0 g, c5, by omega, rfl, tw_start g, GS0_ok HBY.out hL4, HS5.out⟩
        case round =>
          obtain ⟨k, z, col2, hk, rfl, hz, hzo, hD, hB, hG, K⟩ := hrel
          clear HS5
          by_cases hkq : k < q
          · have l3 : (k : Int) < q := by omega
            have HZ := Lib.hid (HST.out k hkq z hz)
            have HZO := Lib.hid (actG_ok (k := F k 0) (t := F k 1) (n := F k 2) HBY.out hzo)
            have hRD := hD.1.rd
            obtain ⟨b2, off2, rfl, -, -⟩ := hRD.some_ (by omega)
            have x1 := recs_cell hRD (i := k) (r := 0) hkq (by omega)
            rw [Nat.add_zero] at x1
            have x2 := recs_cell hRD (i := k) (r := 1) hkq (by omega)
            have x3 := recs_cell hRD (i := k) (r := 2) hkq (by omega)
            have x4 := recs_cell hRD (i := k) (r := 3) hkq (by omega)
            have HS := Lib.hid (And.intro hD (And.intro hB (And.intro hG K)))
            clear hD hB hG K hRD hz
            go_wp2_with fail
            refine (actGet_any (F k 0) (F k 1) (F k 2) (F k 3) HS.out.2.2.1 HBY.out (by omega) hzo).mono ?_
            rintro e w6 ⟨c6, rfl, hG, hkp⟩
            rw [HZ.out.1, HZ.out.2.1]
            have hD := Recs.kp HS.out.1 hkp (by simp)
            have hB := Bk.kp HS.out.2.1 hkp (by simp)
            have K := hkp.kc HS.out.2.2.2 (by simp [Nos])
            clear x1 x2 x3 x4 hkp HS
            have x4 := recs_cell hD.1.rd (i := k) (r := 3) hkq (by omega)
            have HS := Lib.hid (And.intro hD (And.intro hB (And.intro hG K)))
            clear hD hB hG K
            have hne : (F k 3 != F k 3) = false := by simp
            go_wp2
            go_roundw
            case rel => exact ⟨k + 1, _, c6, by omega, by go_num, HZ.out.2.2, HZO.out, HS.out⟩
            case measure => simp [intOf]; omega
          · obtain rfl : k = q := by omega
            have hen := HEN.out z hz
            have hCz : z.C = (runB F k).C := hz.1
            have HS := Lib.hid (And.intro hB (And.intro hG K))
            have HEN2 := Lib.hid hen
            have HCZ := Lib.hid hCz
            clear hD hB hG K hz hzo hen hCz HST HEN
            go_wp2_with fail
            refine (alive05 _).mono ?_
            rintro e w6 ⟨rfl, hb⟩
            have hkp := Kp.below hb [] col2
            have hB := Bk.kp HS.out.1 hkp (by simp)
            have hG := SG.kp HS.out.2.1 hkp (by simp) (by simp)
            have K := hkp.kc HS.out.2.2 (by simp)
            clear hkp hb HS
            have hC : Bk w6 col2 4 d (runB F k).C := by have := hG.2; rw [HCZ.out] at this; exact this
            have HS := Lib.hid (And.intro hB (And.intro hC (And.intro hG.1 K)))
            clear hB hC hG K
            go_wp2_with fail
            refine (end_s HS.out.2.2.1).mono ?_
            rintro e w' ⟨rfl, rfl⟩
            rw [HEN2.out]
            go_wp2_with fail
            refine (same_self HS.out.1.1 HS.out.2.1.1).mono ?_
            rintro e w7 ⟨rfl, hb⟩
            have hkp := Kp.below hb [] col2
            have hB := Bk.kp HS.out.1 hkp (by simp)
            have hC := Bk.kp HS.out.2.1 hkp (by simp)
            have K := hkp.kc HS.out.2.2.2 (by simp)
            clear hkp hb HS
            have HS := Lib.hid (And.intro hB (And.intro hC K))
            clear hB hC K
            go_wp2_with fail
            refine (same_self HS.out.2.1.1 HS.out.1.1).mono ?_
            rintro e w8 ⟨rfl, hb⟩
            have L := Kc.sinceB ((Kp.below hb [] col2).kc HS.out.2.2 (by simp))
            clear hb
            go_wp2
            go_ret
            exact ⟨rfl, L⟩
end BookBack
namespace BookBack
set_option maxRecDepth 100000 in
theorem lifted (os : Os) (started : os.Started) (H : Type) (enc : TypeId × Value → H) :
    ReturnsInHanded {} Try.checked os 7 .any (Rows.bookBackSpec.pre6 enc Try.prog Try.f7 Rows.bookBackRow.domain false) (Rows.bookBackSpec.post enc Try.prog Try.f7 false true false false) := by
  refine returnsInHanded_of_change (C := Try.checked) own started (by kernel_rfl) Try.func7
    (ChangeSpec.witness6 (enc := enc) (C := Try.checked) false ⟨#[], #[.slice none 0 0], []⟩ 8 (by kernel_rfl) (by kernel_rfl) (by kernel_rfl) (by kernel_rfl)) ?_
  intro W base args ds gs before hval0 hW hcnd _
  have hval : ∀ (j : Nat) t v, Try.f7.params[j]? = some t → args[j]? = some v → Value.okWide Try.prog W .any base t v := hval0
  refine law_post (tb := 4) laidOut (by kernel_rfl) rfl Try.underlying4 rfl (fun ds' h => ?_) hW ?_
  · rw [Try.params7] at h
    match ds', h with
    | [d1], _ => exact ⟨rfl, rfl, rfl⟩
  obtain ⟨p, q, hA0, hV, rfl, hfz, hnd⟩ := hW
  have hA : DataW.TrodAll enc Try.prog W 0 (fun _ => true) true Try.f7.params.toList args.toList ds p := hA0
  rw [Try.params7] at hA hval
  obtain ⟨v0, vs0, d0, ds0, p0, q0, hargs, rfl, rfl, h0, r0⟩ := trodAll_cons hA
  obtain ⟨rfl, rfl, rfl⟩ := trodAll_nil r0
  obtain rfl : args = #[v0] := by cases args; simp_all
  obtain ⟨A0, n0, c0, g0, rfl, rr0, t0, l0, m0⟩ := open_acts4 Try.underlying22 Try.underlying33 (by kernel_rfl) ⟨rfl, rfl⟩ ⟨rfl, rfl⟩ ⟨rfl, rfl⟩ ⟨rfl, rfl⟩ Try.underlying3 (by kernel_rfl) (hval 0 22 v0 rfl rfl) h0
  exact walk W A0 n0 c0 g0 rr0 t0 l0 m0
theorem over : Rows.bookBackRow.holds Try.pinned (OpenSpec.ofChange Rows.bookBackSpec) :=
  OpenClaim.holds_of_wide 7 Try.f7 rfl rfl rfl rfl rfl rfl rfl ⟨rfl, rfl, rfl, rfl, rfl⟩ rfl rfl rfl rfl rfl (by kernel_rfl) Try.func7 (by kernel_rfl)
    (of_decide_eq_true (by kernel_rfl)) (by unfold Func.isWrapper; first | (rw [if_pos (by decide +kernel)]; kernel_rfl) | (rw [if_neg (by decide +kernel)]; exact ⟨rfl, rfl⟩))
    (fun os started H enc _ => lifted os started H enc)
end BookBack
theorem bookBack_holds : Rows.BookBackSaid := BookBack.over

end Go.Proofs.Ytmnoddmecghjdaa
