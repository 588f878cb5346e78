/- QuantBack: blocks that were put are got, and that was all; what is refused leaves the book as it was. No condition. -/
import Derived.Test.YtmnoddmecghjdaaAl8
import Derived.Test.YtmnoddmecghjdaaQb1
import Derived.Test.YtmnoddmecghjdaaClose5
set_option linter.unusedVariables false
namespace Go.Proofs.Ytmnoddmecghjdaa
open Go.ChangeShapes Go.WideShapes Go.ChangeAt Go.RowKit Go.Joins Go.Kin
namespace QuantBack
theorem blkA_yes {y : PS} {T n : Nat} {g : Nat → Int} (h : putB n g (T : Int) = true) : blkAE (T : Int) n g = 0 ∧ y.blkA (T : Int) n g = y.blk T n g := by
  unfold blkAE PS.blkA
  rw [if_pos h, if_pos h, Int.toNat_natCast]
  exact ⟨rfl, rfl⟩
theorem blkA_no {y : PS} {t : Int} {n : Nat} {g : Nat → Int} (h : putB n g t = false) : blkAE t n g = 1 ∧ y.blkA t n g = y := by
  unfold blkAE PS.blkA
  rw [h]
  exact ⟨rfl, rfl⟩
set_option maxRecDepth 100000 in
set_option maxHeartbeats 16000000 in
theorem walk (w : World) (A : Option Addr) (n cap : Nat) (B : Nat → Option Addr) (L C : Nat → Nat) (G : Nat → Nat → Int) (hR : Rd w A n (fun i => .slice (B i) (L i) (C i))) (hf : ∀ i, i < n → Rd w (B i) (L i) (in64 (G i)) ∧ L i ≤ C i ∧ C i ≤ 9223372036854775807) (hn : n ≤ cap) (hcap : cap ≤ 9223372036854775807) (t : Int) (ht : I64 t) :
    Calls Try.prog 13 #[.slice A n cap, .int .i64 t] w fun e w' => e = .returned (.bool true) ∧ Below w.heap.size w w' := by
  obtain ⟨ia, hia, ha0, ha1, ha2⟩ := parts_ints
  have HIA := Lib.hid hia
  have HR := Lib.hid hR
  have HFF := Lib.hid hf
  obtain ⟨T, hT⟩ : ∃ T, T = t.toNat := ⟨_, rfl⟩
  have HT : Hid (∀ (m : Nat) (g : Nat → Int), putB m g t = true → t = (T : Int) ∧ T < 15) := Lib.hid (fun m g h => by
    unfold putB at h
    rw [Bool.and_eq_true] at h
    have := of_decide_eq_true h.2
    omega)
  have HPB : Hid (∀ (m : Nat) (g : Nat → Int), putB m g t = true → sideN m ≠ 0 ∧ Wi 1048576 m g) := Lib.hid (fun m g h => by
    unfold putB at h
    rw [Bool.and_eq_true, Bool.and_eq_true] at h
    exact ⟨of_decide_eq_true h.1.1, wiB_iff.1 h.1.2⟩)
  clear hR hf hia ht hT
  have K := Kc.start w
  go_enter Try.func13, Try.ntmps13
  go_wp2_with fail
  refine (bnew_s _).mono ?_
  rintro e w1 ⟨b, rfl, hB, hb⟩
  replace hB := hB (fun _ => 0) 2
  have hkp := Kp.newc hb (fun _ => 0) 2
  replace K := hkp.kc K (by simp [Nos])
  generalize recol _ _ _ = c1 at *
  have HS := Lib.hid (And.intro hB K)
  clear hkp hb hB K
  go_wp2_with fail
  refine (cnew_s _).mono ?_
  rintro e w2 ⟨x, rfl, hE, hb⟩
  replace hE := hE c1 1
  have hkp := Kp.newc hb c1 1
  have hB := Bk.kp HS.out.1 hkp (by simp)
  have K := hkp.kc HS.out.2 (by simp [Nos])
  generalize recol _ _ _ = c2 at *
  have HS2 := Lib.hid (And.intro (show SS w2 c2 1 x 2 b PS0 from ⟨hE, hB⟩) K)
  clear hkp hb hB K hE HS
  go_wp2_with fail
  go_loopw [7, 8] (fun dn i wr => ∃ (j q c : Nat) (A2 : Option Addr) (D : Nat → Nat) (col : Nat → Nat), j ≤ n ∧ j ≤ 10 ∧ q ≤ j ∧ i = .int .i64 j ∧ dn = .slice A2 q c ∧ (∀ k, k < q → D k < n ∧ L (D k) ≤ 100) ∧ AllQ L G D q ∧ (0 < q → t = (T : Int) ∧ T < 15) ∧ RecV wr col 5 57 A2 q c (fun k => .slice (B (D k)) (L (D k)) (C (D k))) ∧ SS wr col 1 x 2 b (runQ T L G D q) ∧ Kc wr col [(0, .since w)]) (fun _ i _ => (10 - intOf i).toNat)
  case atStart => exact ⟨0, 0, 0, none, fun _ => 0, c2, by omega, by omega, by omega, rfl, rfl, fun i hi => absurd hi (by omega), fun i hi => absurd hi (by omega), fun h => absurd h (by omega), ⟨OwnK.nil _ _ _ _ _, fun b o hA => by cases hA⟩, HS2.out.1, HS2.out.2⟩
  case round =>
    obtain ⟨j, q, c, A2, D, col, hjn, hj1, hq, rfl, rfl, hDn, hAll, hTq, hD, hS, K⟩ := hrel
    have HDN := Lib.hid hDn
    have HAL := Lib.hid hAll
    have HTQ := Lib.hid hTq
    have HS := Lib.hid (And.intro hD (And.intro hS K))
    clear HS2 hDn hAll hTq hD hS K
    by_cases hlt : j < n ∧ j < 10
    · have l1 : (j : Int) < n := by omega
      have l2 : (j : Int) < 10 := by omega
      have hjlt := hlt.1
      have HIN := Lib.hid (HFF.out j hjlt)
      have HO := Lib.hid (runQ_ok (t := T) q HAL.out)
      have HM : Hid (∀ j, runQ T L G (addQ D q j) (q + 1) = (runQ T L G D q).blk T (L j) (G j)) := Lib.hid (fun j => runQ_more j)
      obtain ⟨b0, off, rfl, -, -⟩ := HR.out.some_ (by omega)
      clear hlt
      generalize hY : runQ T L G D q = Y at *
      have HY := Lib.hid hY
      clear hY
      go_wp2_with fail
      refine (copy_any b _ _ HS.out.2.1.2.1).mono ?_
      rintro e w3 ⟨rfl, hW, hb⟩
      have hkp := Kp.newc hb col 6
      have hD := RecV.kp HS.out.1 hkp (by simp)
      have hS := SS.kp HS.out.2.1 hkp (by simp) (by simp)
      have K := hkp.kc HS.out.2.2 (by simp [Nos])
      have hW' : Bk w3 (recol col wr 6) 6 wr.heap.size Y.C := ⟨hW, recol_ge (Nat.le_refl _)⟩
      clear hkp hb hW HS
      generalize recol _ _ _ = c3 at *
      generalize wr.heap.size = was at *
      have x1 := Rd.at_ (HR.out.below K.sinceB) (i := j) hjlt
      (try dsimp only at x1)
      have HS3 := Lib.hid (And.intro hD (And.intro hS (And.intro hW' K)))
      clear hD hS hW' K
      by_cases hbig : 100 < L j
      · have l3 : 100 < (L j : Int) := by omega
        go_wp2
        go_roundw
        case rel => exact ⟨j + 1, q, c, A2, D, c3, by omega, by omega, by omega, by go_num, rfl, HDN.out, HAL.out, HTQ.out, HS3.out.1, by rw [HY.out]; exact HS3.out.2.1, HS3.out.2.2.2⟩
        case measure => simp [intOf]; omega
      · have l3 : ¬ 100 < (L j : Int) := by omega
        have hP := Lib.hid (qput_all t (B j) (L j) (C j) (G j) HS3.out.2.1 (by omega) HO.out.1 (by have := HO.out.2.1; omega) (HIN.out.1.below HS3.out.2.2.2.sinceB))
        go_wp2_with fail
        refine hP.out.mono ?_
        rintro e w5 ⟨c5, rfl, hS, hkp⟩
        have hD := RecV.kp HS3.out.1 hkp (by simp)
        have hW := Bk.kp HS3.out.2.2.1 hkp (by simp)
        have K := hkp.kc HS3.out.2.2.2 (by simp [Nos])
        clear x1 hkp HS3 hP
        by_cases ho : putB (L j) (G j) t = true
        · obtain ⟨ht1, ht2⟩ := HT.out _ _ ho
          obtain ⟨hp1, hp2⟩ := HPB.out _ _ ho
          have hE0 : blkAE t (L j) (G j) = 0 := by unfold blkAE; rw [if_pos ho]
          have HE : Hid (SS w5 c5 1 x 2 b (runQ T L G (addQ D q j) (q + 1))) := Lib.hid (by
            rw [HM.out]
            have e : Y.blkA t (L j) (G j) = Y.blk T (L j) (G j) := by unfold PS.blkA; rw [if_pos ho, ht1, Int.toNat_natCast]
            rw [← e]
            exact hS)
          have HAA := Lib.hid (AllQ.more HAL.out hp1 hp2)
          have HTT : Hid (t = (T : Int) ∧ T < 15) := Lib.hid ⟨ht1, ht2⟩
          have HDD : Hid (∀ k, k < q + 1 → addQ D q j k < n ∧ L (addQ D q j k) ≤ 100) := Lib.hid (fun k hk => by
            unfold addQ
            by_cases h : k < q
            · rw [if_pos h]; exact HDN.out k h
            · rw [if_neg h]; exact ⟨hjlt, by omega⟩)
          rw [hE0]
          have x1 := Rd.at_ (HR.out.below K.sinceB) (i := j) hjlt
          (try dsimp only at x1)
          have HD := Lib.hid hD
          have HK := Lib.hid K
          have hO := OwnK.alloc hD.1 (.cells #[.slice (B j) (L j) (C j)] 57)
          have HSR : Hid (∀ r, r < 1 * 1 → (w5.alloc (.cells #[.slice (B j) (L j) (C j)] 57)).cell? ((⟨w5.heap.size, 0, none⟩ : Addr).add r) = some (.slice (B j) (L j) (C j))) := Lib.hid (fun r hr => by
            rw [addr_add, Nat.zero_add, (Box.new w5 _ _).cell]
            obtain rfl : r = 0 := by omega
            rfl)
          clear hD K hS hW ho ht1 ht2 hp1 hp2 hE0
          go_wp2_with (at_builtin; refine wpList_appK rfl (.tmp 47) (.tmp 52) rfl Try.underlying56 HIA.out ha0 ha1 ha2 rfl (by omega) rfl rfl hO HSR.out (fun _ => rfl) ?_ ?_ ?_ ?_; rotate_right; intro A6 c6 w6 hO6 hG6 hL6)
          case refine_1 => unfold maxLen; omega
          case refine_2 => omega
          case refine_3 => omega
          have hM := RecV.more HD.out ((Below.refl _ w5).alloc (Nat.le_refl _) _) hO6 hG6 hL6 (by simp)
          have hkp := Kp.upd hM.2
          have hS6 := SS.kp HE.out hkp (by simp) (by simp)
          have K6 := hkp.kc HK.out (by simp [Nos])
          have hM1 : RecV w6 (recol c5 w5 5) 5 57 A6 (q + 1) c6 (fun k => .slice (B (addQ D q j k)) (L (addQ D q j k)) (C (addQ D q j k))) := ⟨hM.1.1.congr (fun k hk => by unfold addQ; by_cases h : k < q <;> simp [h]), hM.1.2⟩
          have HFIN := Lib.hid (And.intro hM1 (And.intro hS6 K6))
          clear hM hkp hS6 K6 hM1 hO6 hG6 hL6 hO
          go_wp2
          go_roundw
          case rel => exact ⟨j + 1, q + 1, c6, A6, addQ D q j, _, by omega, by omega, by omega, by go_num, rfl, HDD.out, HAA.out, fun _ => HTT.out, HFIN.out⟩
          case measure => simp [intOf]; omega
        · have h12 := blkA_no (y := Y) (show putB (L j) (G j) t = false by simpa using ho)
          rw [h12.2] at hS
          rw [h12.1]
          clear ho h12
          have HS5 := Lib.hid (And.intro hD (And.intro hS (And.intro hW K)))
          clear hD hS hW K
          go_wp2_with fail
          refine (same_self HS5.out.2.2.1.1 HS5.out.2.1.2.1).mono ?_
          rintro e w6 ⟨rfl, hb⟩
          have hkp := Kp.below hb [] c5
          have HS6 := Lib.hid (And.intro (RecV.kp HS5.out.1 hkp (by simp)) (And.intro (SS.kp HS5.out.2.1 hkp (by simp) (by simp)) (hkp.kc HS5.out.2.2.2 (by simp))))
          clear hkp hb HS5
          go_wp2
          go_roundw
          case rel => exact ⟨j + 1, q, c, A2, D, c5, by omega, by omega, by omega, by go_num, rfl, HDN.out, HAL.out, HTQ.out, HS6.out.1, by rw [HY.out]; exact HS6.out.2.1, HS6.out.2.2⟩
          case measure => simp [intOf]; omega
    · have hex : (¬ (j : Int) < n) ∨ ((j : Int) < n ∧ ¬ (j : Int) < 10) := by omega
      clear hlt
      have HO := Lib.hid (runQ_ok (t := T) q HAL.out)
      have hL3 : (runQ T L G D q).s.L ≤ 4 + 2900 * 10 := by have := HO.out.2.1; omega
      have hL4 : 4 ≤ (runQ T L G D q).s.L := HO.out.2.2
      rcases hex with l1 | ⟨l1, l2⟩
      all_goals
        go_wp2_with fail
        refine (bnew_s _).mono ?_
        rintro e w3 ⟨d, rfl, hC, hb⟩
        replace hC := hC col 4
        have hkp := Kp.newc hb col 4
        have hD := RecV.kp HS.out.1 hkp (by simp)
        have hS := SS.kp HS.out.2.1 hkp (by simp) (by simp)
        have K := hkp.kc HS.out.2.2 (by simp [Nos])
        clear hkp hb HS
        generalize recol _ _ _ = c3 at *
        have HS3 := Lib.hid (And.intro hD (And.intro hS (And.intro hC K)))
        clear hD hS hC K
        go_wp2_with fail
        refine (bytes_s HS3.out.2.1.1 (by omega)).mono ?_
        rintro e w4 ⟨A4, rfl, hR4, -, hb⟩
        have hkp := Kp.below hb [] c3
        have hD := RecV.kp HS3.out.1 hkp (by simp)
        have hB := Bk.kp HS3.out.2.1.2 hkp (by simp)
        have hC := Bk.kp HS3.out.2.2.1 hkp (by simp)
        have K := hkp.kc HS3.out.2.2.2 (by simp)
        clear hkp hb HS3
        have HR4 := Lib.hid hR4
        have HS4 := Lib.hid (And.intro hD (And.intro hB (And.intro hC K)))
        clear hD hB hC K hR4
        have HST := Lib.hid (fun k hk z hz => runQ_step (t := T) HAL.out (k := k) hk (z := z) hz)
        have HEN := Lib.hid (fun z hz => runQ_end (t := T) HAL.out (z := z) hz)
        have HBY : Hid (Byt (dig (runQ T L G D q).s.V (runQ T L G D q).s.L)) := Lib.hid (dig_byt _ _)
        generalize dig (runQ T L G D q).s.V (runQ T L G D q).s.L = g at *
        generalize hLL : (runQ T L G D q).s.L = LL at *
        have HLL := Lib.hid hLL
        clear hLL
        go_wp2_with fail
        refine (open_s A4 LL LL g _ HR4.out HBY.out hL4 (Nat.le_refl _) (by omega) (by omega)).mono ?_
        rintro e w5 ⟨y, rfl, hG, hb⟩
        replace hG := hG c3 3
        have hkp := Kp.newc hb c3 3
        have hD := RecV.kp HS4.out.1 hkp (by simp)
        have hB := Bk.kp HS4.out.2.1 hkp (by simp)
        have hC := Bk.kp HS4.out.2.2.1 hkp (by simp)
        have K := hkp.kc HS4.out.2.2.2 (by simp [Nos])
        clear hkp hb HS4
        generalize recol _ _ _ = c5 at *
        have HS5 := Lib.hid (And.intro hD (And.intro hB (And.intro (show SG w5 c5 3 y LL g 4 d (GS0 g) from ⟨hG, hC⟩) K)))
        clear hD hB hC hG K HR4
        go_wp2_with fail
        go_loopw [13] (fun i wr2 => ∃ (k : Nat) (z : GS) (col : Nat → Nat), k ≤ q ∧ i = .int .i64 k ∧ Tw g (runQ T L G D k) z ∧ z.ok LL ∧ RecV wr2 col 5 57 A2 q c (fun k => .slice (B (D k)) (L (D k)) (C (D k))) ∧ Bk wr2 col 2 b (runQ T L G D q).C ∧ SG wr2 col 3 y LL g 4 d z ∧ Kc wr2 col [(0, .since w)]) (fun i _ => ((q : Int) - intOf i).toNat)
        case atStart => exact ⟨0, GS0 g, c5, by omega, rfl, tw_start g, GS0_ok HBY.out hL4, HS5.out⟩
        case round =>
          obtain ⟨k, z, col2, hk, rfl, hz, hzo, hD, hB, hG, K⟩ := hrel
          clear HS5
          by_cases hkq : k < q
          · have l3 : (k : Int) < q := by omega
            have HZ := Lib.hid (HST.out k hkq z hz)
            have HZO := Lib.hid (GS.blk_ok HBY.out hzo T (L (D k))).1
            have HTT := Lib.hid (HTQ.out (by omega))
            obtain ⟨hdn, hdl⟩ := HDN.out k hkq
            have hsd := (HAL.out k hkq).1
            have hRD := hD.1.rd
            rw [Nat.mul_one] at hRD
            obtain ⟨b2, off2, rfl, -, -⟩ := hRD.some_ (by omega)
            have x1 := Rd.at_ hRD (i := k) hkq
            (try dsimp only at x1)
            have hP := qget_yes (k := 7) T hG HBY.out (by omega) (by omega) hzo hsd HTT.out.2
            rw [← HTT.out.1] at hP
            have HP := Lib.hid hP
            have HS := Lib.hid (And.intro hD (And.intro hB (And.intro hG K)))
            have HFD := Lib.hid (HFF.out (D k) hdn)
            clear hD hB hG K hRD hz hP hsd
            generalize z.blk g LL T (L (D k)) = r at *
            obtain ⟨re, rh, rx⟩ := r
            dsimp only at *
            go_wp2_with fail
            refine HP.out.mono ?_
            rintro e w6 ⟨c6, Bv, cbv, nv, rfl, hnv, hcbv, hcmv, hI, hG, hkp⟩
            dsimp only at hnv hI hG ⊢
            have hre : re = 0 := HZ.out.1
            rw [if_pos hre] at hnv
            rw [hre]
            subst hnv
            clear hre
            have hD := RecV.kp HS.out.1 hkp (by simp)
            have hB := Bk.kp HS.out.2.1 hkp (by simp)
            have K := hkp.kc HS.out.2.2.2 (by simp [Nos])
            clear x1 hkp HS
            have hRD := hD.1.rd
            rw [Nat.mul_one] at hRD
            have x1 := Rd.at_ hRD (i := k) hkq
            (try dsimp only at x1)
            have HS := Lib.hid (And.intro hI.1 (And.intro hD (And.intro hB (And.intro hG K))))
            clear hI hD hB hG K hRD
            go_wp2_with fail
            refine (same7_yes Bv (B (D k)) (L (D k)) cbv (C (D k)) _ (G (D k)) _ HS.out.1 (HFD.out.1.below HS.out.2.2.2.2.sinceB) HZ.out.2.1 (by omega)).mono ?_
            rintro e w7 ⟨rfl, hb⟩
            have hkp := Kp.below hb [] c6
            have HS7 := Lib.hid (And.intro (RecV.kp HS.out.2.1 hkp (by simp)) (And.intro (Bk.kp HS.out.2.2.1 hkp (by simp)) (And.intro (SG.kp HS.out.2.2.2.1 hkp (by simp) (by simp)) (hkp.kc HS.out.2.2.2.2 (by simp)))))
            clear hkp hb HS x1
            go_wp2
            go_roundw
            case rel => exact ⟨k + 1, rx, c6, by omega, by go_num, HZ.out.2.2, HZO.out, HS7.out⟩
            case measure => simp [intOf]; omega
          · obtain rfl : k = q := by omega
            have l3 : ¬ (k : Int) < (k : Int) := by omega
            have hen := HEN.out z hz
            have hCz : z.C = (runQ T L G D k).C := hz.1
            have HS := Lib.hid (And.intro hB (And.intro hG K))
            have HEN2 := Lib.hid hen
            have HCZ := Lib.hid hCz
            clear hD hB hG K hz hzo hen hCz HST HEN
            go_wp2_with fail
            refine (alive08 _).mono ?_
            rintro e w6 ⟨rfl, hb⟩
            have hkp := Kp.below hb [] col2
            have hB := Bk.kp HS.out.1 hkp (by simp)
            have hG := SG.kp HS.out.2.1 hkp (by simp) (by simp)
            have K := hkp.kc HS.out.2.2 (by simp)
            clear hkp hb HS
            have hC : Bk w6 col2 4 d (runQ T L G D k).C := by have := hG.2; rw [HCZ.out] at this; exact this
            have HS := Lib.hid (And.intro hB (And.intro hC (And.intro hG.1 K)))
            clear hB hC hG K
            go_wp2_with fail
            refine (end_s HS.out.2.2.1).mono ?_
            rintro e w' ⟨rfl, rfl⟩
            rw [HEN2.out]
            go_wp2_with fail
            refine (same_self HS.out.2.1.1 HS.out.1.1).mono ?_
            rintro e w8 ⟨rfl, hb⟩
            have LF := Kc.sinceB ((Kp.below hb [] col2).kc HS.out.2.2.2 (by simp))
            clear hb
            go_wp2
            go_ret
            exact ⟨rfl, LF⟩
end QuantBack
namespace QuantBack
set_option maxRecDepth 100000 in
theorem lifted (os : Os) (started : os.Started) (H : Type) (enc : TypeId × Value → H) :
    ReturnsInHanded {} Try.checked os 13 .any (Rows.quantBackSpec.pre6 enc Try.prog Try.f13 Rows.quantBackRow.domain false) (Rows.quantBackSpec.post enc Try.prog Try.f13 false true false false) := by
  refine returnsInHanded_of_change (C := Try.checked) own started (by kernel_rfl) Try.func13
    (ChangeSpec.witness6 (enc := enc) (C := Try.checked) false ⟨#[], #[.slice none 0 0, .int .i64 0], []⟩ 8 (by kernel_rfl) (by kernel_rfl) (by kernel_rfl) (by kernel_rfl)) ?_
  intro W base args ds gs before hval0 hW hcnd _
  have hval : ∀ (j : Nat) t v, Try.f13.params[j]? = some t → args[j]? = some v → Value.okWide Try.prog W .any base t v := hval0
  refine law_post (tb := 4) laidOut (by kernel_rfl) rfl Try.underlying4 rfl (fun ds' h => ?_) hW ?_
  · rw [Try.params13] at h
    match ds', h with
    | [d1, d2], _ => exact ⟨rfl, rfl, rfl⟩
  obtain ⟨p, q, hA0, hV, rfl, hfz, hnd⟩ := hW
  have hA : DataW.TrodAll enc Try.prog W 0 (fun _ => true) true Try.f13.params.toList args.toList ds p := hA0
  rw [Try.params13] at hA hval
  obtain ⟨v0, vs0, d0, ds0, p0, q0, hargs, rfl, rfl, h0, r0⟩ := trodAll_cons hA
  obtain ⟨v1, vs1, d1, ds1, p1, q1, rfl, rfl, rfl, h1, r1⟩ := trodAll_cons r0
  obtain ⟨rfl, rfl, rfl⟩ := trodAll_nil r1
  obtain rfl : args = #[v0, v1] := by cases args; simp_all
  obtain ⟨A0, n0, c0, B0, L0, C0, G0, rfl, rr0, t0, l0, m0⟩ := open_intss Try.underlying56 Try.underlying57 (by kernel_rfl) Try.underlying3 (by kernel_rfl) (hval 0 56 v0 rfl rfl) h0
  obtain ⟨a1, rfl, rfl, rfl, w1⟩ := open_int Try.underlying3 (hval 1 3 v1 rfl rfl) h1
  exact walk W A0 n0 c0 B0 L0 C0 G0 rr0 t0 l0 m0 a1 (bounds_i64 w1)
theorem over : Rows.quantBackRow.holds Try.pinned (OpenSpec.ofChange Rows.quantBackSpec) :=
  OpenClaim.holds_of_wide 13 Try.f13 rfl rfl rfl rfl rfl rfl rfl ⟨rfl, rfl, rfl, rfl, rfl⟩ rfl rfl rfl rfl rfl (by kernel_rfl) Try.func13 (by kernel_rfl)
    (of_decide_eq_true (by kernel_rfl)) (by unfold Func.isWrapper; first | (rw [if_pos (by decide +kernel)]; kernel_rfl) | (rw [if_neg (by decide +kernel)]; exact ⟨rfl, rfl⟩))
    (fun os started H enc _ => lifted os started H enc)
end QuantBack
theorem quantBack_holds : Rows.QuantBackSaid := QuantBack.over

end Go.Proofs.Ytmnoddmecghjdaa
