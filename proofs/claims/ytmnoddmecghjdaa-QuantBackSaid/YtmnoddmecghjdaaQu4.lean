/- quant.Put: a block of levels that is put. -/
import Derived.Test.YtmnoddmecghjdaaQu3
import Derived.Test.YtmnoddmecghjdaaAl5
import Derived.Test.YtmnoddmecghjdaaLf6M
import Derived.Test.YtmnoddmecghjdaaBr4
set_option linter.unusedVariables false
namespace Go.Kin
open Go.RowKit
theorem It.hue_recol {w : World} {col : Nat → Nat} {j : Nat} {x : It} (h : x.ok w ∧ x.hue col j) (i : Nat) : x.hue (recol col w i) j := (It.fresh h (Below.refl _ _) i).2
/-- A store into a block that is newer than what is known. -/
theorem Kp.setnew {I : List Nat} {w wr : World} {col c : Nat → Nat} {bl : Nat} (h : Kp I w col wr c) (hb : w.heap.size ≤ bl) (q : Nat) (v : Value) (k : Nat) : Kp I w col (wr.setCell ⟨bl, q, none⟩ v) (recol c wr k) := by
  have hs : wr.heap.size = (wr.setCell ⟨bl, q, none⟩ v).heap.size := (size_set _ _ _).symm
  refine ⟨⟨by rw [← hs]; exact h.1.1, fun b hl hn => ?_⟩, fun kk x hk hx => ?_⟩
  · obtain ⟨h1, h2⟩ := h.1.2 b hl hn
    refine ⟨(Below.heap_setCell wr ⟨bl, q, none⟩ v b (fun e => ?_)).trans h1, ?_⟩
    · have : b = bl := e
      omega
    · rw [recol_lt (Nat.lt_of_lt_of_le hl h.1.1)]
      exact h2
  · have h3 := h.2 kk x hk hx
    exact ⟨It.ok.othS h3.1 ((Oth.refl bl wr).set q v) (It.ok.offS hx.1 hb), It.hue_recol h3 k⟩
theorem lvs_zero {y : PS} {base : Nat} {h : Nat → Int} : y.lvs base h 0 = y := rfl
theorem lvs_succ {y : PS} {base k : Nat} {h : Nat → Int} : y.lvs base h (k + 1) = (y.lvs base h k).sgn base (h k) := rfl
def putB (n : Nat) (g : Nat → Int) (t : Int) : Bool := decide (sideN n ≠ 0) && wiB 1048576 n g && decide (0 ≤ t ∧ t < 15)
end Go.Kin
namespace Go.Proofs.Ytmnoddmecghjdaa
open Go.RowKit Go.Kin
theorem lsort_all (A : Option Addr) (n c : Nat) (g : Nat → Int) (w : World) (hs : sideN n ≠ 0) (hA : Rd w A n (in64 g)) : Calls Try.prog 63 #[.slice A n c] w (GivesI n (srt n g) w) := by
  rcases sideN_yes hs with rfl | rfl
  · exact sort_4 A c g w hA
  · exact sort_8 A c g w hA
theorem lunsort_all (A : Option Addr) (n c : Nat) (g : Nat → Int) (w : World) (hs : sideN n ≠ 0) (hA : Rd w A n (in64 g)) : Calls Try.prog 67 #[.slice A n c] w (GivesI n (uns n g) w) := by
  rcases sideN_yes hs with rfl | rfl
  · exact unsort_4 A c g w hA
  · exact unsort_8 A c g w hA
theorem rsort_all (A : Option Addr) (n c : Nat) (g : Nat → Int) (w : World) (hs : sideN n ≠ 0) (hA : Rd w A n (in64 g)) : Calls Try.prog 65 #[.slice A n c] w (GivesI n (srt n g) w) := by
  rcases sideN_yes hs with rfl | rfl
  · exact rsort_4 A c g w hA
  · exact rsort_8 A c g w hA
theorem runsort_all (A : Option Addr) (n c : Nat) (g : Nat → Int) (w : World) (hs : sideN n ≠ 0) (hA : Rd w A n (in64 g)) : Calls Try.prog 68 #[.slice A n c] w (GivesI n (uns n g) w) := by
  rcases sideN_yes hs with rfl | rfl
  · exact runsort_4 A c g w hA
  · exact runsort_8 A c g w hA
set_option maxHeartbeats 1000000 in
theorem qput_no (o x : Option Addr) (t : Int) (A : Option Addr) (n c : Nat) (g : Nat → Int) (w : World) (hR : Rd w A n (in64 g)) (h : putB n g t = false) :
    Calls Try.prog 32 #[.pointer o, .pointer x, .int .i64 t, .slice A n c] w fun e w' => e = .returned (.int .i64 1) ∧ Below w.heap.size w w' := by
  have HR := Lib.hid hR
  unfold putB at h
  clear hR
  by_cases ha : (decide (sideN n ≠ 0) && wiB 1048576 n g) = true
  · rw [ha, Bool.true_and] at h
    have h' := of_decide_eq_false h
    have ht : t < 0 ∨ (¬ t < 0 ∧ 15 ≤ t) := by omega
    have HA := Lib.hid ha
    clear h h' ha
    rcases ht with h1 | ⟨h1, h2⟩
    all_goals
      go_enter Try.func32, Try.ntmps32
      go_wp2_with fail
      refine (qwithin_any _ _).mono ?_
      rintro e w1 ⟨p, rfl, hp, hB, hb⟩
      have HK := Lib.hid (And.intro (HR.out.below hb) (And.intro hB hb))
      clear hp hB hb
      go_wp2_with fail
      refine (qall_any A n c p 1048576 g _ HK.out.1 HK.out.2.1 (by omega)).mono ?_
      rintro e w' ⟨rfl, hww⟩
      subst hww
      rw [HA.out]
      go_wp2
      go_ret
      exact ⟨rfl, HK.out.2.2⟩
  · have HA : Hid ((decide (sideN n ≠ 0) && wiB 1048576 n g) = false) := Lib.hid (by simpa using ha)
    clear ha h
    go_enter Try.func32, Try.ntmps32
    go_wp2_with fail
    refine (qwithin_any _ _).mono ?_
    rintro e w1 ⟨p, rfl, hp, hB, hb⟩
    have HK := Lib.hid (And.intro (HR.out.below hb) (And.intro hB hb))
    clear hp hB hb
    go_wp2_with fail
    refine (qall_any A n c p 1048576 g _ HK.out.1 HK.out.2.1 (by omega)).mono ?_
    rintro e w' ⟨rfl, hww⟩
    subst hww
    rw [HA.out]
    go_wp2
    go_ret
    exact ⟨rfl, HK.out.2.2⟩
section
variable {w : World} {col : Nat → Nat} {i j x b : Nat} {y : PS}
set_option maxRecDepth 100000 in
set_option maxHeartbeats 4000000 in
theorem qput_yes (t : Nat) (A : Option Addr) (n c : Nat) (g : Nat → Int) (h : SS w col i x j b y) (hij : i ≠ j) (hok : y.ok) (hL : y.s.L ≤ 300000) (hR : Rd w A n (in64 g)) (hs : sideN n ≠ 0) (hg : Wi 1048576 n g) (ht : t < 15) :
    Calls Try.prog 32 #[.pointer (some ⟨b, 0, none⟩), .pointer (some ⟨x, 0, none⟩), .int .i64 t, .slice A n c] w (PutR w col i x j b (y.blk t n g)) := by
  have HR := Lib.hid hR
  have H := Lib.hid h
  have HA : Hid ((decide (sideN n ≠ 0) && wiB 1048576 n g) = true) := Lib.hid (by rw [decide_eq_true hs, wiB_iff.2 hg]; rfl)
  have HSB := Lib.hid (srt_bd hs hg)
  have hn := sideN_yes hs
  have HSO := Lib.hid (fun (w : World) (B : Option Addr) (cb : Nat) (hB : Rd w B n (in64 g)) => lsort_all B n cb g w hs hB)
  have HBL : Hid (y.blk t n g = (y.num (37 * t) (cntZ (srt n g) n)).lvs (37 * (t + 1)) (srt n g) (cntZ (srt n g) n)) := Lib.hid rfl
  obtain ⟨tt, htt⟩ : ∃ tt, tt = t + 1 := ⟨_, rfl⟩
  rw [← htt] at HBL
  have hct : (t : Int) + 1 = (tt : Int) := by omega
  have ht16 : tt < 16 := by omega
  clear htt
  generalize srt n g = hh at *
  have hcn := cntZ_le hh n
  have HZC : Hid (cntZ hh 0 = 0) := Lib.hid rfl
  have HZS : Hid (∀ m, cntZ hh (m + 1) = if hh m = 0 then cntZ hh m else m + 1) := Lib.hid (fun m => rfl)
  generalize hcc : cntZ hh n = cc at *
  have HCC := Lib.hid hcc
  have HOK := Lib.hid (PS.num_ok hok (37 * t) (v := cc) (by omega))
  have HLV := Lib.hid (fun k hk => PS.lvs_ok (base := 37 * tt) HOK.out.1 HSB.out k hk)
  have l1 : ¬ (t : Int) < 0 := by omega
  have l2 : ¬ 15 ≤ (t : Int) := by omega
  have hnp : 0 < n := by omega
  have hn64 : n ≤ 64 := by omega
  clear hR h hs hg hcc hn
  go_enter Try.func32, Try.ntmps32
  go_wp2_with fail
  refine (qwithin_any _ _).mono ?_
  rintro e w1 ⟨p, rfl, hp, hB, hb⟩
  have hkp := Kp.below hb [] col
  have HK := Lib.hid (And.intro (HR.out.below hb) (And.intro hB (And.intro (SS.kp H.out hkp (by simp) (by simp)) (hkp.mono (L := [i, j]) (by simp)))))
  clear hp hB hb hkp
  go_wp2_with fail
  refine (qall_any A n c p 1048576 g _ HK.out.1 HK.out.2.1 (by omega)).mono ?_
  rintro e w' ⟨rfl, hww⟩
  subst hww
  rw [HA.out]
  go_wp2_with fail
  refine (HSO.out _ A c HK.out.1).mono ?_
  rintro e w2 ⟨B, cb, rfl, hRB, hcb, hcm, hfr, hb⟩
  have hkp := Kp.fresh hb col (i + j + 1) []
  have HV := Lib.hid (And.intro (SS.kp HK.out.2.2.1 hkp (by simp) (by simp)) (And.intro (HK.out.2.2.2.trans (hkp.mono (by simp))) (show (It.rd B n (in64 hh)).ok w2 ∧ (It.rd B n (in64 hh)).hue (recol col w1 (i + j + 1)) (i + j + 1) from ⟨hRB, .inr fun k o e => recol_ge (hfr k o e)⟩)))
  generalize recol col w1 (i + j + 1) = c2 at *
  obtain ⟨bb, off, rfl, -, -⟩ := hRB.some_ hnp
  clear hRB hfr hb hkp HK
  go_wp2_with fail
  go_loopw [10] (fun q wr => ∃ m : Nat, m ≤ n ∧ q = .int .i64 m ∧ cntZ hh m = cc ∧ wr = w2) (fun q _ => (intOf q).toNat)
  case atStart => exact ⟨n, Nat.le_refl _, rfl, HCC.out, by trivial⟩
  case round =>
    obtain ⟨m, hm, rfl, hcm2, rfl⟩ := hrel
    have HCM := Lib.hid hcm2
    clear hcm2
    by_cases hnext : ∃ k, m = k + 1 ∧ hh k = 0
    · obtain ⟨k, rfl, hz⟩ := hnext
      have HZ := Lib.hid hz
      have x1 := Rd.at_ (show Rd wr _ _ _ from HV.out.2.2.1) (i := k) (by omega)
      dsimp only [in64] at x1
      rw [hz] at x1
      have l3 : (0 : Int) < (((k + 1 : Nat)) : Int) := by omega
      have l4 : (0 : Int) < (k : Int) + 1 := by omega
      have hk1 : (((k + 1 : Nat)) : Int) - 1 = k := by omega
      have hk2 : (k : Int) < (n : Int) := by omega
      have HC2 : Hid (cntZ hh k = cc) := Lib.hid (by rw [← HCM.out, HZS.out, if_pos hz])
      clear hz HCM
      go_wp2
      go_roundw
      case rel => exact ⟨k, by omega, by go_num, HC2.out, by trivial⟩
      case measure => simp [intOf]
    · have hmc : m = cc := by
        rcases Nat.eq_zero_or_pos m with h0 | h0
        · rw [h0] at HCM ⊢
          have := HCM.out
          rw [HZC.out] at this
          exact this
        · obtain ⟨k, rfl⟩ : ∃ k, m = k + 1 := ⟨m - 1, by omega⟩
          have := HCM.out
          rw [HZS.out, if_neg (fun h => hnext ⟨k, rfl, h⟩)] at this
          exact this
      have hstop : cc = 0 ∨ ∃ k, cc = k + 1 ∧ hh k ≠ 0 := by
        rcases Nat.eq_zero_or_pos cc with h0 | h0
        · exact .inl h0
        · exact .inr ⟨cc - 1, by omega, fun h => hnext ⟨cc - 1, by omega, h⟩⟩
      subst hmc
      clear hnext HCM
      have l6 : (m : Int) ≤ (cb : Int) := by omega
      have l7 : ¬ (cb : Int) = 0 := by omega
      have l8 : ¬ cb = 0 := by omega
      rcases hstop with h0 | ⟨k0, hk0, hz0⟩
      · subst h0
        have l9 : ¬ (0 : Int) < ((0 : Nat) : Int) := by omega
        go_wp2_with fail
        have q1 : y.s.L ≤ 700000 := by omega
        have q2 : t < 16 := by omega
        have hP := bPut_yes t 0 HV.out.1 hij hok q1 q2 (by decide)
        refine hP.mono ?_
        rintro e w3 ⟨c3, rfl, hS3, hK3⟩
        have HW : Hid (SS w3 c3 i x j b (y.blk t n g) ∧ Kp [i, j] w col w3 c3) := Lib.hid ⟨by rw [HBL.out, lvs_zero]; exact hS3, HV.out.2.1.trans hK3⟩
        clear hS3 hK3 HV hP
        go_wp2_with fail
        refine wp_loop_rounds 1 ?_
        rw [rounds_succ]
        go_wp2
        go_ret
        exact ⟨c3, rfl, HW.out.1, HW.out.2⟩
      · have x1 := Rd.at_ (show Rd wr _ _ _ from HV.out.2.2.1) (i := k0) (by omega)
        dsimp only [in64] at x1
        have l3 : (0 : Int) < (m : Int) := by omega
        have hk1 : (m : Int) - 1 = k0 := by omega
        have hk2 : (k0 : Int) < (n : Int) := by omega
        have l4 : (hh k0 == 0) = false := by simp [hz0]
        clear hz0 hk0
        go_wp2_with fail
        have q1 : y.s.L ≤ 700000 := by omega
        have q2 : t < 16 := by omega
        have q3 : m ≤ 1048576 := by omega
        have hP := bPut_yes t m HV.out.1 hij hok q1 q2 q3
        refine hP.mono ?_
        rintro e w3 ⟨c3, rfl, hS3, hK3⟩
        have HW := Lib.hid (And.intro hS3 (And.intro (HV.out.2.1.trans hK3) (hK3.2 (i + j + 1) _ (by simp; omega) HV.out.2.2)))
        clear hS3 hK3 HV hP
        obtain ⟨w4, rfl⟩ : ∃ w4 : World, w4 = w3 := ⟨_, rfl⟩
        rw [← lvs_zero (y := y.num (37 * t) m) (base := 37 * tt) (h := hh)] at HW
        go_wp2_with fail
        go_loopw [55] (fun q wr => ∃ (k : Nat) (col' : Nat → Nat), k ≤ m ∧ q = .int .i64 k ∧ SS wr col' i x j b ((y.num (37 * t) m).lvs (37 * tt) hh k) ∧ Kp [i, j] w col wr col' ∧ ((It.rd (some ⟨bb, off, none⟩) n (in64 hh)).ok wr ∧ (It.rd (some ⟨bb, off, none⟩) n (in64 hh)).hue col' (i + j + 1))) (fun q _ => m - (intOf q).toNat)
        case atStart => exact ⟨0, c3, by omega, rfl, HW.out⟩
        case round =>
          clear HW
          obtain ⟨k, col', hk, rfl, hS, hK, hRd⟩ := hrel
          by_cases hlt : k < m
          · have l5 : (k : Int) < (m : Int) := by omega
            obtain ⟨lo1, lo2, lo3⟩ := HLV.out k (by omega)
            have hok43 := HOK.out.2.1
            have x1 := Rd.at_ (show Rd _ _ _ _ from hRd.1) (i := k) (by omega)
            dsimp only [in64] at x1
            have hbd := HSB.out k (by omega)
            have HNX : Hid ((y.num (37 * t) m).lvs (37 * tt) hh (k + 1) = ((y.num (37 * t) m).lvs (37 * tt) hh k).sgn (37 * tt) (hh k)) := Lib.hid rfl
            have HS := Lib.hid (And.intro hS (And.intro hK hRd))
            clear hS hK hRd
            go_wp2_with fail
            have q4 : ((y.num (37 * t) m).lvs (37 * tt) hh k).s.L ≤ 600000 := by omega
            have hP2 := bPutS_yes tt (hh k) HS.out.1 hij lo1 q4 ht16 hbd
            refine hP2.mono ?_
            rintro e w5 ⟨c5, rfl, hS5, hK5⟩
            rw [← HNX.out] at hS5
            have HS5 := Lib.hid (And.intro hS5 (And.intro (HS.out.2.1.trans hK5) (hK5.2 (i + j + 1) _ (by simp; omega) HS.out.2.2)))
            clear hS5 hK5 HS x1 hP2
            go_wp2
            go_roundw
            case rel => exact ⟨k + 1, c5, by omega, by go_num, HS5.out⟩
            case measure => simp [intOf]; omega
          · obtain rfl : k = m := by omega
            have l5 : ¬ (k : Int) < (k : Int) := by omega
            have HF : Hid (SS wr col' i x j b (y.blk t n g) ∧ Kp [i, j] w col wr col') := Lib.hid ⟨by rw [HBL.out]; exact hS, hK⟩
            clear hS hK hRd
            go_wp2
            go_ret
            exact ⟨col', rfl, HF.out.1, HF.out.2⟩
end
end Go.Proofs.Ytmnoddmecghjdaa
