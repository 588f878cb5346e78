/- The document's Put: a block of levels that is put. -/
import Derived.Test.YtmnoddmecghjdaaQr1
import Derived.Test.YtmnoddmecghjdaaQu4
import Derived.Test.YtmnoddmecghjdaaBr5
set_option linter.unusedVariables false
namespace Go.Proofs.Ytmnoddmecghjdaa
open Go.RowKit Go.Kin
set_option maxHeartbeats 1000000 in
theorem rqput_no (o x : Option Addr) (t : Int) (A : Option Addr) (n c : Nat) (g : Nat → Int) (w : World) (hR : Rd w A n (in64 g)) (h : putB n g t = false) :
    Calls Try.prog 33 #[.pointer o, .pointer x, .int .i64 t, .slice A n c] w fun e w' => e = .returned (.int .i64 1) ∧ w = w' := by
  have HRR := Lib.hid (rright8_any A n c 0 1048576 g w hR (by omega))
  unfold putB at h
  clear hR
  by_cases ha : (decide (sideN n ≠ 0) && wiB 1048576 n g) = true
  · rw [ha, Bool.true_and] at h
    have h' := of_decide_eq_false h
    have ht : t < 0 ∨ (¬ t < 0 ∧ 14 < t) := by omega
    rw [ha, show (true && toB 31 0) = true by decide] at HRR
    clear h h' ha
    rcases ht with h1 | ⟨h1, h2⟩
    all_goals
      go_enter Try.func33, Try.ntmps33
      go_wp2_with fail
      refine HRR.out.mono ?_
      rintro e w' ⟨rfl, hww⟩
      subst hww
      go_wp2
      go_ret
      exact ⟨rfl, rfl⟩
  · have ha' : (decide (sideN n ≠ 0) && wiB 1048576 n g) = false := by simpa using ha
    rw [ha', Bool.false_and] at HRR
    clear ha ha' h
    go_enter Try.func33, Try.ntmps33
    go_wp2_with fail
    refine HRR.out.mono ?_
    rintro e w' ⟨rfl, hww⟩
    subst hww
    go_wp2
    go_ret
    exact ⟨rfl, rfl⟩
section
variable {w : World} {col : Nat → Nat} {i j x b : Nat} {y : PS}
set_option maxRecDepth 100000 in
set_option maxHeartbeats 4000000 in
theorem rqput_yes (t : Nat) (A : Option Addr) (n c : Nat) (g : Nat → Int) (h : SSR w col i x j b y) (hij : i ≠ j) (hok : y.ok) (hL : y.s.L ≤ 300000) (hR : Rd w A n (in64 g)) (hs : sideN n ≠ 0) (hg : Wi 1048576 n g) (ht : t < 15) :
    Calls Try.prog 33 #[.pointer (some ⟨b, 0, none⟩), .pointer (some ⟨x, 0, none⟩), .int .i64 t, .slice A n c] w (PutRI w col i x j b (y.blk t n g)) := by
  have HRR := Lib.hid (rright8_any A n c 0 1048576 g w hR (by omega))
  rw [decide_eq_true hs, wiB_iff.2 hg, show (true && true && toB 31 0) = true by decide] at HRR
  have H := Lib.hid h
  have HSB := Lib.hid (srt_bd hs hg)
  have hn := sideN_yes hs
  have HSO := Lib.hid (rsort_all A n c g w hs hR)
  have HBL : Hid (y.blk t n g = (y.num (37 * t) (cntZ (srt n g) n)).lvs (37 * (t + 1)) (srt n g) (cntZ (srt n g) n)) := Lib.hid rfl
  obtain ⟨tt, htt⟩ : ∃ tt, tt = t + 1 := ⟨_, rfl⟩
  rw [← htt] at HBL
  have hct : (t : Int) + 1 = (tt : Int) := by omega
  have ht16 : tt < 16 := by omega
  clear htt
  generalize srt n g = hh at *
  have hcn := cntZ_le hh n
  have HZS : Hid (∀ m, cntZ hh (m + 1) = if hh m = 0 then cntZ hh m else m + 1) := Lib.hid (fun m => rfl)
  have HZ0 : Hid (cntZ hh 0 = 0) := Lib.hid rfl
  generalize hcc : cntZ hh n = cc at *
  have HCC := Lib.hid hcc
  have HOK := Lib.hid (PS.num_ok hok (37 * t) (v := cc) (by omega))
  have HLV := Lib.hid (fun k hk => PS.lvs_ok (base := 37 * tt) HOK.out.1 HSB.out k hk)
  have l1 : ¬ (t : Int) < 0 := by omega
  have l2 : ¬ 14 < (t : Int) := by omega
  have hnp : 0 < n := by omega
  have hn64 : n ≤ 64 := by omega
  clear hR h hs hg hcc hn
  go_enter Try.func33, Try.ntmps33
  go_wp2_with fail
  refine HRR.out.mono ?_
  rintro e w' ⟨rfl, hww⟩
  subst hww
  go_wp2_with fail
  refine HSO.out.mono ?_
  rintro e w2 ⟨B, cb, rfl, hRB, hcb, hcm, hfr, hb⟩
  have hkp := Kp.fresh hb col (i + j + 1) []
  have HV := Lib.hid (And.intro (SSR.kp H.out hkp (by simp) (by simp)) (And.intro (hkp.mono (L := [i, j]) (by simp)) (show (It.rd B n (in64 hh)).ok w2 ∧ (It.rd B n (in64 hh)).hue (recol col w (i + j + 1)) (i + j + 1) from ⟨hRB, .inr fun k o e => recol_ge (hfr k o e)⟩)))
  generalize recol col w (i + j + 1) = c2 at *
  obtain ⟨bb, off, rfl, -, -⟩ := hRB.some_ hnp
  clear hRB hfr hb hkp H HSO HRR
  go_wp2_with fail
  go_loopw [11, 12] (fun nv iv wr => ∃ m q : Nat, m ≤ n ∧ q ≤ m ∧ nv = .int .i64 q ∧ iv = .int .i64 m ∧ cntZ hh m = q ∧ wr = w2) (fun _ iv _ => ((n : Int) - intOf iv).toNat)
  case atStart => exact ⟨0, 0, by omega, by omega, rfl, rfl, HZ0.out, by trivial⟩
  case round =>
    obtain ⟨m, q, hm, hqm, rfl, rfl, hcm2, rfl⟩ := hrel
    have HCM := Lib.hid hcm2
    clear hcm2
    by_cases hlt : m < n
    · have l3 : (m : Int) < (n : Int) := by omega
      have x1 := Rd.at_ (show Rd wr _ _ _ from HV.out.2.2.1) (i := m) hlt
      dsimp only [in64] at x1
      by_cases hz : hh m = 0
      · have HC2 : Hid (cntZ hh (m + 1) = q) := Lib.hid (by rw [HZS.out, if_pos hz, HCM.out])
        rw [hz] at x1
        clear hz HCM
        go_wp2
        go_roundw
        case rel => exact ⟨m + 1, q, by omega, by omega, rfl, by go_num, HC2.out, by trivial⟩
        case measure => simp [intOf]; omega
      · have HC2 : Hid (cntZ hh (m + 1) = m + 1) := Lib.hid (by rw [HZS.out, if_neg hz])
        have l4 : (hh m != 0) = true := by simp [hz]
        clear hz HCM
        go_wp2
        go_roundw
        case rel => exact ⟨m + 1, m + 1, by omega, by omega, by go_num, by go_num, HC2.out, by trivial⟩
        case measure => simp [intOf]; omega
    · obtain rfl : m = n := by omega
      have hqc : q = cc := by have := HCM.out; rw [HCC.out] at this; exact this.symm
      have l3 : ¬ (m : Int) < (m : Int) := by omega
      clear HCM hlt
      subst hqc
      go_wp2_with fail
      have q1 : y.s.L ≤ 700000 := by omega
      have q2 : t < 16 := by omega
      have q3 : q ≤ 1048576 := by omega
      have hP := rPut_yes t q HV.out.1 hij hok q1 q2 q3
      refine hP.mono ?_
      rintro e w3 ⟨c3, rfl, hS3, hK3⟩
      have HW := Lib.hid (And.intro hS3 (And.intro (HV.out.2.1.trans hK3) (hK3.2 (i + j + 1) _ (by simp; omega) HV.out.2.2)))
      clear hS3 hK3 HV hP
      obtain ⟨w4, rfl⟩ : ∃ w4 : World, w4 = w3 := ⟨_, rfl⟩
      rw [← lvs_zero (y := y.num (37 * t) q) (base := 37 * tt) (h := hh)] at HW
      go_wp2_with fail
      go_loopw [13] (fun qv wr => ∃ (k : Nat) (col' : Nat → Nat), k ≤ q ∧ qv = .int .i64 k ∧ SSR wr col' i x j b ((y.num (37 * t) q).lvs (37 * tt) hh k) ∧ Kp [i, j] w col wr col' ∧ ((It.rd (some ⟨bb, off, none⟩) m (in64 hh)).ok wr ∧ (It.rd (some ⟨bb, off, none⟩) m (in64 hh)).hue col' (i + j + 1))) (fun qv _ => q - (intOf qv).toNat)
      case atStart => exact ⟨0, c3, by omega, rfl, HW.out⟩
      case round =>
        clear HW
        obtain ⟨k, col', hk, rfl, hS, hK, hRd⟩ := hrel
        by_cases hlt : k < q
        · have l5 : (k : Int) < (q : Int) := by omega
          obtain ⟨lo1, lo2, lo3⟩ := HLV.out k (by omega)
          have hok43 := HOK.out.2.1
          have x1 := Rd.at_ (show Rd _ _ _ _ from hRd.1) (i := k) (by omega)
          dsimp only [in64] at x1
          have hbd := HSB.out k (by omega)
          have l6 : (k : Int) < (m : Int) := by omega
          have HNX : Hid ((y.num (37 * t) q).lvs (37 * tt) hh (k + 1) = ((y.num (37 * t) q).lvs (37 * tt) hh k).sgn (37 * tt) (hh k)) := Lib.hid rfl
          have HS := Lib.hid (And.intro hS (And.intro hK hRd))
          clear hS hK hRd
          go_wp2_with fail
          have q4 : ((y.num (37 * t) q).lvs (37 * tt) hh k).s.L ≤ 600000 := by omega
          have hP2 := rPutS_yes tt (hh k) HS.out.1 hij lo1 q4 ht16 hbd
          refine hP2.mono ?_
          rintro e w5 ⟨c5, rfl, hS5, hK5⟩
          rw [← HNX.out] at hS5
          have HS5 := Lib.hid (And.intro hS5 (And.intro (HS.out.2.1.trans hK5) (hK5.2 (i + j + 1) _ (by simp; omega) HS.out.2.2)))
          clear hS5 hK5 HS x1 hP2
          go_wp2
          go_roundw
          case rel => exact ⟨k + 1, c5, by omega, by go_num, HS5.out⟩
          case measure => simp [intOf]; omega
        · obtain rfl : k = q := by omega
          have l5 : ¬ (k : Int) < (k : Int) := by omega
          have HF : Hid (SSR wr col' i x j b (y.blk t m g) ∧ Kp [i, j] w col wr col') := Lib.hid ⟨by rw [HBL.out]; exact hS, hK⟩
          clear hS hK hRd
          go_wp2
          go_ret
          exact ⟨col', rfl, HF.out.1, HF.out.2⟩
end
end Go.Proofs.Ytmnoddmecghjdaa
