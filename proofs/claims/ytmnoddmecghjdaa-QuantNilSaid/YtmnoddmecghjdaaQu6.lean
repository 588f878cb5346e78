/- quant.Put with a book or an encoder that is not there. -/
import Derived.Test.YtmnoddmecghjdaaQu4
set_option linter.unusedVariables false
namespace Go.Proofs.Ytmnoddmecghjdaa
open Go.RowKit Go.Kin
set_option maxRecDepth 100000 in
set_option maxHeartbeats 4000000 in
theorem qput_bad (o x : Option Addr) (t : Int) (A : Option Addr) (n c : Nat) (g : Nat → Int) (w : World) (hR : Rd w A n (in64 g))
    (hP : ∀ (t v : Int) w, Calls Try.prog 28 #[.pointer o, .pointer x, .int .i64 t, .int .i64 v] w fun e w' => e = .returned (.int .i64 1) ∧ w = w') :
    Calls Try.prog 32 #[.pointer o, .pointer x, .int .i64 t, .slice A n c] w fun e w' => e = .returned (.int .i64 1) ∧ Below w.heap.size w w' := by
  cases hb : putB n g t
  · exact qput_no o x t A n c g w hR hb
  · unfold putB at hb
    rw [Bool.and_eq_true, Bool.and_eq_true] at hb
    have ht := of_decide_eq_true hb.2
    have hs := of_decide_eq_true hb.1.1
    have hg := wiB_iff.1 hb.1.2
    have HR := Lib.hid hR
    have HA : Hid ((decide (sideN n ≠ 0) && wiB 1048576 n g) = true) := Lib.hid (by rw [decide_eq_true hs, wiB_iff.2 hg]; rfl)
    have hn := sideN_yes hs
    have HSO := Lib.hid (fun (w : World) (B : Option Addr) (cb : Nat) (hB : Rd w B n (in64 g)) => lsort_all B n cb g w hs hB)
    have HPP := Lib.hid hP
    generalize srt n g = hh at *
    have l1 : ¬ t < 0 := by omega
    have l2 : ¬ 15 ≤ t := by omega
    have hnp : 0 < n := by omega
    have hn64 : n ≤ 64 := by omega
    clear hR hs hg hn hb ht hP
    go_enter Try.func32, Try.ntmps32
    go_wp2_with fail
    refine (qwithin_any _ _).mono ?_
    rintro e w1 ⟨p, rfl, hp, hB, hb⟩
    have HK := Lib.hid (And.intro (HR.out.below hb) (And.intro hB hb))
    clear hp hB hb
    go_wp2_with fail
    refine (qall_any A n c p 1048576 g _ HK.out.1 HK.out.2.1 (by omega)).mono ?_
    rintro e w' ⟨rfl, hww⟩
    subst hww
    rw [HA.out]
    go_wp2_with fail
    refine (HSO.out _ A c HK.out.1).mono ?_
    rintro e w2 ⟨B, cb, rfl, hRB, hcb, hcm, hfr, hb⟩
    have HV := Lib.hid (And.intro hRB (Kin.Below.step HK.out.2.2 hb HK.out.2.2.size))
    obtain ⟨bb, off, rfl, -, -⟩ := hRB.some_ hnp
    clear hRB hfr hb HK
    go_wp2_with fail
    go_loopw [10] (fun q wr => ∃ m : Nat, m ≤ n ∧ q = .int .i64 m ∧ wr = w2) (fun q _ => (intOf q).toNat)
    case atStart => exact ⟨n, Nat.le_refl _, rfl, by trivial⟩
    case round =>
      obtain ⟨m, hm, rfl, rfl⟩ := hrel
      rcases Nat.eq_zero_or_pos m with h0 | h0
      · subst h0
        have l9 : ¬ (0 : Int) < ((0 : Nat) : Int) := by omega
        go_wp2_with fail
        refine (HPP.out t 0 _).mono ?_
        rintro e w' ⟨rfl, hww⟩
        subst hww
        go_wp2
        go_ret
        exact ⟨rfl, HV.out.2⟩
      · obtain ⟨k, rfl⟩ : ∃ k, m = k + 1 := ⟨m - 1, by omega⟩
        have x1 := Rd.at_ HV.out.1 (i := k) (by omega)
        dsimp only [in64] at x1
        have l3 : (0 : Int) < (((k + 1 : Nat)) : Int) := by omega
        have l4 : (0 : Int) < (k : Int) + 1 := by omega
        have hk1 : (((k + 1 : Nat)) : Int) - 1 = k := by omega
        have hk2 : (k : Int) < (n : Int) := by omega
        by_cases hz : hh k = 0
        · rw [hz] at x1
          clear hz
          go_wp2
          go_roundw
          case rel => exact ⟨k, by omega, by go_num, by trivial⟩
          case measure => simp [intOf]
        · have l5 : (hh k == 0) = false := by simp [hz]
          clear hz
          go_wp2_with fail
          refine (HPP.out t _ _).mono ?_
          rintro e w' ⟨rfl, hww⟩
          subst hww
          go_wp2
          go_ret
          exact ⟨rfl, HV.out.2⟩
end Go.Proofs.Ytmnoddmecghjdaa
