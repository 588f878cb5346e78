/- Walks of package quant: all, each, Coarse, Fine. -/
import Derived.Test.YtmnoddmecghjdaaQu1
import Derived.Test.YtmnoddmecghjdaaRg6
import Derived.Deep.DeepCutAuto
set_option linter.unusedVariables false
namespace Go.Kin
open Go.RowKit
/-- What becomes of a block's numbers. -/
def dov (n q : Nat) (g : Nat → Int) (d : Int → Int → Int) (i : Nat) : Int := d (g i) (stp q (i % sideN n) (i / sideN n))
def blkB (n : Nat) (g : Nat → Int) (q : Int) : Bool := decide (sideN n ≠ 0) && wiB 67108864 n g && toB 31 q
def chkB (n : Nat) (g : Nat → Int) (q : Int) (d : Int → Int → Int) : Bool := blkB n g q && wiB 67108864 n (dov n q.toNat g d)
def GivesO (n : Nat) (f : Nat → Int) (ok : Bool) (w : World) (e : Ending) (w' : World) : Prop := GivesIE (if ok then n else 0) f (if ok then 0 else 1) w e w'
theorem GivesO.no {n : Nat} {f : Nat → Int} {w w' : World} {e : Ending} (he : e = .returned (.tuple #[.slice none 0 0, .int .i64 1])) (hb : Below w.heap.size w w') : GivesO n f false w e w' :=
  show GivesIE 0 f 1 w e w' from ⟨none, 0, he, Rd.none_ _ _ _, Nat.le_refl _, by omega, (fun _ _ h => by cases h), hb⟩
theorem wiB_false {M : Int} {n k : Nat} {g : Nat → Int} (hk : k < n) (h : inB M (g k) = false) : wiB M n g = false := by
  unfold inB at h
  exact decide_eq_false (fun h' => of_decide_eq_false h (h' k hk))
theorem wiB_true {M : Int} {n : Nat} {g : Nat → Int} (h : ∀ i, i < n → inB M (g i) = true) : wiB M n g = true := decide_eq_true (fun i hi => of_decide_eq_true (h i hi))
end Go.Kin
namespace Go.Proofs.Ytmnoddmecghjdaa
open Go.RowKit Go.Kin
set_option maxHeartbeats 1000000 in
theorem qall_any (A : Option Addr) (n c p : Nat) (m : Int) (g : Nat → Int) (w : World) (hR : Rd w A n (in64 g)) (hB : Box w p #[.int .i64 m]) (hm : 0 ≤ m ∧ m ≤ 1152921504606846976) :
    Calls Try.prog 61 #[.slice A n c, mayF p] w fun e w' => e = .returned (.bool (decide (sideN n ≠ 0) && wiB m n g)) ∧ w = w' := by
  have HS := Lib.hid (sideZ_nat n)
  by_cases hs : sideN n = 0
  · have HF : Hid ((decide (sideN n ≠ 0) && wiB m n g) = false) := Lib.hid (by simp [hs])
    rw [HF.out]
    have HS0 : Hid (sideZ n = 0) := Lib.hid (by rw [HS.out, hs]; rfl)
    clear hs
    go_enter Try.func61, Try.ntmps61
    go_wp2_with (go_at_call 66; refine (qside_any _ _).mono ?_; rintro e w' ⟨rfl, rfl⟩; rw [HS0.out])
    go_ret
    exact ⟨rfl, rfl⟩
  · have HF : Hid ((decide (sideN n ≠ 0) && wiB m n g) = wiB m n g) := Lib.hid (by simp [hs])
    rw [HF.out]
    have hn := sideN_yes hs
    have hz : ((sideN n : Int) == 0) = false := by simp [hs]
    generalize sideN n = N at *
    clear hs HF
    have HR := Lib.hid hR
    have HB := Lib.hid hB
    clear hR hB
    go_enter Try.func61, Try.ntmps61
    go_wp2_with (go_at_call 66; refine (qside_any _ _).mono ?_; rintro e w' ⟨rfl, hww⟩; subst hww; rw [HS.out])
    go_loopw [13] (fun q wr => ∃ k : Nat, k ≤ n ∧ q = .int .i64 k ∧ (∀ i, i < k → inB m (g i) = true) ∧ wr = w) (fun q _ => ((n : Int) - intOf q).toNat)
    case atStart => exact ⟨0, Nat.zero_le _, rfl, fun i hi => absurd hi (by omega), by trivial⟩
    case round =>
      obtain ⟨k, hk, rfl, hin, rfl⟩ := hrel
      have HI := Lib.hid hin
      clear hin
      by_cases hlt : k < n
      · have l1 : (k : Int) < n := by omega
        obtain ⟨b, off, rfl, -, -⟩ := HR.out.some_ (by omega)
        have c1 := Rd.at_ HR.out (i := k) hlt
        unfold in64 at c1
        by_cases hb : inB m (g k) = true
        · have HI2 : Hid (∀ i, i < k + 1 → inB m (g i) = true) := Lib.hid (fun i hi => by
            rcases Nat.lt_or_ge i k with h | h
            · exact HI.out i h
            · rw [show i = k by omega]; exact hb)
          have HQ := Lib.hid (qmay_any p m (g k) _ HB.out hm)
          rw [hb] at HQ
          clear hb HI
          go_wp2_with fail
          refine HQ.out.mono ?_
          rintro e w' ⟨rfl, hww⟩
          subst hww
          go_wp2
          go_roundw
          case rel => exact ⟨k + 1, by omega, by go_num, HI2.out, by trivial⟩
          case measure => simp [intOf]; omega
        · have hb' : inB m (g k) = false := by simpa using hb
          have HF : Hid (wiB m n g = false) := Lib.hid (wiB_false hlt hb')
          have HQ := Lib.hid (qmay_any p m (g k) _ HB.out hm)
          rw [hb'] at HQ
          clear hb hb' HI
          go_wp2_with fail
          refine HQ.out.mono ?_
          rintro e w' ⟨rfl, hww⟩
          subst hww
          go_wp2
          go_ret
          rw [HF.out]
          exact ⟨rfl, rfl⟩
      · obtain rfl : k = n := by omega
        have l1 : ¬ (k : Int) < k := by omega
        have HF : Hid (wiB m k g = true) := Lib.hid (wiB_true HI.out)
        go_wp2
        go_ret
        rw [HF.out]
        exact ⟨rfl, rfl⟩
section
variable {d : Int → Int → Int} {F : FuncId}
set_option maxRecDepth 100000 in
set_option maxHeartbeats 2000000 in
theorem qeach_no (A : Option Addr) (n c : Nat) (q : Int) (g : Nat → Int) (x : Value) (w : World) (hR : Rd w A n (in64 g)) (h : blkB n g q = false) :
    Calls Try.prog 70 #[.slice A n c, .int .i64 q, x] w fun e w' => e = .returned (.tuple #[.slice none 0 0, .int .i64 1]) ∧ Below w.heap.size w w' := by
  have HR := Lib.hid hR
  have HS := Lib.hid (sideZ_nat n)
  clear hR
  by_cases ha : (decide (sideN n ≠ 0) && wiB 67108864 n g) = true
  · have hq : toB 31 q = false := by
      unfold blkB at h
      rw [ha] at h
      exact h
    have hs : sideN n ≠ 0 := by
      rw [Bool.and_eq_true] at ha
      exact of_decide_eq_true ha.1
    have hn := sideN_yes hs
    have HNO : Hid (∀ x y : Int, ¬ stpOk q x y) := Lib.hid (fun x y h' => by
      unfold toB at hq
      exact of_decide_eq_false hq ⟨h'.1, h'.2.1⟩)
    have HA := Lib.hid ha
    have hsN : 1 ≤ sideN n ∧ sideN n ≤ 8 := by rcases hn with h | h <;> rw [h] <;> decide
    clear h ha hq hs
    go_enter Try.func70, Try.ntmps70
    go_wp2_with fail
    refine (qwithin_any _ _).mono ?_
    rintro e w1 ⟨p, rfl, hp, hB, hb⟩
    have HK := Lib.hid (And.intro (HR.out.below hb) (And.intro hB hb))
    clear hp hB hb
    go_wp2_with fail
    refine (qall_any A n c p 67108864 g _ HK.out.1 HK.out.2.1 (by omega)).mono ?_
    rintro e w' ⟨rfl, hww⟩
    subst hww
    rw [HA.out]
    have hmk := make_i64 n (by omega) w1
    go_wp2_with fail
    refine (qside_any _ _).mono ?_
    rintro e w' ⟨rfl, hww⟩
    subst hww
    rw [HS.out]
    generalize sideN n = N at *
    have K := (((Kn.start w).below HK.out.2.2).add (x := .rd A n (in64 g)) HK.out.1).make w1.heap.size (.int .i64 0) n 3 rfl
    have HK2 := Lib.hid K
    clear K HK
    obtain ⟨b, off, rfl, -, -⟩ := HR.out.some_ (by omega)
    go_wp2_with fail
    go_loopw [28] (fun q wr => q = .int .i64 0 ∧ Rd wr (some ⟨b, off, none⟩) n (in64 g) ∧ Below w.heap.size w wr) (fun _ _ => 0)
    case atStart => exact ⟨rfl, HK2.out.2.1, HK2.out.2.2.1⟩
    case round =>
      obtain ⟨rfl, hRd, hb⟩ := hrel
      clear HK2
      have HB := Lib.hid hb
      have l1 : (0 : Int) < (n : Int) := by omega
      have x1 := Rd.at_ hRd (i := 0) (by omega)
      unfold in64 at x1
      rw [Nat.add_zero] at x1
      have l2 : ¬ (N : Int) = 0 := by omega
      have l4 : ¬ N = 0 := by omega
      have l3 : ((N : Int) == 0) = false := by simp; omega
      have zm : (0 : Int).tmod (N : Int) = 0 := by simp
      have zd : (0 : Int).tdiv (N : Int) = 0 := by simp
      clear hb
      go_wp2_with fail
      refine wp_region_ordT [(0,0),(1,0),(2,0),(3,0),(4,0),(5,0),(6,0),(7,0),(8,0),(9,0),(10,0),(11,0),(12,0)] (by kernel_rfl) (by kernel_rfl) (fun _ _ d _ _ h => by cases d <;> exact h) ?_
      repeat (refine wpOrd_still rfl (fun KK hKK => ?_); go_simp; first | (refine hKK _ ?_; clear hKK KK) | (refine ⟨_, Calls.flip (qstep_no _ _ _ _ (HNO.out _ _)), hKK _ ?_⟩; clear hKK KK))
      refine wpOrd_nil ?_
      go_wp2
      go_ret2
      exact ⟨rfl, HB.out.drew⟩
  · have ha' : (decide (sideN n ≠ 0) && wiB 67108864 n g) = false := by simpa using ha
    have HA := Lib.hid ha'
    clear ha ha' h
    go_enter Try.func70, Try.ntmps70
    go_wp2_with fail
    refine (qwithin_any _ _).mono ?_
    rintro e w1 ⟨p, rfl, hp, hB, hb⟩
    have HK := Lib.hid (And.intro (HR.out.below hb) (And.intro hB hb))
    clear hp hB hb
    go_wp2_with fail
    refine (qall_any A n c p 67108864 g _ HK.out.1 HK.out.2.1 (by omega)).mono ?_
    rintro e w' ⟨rfl, hww⟩
    subst hww
    rw [HA.out]
    go_wp2
    go_ret2
    exact ⟨rfl, HK.out.2.2⟩
set_option maxRecDepth 100000 in
set_option maxHeartbeats 4000000 in
theorem qeach_yes (A : Option Addr) (n c : Nat) (q : Nat) (g : Nat → Int) (w : World) (hR : Rd w A n (in64 g)) (h : blkB n g q = true) (henter : ∀ args w, (callFunc F args).run Try.prog w = .ok (.enter F args) w)
    (hF : ∀ (v s : Int) w, -67108864 ≤ v ∧ v ≤ 67108864 → 1 ≤ s ∧ s ≤ 1008 → Calls Try.prog F #[.int .i64 v, .int .i64 s] w fun e w' => e = .returned (.int .i64 (d v s)) ∧ w = w') :
    Calls Try.prog 70 #[.slice A n c, .int .i64 q, .func (.func F) #[] #[]] w (GivesO n (dov n q g d) (chkB n g q d) w) := by
  have HR := Lib.hid hR
  have HF := Lib.hid hF
  have HS := Lib.hid (sideZ_nat n)
  have HC : Hid (chkB n g q d = wiB 67108864 n (dov n q g d)) := Lib.hid (by unfold chkB; rw [h, Int.toNat_natCast]; rfl)
  unfold blkB at h
  rw [Bool.and_eq_true, Bool.and_eq_true] at h
  obtain ⟨⟨h1, h2⟩, h3⟩ := h
  have HA : Hid ((decide (sideN n ≠ 0) && wiB 67108864 n g) = true) := Lib.hid (by rw [h1, h2]; rfl)
  have hs : sideN n ≠ 0 := of_decide_eq_true h1
  have hn := sideN_yes hs
  have hq31 : q ≤ 31 := by have := of_decide_eq_true h3; omega
  have HWI := Lib.hid (wiB_iff.1 h2)
  have hsN : 1 ≤ sideN n ∧ sideN n ≤ 8 ∧ sideN n * sideN n = n := by rcases hn with h | h <;> rw [h] <;> decide
  have HD : Hid (∀ i, i < n → i % sideN n ≤ 7 ∧ i / sideN n ≤ 7) := Lib.hid (fun i hi => by
    obtain ⟨a1, a2, a3⟩ := hsN
    refine ⟨by have := Nat.mod_lt i (show 0 < sideN n by omega); omega, ?_⟩
    have : i / sideN n < sideN n := Nat.div_lt_of_lt_mul (by rw [a3]; exact hi)
    omega)
  have HDV : Hid (∀ i, dov n q g d i = d (g i) (stp q (i % sideN n) (i / sideN n))) := Lib.hid (fun i => rfl)
  clear h1 h2 h3 hs hR hF
  go_enter Try.func70, Try.ntmps70
  go_wp2_with fail
  refine (qwithin_any _ _).mono ?_
  rintro e w1 ⟨p, rfl, hp, hB, hb⟩
  have HK := Lib.hid (And.intro (HR.out.below hb) (And.intro hB hb))
  clear hp hB hb
  go_wp2_with fail
  refine (qall_any A n c p 67108864 g _ HK.out.1 HK.out.2.1 (by omega)).mono ?_
  rintro e w' ⟨rfl, hww⟩
  subst hww
  rw [HA.out]
  have hmk := make_i64 n (by omega) w1
  go_wp2_with fail
  refine (qside_any _ _).mono ?_
  rintro e w' ⟨rfl, hww⟩
  subst hww
  rw [HS.out]
  generalize sideN n = N at *
  obtain ⟨a1, a2, a3⟩ := hsN
  have K0 := (((Kn.start w).below HK.out.2.2).add (x := .rd A n (in64 g)) HK.out.1).add (x := .box p #[.int .i64 67108864]) HK.out.2.1
  have OF := Lib.hid (K0.offS (b := w1.heap.size) (Nat.le_refl _))
  have K := K0.make w1.heap.size (.int .i64 0) n 3 rfl
  clear K0
  have HK2 := Lib.hid K
  have HLT := Lib.hid (And.intro (Box.lt HK.out.2.1) HK.out.2.2.size)
  clear K HK
  obtain ⟨b, off, rfl, -, -⟩ := HR.out.some_ (by omega)
  go_wp2_with fail
  go_loopw [28] (fun qv wr => ∃ k : Nat, k ≤ n ∧ qv = .int .i64 k ∧ (∀ i, i < k → inB 67108864 (dov n q g d i) = true) ∧ Kn wr [.row w1.heap.size n (in64 fun i => if i < k then dov n q g d i else 0), .box p #[.int .i64 67108864], .rd (some ⟨b, off, none⟩) n (in64 g), .since w]) (fun qv _ => ((n : Int) - intOf qv).toNat)
  case atStart => exact ⟨0, by omega, rfl, fun i hi => absurd hi (by omega), HK2.out.row (fun i hi => by simp [in64])⟩
  case round =>
    obtain ⟨k, hk, rfl, hin, K⟩ := hrel
    clear HK2
    have HIN := Lib.hid hin
    clear hin
    by_cases hlt : k < n
    · have l1 : (k : Int) < n := by omega
      have l2 : ((N : Int) == 0) = false := by simp; omega
      have l3 : ¬ (N : Int) = 0 := by omega
      have l4 : ¬ N = 0 := by omega
      obtain ⟨d1, d2⟩ := HD.out k hlt
      have hgk := HWI.out k hlt
      have hsb := stp_bd hq31 d1 d2
      have HV : Hid (dov n q g d k = d (g k) ((stp q (k % N) (k / N) : Nat) : Int)) := Lib.hid (HDV.out k)
      have HST := Lib.hid (fun w => qstep_yes q (k % N) (k / N) w hq31 d1 d2)
      have HFK := Lib.hid (fun w => HF.out (g k) ((stp q (k % N) (k / N) : Nat) : Int) w hgk (by omega))
      have zm : (k : Int).tmod (N : Int) = ((k % N : Nat) : Int) := by rw [Int.tmod_eq_emod_of_nonneg (by omega)]; rfl
      have zd : (k : Int).tdiv (N : Int) = ((k / N : Nat) : Int) := by rw [Int.tdiv_eq_ediv_of_nonneg (by omega)]; rfl
      generalize stp q (k % N) (k / N) = sp at *
      rw [← HV.out] at HFK
      generalize k % N = km at *
      generalize k / N = kd at *
      have hzm : IntKind.i64.wrap (km : Int) = km := by rw [IntKind.wrap_i64]; omega
      have hzd : IntKind.i64.wrap (kd : Int) = kd := by rw [IntKind.wrap_i64]; omega
      have x1 := Rd.at_ (show Rd _ _ _ _ from K.2.2.1) (i := k) hlt
      unfold in64 at x1
      have HK := Lib.hid (Kn.drew K)
      clear K HV
      go_wp2_with fail
      refine wp_region_ordT [(0,0),(1,0),(2,0),(3,0),(4,0),(5,0),(6,0),(7,0),(8,0),(9,0),(10,0),(11,0),(12,0)] (by kernel_rfl) (by kernel_rfl) (fun _ _ d _ _ h => by cases d <;> exact h) ?_
      repeat (refine wpOrd_still rfl (fun KK hKK => ?_); go_simp; first | (refine hKK _ ?_; clear hKK KK) | (refine ⟨_, Calls.flip (HST.out _), hKK _ ?_⟩; clear hKK KK))
      refine wpOrd_nil ?_
      generalize wr.drew = wd at *
      have cr := Row.cell HK.out.1 hlt
      have fr := Row.frozen HK.out.1 k
      have HK2 := Lib.hid ((Kn.setRowS HK.out k (.int .i64 (dov n q g d k)) OF.out).row (g := in64 fun i => if i < k + 1 then dov n q g d i else 0) (fun i hi => by
        unfold in64
        dsimp only
        by_cases h : i = k
        · subst h; rw [if_pos rfl, if_pos (by omega)]
        · rw [if_neg h]
          by_cases h2 : i < k
          · rw [if_pos h2, if_pos (by omega)]
          · rw [if_neg h2, if_neg (by omega)]))
      have x2 := Row.cell HK2.out.1 hlt
      dsimp only [in64] at x2
      rw [if_pos (show k < k + 1 by omega)] at x2
      go_wp2_with fail
      refine (HFK.out _).mono ?_
      rintro e w' ⟨rfl, hww⟩
      subst hww
      go_wp2_with fail
      refine (qmay_any p 67108864 (dov n q g d k) _ HK2.out.2.1 (by omega)).mono ?_
      rintro e w' ⟨rfl, hww⟩
      subst hww
      by_cases hb : inB 67108864 (dov n q g d k) = true
      · have HI2 : Hid (∀ i, i < k + 1 → inB 67108864 (dov n q g d i) = true) := Lib.hid (fun i hi => by
          rcases Nat.lt_or_ge i k with h | h
          · exact HIN.out i h
          · rw [show i = k by omega]; exact hb)
        rw [hb]
        clear hb
        go_wp2
        go_roundw
        case rel => exact ⟨k + 1, by omega, by go_num, HI2.out, HK2.out⟩
        case measure => simp [intOf]; omega
      · have hb' : inB 67108864 (dov n q g d k) = false := by simpa using hb
        have HF2 : Hid (chkB n g q d = false) := Lib.hid (by rw [HC.out]; exact wiB_false hlt hb')
        rw [hb']
        clear hb hb'
        go_wp2
        go_ret2
        rw [HF2.out]
        exact GivesO.no rfl HK2.out.2.2.2.1
    · obtain rfl : k = n := by omega
      have l1 : ¬ (k : Int) < k := by omega
      have HF2 : Hid (chkB k g q d = true) := Lib.hid (by rw [HC.out]; exact wiB_true HIN.out)
      have HK := Lib.hid K
      clear K
      go_wp2
      go_ret2
      rw [HF2.out]
      show GivesIE k _ 0 w _ _
      exact ⟨some ⟨w1.heap.size, 0, none⟩, k, rfl, (Row.rd HK.out.1).congr (fun i hi => by unfold in64; dsimp only; rw [if_pos hi]), Nat.le_refl _, by omega, fun a o h => by injection h with h; injection h with h; have := HLT.out.2; omega, HK.out.2.2.2.1⟩
end
end Go.Proofs.Ytmnoddmecghjdaa
