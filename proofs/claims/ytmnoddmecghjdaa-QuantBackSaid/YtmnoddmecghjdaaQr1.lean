/- The document's quantiser: Step, Level, side, right, Coarse, Fine. -/
import Derived.Test.YtmnoddmecghjdaaQu3
import Derived.Test.YtmnoddmecghjdaaKn2M
set_option linter.unusedVariables false
namespace Go.Kin
open Go.RowKit
def stS (q k : Nat) : Nat := (4 + q % 4) * 2 ^ k
theorem stS_next (q k : Nat) : stS q (k + 1) = 2 * stS q k := by unfold stS; rw [Nat.pow_succ, ← Nat.mul_assoc, Nat.mul_comm]
theorem stS_bd {q k : Nat} (hq : q ≤ 31) (hk : k ≤ q / 4) : stS q k ≤ 896 := by
  have h1 : (4 + q % 4) * 2 ^ k ≤ 7 * 2 ^ 7 := Nat.mul_le_mul (by omega) (Nat.pow_le_pow_right (by omega) (by omega))
  unfold stS
  omega
end Go.Kin
namespace Go.Proofs.Ytmnoddmecghjdaa
open Go.RowKit Go.Kin
theorem rqstep_no (q x y : Int) (w : World) (h : ¬ stpOk q x y) : Calls Try.prog 39 #[.int .i64 q, .int .i64 x, .int .i64 y] w fun e w' => e = .returned (.tuple #[.int .i64 0, .int .i64 1]) ∧ w = w' := by
  have h' : q < 0 ∨ (¬ q < 0 ∧ 31 < q) ∨ (¬ q < 0 ∧ ¬ 31 < q ∧ x < 0) ∨ (¬ q < 0 ∧ ¬ 31 < q ∧ ¬ x < 0 ∧ 7 < x) ∨ (¬ q < 0 ∧ ¬ 31 < q ∧ ¬ x < 0 ∧ ¬ 7 < x ∧ y < 0) ∨ (¬ q < 0 ∧ ¬ 31 < q ∧ ¬ x < 0 ∧ ¬ 7 < x ∧ ¬ y < 0 ∧ 7 < y) := by unfold stpOk at h; omega
  clear h
  rcases h' with h1 | ⟨h1, h2⟩ | ⟨h1, h2, h3⟩ | ⟨h1, h2, h3, h4⟩ | ⟨h1, h2, h3, h4, h5⟩ | ⟨h1, h2, h3, h4, h5, h6⟩
  all_goals
    go_enter Try.func39, Try.ntmps39
    go_wp2
    go_ret2
    exact ⟨rfl, rfl⟩
theorem rqstep_yes (q x y : Nat) (w : World) (hq : q ≤ 31) (hx : x ≤ 7) (hy : y ≤ 7) : Calls Try.prog 39 #[.int .i64 q, .int .i64 x, .int .i64 y] w fun e w' => e = .returned (.tuple #[.int .i64 (stp q x y : Nat), .int .i64 0]) ∧ w = w' := by
  have l1 : ¬ (q : Int) < 0 := by omega
  have l2 : ¬ 31 < (q : Int) := by omega
  have l3 : ¬ (x : Int) < 0 := by omega
  have l4 : ¬ 7 < (x : Int) := by omega
  have l5 : ¬ (y : Int) < 0 := by omega
  have l6 : ¬ 7 < (y : Int) := by omega
  have HSB := Lib.hid (fun k => stS_bd (k := k) hq)
  have HSN := Lib.hid (stS_next q)
  have HS0 : Hid (stS q 0 = 4 + q % 4) := Lib.hid (by unfold stS; rw [Nat.pow_zero, Nat.mul_one])
  have HST : Hid (∀ S : Nat, S = stS q (q / 4) → wrap64 (wrap64 ((S : Int) / 4 * (4 + (x : Int) + (y : Int))) / 4) = (stp q x y : Nat)) := Lib.hid (fun S hS => by
    have b := stS_bd hq (Nat.le_refl (q / 4))
    rw [← hS] at b
    have e : stp q x y = S / 4 * (4 + x + y) / 4 := by rw [hS]; rfl
    rw [e]
    have h2 : ((S : Nat) : Int) / 4 * (4 + (x : Int) + (y : Int)) = ((S / 4 * (4 + x + y) : Nat) : Int) := by push_cast; rfl
    have h3 : S / 4 * (4 + x + y) ≤ 224 * 18 := Nat.mul_le_mul (by omega) (by omega)
    rw [h2, IntWalk.wrap64_in (S / 4 * (4 + x + y) : Nat) (by omega), IntWalk.wrap64_in _ (by omega)]
    omega)
  have zm : (q : Int).tmod 4 = ((q % 4 : Nat) : Int) := by rw [Int.tmod_eq_emod_of_nonneg (by omega)]; omega
  have zd : (q : Int).tdiv 4 = ((q / 4 : Nat) : Int) := by rw [Int.tdiv_eq_ediv_of_nonneg (by omega)]; omega
  go_enter Try.func39, Try.ntmps39
  go_wp2_with fail
  go_loopw [8, 9] (fun sv kv wr => ∃ k S : Nat, k ≤ q / 4 ∧ S = stS q k ∧ sv = .int .i64 S ∧ kv = .int .i64 k ∧ wr = w) (fun _ kv _ => ((q / 4 : Nat) : Int).toNat - (intOf kv).toNat)
  case atStart => exact ⟨0, 4 + q % 4, by omega, HS0.out.symm, by go_num, rfl, by trivial⟩
  case round =>
    obtain ⟨k, S, hk, hS, rfl, rfl, rfl⟩ := hrel
    have hb : S ≤ 896 := by rw [hS]; exact HSB.out k hk
    have HS := Lib.hid hS
    clear hS
    by_cases hlt : k < q / 4
    · have l7 : (k : Int) < ((q / 4 : Nat) : Int) := by omega
      have l8 : (k : Int) < (q : Int) / 4 := by omega
      go_wp2
      go_roundw
      case rel => exact ⟨k + 1, 2 * S, by omega, by rw [HSN.out, HS.out], by go_num, by go_num, by trivial⟩
      case measure => simp [intOf]; omega
    · have hkq : k = q / 4 := by omega
      have HV := Lib.hid (HST.out S (by rw [HS.out, hkq]))
      have l7 : ¬ (k : Int) < ((q / 4 : Nat) : Int) := by omega
      have l8 : ¬ (k : Int) < (q : Int) / 4 := by omega
      have z3 : (S : Int).tdiv 4 = (S : Int) / 4 := Int.tdiv_eq_ediv_of_nonneg (by omega)
      have hp : 0 ≤ wrap64 ((S : Int) / 4 * (4 + (x : Int) + (y : Int))) := by
        have h2 : ((S : Nat) : Int) / 4 * (4 + (x : Int) + (y : Int)) = ((S / 4 * (4 + x + y) : Nat) : Int) := by push_cast; rfl
        have h3 : S / 4 * (4 + x + y) ≤ 224 * 18 := Nat.mul_le_mul (by omega) (by omega)
        rw [h2, IntWalk.wrap64_in _ (by omega)]
        omega
      have z4 : (wrap64 ((S : Int) / 4 * (4 + (x : Int) + (y : Int)))).tdiv 4 = wrap64 ((S : Int) / 4 * (4 + (x : Int) + (y : Int))) / 4 := Int.tdiv_eq_ediv_of_nonneg hp
      clear hp hlt hkq
      go_wp2
      go_ret2
      exact ⟨by rw [← HV.out]; rfl, rfl⟩
theorem rlev_any (v s : Int) (w : World) (hv : -1152921504606846976 ≤ v ∧ v ≤ 1152921504606846976) (hs : -9223372036854775808 ≤ s ∧ s ≤ 1152921504606846976) :
    Calls Try.prog 41 #[.int .i64 v, .int .i64 s] w fun e w' => e = .returned (.int .i64 (levI v s)) ∧ w = w' := by
  unfold levI
  by_cases h1 : s < 1
  · rw [if_pos h1]
    go_enter Try.func41, Try.ntmps41
    go_wp2
    go_ret
    exact ⟨rfl, rfl⟩
  · rw [if_neg h1]
    have z1 : s.tdiv 3 = s / 3 := Int.tdiv_eq_ediv_of_nonneg (by omega)
    by_cases h2 : v < 0
    · rw [if_pos h2]
      have HL := lev_pos (v := -v) (s := s) (by omega) (by omega)
      have z2 : (-v + s / 3).tdiv s = (-v + s / 3) / s := Int.tdiv_eq_ediv_of_nonneg (by omega)
      generalize (-v + s / 3) / s = r at *
      have z3 : IntKind.i64.wrap (-v) = -v := by rw [IntKind.wrap_i64]; omega
      have z4 : IntKind.i64.wrap (-v + s / 3) = -v + s / 3 := by rw [IntKind.wrap_i64]; omega
      have z5 : IntKind.i64.wrap r = r := by rw [IntKind.wrap_i64]; omega
      have z6 : IntKind.i64.wrap (-r) = -r := by rw [IntKind.wrap_i64]; omega
      have z7 : IntKind.i64.wrap (s / 3) = s / 3 := by rw [IntKind.wrap_i64]; omega
      go_enter Try.func41, Try.ntmps41
      go_wp2
      go_ret
      exact ⟨rfl, rfl⟩
    · rw [if_neg h2]
      have HL := lev_pos (v := v) (s := s) (by omega) (by omega)
      have z2 : (v + s / 3).tdiv s = (v + s / 3) / s := Int.tdiv_eq_ediv_of_nonneg (by omega)
      generalize (v + s / 3) / s = r at *
      have z4 : IntKind.i64.wrap (v + s / 3) = v + s / 3 := by rw [IntKind.wrap_i64]; omega
      have z5 : IntKind.i64.wrap r = r := by rw [IntKind.wrap_i64]; omega
      have z7 : IntKind.i64.wrap (s / 3) = s / 3 := by rw [IntKind.wrap_i64]; omega
      go_enter Try.func41, Try.ntmps41
      go_wp2
      go_ret
      exact ⟨rfl, rfl⟩
theorem rside8_any (n : Nat) (w : World) (h : sideN n ≠ 0) : Calls Try.prog 71 #[.int .i64 n] w fun e w' => e = .returned (.int .i64 (sideN n)) ∧ w = w' := by
  rcases sideN_yes h with rfl | rfl
  all_goals
    clear h
    go_enter Try.func71, Try.ntmps71
    go_wp2
    go_ret
    exact ⟨rfl, rfl⟩
set_option maxRecDepth 100000 in
set_option maxHeartbeats 2000000 in
theorem rright8_any (A : Option Addr) (n c : Nat) (q m : Int) (g : Nat → Int) (w : World) (hR : Rd w A n (in64 g)) (hm : 0 ≤ m ∧ m ≤ 1152921504606846976) :
    Calls Try.prog 64 #[.slice A n c, .int .i64 q, .int .i64 m] w fun e w' => e = .returned (.bool (decide (sideN n ≠ 0) && wiB m n g && toB 31 q)) ∧ w = w' := by
  have HR := Lib.hid hR
  clear hR
  by_cases hs : sideN n = 0
  · have HF : Hid ((decide (sideN n ≠ 0) && wiB m n g && toB 31 q) = false) := Lib.hid (by simp [hs])
    rw [HF.out]
    have hn : n ≠ 16 ∧ n ≠ 64 := by
      constructor <;> (intro h; rw [h] at hs; exact absurd hs (by decide))
    have e1 : ((n : Int) != 16) = true := by simp; omega
    have e2 : ((n : Int) != 64) = true := by simp; omega
    clear hs hn
    go_enter Try.func64, Try.ntmps64
    go_wp2
    go_ret
    exact ⟨rfl, rfl⟩
  · have hn := sideN_yes hs
    have HF : Hid ((decide (sideN n ≠ 0) && wiB m n g && toB 31 q) = (wiB m n g && toB 31 q)) := Lib.hid (by simp [hs])
    rw [HF.out]
    clear hs HF
    by_cases hq : toB 31 q = true
    · have hq' := of_decide_eq_true hq
      have HF : Hid ((wiB m n g && toB 31 q) = wiB m n g) := Lib.hid (by rw [hq, Bool.and_true])
      rw [HF.out]
      clear hq HF
      have q1 : ¬ q < 0 := by omega
      have q2 : ¬ 31 < q := by omega
      have z : IntKind.i64.wrap (-m) = -m := by rw [IntKind.wrap_i64]; omega
      have hcase : ((n : Int) != 16) = false ∨ (((n : Int) != 16) = true ∧ ((n : Int) != 64) = false) := by
        rcases hn with rfl | rfl
        · exact .inl rfl
        · exact .inr ⟨rfl, rfl⟩
      rcases hcase with e1 | ⟨e1, e2⟩
      all_goals
        go_enter Try.func64, Try.ntmps64
        go_wp2
        go_loopw [7] (fun i wr => ∃ k : Nat, k ≤ n ∧ i = .int .i64 k ∧ (∀ i, i < k → inB m (g i) = true) ∧ wr = w) (fun i _ => ((n : Int) - intOf i).toNat)
        case atStart => exact ⟨0, Nat.zero_le _, rfl, fun i hi => absurd hi (by omega), by trivial⟩
        case round =>
          obtain ⟨k, hk, rfl, hin, rfl⟩ := hrel
          have HI := Lib.hid hin
          clear hin
          by_cases hlt : k < n
          · have l1 : (k : Int) < n := by omega
            obtain ⟨b, off, rfl, -, -⟩ := HR.out.some_ (by omega)
            have c1 := Rd.at_ HR.out (i := k) hlt
            unfold in64 at c1
            by_cases g1 : g k < -m
            · have HF : Hid (wiB m n g = false) := Lib.hid (wiB_false hlt (decide_eq_false (by omega)))
              go_wp2
              go_ret
              rw [HF.out]
              exact ⟨rfl, rfl⟩
            · by_cases g2 : m < g k
              · have HF : Hid (wiB m n g = false) := Lib.hid (wiB_false hlt (decide_eq_false (by omega)))
                go_wp2
                go_ret
                rw [HF.out]
                exact ⟨rfl, rfl⟩
              · have HI2 : Hid (∀ i, i < k + 1 → inB m (g i) = true) := Lib.hid (fun i hi => by
                  rcases Nat.lt_or_ge i k with h | h
                  · exact HI.out i h
                  · rw [show i = k by omega]; exact decide_eq_true (by omega))
                go_wp2
                go_roundw
                case rel => exact ⟨k + 1, by omega, by go_num, HI2.out, by trivial⟩
                case measure => simp [intOf]; omega
          · obtain rfl : k = n := by omega
            have l1 : ¬ (k : Int) < k := by omega
            have HF : Hid (wiB m k g = true) := Lib.hid (wiB_true HI.out)
            go_wp2
            go_ret
            rw [HF.out]
            exact ⟨rfl, rfl⟩
    · have hq' : toB 31 q = false := by simpa using hq
      have HF : Hid ((wiB m n g && toB 31 q) = false) := Lib.hid (by rw [hq', Bool.and_false])
      rw [HF.out]
      have hqq : q < 0 ∨ (¬ q < 0 ∧ 31 < q) := by have := of_decide_eq_false hq'; omega
      clear hq hq' HF
      have hcase : ((n : Int) != 16) = false ∨ (((n : Int) != 16) = true ∧ ((n : Int) != 64) = false) := by
        rcases hn with rfl | rfl
        · exact .inl rfl
        · exact .inr ⟨rfl, rfl⟩
      rcases hqq with q1 | ⟨q1, q2⟩
      all_goals
        rcases hcase with e1 | ⟨e1, e2⟩
        all_goals
          go_enter Try.func64, Try.ntmps64
          go_wp2
          go_ret
          exact ⟨rfl, rfl⟩
set_option maxRecDepth 100000 in
set_option maxHeartbeats 4000000 in
theorem rcoarse_any (A : Option Addr) (n c : Nat) (q : Int) (g : Nat → Int) (w : World) (hR : Rd w A n (in64 g)) :
    Calls Try.prog 44 #[.slice A n c, .int .i64 q] w (GivesO n (dov n q.toNat g levI) (blkB n g q) w) := by
  have HR := Lib.hid hR
  cases hb : blkB n g q
  · have HF : Hid ((blkB n g q) = false) := Lib.hid (hb)
    have HB : Hid ((decide (sideN n ≠ 0) && wiB 67108864 n g && toB 31 q) = false) := Lib.hid hb
    try rw [HF.out]
    clear hb HF
    go_enter Try.func44, Try.ntmps44
    go_wp2_with (go_at_call 64; refine (rright8_any A n c q 67108864 g _ HR.out (by omega)).mono ?_; rintro e w' ⟨rfl, rfl⟩; rw [HB.out])
    go_ret2
    exact GivesO.no rfl (Below.refl _ _)
  · obtain ⟨u, rfl, hu⟩ := blkB_nat hb
    rw [Int.toNat_natCast]
    have HB : Hid ((decide (sideN n ≠ 0) && wiB 67108864 n g && toB 31 (u : Int)) = true) := Lib.hid hb
    have HC : Hid ((blkB n g u) = true) := Lib.hid (by exact hb)
    have hb0 := hb
    unfold blkB at hb
    rw [Bool.and_eq_true, Bool.and_eq_true] at hb
    obtain ⟨⟨h1, h2⟩, h3⟩ := hb
    have hs : sideN n ≠ 0 := of_decide_eq_true h1
    have hn := sideN_yes hs
    have HWI := Lib.hid (wiB_iff.1 h2)
    have HSD := Lib.hid (fun w => rside8_any n w hs)
    have hsN : 1 ≤ sideN n ∧ sideN n ≤ 8 ∧ sideN n * sideN n = n := by rcases hn with h | h <;> rw [h] <;> decide
    have HD : Hid (∀ i, i < n → i % sideN n ≤ 7 ∧ i / sideN n ≤ 7) := Lib.hid (fun i hi => by
      obtain ⟨a1, a2, a3⟩ := hsN
      refine ⟨by have := Nat.mod_lt i (show 0 < sideN n by omega); omega, ?_⟩
      have : i / sideN n < sideN n := Nat.div_lt_of_lt_mul (by rw [a3]; exact hi)
      omega)
    have HDV : Hid (∀ i, dov n u g levI i = levI (g i) ((stp u (i % sideN n) (i / sideN n) : Nat) : Int)) := Lib.hid (fun i => rfl)
    generalize hdd : dov n u g levI = dd at *
    clear h1 h2 h3 hs hb0 hdd
    obtain ⟨i0, hi0, hz0, hz1, hz2⟩ := parts_i64
    have HI := Lib.hid hi0
    clear hi0 hR
    go_enter Try.func44, Try.ntmps44
    go_wp2_with fail
    refine (rright8_any A n c u 67108864 g _ HR.out (by omega)).mono ?_
    rintro e w' ⟨rfl, hww⟩
    subst hww
    rw [HB.out]
    go_wp2_with fail
    refine (HSD.out _).mono ?_
    rintro e w' ⟨rfl, hww⟩
    subst hww
    generalize sideN n = N at *
    obtain ⟨a1, a2, a3⟩ := hsN
    have HK := Lib.hid ((Kn.start w).add (x := .own w.heap.size 3 none 0 0 (in64 dd)) (OwnS.nil _ _ _ _))
    go_wp2_with fail
    go_loopw [8, 9] (fun v iv wr => ∃ (k cc : Nat) (B : Option Addr), k ≤ n ∧ iv = .int .i64 k ∧ v = .slice B k cc ∧ Kn wr [.own w.heap.size 3 B k cc (in64 dd), .since w]) (fun _ iv _ => ((n : Int) - intOf iv).toNat)
    case atStart => exact ⟨0, _, _, by omega, rfl, rfl, HK.out⟩
    case round =>
      obtain ⟨k, cc, B, hk, rfl, rfl, K⟩ := hrel
      clear HK
      have HK := Lib.hid (Kn.drew K)
      have hsz : w.heap.size ≤ wr.heap.size := Below.size K.2.1
      by_cases hlt : k < n
      · have l1 : (k : Int) < n := by omega
        have l4 : ¬ N = 0 := by omega
        obtain ⟨d1, d2⟩ := HD.out k hlt
        have hgk := HWI.out k hlt
        have hsb := stp_bd hu d1 d2
        have HV := Lib.hid (HDV.out k)
        have HST := Lib.hid (fun w => rqstep_yes u (k % N) (k / N) w hu d1 d2)
        have zm : (k : Int).tmod (N : Int) = ((k % N : Nat) : Int) := by rw [Int.tmod_eq_emod_of_nonneg (by omega)]; rfl
        have zd : (k : Int).tdiv (N : Int) = ((k / N : Nat) : Int) := by rw [Int.tdiv_eq_ediv_of_nonneg (by omega)]; rfl
        generalize stp u (k % N) (k / N) = sp at *
        generalize k % N = km at *
        generalize k / N = kd at *
        have hzm : IntKind.i64.wrap (km : Int) = km := by rw [IntKind.wrap_i64]; omega
        have hzd : IntKind.i64.wrap (kd : Int) = kd := by rw [IntKind.wrap_i64]; omega
        have l2 : ((N : Int) == 0) = false := by simp; omega
        have l3 : ¬ (N : Int) = 0 := by omega
        have HLV := Lib.hid (fun w => rlev_any (g k) (sp : Int) w (by omega) (by omega))
        generalize levI (g k) (sp : Int) = lv at *
        have hRW := HR.out.below K.2.1
        obtain ⟨b, off, rfl, -, -⟩ := hRW.some_ (by omega)
        have x1 := Rd.at_ (show Rd wr.drew (some ⟨b, off, none⟩) n (in64 g) from hRW.drew) (i := k) hlt
        unfold in64 at x1
        clear K hRW
        go_wp2_with fail
        refine wp_region_ordT [(0,0),(1,0),(2,0),(3,0),(4,0),(5,0),(6,0),(7,0),(8,0),(9,0),(10,0),(11,0),(12,0)] (by kernel_rfl) (by kernel_rfl) (fun _ _ d _ _ h => by cases d <;> exact h) ?_
        repeat (refine wpOrd_still rfl (fun KK hKK => ?_); go_simp; first | (refine hKK _ ?_; clear hKK KK) | (refine ⟨_, Calls.flip (HST.out _), hKK _ ?_⟩; clear hKK KK))
        refine wpOrd_nil ?_
        generalize hwd : wr.drew = wd at *
        have hsz2 : w.heap.size ≤ wd.heap.size := by rw [← hwd]; exact hsz
        clear hwd
        go_wp2_with fail
        refine (HLV.out _).mono ?_
        rintro e w' ⟨rfl, hww⟩
        subst hww
        go_wp2_with (at_builtin; refine wpList_app1 rfl (.tmp 37) (.tmp 44) rfl Try.underlying57 HI.out hz0 hz1 hz2 rfl rfl rfl (OwnS.alloc HK.out.1 _) (Box.new wd _ _) rfl ?_ ?_ ?_ ?_; rotate_right; intro A4 c4 w4 bo hO4 hbo ho4)
        rotate_left
        · unfold maxLen; omega
        · omega
        · simp; omega
        have HK4 := Lib.hid ((Kn.othS (HK.out.2.alloc _) ho4 ⟨hbo, trivial⟩).add (x := .own w.heap.size 3 A4 (k + 1) c4 (in64 dd)) (hO4.congr fun j hj => by
          by_cases e : j < k
          · rw [if_pos e]
          · rw [if_neg e, show j = k by omega]
            show _ = Value.int .i64 (dd k)
            rw [HV.out]))
        clear hO4 ho4 HK
        go_wp2
        go_roundw
        case rel => exact ⟨k + 1, c4, A4, by omega, by go_num, rfl, HK4.out⟩
        case measure => simp [intOf]; omega
      · obtain rfl : k = n := by omega
        have l1 : ¬ (k : Int) < k := by omega
        have HK := Lib.hid K
        clear K
        go_wp2
        go_ret2
        show GivesIE k _ 0 w _ _
        exact ⟨B, cc, rfl, HK.out.1.rd, HK.out.1.cap.1, HK.out.1.cap.2, fun a o h => (OwnS.lt HK.out.1 h).1, HK.out.2.1⟩
set_option maxRecDepth 100000 in
set_option maxHeartbeats 4000000 in
theorem rfine_any (A : Option Addr) (n c : Nat) (q : Int) (g : Nat → Int) (w : World) (hR : Rd w A n (in64 g)) :
    Calls Try.prog 46 #[.slice A n c, .int .i64 q] w (GivesO n (dov n q.toNat g (fun v s => v * s)) (chkB n g q fun v s => v * s) w) := by
  have HR := Lib.hid hR
  cases hb : blkB n g q
  · have HF : Hid ((chkB n g q fun v s => v * s) = false) := Lib.hid (chkB_no _ hb)
    have HB : Hid ((decide (sideN n ≠ 0) && wiB 67108864 n g && toB 31 q) = false) := Lib.hid hb
    try rw [HF.out]
    clear hb HF
    go_enter Try.func46, Try.ntmps46
    go_wp2_with (go_at_call 64; refine (rright8_any A n c q 67108864 g _ HR.out (by omega)).mono ?_; rintro e w' ⟨rfl, rfl⟩; rw [HB.out])
    go_ret2
    exact GivesO.no rfl (Below.refl _ _)
  · obtain ⟨u, rfl, hu⟩ := blkB_nat hb
    rw [Int.toNat_natCast]
    have HB : Hid ((decide (sideN n ≠ 0) && wiB 67108864 n g && toB 31 (u : Int)) = true) := Lib.hid hb
    have HC : Hid ((chkB n g u fun v s => v * s) = wiB 67108864 n (dov n u g fun v s => v * s)) := Lib.hid (by unfold chkB; rw [hb, Int.toNat_natCast]; rfl)
    have hb0 := hb
    unfold blkB at hb
    rw [Bool.and_eq_true, Bool.and_eq_true] at hb
    obtain ⟨⟨h1, h2⟩, h3⟩ := hb
    have hs : sideN n ≠ 0 := of_decide_eq_true h1
    have hn := sideN_yes hs
    have HWI := Lib.hid (wiB_iff.1 h2)
    have HSD := Lib.hid (fun w => rside8_any n w hs)
    have hsN : 1 ≤ sideN n ∧ sideN n ≤ 8 ∧ sideN n * sideN n = n := by rcases hn with h | h <;> rw [h] <;> decide
    have HD : Hid (∀ i, i < n → i % sideN n ≤ 7 ∧ i / sideN n ≤ 7) := Lib.hid (fun i hi => by
      obtain ⟨a1, a2, a3⟩ := hsN
      refine ⟨by have := Nat.mod_lt i (show 0 < sideN n by omega); omega, ?_⟩
      have : i / sideN n < sideN n := Nat.div_lt_of_lt_mul (by rw [a3]; exact hi)
      omega)
    have HDV : Hid (∀ i, dov n u g (fun v s => v * s) i = g i * ((stp u (i % sideN n) (i / sideN n) : Nat) : Int)) := Lib.hid (fun i => rfl)
    generalize hdd : dov n u g (fun v s => v * s) = dd at *
    have HRR : Hid (∀ (B : Option Addr) (cc : Nat) (w : World), Rd w B n (in64 dd) → Calls Try.prog 64 #[.slice B n cc, .int .i64 u, .int .i64 67108864] w fun e w' => e = .returned (.bool (wiB 67108864 n dd)) ∧ w = w') := Lib.hid (fun B cc w hR => by
      have := rright8_any B n cc u 67108864 dd w hR (by omega)
      rw [h1, h3, Bool.true_and, Bool.and_true] at this
      exact this)
    clear h1 h2 h3 hs hb0 hdd
    obtain ⟨i0, hi0, hz0, hz1, hz2⟩ := parts_i64
    have HI := Lib.hid hi0
    clear hi0 hR
    go_enter Try.func46, Try.ntmps46
    go_wp2_with fail
    refine (rright8_any A n c u 67108864 g _ HR.out (by omega)).mono ?_
    rintro e w' ⟨rfl, hww⟩
    subst hww
    rw [HB.out]
    go_wp2_with fail
    refine (HSD.out _).mono ?_
    rintro e w' ⟨rfl, hww⟩
    subst hww
    generalize sideN n = N at *
    obtain ⟨a1, a2, a3⟩ := hsN
    have HK := Lib.hid ((Kn.start w).add (x := .own w.heap.size 3 none 0 0 (in64 dd)) (OwnS.nil _ _ _ _))
    go_wp2_with fail
    go_loopw [8, 9] (fun v iv wr => ∃ (k cc : Nat) (B : Option Addr), k ≤ n ∧ iv = .int .i64 k ∧ v = .slice B k cc ∧ Kn wr [.own w.heap.size 3 B k cc (in64 dd), .since w]) (fun _ iv _ => ((n : Int) - intOf iv).toNat)
    case atStart => exact ⟨0, _, _, by omega, rfl, rfl, HK.out⟩
    case round =>
      obtain ⟨k, cc, B, hk, rfl, rfl, K⟩ := hrel
      clear HK
      have HK := Lib.hid (Kn.drew K)
      have hsz : w.heap.size ≤ wr.heap.size := Below.size K.2.1
      by_cases hlt : k < n
      · have l1 : (k : Int) < n := by omega
        have l4 : ¬ N = 0 := by omega
        obtain ⟨d1, d2⟩ := HD.out k hlt
        have hgk := HWI.out k hlt
        have hsb := stp_bd hu d1 d2
        have HV := Lib.hid (HDV.out k)
        have HST := Lib.hid (fun w => rqstep_yes u (k % N) (k / N) w hu d1 d2)
        have zm : (k : Int).tmod (N : Int) = ((k % N : Nat) : Int) := by rw [Int.tmod_eq_emod_of_nonneg (by omega)]; rfl
        have zd : (k : Int).tdiv (N : Int) = ((k / N : Nat) : Int) := by rw [Int.tdiv_eq_ediv_of_nonneg (by omega)]; rfl
        generalize stp u (k % N) (k / N) = sp at *
        generalize k % N = km at *
        generalize k / N = kd at *
        have hzm : IntKind.i64.wrap (km : Int) = km := by rw [IntKind.wrap_i64]; omega
        have hzd : IntKind.i64.wrap (kd : Int) = kd := by rw [IntKind.wrap_i64]; omega
        have l2 : ((N : Int) == 0) = false := by simp; omega
        have l3 : ¬ (N : Int) = 0 := by omega
        have zw : wrap64 (g k * (sp : Int)) = g k * (sp : Int) := by
          have l5 : g k * sp ≤ 67108864 * sp := Int.mul_le_mul_of_nonneg_right hgk.2 (by omega)
          have l6 : -67108864 * (sp : Int) ≤ g k * sp := Int.mul_le_mul_of_nonneg_right hgk.1 (by omega)
          exact IntWalk.wrap64_in _ (by omega)
        have zw2 : IntKind.i64.wrap (g k * (sp : Int)) = g k * (sp : Int) := by rw [IntWalk.i64_left, zw]
        have hRW := HR.out.below K.2.1
        obtain ⟨b, off, rfl, -, -⟩ := hRW.some_ (by omega)
        have x1 := Rd.at_ (show Rd wr.drew (some ⟨b, off, none⟩) n (in64 g) from hRW.drew) (i := k) hlt
        unfold in64 at x1
        clear K hRW
        go_wp2_with fail
        refine wp_region_ordT [(0,0),(1,0),(2,0),(3,0),(4,0),(5,0),(6,0),(7,0),(8,0),(9,0),(10,0),(11,0),(12,0)] (by kernel_rfl) (by kernel_rfl) (fun _ _ d _ _ h => by cases d <;> exact h) ?_
        repeat (refine wpOrd_still rfl (fun KK hKK => ?_); go_simp; first | (refine hKK _ ?_; clear hKK KK) | (refine ⟨_, Calls.flip (HST.out _), hKK _ ?_⟩; clear hKK KK))
        refine wpOrd_nil ?_
        generalize hwd : wr.drew = wd at *
        have hsz2 : w.heap.size ≤ wd.heap.size := by rw [← hwd]; exact hsz
        clear hwd

        go_wp2_with (at_builtin; refine wpList_app1 rfl (.tmp 38) (.tmp 45) rfl Try.underlying57 HI.out hz0 hz1 hz2 rfl rfl rfl (OwnS.alloc HK.out.1 _) (Box.new wd _ _) rfl ?_ ?_ ?_ ?_; rotate_right; intro A4 c4 w4 bo hO4 hbo ho4)
        rotate_left
        · unfold maxLen; omega
        · omega
        · simp; omega
        have HK4 := Lib.hid ((Kn.othS (HK.out.2.alloc _) ho4 ⟨hbo, trivial⟩).add (x := .own w.heap.size 3 A4 (k + 1) c4 (in64 dd)) (hO4.congr fun j hj => by
          by_cases e : j < k
          · rw [if_pos e]
          · rw [if_neg e, show j = k by omega]
            show _ = Value.int .i64 (dd k)
            rw [HV.out]))
        clear hO4 ho4 HK
        go_wp2
        go_roundw
        case rel => exact ⟨k + 1, c4, A4, by omega, by go_num, rfl, HK4.out⟩
        case measure => simp [intOf]; omega
      · obtain rfl : k = n := by omega
        have l1 : ¬ (k : Int) < k := by omega
        have HK := Lib.hid K
        clear K
        go_wp2_with fail
        refine (HRR.out B cc _ HK.out.1.rd).mono ?_
        rintro e w' ⟨rfl, hww⟩
        subst hww
        by_cases hw : wiB 67108864 k dd = true
        · rw [hw] at HC ⊢
          clear hw
          go_wp2
          go_ret2
          rw [HC.out]
          show GivesIE k _ 0 w _ _
          exact ⟨B, cc, rfl, HK.out.1.rd, HK.out.1.cap.1, HK.out.1.cap.2, fun a o h => (OwnS.lt HK.out.1 h).1, HK.out.2.1⟩
        · have hw' : wiB 67108864 k dd = false := by simpa using hw
          rw [hw'] at HC ⊢
          clear hw hw'
          go_wp2
          go_ret2
          rw [HC.out]
          exact GivesO.no rfl HK.out.2.1
end Go.Proofs.Ytmnoddmecghjdaa
