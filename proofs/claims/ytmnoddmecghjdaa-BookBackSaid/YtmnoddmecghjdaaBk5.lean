/- Walks of package book: what a book puts and gets. -/
import Derived.Test.YtmnoddmecghjdaaBk4
set_option linter.unusedVariables false
namespace Go.Proofs.Ytmnoddmecghjdaa
open Go.RowKit Go.Kin
theorem topB_yes {t : Int} (h : topB t = true) : ∃ n : Nat, t = n ∧ n < 16 := by
  unfold topB at h
  have := of_decide_eq_true h
  exact ⟨t.toNat, by omega, by omega⟩
section
variable {w : World} {col : Nat → Nat} {i x j b : Nat} {y : PS}
theorem bPut_no (b x : Nat) (t v : Int) (w : World) (h : topB t = false ∨ v < 0 ∨ 1048576 < v) :
    Calls Try.prog 28 #[.pointer (some ⟨b, 0, none⟩), .pointer (some ⟨x, 0, none⟩), .int .i64 t, .int .i64 v] w fun e w' => e = .returned (.int .i64 1) ∧ w = w' := by
  cases ht : topB t
  · go_enter Try.func28, Try.ntmps28
    go_wp2_with (go_at_call 59; refine (topic_no _ _ _ ht).mono ?_; rintro e w' ⟨rfl, rfl⟩)
    go_ret
    exact ⟨rfl, rfl⟩
  · obtain ⟨n, rfl, hn⟩ := topB_yes ht
    have h' : v < 0 ∨ (¬ v < 0 ∧ 1048576 < v) := by
      rcases h with h | h | h
      · rw [ht] at h; cases h
      · exact .inl h
      · exact .inr ⟨by omega, h⟩
    clear h ht
    rcases h' with h1 | ⟨h1, h2⟩
    · go_enter Try.func28, Try.ntmps28
      go_wp2_with (go_at_call 59; refine (topic_yes _ _ _ hn).mono ?_; rintro e w' ⟨rfl, rfl⟩)
      go_ret
      exact ⟨rfl, rfl⟩
    · go_enter Try.func28, Try.ntmps28
      go_wp2_with (go_at_call 59; refine (topic_yes _ _ _ hn).mono ?_; rintro e w' ⟨rfl, rfl⟩)
      go_ret
      exact ⟨rfl, rfl⟩
theorem bPut_yes (t v : Nat) (h : SS w col i x j b y) (hij : i ≠ j) (hok : y.ok) (hL : y.s.L ≤ 700000) (ht : t < 16) (hv : v ≤ 1048576) :
    Calls Try.prog 28 #[.pointer (some ⟨b, 0, none⟩), .pointer (some ⟨x, 0, none⟩), .int .i64 t, .int .i64 v] w (PutR w col i x j b (y.num (37 * t) v)) := by
  have l1 : ¬ (v : Int) < 0 := by omega
  have l2 : ¬ (1048576 : Int) < v := by omega
  go_enter Try.func28, Try.ntmps28
  go_wp2_with fail
  refine (topic_yes _ _ _ ht).mono ?_
  rintro e w' ⟨rfl, rfl⟩
  go_wp2_with fail
  refine (putNum_any (37 * t) v h hij hok hL (by omega) hv).mono ?_
  rintro e w' ⟨c', rfl, hS, hK⟩
  go_wp2
  go_ret
  exact ⟨c', rfl, hS, hK⟩
theorem bPutS_no (b x : Nat) (t v : Int) (w : World) (h : topB t = false ∨ v < -1048576 ∨ 1048576 < v) :
    Calls Try.prog 48 #[.pointer (some ⟨b, 0, none⟩), .pointer (some ⟨x, 0, none⟩), .int .i64 t, .int .i64 v] w fun e w' => e = .returned (.int .i64 1) ∧ w = w' := by
  cases ht : topB t
  · go_enter Try.func48, Try.ntmps48
    go_wp2_with (go_at_call 59; refine (topic_no _ _ _ ht).mono ?_; rintro e w' ⟨rfl, rfl⟩)
    go_ret
    exact ⟨rfl, rfl⟩
  · obtain ⟨n, rfl, hn⟩ := topB_yes ht
    have h' : v < -1048576 ∨ (¬ v < -1048576 ∧ 1048576 < v) := by
      rcases h with h | h | h
      · rw [ht] at h; cases h
      · exact .inl h
      · exact .inr ⟨by omega, h⟩
    clear h ht
    rcases h' with h1 | ⟨h1, h2⟩
    · go_enter Try.func48, Try.ntmps48
      go_wp2_with (go_at_call 59; refine (topic_yes _ _ _ hn).mono ?_; rintro e w' ⟨rfl, rfl⟩)
      go_ret
      exact ⟨rfl, rfl⟩
    · go_enter Try.func48, Try.ntmps48
      go_wp2_with (go_at_call 59; refine (topic_yes _ _ _ hn).mono ?_; rintro e w' ⟨rfl, rfl⟩)
      go_ret
      exact ⟨rfl, rfl⟩
set_option maxHeartbeats 1000000 in
theorem bPutS_yes (t : Nat) (v : Int) (h : SS w col i x j b y) (hij : i ≠ j) (hok : y.ok) (hL : y.s.L ≤ 600000) (ht : t < 16) (hv : -1048576 ≤ v ∧ v ≤ 1048576) :
    Calls Try.prog 48 #[.pointer (some ⟨b, 0, none⟩), .pointer (some ⟨x, 0, none⟩), .int .i64 t, .int .i64 v] w (PutR w col i x j b (y.sgn (37 * t) v)) := by
  have l1 : ¬ v < -1048576 := by omega
  have l2 : ¬ (1048576 : Int) < v := by omega
  have hn := PS.num_ok hok (37 * t) (v := v.natAbs) (by omega)
  rcases (show (∃ u : Nat, v = -(u : Int) ∧ 0 < u) ∨ (v = 0 ∨ ∃ u : Nat, v = u ∧ 0 < u) by
    rcases Int.lt_trichotomy v 0 with h | h | h
    · exact .inl ⟨v.natAbs, by omega, by omega⟩
    · exact .inr (.inl h)
    · exact .inr (.inr ⟨v.natAbs, by omega, by omega⟩)) with ⟨u, rfl, hu⟩ | rfl | ⟨u, rfl, hu⟩
  · have l0 : -(u : Int) < 0 := by omega
    have l3 : ((u : Int) == 0) = false := by simp; omega
    have HF : Hid (y.sgn (37 * t) (-(u : Int)) = (y.num (37 * t) u).put1 (some (37 * t + 36)) 1) := Lib.hid (by unfold PS.sgn; rw [if_neg (by omega), if_pos l0, show (-(u : Int)).natAbs = u by omega])
    rw [show (-(u : Int)).natAbs = u by omega] at hn
    have HN := Lib.hid hn
    have l4 : (u : Int) ≤ 1048576 := by omega
    clear hn
    go_enter Try.func48, Try.ntmps48
    go_wp2_with fail
    refine (topic_yes _ _ _ ht).mono ?_
    rintro e w' ⟨rfl, rfl⟩
    go_wp2_with fail
    refine (putNum_any (37 * t) u h hij hok (by omega) (by omega) (by omega)).mono ?_
    rintro e w' ⟨c', rfl, hS, hK⟩
    have HK := Lib.hid hK
    clear hK
    go_wp2_with fail
    refine (bput1_book hS hij HN.out.1 (by have := HN.out; omega) (show 37 * t + 36 < 592 by omega) (.inr rfl)).mono ?_
    rintro e w5 ⟨c5, rfl, hS5, hK5⟩
    rw [← HF.out] at hS5
    have HS5 := Lib.hid (And.intro hS5 (HK.out.trans hK5))
    clear hS5 hK5 hS
    go_wp2
    go_ret
    exact ⟨c5, rfl, HS5.out.1, HS5.out.2⟩
  · have HF : Hid (y.sgn (37 * t) 0 = y.num (37 * t) 0) := Lib.hid (by unfold PS.sgn; rw [if_pos rfl])
    go_enter Try.func48, Try.ntmps48
    go_wp2_with fail
    refine (topic_yes _ _ _ ht).mono ?_
    rintro e w' ⟨rfl, rfl⟩
    go_wp2_with fail
    refine (putNum_any (37 * t) 0 h hij hok (by omega) (by omega) (by omega)).mono ?_
    rintro e w' ⟨c', rfl, hS, hK⟩
    rw [← HF.out] at hS
    go_wp2
    go_ret
    exact ⟨c', rfl, hS, hK⟩
  · have l0 : ¬ (u : Int) < 0 := by omega
    have l3 : ((u : Int) == 0) = false := by simp; omega
    have HF : Hid (y.sgn (37 * t) (u : Int) = (y.num (37 * t) u).put1 (some (37 * t + 36)) 0) := Lib.hid (by unfold PS.sgn; rw [if_neg (by omega), if_neg l0, show ((u : Int)).natAbs = u by omega])
    rw [show ((u : Int)).natAbs = u by omega] at hn
    have HN := Lib.hid hn
    clear hn
    go_enter Try.func48, Try.ntmps48
    go_wp2_with fail
    refine (topic_yes _ _ _ ht).mono ?_
    rintro e w' ⟨rfl, rfl⟩
    go_wp2_with fail
    refine (putNum_any (37 * t) u h hij hok (by omega) (by omega) (by omega)).mono ?_
    rintro e w' ⟨c', rfl, hS, hK⟩
    have HK := Lib.hid hK
    clear hK
    go_wp2_with fail
    refine (bput1_book hS hij HN.out.1 (by have := HN.out; omega) (show 37 * t + 36 < 592 by omega) (.inl rfl)).mono ?_
    rintro e w5 ⟨c5, rfl, hS5, hK5⟩
    rw [← HF.out] at hS5
    have HS5 := Lib.hid (And.intro hS5 (HK.out.trans hK5))
    clear hS5 hK5 hS
    go_wp2
    go_ret
    exact ⟨c5, rfl, HS5.out.1, HS5.out.2⟩
theorem bPutO_no (b x : Nat) (t n v : Int) (w : World) (h : topB t = false ∨ n < 1 ∨ 16 < n ∨ v < 0 ∨ n ≤ v) :
    Calls Try.prog 49 #[.pointer (some ⟨b, 0, none⟩), .pointer (some ⟨x, 0, none⟩), .int .i64 t, .int .i64 n, .int .i64 v] w fun e w' => e = .returned (.int .i64 1) ∧ w = w' := by
  cases ht : topB t
  · go_enter Try.func49, Try.ntmps49
    go_wp2_with (go_at_call 59; refine (topic_no _ _ _ ht).mono ?_; rintro e w' ⟨rfl, rfl⟩)
    go_ret
    exact ⟨rfl, rfl⟩
  · obtain ⟨u, rfl, hn⟩ := topB_yes ht
    have h' : n < 1 ∨ (¬ n < 1 ∧ 16 < n) ∨ (¬ n < 1 ∧ ¬ 16 < n ∧ v < 0) ∨ (¬ n < 1 ∧ ¬ 16 < n ∧ ¬ v < 0 ∧ n ≤ v) := by
      rcases h with h | h
      · rw [ht] at h; cases h
      · omega
    clear h ht
    rcases h' with h1 | ⟨h1, h2⟩ | ⟨h1, h2, h3⟩ | ⟨h1, h2, h3, h4⟩
    all_goals
      go_enter Try.func49, Try.ntmps49
      go_wp2_with (go_at_call 59; refine (topic_yes _ _ _ hn).mono ?_; rintro e w' ⟨rfl, rfl⟩)
      go_ret
      exact ⟨rfl, rfl⟩
set_option maxHeartbeats 1000000 in
theorem bPutO_yes (t n v : Nat) (h : SS w col i x j b y) (hij : i ≠ j) (hok : y.ok) (hL : y.s.L ≤ 700000) (ht : t < 16) (h1 : 1 ≤ n) (h16 : n ≤ 16) (hv : v < n) :
    Calls Try.prog 49 #[.pointer (some ⟨b, 0, none⟩), .pointer (some ⟨x, 0, none⟩), .int .i64 t, .int .i64 n, .int .i64 v] w (PutR w col i x j b (y.one (37 * t) n v)) := by
  have l1 : ¬ (n : Int) < 1 := by omega
  have l2 : ¬ (16 : Int) < n := by omega
  have l3 : ¬ (v : Int) < 0 := by omega
  have l4 : ¬ (n : Int) ≤ v := by omega
  have hb4 := bitLen_le (n := 4) (x := n - 1) (by omega) (by omega)
  have HLEN := Try.bits_Len ((n : Int) - 1)
  rw [show ((n : Int) - 1).toNat = n - 1 by omega] at HLEN
  have HLEN := Lib.hid HLEN
  go_enter Try.func49, Try.ntmps49
  go_wp2_with fail
  refine (topic_yes _ _ _ ht).mono ?_
  rintro e w' ⟨rfl, rfl⟩
  go_wp2_with fail
  refine (HLEN.out _ (by omega) (by omega)).mono ?_
  rintro e w' ⟨rfl, hww⟩
  subst hww
  go_wp2_with fail
  refine (putLow_any (37 * t) v _ h hij hok (by omega) (by omega) (by omega) (by omega)).mono ?_
  rintro e w5 ⟨c', rfl, hS, hK⟩
  go_wp2
  go_ret
  exact ⟨c', rfl, hS, hK⟩
end
section
variable {w : World} {col : Nat → Nat} {i x j b m : Nat} {g : Nat → Int} {z : GS}
theorem bGet_no (b x : Nat) (t : Int) (w : World) (ht : topB t = false) :
    Calls Try.prog 55 #[.pointer (some ⟨b, 0, none⟩), .pointer (some ⟨x, 0, none⟩), .int .i64 t] w fun e w' => e = .returned (.tuple #[.int .i64 0, .int .i64 1]) ∧ w = w' := by
  go_enter Try.func55, Try.ntmps55
  go_wp2_with (go_at_call 59; refine (topic_no _ _ _ ht).mono ?_; rintro e w' ⟨rfl, rfl⟩)
  go_ret2
  exact ⟨rfl, rfl⟩
theorem bGet_yes (t : Nat) (h : SG w col i x m g j b z) (hg : Byt g) (hij : i ≠ j) (hok : z.ok m) (ht : t < 16) :
    Calls Try.prog 55 #[.pointer (some ⟨b, 0, none⟩), .pointer (some ⟨x, 0, none⟩), .int .i64 t] w (NumR w col i x m g j b (z.num g m (37 * t))) := by
  go_enter Try.func55, Try.ntmps55
  go_wp2_with fail
  refine (topic_yes _ _ _ ht).mono ?_
  rintro e w' ⟨rfl, rfl⟩
  go_wp2_with fail
  refine (getNum_any (37 * t) h hg hij hok (by omega)).mono ?_
  rintro e w' ⟨c', rfl, hS, hK⟩
  go_wp2
  go_ret2
  exact ⟨c', rfl, hS, hK⟩
theorem bGetS_no (b x : Nat) (t : Int) (w : World) (ht : topB t = false) :
    Calls Try.prog 53 #[.pointer (some ⟨b, 0, none⟩), .pointer (some ⟨x, 0, none⟩), .int .i64 t] w fun e w' => e = .returned (.tuple #[.int .i64 0, .int .i64 1]) ∧ w = w' := by
  go_enter Try.func53, Try.ntmps53
  go_wp2_with (go_at_call 59; refine (topic_no _ _ _ ht).mono ?_; rintro e w' ⟨rfl, rfl⟩)
  go_ret2
  exact ⟨rfl, rfl⟩
set_option maxHeartbeats 1000000 in
theorem bGetS_yes (t : Nat) (h : SG w col i x m g j b z) (hg : Byt g) (hij : i ≠ j) (hok : z.ok m) (ht : t < 16) :
    Calls Try.prog 53 #[.pointer (some ⟨b, 0, none⟩), .pointer (some ⟨x, 0, none⟩), .int .i64 t] w (NumR w col i x m g j b (z.sgn g m (37 * t))) := by
  have hn := GS.num_ok hg hok (37 * t)
  have HSG : Hid (z.sgn g m (37 * t) = if (z.num g m (37 * t)).e = 0 ∧ (z.num g m (37 * t)).v ≠ 0 then nrSgn ((z.num g m (37 * t)).x.get1 g m (some (37 * t + 36))) (z.num g m (37 * t)).v else ⟨0, (z.num g m (37 * t)).e, (z.num g m (37 * t)).x⟩) := Lib.hid rfl
  have HG := Lib.hid hg
  clear hg
  go_enter Try.func53, Try.ntmps53
  go_wp2_with fail
  refine (topic_yes _ _ _ ht).mono ?_
  rintro e w' ⟨rfl, rfl⟩
  go_wp2_with fail
  refine (getNum_any (37 * t) h HG.out hij hok (by omega)).mono ?_
  rintro e w' ⟨c', rfl, hS, hK⟩
  generalize z.num g m (37 * t) = r at *
  obtain ⟨v, e, y⟩ := r
  dsimp only at *
  obtain ⟨n1, n2, n3, n4⟩ := hn
  have HY := Lib.hid n1
  have HS := Lib.hid (And.intro hS hK)
  clear n1 hS hK h
  rcases n4 with rfl | ⟨rfl, rfl⟩ | ⟨rfl, rfl⟩
  · by_cases hv : v = 0
    · have HF : Hid (z.sgn g m (37 * t) = ⟨0, 0, y⟩) := Lib.hid (by rw [HSG.out, if_neg (fun h => h.2 hv)])
      subst hv
      go_wp2
      go_ret2
      rw [HF.out]
      exact ⟨c', rfl, HS.out.1, HS.out.2⟩
    · have HF : Hid (z.sgn g m (37 * t) = nrSgn (y.get1 g m (some (37 * t + 36))) v) := Lib.hid (by rw [HSG.out, if_pos ⟨rfl, hv⟩])
      have l3 : (v == 0) = false := by simp [hv]
      clear hv
      go_wp2_with fail
      refine (bget1_book HS.out.1 HG.out hij HY.out (show 37 * t + 36 < 592 by omega)).mono ?_
      rintro e w5 ⟨c5, rfl, hS5, hK5⟩
      have hbit := GS.get1_bit g m y (some (37 * t + 36))
      have herr := GS.get1_err g m HY.out.1 (some (37 * t + 36))
      have HS5 := Lib.hid (And.intro hS5 (HS.out.2.trans hK5))
      clear hS5 hK5
      generalize y.get1 g m (some (37 * t + 36)) = q at *
      obtain ⟨q1, q2, q3⟩ := q
      dsimp only at *
      rcases herr with rfl | rfl
      · rcases hbit with rfl | rfl
        · have HF2 : Hid (z.sgn g m (37 * t) = ⟨v, 0, q3⟩) := Lib.hid HF.out
          go_wp2
          go_ret2
          rw [HF2.out]
          exact ⟨c5, rfl, HS5.out.1, HS5.out.2⟩
        · have HF2 : Hid (z.sgn g m (37 * t) = ⟨-v, 0, q3⟩) := Lib.hid HF.out
          go_wp2
          go_ret2
          rw [HF2.out]
          exact ⟨c5, rfl, HS5.out.1, HS5.out.2⟩
      · have HF2 : Hid (z.sgn g m (37 * t) = ⟨0, 41, q3⟩) := Lib.hid HF.out
        go_wp2
        go_ret2
        rw [HF2.out]
        exact ⟨c5, rfl, HS5.out.1, HS5.out.2⟩
  · have HF : Hid (z.sgn g m (37 * t) = ⟨0, 41, y⟩) := Lib.hid (by rw [HSG.out, if_neg (fun h => h.2 rfl)])
    go_wp2
    go_ret2
    rw [HF.out]
    exact ⟨c', rfl, HS.out.1, HS.out.2⟩
  · have HF : Hid (z.sgn g m (37 * t) = ⟨0, 51, y⟩) := Lib.hid (by rw [HSG.out, if_neg (fun h => h.2 rfl)])
    go_wp2
    go_ret2
    rw [HF.out]
    exact ⟨c', rfl, HS.out.1, HS.out.2⟩
theorem bGetO_no (b x : Nat) (t n : Int) (w : World) (h : topB t = false ∨ n < 1 ∨ 16 < n) :
    Calls Try.prog 54 #[.pointer (some ⟨b, 0, none⟩), .pointer (some ⟨x, 0, none⟩), .int .i64 t, .int .i64 n] w fun e w' => e = .returned (.tuple #[.int .i64 0, .int .i64 1]) ∧ w = w' := by
  cases ht : topB t
  · go_enter Try.func54, Try.ntmps54
    go_wp2_with (go_at_call 59; refine (topic_no _ _ _ ht).mono ?_; rintro e w' ⟨rfl, rfl⟩)
    go_ret2
    exact ⟨rfl, rfl⟩
  · obtain ⟨u, rfl, hn⟩ := topB_yes ht
    have h' : n < 1 ∨ (¬ n < 1 ∧ 16 < n) := by
      rcases h with h | h
      · rw [ht] at h; cases h
      · omega
    clear h ht
    rcases h' with h1 | ⟨h1, h2⟩
    all_goals
      go_enter Try.func54, Try.ntmps54
      go_wp2_with (go_at_call 59; refine (topic_yes _ _ _ hn).mono ?_; rintro e w' ⟨rfl, rfl⟩)
      go_ret2
      exact ⟨rfl, rfl⟩
set_option maxHeartbeats 1000000 in
theorem bGetO_yes (t n : Nat) (h : SG w col i x m g j b z) (hg : Byt g) (hij : i ≠ j) (hok : z.ok m) (ht : t < 16) (h1 : 1 ≤ n) (h16 : n ≤ 16) :
    Calls Try.prog 54 #[.pointer (some ⟨b, 0, none⟩), .pointer (some ⟨x, 0, none⟩), .int .i64 t, .int .i64 n] w (NumR w col i x m g j b (z.one g m (37 * t) n)) := by
  have l1 : ¬ (n : Int) < 1 := by omega
  have l2 : ¬ (16 : Int) < n := by omega
  have hb4 := bitLen_le (n := 4) (x := n - 1) (by omega) (by omega)
  have HLEN := Try.bits_Len ((n : Int) - 1)
  rw [show ((n : Int) - 1).toNat = n - 1 by omega] at HLEN
  have HLEN := Lib.hid HLEN
  have hlow := GS.low_ok hg hok (37 * t) (Lib.bitLen (n - 1))
  have HF : Hid (z.one g m (37 * t) n = nrOne (z.low g m (37 * t) (Lib.bitLen (n - 1))) n) := Lib.hid rfl
  go_enter Try.func54, Try.ntmps54
  go_wp2_with fail
  refine (topic_yes _ _ _ ht).mono ?_
  rintro e w' ⟨rfl, rfl⟩
  go_wp2_with fail
  refine (HLEN.out _ (by omega) (by omega)).mono ?_
  rintro e w' ⟨rfl, hww⟩
  subst hww
  go_wp2_with fail
  refine (getLow_any (37 * t) _ h hg hij hok (by omega) (by omega)).mono ?_
  rintro e w5 ⟨c', rfl, hS, hK⟩
  have HS := Lib.hid (And.intro hS hK)
  clear hS hK h
  obtain ⟨lo1, lo2, lo3⟩ := hlow
  clear lo1
  have hp4 : 2 ^ Lib.bitLen (n - 1) ≤ 2 ^ 4 := Nat.pow_le_pow_right (by omega) hb4
  generalize z.low g m (37 * t) (Lib.bitLen (n - 1)) = r at *
  obtain ⟨r1, a, r3⟩ := r
  dsimp only at *
  have la : a < 16 := by omega
  clear lo2 hp4
  rcases lo3 with rfl | rfl
  · by_cases hna : n ≤ a
    · have HF2 : Hid (z.one g m (37 * t) n = ⟨0, 51, r3⟩) := Lib.hid (by rw [HF.out]; unfold nrOne; rw [if_pos rfl, if_pos hna])
      have l5 : (n : Int) ≤ a := by omega
      go_wp2
      go_ret2
      rw [HF2.out]
      exact ⟨c', rfl, HS.out.1, HS.out.2⟩
    · have HF2 : Hid (z.one g m (37 * t) n = ⟨(a : Nat), 0, r3⟩) := Lib.hid (by rw [HF.out]; unfold nrOne; rw [if_pos rfl, if_neg hna])
      have l5 : ¬ (n : Int) ≤ a := by omega
      go_wp2
      go_ret2
      rw [HF2.out]
      exact ⟨c', rfl, HS.out.1, HS.out.2⟩
  · have HF2 : Hid (z.one g m (37 * t) n = ⟨0, 41, r3⟩) := Lib.hid HF.out
    go_wp2
    go_ret2
    rw [HF2.out]
    exact ⟨c', rfl, HS.out.1, HS.out.2⟩
end
end Go.Proofs.Ytmnoddmecghjdaa
