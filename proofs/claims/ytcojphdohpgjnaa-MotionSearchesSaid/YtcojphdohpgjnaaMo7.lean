/- Walks of package motion: Search. -/
import Derived.Test.YtcojphdohpgjnaaMo6
import Derived.Test.YtcojphdohpgjnaaKn8
namespace Go.Kin
theorem Rd.blk {w : World} {A : Option Addr} {n : Nat} {f : Nat → Value} (h : Rd w A n f) (hn : 0 < n) : ∃ b o, A = some ⟨b, o, none⟩ ∧ b < w.heap.size := by
  obtain ⟨b, o, e, hb, _⟩ := h.some_ hn
  exact ⟨b, o, e, hb⟩
/-- A slice of bytes does not lie in a block of two numbers. -/
theorem vec_off {w : World} {A : Option Addr} {n b : Nat} {f : Nat → Int} {u v : Int} (hB : Box w b #[.int .i64 u, .int .i64 v]) (h : Rd w A n (by8 f)) : It.offS b (.rd A n (by8 f)) := by
  rcases Nat.eq_zero_or_pos n with h0 | h0
  · exact .inl h0
  · refine .inr fun k o hA hk => ?_
    obtain ⟨k', o', e, hc⟩ := h h0
    rw [hA] at e
    injection e with e
    injection e with e1 e2
    subst e1 e2
    subst hk
    have h1 := hc 0 h0
    rw [hB.cell] at h1
    match o, h1 with
    | 0, h1 => cases h1
    | 1, h1 => cases h1
    | o + 2, h1 => simp at h1
end Go.Kin
namespace Go.Proofs.Ytcojphdohpgjnaa
open Go.RowKit Go.Kin
set_option linter.unusedVariables false

/-- A vector, a block and how far it is. -/
def GivesV (vx vy : Int) (N : Nat) (g : Nat → Int) (far : Int) (w : World) (e : Ending) (w' : World) : Prop := ∃ A c, e = .returned (.tuple #[.agg #[.int .i64 vx, .int .i64 vy], .slice A N c, .int .i64 far]) ∧ Rd w' A N (by8 g) ∧ Below w.heap.size w w'
/-- A search is asked for in the right way. -/
def sOk (n m : Nat) (reach : Int) : Prop := m = n * n ∧ 0 ≤ reach ∧ reach ≤ 8

set_option maxHeartbeats 2000000 in
/-- No block: nothing is found. -/
theorem msearch_no1 (W H : Int) (A : Option Addr) (N c : Nat) (x y n : Int) (B : Option Addr) (m d : Nat) (reach : Int) (w : World) (hb : ∀ w, Calls Try.prog 29 #[.agg #[.int .i64 W, .int .i64 H, .slice A N c], .int .i64 x, .int .i64 y, .int .i64 n, .agg #[.int .i64 0, .int .i64 0]] w (NoSl w)) :
    Calls Try.prog 27 #[.agg #[.int .i64 W, .int .i64 H, .slice A N c], .int .i64 x, .int .i64 y, .int .i64 n, .slice B m d, .int .i64 reach] w (GivesV 0 0 0 (fun _ => 0) 0 w) := by
  have K := ((Kn.start w).new w.heap.size #[.int .i64 W, .int .i64 H, .slice A N c] 24 rfl).new (w.heap.size + 1) #[.int .i64 0, .int .i64 0] 48 (by simp)
  replace K := K.new (w.heap.size + 1 + 1) #[.int .i64 0, .int .i64 0] 48 (by simp)
  have HB := Lib.hid hb
  clear hb
  go_enter Try.func27, Try.ntmps27
  go_wp2_with fail
  refine (HB.out _).mono ?_
  rintro e w1 ⟨rfl, hb1⟩
  replace K := K.below hb1
  clear hb1
  have kc0 := Box.cells K.1
  have kc1 := Box.cells K.2.1
  have kf1 := Box.frees K.2.1
  have HK := Lib.hid K
  clear K
  go_wp2
  have KF := HK.out.swap.set2S 0 (.int .i64 0) (.int .i64 0) ⟨by show w.heap.size + 1 + 1 ≠ w.heap.size + 1; omega, by show w.heap.size ≠ w.heap.size + 1; omega, by show w.heap.size ≤ w.heap.size + 1; omega, trivial⟩
  generalize (w1.setCell ⟨w.heap.size + 1, 0, none⟩ (.int .i64 0)).setCell ⟨w.heap.size + 1, 0 + 1, none⟩ (.int .i64 0) = wf at KF ⊢
  have d0 := Box.cell KF.1 0
  have d1 := Box.cell KF.1 1
  simp at d0 d1
  refine bodyPost_ret (v := .tuple #[.agg #[.int .i64 0, .int .i64 0], .slice none 0 0, .int .i64 0]) (by simp [results, Try.results27, go_sem, d0, d1]) rfl ⟨none, 0, rfl, Rd.none_ _ _ _, KF.2.2.2.1⟩

set_option maxHeartbeats 2000000 in
/-- A block of another size, or no such reach. -/
theorem msearch_no2 (W H : Int) (A : Option Addr) (N c : Nat) (g : Nat → Int) (x y : Int) (n : Nat) (B : Option Addr) (m d : Nat) (reach : Int) (w : World) (hr : rightB W H N = true) (hS : Rd w A N (by8 g)) (hg : Byt g) (h1 : 1 ≤ n) (h2 : n ≤ 64) (s1 : SmB x) (s2 : SmB y)
    (h : ¬ m = n * n ∨ (m = n * n ∧ reach < 0) ∨ (m = n * n ∧ ¬ reach < 0 ∧ 8 < reach)) :
    Calls Try.prog 27 #[.agg #[.int .i64 W, .int .i64 H, .slice A N c], .int .i64 x, .int .i64 y, .int .i64 n, .slice B m d, .int .i64 reach] w (GivesV 0 0 0 (fun _ => 0) 0 w) := by
  have hnn : n * n ≤ 64 * 64 := Nat.mul_le_mul h2 h2
  have hn1 : 1 ≤ n * n := Nat.mul_le_mul h1 h1
  have m1 : (1 : Int) ≤ (n : Int) * n := by have := Int.natCast_mul n n; omega
  have m2 : (n : Int) * n ≤ 4096 := by have := Int.natCast_mul n n; omega
  have K := (((Kn.start w).add (x := .rd A N (by8 g)) hS).new w.heap.size #[.int .i64 W, .int .i64 H, .slice A N c] 24 rfl).new (w.heap.size + 1) #[.int .i64 0, .int .i64 0] 48 (by simp)
  replace K := K.new (w.heap.size + 1 + 1) #[.int .i64 0, .int .i64 0] 48 (by simp)
  have HOF := Lib.hid (show OffsS (w.heap.size + 1) [.rd A N (by8 g), .since w] from ⟨(It.ok.offS (x := .rd A N (by8 g)) hS (by omega)), by show w.heap.size ≤ w.heap.size + 1; omega, trivial⟩)
  clear hS
  have HH : Hid (((m : Int) != (n : Int) * n) = true ∨ (((m : Int) != (n : Int) * n) = false ∧ reach < 0) ∨ (((m : Int) != (n : Int) * n) = false ∧ ¬ reach < 0 ∧ 8 < reach)) := Lib.hid (by
    rcases h with h | ⟨h, h'⟩ | ⟨h, h', h''⟩
    · left; simp only [bne_iff_ne, ne_eq]; exact fun e => h (by exact_mod_cast e)
    · right; left; exact ⟨by simp [h], h'⟩
    · right; right; exact ⟨by simp [h], h', h''⟩)
  clear h
  go_enter Try.func27, Try.ntmps27
  go_wp2_with fail
  refine (mblock_yes W H A N c g x y n 0 0 _ hr K.2.2.2.1 hg h1 h2 s1 s2 ⟨by omega, by omega⟩ ⟨by omega, by omega⟩).mono ?_
  rintro e w1 ⟨A1, c1, rfl, _, hb1⟩
  replace K := K.below hb1
  clear hb1
  have kc0 := Box.cells K.1
  have kc1 := Box.cells K.2.1
  have kf1 := Box.frees K.2.1
  have HK := Lib.hid K
  clear K
  have l1 : (((n * n : Nat) : Int) == 0) = false := by simp; omega
  have l2 : ((n : Int) * n == 0) = false := by simp; omega
  have KF := HK.out.swap.set2S 0 (.int .i64 0) (.int .i64 0) ⟨by show w.heap.size + 1 + 1 ≠ w.heap.size + 1; omega, by show w.heap.size ≠ w.heap.size + 1; omega, HOF.out⟩
  generalize hwf : (w1.setCell ⟨w.heap.size + 1, 0, none⟩ (.int .i64 0)).setCell ⟨w.heap.size + 1, 0 + 1, none⟩ (.int .i64 0) = wf at KF
  have HWF := Lib.hid hwf
  have HKF := Lib.hid KF
  clear hwf KF
  rcases HH.out with e1 | ⟨e1, e2⟩ | ⟨e1, e2, e3⟩
  all_goals clear HH
  all_goals go_wp2
  all_goals (change bodyPost _ _ _ _ _ ((w1.setCell ⟨w.heap.size + 1, 0, none⟩ (.int .i64 0)).setCell ⟨w.heap.size + 1, 0 + 1, none⟩ (.int .i64 0)); rw [HWF.out])
  all_goals have KF := HKF.out
  all_goals have d0 := Box.cell KF.1 0
  all_goals have d1 := Box.cell KF.1 1
  all_goals simp at d0 d1
  all_goals refine bodyPost_ret (v := .tuple #[.agg #[.int .i64 0, .int .i64 0], .slice none 0 0, .int .i64 0]) (by simp [results, Try.results27, go_sem, d0, d1]) rfl ⟨none, 0, rfl, Rd.none_ _ _ _, KF.2.2.2.2.1⟩

set_option maxHeartbeats 8000000 in
set_option maxRecDepth 100000 in
theorem msearch_yes (W H : Int) (A : Option Addr) (N c : Nat) (g : Nat → Int) (x y : Int) (n : Nat) (B : Option Addr) (m d : Nat) (h : Nat → Int) (r : Nat) (w : World) (hr : rightB W H N = true) (hS : Rd w A N (by8 g)) (hg : Byt g) (hB : Rd w B m (by8 h)) (hh : Byt h) (h1 : 1 ≤ n) (h2 : n ≤ 64) (s1 : SmB x) (s2 : SmB y)
    (hm : m = n * n) (hr8 : r ≤ 8) (D : Int → Int → Int) (hD : ∀ vx vy, sumAbs (bmP W H g x y n vx vy) h m = D vx vy) :
    Calls Try.prog 27 #[.agg #[.int .i64 W, .int .i64 H, .slice A N c], .int .i64 x, .int .i64 y, .int .i64 n, .slice B m d, .int .i64 r] w (GivesV (srch D r ((2 * r + 1) * (2 * r + 1))).x (srch D r ((2 * r + 1) * (2 * r + 1))).y m (bmP W H g x y n (srch D r ((2 * r + 1) * (2 * r + 1))).x (srch D r ((2 * r + 1) * (2 * r + 1))).y) (srch D r ((2 * r + 1) * (2 * r + 1))).far w) := by
  have hnn : n * n ≤ 64 * 64 := Nat.mul_le_mul h2 h2
  have hn1 : 1 ≤ n * n := Nat.mul_le_mul h1 h1
  have m1 : (1 : Int) ≤ (n : Int) * n := by have := Int.natCast_mul n n; omega
  have m2 : (n : Int) * n ≤ 4096 := by have := Int.natCast_mul n n; omega
  have hne : ((m : Int) != (n : Int) * n) = false := by simp [hm]
  have HM := Lib.hid hm
  have mb : m ≤ 4096 := by omega
  have mb1 : 1 ≤ m := by omega
  have l1 : ((m : Int) == 0) = false := by simp; omega
  clear hm
  have HD := Lib.hid hD
  have HDb : Hid (∀ vx vy, 0 ≤ D vx vy ∧ D vx vy ≤ 1044480) := Lib.hid (fun vx vy => by have := sumAbs_bd (bmP_byt (W := W) (H := H) (x := x) (y := y) (n := n) (vx := vx) (vy := vy) hg) hh m; rw [hD] at this; omega)
  clear hD
  have K := ((((Kn.start w).add (x := .rd A N (by8 g)) hS).add (x := .rd B m (by8 h)) hB).new w.heap.size #[.int .i64 W, .int .i64 H, .slice A N c] 24 rfl).new (w.heap.size + 1) #[.int .i64 0, .int .i64 0] 48 (by simp)
  replace K := K.new (w.heap.size + 1 + 1) #[.int .i64 0, .int .i64 0] 48 (by simp)
  have HOF := Lib.hid (show OffsS (w.heap.size + 1) [.rd B m (by8 h), .rd A N (by8 g), .since w] from ⟨(It.ok.offS (x := .rd B m (by8 h)) hB (by omega)), (It.ok.offS (x := .rd A N (by8 g)) hS (by omega)), by show w.heap.size ≤ w.heap.size + 1; omega, trivial⟩)
  clear hS hB
  go_enter Try.func27, Try.ntmps27
  go_wp2_with fail
  refine (mblock_yes W H A N c g x y n 0 0 _ hr K.2.2.2.2.1 hg h1 h2 s1 s2 ⟨by omega, by omega⟩ ⟨by omega, by omega⟩).mono ?_
  rintro e w1 ⟨A1, c1, rfl, R1, hb1⟩
  rw [← HM.out] at R1 ⊢
  have K1 := K.below hb1
  have OFB := Lib.hid (K1.offS (b := w1.heap.size) (Nat.le_refl _))
  have OFR := Lib.hid (It.ok.offS (x := .rd A1 m (by8 (bmP W H g x y n 0 0))) R1 (Nat.le_refl _))
  have HK1 := Lib.hid (K1.add (x := .rd A1 m (by8 (bmP W H g x y n 0 0))) R1)
  have sz1 : w.heap.size + 1 + 1 < w1.heap.size := Box.lt K1.1
  clear hb1 R1 K K1
  have r0 : ¬ (r : Int) < 0 := by omega
  have r1 : ¬ 8 < (r : Int) := by omega
  go_upto_region 5 with (fail)
  clear hne l1 r0 r1 m1 m2
  go_cut [17, 18] (fun p f w' => p = .pointer (some ⟨w1.heap.size, 0, none⟩) ∧ f = .int .i64 (D 0 0) ∧ Kn w' (.box w1.heap.size #[.int .i64 0, .int .i64 0] :: .rd A1 m (by8 (bmP W H g x y n 0 0)) :: [.box (w.heap.size + 1 + 1) #[.int .i64 0, .int .i64 0], .box (w.heap.size + 1) #[.int .i64 0, .int .i64 0], .box w.heap.size #[.int .i64 W, .int .i64 H, .slice A N c], .rd B m (by8 h), .rd A N (by8 g), .since w]))
  case first =>
    have KD := Kn.drew HK1.out
    have hz : w1.drew.heap.size = w1.heap.size := rfl
    refine wp_region_ordH (fun w' => Kn w' _) [3, 4, 5] [(0, 1), (1, 1), (2, 1)] _ (by kernel_rfl) (by kernel_rfl) (fun _ _ d _ _ h => by cases d <;> exact h) KD (fun _ _ _ h => h) ?_
    generalize w1.drew = u4 at *
    repeat (first | (refine oH_freeG rfl rfl (fun w' hS => by have s1 := Box.cells hS.2.1; clear hS; go_simp; with_reducible rfl) ?_; go_simp) | (refine oH_skipG rfl rfl ?_; go_simp))
    refine oH_nil ?_
    refine wpH_fork (i := 3) (j := 4) (by kernel_rfl) (by kernel_rfl) ?_ ?_
    · refine wpOp_do rfl (fun K' hK' => ?_)
      go_simp
      refine (mapart_any A1 B m c1 d (bmP W H g x y n 0 0) h _ KD.1 KD.2.2.2.2.1 (bmP_byt hg) hh (by omega)).mono ?_
      rintro e w' ⟨rfl, rfl⟩
      rw [HD.out]
      refine hK' _ _ ⟨KD, ?_⟩
      clear hK' K'
      refine wpH_rest [(4, 2), (5, 2), (6, 0)] rfl (by kernel_rfl) (fun _ _ d _ _ h => by cases d <;> exact h) KD ?_
      have KA := KD.new w1.heap.size #[.int .i64 0, .int .i64 0] 48 hz.symm
      refine oH_do rfl (fun K' hK' => ?_)
      go_simp
      refine hK' _ _ ⟨KA.2, ?_⟩
      clear hK' K'
      refine oH_do rfl (fun K' hK' => ?_)
      go_simp
      refine hK' _ _ ⟨KA.2, ?_⟩
      clear hK' K'
      repeat (refine oH_still rfl (fun KK hKK => ?_); go_simp; refine hKK _ ?_; clear hKK KK)
      refine oH_nil ?_
      go_wp2
      go_meet
      case rel => exact ⟨rfl, rfl, KA⟩
    · refine wpOp_do rfl (fun K' hK' => ?_)
      go_simp
      have KA := KD.new w1.heap.size #[.int .i64 0, .int .i64 0] 48 hz.symm
      refine hK' _ _ ⟨KA.2, ?_⟩
      clear hK' K'
      refine wpH_rest [(3, 2), (5, 2), (6, 0)] rfl (by kernel_rfl) (fun _ _ d _ _ h => by cases d <;> exact h) KA.2 ?_
      refine oH_do rfl (fun K' hK' => ?_)
      go_simp
      refine (mapart_any A1 B m c1 d (bmP W H g x y n 0 0) h _ KA.2.1 KA.2.2.2.2.2.1 (bmP_byt hg) hh (by omega)).mono ?_
      rintro e w' ⟨rfl, rfl⟩
      rw [HD.out]
      refine hK' _ _ ⟨KA.2, ?_⟩
      clear hK' K'
      refine oH_do rfl (fun K' hK' => ?_)
      go_simp
      refine hK' _ _ ⟨KA.2, ?_⟩
      clear hK' K'
      repeat (refine oH_still rfl (fun KK hKK => ?_); go_simp; refine hKK _ ?_; clear hKK KK)
      refine oH_nil ?_
      go_wp2
      go_meet
      case rel => exact ⟨rfl, rfl, KA⟩
  case rest =>
    obtain ⟨rfl, rfl, K⟩ := hcut
    clear HK1
    have HK := Lib.hid K
    clear K
    go_wp2_with fail
    go_loopw [16, 18, 58] (fun bl fa i wr => ∃ q : Nat, q ≤ 2 * r + 1 ∧ i = .int .i64 q ∧ fa = .int .i64 (srch D r (q * (2 * r + 1))).far ∧ ∃ A' c', bl = .slice A' m c' ∧ Kn wr (.box w1.heap.size #[.int .i64 (srch D r (q * (2 * r + 1))).x, .int .i64 (srch D r (q * (2 * r + 1))).y] :: .rd A' m (by8 (bmP W H g x y n (srch D r (q * (2 * r + 1))).x (srch D r (q * (2 * r + 1))).y)) :: [.box (w.heap.size + 1 + 1) #[.int .i64 0, .int .i64 0], .box (w.heap.size + 1) #[.int .i64 0, .int .i64 0], .box w.heap.size #[.int .i64 W, .int .i64 H, .slice A N c], .rd B m (by8 h), .rd A N (by8 g), .since w])) (fun _ _ i _ => 2 * r + 1 - (intOf i).toNat)
    case atStart => exact ⟨0, by omega, rfl, by rw [Nat.zero_mul]; rfl, A1, c1, rfl, by rw [Nat.zero_mul]; exact HK.out⟩
    case round =>
      obtain ⟨q, hq, rfl, rfl, A2, c2, rfl, K⟩ := hrel
      clear HK
      have HK := Lib.hid K
      clear K
      by_cases hlt : q < 2 * r + 1
      · have hqi : (q : Int) < 2 * (r : Int) + 1 := by omega
        go_wp2_with fail
        go_loopw [16, 18, 64] (fun bl fa i wr => ∃ p : Nat, p ≤ 2 * r + 1 ∧ i = .int .i64 p ∧ fa = .int .i64 (srch D r (q * (2 * r + 1) + p)).far ∧ ∃ A' c', bl = .slice A' m c' ∧ Kn wr (.box w1.heap.size #[.int .i64 (srch D r (q * (2 * r + 1) + p)).x, .int .i64 (srch D r (q * (2 * r + 1) + p)).y] :: .rd A' m (by8 (bmP W H g x y n (srch D r (q * (2 * r + 1) + p)).x (srch D r (q * (2 * r + 1) + p)).y)) :: [.box (w.heap.size + 1 + 1) #[.int .i64 0, .int .i64 0], .box (w.heap.size + 1) #[.int .i64 0, .int .i64 0], .box w.heap.size #[.int .i64 W, .int .i64 H, .slice A N c], .rd B m (by8 h), .rd A N (by8 g), .since w])) (fun _ _ i _ => 2 * r + 1 - (intOf i).toNat)
        case atStart => exact ⟨0, by omega, rfl, rfl, A2, c2, rfl, HK.out⟩
        case round =>
          obtain ⟨p, hp, rfl, rfl, A3, c3, rfl, K⟩ := hrel
          clear HK
          by_cases hlp : p < 2 * r + 1
          · have hkl : q * (2 * r + 1) + p < (2 * r + 1) * (2 * r + 1) := by
              have := Nat.mul_le_mul_right (2 * r + 1) (show q + 1 ≤ 2 * r + 1 by omega)
              rw [Nat.add_mul, Nat.one_mul] at this
              omega
            obtain ⟨i1, i2, i3, i4, i5⟩ := srch_inv D r (q * (2 * r + 1) + p) (by omega)
            obtain ⟨v1, v2⟩ := vX_at (q := q) hlp
            have HV1 := Lib.hid v1
            have HV2 := Lib.hid v2
            have HI1 := Lib.hid i1
            have HSK := Lib.hid (srch_skip (D := D) hkl)
            have HST : Hid ((srch D r (q * (2 * r + 1) + p + 1)) = stepS D (srch D r (q * (2 * r + 1) + p)) (vX r (q * (2 * r + 1) + p)) (vY r (q * (2 * r + 1) + p))) := Lib.hid rfl
            have bf := HDb.out (srch D r (q * (2 * r + 1) + p)).x (srch D r (q * (2 * r + 1) + p)).y
            rw [← i1] at bf
            rw [v1] at HST
            rw [v2] at HST
            clear v1 v2 i1 i2 i3
            generalize (srch D r (q * (2 * r + 1) + p)) = s at *
            have sz := Box.lt K.1
            go_upto_region 13 with (fail)
            replace K := K.new wr.heap.size #[.int .i64 ((p : Int) - r), .int .i64 ((q : Int) - r)] 48 rfl
            generalize hPX : (p : Int) - r = PX at *
            generalize hQY : (q : Int) - r = QY at *
            have pb : -8 ≤ PX ∧ PX ≤ 8 := by omega
            have qb : -8 ≤ QY ∧ QY ≤ 8 := by omega
            have HPX := Lib.hid hPX
            have HQY := Lib.hid hQY
            clear hPX hQY
            generalize wr.alloc (.cells #[.int .i64 PX, .int .i64 QY] 48) = wv at K ⊢
            have kc0 := Box.cells K.1
            have kc1 := Box.cells K.2.1
            have kc3 := Box.cells K.2.2.2.1
            have kc5 := Box.cells K.2.2.2.2.2.1
            by_cases hz0 : PX = 0 ∧ QY = 0
            · obtain ⟨rfl, rfl⟩ := hz0
              have HE : Hid (srch D r (q * (2 * r + 1) + p + 1) = s) := Lib.hid (HSK.out HV1.out HV2.out)
              have HK := Lib.hid K
              clear K
              go_wp2
              go_roundw
              case rel => exact ⟨p + 1, by omega, by go_num, by rw [← Nat.add_assoc, HE.out], A3, c3, rfl, by rw [← Nat.add_assoc, HE.out]; exact HK.out.2⟩
              case measure => simp [intOf]; omega
            · have hnz : ¬ PX = 0 ∨ ¬ QY = 0 := by omega
              clear hz0
              rcases hnz with hnz | hnz
              · go_wp2_with fail
                refine (mblock_yes W H A N c g x y n PX QY _ hr K.2.2.2.2.2.2.2.1 hg h1 h2 s1 s2 (by unfold SmB; omega) (by unfold SmB; omega)).mono ?_
                rintro e w5 ⟨A5, c5, rfl, R5, hb5⟩
                rw [← HM.out] at R5 ⊢
                have OF5 := Lib.hid (Rd.blk R5 mb1)
                replace K := (K.below hb5).add (x := .rd A5 m (by8 (bmP W H g x y n PX QY))) R5
                clear R5 kc0 kc1 kc3 kc5
                go_wp2_with fail
                refine (mapart_any A5 B m c5 d (bmP W H g x y n PX QY) h _ K.1 K.2.2.2.2.2.2.2.1 (bmP_byt hg) hh (by omega)).mono ?_
                rintro e w' ⟨rfl, rfl⟩
                rw [HD.out]
                have bd := HDb.out PX QY
                generalize hdv : D PX QY = dv at *
                have HDV := Lib.hid hdv
                clear hdv
                have HS0 : Hid (srch D r (q * (2 * r + 1) + p + 1) = if dv < s.far ∨ (dv = s.far ∧ aheadV PX QY s.x s.y = true) then ⟨PX, QY, dv⟩ else s) := Lib.hid (by rw [HST.out]; unfold stepS; rw [HDV.out])
                by_cases hd1 : dv < s.far
                · have HS : Hid (srch D r (q * (2 * r + 1) + p + 1) = ⟨PX, QY, dv⟩) := Lib.hid (by rw [HS0.out, if_pos (.inl hd1)])
                  have kc1 := Box.cells K.2.1
                  have kc2 := Box.cells K.2.2.1
                  have kf2 := Box.frees K.2.2.1
                  have sv := Box.lt K.2.1
                  have KF := K.third.set2S 0 (.int .i64 PX) (.int .i64 QY) ⟨vec_off K.2.2.1 K.1, by show wr.heap.size ≠ w1.heap.size; omega, vec_off K.2.2.1 K.2.2.2.1, by show w.heap.size + 1 + 1 ≠ w1.heap.size; omega, by show w.heap.size + 1 ≠ w1.heap.size; omega, by show w.heap.size ≠ w1.heap.size; omega, vec_off K.2.2.1 K.2.2.2.2.2.2.2.1, vec_off K.2.2.1 K.2.2.2.2.2.2.2.2.1, by show w.heap.size ≤ w1.heap.size; omega, trivial⟩
                  have HKF := Lib.hid KF
                  clear KF K
                  go_wp2
                  go_roundw
                  case rel => exact ⟨p + 1, by omega, by go_num, by rw [← Nat.add_assoc, HS.out], A5, c5, rfl, by rw [← Nat.add_assoc, HS.out]; exact ⟨HKF.out.1, HKF.out.2.1, HKF.out.2.2.2.2⟩⟩
                  case measure => simp [intOf]; omega
                · by_cases hd2 : dv = s.far
                  · have he : (dv == s.far) = true := by simp [hd2]
                    have HD2 := Lib.hid hd2
                    clear hd2
                    have kc1 := Box.cells K.2.1
                    have kc2 := Box.cells K.2.2.1
                    go_wp2_with fail
                    refine (mahead_any PX QY s.x s.y _ (by omega) (by omega) (by omega) (by omega)).mono ?_
                    rintro e w6 ⟨rfl, hb6⟩
                    replace K := K.below hb6
                    clear kc1 kc2 hb6
                    cases ha : aheadV PX QY s.x s.y with
                    | true =>
                      have HS : Hid (srch D r (q * (2 * r + 1) + p + 1) = ⟨PX, QY, dv⟩) := Lib.hid (by rw [HS0.out, if_pos (.inr ⟨HD2.out, ha⟩)])
                      have kc1 := Box.cells K.2.1
                      have kc2 := Box.cells K.2.2.1
                      have kf2 := Box.frees K.2.2.1
                      have sv := Box.lt K.2.1
                      have KF := K.third.set2S 0 (.int .i64 PX) (.int .i64 QY) ⟨vec_off K.2.2.1 K.1, by show wr.heap.size ≠ w1.heap.size; omega, vec_off K.2.2.1 K.2.2.2.1, by show w.heap.size + 1 + 1 ≠ w1.heap.size; omega, by show w.heap.size + 1 ≠ w1.heap.size; omega, by show w.heap.size ≠ w1.heap.size; omega, vec_off K.2.2.1 K.2.2.2.2.2.2.2.1, vec_off K.2.2.1 K.2.2.2.2.2.2.2.2.1, by show w.heap.size ≤ w1.heap.size; omega, trivial⟩
                      have HKF := Lib.hid KF
                      clear KF K
                      go_wp2
                      go_roundw
                      case rel => exact ⟨p + 1, by omega, by go_num, by rw [← Nat.add_assoc, HS.out], A5, c5, rfl, by rw [← Nat.add_assoc, HS.out]; exact ⟨HKF.out.1, HKF.out.2.1, HKF.out.2.2.2.2⟩⟩
                      case measure => simp [intOf]; omega
                    | false =>
                      have HS : Hid (srch D r (q * (2 * r + 1) + p + 1) = s) := Lib.hid (by rw [HS0.out, if_neg (by rw [ha]; intro h; rcases h with h | h; omega; cases h.2)])
                      have HK := Lib.hid K
                      clear K
                      go_wp2
                      go_roundw
                      case rel => exact ⟨p + 1, by omega, by go_num, by rw [← Nat.add_assoc, HS.out], A3, c3, rfl, by rw [← Nat.add_assoc, HS.out]; exact HK.out.2.2⟩
                      case measure => simp [intOf]; omega
                  · have he : (dv == s.far) = false := by simp [hd2]
                    have HS : Hid (srch D r (q * (2 * r + 1) + p + 1) = s) := Lib.hid (by rw [HS0.out, if_neg (by intro h; rcases h with h | h; omega; exact hd2 h.1)])
                    clear hd2
                    have HK := Lib.hid K
                    clear K
                    go_wp2
                    go_roundw
                    case rel => exact ⟨p + 1, by omega, by go_num, by rw [← Nat.add_assoc, HS.out], A3, c3, rfl, by rw [← Nat.add_assoc, HS.out]; exact HK.out.2.2⟩
                    case measure => simp [intOf]; omega
              · go_wp2_with fail
                refine (mblock_yes W H A N c g x y n PX QY _ hr K.2.2.2.2.2.2.2.1 hg h1 h2 s1 s2 (by unfold SmB; omega) (by unfold SmB; omega)).mono ?_
                rintro e w5 ⟨A5, c5, rfl, R5, hb5⟩
                rw [← HM.out] at R5 ⊢
                have OF5 := Lib.hid (Rd.blk R5 mb1)
                replace K := (K.below hb5).add (x := .rd A5 m (by8 (bmP W H g x y n PX QY))) R5
                clear R5 kc0 kc1 kc3 kc5
                go_wp2_with fail
                refine (mapart_any A5 B m c5 d (bmP W H g x y n PX QY) h _ K.1 K.2.2.2.2.2.2.2.1 (bmP_byt hg) hh (by omega)).mono ?_
                rintro e w' ⟨rfl, rfl⟩
                rw [HD.out]
                have bd := HDb.out PX QY
                generalize hdv : D PX QY = dv at *
                have HDV := Lib.hid hdv
                clear hdv
                have HS0 : Hid (srch D r (q * (2 * r + 1) + p + 1) = if dv < s.far ∨ (dv = s.far ∧ aheadV PX QY s.x s.y = true) then ⟨PX, QY, dv⟩ else s) := Lib.hid (by rw [HST.out]; unfold stepS; rw [HDV.out])
                by_cases hd1 : dv < s.far
                · have HS : Hid (srch D r (q * (2 * r + 1) + p + 1) = ⟨PX, QY, dv⟩) := Lib.hid (by rw [HS0.out, if_pos (.inl hd1)])
                  have kc1 := Box.cells K.2.1
                  have kc2 := Box.cells K.2.2.1
                  have kf2 := Box.frees K.2.2.1
                  have sv := Box.lt K.2.1
                  have KF := K.third.set2S 0 (.int .i64 PX) (.int .i64 QY) ⟨vec_off K.2.2.1 K.1, by show wr.heap.size ≠ w1.heap.size; omega, vec_off K.2.2.1 K.2.2.2.1, by show w.heap.size + 1 + 1 ≠ w1.heap.size; omega, by show w.heap.size + 1 ≠ w1.heap.size; omega, by show w.heap.size ≠ w1.heap.size; omega, vec_off K.2.2.1 K.2.2.2.2.2.2.2.1, vec_off K.2.2.1 K.2.2.2.2.2.2.2.2.1, by show w.heap.size ≤ w1.heap.size; omega, trivial⟩
                  have HKF := Lib.hid KF
                  clear KF K
                  go_wp2
                  go_roundw
                  case rel => exact ⟨p + 1, by omega, by go_num, by rw [← Nat.add_assoc, HS.out], A5, c5, rfl, by rw [← Nat.add_assoc, HS.out]; exact ⟨HKF.out.1, HKF.out.2.1, HKF.out.2.2.2.2⟩⟩
                  case measure => simp [intOf]; omega
                · by_cases hd2 : dv = s.far
                  · have he : (dv == s.far) = true := by simp [hd2]
                    have HD2 := Lib.hid hd2
                    clear hd2
                    have kc1 := Box.cells K.2.1
                    have kc2 := Box.cells K.2.2.1
                    go_wp2_with fail
                    refine (mahead_any PX QY s.x s.y _ (by omega) (by omega) (by omega) (by omega)).mono ?_
                    rintro e w6 ⟨rfl, hb6⟩
                    replace K := K.below hb6
                    clear kc1 kc2 hb6
                    cases ha : aheadV PX QY s.x s.y with
                    | true =>
                      have HS : Hid (srch D r (q * (2 * r + 1) + p + 1) = ⟨PX, QY, dv⟩) := Lib.hid (by rw [HS0.out, if_pos (.inr ⟨HD2.out, ha⟩)])
                      have kc1 := Box.cells K.2.1
                      have kc2 := Box.cells K.2.2.1
                      have kf2 := Box.frees K.2.2.1
                      have sv := Box.lt K.2.1
                      have KF := K.third.set2S 0 (.int .i64 PX) (.int .i64 QY) ⟨vec_off K.2.2.1 K.1, by show wr.heap.size ≠ w1.heap.size; omega, vec_off K.2.2.1 K.2.2.2.1, by show w.heap.size + 1 + 1 ≠ w1.heap.size; omega, by show w.heap.size + 1 ≠ w1.heap.size; omega, by show w.heap.size ≠ w1.heap.size; omega, vec_off K.2.2.1 K.2.2.2.2.2.2.2.1, vec_off K.2.2.1 K.2.2.2.2.2.2.2.2.1, by show w.heap.size ≤ w1.heap.size; omega, trivial⟩
                      have HKF := Lib.hid KF
                      clear KF K
                      go_wp2
                      go_roundw
                      case rel => exact ⟨p + 1, by omega, by go_num, by rw [← Nat.add_assoc, HS.out], A5, c5, rfl, by rw [← Nat.add_assoc, HS.out]; exact ⟨HKF.out.1, HKF.out.2.1, HKF.out.2.2.2.2⟩⟩
                      case measure => simp [intOf]; omega
                    | false =>
                      have HS : Hid (srch D r (q * (2 * r + 1) + p + 1) = s) := Lib.hid (by rw [HS0.out, if_neg (by rw [ha]; intro h; rcases h with h | h; omega; cases h.2)])
                      have HK := Lib.hid K
                      clear K
                      go_wp2
                      go_roundw
                      case rel => exact ⟨p + 1, by omega, by go_num, by rw [← Nat.add_assoc, HS.out], A3, c3, rfl, by rw [← Nat.add_assoc, HS.out]; exact HK.out.2.2⟩
                      case measure => simp [intOf]; omega
                  · have he : (dv == s.far) = false := by simp [hd2]
                    have HS : Hid (srch D r (q * (2 * r + 1) + p + 1) = s) := Lib.hid (by rw [HS0.out, if_neg (by intro h; rcases h with h | h; omega; exact hd2 h.1)])
                    clear hd2
                    have HK := Lib.hid K
                    clear K
                    go_wp2
                    go_roundw
                    case rel => exact ⟨p + 1, by omega, by go_num, by rw [← Nat.add_assoc, HS.out], A3, c3, rfl, by rw [← Nat.add_assoc, HS.out]; exact HK.out.2.2⟩
                    case measure => simp [intOf]; omega
          · obtain rfl : p = 2 * r + 1 := by omega
            have HK := Lib.hid K
            clear K
            go_wp2
            go_roundw
            case rel => exact ⟨q + 1, by omega, by go_num, by rw [Nat.add_mul, Nat.one_mul], A3, c3, rfl, by rw [Nat.add_mul, Nat.one_mul]; exact HK.out⟩
            case measure => simp [intOf]; omega
      · obtain rfl : q = 2 * r + 1 := by omega
        generalize srch D r ((2 * r + 1) * (2 * r + 1)) = s at *
        have K := HK.out
        have kc0 := Box.cells K.1
        have kc3 := Box.cells K.2.2.2.1
        have kf3 := Box.frees K.2.2.2.1
        have sz := Box.lt K.1
        have KF := K.fourth.set2S 0 (.int .i64 s.x) (.int .i64 s.y) ⟨by show w1.heap.size ≠ w.heap.size + 1; omega, vec_off K.2.2.2.1 K.2.1, by show w.heap.size + 1 + 1 ≠ w.heap.size + 1; omega, by show w.heap.size ≠ w.heap.size + 1; omega, HOF.out⟩
        clear K
        go_wp2
        change bodyPost _ _ _ _ _ ((wr.setCell ⟨w.heap.size + 1, 0, none⟩ (.int .i64 s.x)).setCell ⟨w.heap.size + 1, 0 + 1, none⟩ (.int .i64 s.y))
        generalize (wr.setCell ⟨w.heap.size + 1, 0, none⟩ (.int .i64 s.x)).setCell ⟨w.heap.size + 1, 0 + 1, none⟩ (.int .i64 s.y) = wf at KF ⊢
        have d0 := Box.cell KF.1 0
        have d1 := Box.cell KF.1 1
        simp at d0 d1
        refine bodyPost_ret (v := .tuple #[.agg #[.int .i64 s.x, .int .i64 s.y], .slice A2 m c2, .int .i64 s.far]) (by simp [results, Try.results27, go_sem, d0, d1]) rfl ⟨A2, c2, rfl, KF.2.2.1, KF.2.2.2.2.2.2.2.1⟩
end Go.Proofs.Ytcojphdohpgjnaa
