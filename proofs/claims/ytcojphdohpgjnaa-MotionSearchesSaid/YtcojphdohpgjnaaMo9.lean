/- Walks of the document's layer 10: Search, that finds. -/
import Derived.Test.YtcojphdohpgjnaaMo8
import Derived.Test.YtcojphdohpgjnaaRg5
namespace Go.Kin
theorem eight (dv far sv sb y sy x sx : Int) : dv < far ∨ (¬ dv < far ∧ ¬ dv = far) ∨ (dv = far ∧ sv < sb) ∨ (dv = far ∧ ¬ sv < sb ∧ ¬ sv = sb) ∨ (dv = far ∧ sv = sb ∧ y < sy) ∨ (dv = far ∧ sv = sb ∧ ¬ y < sy ∧ ¬ y = sy) ∨ (dv = far ∧ sv = sb ∧ y = sy ∧ x < sx) ∨ (dv = far ∧ sv = sb ∧ y = sy ∧ ¬ x < sx) := by omega
end Go.Kin
namespace Go.Proofs.Ytcojphdohpgjnaa
open Go.RowKit Go.Kin
set_option linter.unusedVariables false
set_option maxHeartbeats 16000000 in
set_option maxRecDepth 100000 in
theorem rsearch_yes (W H : Int) (A : Option Addr) (N c : Nat) (g : Nat → Int) (x y : Int) (n : Nat) (B : Option Addr) (m d : Nat) (h : Nat → Int) (r : Nat) (w : World) (hr : rightB W H N = true) (hS : Rd w A N (by8 g)) (hg : Byt g) (hB : Rd w B m (by8 h)) (hh : Byt h) (h1 : 1 ≤ n) (h2 : n ≤ 64) (s1 : SmB x) (s2 : SmB y)
    (hm : m = n * n) (hr8 : r ≤ 8) (D : Int → Int → Int) (hD : ∀ vx vy, sumAbs (bmP W H g x y n vx vy) h m = D vx vy) :
    Calls Try.prog 28 #[.agg #[.int .i64 W, .int .i64 H, .slice A N c], .int .i64 x, .int .i64 y, .int .i64 n, .slice B m d, .int .i64 r] w (GivesV (srch D r ((2 * r + 1) * (2 * r + 1))).x (srch D r ((2 * r + 1) * (2 * r + 1))).y m (bmP W H g x y n (srch D r ((2 * r + 1) * (2 * r + 1))).x (srch D r ((2 * r + 1) * (2 * r + 1))).y) (srch D r ((2 * r + 1) * (2 * r + 1))).far w) := by
  have hnn : n * n ≤ 64 * 64 := Nat.mul_le_mul h2 h2
  have hn1 : 1 ≤ n * n := Nat.mul_le_mul h1 h1
  have m1 : (1 : Int) ≤ (n : Int) * n := by have := Int.natCast_mul n n; omega
  have m2 : (n : Int) * n ≤ 4096 := by have := Int.natCast_mul n n; omega
  have hne : ((m : Int) != (n : Int) * n) = false := by simp [hm]
  have HM := Lib.hid hm
  have mb : m ≤ 4096 := by omega
  have mb1 : 1 ≤ m := by omega
  have l1 : ((m : Int) == 0) = false := by simp; omega
  clear hm
  have HD := Lib.hid hD
  have HDb : Hid (∀ vx vy, 0 ≤ D vx vy ∧ D vx vy ≤ 1044480) := Lib.hid (fun vx vy => by have := sumAbs_bd (bmP_byt (W := W) (H := H) (x := x) (y := y) (n := n) (vx := vx) (vy := vy) hg) hh m; rw [hD] at this; omega)
  clear hD
  have K := ((((Kn.start w).add (x := .rd A N (by8 g)) hS).add (x := .rd B m (by8 h)) hB).new w.heap.size #[.int .i64 W, .int .i64 H, .slice A N c] 24 rfl).new (w.heap.size + 1) #[.int .i64 0, .int .i64 0] 48 (by simp)
  have HOF := Lib.hid (show OffsS (w.heap.size + 1) [.rd B m (by8 h), .rd A N (by8 g), .since w] from ⟨(It.ok.offS (x := .rd B m (by8 h)) hB (by omega)), (It.ok.offS (x := .rd A N (by8 g)) hS (by omega)), by show w.heap.size ≤ w.heap.size + 1; omega, trivial⟩)
  clear hS hB
  go_enter Try.func28, Try.ntmps28
  go_wp2_with fail
  refine (rblock_yes W H A N c g x y n 0 0 _ hr K.2.2.2.1 hg h1 h2 s1 s2 ⟨by omega, by omega⟩ ⟨by omega, by omega⟩).mono ?_
  rintro e w1 ⟨A1, c1, rfl, R1, hb1⟩
  rw [← HM.out] at R1 ⊢
  have K1 := K.below hb1
  have sz1 : w.heap.size + 1 < w1.heap.size := Box.lt K1.1
  replace K := (K1.add (x := .rd A1 m (by8 (bmP W H g x y n 0 0))) R1).new w1.heap.size #[.int .i64 0, .int .i64 0] 48 rfl
  clear hb1 R1 K1
  have r0 : ¬ (r : Int) < 0 := by omega
  have r1 : ¬ 8 < (r : Int) := by omega
  go_upto_region 5 with (fail)
  clear hne l1 r0 r1 m1 m2
  go_wp2_with fail
  refine (far9_any A1 B m m c1 d (bmP W H g x y n 0 0) h _ K.2.1 K.2.2.2.2.1 (bmP_byt hg) hh (Nat.le_refl _) (by omega)).mono ?_
  rintro e w2 ⟨rfl, hb2⟩
  rw [HD.out]
  have HK : Hid (Kn w2 (.box w1.heap.size #[.int .i64 0, .int .i64 0] :: [.box (w.heap.size + 1) #[.int .i64 0, .int .i64 0], .box w.heap.size #[.int .i64 W, .int .i64 H, .slice A N c], .rd B m (by8 h), .rd A N (by8 g), .since w])) := Lib.hid (have K2 := K.below hb2; ⟨K2.1, K2.2.2⟩)
  clear hb2 K
  have rle : -(r : Int) ≤ r := by omega
  go_wp2_with fail
  go_loopw [17, 18] (fun fa i wr => ∃ q : Nat, q ≤ 2 * r + 1 ∧ i = .int .i64 ((q : Int) - r) ∧ fa = .int .i64 (srch D r (q * (2 * r + 1))).far ∧ Kn wr (.box w1.heap.size #[.int .i64 (srch D r (q * (2 * r + 1))).x, .int .i64 (srch D r (q * (2 * r + 1))).y] :: [.box (w.heap.size + 1) #[.int .i64 0, .int .i64 0], .box w.heap.size #[.int .i64 W, .int .i64 H, .slice A N c], .rd B m (by8 h), .rd A N (by8 g), .since w])) (fun _ i _ => 2 * r + 1 - (intOf i + r).toNat)
  case atStart => exact ⟨0, by omega, congrArg (Value.int .i64) (by omega), by rw [Nat.zero_mul]; rfl, by rw [Nat.zero_mul]; exact HK.out⟩
  case round =>
    obtain ⟨q, hq, rfl, rfl, K⟩ := hrel
    clear HK
    have HK := Lib.hid K
    clear K
    by_cases hlt : q < 2 * r + 1
    · have hqi : (q : Int) - r ≤ r := by omega
      go_wp2_with fail
      go_loopw [17, 19] (fun fa i wr => ∃ p : Nat, p ≤ 2 * r + 1 ∧ i = .int .i64 ((p : Int) - r) ∧ fa = .int .i64 (srch D r (q * (2 * r + 1) + p)).far ∧ Kn wr (.box w1.heap.size #[.int .i64 (srch D r (q * (2 * r + 1) + p)).x, .int .i64 (srch D r (q * (2 * r + 1) + p)).y] :: [.box (w.heap.size + 1) #[.int .i64 0, .int .i64 0], .box w.heap.size #[.int .i64 W, .int .i64 H, .slice A N c], .rd B m (by8 h), .rd A N (by8 g), .since w])) (fun _ i _ => 2 * r + 1 - (intOf i + r).toNat)
      case atStart => exact ⟨0, by omega, congrArg (Value.int .i64) (by omega), rfl, HK.out⟩
      case round =>
        obtain ⟨p, hp, rfl, rfl, K⟩ := hrel
        clear HK
        by_cases hlp : p < 2 * r + 1
        · have hpi : (p : Int) - r ≤ r := by omega
          have hkl : q * (2 * r + 1) + p < (2 * r + 1) * (2 * r + 1) := by
            have := Nat.mul_le_mul_right (2 * r + 1) (show q + 1 ≤ 2 * r + 1 by omega)
            rw [Nat.add_mul, Nat.one_mul] at this
            omega
          obtain ⟨i1, i2, i3, i4, i5⟩ := srch_inv D r (q * (2 * r + 1) + p) (by omega)
          obtain ⟨v1, v2⟩ := vX_at (q := q) hlp
          have HST : Hid ((srch D r (q * (2 * r + 1) + p + 1)) = stepS D (srch D r (q * (2 * r + 1) + p)) (vX r (q * (2 * r + 1) + p)) (vY r (q * (2 * r + 1) + p))) := Lib.hid rfl
          have bf := HDb.out (srch D r (q * (2 * r + 1) + p)).x (srch D r (q * (2 * r + 1) + p)).y
          rw [← i1] at bf
          rw [v1, v2] at HST
          clear v1 v2 i1 i2 i3
          generalize (srch D r (q * (2 * r + 1) + p)) = s at *
          have sz := Box.lt K.1
          have HPQ : Hid ((p : Int) - r + 1 = ((p + 1 : Nat) : Int) - r) := Lib.hid (by omega)
          generalize hPX : (p : Int) - r = PX at *
          generalize hQY : (q : Int) - r = QY at *
          have pb : -8 ≤ PX ∧ PX ≤ 8 := by omega
          have qb : -8 ≤ QY ∧ QY ≤ 8 := by omega
          have HPX := Lib.hid hPX
          clear hPX hQY
          go_upto_region 13 with (fail)
          replace K := K.new wr.heap.size #[.int .i64 PX, .int .i64 QY] 48 rfl
          generalize wr.alloc (.cells #[.int .i64 PX, .int .i64 QY] 48) = wv at K ⊢
          have kc0 := Box.cells K.1
          have kc3 := Box.cells K.2.2.2.1
          go_wp2_with fail
          refine (rblock_yes W H A N c g x y n PX QY _ hr K.2.2.2.2.2.1 hg h1 h2 s1 s2 (by unfold SmB; omega) (by unfold SmB; omega)).mono ?_
          rintro e w5 ⟨A5, c5, rfl, R5, hb5⟩
          rw [← HM.out] at R5 ⊢
          replace K := (K.below hb5).add (x := .rd A5 m (by8 (bmP W H g x y n PX QY))) R5
          clear R5 kc0 kc3 hb5
          go_wp2_with fail
          refine (far9_any A5 B m m c5 d (bmP W H g x y n PX QY) h _ K.1 K.2.2.2.2.2.1 (bmP_byt hg) hh (Nat.le_refl _) (by omega)).mono ?_
          rintro e w6 ⟨rfl, hb6⟩
          rw [HD.out]
          replace K := (K.below hb6).2
          clear hb6
          have bd := HDb.out PX QY
          generalize hdv : D PX QY = dv at *
          have HSV := Lib.hid (fun w => rsize_any PX QY w (by omega) (by omega))
          have HSB := Lib.hid (fun w => rsize_any s.x s.y w (by omega) (by omega))
          have HS0 : Hid (srch D r (q * (2 * r + 1) + p + 1) = if dv < s.far ∨ (dv = s.far ∧ aheadV PX QY s.x s.y = true) then ⟨PX, QY, dv⟩ else s) := Lib.hid (by rw [HST.out]; unfold stepS; rw [hdv])
          have HAH := Lib.hid (aheadV_iff (vx := PX) (vy := QY) (wx := s.x) (wy := s.y))
          clear hdv
          generalize absI PX + absI QY = sv at *
          generalize absI s.x + absI s.y = sb at *
          have HTB : Hid ((decide (dv < s.far ∨ (dv = s.far ∧ (sv < sb ∨ (sv = sb ∧ (QY < s.y ∨ (QY = s.y ∧ PX < s.x))))))) = decide (dv < s.far ∨ (dv = s.far ∧ aheadV PX QY s.x s.y = true))) := Lib.hid (by simp only [HAH.out])
          go_upto_region 14 with (fail)
          go_cut [119] (fun b w' => b = .bool (decide (dv < s.far ∨ (dv = s.far ∧ (sv < sb ∨ (sv = sb ∧ (QY < s.y ∨ (QY = s.y ∧ PX < s.x))))))) ∧ Kn w' (.box wr.heap.size #[.int .i64 PX, .int .i64 QY] :: .box w1.heap.size #[.int .i64 s.x, .int .i64 s.y] :: [.box (w.heap.size + 1) #[.int .i64 0, .int .i64 0], .box w.heap.size #[.int .i64 W, .int .i64 H, .slice A N c], .rd B m (by8 h), .rd A N (by8 g), .since w]))
          case first =>
            replace K := Kn.drew K
            have H8 := Lib.hid (eight dv s.far sv sb QY s.y PX s.x)
            rcases H8.out with e1 | ⟨e1, e2⟩ | ⟨e1, e2⟩ | ⟨e1, e2, e3⟩ | ⟨e1, e2, e3⟩ | ⟨e1, e2, e3, e4⟩ | ⟨e1, e2, e3, e4⟩ | ⟨e1, e2, e3, e4⟩
            all_goals clear H8
            all_goals first | have HR : Hid (decide (dv < s.far ∨ (dv = s.far ∧ (sv < sb ∨ (sv = sb ∧ (QY < s.y ∨ (QY = s.y ∧ PX < s.x)))))) = true) := Lib.hid (by simp only [decide_eq_true_eq]; omega) | have HR : Hid (decide (dv < s.far ∨ (dv = s.far ∧ (sv < sb ∨ (sv = sb ∧ (QY < s.y ∨ (QY = s.y ∧ PX < s.x)))))) = false) := Lib.hid (by simp only [decide_eq_false_iff_not]; omega)
            all_goals first | have b1 : decide (dv < s.far) = true := (by simp; omega) | have b1 : decide (dv < s.far) = false := (by simp; omega)
            all_goals first | have b2 : (dv == s.far) = true := (by simp; omega) | have b2 : (dv == s.far) = false := (by simp; omega) | skip
            all_goals first | have b3 : decide (sv < sb) = true := (by simp; omega) | have b3 : decide (sv < sb) = false := (by simp; omega) | skip
            all_goals first | have b4 : (sv == sb) = true := (by simp; omega) | have b4 : (sv == sb) = false := (by simp; omega) | skip
            all_goals first | have b5 : decide (QY < s.y) = true := (by simp; omega) | have b5 : decide (QY < s.y) = false := (by simp; omega) | skip
            all_goals first | have b6 : (QY == s.y) = true := (by simp; omega) | have b6 : (QY == s.y) = false := (by simp; omega) | skip
            all_goals first | have b7 : decide (PX < s.x) = true := (by simp; omega) | have b7 : decide (PX < s.x) = false := (by simp; omega) | skip
            all_goals clear e1
            all_goals (try clear e2)
            all_goals (try clear e3)
            all_goals (try clear e4)
            all_goals refine wp_region_allV (fun w' => Kn w' _) [9, 11, 15, 17] [(0,1),(1,1),(2,1),(3,1),(4,1),(5,1),(6,1),(7,1),(8,1),(10,1),(9,2),(11,2),(12,1),(13,1),(14,1),(16,1),(15,2),(17,2),(18,1),(19,1),(20,1),(21,1),(22,1),(23,1),(24,1),(25,1),(26,1),(27,1),(28,1),(29,1),(30,1),(31,1),(32,1),(33,1),(34,1),(35,1),(36,1),(37,1),(38,1),(39,1),(40,1),(41,1),(42,1)] (by kernel_rfl) (by kernel_rfl) (fun _ _ d _ _ h => by cases d <;> exact h) K ?_
            all_goals intro ops HOPS
            all_goals generalize World.drew _ = wd at K ⊢
            all_goals repeat (first | (refine oV_freeG HOPS rfl rfl (fun w' hS => by have s1 := Box.cells hS.1; have s2 := Box.cells hS.2.1; clear hS; go_simp; with_reducible rfl) ?_; go_simp) | (refine oV_skipG HOPS rfl rfl ?_; go_simp))
            all_goals first | (refine oV_passG HOPS rfl rfl K ?_; go_simp) | (refine oV_doG HOPS rfl rfl (fun KK hKK => ?_); go_simp; refine (HSV.out _).mono ?_; rintro e w7 ⟨rfl, hb7⟩; replace K := K.below hb7; refine hKK (fun w' => Kn w' _) _ _ (fun _ h => h) K ?_; clear hKK KK hb7)
            all_goals first | (refine oV_passG HOPS rfl rfl K ?_; go_simp) | (refine oV_doG HOPS rfl rfl (fun KK hKK => ?_); go_simp; refine (HSB.out _).mono ?_; rintro e w7 ⟨rfl, hb7⟩; replace K := K.below hb7; refine hKK (fun w' => Kn w' _) _ _ (fun _ h => h) K ?_; clear hKK KK hb7)
            all_goals repeat (first | (refine oV_freeG HOPS rfl rfl (fun w' hS => by have s1 := Box.cells hS.1; have s2 := Box.cells hS.2.1; clear hS; go_simp; with_reducible rfl) ?_; go_simp) | (refine oV_skipG HOPS rfl rfl ?_; go_simp))
            all_goals first | (refine oV_passG HOPS rfl rfl K ?_; go_simp) | (refine oV_doG HOPS rfl rfl (fun KK hKK => ?_); go_simp; refine (HSV.out _).mono ?_; rintro e w7 ⟨rfl, hb7⟩; replace K := K.below hb7; refine hKK (fun w' => Kn w' _) _ _ (fun _ h => h) K ?_; clear hKK KK hb7)
            all_goals first | (refine oV_passG HOPS rfl rfl K ?_; go_simp) | (refine oV_doG HOPS rfl rfl (fun KK hKK => ?_); go_simp; refine (HSB.out _).mono ?_; rintro e w7 ⟨rfl, hb7⟩; replace K := K.below hb7; refine hKK (fun w' => Kn w' _) _ _ (fun _ h => h) K ?_; clear hKK KK hb7)
            all_goals repeat (first | (refine oV_freeG HOPS rfl rfl (fun w' hS => by have s1 := Box.cells hS.1; have s2 := Box.cells hS.2.1; clear hS; go_simp; with_reducible rfl) ?_; go_simp) | (refine oV_skipG HOPS rfl rfl ?_; go_simp))
            all_goals refine oX_nil ?_
            all_goals go_wp2
            all_goals go_meet
            all_goals exact ⟨by rw [HR.out], K⟩
          case rest =>
            obtain ⟨rfl, K⟩ := hcut
            generalize hb : decide (dv < s.far ∨ (dv = s.far ∧ (sv < sb ∨ (sv = sb ∧ (QY < s.y ∨ (QY = s.y ∧ PX < s.x)))))) = tb at *
            have HTB2 : Hid (tb = decide (dv < s.far ∨ (dv = s.far ∧ aheadV PX QY s.x s.y = true))) := HTB
            clear hb HTB
            cases tb with
            | true =>
              have HS : Hid (srch D r (q * (2 * r + 1) + p + 1) = ⟨PX, QY, dv⟩) := Lib.hid (by rw [HS0.out, if_pos (of_decide_eq_true HTB2.out.symm)])
              have kc0 := Box.cells K.1
              have kc1 := Box.cells K.2.1
              have kf1 := Box.frees K.2.1
              have KF := K.swap.set2S 0 (.int .i64 PX) (.int .i64 QY) ⟨by show wr.heap.size ≠ w1.heap.size; omega, by show w.heap.size + 1 ≠ w1.heap.size; omega, by show w.heap.size ≠ w1.heap.size; omega, vec_off K.2.1 K.2.2.2.2.1, vec_off K.2.1 K.2.2.2.2.2.1, by show w.heap.size ≤ w1.heap.size; omega, trivial⟩
              have HKF := Lib.hid KF
              clear KF K
              go_wp2
              go_roundw
              case rel => exact ⟨p + 1, by omega, by rw [HPQ.out], by rw [← Nat.add_assoc, HS.out], by rw [← Nat.add_assoc, HS.out]; exact ⟨HKF.out.1, HKF.out.2.2⟩⟩
              case measure => have hx := HPX.out; simp [intOf]; omega
            | false =>
              have HS : Hid (srch D r (q * (2 * r + 1) + p + 1) = s) := Lib.hid (by rw [HS0.out, if_neg (of_decide_eq_false HTB2.out.symm)])
              have HK := Lib.hid K
              clear K
              go_wp2
              go_roundw
              case rel => exact ⟨p + 1, by omega, by rw [HPQ.out], by rw [← Nat.add_assoc, HS.out], by rw [← Nat.add_assoc, HS.out]; exact HK.out.2⟩
              case measure => have hx := HPX.out; simp [intOf]; omega
        · obtain rfl : p = 2 * r + 1 := by omega
          have hpi : ¬ ((2 * r + 1 : Nat) : Int) - r ≤ r := by omega
          have HK := Lib.hid K
          clear K
          go_wp2
          go_roundw
          case rel => exact ⟨q + 1, by omega, congrArg (Value.int .i64) (by omega), by rw [Nat.add_mul, Nat.one_mul], by rw [Nat.add_mul, Nat.one_mul]; exact HK.out⟩
          case measure => simp [intOf]; omega
    · obtain rfl : q = 2 * r + 1 := by omega
      have hqi : ¬ ((2 * r + 1 : Nat) : Int) - r ≤ r := by omega
      have f4 := (srch_inv D r ((2 * r + 1) * (2 * r + 1)) (Nat.le_refl _)).2.2.2.1
      have f5 := (srch_inv D r ((2 * r + 1) * (2 * r + 1)) (Nat.le_refl _)).2.2.2.2
      generalize srch D r ((2 * r + 1) * (2 * r + 1)) = s at *
      have sz := Box.lt HK.out.1
      have K := Kn.drew HK.out
      clear HK
      go_wp2
      refine wp_region_allX (fun w' => Kn w' _) [6, 8] [(0,1),(1,1),(2,1),(3,1),(4,1),(5,1),(7,1),(6,2),(8,2),(9,0),(10,0)] (by kernel_rfl) (by kernel_rfl) (fun _ _ d _ _ h => by cases d <;> exact h) (show Kn _ [_, _, _, _, _] from ⟨K.1, K.2.2⟩) ?_
      generalize World.drew _ = wd at K ⊢
      repeat (first | (refine oX_freeG rfl rfl (fun w' hS => by have s1 := Box.cells hS.1; have s2 := Box.cells hS.2.1; clear hS; go_simp; with_reducible rfl) ?_; go_simp) | (refine oX_skipG rfl rfl ?_; go_simp))
      refine oX_doG rfl rfl (fun KK hKK => ?_)
      go_simp
      refine (rblock_yes W H A N c g x y n s.x s.y _ hr K.2.2.2.2.1 hg h1 h2 s1 s2 (by unfold SmB; omega) (by unfold SmB; omega)).mono ?_
      rintro e w9 ⟨A9, c9, rfl, R9, hb9⟩
      rw [← HM.out] at R9 ⊢
      replace K := (K.below hb9).add (x := .rd A9 m (by8 (bmP W H g x y n s.x s.y))) R9
      refine hKK (fun w' => Kn w' _) _ _ (fun _ h => h) ⟨K.2.1, K.2.2.2⟩ ?_
      clear hKK KK hb9 R9
      refine oX_doG rfl rfl (fun KK hKK => ?_)
      have kc2 := Box.cells K.2.2.1
      have kf2 := Box.frees K.2.2.1
      go_simp
      have KF := K.third.set2S 0 (.int .i64 s.x) (.int .i64 s.y) ⟨vec_off K.2.2.1 K.1, by show w1.heap.size ≠ w.heap.size + 1; omega, by show w.heap.size ≠ w.heap.size + 1; omega, HOF.out⟩
      refine hKK (fun w' => Kn w' _) _ _ (fun _ h => h) ⟨KF.2.2.1, KF.2.2.2⟩ ?_
      clear hKK KK K kc2 kf2
      repeat (refine oX_still rfl (fun KK hKK => ?_); go_simp; refine hKK _ ?_; clear hKK KK)
      refine oX_nil ?_
      go_wp2
      change bodyPost _ _ _ _ _ ((w9.setCell ⟨w.heap.size + 1, 0, none⟩ (.int .i64 s.x)).setCell ⟨w.heap.size + 1, 0 + 1, none⟩ (.int .i64 s.y))
      generalize (w9.setCell ⟨w.heap.size + 1, 0, none⟩ (.int .i64 s.x)).setCell ⟨w.heap.size + 1, 0 + 1, none⟩ (.int .i64 s.y) = wf at KF ⊢
      have d0 := Box.cell KF.1 0
      have d1 := Box.cell KF.1 1
      simp at d0 d1
      refine bodyPost_ret (v := .tuple #[.agg #[.int .i64 s.x, .int .i64 s.y], .slice A9 m c9, .int .i64 s.far]) (by simp [results, Try.results28, go_sem, d0, d1]) rfl ⟨A9, c9, rfl, KF.2.1, KF.2.2.2.2.2.2.1⟩
end Go.Proofs.Ytcojphdohpgjnaa
