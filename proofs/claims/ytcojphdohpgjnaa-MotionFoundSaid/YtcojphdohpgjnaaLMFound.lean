/- MotionFound: a block that is the plane's own at a vector within reach is found with nothing left over, at a vector that is no longer; what is found is the block at its vector: proved for every plane, place, size and vector, no condition. -/
import Derived.Test.YtcojphdohpgjnaaAl10
import Derived.Test.YtcojphdohpgjnaaFt
import Derived.Test.YtcojphdohpgjnaaClose2
namespace Go.Kin
theorem sumAbs_zero {g h : Nat → Int} : ∀ {n : Nat}, sumAbs g h n = 0 → (∀ i, i < n → g i = h i) ∧ True
  | 0, _ => ⟨fun i hi => absurd hi (by omega), trivial⟩
  | n + 1, e => by
    simp only [sumAbs] at e
    have h0 : ∀ k, 0 ≤ sumAbs g h k := fun k => by
      induction k with
      | zero => simp [sumAbs]
      | succ k ih => simp only [sumAbs]; omega
    have h1 := h0 n
    obtain ⟨h2, _⟩ := sumAbs_zero (g := g) (h := h) (n := n) (by omega)
    refine ⟨fun i hi => ?_, trivial⟩
    by_cases hin : i = n
    · subst hin; omega
    · exact h2 i (by omega)
theorem vX_of {r : Nat} {vx vy : Int} (h1 : -r ≤ vx ∧ vx ≤ r) (h2 : -r ≤ vy ∧ vy ≤ r) : ∃ j, j < (2 * r + 1) * (2 * r + 1) ∧ vX r j = vx ∧ vY r j = vy := by
  refine ⟨(vy + r).toNat * (2 * r + 1) + (vx + r).toNat, ?_, ?_⟩
  · have := Nat.mul_le_mul_right (2 * r + 1) (show (vy + r).toNat + 1 ≤ 2 * r + 1 by omega)
    rw [Nat.add_mul, Nat.one_mul] at this
    omega
  · obtain ⟨e1, e2⟩ := vX_at (r := r) (p := (vx + r).toNat) (q := (vy + r).toNat) (by omega)
    rw [e1, e2]
    omega
/-- What is found of a block that is there: nothing is left over, and the vector is no longer. -/
theorem srch_found {D : Int → Int → Int} {r : Nat} {vx vy : Int} (h1 : -r ≤ vx ∧ vx ≤ r) (h2 : -r ≤ vy ∧ vy ≤ r) (h0 : ∀ x y, 0 ≤ D x y) (hv : D vx vy = 0) :
    (srch D r ((2 * r + 1) * (2 * r + 1))).far = 0 ∧ D (srch D r ((2 * r + 1) * (2 * r + 1))).x (srch D r ((2 * r + 1) * (2 * r + 1))).y = 0 ∧ absI (srch D r ((2 * r + 1) * (2 * r + 1))).x + absI (srch D r ((2 * r + 1) * (2 * r + 1))).y ≤ absI vx + absI vy := by
  obtain ⟨j, hj, ex, ey⟩ := vX_of h1 h2
  obtain ⟨i1, _⟩ := srch_inv D r ((2 * r + 1) * (2 * r + 1)) (Nat.le_refl _)
  have hm := srch_min D r ((2 * r + 1) * (2 * r + 1)) j hj
  rw [ex, ey, hv] at hm
  generalize srch D r ((2 * r + 1) * (2 * r + 1)) = s at *
  have := h0 s.x s.y
  rcases hm with hm | ⟨hm, ha⟩
  · omega
  · rw [aheadV_no] at ha
    omega
end Go.Kin
namespace Go.Proofs.Ytcojphdohpgjnaa
open Go.ChangeShapes Go.WideShapes Go.ChangeAt Go.RowKit Go.Joins Go.Kin
set_option linter.unusedVariables false

namespace MotionFound
set_option maxRecDepth 100000 in
set_option maxHeartbeats 2000000 in
theorem walk_no (w : World) (p : PlV) (x y n vx vy : Int) (M : Nat) (gg : Nat → Int) (hB : ∀ w1, Below w.heap.size w w1 → Calls Try.prog 29 #[.agg #[.int .i64 p.a, .int .i64 p.b, .slice p.A p.n p.c], .int .i64 x, .int .i64 y, .int .i64 n, .agg #[.int .i64 vx, .int .i64 vy]] w1 (GivesSl M gg w1))
    (h : fitB p.n = false ∨ (fitB p.n = true ∧ ((M : Int) == 0) = true) ∨ (fitB p.n = true ∧ ((M : Int) == 0) = false ∧ ¬ (n ≤ 8 ∧ -3 ≤ vx ∧ vx ≤ 3 ∧ -3 ≤ vy ∧ vy ≤ 3))) :
    Calls Try.prog 10 #[.agg #[.int .i64 p.a, .int .i64 p.b, .slice p.A p.n p.c], .agg #[.int .i64 x, .int .i64 y, .int .i64 n], .agg #[.int .i64 vx, .int .i64 vy]] w fun e w' => e = .returned (.bool true) ∧ Below w.heap.size w w' := by
  have K := Kn.start w
  have HB := Lib.hid hB
  clear hB
  rcases h with h1 | ⟨h1, h2⟩ | ⟨h1, h2, h3⟩
  · go_enter Try.func10, Try.ntmps10
    go_wp2_with fail
    refine (fits_any _ _ _ _ _ _).mono ?_
    rintro e w1 ⟨rfl, hb1⟩
    replace K := (((K.new w.heap.size _ _ rfl).new (w.heap.size + 1) _ _ (by simp)).new (w.heap.size + 1 + 1) _ _ (by simp)).below hb1
    clear hb1
    replace kc0 := Box.cells K.1
    replace kl0 := Box.lt K.1
    replace kc1 := Box.cells K.2.1
    replace kl1 := Box.lt K.2.1
    replace kc2 := Box.cells K.2.2.1
    replace kl2 := Box.lt K.2.2.1
    replace L : Below _ _ _ := K.2.2.2.1
    go_wp2_with fail
    refine (HB.out _ L).mono ?_
    rintro e w2 ⟨A2, c2, rfl, _, hb2⟩
    replace K := K.below hb2
    clear hb2
    replace kc0 := Box.cells K.1
    replace kl0 := Box.lt K.1
    replace kc1 := Box.cells K.2.1
    replace kl1 := Box.lt K.2.1
    replace kc2 := Box.cells K.2.2.1
    replace kl2 := Box.lt K.2.2.1
    replace L : Below _ _ _ := K.2.2.2.1
    go_wp2_with fail
    refine (alive10 _).mono ?_
    rintro e w3 ⟨rfl, hb3⟩
    replace K := K.below hb3
    clear hb3
    replace kc0 := Box.cells K.1
    replace kl0 := Box.lt K.1
    replace kc1 := Box.cells K.2.1
    replace kl1 := Box.lt K.2.1
    replace kc2 := Box.cells K.2.2.1
    replace kl2 := Box.lt K.2.2.1
    replace L : Below _ _ _ := K.2.2.2.1
    go_wp2
    go_ret
    exact ⟨rfl, L⟩
  · go_enter Try.func10, Try.ntmps10
    go_wp2_with fail
    refine (fits_any _ _ _ _ _ _).mono ?_
    rintro e w1 ⟨rfl, hb1⟩
    replace K := (((K.new w.heap.size _ _ rfl).new (w.heap.size + 1) _ _ (by simp)).new (w.heap.size + 1 + 1) _ _ (by simp)).below hb1
    clear hb1
    replace kc0 := Box.cells K.1
    replace kl0 := Box.lt K.1
    replace kc1 := Box.cells K.2.1
    replace kl1 := Box.lt K.2.1
    replace kc2 := Box.cells K.2.2.1
    replace kl2 := Box.lt K.2.2.1
    replace L : Below _ _ _ := K.2.2.2.1
    go_wp2_with fail
    refine (HB.out _ L).mono ?_
    rintro e w2 ⟨A2, c2, rfl, _, hb2⟩
    replace K := K.below hb2
    clear hb2
    replace kc0 := Box.cells K.1
    replace kl0 := Box.lt K.1
    replace kc1 := Box.cells K.2.1
    replace kl1 := Box.lt K.2.1
    replace kc2 := Box.cells K.2.2.1
    replace kl2 := Box.lt K.2.2.1
    replace L : Below _ _ _ := K.2.2.2.1
    go_wp2_with fail
    refine (alive10 _).mono ?_
    rintro e w3 ⟨rfl, hb3⟩
    replace K := K.below hb3
    clear hb3
    replace kc0 := Box.cells K.1
    replace kl0 := Box.lt K.1
    replace kc1 := Box.cells K.2.1
    replace kl1 := Box.lt K.2.1
    replace kc2 := Box.cells K.2.2.1
    replace kl2 := Box.lt K.2.2.1
    replace L : Below _ _ _ := K.2.2.2.1
    go_wp2
    go_ret
    exact ⟨rfl, L⟩
  · have HH := Lib.hid h3
    clear h3
    go_enter Try.func10, Try.ntmps10
    go_wp2_with fail
    refine (fits_any _ _ _ _ _ _).mono ?_
    rintro e w1 ⟨rfl, hb1⟩
    replace K := (((K.new w.heap.size _ _ rfl).new (w.heap.size + 1) _ _ (by simp)).new (w.heap.size + 1 + 1) _ _ (by simp)).below hb1
    clear hb1
    replace kc0 := Box.cells K.1
    replace kl0 := Box.lt K.1
    replace kc1 := Box.cells K.2.1
    replace kl1 := Box.lt K.2.1
    replace kc2 := Box.cells K.2.2.1
    replace kl2 := Box.lt K.2.2.1
    replace L : Below _ _ _ := K.2.2.2.1
    go_wp2_with fail
    refine (HB.out _ L).mono ?_
    rintro e w2 ⟨A2, c2, rfl, _, hb2⟩
    replace K := K.below hb2
    clear hb2
    replace kc0 := Box.cells K.1
    replace kl0 := Box.lt K.1
    replace kc1 := Box.cells K.2.1
    replace kl1 := Box.lt K.2.1
    replace kc2 := Box.cells K.2.2.1
    replace kl2 := Box.lt K.2.2.1
    replace L : Below _ _ _ := K.2.2.2.1
    have HK := Lib.hid K
    clear K
    have c4 : 8 < n ∨ (¬ 8 < n ∧ vx < -3) ∨ (¬ 8 < n ∧ ¬ vx < -3 ∧ 3 < vx) ∨ (¬ 8 < n ∧ ¬ vx < -3 ∧ ¬ 3 < vx ∧ vy < -3) ∨ (¬ 8 < n ∧ ¬ vx < -3 ∧ ¬ 3 < vx ∧ ¬ vy < -3 ∧ 3 < vy) := by have := HH.out; omega
    clear HH
    rcases c4 with c1 | ⟨c1, c2⟩ | ⟨c1, c2, c3⟩ | ⟨c1, c2, c3, c4⟩ | ⟨c1, c2, c3, c4, c5⟩
    all_goals go_wp2_with fail
    all_goals refine (alive10 _).mono ?_
    all_goals rintro e w3 ⟨rfl, hb3⟩
    all_goals have K := HK.out.below hb3
    all_goals go_wp2
    all_goals go_ret
    all_goals exact ⟨rfl, K.2.2.2.1⟩
set_option maxRecDepth 100000 in
set_option maxHeartbeats 2000000 in
theorem walk_yes (w : World) (W H : Int) (A : Option Addr) (N c : Nat) (g : Nat → Int) (x y : Int) (n : Nat) (vx vy : Int) (hR : Rd w A N (by8 g)) (hg : Byt g) (h1 : fitB N = true) (hr : rightB W H N = true) (n1 : 1 ≤ n) (n8 : n ≤ 8) (s1 : SmB x) (s2 : SmB y) (b1 : -3 ≤ vx ∧ vx ≤ 3) (b2 : -3 ≤ vy ∧ vy ≤ 3) :
    Calls Try.prog 10 #[.agg #[.int .i64 W, .int .i64 H, .slice A N c], .agg #[.int .i64 x, .int .i64 y, .int .i64 n], .agg #[.int .i64 vx, .int .i64 vy]] w fun e w' => e = .returned (.bool true) ∧ Below w.heap.size w w' := by
  have hnn : 1 ≤ n * n := Nat.mul_le_mul n1 n1
  have l1 : (((n * n : Nat) : Int) == 0) = false := by simp; omega
  have l2 : ((n : Int) * n == 0) = false := by rw [← Int.natCast_mul]; exact l1
  generalize hm : n * n = m at *
  have HM := Lib.hid hm
  clear hm
  have HF := Lib.hid (srch_found (D := fun a b => sumAbs (bmP W H g x y n a b) (bmP W H g x y n vx vy) m) (r := 3) b1 b2 (fun a b => (sumAbs_bd (bmP_byt hg) (bmP_byt hg) m).1) (by
    have : ∀ (f : Nat → Int) k, sumAbs f f k = 0 := fun f k => by
      induction k with
      | zero => rfl
      | succ k ih => simp only [sumAbs]; omega
    exact this _ m))
  have HIB := Lib.hid (srch_inv (fun a b => sumAbs (bmP W H g x y n a b) (bmP W H g x y n vx vy) m) 3 ((2 * 3 + 1) * (2 * 3 + 1)) (Nat.le_refl _))
  have HSR := Lib.hid (fun w1 B1 d1 (hA : Rd w1 A N (by8 g)) (hB : Rd w1 B1 m (by8 (bmP W H g x y n vx vy))) => msearch_yes W H A N c g x y n B1 m d1 (bmP W H g x y n vx vy) 3 w1 hr hA hg hB (bmP_byt hg) n1 (by omega) s1 s2 HM.out.symm (by omega) (fun a b => sumAbs (bmP W H g x y n a b) (bmP W H g x y n vx vy) m) (fun _ _ => rfl))
  generalize hs : srch (fun a b => sumAbs (bmP W H g x y n a b) (bmP W H g x y n vx vy) m) 3 ((2 * 3 + 1) * (2 * 3 + 1)) = s at *
  clear hs
  obtain ⟨f1, f2, f3⟩ := HF.out
  obtain ⟨_, _, _, f4, f5⟩ := HIB.out
  have HEQ : Hid (∀ i, i < m → by8 (bmP W H g x y n s.x s.y) i = by8 (bmP W H g x y n vx vy) i) := Lib.hid (fun i hi => by simp only [by8]; rw [(sumAbs_zero f2).1 i hi])
  have HF1 := Lib.hid f1
  unfold absI at f3
  have f6 : max s.x (-s.x) + max s.y (-s.y) ≤ max vx (-vx) + max vy (-vy) := f3
  clear HF HIB f1 f2 f3
  have K := (Kn.start w).add (x := .rd A N (by8 g)) hR
  clear hR
  go_enter Try.func10, Try.ntmps10
  go_wp2_with fail
  refine (fits_any _ _ _ _ _ _).mono ?_
  rintro e w1 ⟨rfl, hb1⟩
  replace K := (((K.new w.heap.size _ _ rfl).new (w.heap.size + 1) _ _ (by simp)).new (w.heap.size + 1 + 1) _ _ (by simp)).below hb1
  clear hb1
  replace kc0 := Box.cells K.1
  replace kl0 := Box.lt K.1
  replace kc1 := Box.cells K.2.1
  replace kl1 := Box.lt K.2.1
  replace kc2 := Box.cells K.2.2.1
  replace kl2 := Box.lt K.2.2.1
  replace L : Below _ _ _ := K.2.2.2.2.1
  go_wp2_with fail
  refine (mblock_yes W H A N c g x y n vx vy _ hr K.2.2.2.1 hg n1 (by omega) s1 s2 ⟨by omega, by omega⟩ ⟨by omega, by omega⟩).mono ?_
  rintro e w2 ⟨A2, c2, rfl, R2, hb2⟩
  rw [HM.out] at R2 ⊢
  replace K := (K.below hb2).add (x := .rd A2 m (by8 (bmP W H g x y n vx vy))) R2
  clear hb2 R2 kc0 kl0 kc1 kl1 kc2 kl2
  replace kc1 := Box.cells K.2.1
  replace kl1 := Box.lt K.2.1
  replace kc2 := Box.cells K.2.2.1
  replace kl2 := Box.lt K.2.2.1
  replace kc3 := Box.cells K.2.2.2.1
  replace kl3 := Box.lt K.2.2.2.1
  replace L : Below _ _ _ := K.2.2.2.2.2.1
  go_wp2_with fail
  refine (HSR.out _ A2 c2 K.2.2.2.2.1 K.1).mono ?_
  rintro e w3 ⟨A3, c3, rfl, R3, hb3⟩
  replace K := (K.below hb3).add (x := .rd A3 m (by8 (bmP W H g x y n vx vy))) (R3.congr HEQ.out)
  rw [HF1.out]
  clear hb3 R3 kc1 kl1 kc2 kl2 kc3 kl3
  replace kc2 := Box.cells K.2.2.1
  replace kl2 := Box.lt K.2.2.1
  replace kc3 := Box.cells K.2.2.2.1
  replace kl3 := Box.lt K.2.2.2.1
  replace kc4 := Box.cells K.2.2.2.2.1
  replace kl4 := Box.lt K.2.2.2.2.1
  replace L : Below _ _ _ := K.2.2.2.2.2.2.1
  go_upto_region 6 with (fail)
  replace K := K.new w3.heap.size #[.int .i64 s.x, .int .i64 s.y] 48 rfl
  generalize w3.alloc (.cells #[.int .i64 s.x, .int .i64 s.y] 48) = w4 at K ⊢
  clear kc2 kl2 kc3 kl3 kc4 kl4 L
  replace kc0 := Box.cells K.1
  replace kl0 := Box.lt K.1
  replace kc3 := Box.cells K.2.2.2.1
  replace kl3 := Box.lt K.2.2.2.1
  replace kc4 := Box.cells K.2.2.2.2.1
  replace kl4 := Box.lt K.2.2.2.2.1
  replace kc5 := Box.cells K.2.2.2.2.2.1
  replace kl5 := Box.lt K.2.2.2.2.2.1
  replace L : Below _ _ _ := K.2.2.2.2.2.2.2.1
  go_wp2_with fail
  refine (mblock_yes W H A N c g x y n s.x s.y _ hr K.2.2.2.2.2.2.1 hg n1 (by omega) s1 s2 ⟨by omega, by omega⟩ ⟨by omega, by omega⟩).mono ?_
  rintro e w5 ⟨A5, c5, rfl, R5, hb5⟩
  rw [HM.out] at R5 ⊢
  replace K := (K.below hb5).add (x := .rd A5 m (by8 (bmP W H g x y n vx vy))) (R5.congr HEQ.out)
  clear hb5 R5 kc0 kl0 kc3 kl3 kc4 kl4 kc5 kl5
  go_wp2_with fail
  refine (alive10 _).mono ?_
  rintro e w6 ⟨rfl, hb6⟩
  replace K := K.below hb6
  clear hb6
  replace R5 : Rd _ _ _ _ := K.1
  replace kc1 := Box.cells K.2.1
  replace kl1 := Box.lt K.2.1
  replace R3 : Rd _ _ _ _ := K.2.2.1
  replace R2 : Rd _ _ _ _ := K.2.2.2.1
  replace kc4 := Box.cells K.2.2.2.2.1
  replace kl4 := Box.lt K.2.2.2.2.1
  replace kc5 := Box.cells K.2.2.2.2.2.1
  replace kl5 := Box.lt K.2.2.2.2.2.1
  replace kc6 := Box.cells K.2.2.2.2.2.2.1
  replace kl6 := Box.lt K.2.2.2.2.2.2.1
  replace L : Below _ _ _ := K.2.2.2.2.2.2.2.2.1
  have k1 := conv_any (c := c5) R5
  have k2 := conv_any (c := c3) R3
  have k3 := conv_any (c := c2) R2
  clear K
  go_wp2
  go_ret
  exact ⟨rfl, L⟩
theorem walk (w : World) (a b : Int) (A : Option Addr) (N c : Nat) (g : Nat → Int) (ia : I64 a) (ib : I64 b) (hR : Rd w A N (by8 g)) (hg : Byt g) (hnc : N ≤ c) (hc : c ≤ 9223372036854775807) (x y q : Int) (ix : I64 x) (iy : I64 y) (iq : I64 q) (vx vy : Int) (ivx : I64 vx) (ivy : I64 vy) :
    Calls Try.prog 10 #[.agg #[.int .i64 a, .int .i64 b, .slice A N c], .agg #[.int .i64 x, .int .i64 y, .int .i64 q], .agg #[.int .i64 vx, .int .i64 vy]] w fun e w' => e = .returned (.bool true) ∧ Below w.heap.size w w' := by
  have toNo : ∀ {w1 : World} {e : Ending} {w2 : World}, NoSl w1 e w2 → GivesSl 0 (fun _ => 0) w1 e w2 := fun h => ⟨none, 0, h.1, Rd.none_ _ _ _, h.2⟩
  have no : ∀ (hB : ∀ w1, Below w.heap.size w w1 → Calls Try.prog 29 #[.agg #[.int .i64 a, .int .i64 b, .slice A N c], .int .i64 x, .int .i64 y, .int .i64 q, .agg #[.int .i64 vx, .int .i64 vy]] w1 (NoSl w1)),
      Calls Try.prog 10 #[.agg #[.int .i64 a, .int .i64 b, .slice A N c], .agg #[.int .i64 x, .int .i64 y, .int .i64 q], .agg #[.int .i64 vx, .int .i64 vy]] w fun e w' => e = .returned (.bool true) ∧ Below w.heap.size w w' := fun hB => by
    cases h1 : fitB N with
    | false => exact walk_no w ⟨a, b, A, N, c, g⟩ x y q vx vy 0 (fun _ => 0) (fun w1 h => (hB w1 h).mono fun _ _ h => toNo h) (.inl h1)
    | true => exact walk_no w ⟨a, b, A, N, c, g⟩ x y q vx vy 0 (fun _ => 0) (fun w1 h => (hB w1 h).mono fun _ _ h => toNo h) (.inr (.inl ⟨h1, rfl⟩))
  cases hr : rightB a b N with
  | false => exact no fun w1 _ => mblock_no1 _ _ _ _ _ _ _ _ _ _ _ (.inl hr)
  | true =>
    by_cases hn1 : q < 1
    · exact no fun w1 _ => mblock_no1 _ _ _ _ _ _ _ _ _ _ _ (.inr (.inl ⟨hr, hn1⟩))
    by_cases hn2 : 64 < q
    · exact no fun w1 _ => mblock_no1 _ _ _ _ _ _ _ _ _ _ _ (.inr (.inr ⟨hr, hn1, hn2⟩))
    by_cases hs : SmB x ∧ SmB y ∧ SmB vx ∧ SmB vy
    rotate_left
    · exact no fun w1 _ => mblock_no2 _ _ _ _ _ _ _ _ _ _ _ hr hn1 hn2 hs
    obtain ⟨n, rfl⟩ := Int.eq_ofNat_of_zero_le (show 0 ≤ q by omega)
    obtain ⟨s1, s2, s3, s4⟩ := hs
    have hBy : ∀ w1, Below w.heap.size w w1 → Calls Try.prog 29 #[.agg #[.int .i64 a, .int .i64 b, .slice A N c], .int .i64 x, .int .i64 y, .int .i64 n, .agg #[.int .i64 vx, .int .i64 vy]] w1 (GivesSl (n * n) (bmP a b g x y n vx vy) w1) := fun w1 h => mblock_yes a b A N c g x y n vx vy w1 hr (hR.below h) hg (by omega) (by omega) s1 s2 s3 s4
    have hz : (((n * n : Nat) : Int) == 0) = false := by
      have : 1 ≤ n * n := Nat.mul_le_mul (show 1 ≤ n by omega) (show 1 ≤ n by omega)
      simp; omega
    cases h1 : fitB N with
    | false => exact walk_no w ⟨a, b, A, N, c, g⟩ x y n vx vy (n * n) _ hBy (.inl h1)
    | true =>
      by_cases h8 : (n : Int) ≤ 8 ∧ -3 ≤ vx ∧ vx ≤ 3 ∧ -3 ≤ vy ∧ vy ≤ 3
      · exact walk_yes w a b A N c g x y n vx vy hR hg h1 hr (by omega) (by omega) s1 s2 ⟨by omega, by omega⟩ ⟨by omega, by omega⟩
      · exact walk_no w ⟨a, b, A, N, c, g⟩ x y n vx vy (n * n) _ hBy (.inr (.inr ⟨h1, hz, h8⟩))
end MotionFound
namespace MotionFound
set_option maxRecDepth 100000 in
theorem lifted (os : Os) (started : os.Started) (H : Type) (enc : TypeId × Value → H) :
    ReturnsInHanded {} Try.checked os 10 .any (Rows.motionFoundSpec.pre6 enc Try.prog Try.f10 Rows.motionFoundRow.domain false) (Rows.motionFoundSpec.post enc Try.prog Try.f10 false true false false) := by
  refine returnsInHanded_of_change (C := Try.checked) own started (by kernel_rfl) Try.func10
    (ChangeSpec.witness6 (enc := enc) (C := Try.checked) false ⟨#[], #[.agg #[.int .i64 0, .int .i64 0, .slice none 0 0], .agg #[.int .i64 0, .int .i64 0, .int .i64 0], .agg #[.int .i64 0, .int .i64 0]], []⟩ 8 (by kernel_rfl) (by kernel_rfl) (by kernel_rfl) (by kernel_rfl)) ?_
  intro W base args ds gs before hval0 hW hcnd _
  have hval : ∀ (j : Nat) t v, Try.f10.params[j]? = some t → args[j]? = some v → Value.okWide Try.prog W .any base t v := hval0
  refine law_post (tb := 4) laidOut (by kernel_rfl) rfl Try.underlying4 rfl (fun ds' h => ?_) hW ?_
  · rw [Try.params10] at h
    match ds', h with
    | [d1, d2, d3], _ => exact ⟨rfl, rfl, rfl⟩
  obtain ⟨p, q, hA0, hV, rfl, hfz, hnd⟩ := hW
  have hA : DataW.TrodAll enc Try.prog W 0 (fun _ => true) true Try.f10.params.toList args.toList ds p := hA0
  rw [Try.params10] at hA hval
  obtain ⟨v0, vs0, d0, ds0, p0, q0, hargs, rfl, rfl, h0, r0⟩ := trodAll_cons hA
  obtain ⟨v1, vs1, d1, ds1, p1, q1, rfl, rfl, rfl, h1, r1⟩ := trodAll_cons r0
  obtain ⟨v2, vs2, d2, ds2, p2, q2, rfl, rfl, rfl, h2, r2⟩ := trodAll_cons r1
  obtain ⟨rfl, rfl, rfl⟩ := trodAll_nil r2
  obtain rfl : args = #[v0, v1, v2] := by cases args; simp_all
  obtain ⟨a0, b0, A0, n0, c0, g0, rfl, w0, x0, rr0, t0, l0, m0⟩ := open_plane Try.underlying24 (by kernel_rfl) ⟨rfl, rfl⟩ ⟨rfl, rfl⟩ ⟨rfl, rfl⟩ Try.underlying3 Try.underlying22 Try.underlying5 (by kernel_rfl) (by kernel_rfl) (by kernel_rfl) (hval 0 24 v0 rfl rfl) h0
  obtain ⟨a1, b1, c1, rfl, w1, x1, y1⟩ := open_arr3 Try.underlying32 Try.underlying3 (by kernel_rfl) (by kernel_rfl) (hval 1 32 v1 rfl rfl) h1
  obtain ⟨a2, b2, rfl, w2, x2⟩ := open_vec Try.underlying48 (by kernel_rfl) ⟨rfl, rfl⟩ ⟨rfl, rfl⟩ Try.underlying3 (by kernel_rfl) (hval 2 48 v2 rfl rfl) h2
  exact walk W a0 b0 A0 n0 c0 g0 w0 x0 rr0 t0 l0 m0 a1 b1 c1 w1 x1 y1 a2 b2 w2 x2
theorem over : Rows.motionFoundRow.holds Try.pinned (OpenSpec.ofChange Rows.motionFoundSpec) :=
  OpenClaim.holds_of_wide 10 Try.f10 rfl rfl rfl rfl rfl rfl rfl ⟨rfl, rfl, rfl, rfl, rfl⟩ rfl rfl rfl rfl rfl (by kernel_rfl) Try.func10 (by kernel_rfl)
    (of_decide_eq_true (by kernel_rfl)) (by unfold Func.isWrapper; first | (rw [if_pos (by decide +kernel)]; kernel_rfl) | (rw [if_neg (by decide +kernel)]; exact ⟨rfl, rfl⟩))
    (fun os started H enc _ => lifted os started H enc)
end MotionFound
theorem motionFound_holds : Rows.MotionFoundSaid := MotionFound.over

end Go.Proofs.Ytcojphdohpgjnaa
