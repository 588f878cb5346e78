/- MotionWhole: a block at a vector of even numbers is the plane's own, as many places on; a search that reaches nowhere has the block where it is: proved for every plane, place, size and vector, no condition. -/
import Derived.Test.YtcojphdohpgjnaaAl10
import Derived.Test.YtcojphdohpgjnaaFt
import Derived.Test.YtcojphdohpgjnaaRg5
import Derived.Test.YtcojphdohpgjnaaClose2
namespace Go.Proofs.Ytcojphdohpgjnaa
open Go.ChangeShapes Go.WideShapes Go.ChangeAt Go.RowKit Go.Joins Go.Kin
set_option linter.unusedVariables false

theorem ahead_near {v i side : Int} (hi : 0 ≤ i) (hs : 1 ≤ side) : aheadI v i side = min (max (v + i) 0) (side - 1) := by
  unfold aheadI
  split <;> omega
theorem block_even {W H x y vx vy : Int} {g : Nat → Int} {n : Nat} (hW : 1 ≤ W) (hH : 1 ≤ H) (k : Nat) : bmP W H g x y n (2 * vx) (2 * vy) k = blockP W H g (x + vx) (y + vy) n k := by
  unfold bmP blockP sampP
  generalize k % n = i
  generalize k / n = j
  rw [if_pos (by omega), if_pos (by omega), ahead_near (by omega) hW, ahead_near (by omega) hH]
  unfold atP
  rw [show (2 * (x + (i : Int)) + 2 * vx) / 2 = x + vx + i by omega, show (2 * (y + (j : Int)) + 2 * vy) / 2 = y + vy + j by omega]
theorem block_here {W H x y : Int} {g : Nat → Int} {n : Nat} (hW : 1 ≤ W) (hH : 1 ≤ H) (k : Nat) : blockP W H g x y n k = bmP W H g x y n 0 0 k := by
  have := block_even (vx := 0) (vy := 0) (x := x) (y := y) (g := g) (n := n) hW hH k
  rw [Int.mul_zero, Int.add_zero, Int.add_zero] at this
  exact this.symm
theorem srch_none (D : Int → Int → Int) : srch D 0 ((2 * 0 + 1) * (2 * 0 + 1)) = ⟨0, 0, D 0 0⟩ := srch_skip (D := D) (r := 0) (k := 0) (by omega) rfl rfl

namespace MotionWhole
set_option maxRecDepth 100000 in
set_option maxHeartbeats 4000000 in
theorem walk_no (w : World) (p : PlV) (x y n vx vy : Int) (h : fitB p.n = false ∨ (fitB p.n = true ∧ rightB p.a p.b p.n = false) ∨ (fitB p.n = true ∧ rightB p.a p.b p.n = true ∧ ¬ (1 ≤ n ∧ n ≤ 16 ∧ -524288 ≤ x ∧ x ≤ 524288 ∧ -524288 ≤ y ∧ y ≤ 524288 ∧ -524288 ≤ vx ∧ vx ≤ 524288 ∧ -524288 ≤ vy ∧ vy ≤ 524288))) :
    Calls Try.prog 12 #[.agg #[.int .i64 p.a, .int .i64 p.b, .slice p.A p.n p.c], .agg #[.int .i64 x, .int .i64 y, .int .i64 n], .agg #[.int .i64 vx, .int .i64 vy]] w fun e w' => e = .returned (.bool true) ∧ Below w.heap.size w w' := by
  have K := Kn.start w
  rcases h with h1 | ⟨h1, h2⟩ | ⟨h1, h2, h3⟩
  · go_enter Try.func12, Try.ntmps12
    go_wp2_with fail
    refine (fits_any _ _ _ _ _ _).mono ?_
    rintro e w1 ⟨rfl, hb1⟩
    replace K := (((K.new w.heap.size _ _ rfl).new (w.heap.size + 1) _ _ (by simp)).new (w.heap.size + 1 + 1) _ _ (by simp)).below hb1
    clear hb1
    replace kc0 := Box.cells K.1
    replace kl0 := Box.lt K.1
    replace kc1 := Box.cells K.2.1
    replace kl1 := Box.lt K.2.1
    replace kc2 := Box.cells K.2.2.1
    replace kl2 := Box.lt K.2.2.1
    replace L : Below _ _ _ := K.2.2.2.1
    go_wp2_with fail
    refine (alive10 _).mono ?_
    rintro e w2 ⟨rfl, hb2⟩
    replace K := K.below hb2
    clear hb2
    replace kc0 := Box.cells K.1
    replace kl0 := Box.lt K.1
    replace kc1 := Box.cells K.2.1
    replace kl1 := Box.lt K.2.1
    replace kc2 := Box.cells K.2.2.1
    replace kl2 := Box.lt K.2.2.1
    replace L : Below _ _ _ := K.2.2.2.1
    go_wp2
    go_ret
    exact ⟨rfl, L⟩
  · go_enter Try.func12, Try.ntmps12
    go_wp2_with fail
    refine (fits_any _ _ _ _ _ _).mono ?_
    rintro e w1 ⟨rfl, hb1⟩
    replace K := (((K.new w.heap.size _ _ rfl).new (w.heap.size + 1) _ _ (by simp)).new (w.heap.size + 1 + 1) _ _ (by simp)).below hb1
    clear hb1
    replace kc0 := Box.cells K.1
    replace kl0 := Box.lt K.1
    replace kc1 := Box.cells K.2.1
    replace kl1 := Box.lt K.2.1
    replace kc2 := Box.cells K.2.2.1
    replace kl2 := Box.lt K.2.2.1
    replace L : Below _ _ _ := K.2.2.2.1
    go_wp2_with fail
    refine (right_any _ _ _ _ _ _).mono ?_
    rintro e w2 ⟨rfl, hb2⟩
    replace K := K.below hb2
    clear hb2
    replace kc0 := Box.cells K.1
    replace kl0 := Box.lt K.1
    replace kc1 := Box.cells K.2.1
    replace kl1 := Box.lt K.2.1
    replace kc2 := Box.cells K.2.2.1
    replace kl2 := Box.lt K.2.2.1
    replace L : Below _ _ _ := K.2.2.2.1
    go_wp2_with fail
    refine (alive10 _).mono ?_
    rintro e w3 ⟨rfl, hb3⟩
    replace K := K.below hb3
    clear hb3
    replace kc0 := Box.cells K.1
    replace kl0 := Box.lt K.1
    replace kc1 := Box.cells K.2.1
    replace kl1 := Box.lt K.2.1
    replace kc2 := Box.cells K.2.2.1
    replace kl2 := Box.lt K.2.2.1
    replace L : Below _ _ _ := K.2.2.2.1
    go_wp2
    go_ret
    exact ⟨rfl, L⟩
  · have HH := Lib.hid h3
    clear h3
    go_enter Try.func12, Try.ntmps12
    go_wp2_with fail
    refine (fits_any _ _ _ _ _ _).mono ?_
    rintro e w1 ⟨rfl, hb1⟩
    replace K := (((K.new w.heap.size _ _ rfl).new (w.heap.size + 1) _ _ (by simp)).new (w.heap.size + 1 + 1) _ _ (by simp)).below hb1
    clear hb1
    replace kc0 := Box.cells K.1
    replace kl0 := Box.lt K.1
    replace kc1 := Box.cells K.2.1
    replace kl1 := Box.lt K.2.1
    replace kc2 := Box.cells K.2.2.1
    replace kl2 := Box.lt K.2.2.1
    replace L : Below _ _ _ := K.2.2.2.1
    go_wp2_with fail
    refine (right_any _ _ _ _ _ _).mono ?_
    rintro e w2 ⟨rfl, hb2⟩
    replace K := K.below hb2
    clear hb2
    replace kc0 := Box.cells K.1
    replace kl0 := Box.lt K.1
    replace kc1 := Box.cells K.2.1
    replace kl1 := Box.lt K.2.1
    replace kc2 := Box.cells K.2.2.1
    replace kl2 := Box.lt K.2.2.1
    replace L : Below _ _ _ := K.2.2.2.1
    have HK := Lib.hid K
    clear K
    have c4 : (n < 1) ∨ (¬ n < 1 ∧ 16 < n) ∨ (¬ n < 1 ∧ ¬ 16 < n ∧ x < -524288) ∨ (¬ n < 1 ∧ ¬ 16 < n ∧ ¬ x < -524288 ∧ 524288 < x) ∨ (¬ n < 1 ∧ ¬ 16 < n ∧ ¬ x < -524288 ∧ ¬ 524288 < x ∧ y < -524288) ∨ (¬ n < 1 ∧ ¬ 16 < n ∧ ¬ x < -524288 ∧ ¬ 524288 < x ∧ ¬ y < -524288 ∧ 524288 < y) ∨ (¬ n < 1 ∧ ¬ 16 < n ∧ ¬ x < -524288 ∧ ¬ 524288 < x ∧ ¬ y < -524288 ∧ ¬ 524288 < y ∧ vx < -524288) ∨ (¬ n < 1 ∧ ¬ 16 < n ∧ ¬ x < -524288 ∧ ¬ 524288 < x ∧ ¬ y < -524288 ∧ ¬ 524288 < y ∧ ¬ vx < -524288 ∧ 524288 < vx) ∨ (¬ n < 1 ∧ ¬ 16 < n ∧ ¬ x < -524288 ∧ ¬ 524288 < x ∧ ¬ y < -524288 ∧ ¬ 524288 < y ∧ ¬ vx < -524288 ∧ ¬ 524288 < vx ∧ vy < -524288) ∨ (¬ n < 1 ∧ ¬ 16 < n ∧ ¬ x < -524288 ∧ ¬ 524288 < x ∧ ¬ y < -524288 ∧ ¬ 524288 < y ∧ ¬ vx < -524288 ∧ ¬ 524288 < vx ∧ ¬ vy < -524288 ∧ 524288 < vy) := by have := HH.out; omega
    clear HH
    rcases c4 with c0 | ⟨c0, c1⟩ | ⟨c0, c1, c2⟩ | ⟨c0, c1, c2, c3⟩ | ⟨c0, c1, c2, c3, c4⟩ | ⟨c0, c1, c2, c3, c4, c5⟩ | ⟨c0, c1, c2, c3, c4, c5, c6⟩ | ⟨c0, c1, c2, c3, c4, c5, c6, c7⟩ | ⟨c0, c1, c2, c3, c4, c5, c6, c7, c8⟩ | ⟨c0, c1, c2, c3, c4, c5, c6, c7, c8, c9⟩
    all_goals go_wp2_with fail
    all_goals refine (alive10 _).mono ?_
    all_goals rintro e w3 ⟨rfl, hb3⟩
    all_goals have K := HK.out.below hb3
    all_goals go_wp2
    all_goals go_ret
    all_goals exact ⟨rfl, K.2.2.2.1⟩
set_option maxRecDepth 100000 in
set_option maxHeartbeats 8000000 in
theorem walk_yes (w : World) (W H : Int) (A : Option Addr) (N c : Nat) (g : Nat → Int) (x y : Int) (n : Nat) (vx vy : Int) (hR : Rd w A N (by8 g)) (hg : Byt g) (h1 : fitB N = true) (hr : rightB W H N = true) (n1 : 1 ≤ n) (n16 : n ≤ 16) (s1 : -524288 ≤ x ∧ x ≤ 524288) (s2 : -524288 ≤ y ∧ y ≤ 524288) (s3 : -524288 ≤ vx ∧ vx ≤ 524288) (s4 : -524288 ≤ vy ∧ vy ≤ 524288) :
    Calls Try.prog 12 #[.agg #[.int .i64 W, .int .i64 H, .slice A N c], .agg #[.int .i64 x, .int .i64 y, .int .i64 n], .agg #[.int .i64 vx, .int .i64 vy]] w fun e w' => e = .returned (.bool true) ∧ Below w.heap.size w w' := by
  obtain ⟨r1, r2, r3, r4, r5⟩ := rightB_iff.1 hr
  clear r5
  have q1 : SmB x := ⟨by omega, by omega⟩
  have q2 : SmB y := ⟨by omega, by omega⟩
  have HB0 : Hid (∀ i, i < n * n → by8 (blockP W H g x y n) i = by8 (bmP W H g x y n 0 0) i) := Lib.hid (fun i _ => by simp only [by8]; rw [block_here r1 r3])
  have HBE : Hid (∀ i, i < n * n → by8 (blockP W H g (x + vx) (y + vy) n) i = by8 (bmP W H g x y n (2 * vx) (2 * vy)) i) := Lib.hid (fun i _ => by simp only [by8]; rw [block_even r1 r3])
  have hnn : n * n ≤ 16 * 16 := Nat.mul_le_mul n16 n16
  generalize hm : n * n = m at *
  have HM := Lib.hid hm
  clear hm
  have HSR := Lib.hid (fun w1 B1 d1 (hA : Rd w1 A N (by8 g)) (hB : Rd w1 B1 m (by8 (bmP W H g x y n 0 0))) => msearch_yes W H A N c g x y n B1 m d1 (bmP W H g x y n 0 0) 0 w1 hr hA hg hB (bmP_byt hg) n1 (by omega) q1 q2 HM.out.symm (by omega) (fun a b => sumAbs (bmP W H g x y n a b) (bmP W H g x y n 0 0) m) (fun _ _ => rfl))
  rw [srch_none] at HSR
  dsimp only at HSR
  generalize hz : sumAbs (bmP W H g x y n 0 0) (bmP W H g x y n 0 0) m = z at *
  have HZ := Lib.hid hz
  clear hz
  have K := (Kn.start w).add (x := .rd A N (by8 g)) hR
  clear hR
  have t1 : ¬ (n : Int) < 1 := by omega
  have t2 : ¬ 16 < (n : Int) := by omega
  have t3 : ¬ x < -524288 := by omega
  have t4 : ¬ 524288 < x := by omega
  have t5 : ¬ y < -524288 := by omega
  have t6 : ¬ 524288 < y := by omega
  have t7 : ¬ vx < -524288 := by omega
  have t8 : ¬ 524288 < vx := by omega
  have t9 : ¬ vy < -524288 := by omega
  have t10 : ¬ 524288 < vy := by omega
  go_enter Try.func12, Try.ntmps12
  go_wp2_with fail
  refine (fits_any _ _ _ _ _ _).mono ?_
  rintro e w1 ⟨rfl, hb1⟩
  replace K := (((K.new w.heap.size _ _ rfl).new (w.heap.size + 1) _ _ (by simp)).new (w.heap.size + 1 + 1) _ _ (by simp)).below hb1
  clear hb1
  replace kc0 := Box.cells K.1
  replace kl0 := Box.lt K.1
  replace kc1 := Box.cells K.2.1
  replace kl1 := Box.lt K.2.1
  replace kc2 := Box.cells K.2.2.1
  replace kl2 := Box.lt K.2.2.1
  replace L : Below _ _ _ := K.2.2.2.2.1
  go_wp2_with fail
  refine (right_any _ _ _ _ _ _).mono ?_
  rintro e w2 ⟨rfl, hb2⟩
  replace K := K.below hb2
  clear hb2
  replace kc0 := Box.cells K.1
  replace kl0 := Box.lt K.1
  replace kc1 := Box.cells K.2.1
  replace kl1 := Box.lt K.2.1
  replace kc2 := Box.cells K.2.2.1
  replace kl2 := Box.lt K.2.2.1
  replace L : Below _ _ _ := K.2.2.2.2.1
  go_upto_region 5 with (fail)
  clear t1 t2 t3 t4 t5 t6 t7 t8 t9 t10
  replace K := K.new w2.heap.size #[.int .i64 (2 * vx), .int .i64 (2 * vy)] 48 rfl
  generalize w2.alloc (.cells #[.int .i64 (2 * vx), .int .i64 (2 * vy)] 48) = w3 at K ⊢
  clear kc0 kl0 kc1 kl1 kc2 kl2 L
  replace kc0 := Box.cells K.1
  replace kl0 := Box.lt K.1
  replace kc1 := Box.cells K.2.1
  replace kl1 := Box.lt K.2.1
  replace kc2 := Box.cells K.2.2.1
  replace kl2 := Box.lt K.2.2.1
  replace kc3 := Box.cells K.2.2.2.1
  replace kl3 := Box.lt K.2.2.2.1
  replace L : Below _ _ _ := K.2.2.2.2.2.1
  go_wp2_with fail
  refine (block_yes W H A N c g x y n _ hr K.2.2.2.2.1 n1 (by omega) ⟨by omega, by omega⟩ ⟨by omega, by omega⟩).mono ?_
  rintro e w4 ⟨b4, rfl, _, R4, hb4⟩
  rw [HM.out] at R4 ⊢
  replace K := (K.below hb4).add (x := .rd (some ⟨b4, 0, none⟩) m (by8 (bmP W H g x y n 0 0))) ((Row.rd R4).congr HB0.out)
  clear hb4 R4 kc0 kl0 kc1 kl1 kc2 kl2 kc3 kl3
  replace kc1 := Box.cells K.2.1
  replace kl1 := Box.lt K.2.1
  replace kc2 := Box.cells K.2.2.1
  replace kl2 := Box.lt K.2.2.1
  replace kc3 := Box.cells K.2.2.2.1
  replace kl3 := Box.lt K.2.2.2.1
  replace kc4 := Box.cells K.2.2.2.2.1
  replace kl4 := Box.lt K.2.2.2.2.1
  replace L : Below _ _ _ := K.2.2.2.2.2.2.1
  go_wp2_with fail
  refine (HSR.out _ _ m K.2.2.2.2.2.1 K.1).mono ?_
  rintro e w5 ⟨A5, c5, rfl, R5, hb5⟩
  replace K := (K.below hb5).add (x := .rd A5 m (by8 (bmP W H g x y n 0 0))) R5
  clear hb5 R5 kc1 kl1 kc2 kl2 kc3 kl3 kc4 kl4 L
  go_upto_region 7 with (fail)
  replace K := K.new w5.heap.size #[.int .i64 0, .int .i64 0] 48 rfl
  generalize w5.alloc (.cells #[.int .i64 0, .int .i64 0] 48) = w6 at K ⊢
  replace K := Kn.drew K
  have z1 : IntKind.i64.wrap (x + vx) = x + vx := IntWalk.i64_in _ (by omega)
  have z2 : IntKind.i64.wrap (y + vy) = y + vy := IntWalk.i64_in _ (by omega)
  refine wp_region_allV (fun w' => Kn w' _) [0, 10, 25, 45] [(0,2),(1,1),(2,1),(3,1),(4,1),(5,1),(6,1),(7,1),(8,1),(9,1),(12,1),(13,1),(14,1),(15,1),(16,1),(17,1),(18,1),(19,1),(20,1),(21,1),(22,1),(23,1),(24,1),(10,2),(11,1),(25,2),(26,1),(27,1),(28,1),(29,1),(30,1),(31,1),(32,1),(33,1),(34,1),(35,1),(36,1),(37,1),(38,1),(39,1),(40,1),(41,1),(42,1),(43,1),(44,1),(45,2),(46,1),(47,1),(48,0)] (by kernel_rfl) (by kernel_rfl) (fun _ _ d _ _ h => by cases d <;> exact h) (K) ?_
  intro ops HOPS
  generalize World.drew _ = wd at K ⊢
  refine oV_doG HOPS rfl rfl (fun KK hKK => ?_)
  go_simp
  refine (alive10 _).mono ?_
  rintro e w7 ⟨rfl, hb7⟩
  replace K := K.below hb7
  refine hKK (fun w' => Kn w' _) _ _ ?hsub K ?_
  case hsub => exact fun _ h => h
  clear hKK KK hb7
  repeat (first | (refine oV_freeG HOPS rfl rfl (fun w' hS => by have s1 := Box.cells hS.2.2.2.1; have s2 := Box.cells hS.2.2.2.2.1; have s3 := Box.cells hS.2.2.2.2.2.1; have s4 := Box.cells hS.2.2.2.2.2.2.1; clear hS; go_simp; with_reducible rfl) ?_; go_simp) | (refine oV_skipG HOPS rfl rfl ?_; go_simp))
  refine oV_doG HOPS rfl rfl (fun KK hKK => ?_)
  go_simp
  refine (mblock_yes W H A N c g x y n (2 * vx) (2 * vy) _ hr K.2.2.2.2.2.2.2.1 hg n1 (by omega) q1 q2 ⟨by omega, by omega⟩ ⟨by omega, by omega⟩).mono ?_
  rintro e w8 ⟨A8, c8, rfl, R8, hb8⟩
  replace K := K.below hb8
  replace K := K.add (x := .rd A8 (n * n) (by8 (bmP W H g x y n (2 * vx) (2 * vy)))) R8
  refine hKK (fun w' => Kn w' _) _ _ ?hsub K ?_
  case hsub => exact fun _ h => h.2
  clear hKK KK hb8
  clear R8
  repeat (first | (refine oV_freeG HOPS rfl rfl (fun w' hS => by have s1 := conv_any (c := c8) hS.1; clear hS; go_simp; with_reducible rfl) ?_; go_simp) | (refine oV_skipG HOPS rfl rfl ?_; go_simp))
  refine oV_doG HOPS rfl rfl (fun KK hKK => ?_)
  go_simp
  refine (block_yes W H A N c g (x + vx) (y + vy) n _ hr K.2.2.2.2.2.2.2.2.1 n1 (by omega) ⟨by omega, by omega⟩ ⟨by omega, by omega⟩).mono ?_
  rintro e w9 ⟨b9, rfl, _, R9, hb9⟩
  replace K := K.below hb9
  replace K := K.add (x := .rd (some ⟨b9, 0, none⟩) (n * n) (by8 (bmP W H g x y n (2 * vx) (2 * vy)))) ((Row.rd R9).congr (HM.out ▸ HBE.out))
  refine hKK (fun w' => Kn w' _) _ _ ?hsub K ?_
  case hsub => exact fun _ h => h.2
  clear hKK KK hb9
  clear R9
  repeat (first | (refine oV_freeG HOPS rfl rfl (fun w' hS => by have s1 := conv_any (c := n * n) hS.1; have s2 := Box.cells hS.2.2.1; have s3 := conv_any (c := c5) hS.2.2.2.1; have s4 := conv_any (c := m) hS.2.2.2.2.1; clear hS; go_simp; with_reducible rfl) ?_; go_simp) | (refine oV_skipG HOPS rfl rfl ?_; go_simp))
  refine oV_doG HOPS rfl rfl (fun KK hKK => ?_)
  go_simp
  refine (far9_any _ A5 m m _ c5 (bmP W H g x y n 0 0) (bmP W H g x y n 0 0) _ K.2.2.2.2.1 K.2.2.2.1 (bmP_byt hg) (bmP_byt hg) (Nat.le_refl _) (by omega)).mono ?_
  rintro e w10 ⟨rfl, hb10⟩
  replace K := K.below hb10
  refine hKK (fun w' => Kn w' _) _ _ ?hsub K ?_
  case hsub => exact fun _ h => h
  clear hKK KK hb10
  rw [HZ.out]
  repeat (first | (refine oV_freeG HOPS rfl rfl (fun w' hS => by skip; clear hS; go_simp; with_reducible rfl) ?_; go_simp) | (refine oV_skipG HOPS rfl rfl ?_; go_simp))
  repeat (refine oV_still HOPS rfl (fun KK hKK => ?_); go_simp; refine hKK _ ?_; clear hKK KK)
  refine oX_nil ?_
  have L : Below _ _ _ := K.2.2.2.2.2.2.2.2.2.2.1
  clear K z1 z2
  go_wp2
  go_ret
  exact ⟨rfl, L⟩
theorem walk (w : World) (a b : Int) (A : Option Addr) (N c : Nat) (g : Nat → Int) (ia : I64 a) (ib : I64 b) (hR : Rd w A N (by8 g)) (hg : Byt g) (hnc : N ≤ c) (hc : c ≤ 9223372036854775807) (x y n : Int) (ix : I64 x) (iy : I64 y) (iq : I64 n) (vx vy : Int) (ivx : I64 vx) (ivy : I64 vy) :
    Calls Try.prog 12 #[.agg #[.int .i64 a, .int .i64 b, .slice A N c], .agg #[.int .i64 x, .int .i64 y, .int .i64 n], .agg #[.int .i64 vx, .int .i64 vy]] w fun e w' => e = .returned (.bool true) ∧ Below w.heap.size w w' := by
  cases h1 : fitB N with
  | false => exact walk_no w ⟨a, b, A, N, c, g⟩ x y n vx vy (.inl h1)
  | true =>
    cases hr : rightB a b N with
    | false => exact walk_no w ⟨a, b, A, N, c, g⟩ x y n vx vy (.inr (.inl ⟨h1, hr⟩))
    | true =>
      by_cases h : 1 ≤ n ∧ n ≤ 16 ∧ -524288 ≤ x ∧ x ≤ 524288 ∧ -524288 ≤ y ∧ y ≤ 524288 ∧ -524288 ≤ vx ∧ vx ≤ 524288 ∧ -524288 ≤ vy ∧ vy ≤ 524288
      · obtain ⟨q, rfl⟩ := Int.eq_ofNat_of_zero_le (show 0 ≤ n by omega)
        exact walk_yes w a b A N c g x y q vx vy hR hg h1 hr (by omega) (by omega) ⟨by omega, by omega⟩ ⟨by omega, by omega⟩ ⟨by omega, by omega⟩ ⟨by omega, by omega⟩
      · exact walk_no w ⟨a, b, A, N, c, g⟩ x y n vx vy (.inr (.inr ⟨h1, hr, h⟩))
end MotionWhole
namespace MotionWhole
set_option maxRecDepth 100000 in
theorem lifted (os : Os) (started : os.Started) (H : Type) (enc : TypeId × Value → H) :
    ReturnsInHanded {} Try.checked os 12 .any (Rows.motionWholeSpec.pre6 enc Try.prog Try.f12 Rows.motionWholeRow.domain false) (Rows.motionWholeSpec.post enc Try.prog Try.f12 false true false false) := by
  refine returnsInHanded_of_change (C := Try.checked) own started (by kernel_rfl) Try.func12
    (ChangeSpec.witness6 (enc := enc) (C := Try.checked) false ⟨#[], #[.agg #[.int .i64 0, .int .i64 0, .slice none 0 0], .agg #[.int .i64 0, .int .i64 0, .int .i64 0], .agg #[.int .i64 0, .int .i64 0]], []⟩ 8 (by kernel_rfl) (by kernel_rfl) (by kernel_rfl) (by kernel_rfl)) ?_
  intro W base args ds gs before hval0 hW hcnd _
  have hval : ∀ (j : Nat) t v, Try.f12.params[j]? = some t → args[j]? = some v → Value.okWide Try.prog W .any base t v := hval0
  refine law_post (tb := 4) laidOut (by kernel_rfl) rfl Try.underlying4 rfl (fun ds' h => ?_) hW ?_
  · rw [Try.params12] at h
    match ds', h with
    | [d1, d2, d3], _ => exact ⟨rfl, rfl, rfl⟩
  obtain ⟨p, q, hA0, hV, rfl, hfz, hnd⟩ := hW
  have hA : DataW.TrodAll enc Try.prog W 0 (fun _ => true) true Try.f12.params.toList args.toList ds p := hA0
  rw [Try.params12] at hA hval
  obtain ⟨v0, vs0, d0, ds0, p0, q0, hargs, rfl, rfl, h0, r0⟩ := trodAll_cons hA
  obtain ⟨v1, vs1, d1, ds1, p1, q1, rfl, rfl, rfl, h1, r1⟩ := trodAll_cons r0
  obtain ⟨v2, vs2, d2, ds2, p2, q2, rfl, rfl, rfl, h2, r2⟩ := trodAll_cons r1
  obtain ⟨rfl, rfl, rfl⟩ := trodAll_nil r2
  obtain rfl : args = #[v0, v1, v2] := by cases args; simp_all
  obtain ⟨a0, b0, A0, n0, c0, g0, rfl, w0, x0, rr0, t0, l0, m0⟩ := open_plane Try.underlying24 (by kernel_rfl) ⟨rfl, rfl⟩ ⟨rfl, rfl⟩ ⟨rfl, rfl⟩ Try.underlying3 Try.underlying22 Try.underlying5 (by kernel_rfl) (by kernel_rfl) (by kernel_rfl) (hval 0 24 v0 rfl rfl) h0
  obtain ⟨a1, b1, c1, rfl, w1, x1, y1⟩ := open_arr3 Try.underlying32 Try.underlying3 (by kernel_rfl) (by kernel_rfl) (hval 1 32 v1 rfl rfl) h1
  obtain ⟨a2, b2, rfl, w2, x2⟩ := open_vec Try.underlying48 (by kernel_rfl) ⟨rfl, rfl⟩ ⟨rfl, rfl⟩ Try.underlying3 (by kernel_rfl) (hval 2 48 v2 rfl rfl) h2
  exact walk W a0 b0 A0 n0 c0 g0 w0 x0 rr0 t0 l0 m0 a1 b1 c1 w1 x1 y1 a2 b2 w2 x2
theorem over : Rows.motionWholeRow.holds Try.pinned (OpenSpec.ofChange Rows.motionWholeSpec) :=
  OpenClaim.holds_of_wide 12 Try.f12 rfl rfl rfl rfl rfl rfl rfl ⟨rfl, rfl, rfl, rfl, rfl⟩ rfl rfl rfl rfl rfl (by kernel_rfl) Try.func12 (by kernel_rfl)
    (of_decide_eq_true (by kernel_rfl)) (by unfold Func.isWrapper; first | (rw [if_pos (by decide +kernel)]; kernel_rfl) | (rw [if_neg (by decide +kernel)]; exact ⟨rfl, rfl⟩))
    (fun os started H enc _ => lifted os started H enc)
end MotionWhole
theorem motionWhole_holds : Rows.MotionWholeSaid := MotionWhole.over

end Go.Proofs.Ytcojphdohpgjnaa
