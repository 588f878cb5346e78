/- Walks of package plane: Lay. -/
import Derived.Test.YtcojphdohpgjnaaPw3
namespace Go.Kin
/-- The plane's samples once the first j rows of a block of n columns are laid at (x, y). -/
def layJ (W : Nat) (g : Nat → Int) (x y : Int) (n : Nat) (bb : Nat → Int) (j : Nat) (k : Nat) : Int :=
  if x ≤ ((k % W : Nat) : Int) ∧ ((k % W : Nat) : Int) < x + n ∧ y ≤ ((k / W : Nat) : Int) ∧ ((k / W : Nat) : Int) < y + j then bb ((((k / W : Nat) : Int) - y) * n + (((k % W : Nat) : Int) - x)).toNat else g k
/-- The plane with a block laid. -/
def layP (W : Nat) (g : Nat → Int) (x y : Int) (n : Nat) (bb : Nat → Int) : Nat → Int := layJ W g x y n bb n
theorem layJ_zero (W : Nat) (g : Nat → Int) (x y : Int) (n : Nat) (bb : Nat → Int) : layJ W g x y n bb 0 = g := by
  funext k
  unfold layJ
  rw [if_neg (by omega)]
theorem layJ_byt {W : Nat} {g : Nat → Int} {x y : Int} {n : Nat} {bb : Nat → Int} {j : Nat} (hg : Byt g) (hb : Byt bb) : Byt (layJ W g x y n bb j) := fun k => by
  unfold layJ
  split
  · exact hb _
  · exact hg _
/-- A row that lies outside changes nothing. -/
theorem layJ_skip {W H : Nat} {g : Nat → Int} {x y : Int} {n : Nat} {bb : Nat → Int} {j k : Nat} (hk : k < W * H) (h : y + j < 0 ∨ (H : Int) ≤ y + j) : layJ W g x y n bb (j + 1) k = layJ W g x y n bb j k := by
  have hH : k / W < H := Nat.div_lt_of_lt_mul hk
  unfold layJ
  generalize k / W = q at *
  generalize k % W = r at *
  by_cases hh : x ≤ (r : Int) ∧ (r : Int) < x + n ∧ y ≤ (q : Int) ∧ (q : Int) < y + j
  · rw [if_pos hh, if_pos (by omega)]
  · rw [if_neg hh, if_neg (by omega)]
/-- What lies outside changes nothing. -/
theorem layP_out {W H : Nat} {g : Nat → Int} {x y : Int} {n : Nat} {bb : Nat → Int} {k : Nat} (hW : 1 ≤ W) (hk : k < W * H) (h : x ≤ -n ∨ (W : Int) ≤ x ∨ y ≤ -n ∨ (H : Int) ≤ y) : layP W g x y n bb k = g k := by
  have hH : k / W < H := Nat.div_lt_of_lt_mul hk
  have hm : k % W < W := Nat.mod_lt _ (by omega)
  unfold layP layJ
  generalize k / W = q at *
  generalize k % W = r at *
  rw [if_neg (by omega)]
end Go.Kin
namespace Go.Proofs.Ytcojphdohpgjnaa
open Go.RowKit Go.Kin
set_option linter.unusedVariables false

set_option maxHeartbeats 1000000 in
theorem lay_no1 (W H : Int) (A B : Option Addr) (N c m d : Nat) (x y n : Int) (w : World) (h : n < 1 ∨ (¬ n < 1 ∧ 64 < n) ∨ (1 ≤ n ∧ n ≤ 64 ∧ ((m : Int) == n * n) = false ∧ ((m : Int) != n * n) = true)) :
    Calls Try.prog 40 #[.agg #[.int .i64 W, .int .i64 H, .slice A N c], .int .i64 x, .int .i64 y, .int .i64 n, .slice B m d] w (NoPlane 1 w) := by
  have K := Kn.start w
  rcases h with h | ⟨h, h1⟩ | ⟨h, h1, h2, h3⟩
  rotate_right
  have m1 : 0 ≤ n * n := Int.mul_nonneg (by omega) (by omega)
  have m2 : n * n ≤ 4096 := by
    have := Int.mul_le_mul h1 h1 (by omega) (by omega)
    omega
  all_goals go_enter Try.func40, Try.ntmps40
  all_goals go_wp2
  all_goals exact bodyPost_ret (v := .tuple #[.agg #[.int .i64 0, .int .i64 0, .slice none 0 0], .int .i64 1]) (by simp [results, Try.results40, go_sem]) rfl ⟨rfl, (((Below.refl _ _).alloc (Nat.le_refl _) _).alloc (by simp) _)⟩

set_option maxHeartbeats 1000000 in
theorem lay_no2 (W H : Int) (A B : Option Addr) (N c m d : Nat) (x y : Int) (n : Nat) (w : World) (h1 : 1 ≤ n) (h2 : n ≤ 64) (hm : m = n * n) (hr : rightB W H N = false) :
    Calls Try.prog 40 #[.agg #[.int .i64 W, .int .i64 H, .slice A N c], .int .i64 x, .int .i64 y, .int .i64 n, .slice B m d] w (NoPlane 61 w) := by
  have K := Kn.start w
  subst hm
  have hnn : n * n ≤ 4096 := Nat.mul_le_mul h2 h2
  have m1 : (0 : Int) ≤ (n : Int) * n := by have := Int.natCast_mul n n; omega
  have m2 : (n : Int) * n ≤ 4096 := by have := Int.natCast_mul n n; omega
  go_enter Try.func40, Try.ntmps40
  go_wp2_with fail
  refine (right_any _ _ _ _ _ _).mono ?_
  rintro e w1 ⟨rfl, hb1⟩
  replace K := ((K.new w.heap.size _ _ rfl).new (w.heap.size + 1) _ _ (by simp)).below hb1
  clear hb1
  replace kc0 := Box.cells K.1
  replace kl0 := Box.lt K.1
  replace kf0 := Box.frees K.1
  replace kc1 := Box.cells K.2.1
  replace kl1 := Box.lt K.2.1
  replace L : Below _ _ _ := K.2.2.1
  go_wp2
  exact bodyPost_ret (v := .tuple #[.agg #[.int .i64 0, .int .i64 0, .slice none 0 0], .int .i64 61]) (by simp [results, Try.results40, go_sem, kc0]) rfl ⟨rfl, ((L.setCell (by simp) _).setCell (by simp) _).setCell (by simp) _⟩

set_option maxHeartbeats 2000000 in
theorem lay_out (W H : Nat) (A B : Option Addr) (N c m d : Nat) (g bb : Nat → Int) (x y : Int) (n : Nat) (w : World) (h1 : 1 ≤ n) (h2 : n ≤ 64) (hm : m = n * n) (hr : rightB W H N = true) (ix : I64 x) (iy : I64 y)
    (hS : Rd w A N (by8 g)) (hB : Rd w B m (by8 bb)) (hd : n * n ≤ d) (hd2 : d ≤ 9223372036854775807) (ho : x ≤ -n ∨ (W : Int) ≤ x ∨ y ≤ -n ∨ (H : Int) ≤ y) :
    Calls Try.prog 40 #[.agg #[.int .i64 W, .int .i64 H, .slice A N c], .int .i64 x, .int .i64 y, .int .i64 n, .slice B m d] w (MadePlane W H N (layP W g x y n bb) w) := by
  obtain ⟨r1, r2, r3, r4, r5⟩ := rightB_iff.1 hr
  obtain ⟨ix1, ix2⟩ := ix
  obtain ⟨iy1, iy2⟩ := iy
  subst hm
  have hN := rightB_le hr
  have hnn : n * n ≤ 4096 := Nat.mul_le_mul h2 h2
  have hn1 : 1 ≤ n * n := Nat.mul_le_mul h1 h1
  have m1 : (0 : Int) ≤ (n : Int) * n := by have := Int.natCast_mul n n; omega
  have m2 : (n : Int) * n ≤ 4096 := by have := Int.natCast_mul n n; omega
  obtain ⟨b, off, rfl, hb, _⟩ := hB.some_ (by omega)
  have HR5 := Lib.hid r5
  have K := ((Kn.start w).add (x := .rd (some ⟨b, off, none⟩) (n * n) (by8 bb)) hB).add (x := .rd A N (by8 g)) hS
  clear hS hB r5
  have HO := Lib.hid ho
  clear ho
  go_enter Try.func40, Try.ntmps40
  go_wp2_with fail
  refine (right_any _ _ _ _ _ _).mono ?_
  rintro e w1 ⟨rfl, hb1⟩
  replace K := ((K.new w.heap.size _ _ rfl).new (w.heap.size + 1) _ _ (by simp)).below hb1
  clear hb1
  replace kc0 := Box.cells K.1
  replace kl0 := Box.lt K.1
  replace kc1 := Box.cells K.2.1
  replace kl1 := Box.lt K.2.1
  replace RA : Rd _ _ _ _ := K.2.2.1
  replace RB : Rd _ _ _ _ := K.2.2.2.1
  replace L : Below _ _ _ := K.2.2.2.2.1
  have L1 := L
  go_wp2_with fail
  refine (own_any _ _ _ _ _ _ _ RA (by omega)).mono ?_
  rintro e w2 ⟨br, rfl, hbr, hrow, hb2⟩
  replace K := (K.below hb2).add (x := .row br N (by8 g)) hrow
  replace kc1 := Box.cells K.2.1
  replace kl1 := Box.lt K.2.1
  replace kf1 := Box.frees K.2.1
  replace kc2 := Box.cells K.2.2.1
  replace kl2 := Box.lt K.2.2.1
  replace RA : Rd _ _ _ _ := K.2.2.2.1
  replace RB : Rd _ _ _ _ := K.2.2.2.2.1
  replace L : Below _ _ _ := K.2.2.2.2.2.1
  have n12 : ¬ (w.heap.size + 1 = w2.heap.size) := by omega
  have lb1 : b < w1.heap.size := by have := L1.size; omega
  have nb : br ≠ b := by omega
  have hP : ∀ k, k < N → layP W g x y n bb k = g k := fun k hk => layP_out (H := H) (by omega) (by have := HR5.out; have : N = W * H := (by exact_mod_cast this); omega) HO.out
  have HP := Lib.hid hP
  clear hP
  have hT : (decide (x ≤ -(n : Int)) || decide ((W : Int) ≤ x) || decide (y ≤ -(n : Int)) || decide ((H : Int) ≤ y)) = true := by
    have := HO.out
    simp only [Bool.or_eq_true, decide_eq_true_eq]
    omega
  clear HO
  go_wp2
  all_goals refine bodyPost_ret (v := .tuple #[.agg #[.int .i64 W, .int .i64 H, .slice (some ⟨br, 0, none⟩) N N], .int .i64 0]) (by simp [results, Try.results40, go_sem, kc1, kl1]) rfl ?_
  all_goals refine ⟨br, rfl, by omega, ?_, (((L.setCell (p := ⟨w.heap.size + 1, 0, none⟩) (by simp) _).setCell (p := ⟨w.heap.size + 1, 1, none⟩) (by simp) _).setCell (p := ⟨w.heap.size + 1, 2, none⟩) (by simp) _).alloc (by simp [World.setCell]; omega) _⟩
  all_goals exact (((Row.congr (g := by8 (layP W g x y n bb)) K.1 (fun k hk => by simp only [by8]; rw [HP.out k hk])).far (p := ⟨w.heap.size + 1, 0, none⟩) (by simp; omega) _).far (p := ⟨w.heap.size + 1, 1, none⟩) (by simp; omega) _).far (p := ⟨w.heap.size + 1, 2, none⟩) (by simp; omega) _ |>.alloc _
end Go.Proofs.Ytcojphdohpgjnaa
