/- Plain numbers of planes: how far two are apart, and their halves. -/
import Derived.Test.YtlkogokhcdehfaaPw8
import Derived.Test.YtlkogokhcdehfaaPw9
namespace Go.Kin
/-- The sum of the first n numbers. -/
def sumF (d : Nat → Int) : Nat → Int
  | 0 => 0
  | n + 1 => sumF d n + d n
theorem farS_sum (g h : Nat → Int) : ∀ n, farS g h n = sumF (fun i => dist (g i) (h i)) n
  | 0 => rfl
  | n + 1 => by simp only [farS, sumF, farS_sum g h n]
theorem sumF_add (d : Nat → Int) (a : Nat) : ∀ b, sumF d (a + b) = sumF d a + sumF (fun i => d (a + i)) b
  | 0 => by simp [sumF]
  | b + 1 => by
    rw [← Nat.add_assoc]
    simp only [sumF]
    rw [sumF_add d a b]
    omega
theorem sumF_pair (d : Nat → Int) : ∀ n, sumF d (2 * n) = sumF (fun i => d (2 * i) + d (2 * i + 1)) n
  | 0 => rfl
  | n + 1 => by
    rw [show 2 * (n + 1) = 2 * n + 1 + 1 by omega]
    simp only [sumF]
    rw [sumF_pair d n]
    omega
theorem sumF_plus (d e : Nat → Int) : ∀ n, sumF (fun i => d i + e i) n = sumF d n + sumF e n
  | 0 => rfl
  | n + 1 => by simp only [sumF]; rw [sumF_plus d e n]; omega
theorem sumF_congr {d e : Nat → Int} : ∀ {n}, (∀ i, i < n → d i = e i) → sumF d n = sumF e n
  | 0, _ => rfl
  | n + 1, h => by simp only [sumF]; rw [sumF_congr (fun i hi => h i (by omega)), h n (by omega)]
theorem sumF_le {d e : Nat → Int} : ∀ {n}, (∀ i, i < n → d i ≤ e i) → sumF d n ≤ sumF e n
  | 0, _ => by simp [sumF]
  | n + 1, h => by
    simp only [sumF]
    have := sumF_le (fun i hi => h i (by omega)) (n := n) (d := d) (e := e)
    have := h n (by omega)
    omega
theorem sumF_mul (d : Nat → Int) (c : Int) : ∀ n, sumF (fun i => c * d i) n = c * sumF d n
  | 0 => by simp [sumF]
  | n + 1 => by simp only [sumF]; rw [sumF_mul d c n, Int.mul_add]
theorem sumF_const (c : Int) : ∀ n : Nat, sumF (fun _ => c) n = c * n
  | 0 => by simp [sumF]
  | n + 1 => by simp only [sumF]; rw [sumF_const c n]; rw [Int.natCast_succ, Int.mul_add, Int.mul_one]
/-- Four by four. -/
def four (W W2 : Nat) (d : Nat → Int) (k : Nat) : Int := d (2 * (k / W2) * W + 2 * (k % W2)) + d (2 * (k / W2) * W + 2 * (k % W2) + 1) + d (2 * (k / W2) * W + 2 * (k % W2) + W) + d (2 * (k / W2) * W + 2 * (k % W2) + W + 1)
theorem four_sum (d : Nat → Int) (W2 : Nat) : ∀ H2, sumF (four (2 * W2) W2 d) (W2 * H2) = sumF d (2 * W2 * (2 * H2))
  | 0 => by simp [sumF]
  | H2 + 1 => by
    have e1 : W2 * (H2 + 1) = W2 * H2 + W2 := Nat.mul_succ _ _
    have e2 : 2 * W2 * (2 * (H2 + 1)) = 2 * W2 * (2 * H2) + 2 * W2 + 2 * W2 := by
      rw [show 2 * (H2 + 1) = 2 * H2 + 1 + 1 by omega, Nat.mul_succ, Nat.mul_succ]
    rw [e1, sumF_add, four_sum d W2 H2, e2, sumF_add, sumF_add, sumF_pair, sumF_pair, Int.add_assoc, ← sumF_plus]
    congr 1
    refine sumF_congr fun i hi => ?_
    have f1 : (W2 * H2 + i) / W2 = H2 := by rw [Nat.mul_comm]; exact (pos_mod hi).2
    have f2 : (W2 * H2 + i) % W2 = i := by rw [Nat.mul_comm W2 H2]; exact (pos_mod hi).1
    unfold four
    rw [f1, f2]
    have f3 : 2 * H2 * (2 * W2) = 2 * W2 * (2 * H2) := Nat.mul_comm _ _
    rw [f3]
    have g1 : 2 * W2 * (2 * H2) + 2 * i + 2 * W2 = 2 * W2 * (2 * H2) + 2 * W2 + 2 * i := by omega
    rw [g1]
    have g2 : 2 * W2 * (2 * H2) + 2 * W2 + 2 * i + 1 = 2 * W2 * (2 * H2) + 2 * W2 + (2 * i + 1) := by omega
    have g3 : 2 * W2 * (2 * H2) + 2 * i + 1 = 2 * W2 * (2 * H2) + (2 * i + 1) := by omega
    rw [g2, g3]
    omega
theorem farS_comm (g h : Nat → Int) : ∀ n, farS g h n = farS h g n
  | 0 => rfl
  | n + 1 => by simp only [farS]; rw [farS_comm g h n]; unfold dist; omega
theorem farS_tri (g h c : Nat → Int) : ∀ n, farS g h n ≤ farS g c n + farS c h n
  | 0 => by simp [farS]
  | n + 1 => by
    simp only [farS]
    have := farS_tri g h c n
    unfold dist
    omega
theorem farS_zero {g h : Nat → Int} (hg : Byt g) (hh : Byt h) : ∀ n, farS g h n = 0 ↔ ∀ i, i < n → g i = h i
  | 0 => by simp [farS]
  | n + 1 => by
    have b := (farS_bd hg hh n).1
    have b2 := (dist_bd (hg n) (hh n)).1
    simp only [farS]
    constructor
    · intro e i hi
      rcases Nat.lt_or_ge i n with h1 | h1
      · exact (farS_zero hg hh n).1 (by omega) i h1
      · obtain rfl : i = n := by omega
        have : dist (g i) (h i) = 0 := by omega
        unfold dist at this
        omega
    · intro e
      have h1 := (farS_zero hg hh n).2 (fun i hi => e i (by omega))
      have h2 := e n (by omega)
      rw [h1, h2]
      unfold dist
      omega
theorem farS_str {g h : Nat → Int} {n : Nat} (hg : Byt g) (hh : Byt h) : (farS g h n == 0) = ((strOf n g).toList == (strOf n h).toList) := by
  rw [Bool.eq_iff_iff, beq_iff_eq, farS_zero hg hh, strEq_iff hg hh]
  exact ⟨fun h => ⟨rfl, h⟩, fun h => h.2⟩
theorem dist_plus (a b a' b' : Int) : dist (a + b) (a' + b') ≤ dist a a' + dist b b' := by unfold dist; omega
theorem dist_four (s s' : Int) : 4 * dist ((s + 2) / 4) ((s' + 2) / 4) ≤ dist s s' + 3 := by unfold dist; omega
/-- Halves are no further apart than a quarter, and three quarters for each sample. -/
theorem farS_half {g h : Nat → Int} (W2 H2 : Nat) : 4 * farS (halfP (2 * W2) W2 g) (halfP (2 * W2) W2 h) (W2 * H2) ≤ farS g h (2 * W2 * (2 * H2)) + 3 * ((W2 * H2 : Nat) : Int) := by
  rw [farS_sum, farS_sum, ← four_sum, ← sumF_mul, ← sumF_const, ← sumF_plus]
  refine sumF_le fun k _ => ?_
  unfold halfP four
  generalize 2 * (k / W2) * (2 * W2) + 2 * (k % W2) = p
  have h1 := dist_four (g p + g (p + 1) + g (p + 2 * W2) + g (p + 2 * W2 + 1)) (h p + h (p + 1) + h (p + 2 * W2) + h (p + 2 * W2 + 1))
  have h2 := dist_plus (g p + g (p + 1) + g (p + 2 * W2)) (g (p + 2 * W2 + 1)) (h p + h (p + 1) + h (p + 2 * W2)) (h (p + 2 * W2 + 1))
  have h3 := dist_plus (g p + g (p + 1)) (g (p + 2 * W2)) (h p + h (p + 1)) (h (p + 2 * W2))
  have h4 := dist_plus (g p) (g (p + 1)) (h p) (h (p + 1))
  dsimp only
  omega
end Go.Kin
