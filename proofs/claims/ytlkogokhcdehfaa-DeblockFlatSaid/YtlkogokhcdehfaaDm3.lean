/- Plain numbers of deblock: columns that are 0, and four times the strength, by turns, stay. -/
import Derived.Test.YtlkogokhcdehfaaDm2
namespace Go.Kin
def turns (W : Nat) (q : Int) (i : Nat) : Int := ((i % W % 2 : Nat) : Int) * 4 * (q / 2)
theorem turns_bd {W : Nat} {q : Int} (h0 : 0 ≤ q) (h1 : q ≤ 31) : ∀ i, 0 ≤ turns W q i ∧ turns W q i ≤ 255 := fun i => by
  unfold turns
  have : i % W % 2 = 0 ∨ i % W % 2 = 1 := by omega
  rcases this with h | h
  · rw [h]; simp
  · rw [h]; omega
theorem turns_db {W H : Nat} {q : Int} (h0 : 0 ≤ q) (h1 : q ≤ 31) : dbP q W H (turns W q) = turns W q := by
  refine dbP_id (fun z hz j hj => ?_) (fun z hz j hj => ?_)
  · have hx := edges_lt.1 hj
    have e1 : turns W q (z * W + 8 * (j + 1) - 1) = 4 * (q / 2) := by
      unfold turns
      rw [show z * W + 8 * (j + 1) - 1 = z * W + (8 * (j + 1) - 1) by omega, (pos_mod (show 8 * (j + 1) - 1 < W by omega)).1, show (8 * (j + 1) - 1) % 2 = 1 by omega]
      simp
    have e2 : turns W q (z * W + 8 * (j + 1)) = 0 := by
      unfold turns
      rw [(pos_mod (show 8 * (j + 1) < W by omega)).1, show (8 * (j + 1)) % 2 = 0 by omega]
      simp
    have ho : ∀ a d, lnOff a (turns W q (z * W + 8 * (j + 1) - 1)) (turns W q (z * W + 8 * (j + 1))) d q = true := fun a d => by
      rw [e1, e2]
      unfold lnOff ap
      have : decide (4 * (q / 2) ≤ max (4 * (q / 2)) 0 - min (4 * (q / 2)) 0) = true := by
        rw [decide_eq_true_eq]; omega
      simp [this]
    exact sm1_id (ln_off (ho _ _)).1 (ln_off (ho _ _)).2
  · have hx := edges_lt.1 hj
    have hc : ∀ r, turns W q (r * W + z) = ((z % 2 : Nat) : Int) * 4 * (q / 2) := fun r => by
      unfold turns
      rw [(pos_mod hz).1]
    have m1 : 8 * (j + 1) * W + z - W = (8 * (j + 1) - 1) * W + z := by rw [Nat.sub_mul]; have := Nat.mul_le_mul_right W (show 1 ≤ 8 * (j + 1) by omega); omega
    have m2 : 8 * (j + 1) * W + z - 2 * W = (8 * (j + 1) - 2) * W + z := by rw [Nat.sub_mul]; have := Nat.mul_le_mul_right W (show 2 ≤ 8 * (j + 1) by omega); omega
    have m3 : 8 * (j + 1) * W + z + W = (8 * (j + 1) + 1) * W + z := by rw [Nat.add_mul]; omega
    have hb := turns_bd (W := W) h0 h1 z
    have hz2 : turns W q z = ((z % 2 : Nat) : Int) * 4 * (q / 2) := by have := hc 0; rwa [Nat.zero_mul, Nat.zero_add] at this
    rw [hz2] at hb
    refine sm1_id ?_ ?_
    · rw [m1, m2, m3, hc, hc, hc, hc]; exact (ln_flat hb).1
    · rw [m1, m2, m3, hc, hc, hc, hc]; exact (ln_flat hb).2
end Go.Kin
