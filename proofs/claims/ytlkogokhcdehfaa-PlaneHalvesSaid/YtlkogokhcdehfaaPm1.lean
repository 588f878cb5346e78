/- Plain numbers of planes: what is laid is there, and elsewhere all stays. -/
import Derived.Test.YtlkogokhcdehfaaPw4
namespace Go.Proofs.Ytlkogokhcdehfaa
open Go.RowKit Go.Kin
theorem lay_at {W : Nat} {g bb : Nat → Int} {X Y n i j : Nat} (hi : i < n) (hj : j < n) (hX : X + n ≤ W) : layP W g X Y n bb ((Y + j) * W + (X + i)) = bb (j * n + i) := by
  obtain ⟨e1, e2⟩ := pos_mod (W := W) (x := X + i) (y := Y + j) (by omega)
  unfold layP layJ
  rw [e1, e2, if_pos (by omega)]
  congr 1
  have e3 : (((Y + j : Nat) : Int) - Y) * n = ((j * n : Nat) : Int) := by
    rw [show ((Y + j : Nat) : Int) - Y = j by omega]
    simp
  rw [e3]
  omega
theorem lay_off {W : Nat} {g bb : Nat → Int} {X Y : Int} {n x y : Nat} (hx : x < W) (h : ¬ (X ≤ x ∧ (x : Int) < X + n ∧ Y ≤ y ∧ (y : Int) < Y + n)) : layP W g X Y n bb (y * W + x) = g (y * W + x) := by
  obtain ⟨e1, e2⟩ := pos_mod (W := W) (y := y) hx
  unfold layP layJ
  rw [e1, e2, if_neg h]
theorem ahead_in {X i W : Int} (hX : 0 ≤ X) (hi : 0 ≤ i) (h : X + i < W) : aheadI X i W = X + i := by
  unfold aheadI
  rw [if_neg (by omega)]
  omega
theorem block_in {W H : Nat} {g : Nat → Int} {X Y n i j : Nat} (hi : i < n) (hj : j < n) (hX : X + n ≤ W) (hY : Y + n ≤ H) : blockP W H g X Y n (j * n + i) = g ((Y + j) * W + (X + i)) := by
  rw [blockP_at hi, ahead_in (by omega) (by omega) (by omega), ahead_in (by omega) (by omega) (by omega)]
  have : ((Y : Int) + j) * W + ((X : Int) + i) = (((Y + j) * W + (X + i) : Nat) : Int) := by simp
  rw [this]
  rfl
theorem split_at {n k : Nat} (hk : k < n * n) : ∃ i j, i < n ∧ j < n ∧ k = j * n + i := by
  have hn : 0 < n := by
    rcases Nat.eq_zero_or_pos n with h | h
    · subst h; omega
    · exact h
  refine ⟨k % n, k / n, Nat.mod_lt _ hn, Nat.div_lt_of_lt_mul hk, ?_⟩
  rw [Nat.mul_comm]
  exact (Nat.div_add_mod k n).symm
theorem split_at2 {W H k : Nat} (hk : k < W * H) : ∃ x y, x < W ∧ y < H ∧ k = y * W + x := by
  have hW : 0 < W := by
    rcases Nat.eq_zero_or_pos W with h | h
    · subst h; omega
    · exact h
  refine ⟨k % W, k / W, Nat.mod_lt _ hW, Nat.div_lt_of_lt_mul hk, ?_⟩
  rw [Nat.mul_comm]
  exact (Nat.div_add_mod k W).symm
/-- What was laid is told there. -/
theorem block_lay {W H : Nat} {g bb : Nat → Int} {X Y n k : Nat} (hX : X + n ≤ W) (hY : Y + n ≤ H) (hk : k < n * n) : blockP W H (layP W g X Y n bb) X Y n k = bb k := by
  obtain ⟨i, j, hi, hj, rfl⟩ := split_at hk
  rw [block_in hi hj hX hY, lay_at hi hj hX]
/-- Laid again what was there, it is as it was. -/
theorem lay_back {W H : Nat} {g bb : Nat → Int} {X Y n k : Nat} (hX : X + n ≤ W) (hY : Y + n ≤ H) (hk : k < W * H) : layP W (layP W g X Y n bb) X Y n (blockP W H g X Y n) k = g k := by
  obtain ⟨x, y, hx, hy, rfl⟩ := split_at2 hk
  by_cases h : (X : Int) ≤ x ∧ (x : Int) < X + n ∧ (Y : Int) ≤ y ∧ (y : Int) < Y + n
  · obtain ⟨i, rfl⟩ := Nat.exists_eq_add_of_le (show X ≤ x by omega)
    obtain ⟨j, rfl⟩ := Nat.exists_eq_add_of_le (show Y ≤ y by omega)
    rw [lay_at (by omega) (by omega) hX, block_in (by omega) (by omega) hX hY]
  · rw [lay_off hx h, lay_off hx h]
theorem at_in {W H : Nat} {g : Nat → Int} {x y : Nat} (hx : x < W) (hy : y < H) : atP W H g x y = g (y * W + x) := by
  unfold atP
  congr 1
  rw [show min (max (y : Int) 0) ((H : Int) - 1) = y by omega, show min (max (x : Int) 0) ((W : Int) - 1) = x by omega]
  have : (y : Int) * W + x = ((y * W + x : Nat) : Int) := by simp
  omega
end Go.Proofs.Ytlkogokhcdehfaa
