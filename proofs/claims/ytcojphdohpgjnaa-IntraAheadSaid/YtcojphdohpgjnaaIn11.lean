/- The document's samples of a guess are those of package intra: plain numbers. -/
import Derived.Test.YtcojphdohpgjnaaIn8
import Derived.Test.YtcojphdohpgjnaaIn5
namespace Go.Kin
theorem at9_ab {W H X Y n i : Nat} {g : Nat → Int} (hX : X + n ≤ W) (hY : Y + n ≤ H) (hi : i < n) : at9 W H g ((X : Int) + i) ((Y : Int) - 1) = abP W g X Y n i := by
  unfold at9 abP
  rw [if_pos hi]
  by_cases h : 0 < Y
  · rw [if_pos ⟨by omega, by omega, by omega, by omega⟩, if_pos h]
    congr 1
    obtain ⟨Y, rfl⟩ : ∃ k, Y = k + 1 := ⟨Y - 1, by omega⟩
    have e : (((Y + 1 : Nat) : Int) - 1) * W + ((X : Int) + i) = ((Y * W + X + i : Nat) : Int) := by push_cast; rw [show (Y : Int) + 1 - 1 = Y by omega]; omega
    rw [e, Int.toNat_natCast, Nat.add_sub_cancel]
  · rw [if_neg (by omega), if_neg h]
theorem at9_lf {W H X Y n j : Nat} {g : Nat → Int} (hX : X + n ≤ W) (hY : Y + n ≤ H) (hj : j < n) : at9 W H g ((X : Int) - 1) ((Y : Int) + j) = lfP W g X Y n j := by
  unfold at9 lfP
  rw [if_pos hj]
  by_cases h : 0 < X
  · rw [if_pos ⟨by omega, by omega, by omega, by omega⟩, if_pos h]
    congr 1
    have e : ((Y : Int) + j) * W + ((X : Int) - 1) = (((Y + j) * W + X - 1 : Nat) : Int) := by
      rw [Int.ofNat_sub (by omega)]; push_cast; omega
    rw [e, Int.toNat_natCast]
  · rw [if_neg (by omega), if_neg h]
theorem at9_co {W H X Y n : Nat} {g : Nat → Int} (hn : 1 ≤ n) (hX : X + n ≤ W) (hY : Y + n ≤ H) : at9 W H g ((X : Int) - 1) ((Y : Int) - 1) = coP W g X Y := by
  unfold at9 coP
  by_cases h : 0 < X ∧ 0 < Y
  · rw [if_pos ⟨by omega, by omega, by omega, by omega⟩, if_pos h]
    congr 1
    obtain ⟨Y, rfl⟩ : ∃ k, Y = k + 1 := ⟨Y - 1, by omega⟩
    have e : (((Y + 1 : Nat) : Int) - 1) * W + ((X : Int) - 1) = ((Y * W + X - 1 : Nat) : Int) := by
      rw [Int.ofNat_sub (by omega)]; push_cast; rw [show (Y : Int) + 1 - 1 = Y by omega]; omega
    rw [e, Int.toNat_natCast, Nat.add_sub_cancel]
  · rw [if_neg (by omega), if_neg h]
theorem flS_at9 {W H X Y n : Nat} {g : Nat → Int} (hX : X + n ≤ W) (hY : Y + n ≤ H) (z : Int) : ∀ k, k ≤ n →
    flS z (fun i => at9 W H g ((X : Int) + i) ((Y : Int) - 1)) (fun j => at9 W H g ((X : Int) - 1) ((Y : Int) + j)) k = flS z (abP W g X Y n) (lfP W g X Y n) k
  | 0, _ => rfl
  | k + 1, h => by
    simp only [flS]
    rw [flS_at9 hX hY z k (by omega), at9_ab hX hY (by omega), at9_lf hX hY (by omega)]
end Go.Kin
