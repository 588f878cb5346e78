/- A code as a number: its digits to the base 256, what adding makes of them, a digit more behind. Plain numbers. -/
import Derived.Test.YtmnoddmecghjdaaKn8
namespace Go.Kin
/-- Digit i of the L digits of V. -/
def dig (V L i : Nat) : Int := ((V / 256 ^ (L - 1 - i) % 256 : Nat) : Int)
theorem dig_byt (V L : Nat) : Byt (dig V L) := fun i => by
  unfold dig
  have : V / 256 ^ (L - 1 - i) % 256 < 256 := Nat.mod_lt _ (by omega)
  omega
/-- A digit 0 behind. -/
theorem dig_more {V L i : Nat} (hi : i < L + 1) : dig (V * 256) (L + 1) i = if i < L then dig V L i else 0 := by
  unfold dig
  by_cases h : i < L
  · rw [if_pos h, show L + 1 - 1 - i = (L - 1 - i) + 1 by omega, Nat.pow_succ, Nat.mul_comm (256 ^ (L - 1 - i)) 256, ← Nat.div_div_eq_div_mul, Nat.mul_div_cancel _ (by omega)]
  · rw [if_neg h, show L + 1 - 1 - i = 0 by omega, Nat.pow_zero, Nat.div_one, Nat.mul_mod_left]
    rfl
/-- The carry behind the lowest j digits. -/
def car (V b j : Nat) : Nat := (V % 256 ^ j + b) / 256 ^ j
theorem car_zero (V b : Nat) : car V b 0 = b := by simp [car, Nat.mod_one]
theorem car_step (V b j : Nat) : (car V b j + V / 256 ^ j % 256) / 256 = car V b (j + 1) ∧ (car V b j + V / 256 ^ j % 256) % 256 = (V + b) / 256 ^ j % 256 := by
  have hp : 0 < 256 ^ j := Nat.pow_pos (by omega)
  have e1 : V = 256 ^ j * (V / 256 ^ j) + V % 256 ^ j := (Nat.div_add_mod V (256 ^ j)).symm
  have e2 : (V + b) / 256 ^ j = V / 256 ^ j + car V b j := by
    unfold car
    conv => lhs; rw [e1]
    rw [Nat.add_assoc, Nat.mul_add_div hp]
  have e3 : V % 256 ^ (j + 1) = 256 ^ j * (V / 256 ^ j % 256) + V % 256 ^ j := by
    rw [Nat.pow_succ, Nat.mod_mul]
    omega
  constructor
  · unfold car
    rw [e3, Nat.pow_succ, ← Nat.div_div_eq_div_mul, Nat.add_assoc, Nat.mul_add_div hp, Nat.add_comm]
  · rw [e2]
    omega
theorem car_none {V b j : Nat} (h : car V b j = 0) : (V + b) / 256 ^ j = V / 256 ^ j := by
  have hp : 0 < 256 ^ j := Nat.pow_pos (by omega)
  have e1 : V = 256 ^ j * (V / 256 ^ j) + V % 256 ^ j := (Nat.div_add_mod V (256 ^ j)).symm
  conv => lhs; rw [e1]
  rw [Nat.add_assoc, Nat.mul_add_div hp]
  unfold car at h
  omega
/-- The digits when the lowest j are done. -/
def digA (V b L j i : Nat) : Int := if L ≤ i + j then dig (V + b) L i else dig V L i
theorem digA_zero {V b L i : Nat} (hi : i < L) : digA V b L 0 i = dig V L i := by unfold digA; rw [if_neg (by omega)]
theorem digA_all {V b L i : Nat} : digA V b L L i = dig (V + b) L i := by unfold digA; rw [if_pos (by omega)]
theorem digA_step {V b L j i : Nat} (hj : j < L) (hi : i < L) : (if i = L - 1 - j then (((car V b j + V / 256 ^ j % 256) % 256 : Nat) : Int) else digA V b L j i) = digA V b L (j + 1) i := by
  unfold digA
  by_cases e : i = L - 1 - j
  · rw [if_pos e, if_pos (by omega), (car_step V b j).2]
    unfold dig
    rw [show L - 1 - i = j by omega]
  · rw [if_neg e]
    by_cases h : L ≤ i + j
    · rw [if_pos h, if_pos (by omega)]
    · rw [if_neg h, if_neg (by omega)]
theorem digA_stop {V b L j i : Nat} (h : car V b j = 0) (hi : i < L) : digA V b L j i = dig (V + b) L i := by
  unfold digA
  by_cases hl : L ≤ i + j
  · rw [if_pos hl]
  · rw [if_neg hl]
    unfold dig
    have hx : L - 1 - i = j + (L - 1 - i - j) := by omega
    rw [hx, Nat.pow_add, ← Nat.div_div_eq_div_mul, ← Nat.div_div_eq_div_mul, car_none h]
end Go.Kin
