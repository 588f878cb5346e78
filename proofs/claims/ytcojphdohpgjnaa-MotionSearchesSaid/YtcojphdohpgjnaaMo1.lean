/- Walks of package motion: half, size, apart. -/
import Derived.Test.YtcojphdohpgjnaaIn2
namespace Go.Kin
/-- What is between the middle ones of six. -/
def half6 (l : Nat → Int) : Int := min (max ((l 0 - 5 * l 1 + 20 * l 2 + 20 * l 3 - 5 * l 4 + l 5 + 16) / 32) 0) 255
theorem half6_bd (l : Nat → Int) : 0 ≤ half6 l ∧ half6 l ≤ 255 := by unfold half6; omega
/-- The cells of six. -/
abbrev sixC (l : Nat → Int) : Array Value := #[.int .u8 (l 0), .int .u8 (l 1), .int .u8 (l 2), .int .u8 (l 3), .int .u8 (l 4), .int .u8 (l 5)]
def absI (v : Int) : Int := max v (-v)
/-- Of two vectors that are as good: whether the first is taken. -/
def aheadV (vx vy wx wy : Int) : Bool := if absI vx + absI vy = absI wx + absI wy then (if vy = wy then decide (vx < wx) else decide (vy < wy)) else decide (absI vx + absI vy < absI wx + absI wy)
theorem i64_and1 (n : Int) : bits .and .i64 n 1 = n % 2 := by
  have h1 : (BitVec.ofInt 64 1).toNat = 2 ^ 1 - 1 := by decide
  have key : (BitVec.ofInt 64 n &&& BitVec.ofInt 64 1).toNat = (n % ((2 ^ 64 : Nat) : Int)).toNat % 2 ^ 1 := by
    rw [BitVec.toNat_and, BitVec.toNat_ofInt, h1, Nat.and_two_pow_sub_one_eq_mod]
  show IntKind.i64.wrap ((BitVec.ofInt 64 n &&& BitVec.ofInt 64 1).toNat : Nat) = n % 2
  rw [key, IntKind.wrap_i64]
  omega
end Go.Kin
namespace Go.Proofs.Ytcojphdohpgjnaa
open Go.RowKit Go.Kin
set_option linter.unusedVariables false

set_option maxHeartbeats 1000000 in
theorem half_any (l : Nat → Int) (w : World) (hl : Byt l) :
    Calls Try.prog 61 #[.agg (sixC l)] w fun e w' => e = .returned (.int .u8 (half6 l)) ∧ Below w.heap.size w w' := by
  have H := Lib.hid (show half6 l = min (max ((l 0 - 5 * l 1 + 20 * l 2 + 20 * l 3 - 5 * l 4 + l 5 + 16) / 32) 0) 255 from rfl)
  have K := (Kn.start w).new w.heap.size (sixC l) 78 rfl
  have b0 := hl 0
  have b1 := hl 1
  have b2 := hl 2
  have b3 := hl 3
  have b4 := hl 4
  have b5 := hl 5
  have kc := Box.cells K.1
  go_enter Try.func61, Try.ntmps61
  go_upto_region 2 with (fail)
  go_wp2
  go_ret
  exact ⟨ret_int (by rw [H.out]), K.2.1⟩

theorem size_any (v : Int) (w : World) (hv : -1099511627776 ≤ v ∧ v ≤ 1099511627776) :
    Calls Try.prog 57 #[.int .i64 v] w fun e w' => e = .returned (.int .i64 (absI v)) ∧ w = w' := by
  have H := Lib.hid (show absI v = max v (-v) from rfl)
  go_enter Try.func57, Try.ntmps57
  go_wp2
  go_ret
  exact ⟨ret_int (by rw [H.out]), rfl⟩

set_option maxHeartbeats 1000000 in
theorem mahead_any (vx vy wx wy : Int) (w : World) (h1 : -1048576 ≤ vx ∧ vx ≤ 1048576) (h2 : -1048576 ≤ vy ∧ vy ≤ 1048576) (h3 : -1048576 ≤ wx ∧ wx ≤ 1048576) (h4 : -1048576 ≤ wy ∧ wy ≤ 1048576) :
    Calls Try.prog 43 #[.agg #[.int .i64 vx, .int .i64 vy], .agg #[.int .i64 wx, .int .i64 wy]] w fun e w' => e = .returned (.bool (aheadV vx vy wx wy)) ∧ Below w.heap.size w w' := by
  have K := ((Kn.start w).new w.heap.size #[.int .i64 vx, .int .i64 vy] 48 rfl).new (w.heap.size + 1) #[.int .i64 wx, .int .i64 wy] 48 (by simp)
  have a1 : 0 ≤ absI vx ∧ absI vx ≤ 1048576 := by unfold absI; omega
  have a2 : 0 ≤ absI vy ∧ absI vy ≤ 1048576 := by unfold absI; omega
  have a3 : 0 ≤ absI wx ∧ absI wx ≤ 1048576 := by unfold absI; omega
  have a4 : 0 ≤ absI wy ∧ absI wy ≤ 1048576 := by unfold absI; omega
  have z1 : IntKind.i64.wrap (absI vx + absI vy) = absI vx + absI vy := IntWalk.i64_in _ (by omega)
  have z2 : IntKind.i64.wrap (absI wx + absI wy) = absI wx + absI wy := IntWalk.i64_in _ (by omega)
  have kc0 := Box.cells K.1
  have kc1 := Box.cells K.2.1
  have HA := Lib.hid (show aheadV vx vy wx wy = if absI vx + absI vy = absI wx + absI wy then (if vy = wy then decide (vx < wx) else decide (vy < wy)) else decide (absI vx + absI vy < absI wx + absI wy) from rfl)
  go_enter Try.func43, Try.ntmps43
  go_wp2
  go_quiet ((go_at_call 57; exact quietLeft (size_any _ _ (by omega))))
  have HK := Lib.hid (Kn.drewN K nq)
  clear z1 z2 a1 a2 a3 a4 K
  generalize absI vx + absI vy = s at *
  generalize absI wx + absI wy = t at *
  by_cases e1 : s = t
  · have q1 : (s != t) = false := by simp [e1]
    by_cases e2 : vy = wy
    · have q2 : (vy != wy) = false := by simp [e2]
      have HE := Lib.hid (And.intro e1 e2)
      clear e1 e2
      go_wp2
      go_ret
      exact ⟨ret_bool (by rw [HA.out, if_pos HE.out.1, if_pos HE.out.2]), HK.out.2.2.1⟩
    · have q2 : (vy != wy) = true := by simp [e2]
      have HE := Lib.hid (And.intro e1 e2)
      clear e1 e2
      go_wp2
      go_ret
      exact ⟨ret_bool (by rw [HA.out, if_pos HE.out.1, if_neg HE.out.2]), HK.out.2.2.1⟩
  · have q1 : (s != t) = true := by simp [e1]
    have HE := Lib.hid e1
    clear e1
    go_wp2
    go_ret
    exact ⟨ret_bool (by rw [HA.out, if_neg HE.out]), HK.out.2.2.1⟩

set_option maxHeartbeats 1000000 in
theorem mapart_any (A B : Option Addr) (n c d : Nat) (g h : Nat → Int) (w : World) (hA : Rd w A n (by8 g)) (hB : Rd w B n (by8 h)) (hg : Byt g) (hh : Byt h) (hn2 : n ≤ 10000) :
    Calls Try.prog 42 #[.slice A n c, .slice B n d] w fun e w' => e = .returned (.int .i64 (sumAbs g h n)) ∧ w = w' := by
  have R1 := hA
  have R2 := hB
  clear hA hB
  go_enter Try.func42, Try.ntmps42
  go_wp2
  have H1 := Lib.hid R1
  have H2 := Lib.hid R2
  clear R1 R2
  go_loop [5, 10] (fun s i => ∃ k : Nat, k ≤ n ∧ i = .int .i64 k ∧ s = .int .i64 (sumAbs g h k)) (fun _ i => n - (intOf i).toNat)
  case atStart => exact ⟨0, Nat.zero_le _, rfl, rfl⟩
  case round =>
    obtain ⟨k, hk, rfl, rfl⟩ := hrel
    obtain ⟨f0, f1⟩ := sumAbs_bd hg hh k
    by_cases hlt : k < n
    · have b1 := hg k
      have b2 := hh k
      obtain ⟨bA, oA, rfl, _, hcA⟩ := Rd.some_ H1.out (by omega)
      obtain ⟨bB, oB, rfl, _, hcB⟩ := Rd.some_ H2.out (by omega)
      have c1 := hcA k hlt
      have c2 := hcB k hlt
      simp only [by8] at c1 c2
      clear hcA hcB
      have HD := Lib.hid (show sumAbs g h (k + 1) = sumAbs g h k + absI (g k - h k) from rfl)
      have a1 : 0 ≤ absI (g k - h k) ∧ absI (g k - h k) ≤ 255 := by unfold absI; omega
      generalize sumAbs g h k = s at *
      go_wp2_with (go_at_call 57; refine (size_any _ _ (by omega)).mono ?_; rintro e w' ⟨rfl, rfl⟩)
      go_round
      case rel => exact ⟨k + 1, hlt, by go_num, by rw [HD.out]⟩
      case measure => simp [intOf]; omega
    · have hkn : k = n := by omega
      subst hkn
      go_wp2
      go_ret
      exact ⟨rfl, rfl⟩

theorem rfloor_any (v n : Int) (w : World) (hv : -4611686018427387904 ≤ v ∧ v ≤ 4611686018427387904) (h1 : 1 ≤ n) (h2 : n ≤ 64) :
    Calls Try.prog 62 #[.int .i64 v, .int .i64 n] w fun e w' => e = .returned (.int .i64 (v / n)) ∧ w = w' := by
  have hn0 : ¬ n = 0 := by omega
  by_cases h : 0 ≤ v
  · have z : v.tdiv n = v / n := Int.tdiv_eq_ediv_of_nonneg h
    have q0 : 0 ≤ v / n := Int.ediv_nonneg h (by omega)
    have q1 : v / n ≤ v := Int.ediv_le_self _ h
    go_enter Try.func62, Try.ntmps62
    go_wp2
    go_ret
    exact ⟨rfl, rfl⟩
  · have z : (n - 1 - v).tdiv n = (n - 1 - v) / n := Int.tdiv_eq_ediv_of_nonneg (by omega)
    have q0 : 0 ≤ (n - 1 - v) / n := Int.ediv_nonneg (by omega) (by omega)
    have q1 : (n - 1 - v) / n ≤ n - 1 - v := Int.ediv_le_self _ (by omega)
    have HE : Hid (v / n = -((n - 1 - v) / n)) := Lib.hid (by
      have e1 := Int.mul_ediv_add_emod v n
      have e2 := Int.emod_nonneg v hn0
      have e3 := Int.emod_lt_of_pos v (show 0 < n by omega)
      have : (n - 1 - v) / n = -(v / n) := by
        have : n - 1 - v = (n - 1 - v % n) + n * (-(v / n)) := by rw [Int.mul_neg]; omega
        rw [this, Int.add_mul_ediv_left _ _ hn0, Int.ediv_eq_zero_of_lt (by omega) (by omega), Int.zero_add]
      omega)
    go_enter Try.func62, Try.ntmps62
    go_wp2
    go_ret
    exact ⟨ret_int (by rw [HE.out]), rfl⟩
/-- The cells of six numbers. -/
abbrev sixI (l : Nat → Int) : Array Value := #[.int .i64 (l 0), .int .i64 (l 1), .int .i64 (l 2), .int .i64 (l 3), .int .i64 (l 4), .int .i64 (l 5)]
set_option maxHeartbeats 1000000 in
theorem rhalf_any (l : Nat → Int) (w : World) (hl : Byt l) :
    Calls Try.prog 67 #[.agg (sixI l)] w fun e w' => e = .returned (.int .i64 (half6 l)) ∧ Below w.heap.size w w' := by
  have H := Lib.hid (show half6 l = min (max ((l 0 - 5 * l 1 + 20 * l 2 + 20 * l 3 - 5 * l 4 + l 5 + 16) / 32) 0) 255 from rfl)
  have K := (Kn.start w).new w.heap.size (sixI l) 81 rfl
  have b0 := hl 0
  have b1 := hl 1
  have b2 := hl 2
  have b3 := hl 3
  have b4 := hl 4
  have b5 := hl 5
  have kc := Box.cells K.1
  go_enter Try.func67, Try.ntmps67
  go_upto_region 2 with (go_at_call 62; refine (rfloor_any _ _ _ (by omega) (by omega) (by omega)).mono ?_; rintro e w' ⟨rfl, rfl⟩)
  go_wp2
  go_ret
  exact ⟨ret_int (by rw [H.out]), K.2.1⟩
end Go.Proofs.Ytcojphdohpgjnaa
