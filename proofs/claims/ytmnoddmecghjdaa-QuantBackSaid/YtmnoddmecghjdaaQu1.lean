/- Walks of package quant: side, Step, Level, Value, within and what it hands out, all. -/
import Derived.Test.YtmnoddmecghjdaaQu0
set_option linter.unusedVariables false
namespace Go.Kin
open Go.RowKit
def sideZ (n : Int) : Int := if n = 16 then 4 else if n = 64 then 8 else 0
theorem sideZ_nat (n : Nat) : sideZ n = (sideN n : Int) := by
  unfold sideZ sideN
  by_cases h1 : n = 16
  · rw [if_pos h1, if_pos (by omega)]; rfl
  · rw [if_neg h1, if_neg (by omega)]
    by_cases h2 : n = 64
    · rw [if_pos h2, if_pos (by omega)]; rfl
    · rw [if_neg h2, if_neg (by omega)]; rfl
theorem stp_wrap {q x y : Nat} (hq : q ≤ 31) (hx : x ≤ 7) (hy : y ≤ 7) : wrap64 (wrap64 ((4 + (q : Int) % 4) * 2 ^ (q / 4)) / 4 * (4 + (x : Int) + (y : Int))) / 4 = (stp q x y : Nat) := by
  obtain ⟨b1, b2⟩ := stpS_bd hq
  have h1 : (4 + (q : Int) % 4) * 2 ^ (q / 4) = (stpS q : Nat) := by unfold stpS; push_cast; rfl
  rw [h1, IntWalk.wrap64_in (stpS q : Nat) (by omega)]
  unfold stp
  generalize stpS q = S at *
  have h2 : ((S : Nat) : Int) / 4 * (4 + (x : Int) + (y : Int)) = ((S / 4 * (4 + x + y) : Nat) : Int) := by push_cast; rfl
  have h3 : S / 4 * (4 + x + y) ≤ 224 * 18 := Nat.mul_le_mul (by omega) (by omega)
  rw [h2, IntWalk.wrap64_in _ (by omega)]
  omega
def inB (m v : Int) : Bool := decide (-m ≤ v ∧ v ≤ m)
def toB (m v : Int) : Bool := decide (0 ≤ v ∧ v ≤ m)
end Go.Kin
namespace Go.Proofs.Ytmnoddmecghjdaa
open Go.RowKit Go.Kin
theorem qside_any (n : Int) (w : World) : Calls Try.prog 66 #[.int .i64 n] w fun e w' => e = .returned (.int .i64 (sideZ n)) ∧ w = w' := by
  unfold sideZ
  by_cases h1 : n = 16
  · rw [if_pos h1]
    subst h1
    go_enter Try.func66, Try.ntmps66
    go_wp2
    go_ret
    exact ⟨rfl, rfl⟩
  · rw [if_neg h1]
    have e1 : (n == 16) = false := by simp [h1]
    clear h1
    by_cases h2 : n = 64
    · rw [if_pos h2]
      subst h2
      go_enter Try.func66, Try.ntmps66
      go_wp2
      go_ret
      exact ⟨rfl, rfl⟩
    · rw [if_neg h2]
      have e2 : (n == 64) = false := by simp [h2]
      clear h2
      go_enter Try.func66, Try.ntmps66
      go_wp2
      go_ret
      exact ⟨rfl, rfl⟩
theorem smay_any (v m : Int) (w : World) : Calls Try.prog 69 #[.int .i64 v, .int .i64 m] w fun e w' => e = .returned (.bool (toB m v)) ∧ w = w' := by
  by_cases h1 : 0 ≤ v
  · by_cases h2 : v ≤ m
    · have HT : Hid (toB m v = true) := Lib.hid (by unfold toB; exact decide_eq_true ⟨h1, h2⟩)
      rw [HT.out]
      go_enter Try.func69, Try.ntmps69
      go_wp2
      go_ret
      exact ⟨rfl, rfl⟩
    · have HT : Hid (toB m v = false) := Lib.hid (by unfold toB; exact decide_eq_false (by omega))
      rw [HT.out]
      go_enter Try.func69, Try.ntmps69
      go_wp2
      go_ret
      exact ⟨rfl, rfl⟩
  · have HT : Hid (toB m v = false) := Lib.hid (by unfold toB; exact decide_eq_false (by omega))
    rw [HT.out]
    go_enter Try.func69, Try.ntmps69
    go_wp2
    go_ret
    exact ⟨rfl, rfl⟩
theorem qstep_no (q x y : Int) (w : World) (h : ¬ stpOk q x y) : Calls Try.prog 38 #[.int .i64 q, .int .i64 x, .int .i64 y] w fun e w' => e = .returned (.tuple #[.int .i64 0, .int .i64 1]) ∧ w = w' := by
  have h3 : toB 31 q = false ∨ (toB 31 q = true ∧ toB 7 x = false) ∨ (toB 31 q = true ∧ toB 7 x = true ∧ toB 7 y = false) := by
    unfold stpOk at h
    unfold toB
    by_cases h1 : 0 ≤ q ∧ q ≤ 31
    · by_cases h2 : 0 ≤ x ∧ x ≤ 7
      · exact .inr (.inr ⟨decide_eq_true h1, decide_eq_true h2, decide_eq_false (by omega)⟩)
      · exact .inr (.inl ⟨decide_eq_true h1, decide_eq_false h2⟩)
    · exact .inl (decide_eq_false h1)
  clear h
  rcases h3 with h1 | ⟨h1, h2⟩ | ⟨h1, h2, h3⟩
  · go_enter Try.func38, Try.ntmps38
    go_wp2_with (go_at_call 69; refine (smay_any _ _ _).mono ?_; rintro e w' ⟨rfl, rfl⟩; rw [h1])
    go_ret2
    exact ⟨rfl, rfl⟩
  · go_enter Try.func38, Try.ntmps38
    go_wp2_with (go_at_call 69; refine (smay_any _ _ _).mono ?_; rintro e w' ⟨rfl, rfl⟩; first | rw [h1] | rw [h2])
    go_ret2
    exact ⟨rfl, rfl⟩
  · go_enter Try.func38, Try.ntmps38
    go_wp2_with (go_at_call 69; refine (smay_any _ _ _).mono ?_; rintro e w' ⟨rfl, rfl⟩; first | rw [h1] | rw [h2] | rw [h3])
    go_ret2
    exact ⟨rfl, rfl⟩
theorem qstep_yes (q x y : Nat) (w : World) (hq : q ≤ 31) (hx : x ≤ 7) (hy : y ≤ 7) : Calls Try.prog 38 #[.int .i64 q, .int .i64 x, .int .i64 y] w fun e w' => e = .returned (.tuple #[.int .i64 (stp q x y : Nat), .int .i64 0]) ∧ w = w' := by
  have h1 : toB 31 q = true := decide_eq_true (by omega)
  have h2 : toB 7 x = true := decide_eq_true (by omega)
  have h3 : toB 7 y = true := decide_eq_true (by omega)
  have HV : Hid (wrap64 (wrap64 ((4 + (q : Int) % 4) * 2 ^ (q / 4)) / 4 * (4 + (x : Int) + (y : Int))) / 4 = (stp q x y : Nat)) := Lib.hid (stp_wrap hq hx hy)
  have zm : (q : Int).tmod 4 = ((q % 4 : Nat) : Int) := by rw [Int.tmod_eq_emod_of_nonneg (by omega)]; omega
  have zd : (q : Int).tdiv 4 = ((q / 4 : Nat) : Int) := by rw [Int.tdiv_eq_ediv_of_nonneg (by omega)]; omega
  go_enter Try.func38, Try.ntmps38
  go_wp2_with (go_at_call 69; refine (smay_any _ _ _).mono ?_; rintro e w' ⟨rfl, rfl⟩; first | rw [h1] | rw [h2] | rw [h3])
  go_ret2
  exact ⟨by rw [← HV.out]; rfl, rfl⟩
theorem lev_any (v s : Int) (w : World) (hv : -1152921504606846976 ≤ v ∧ v ≤ 1152921504606846976) (hs : -9223372036854775808 ≤ s ∧ s ≤ 1152921504606846976) :
    Calls Try.prog 40 #[.int .i64 v, .int .i64 s] w fun e w' => e = .returned (.int .i64 (levI v s)) ∧ w = w' := by
  unfold levI
  by_cases h1 : s < 1
  · rw [if_pos h1]
    go_enter Try.func40, Try.ntmps40
    go_wp2
    go_ret
    exact ⟨rfl, rfl⟩
  · rw [if_neg h1]
    have z1 : s.tdiv 3 = s / 3 := Int.tdiv_eq_ediv_of_nonneg (by omega)
    by_cases h2 : v < 0
    · rw [if_pos h2]
      have HL := lev_pos (v := -v) (s := s) (by omega) (by omega)
      have z2 : (-v + s / 3).tdiv s = (-v + s / 3) / s := Int.tdiv_eq_ediv_of_nonneg (by omega)
      generalize (-v + s / 3) / s = r at *
      have z3 : IntKind.i64.wrap (-v) = -v := by rw [IntKind.wrap_i64]; omega
      have z4 : IntKind.i64.wrap (-v + s / 3) = -v + s / 3 := by rw [IntKind.wrap_i64]; omega
      have z5 : IntKind.i64.wrap r = r := by rw [IntKind.wrap_i64]; omega
      have z6 : IntKind.i64.wrap (-r) = -r := by rw [IntKind.wrap_i64]; omega
      have z7 : IntKind.i64.wrap (s / 3) = s / 3 := by rw [IntKind.wrap_i64]; omega
      go_enter Try.func40, Try.ntmps40
      go_wp2
      go_ret
      exact ⟨rfl, rfl⟩
    · rw [if_neg h2]
      have HL := lev_pos (v := v) (s := s) (by omega) (by omega)
      have z2 : (v + s / 3).tdiv s = (v + s / 3) / s := Int.tdiv_eq_ediv_of_nonneg (by omega)
      generalize (v + s / 3) / s = r at *
      have z4 : IntKind.i64.wrap (v + s / 3) = v + s / 3 := by rw [IntKind.wrap_i64]; omega
      have z5 : IntKind.i64.wrap r = r := by rw [IntKind.wrap_i64]; omega
      have z7 : IntKind.i64.wrap (s / 3) = s / 3 := by rw [IntKind.wrap_i64]; omega
      go_enter Try.func40, Try.ntmps40
      go_wp2
      go_ret
      exact ⟨rfl, rfl⟩
theorem val_any (v s : Int) (w : World) : Calls Try.prog 42 #[.int .i64 v, .int .i64 s] w fun e w' => e = .returned (.int .i64 (if s < 1 then 0 else wrap64 (v * s))) ∧ w = w' := by
  by_cases h1 : s < 1
  · rw [if_pos h1]
    go_enter Try.func42, Try.ntmps42
    go_wp2
    go_ret
    exact ⟨rfl, rfl⟩
  · rw [if_neg h1]
    go_enter Try.func42, Try.ntmps42
    go_wp2
    go_ret
    exact ⟨rfl, rfl⟩
/-- What within hands out. -/
abbrev mayF (p : Nat) : Value := .func (.func 85) #[] #[.pointer (some ⟨p, 0, none⟩)]
theorem qwithin_any (m : Int) (w : World) : Calls Try.prog 62 #[.int .i64 m] w fun e w' => ∃ p, e = .returned (mayF p) ∧ w.heap.size ≤ p ∧ Box w' p #[.int .i64 m] ∧ Below w.heap.size w w' := by
  have hmf : ∀ (fn : Fn) (first cap : Array Value) (w : World), (Instr.makeFunc fn first cap).run Try.prog w = .ok (.func fn first cap) w := fun _ _ _ _ => rfl
  have K := (Kn.start w).new w.heap.size #[.int .i64 m] 3 rfl
  have HK := Lib.hid K
  clear K
  go_enter Try.func62, Try.ntmps62
  go_wp2
  go_ret
  exact ⟨w.heap.size, rfl, Nat.le_refl _, HK.out.1, HK.out.2.1⟩
theorem qmay_any (p : Nat) (m v : Int) (w : World) (hB : Box w p #[.int .i64 m]) (hm : 0 ≤ m ∧ m ≤ 1152921504606846976) :
    Calls Try.prog 85 #[.int .i64 v, .pointer (some ⟨p, 0, none⟩)] w fun e w' => e = .returned (.bool (inB m v)) ∧ w = w' := by
  have kc := Box.cells hB
  have kl := Box.lt hB
  have z : IntKind.i64.wrap (-m) = -m := by rw [IntKind.wrap_i64]; omega
  by_cases h1 : -m ≤ v
  · by_cases h2 : v ≤ m
    · have HT : Hid (inB m v = true) := Lib.hid (by unfold inB; exact decide_eq_true ⟨h1, h2⟩)
      rw [HT.out]
      go_enter Try.func85, Try.ntmps85
      go_wp2
      go_ret
      exact ⟨rfl, rfl⟩
    · have HT : Hid (inB m v = false) := Lib.hid (by unfold inB; exact decide_eq_false (by omega))
      rw [HT.out]
      go_enter Try.func85, Try.ntmps85
      go_wp2
      go_ret
      exact ⟨rfl, rfl⟩
  · have HT : Hid (inB m v = false) := Lib.hid (by unfold inB; exact decide_eq_false (by omega))
    rw [HT.out]
    go_enter Try.func85, Try.ntmps85
    go_wp2
    go_ret
    exact ⟨rfl, rfl⟩
end Go.Proofs.Ytmnoddmecghjdaa
