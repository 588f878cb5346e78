/- Walks of the document's answer for layer 11: apart, eighth, Line. -/
import Derived.Test.YtlkogokhcdehfaaDw4
namespace Go.Proofs.Ytlkogokhcdehfaa
open Go.RowKit Go.Kin
set_option linter.unusedVariables false

def apI (a b : Int) : Int := max (a - b) (b - a)
theorem apI_ap {a b : Int} : apI a b = ap a b := by unfold apI ap; omega

set_option maxHeartbeats 400000 in
theorem rapart_any (a b : Int) (ha : 0 ≤ a ∧ a ≤ 255) (hb : 0 ≤ b ∧ b ≤ 255) (w : World) :
    Calls Try.prog 51 #[.int .i64 a, .int .i64 b] w fun e w' => e = .returned (.int .i64 (ap a b)) ∧ w = w' := by
  have H := Lib.hid (show ap a b = max a b - min a b from rfl)
  obtain ⟨ha0, ha1⟩ := ha
  obtain ⟨hb0, hb1⟩ := hb
  go_enter Try.func51, Try.ntmps51
  go_wp2
  all_goals go_ret
  all_goals exact ⟨ret_int (by have := H.out; omega), rfl⟩

def ei (v : Int) : Int := v / 8
set_option maxHeartbeats 400000 in
theorem eighth_any (v : Int) (h0 : -100000 ≤ v) (h1 : v ≤ 100000) (w : World) :
    Calls Try.prog 52 #[.int .i64 v] w fun e w' => e = .returned (.int .i64 (ei v)) ∧ w = w' := by
  have H := Lib.hid (show ei v = v / 8 from rfl)
  by_cases hv : 0 ≤ v
  all_goals go_enter Try.func52, Try.ntmps52
  all_goals go_wp2
  all_goals go_ret
  all_goals exact ⟨ret_int (by have := H.out; omega), rfl⟩

set_option maxHeartbeats 1000000 in
theorem rline_any (a b c d q : Int) (ha : 0 ≤ a ∧ a ≤ 255) (hb : 0 ≤ b ∧ b ≤ 255) (hc : 0 ≤ c ∧ c ≤ 255) (hd : 0 ≤ d ∧ d ≤ 255) (w : World) (wq : -9223372036854775808 ≤ q ∧ q ≤ 9223372036854775807) :
    Calls Try.prog 16 #[.int .u8 a, .int .u8 b, .int .u8 c, .int .u8 d, .int .i64 q] w fun e w' => e = .returned (.tuple #[.int .u8 (ln1 a b c d q), .int .u8 (ln2 a b c d q)]) ∧ w = w' := by
  obtain ⟨ha0, ha1⟩ := ha
  obtain ⟨hb0, hb1⟩ := hb
  obtain ⟨hc0, hc1⟩ := hc
  obtain ⟨hd0, hd1⟩ := hd
  obtain ⟨wq0, wq1⟩ := wq
  obtain ⟨x0, x1⟩ := ap_bd ⟨hb0, hb1⟩ ⟨hc0, hc1⟩
  obtain ⟨y0, y1⟩ := ap_bd ⟨ha0, ha1⟩ ⟨hb0, hb1⟩
  obtain ⟨z0, z1⟩ := ap_bd ⟨hc0, hc1⟩ ⟨hd0, hd1⟩
  by_cases h : lnOff a b c d q = true
  · have HF := Lib.hid (ln_off h)
    have h3 : q < 0 ∨ (0 ≤ q ∧ 31 < q) ∨ (0 ≤ q ∧ q ≤ 31 ∧ q / 2 = 0) ∨ (2 ≤ q ∧ q ≤ 31 ∧ 4 * (q / 2) ≤ ap b c) ∨ (2 ≤ q ∧ q ≤ 31 ∧ ¬ (4 * (q / 2) ≤ ap b c) ∧ 2 * (q / 2) ≤ ap a b) ∨ (2 ≤ q ∧ q ≤ 31 ∧ ¬ (4 * (q / 2) ≤ ap b c) ∧ ¬ (2 * (q / 2) ≤ ap a b) ∧ 2 * (q / 2) ≤ ap c d) := by simp [lnOff] at h; omega
    clear h
    rcases h3 with h3 | ⟨h2, h3⟩ | ⟨h1, h2, h3⟩ | ⟨h1, h2, h3⟩ | ⟨h1, h2, h3, h4⟩ | ⟨h1, h2, h3, h4, h5⟩
    · go_enter Try.func16, Try.ntmps16
      go_wp2_with (first | (go_at_call 51; refine (rapart_any _ _ ⟨by omega, by omega⟩ ⟨by omega, by omega⟩ _).mono ?_; rintro e w' ⟨rfl, rfl⟩))
      go_ret2
      rw [HF.out.1, HF.out.2]
      exact ⟨rfl, rfl⟩
    · go_enter Try.func16, Try.ntmps16
      go_wp2_with (first | (go_at_call 51; refine (rapart_any _ _ ⟨by omega, by omega⟩ ⟨by omega, by omega⟩ _).mono ?_; rintro e w' ⟨rfl, rfl⟩))
      go_ret2
      rw [HF.out.1, HF.out.2]
      exact ⟨rfl, rfl⟩
    · have hz : (q / 2 == 0) = true := by simp [h3]
      clear h3
      go_enter Try.func16, Try.ntmps16
      go_wp2_with (first | (go_at_call 51; refine (rapart_any _ _ ⟨by omega, by omega⟩ ⟨by omega, by omega⟩ _).mono ?_; rintro e w' ⟨rfl, rfl⟩))
      go_ret2
      rw [HF.out.1, HF.out.2]
      exact ⟨rfl, rfl⟩
    all_goals have hz : (q / 2 == 0) = false := by simp; omega
    all_goals go_enter Try.func16, Try.ntmps16
    all_goals go_wp2_with (first | (go_at_call 51; refine (rapart_any _ _ ⟨by omega, by omega⟩ ⟨by omega, by omega⟩ _).mono ?_; rintro e w' ⟨rfl, rfl⟩))
    all_goals go_ret2
    all_goals rw [HF.out.1, HF.out.2]
    all_goals exact ⟨rfl, rfl⟩
  · have h' : lnOff a b c d q = false := by simpa using h
    clear h
    have HF := Lib.hid (ln_on h')
    have h0 : 0 ≤ q ∧ q ≤ 31 ∧ q / 2 ≤ 15 ∧ 0 ≤ q / 2 := by simp [lnOff] at h'; omega
    obtain ⟨g1, g2, g3, g4⟩ := h0
    have h3 : ¬ (4 * (q / 2) ≤ ap b c) := by simp [lnOff] at h'; omega
    have h4 : ¬ (2 * (q / 2) ≤ ap a b) := by simp [lnOff] at h'; omega
    have h5 : ¬ (2 * (q / 2) ≤ ap c d) := by simp [lnOff] at h'; omega
    clear h'
    have hz : (q / 2 == 0) = false := by simp; omega
    have be : -300 ≤ ei (4 * (c - b) + a - d + 4) ∧ ei (4 * (c - b) + a - d + 4) ≤ 300 := by unfold ei; omega
    obtain ⟨be0, be1⟩ := be
    go_enter Try.func16, Try.ntmps16
    go_wp2_with (first | (go_at_call 51; refine (rapart_any _ _ ⟨by omega, by omega⟩ ⟨by omega, by omega⟩ _).mono ?_; rintro e w' ⟨rfl, rfl⟩) | (go_at_call 52; refine (eighth_any _ (by omega) (by omega) _).mono ?_; rintro e w' ⟨rfl, rfl⟩))
    all_goals go_ret2
    all_goals rw [HF.out.1, HF.out.2]
    all_goals exact ⟨ret_two (by unfold ei at *; unfold clipI lnM; omega) (by unfold ei at *; unfold clipI lnM; omega), rfl⟩
end Go.Proofs.Ytlkogokhcdehfaa
