/- Walks of package deblock: clip, apart, known, Line. -/
import Derived.Test.YtlkogokhcdehfaaPw1
import Derived.Test.YtlkogokhcdehfaaDm
namespace Go.Proofs.Ytlkogokhcdehfaa
open Go.RowKit Go.Kin

def knownB (q : Int) : Bool := decide (0 ≤ q ∧ q ≤ 31)
set_option maxHeartbeats 400000 in
theorem known_any (q : Int) (w : World) :
    Calls Try.prog 48 #[.int .i64 q] w fun e w' => e = .returned (.bool (knownB q)) ∧ w = w' := by
  have H := Lib.hid (show knownB q = decide (0 ≤ q ∧ q ≤ 31) from rfl)
  by_cases h1 : 0 ≤ q
  all_goals by_cases h2 : q ≤ 31
  all_goals go_enter Try.func48, Try.ntmps48
  all_goals go_wp2
  all_goals go_ret
  all_goals exact ⟨ret_bool (by rw [H.out]; simp [*]), rfl⟩

set_option maxHeartbeats 400000 in
theorem dapart_any (a b : Int) (ha : 0 ≤ a ∧ a ≤ 255) (hb : 0 ≤ b ∧ b ≤ 255) (w : World) :
    Calls Try.prog 49 #[.int .u8 a, .int .u8 b] w fun e w' => e = .returned (.int .i64 (ap a b)) ∧ w = w' := by
  have H := Lib.hid (show ap a b = max a b - min a b from rfl)
  obtain ⟨ha0, ha1⟩ := ha
  obtain ⟨hb0, hb1⟩ := hb
  go_enter Try.func49, Try.ntmps49
  go_wp2
  all_goals go_ret
  all_goals exact ⟨ret_int (by have := H.out; omega), rfl⟩

set_option maxHeartbeats 400000 in
theorem clip_any (v : Int) (w : World) (h0 : -9223372036854775808 ≤ v) (h1 : v ≤ 9223372036854775807) :
    Calls Try.prog 50 #[.int .i64 v] w fun e w' => e = .returned (.int .u8 (clipI v)) ∧ w = w' := by
  have H := Lib.hid (show clipI v = min (max v 0) 255 from rfl)
  go_enter Try.func50, Try.ntmps50
  go_wp2
  all_goals go_ret
  all_goals exact ⟨ret_int (by have := H.out; omega), rfl⟩

set_option maxHeartbeats 400000 in
theorem line_any (a b c d q : Int) (ha : 0 ≤ a ∧ a ≤ 255) (hb : 0 ≤ b ∧ b ≤ 255) (hc : 0 ≤ c ∧ c ≤ 255) (hd : 0 ≤ d ∧ d ≤ 255) (w : World) :
    Calls Try.prog 15 #[.int .u8 a, .int .u8 b, .int .u8 c, .int .u8 d, .int .i64 q] w fun e w' => e = .returned (.tuple #[.int .u8 (ln1 a b c d q), .int .u8 (ln2 a b c d q)]) ∧ w = w' := by
  obtain ⟨ha0, ha1⟩ := ha
  obtain ⟨hb0, hb1⟩ := hb
  obtain ⟨hc0, hc1⟩ := hc
  obtain ⟨hd0, hd1⟩ := hd
  cases hk : knownB q with
  | false =>
    have HF := Lib.hid (ln_off (a := a) (b := b) (c := c) (d := d) (q := q) (by simp [knownB] at hk; simp [lnOff]; omega))
    go_enter Try.func15, Try.ntmps15
    go_wp2_with (go_at_call 48; refine (known_any _ _).mono ?_; rintro e w' ⟨rfl, rfl⟩)
    go_ret2
    rw [HF.out.1, HF.out.2]
    exact ⟨rfl, rfl⟩
  | true =>
    have hq : 0 ≤ q ∧ q ≤ 31 := by simpa [knownB] using hk
    obtain ⟨hq0, hq1⟩ := hq
    have hs : q / 2 ≤ 15 := by omega
    have hs0 : 0 ≤ q / 2 := by omega
    obtain ⟨x0, x1⟩ := ap_bd ⟨hb0, hb1⟩ ⟨hc0, hc1⟩
    obtain ⟨y0, y1⟩ := ap_bd ⟨ha0, ha1⟩ ⟨hb0, hb1⟩
    obtain ⟨z0, z1⟩ := ap_bd ⟨hc0, hc1⟩ ⟨hd0, hd1⟩
    by_cases h : lnOff a b c d q = true
    · have HF := Lib.hid (ln_off h)
      have h3 : 4 * (q / 2) ≤ ap b c ∨ (¬ (4 * (q / 2) ≤ ap b c) ∧ 2 * (q / 2) ≤ ap a b) ∨ (¬ (4 * (q / 2) ≤ ap b c) ∧ ¬ (2 * (q / 2) ≤ ap a b) ∧ 2 * (q / 2) ≤ ap c d) := by simp [lnOff] at h; omega
      clear h
      rcases h3 with h3 | ⟨h3, h4⟩ | ⟨h3, h4, h5⟩
      all_goals go_enter Try.func15, Try.ntmps15
      all_goals go_wp2_with (first | (go_at_call 48; refine (known_any _ _).mono ?_; rintro e w' ⟨rfl, rfl⟩) | (go_at_call 49; refine (dapart_any _ _ ⟨by omega, by omega⟩ ⟨by omega, by omega⟩ _).mono ?_; rintro e w' ⟨rfl, rfl⟩) | (go_at_call 50; refine (clip_any _ _ (by omega) (by omega)).mono ?_; rintro e w' ⟨rfl, rfl⟩))
      all_goals go_ret2
      all_goals rw [HF.out.1, HF.out.2]
      all_goals exact ⟨rfl, rfl⟩
    · have h' : lnOff a b c d q = false := by simpa using h
      clear h
      have HF := Lib.hid (ln_on h')
      have h3 : ¬ (4 * (q / 2) ≤ ap b c) := by simp [lnOff] at h'; omega
      have h4 : ¬ (2 * (q / 2) ≤ ap a b) := by simp [lnOff] at h'; omega
      have h5 : ¬ (2 * (q / 2) ≤ ap c d) := by simp [lnOff] at h'; omega
      clear h'
      go_enter Try.func15, Try.ntmps15
      go_wp2_with (first | (go_at_call 48; refine (known_any _ _).mono ?_; rintro e w' ⟨rfl, rfl⟩) | (go_at_call 49; refine (dapart_any _ _ ⟨by omega, by omega⟩ ⟨by omega, by omega⟩ _).mono ?_; rintro e w' ⟨rfl, rfl⟩) | (go_at_call 50; refine (clip_any _ _ (by omega) (by omega)).mono ?_; rintro e w' ⟨rfl, rfl⟩))
      all_goals go_ret2
      all_goals rw [HF.out.1, HF.out.2]
      all_goals exact ⟨ret_two (congrArg clipI (by unfold lnM; omega)) (congrArg clipI (by unfold lnM; omega)), rfl⟩
end Go.Proofs.Ytlkogokhcdehfaa
