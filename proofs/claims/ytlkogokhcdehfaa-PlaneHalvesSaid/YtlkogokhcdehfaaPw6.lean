/- Walks of package plane: Blank. -/
import Derived.Test.YtlkogokhcdehfaaGiv
namespace Go.Proofs.Ytlkogokhcdehfaa
open Go.RowKit Go.Kin
set_option linter.unusedVariables false

def blankB (a b : Int) : Bool := sidesB a b && (a % 16 == 0) && (b % 16 == 0)
theorem blankB_iff {a b : Int} : blankB a b = true ↔ ((1 ≤ a ∧ a ≤ 4096 ∧ 1 ≤ b ∧ b ≤ 4096) ∧ a % 16 = 0 ∧ b % 16 = 0) := by
  simp only [blankB, Bool.and_eq_true, sidesB_iff, beq_iff_eq, and_assoc]

set_option maxHeartbeats 1000000 in
theorem blank_no (a b v : Int) (w : World) (h : blankB a b = false) :
    Calls Try.prog 32 #[.int .i64 a, .int .i64 b, .int .u8 v] w (GivesF noP noP noP 61 w) := by
  have hc : sidesB a b = false ∨ (sidesB a b = true ∧ (a % 16 != 0) = true) ∨ (sidesB a b = true ∧ (a % 16 != 0) = false ∧ (b % 16 != 0) = true) := by
    cases h1 : sidesB a b with
    | false => exact .inl rfl
    | true =>
      by_cases h2 : a % 16 = 0
      · by_cases h3 : b % 16 = 0
        · simp [blankB, h1, h2, h3] at h
        · exact .inr (.inr ⟨rfl, by simp [h2], by simp [h3]⟩)
      · exact .inr (.inl ⟨rfl, by simp [h2]⟩)
  clear h
  rcases hc with h1 | ⟨h1, h2⟩ | ⟨h1, h2, h3⟩
  rotate_left
  obtain ⟨s1, s2, s3, s4⟩ := sidesB_iff.1 h1
  rotate_left
  obtain ⟨s1, s2, s3, s4⟩ := sidesB_iff.1 h1
  all_goals go_enter Try.func32, Try.ntmps32
  all_goals go_wp2_with (go_at_call 54; refine (sides_any _ _ _).mono ?_; rintro e w' ⟨rfl, rfl⟩)
  all_goals refine bodyPost_ret (v := .tuple #[.agg zero9, .int .i64 61]) (by simp [results, Try.results32, go_sem]) rfl ?_
  all_goals exact GivesF.no ⟨rfl, (Below.refl _ _).alloc (Nat.le_refl _) _⟩

set_option maxHeartbeats 1000000 in
theorem blank_yes (a b v : Int) (N M : Nat) (w : World) (h : blankB a b = true) (hN : a * b = (N : Int)) (hM : (a / 2) * (b / 2) = (M : Int)) :
    Calls Try.prog 32 #[.int .i64 a, .int .i64 b, .int .u8 v] w (GivesF ⟨a, b, none, N, 0, fun _ => v⟩ ⟨a / 2, b / 2, none, M, 0, fun _ => v⟩ ⟨a / 2, b / 2, none, M, 0, fun _ => v⟩ 0 w) := by
  obtain ⟨⟨s1, s2, s3, s4⟩, s5, s6⟩ := blankB_iff.1 h
  have k1 : (a % 16 != 0) = false := by simp [s5]
  have k2 : (b % 16 != 0) = false := by simp [s6]
  have t1 : sidesB a b = true := sidesB_iff.2 ⟨s1, s2, s3, s4⟩
  have t2 : sidesB (a / 2) (b / 2) = true := sidesB_iff.2 (by omega)
  have HN := Lib.hid hN
  have HM := Lib.hid hM
  clear hN hM s5 s6 h
  have K := Kn.start w
  go_enter Try.func32, Try.ntmps32
  go_wp2_with (go_at_call 54; refine (sides_any _ _ _).mono ?_; rintro e w' ⟨rfl, rfl⟩)
  refine (new_yes a b v N _ t1 HN.out).mono ?_
  rintro e w1 ⟨b1, rfl, hb1, hr1, hL1⟩
  simp only [World.size_alloc] at hb1
  replace K := (((K.new w.heap.size _ _ rfl).new (w.heap.size + 1) _ _ (by simp)).below hL1).tuck (x := .row b1 N (by8 fun _ => v)) hr1
  clear hL1 hr1
  replace kc0 := Box.cells K.1
  replace kl0 := Box.lt K.1
  replace kf0 := Box.frees K.1
  replace kc2 := Box.cells K.2.2.1
  replace kl2 := Box.lt K.2.2.1
  replace L : Below _ _ _ := K.2.2.2.1
  have l1 := kl0
  go_wp2_with fail
  refine (new_yes (a / 2) (b / 2) v M _ t2 HM.out).mono ?_
  rintro e w2 ⟨b2, rfl, hb2, hr2, hL2⟩
  simp only [size_set] at hb2
  replace K := ((K.set3 0 _ _ _ ⟨by simp [It.off]; omega, by simp [It.off], by simp [It.off], trivial⟩).below hL2).tuck (x := .row b2 M (by8 fun _ => v)) hr2
  clear hL2 hr2
  replace kc0 := Box.cells K.1
  replace kl0 := Box.lt K.1
  replace kf0 := Box.frees K.1
  replace kc3 := Box.cells K.2.2.2.1
  replace kl3 := Box.lt K.2.2.2.1
  replace L : Below _ _ _ := K.2.2.2.2.1
  have l2 := kl0
  have m2 : b2 ≠ w.heap.size + 1 := by omega
  go_wp2_with fail
  refine (new_yes (a / 2) (b / 2) v M _ t2 HM.out).mono ?_
  rintro e w3 ⟨b3, rfl, hb3, hr3, hL3⟩
  simp only [size_set] at hb3
  replace K := ((K.set3 3 _ _ _ ⟨by simp [It.off]; omega, by simp [It.off]; omega, by simp [It.off], by simp [It.off], trivial⟩).below hL3).tuck (x := .row b3 M (by8 fun _ => v)) hr3
  clear hL3 hr3
  replace kc0 := Box.cells K.1
  replace kl0 := Box.lt K.1
  replace kf0 := Box.frees K.1
  replace kc4 := Box.cells K.2.2.2.2.1
  replace kl4 := Box.lt K.2.2.2.2.1
  replace kf4 := Box.frees K.2.2.2.2.1
  replace L : Below _ _ _ := K.2.2.2.2.2.1
  have m3 : b3 ≠ w.heap.size + 1 := by omega
  go_wp2
  replace K := K.set3 6 (.int .i64 (a / 2)) (.int .i64 (b / 2)) (.slice (some ⟨b3, 0, none⟩) M M) ⟨by simp [It.off]; omega, by simp [It.off]; omega, by simp [It.off]; omega, by simp [It.off], by simp [It.off], trivial⟩
  refine bodyPost_ret (v := .tuple #[.agg #[.int .i64 a, .int .i64 b, .slice (some ⟨b1, 0, none⟩) N N, .int .i64 (a / 2), .int .i64 (b / 2), .slice (some ⟨b2, 0, none⟩) M M, .int .i64 (a / 2), .int .i64 (b / 2), .slice (some ⟨b3, 0, none⟩) M M], .int .i64 0]) (by simp [results, Try.results32, go_sem, kc4]) rfl ?_
  have KF := Kn.set9 (l := [.row b3 M (by8 fun _ => v), .row b2 M (by8 fun _ => v), .row b1 N (by8 fun _ => v), .since w]) ⟨K.2.2.2.2.1, K.2.1, K.2.2.1, K.2.2.2.1, K.2.2.2.2.2.1, trivial⟩ (.int .i64 a) (.int .i64 b) (.slice (some ⟨b1, 0, none⟩) N N) (.int .i64 (a / 2)) (.int .i64 (b / 2)) (.slice (some ⟨b2, 0, none⟩) M M) (.int .i64 (a / 2)) (.int .i64 (b / 2)) (.slice (some ⟨b3, 0, none⟩) M M) ⟨by simp [It.off]; omega, by simp [It.off]; omega, by simp [It.off]; omega, by simp [It.off], trivial⟩
  exact ⟨_, _, _, _, _, _, rfl, Row.rd KF.2.2.1, Row.rd KF.2.1, Row.rd KF.1, KF.2.2.2.1⟩
end Go.Proofs.Ytlkogokhcdehfaa
