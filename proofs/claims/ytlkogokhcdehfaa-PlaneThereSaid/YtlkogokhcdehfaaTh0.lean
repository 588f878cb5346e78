/- PlaneThere's tests that end it early, walked. -/
import Derived.Test.YtlkogokhcdehfaaAl6
import Derived.Test.YtlkogokhcdehfaaPm1
import Derived.Test.YtlkogokhcdehfaaRg3
import Derived.Test.YtlkogokhcdehfaaClose
import Derived.Deep.DeepCutAuto
namespace Go.Proofs.Ytlkogokhcdehfaa
open Go.ChangeShapes Go.WideShapes Go.ChangeAt Go.RowKit Go.Joins Go.Kin
set_option linter.unusedVariables false

namespace PlaneThere
/-- The tests that end it early. -/
def early (W H : Int) (N m : Nat) (x y n : Int) : Prop := fitB N = false ∨ (fitB N = true ∧ rightB W H N = false) ∨ (fitB N = true ∧ rightB W H N = true ∧ n < 1) ∨ (fitB N = true ∧ rightB W H N = true ∧ ¬ n < 1 ∧ 64 < n)
  ∨ (fitB N = true ∧ rightB W H N = true ∧ 1 ≤ n ∧ n ≤ 64 ∧ ((m : Int) == n * n) = false ∧ ((m : Int) != n * n) = true) ∨ (fitB N = true ∧ rightB W H N = true ∧ 1 ≤ n ∧ n ≤ 64 ∧ (m : Int) = n * n ∧ x < 0)
  ∨ (fitB N = true ∧ rightB W H N = true ∧ 1 ≤ n ∧ n ≤ 64 ∧ (m : Int) = n * n ∧ ¬ x < 0 ∧ y < 0) ∨ (fitB N = true ∧ rightB W H N = true ∧ 1 ≤ n ∧ n ≤ 64 ∧ (m : Int) = n * n ∧ ¬ x < 0 ∧ ¬ y < 0 ∧ W - n < x)
  ∨ (fitB N = true ∧ rightB W H N = true ∧ 1 ≤ n ∧ n ≤ 64 ∧ (m : Int) = n * n ∧ ¬ x < 0 ∧ ¬ y < 0 ∧ ¬ W - n < x ∧ H - n < y)
theorem early_not {W H : Int} {N m : Nat} {x y n : Int} (h : ¬ early W H N m x y n) : fitB N = true ∧ rightB W H N = true ∧ 1 ≤ n ∧ n ≤ 64 ∧ (m : Int) = n * n ∧ 0 ≤ x ∧ 0 ≤ y ∧ x ≤ W - n ∧ y ≤ H - n := by
  unfold early at h
  cases h1 : fitB N with
  | false => exact absurd (.inl h1) h
  | true =>
    cases h2 : rightB W H N with
    | false => exact absurd (.inr (.inl ⟨h1, h2⟩)) h
    | true =>
      simp only [h1, h2, true_and, Bool.true_eq_false, false_or] at h
      have h3 : (m : Int) = n * n ∨ (((m : Int) == n * n) = false ∧ ((m : Int) != n * n) = true) := by
        by_cases e : (m : Int) = n * n
        · exact .inl e
        · exact .inr ⟨by simp [e], by simp [e]⟩
      rcases h3 with h3 | h3
      · simp only [h3, beq_self_eq_true, Bool.true_eq_false, false_and, and_false, false_or, true_and] at h
        refine ⟨rfl, rfl, ?_⟩
        generalize n * n = q at *
        omega
      · simp only [h3, and_true] at h
        exfalso
        omega

set_option maxRecDepth 100000 in
set_option maxHeartbeats 4000000 in
theorem walk_no (w : World) (p : PlV) (x y n : Int) (B : Option Addr) (m d : Nat) (h : early p.a p.b p.n m x y n) :
    Calls Try.prog 10 #[.agg #[.int .i64 p.a, .int .i64 p.b, .slice p.A p.n p.c], .agg #[.int .i64 x, .int .i64 y, .int .i64 n], .slice B m d] w fun e w' => e = .returned (.bool true) ∧ Below w.heap.size w w' := by
  have K := Kn.start w
  have HRB : ∀ w1 : World, Calls Try.prog 20 #[.agg #[.int .i64 p.a, .int .i64 p.b, .slice p.A p.n p.c]] w1 fun e w' => e = .returned (.bool (rightB p.a p.b p.n)) ∧ Below w1.heap.size w1 w' := fun w1 => right_any _ _ _ _ _ _
  have HR := Lib.hid HRB
  clear HRB
  unfold early at h
  rcases h with h1 | ⟨h1, h2⟩ | ⟨h1, h2, h3⟩ | ⟨h1, h2, h3, h4⟩ | ⟨h1, h2, h3, h4, h5, h6⟩ | ⟨h1, h2, h3, h4, h5, h6⟩ | ⟨h1, h2, h3, h4, h5, h6, h7⟩ | ⟨h1, h2, h3, h4, h5, h6, h7, h8⟩ | ⟨h1, h2, h3, h4, h5, h6, h7, h8, h9⟩
  · go_enter Try.func10, Try.ntmps10
    go_wp2_with fail
    refine (fits_any _ _ _ _ _ _).mono ?_
    rintro e w1 ⟨rfl, hb1⟩
    replace K := ((K.new w.heap.size _ _ rfl).new (w.heap.size + 1) _ _ (by simp)).below hb1
    clear hb1
    replace kc0 := Box.cells K.1
    replace kl0 := Box.lt K.1
    replace kc1 := Box.cells K.2.1
    replace kl1 := Box.lt K.2.1
    replace L : Below _ _ _ := K.2.2.1
    go_wp2_with fail
    refine (alive06 _).mono ?_
    rintro e w2 ⟨rfl, hb2⟩
    replace K := K.below hb2
    clear hb2
    replace L : Below _ _ _ := K.2.2.1
    go_wp2
    go_ret
    exact ⟨rfl, L⟩
  · go_enter Try.func10, Try.ntmps10
    go_wp2_with fail
    refine (fits_any _ _ _ _ _ _).mono ?_
    rintro e w1 ⟨rfl, hb1⟩
    replace K := ((K.new w.heap.size _ _ rfl).new (w.heap.size + 1) _ _ (by simp)).below hb1
    clear hb1
    replace kc0 := Box.cells K.1
    replace kl0 := Box.lt K.1
    replace kc1 := Box.cells K.2.1
    replace kl1 := Box.lt K.2.1
    replace L : Below _ _ _ := K.2.2.1
    go_wp2_with fail
    refine (HR.out _).mono ?_
    rintro e w2 ⟨rfl, hb2⟩
    replace K := K.below hb2
    clear hb2
    replace kc0 := Box.cells K.1
    replace kl0 := Box.lt K.1
    replace kc1 := Box.cells K.2.1
    replace kl1 := Box.lt K.2.1
    replace L : Below _ _ _ := K.2.2.1
    go_wp2_with fail
    refine (alive06 _).mono ?_
    rintro e w3 ⟨rfl, hb3⟩
    replace K := K.below hb3
    clear hb3
    replace L : Below _ _ _ := K.2.2.1
    go_wp2
    go_ret
    exact ⟨rfl, L⟩
  all_goals obtain ⟨r1, r2, r3, r4, r5⟩ := rightB_iff.1 h2
  all_goals have HR5 := Lib.hid r5
  all_goals clear r5
  iterate 2 rotate_left
  all_goals first | (have m1 : 0 ≤ n * n := Int.mul_nonneg (by omega) (by omega); have m2 : n * n ≤ 4096 := (by have := Int.mul_le_mul h4 h4 (by omega) (by omega); omega)) | skip
  all_goals go_enter Try.func10, Try.ntmps10
  all_goals go_wp2_with fail
  all_goals refine (fits_any _ _ _ _ _ _).mono ?_
  all_goals rintro e w1 ⟨rfl, hb1⟩
  all_goals replace K := ((K.new w.heap.size _ _ rfl).new (w.heap.size + 1) _ _ (by simp)).below hb1
  all_goals clear hb1
  all_goals replace kc0 := Box.cells K.1
  all_goals replace kl0 := Box.lt K.1
  all_goals replace kc1 := Box.cells K.2.1
  all_goals replace kl1 := Box.lt K.2.1
  all_goals replace L : Below _ _ _ := K.2.2.1
  all_goals go_wp2_with fail
  all_goals refine (HR.out _).mono ?_
  all_goals rintro e w2 ⟨rfl, hb2⟩
  all_goals replace K := K.below hb2
  all_goals clear hb2
  all_goals replace kc0 := Box.cells K.1
  all_goals replace kl0 := Box.lt K.1
  all_goals replace kc1 := Box.cells K.2.1
  all_goals replace kl1 := Box.lt K.2.1
  all_goals replace L : Below _ _ _ := K.2.2.1
  all_goals go_wp2_with fail
  all_goals refine (alive06 _).mono ?_
  all_goals rintro e w3 ⟨rfl, hb3⟩
  all_goals replace K := K.below hb3
  all_goals clear hb3
  all_goals replace L : Below _ _ _ := K.2.2.1
  all_goals go_wp2
  all_goals go_ret
  all_goals exact ⟨rfl, L⟩
end PlaneThere
end Go.Proofs.Ytlkogokhcdehfaa
