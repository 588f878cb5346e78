/- Package book without a book, without an encoder, without a decoder: ErrArg. -/
import Derived.Test.YtmnoddmecghjdaaAc1
set_option linter.unusedVariables false
namespace Go.Kin
theorem quietB {P : Program} {f : FuncId} {args : Array Value} {w : World} {v : Value} (h : Calls P f args w fun e w' => e = .returned v ∧ w = w') : Calls P f args w fun e w' => e = .returned v ∧ RowKit.Below w.heap.size w w' :=
  h.mono fun _ _ ⟨he, hw⟩ => ⟨he, by subst hw; exact RowKit.Below.refl _ _⟩
end Go.Kin
namespace Go.Proofs.Ytmnoddmecghjdaa
open Go.RowKit Go.Kin
theorem nPut_b (p : Option Addr) (t v : Int) (w : World) : Calls Try.prog 28 #[.pointer none, .pointer p, .int .i64 t, .int .i64 v] w fun e w' => e = .returned (.int .i64 1) ∧ w = w' := by
  go_enter Try.func28, Try.ntmps28
  go_wp2_with (go_at_call 59; refine (topic_nil _ _).mono ?_; rintro e w' ⟨rfl, rfl⟩)
  go_ret
  exact ⟨rfl, rfl⟩
theorem nPut_x (b : Nat) (t v : Int) (w : World) : Calls Try.prog 28 #[.pointer (some ⟨b, 0, none⟩), .pointer none, .int .i64 t, .int .i64 v] w fun e w' => e = .returned (.int .i64 1) ∧ w = w' := by
  cases ht : topB t
  · go_enter Try.func28, Try.ntmps28
    go_wp2_with (go_at_call 59; refine (topic_no _ _ _ ht).mono ?_; rintro e w' ⟨rfl, rfl⟩)
    go_ret
    exact ⟨rfl, rfl⟩
  · obtain ⟨u, rfl, hu⟩ := topB_yes ht
    clear ht
    go_enter Try.func28, Try.ntmps28
    go_wp2_with (go_at_call 59; refine (topic_yes _ _ _ hu).mono ?_; rintro e w' ⟨rfl, rfl⟩)
    go_ret
    exact ⟨rfl, rfl⟩
theorem nPutSigned_b (p : Option Addr) (t v : Int) (w : World) : Calls Try.prog 48 #[.pointer none, .pointer p, .int .i64 t, .int .i64 v] w fun e w' => e = .returned (.int .i64 1) ∧ w = w' := by
  go_enter Try.func48, Try.ntmps48
  go_wp2_with (go_at_call 59; refine (topic_nil _ _).mono ?_; rintro e w' ⟨rfl, rfl⟩)
  go_ret
  exact ⟨rfl, rfl⟩
theorem nPutSigned_x (b : Nat) (t v : Int) (w : World) : Calls Try.prog 48 #[.pointer (some ⟨b, 0, none⟩), .pointer none, .int .i64 t, .int .i64 v] w fun e w' => e = .returned (.int .i64 1) ∧ w = w' := by
  cases ht : topB t
  · go_enter Try.func48, Try.ntmps48
    go_wp2_with (go_at_call 59; refine (topic_no _ _ _ ht).mono ?_; rintro e w' ⟨rfl, rfl⟩)
    go_ret
    exact ⟨rfl, rfl⟩
  · obtain ⟨u, rfl, hu⟩ := topB_yes ht
    clear ht
    go_enter Try.func48, Try.ntmps48
    go_wp2_with (go_at_call 59; refine (topic_yes _ _ _ hu).mono ?_; rintro e w' ⟨rfl, rfl⟩)
    go_ret
    exact ⟨rfl, rfl⟩
theorem nPutOne_b (p : Option Addr) (t n v : Int) (w : World) : Calls Try.prog 49 #[.pointer none, .pointer p, .int .i64 t, .int .i64 n, .int .i64 v] w fun e w' => e = .returned (.int .i64 1) ∧ w = w' := by
  go_enter Try.func49, Try.ntmps49
  go_wp2_with (go_at_call 59; refine (topic_nil _ _).mono ?_; rintro e w' ⟨rfl, rfl⟩)
  go_ret
  exact ⟨rfl, rfl⟩
theorem nPutOne_x (b : Nat) (t n v : Int) (w : World) : Calls Try.prog 49 #[.pointer (some ⟨b, 0, none⟩), .pointer none, .int .i64 t, .int .i64 n, .int .i64 v] w fun e w' => e = .returned (.int .i64 1) ∧ w = w' := by
  cases ht : topB t
  · go_enter Try.func49, Try.ntmps49
    go_wp2_with (go_at_call 59; refine (topic_no _ _ _ ht).mono ?_; rintro e w' ⟨rfl, rfl⟩)
    go_ret
    exact ⟨rfl, rfl⟩
  · obtain ⟨u, rfl, hu⟩ := topB_yes ht
    clear ht
    go_enter Try.func49, Try.ntmps49
    go_wp2_with (go_at_call 59; refine (topic_yes _ _ _ hu).mono ?_; rintro e w' ⟨rfl, rfl⟩)
    go_ret
    exact ⟨rfl, rfl⟩
theorem nGet_b (p : Option Addr) (t : Int) (w : World) : Calls Try.prog 55 #[.pointer none, .pointer p, .int .i64 t] w fun e w' => e = .returned (.tuple #[.int .i64 0, .int .i64 1]) ∧ w = w' := by
  go_enter Try.func55, Try.ntmps55
  go_wp2_with (go_at_call 59; refine (topic_nil _ _).mono ?_; rintro e w' ⟨rfl, rfl⟩)
  go_ret2
  exact ⟨rfl, rfl⟩
theorem nGet_x (b : Nat) (t : Int) (w : World) : Calls Try.prog 55 #[.pointer (some ⟨b, 0, none⟩), .pointer none, .int .i64 t] w fun e w' => e = .returned (.tuple #[.int .i64 0, .int .i64 1]) ∧ w = w' := by
  cases ht : topB t
  · go_enter Try.func55, Try.ntmps55
    go_wp2_with (go_at_call 59; refine (topic_no _ _ _ ht).mono ?_; rintro e w' ⟨rfl, rfl⟩)
    go_ret2
    exact ⟨rfl, rfl⟩
  · obtain ⟨u, rfl, hu⟩ := topB_yes ht
    clear ht
    go_enter Try.func55, Try.ntmps55
    go_wp2_with (go_at_call 59; refine (topic_yes _ _ _ hu).mono ?_; rintro e w' ⟨rfl, rfl⟩)
    go_ret2
    exact ⟨rfl, rfl⟩
theorem nGetSigned_b (p : Option Addr) (t : Int) (w : World) : Calls Try.prog 53 #[.pointer none, .pointer p, .int .i64 t] w fun e w' => e = .returned (.tuple #[.int .i64 0, .int .i64 1]) ∧ w = w' := by
  go_enter Try.func53, Try.ntmps53
  go_wp2_with (go_at_call 59; refine (topic_nil _ _).mono ?_; rintro e w' ⟨rfl, rfl⟩)
  go_ret2
  exact ⟨rfl, rfl⟩
theorem nGetSigned_x (b : Nat) (t : Int) (w : World) : Calls Try.prog 53 #[.pointer (some ⟨b, 0, none⟩), .pointer none, .int .i64 t] w fun e w' => e = .returned (.tuple #[.int .i64 0, .int .i64 1]) ∧ w = w' := by
  cases ht : topB t
  · go_enter Try.func53, Try.ntmps53
    go_wp2_with (go_at_call 59; refine (topic_no _ _ _ ht).mono ?_; rintro e w' ⟨rfl, rfl⟩)
    go_ret2
    exact ⟨rfl, rfl⟩
  · obtain ⟨u, rfl, hu⟩ := topB_yes ht
    clear ht
    go_enter Try.func53, Try.ntmps53
    go_wp2_with (go_at_call 59; refine (topic_yes _ _ _ hu).mono ?_; rintro e w' ⟨rfl, rfl⟩)
    go_ret2
    exact ⟨rfl, rfl⟩
theorem nGetOne_b (p : Option Addr) (t n : Int) (w : World) : Calls Try.prog 54 #[.pointer none, .pointer p, .int .i64 t, .int .i64 n] w fun e w' => e = .returned (.tuple #[.int .i64 0, .int .i64 1]) ∧ w = w' := by
  go_enter Try.func54, Try.ntmps54
  go_wp2_with (go_at_call 59; refine (topic_nil _ _).mono ?_; rintro e w' ⟨rfl, rfl⟩)
  go_ret2
  exact ⟨rfl, rfl⟩
theorem nGetOne_x (b : Nat) (t n : Int) (w : World) : Calls Try.prog 54 #[.pointer (some ⟨b, 0, none⟩), .pointer none, .int .i64 t, .int .i64 n] w fun e w' => e = .returned (.tuple #[.int .i64 0, .int .i64 1]) ∧ w = w' := by
  cases ht : topB t
  · go_enter Try.func54, Try.ntmps54
    go_wp2_with (go_at_call 59; refine (topic_no _ _ _ ht).mono ?_; rintro e w' ⟨rfl, rfl⟩)
    go_ret2
    exact ⟨rfl, rfl⟩
  · obtain ⟨u, rfl, hu⟩ := topB_yes ht
    clear ht
    go_enter Try.func54, Try.ntmps54
    go_wp2_with (go_at_call 59; refine (topic_yes _ _ _ hu).mono ?_; rintro e w' ⟨rfl, rfl⟩)
    go_ret2
    exact ⟨rfl, rfl⟩
theorem nput_b (p : Option Addr) (k t n v : Int) (w : World) : Calls Try.prog 19 #[.agg #[.int .i64 k, .int .i64 t, .int .i64 n, .int .i64 v], .pointer none, .pointer p] w fun e w' => e = .returned (.int .i64 1) ∧ Below w.heap.size w w' := by
  have hA := (Kn.start w).new w.heap.size #[.int .i64 k, .int .i64 t, .int .i64 n, .int .i64 v] 33 rfl
  have kc := Box.cells hA.1
  have L : Below _ _ _ := hA.2.1
  clear hA
  by_cases h1 : k = 1
  · subst h1
    go_enter Try.func19, Try.ntmps19
    go_wp2_with (go_at_call 28; refine (nPut_b _ _ _ _).mono ?_; rintro e w' ⟨rfl, rfl⟩)
    go_ret
    exact ⟨rfl, L⟩
  · have e1 : (k == 1) = false := by simp [h1]
    by_cases h2 : k = 2
    · subst h2
      clear h1
      go_enter Try.func19, Try.ntmps19
      go_wp2_with (go_at_call 48; refine (nPutSigned_b _ _ _ _).mono ?_; rintro e w' ⟨rfl, rfl⟩)
      go_ret
      exact ⟨rfl, L⟩
    · have e2 : (k == 2) = false := by simp [h2]
      clear h1 h2
      go_enter Try.func19, Try.ntmps19
      go_wp2_with (go_at_call 49; refine (nPutOne_b _ _ _ _ _).mono ?_; rintro e w' ⟨rfl, rfl⟩)
      go_ret
      exact ⟨rfl, L⟩
theorem nput_x (b : Nat) (k t n v : Int) (w : World) : Calls Try.prog 19 #[.agg #[.int .i64 k, .int .i64 t, .int .i64 n, .int .i64 v], .pointer (some ⟨b, 0, none⟩), .pointer none] w fun e w' => e = .returned (.int .i64 1) ∧ Below w.heap.size w w' := by
  have hA := (Kn.start w).new w.heap.size #[.int .i64 k, .int .i64 t, .int .i64 n, .int .i64 v] 33 rfl
  have kc := Box.cells hA.1
  have L : Below _ _ _ := hA.2.1
  clear hA
  by_cases h1 : k = 1
  · subst h1
    go_enter Try.func19, Try.ntmps19
    go_wp2_with (go_at_call 28; refine (nPut_x _ _ _ _).mono ?_; rintro e w' ⟨rfl, rfl⟩)
    go_ret
    exact ⟨rfl, L⟩
  · have e1 : (k == 1) = false := by simp [h1]
    by_cases h2 : k = 2
    · subst h2
      clear h1
      go_enter Try.func19, Try.ntmps19
      go_wp2_with (go_at_call 48; refine (nPutSigned_x _ _ _ _).mono ?_; rintro e w' ⟨rfl, rfl⟩)
      go_ret
      exact ⟨rfl, L⟩
    · have e2 : (k == 2) = false := by simp [h2]
      clear h1 h2
      go_enter Try.func19, Try.ntmps19
      go_wp2_with (go_at_call 49; refine (nPutOne_x _ _ _ _ _).mono ?_; rintro e w' ⟨rfl, rfl⟩)
      go_ret
      exact ⟨rfl, L⟩
theorem nget_b (p : Option Addr) (k t n v : Int) (w : World) : Calls Try.prog 26 #[.agg #[.int .i64 k, .int .i64 t, .int .i64 n, .int .i64 v], .pointer none, .pointer p] w fun e w' => e = .returned (.tuple #[.int .i64 0, .int .i64 1]) ∧ Below w.heap.size w w' := by
  have hA := (Kn.start w).new w.heap.size #[.int .i64 k, .int .i64 t, .int .i64 n, .int .i64 v] 33 rfl
  have kc := Box.cells hA.1
  have L : Below _ _ _ := hA.2.1
  clear hA
  by_cases h1 : k = 1
  · subst h1
    go_enter Try.func26, Try.ntmps26
    go_wp2_with (go_at_call 55; refine (nGet_b _ _ _).mono ?_; rintro e w' ⟨rfl, rfl⟩)
    go_ret2
    exact ⟨rfl, L⟩
  · have e1 : (k == 1) = false := by simp [h1]
    by_cases h2 : k = 2
    · subst h2
      clear h1
      go_enter Try.func26, Try.ntmps26
      go_wp2_with (go_at_call 53; refine (nGetSigned_b _ _ _).mono ?_; rintro e w' ⟨rfl, rfl⟩)
      go_ret2
      exact ⟨rfl, L⟩
    · have e2 : (k == 2) = false := by simp [h2]
      clear h1 h2
      go_enter Try.func26, Try.ntmps26
      go_wp2_with (go_at_call 54; refine (nGetOne_b _ _ _ _).mono ?_; rintro e w' ⟨rfl, rfl⟩)
      go_ret2
      exact ⟨rfl, L⟩
theorem nget_x (b : Nat) (k t n v : Int) (w : World) : Calls Try.prog 26 #[.agg #[.int .i64 k, .int .i64 t, .int .i64 n, .int .i64 v], .pointer (some ⟨b, 0, none⟩), .pointer none] w fun e w' => e = .returned (.tuple #[.int .i64 0, .int .i64 1]) ∧ Below w.heap.size w w' := by
  have hA := (Kn.start w).new w.heap.size #[.int .i64 k, .int .i64 t, .int .i64 n, .int .i64 v] 33 rfl
  have kc := Box.cells hA.1
  have L : Below _ _ _ := hA.2.1
  clear hA
  by_cases h1 : k = 1
  · subst h1
    go_enter Try.func26, Try.ntmps26
    go_wp2_with (go_at_call 55; refine (nGet_x _ _ _).mono ?_; rintro e w' ⟨rfl, rfl⟩)
    go_ret2
    exact ⟨rfl, L⟩
  · have e1 : (k == 1) = false := by simp [h1]
    by_cases h2 : k = 2
    · subst h2
      clear h1
      go_enter Try.func26, Try.ntmps26
      go_wp2_with (go_at_call 53; refine (nGetSigned_x _ _ _).mono ?_; rintro e w' ⟨rfl, rfl⟩)
      go_ret2
      exact ⟨rfl, L⟩
    · have e2 : (k == 2) = false := by simp [h2]
      clear h1 h2
      go_enter Try.func26, Try.ntmps26
      go_wp2_with (go_at_call 54; refine (nGetOne_x _ _ _ _).mono ?_; rintro e w' ⟨rfl, rfl⟩)
      go_ret2
      exact ⟨rfl, L⟩
end Go.Proofs.Ytmnoddmecghjdaa
