/- Walks of the document's layer 10: Search. -/
import Derived.Test.YtcojphdohpgjnaaMo7
import Derived.Test.YtcojphdohpgjnaaMo5
namespace Go.Proofs.Ytcojphdohpgjnaa
open Go.RowKit Go.Kin
set_option linter.unusedVariables false

theorem rsize_any (vx vy : Int) (w : World) (h1 : -1048576 ≤ vx ∧ vx ≤ 1048576) (h2 : -1048576 ≤ vy ∧ vy ≤ 1048576) :
    Calls Try.prog 45 #[.agg #[.int .i64 vx, .int .i64 vy]] w fun e w' => e = .returned (.int .i64 (absI vx + absI vy)) ∧ Below w.heap.size w w' := by
  have K := (Kn.start w).new w.heap.size #[.int .i64 vx, .int .i64 vy] 48 rfl
  have HA := Lib.hid (show absI vx + absI vy = max vx (-vx) + max vy (-vy) from rfl)
  have kc := Box.cells K.1
  go_enter Try.func45, Try.ntmps45
  go_wp2
  go_ret
  exact ⟨ret_int (by rw [HA.out]), K.2.1⟩
set_option maxHeartbeats 2000000 in
/-- No block: nothing is found. -/
theorem rsearch_no1 (W H : Int) (A : Option Addr) (N c : Nat) (x y n : Int) (B : Option Addr) (m d : Nat) (reach : Int) (w : World) (hb : ∀ w, Calls Try.prog 44 #[.agg #[.int .i64 W, .int .i64 H, .slice A N c], .int .i64 x, .int .i64 y, .int .i64 n, .agg #[.int .i64 0, .int .i64 0]] w (NoSl w)) :
    Calls Try.prog 28 #[.agg #[.int .i64 W, .int .i64 H, .slice A N c], .int .i64 x, .int .i64 y, .int .i64 n, .slice B m d, .int .i64 reach] w (GivesV 0 0 0 (fun _ => 0) 0 w) := by
  have K := ((Kn.start w).new w.heap.size #[.int .i64 W, .int .i64 H, .slice A N c] 24 rfl).new (w.heap.size + 1) #[.int .i64 0, .int .i64 0] 48 (by simp)
  have HB := Lib.hid hb
  clear hb
  go_enter Try.func28, Try.ntmps28
  go_wp2_with fail
  refine (HB.out _).mono ?_
  rintro e w1 ⟨rfl, hb1⟩
  replace K := K.below hb1
  clear hb1
  have kc1 := Box.cells K.1
  have kf1 := Box.frees K.1
  have KF := K.set2S 0 (.int .i64 0) (.int .i64 0) ⟨by show w.heap.size ≠ w.heap.size + 1; omega, by show w.heap.size ≤ w.heap.size + 1; omega, trivial⟩
  generalize hwf : (w1.setCell ⟨w.heap.size + 1, 0, none⟩ (.int .i64 0)).setCell ⟨w.heap.size + 1, 0 + 1, none⟩ (.int .i64 0) = wf at KF
  have HWF := Lib.hid hwf
  have HKF := Lib.hid KF
  clear hwf KF K
  go_wp2
  change bodyPost _ _ _ _ _ ((w1.setCell ⟨w.heap.size + 1, 0, none⟩ (.int .i64 0)).setCell ⟨w.heap.size + 1, 0 + 1, none⟩ (.int .i64 0))
  rw [HWF.out]
  have KF := HKF.out
  have d0 := Box.cell KF.1 0
  have d1 := Box.cell KF.1 1
  simp at d0 d1
  refine bodyPost_ret (v := .tuple #[.agg #[.int .i64 0, .int .i64 0], .slice none 0 0, .int .i64 0]) (by simp [results, Try.results28, go_sem, d0, d1]) rfl ⟨none, 0, rfl, Rd.none_ _ _ _, KF.2.2.1⟩

set_option maxHeartbeats 2000000 in
/-- A block of another size, or no such reach. -/
theorem rsearch_no2 (W H : Int) (A : Option Addr) (N c : Nat) (g : Nat → Int) (x y : Int) (n : Nat) (B : Option Addr) (m d : Nat) (reach : Int) (w : World) (hr : rightB W H N = true) (hS : Rd w A N (by8 g)) (hg : Byt g) (h1 : 1 ≤ n) (h2 : n ≤ 64) (s1 : SmB x) (s2 : SmB y)
    (h : ¬ m = n * n ∨ (m = n * n ∧ reach < 0) ∨ (m = n * n ∧ ¬ reach < 0 ∧ 8 < reach)) :
    Calls Try.prog 28 #[.agg #[.int .i64 W, .int .i64 H, .slice A N c], .int .i64 x, .int .i64 y, .int .i64 n, .slice B m d, .int .i64 reach] w (GivesV 0 0 0 (fun _ => 0) 0 w) := by
  have hnn : n * n ≤ 64 * 64 := Nat.mul_le_mul h2 h2
  have hn1 : 1 ≤ n * n := Nat.mul_le_mul h1 h1
  have m1 : (1 : Int) ≤ (n : Int) * n := by have := Int.natCast_mul n n; omega
  have m2 : (n : Int) * n ≤ 4096 := by have := Int.natCast_mul n n; omega
  have K := (((Kn.start w).add (x := .rd A N (by8 g)) hS).new w.heap.size #[.int .i64 W, .int .i64 H, .slice A N c] 24 rfl).new (w.heap.size + 1) #[.int .i64 0, .int .i64 0] 48 (by simp)
  have HOF := Lib.hid (show OffsS (w.heap.size + 1) [.rd A N (by8 g), .since w] from ⟨(It.ok.offS (x := .rd A N (by8 g)) hS (by omega)), by show w.heap.size ≤ w.heap.size + 1; omega, trivial⟩)
  clear hS
  have HH : Hid (((m : Int) != (n : Int) * n) = true ∨ (((m : Int) != (n : Int) * n) = false ∧ reach < 0) ∨ (((m : Int) != (n : Int) * n) = false ∧ ¬ reach < 0 ∧ 8 < reach)) := Lib.hid (by
    rcases h with h | ⟨h, h'⟩ | ⟨h, h', h''⟩
    · left; simp only [bne_iff_ne, ne_eq]; exact fun e => h (by exact_mod_cast e)
    · right; left; exact ⟨by simp [h], h'⟩
    · right; right; exact ⟨by simp [h], h', h''⟩)
  clear h
  go_enter Try.func28, Try.ntmps28
  go_wp2_with fail
  refine (rblock_yes W H A N c g x y n 0 0 _ hr K.2.2.1 hg h1 h2 s1 s2 ⟨by omega, by omega⟩ ⟨by omega, by omega⟩).mono ?_
  rintro e w1 ⟨A1, c1, rfl, _, hb1⟩
  replace K := K.below hb1
  clear hb1
  have kc1 := Box.cells K.1
  have kf1 := Box.frees K.1
  have l1 : (((n * n : Nat) : Int) == 0) = false := by simp; omega
  have l2 : ((n : Int) * n == 0) = false := by simp; omega
  have KF := K.set2S 0 (.int .i64 0) (.int .i64 0) ⟨by show w.heap.size ≠ w.heap.size + 1; omega, HOF.out⟩
  generalize hwf : (w1.setCell ⟨w.heap.size + 1, 0, none⟩ (.int .i64 0)).setCell ⟨w.heap.size + 1, 0 + 1, none⟩ (.int .i64 0) = wf at KF
  have HWF := Lib.hid hwf
  have HKF := Lib.hid KF
  clear hwf KF K
  rcases HH.out with e1 | ⟨e1, e2⟩ | ⟨e1, e2, e3⟩
  all_goals clear HH
  all_goals go_wp2
  all_goals (change bodyPost _ _ _ _ _ ((w1.setCell ⟨w.heap.size + 1, 0, none⟩ (.int .i64 0)).setCell ⟨w.heap.size + 1, 0 + 1, none⟩ (.int .i64 0)); rw [HWF.out])
  all_goals have KF := HKF.out
  all_goals have d0 := Box.cell KF.1 0
  all_goals have d1 := Box.cell KF.1 1
  all_goals simp at d0 d1
  all_goals refine bodyPost_ret (v := .tuple #[.agg #[.int .i64 0, .int .i64 0], .slice none 0 0, .int .i64 0]) (by simp [results, Try.results28, go_sem, d0, d1]) rfl ⟨none, 0, rfl, Rd.none_ _ _ _, KF.2.2.2.1⟩
end Go.Proofs.Ytcojphdohpgjnaa
