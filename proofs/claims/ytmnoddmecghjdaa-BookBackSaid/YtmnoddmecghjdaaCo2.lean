/- Walks of package coder: right, Next, begin, New, add. -/
import Derived.Test.YtmnoddmecghjdaaCo1
namespace Go.Kin
/-- The chance behind a bit. -/
def nextP (c bit : Int) : Int := if bit = 0 then min (max c 31) 2017 + (2048 - min (max c 31) 2017) / 32 else min (max c 31) 2017 - min (max c 31) 2017 / 32
theorem nextP_bd (c bit : Int) : 31 ≤ nextP c bit ∧ nextP c bit ≤ 2017 := by unfold nextP; split <;> omega
/-- Whether it is a chance. -/
def chB (c : Int) : Bool := decide (31 ≤ c ∧ c ≤ 2017)
end Go.Kin
namespace Go.Proofs.Ytmnoddmecghjdaa
open Go.RowKit Go.Kin
set_option linter.unusedVariables false

theorem cright_any (c : Int) (w : World) : Calls Try.prog 99 #[.int .u16 c] w fun e w' => e = .returned (.bool (chB c)) ∧ w = w' := by
  have H : Hid (chB c = (decide (31 ≤ c) && decide (c ≤ 2017))) := Lib.hid (by unfold chB; by_cases h1 : 31 ≤ c <;> by_cases h2 : c ≤ 2017 <;> simp [h1, h2])
  by_cases h : 31 ≤ c
  · have HE : Hid (decide (31 ≤ c) = true) := Lib.hid (by simp [h])
    go_enter Try.func99, Try.ntmps99
    go_wp2
    go_ret
    exact ⟨ret_bool (by rw [H.out, HE.out, Bool.true_and]), rfl⟩
  · have HE : Hid (decide (31 ≤ c) = false) := Lib.hid (by simp [h])
    go_enter Try.func99, Try.ntmps99
    go_wp2
    go_ret
    exact ⟨ret_bool (by rw [H.out, HE.out, Bool.false_and]), rfl⟩
set_option maxHeartbeats 1000000 in
theorem next_any (c bit : Int) (w : World) (hc : 0 ≤ c ∧ c ≤ 65535) : Calls Try.prog 91 #[.int .u16 c, .int .i64 bit] w fun e w' => e = .returned (.int .u16 (nextP c bit)) ∧ w = w' := by
  by_cases h : bit = 0
  · have H := Lib.hid (show nextP c bit = min (max c 31) 2017 + (2048 - min (max c 31) 2017) / 32 by unfold nextP; rw [if_pos h])
    have hb : (bit == 0) = true := by simp [h]
    have z : (2048 - min (max c 31) 2017).tdiv 32 = (2048 - min (max c 31) 2017) / 32 := Int.tdiv_eq_ediv_of_nonneg (by omega)
    clear h
    go_enter Try.func91, Try.ntmps91
    go_wp2
    go_ret
    exact ⟨ret_int (by rw [H.out]), rfl⟩
  · have H := Lib.hid (show nextP c bit = min (max c 31) 2017 - min (max c 31) 2017 / 32 by unfold nextP; rw [if_neg h])
    have hb : (bit == 0) = false := by simp [h]
    have z : (min (max c 31) 2017).tdiv 32 = (min (max c 31) 2017) / 32 := Int.tdiv_eq_ediv_of_nonneg (by omega)
    clear h
    go_enter Try.func91, Try.ntmps91
    go_wp2
    go_ret
    exact ⟨ret_int (by rw [H.out]), rfl⟩
/-- begin, when there is a code. -/
theorem begin_any (p : Nat) (A : Option Addr) (L c : Nat) (R : Value) (w : World) (hB : Box w p #[.slice A L c, R]) (hL : 1 ≤ L) :
    Calls Try.prog 47 #[.pointer (some ⟨p, 0, none⟩)] w fun e w' => e = .returned (.tuple #[]) ∧ w = w' := by
  have kc := Box.cells hB
  have l1 : ((L : Int) == 0) = false := by simp; omega
  go_enter Try.func47, Try.ntmps47
  go_wp2
  go_end0
  exact ⟨rfl, rfl⟩
end Go.Proofs.Ytmnoddmecghjdaa
