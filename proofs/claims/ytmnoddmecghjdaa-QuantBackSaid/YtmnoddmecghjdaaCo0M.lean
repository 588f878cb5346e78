/- A code as a number: its digits to the base 256, what adding makes of them, a digit more behind. Plain numbers. -/
import Derived.Test.YtmnoddmecghjdaaKn2M
namespace Go.Kin
/-- Digit i of the L digits of V. -/
def dig (V L i : Nat) : Int := ((V / 256 ^ (L - 1 - i) % 256 : Nat) : Int)
theorem dig_byt (V L : Nat) : Byt (dig V L) := fun i => by
  unfold dig
  have : V / 256 ^ (L - 1 - i) % 256 < 256 := Nat.mod_lt _ (by omega)
  omega
/-- A digit 0 behind. -/
theorem dig_more {V L i : Nat} (hi : i < L + 1) : dig (V * 256) (L + 1) i = if i < L then dig V L i else 0 := by
  unfold dig
  by_cases h : i < L
  · rw [if_pos h, show L + 1 - 1 - i = (L - 1 - i) + 1 by omega, Nat.pow_succ, Nat.mul_comm (256 ^ (L - 1 - i)) 256, ← Nat.div_div_eq_div_mul, Nat.mul_div_cancel _ (by omega)]
  · rw [if_neg h, show L + 1 - 1 - i = 0 by omega, Nat.pow_zero, Nat.div_one, Nat.mul_mod_left]
    rfl
/-- The carry behind the lowest j digits. -/
def car (V b j : Nat) : Nat := (V % 256 ^ j + b) / 256 ^ j
theorem car_zero (V b : Nat) : car V b 0 = b := by simp [car, Nat.mod_one]
theorem car_step (V b j : Nat) : (car V b j + V / 256 ^ j % 256) / 256 = car V b (j + 1) ∧ (car V b j + V / 256 ^ j % 256) % 256 = (V + b) / 256 ^ j % 256 := by
  have hp : 0 < 256 ^ j := Nat.pow_pos (by omega)
  have e1 : V = 256 ^ j * (V / 256 ^ j) + V % 256 ^ j := (Nat.div_add_mod V (256 ^ j)).symm
  have e2 : (V + b) / 256 ^ j = V / 256 ^ j + car V b j := by
    unfold car
    conv => lhs; rw [e1]
    rw [Nat.add_assoc, Nat.mul_add_div hp]
  have e3 : V % 256 ^ (j + 1) = 256 ^ j * (V / 256 ^ j % 256) + V % 256 ^ j := by
    rw [Nat.pow_succ, Nat.mod_mul]
    omega
  constructor
  · unfold car
    rw [e3, Nat.pow_succ, ← Nat.div_div_eq_div_mul, Nat.add_assoc, Nat.mul_add_div hp, Nat.add_comm]
  · rw [e2]
    omega
theorem car_none {V b j : Nat} (h : car V b j = 0) : (V + b) / 256 ^ j = V / 256 ^ j := by
  have hp : 0 < 256 ^ j := Nat.pow_pos (by omega)
  have e1 : V = 256 ^ j * (V / 256 ^ j) + V % 256 ^ j := (Nat.div_add_mod V (256 ^ j)).symm
  conv => lhs; rw [e1]
  rw [Nat.add_assoc, Nat.mul_add_div hp]
  unfold car at h
  omega
/-- The digits when the lowest j are done. -/
def digA (V b L j i : Nat) : Int := if L ≤ i + j then dig (V + b) L i else dig V L i
theorem digA_zero {V b L i : Nat} (hi : i < L) : digA V b L 0 i = dig V L i := by unfold digA; rw [if_neg (by omega)]
theorem digA_all {V b L i : Nat} : digA V b L L i = dig (V + b) L i := by unfold digA; rw [if_pos (by omega)]
theorem digA_step {V b L j i : Nat} (hj : j < L) (hi : i < L) : (if i = L - 1 - j then (((car V b j + V / 256 ^ j % 256) % 256 : Nat) : Int) else digA V b L j i) = digA V b L (j + 1) i := by
  unfold digA
  by_cases e : i = L - 1 - j
  · rw [if_pos e, if_pos (by omega), (car_step V b j).2]
    unfold dig
    rw [show L - 1 - i = j by omega]
  · rw [if_neg e]
    by_cases h : L ≤ i + j
    · rw [if_pos h, if_pos (by omega)]
    · rw [if_neg h, if_neg (by omega)]
theorem digA_stop {V b L j i : Nat} (h : car V b j = 0) (hi : i < L) : digA V b L j i = dig (V + b) L i := by
  unfold digA
  by_cases hl : L ≤ i + j
  · rw [if_pos hl]
  · rw [if_neg hl]
    unfold dig
    have hx : L - 1 - i = j + (L - 1 - i - j) := by omega
    rw [hx, Nat.pow_add, ← Nat.div_div_eq_div_mul, ← Nat.div_div_eq_div_mul, car_none h]
end Go.Kin
/- Colours of blocks: whose a block is. What a call keeps that writes only blocks of one colour. -/
namespace Go.Kin
open Go.RowKit
/-- All blocks of other colours than i are as they were. -/
structure Upd (col : Nat → Nat) (i : Nat) (w w' : World) : Prop where
  os : w'.os = w.os
  tape : w'.tape = w.tape
  output : w'.output = w.output
  size : w.heap.size ≤ w'.heap.size
  block : ∀ k, k < w.heap.size → col k ≠ i → w'.heap[k]? = w.heap[k]?
/-- What is new is of colour i. -/
def recol (col : Nat → Nat) (w : World) (i : Nat) (k : Nat) : Nat := if k < w.heap.size then col k else i
/-- A thing that is known lies in blocks of colour j. -/
def It.hue (col : Nat → Nat) (j : Nat) : It → Prop
  | .box k _ => col k = j
  | .row k _ _ => col k = j
  | .rd A n _ => n = 0 ∨ ∀ k o, A = some ⟨k, o, none⟩ → col k = j
  | .own _ _ A _ _ _ => ∀ k o, A = some ⟨k, o, none⟩ → col k = j
  | .since w0 => ∀ k, k < w0.heap.size → col k = j
/-- What is known, each thing with its colour. -/
def Kc (w : World) (col : Nat → Nat) : List (Nat × It) → Prop
  | [] => True
  | (j, x) :: l => (x.ok w ∧ x.hue col j) ∧ Kc w col l
/-- None of these has colour i. -/
def Nos (i : Nat) : List (Nat × It) → Prop
  | [] => True
  | (j, _) :: l => j ≠ i ∧ Nos i l
section
variable {w w' w'' : World} {col : Nat → Nat} {i j : Nat} {l : List (Nat × It)} {x : It}
theorem Upd.refl (col : Nat → Nat) (i : Nat) (w : World) : Upd col i w w := ⟨rfl, rfl, rfl, Nat.le_refl _, fun _ _ _ => rfl⟩
theorem Upd.trans (h : Upd col i w w') (k : Upd (recol col w i) i w' w'') : Upd col i w w'' :=
  ⟨k.os.trans h.os, k.tape.trans h.tape, k.output.trans h.output, Nat.le_trans h.size k.size, fun b hb hn => (k.block b (Nat.lt_of_lt_of_le hb h.size) (by unfold recol; rw [if_pos hb]; exact hn)).trans (h.block b hb hn)⟩
theorem Upd.of_below (h : Below w.heap.size w w') (col : Nat → Nat) (i : Nat) : Upd col i w w' := ⟨h.os, h.tape, h.output, h.size, fun k hk _ => h.block k hk⟩
theorem Upd.alloc (col : Nat → Nat) (i : Nat) (w : World) (o : Obj) : Upd col i w (w.alloc o) := Upd.of_below ((Below.refl _ w).alloc (Nat.le_refl _) o) col i
theorem Upd.set {b : Nat} (hc : col b = i) (k : Nat) (u : Value) : Upd col i w (w.setCell ⟨b, k, none⟩ u) :=
  ⟨rfl, rfl, rfl, by simp [World.setCell], fun q _ hn => Below.heap_setCell w ⟨b, k, none⟩ u q (fun e => hn (by rw [e]; exact hc))⟩
theorem Upd.of_oth {b : Nat} (h : Oth b w w') (hc : b < w.heap.size → col b = i) : Upd col i w w' :=
  ⟨h.os, h.tape, h.output, h.size, fun k hk hn => h.block k hk (fun e => hn (by subst e; exact hc hk))⟩
theorem recol_lt {k : Nat} (h : k < w.heap.size) : recol col w i k = col k := by unfold recol; rw [if_pos h]
theorem recol_ge {k : Nat} (h : w.heap.size ≤ k) : recol col w i k = i := by unfold recol; rw [if_neg (by omega)]
theorem recol_i {k : Nat} (h : k < w.heap.size → col k = i) : recol col w i k = i := by
  unfold recol
  split
  · exact h ‹_›
  · rfl
/-- A thing of another colour is kept. -/
theorem It.upd (h : x.ok w ∧ x.hue col j) (hj : j ≠ i) (hu : Upd col i w w') : x.ok w' ∧ x.hue (recol col w i) j := by
  obtain ⟨h, hc⟩ := h
  cases x with
  | box k cs => exact ⟨Box.same h (hu.block k (Box.lt h) (by rw [show col k = j from hc]; exact hj)), by show recol col w i k = j; rw [recol_lt (Box.lt h)]; exact hc⟩
  | row k n f => exact ⟨Row.same h (hu.block k (Row.lt h) (by rw [show col k = j from hc]; exact hj)), by show recol col w i k = j; rw [recol_lt (Row.lt h)]; exact hc⟩
  | rd A n f =>
    rcases Nat.eq_zero_or_pos n with h0 | h0
    · subst h0; exact ⟨Rd.none_ _ _ _, .inl rfl⟩
    · obtain ⟨b, o, e, hlt, hcell⟩ := Rd.some_ h h0
      have hb : col b = j := by
        rcases hc with hc | hc
        · omega
        · exact hc b o e
      refine ⟨fun _ => ⟨b, o, e, fun q hq => (World.cell?_of_block (w := w) (hu.block b hlt (by rw [hb]; exact hj))).trans (hcell q hq)⟩, .inr fun k o' e' => ?_⟩
      rw [e] at e'
      injection e' with e'
      injection e' with e1 e2
      subst e1
      rw [recol_lt hlt]
      exact hb
  | own base e A n c f =>
    refine ⟨OwnS.keep h fun k o hA => hu.block k (OwnS.lt h hA).2 (by rw [show col k = j from hc k o hA]; exact hj), fun k o hA => ?_⟩
    rw [recol_lt (OwnS.lt h hA).2]
    exact hc k o hA
  | since w0 =>
    have hs : w0.heap.size ≤ w.heap.size := Below.size h
    exact ⟨Below.trans h ⟨hu.os, hu.tape, hu.output, hu.size, fun k hk => hu.block k (by omega) (by rw [show col k = j from hc k hk]; exact hj)⟩, fun k hk => by rw [recol_lt (by omega)]; exact hc k hk⟩
theorem Kc.upd (h : Kc w col l) (hn : Nos i l) (hu : Upd col i w w') : Kc w' (recol col w i) l := by
  induction l with
  | nil => trivial
  | cons y l ih =>
    obtain ⟨j, x⟩ := y
    exact ⟨It.upd h.1 hn.1 hu, ih h.2 hn.2⟩
theorem Kc.add (h : Kc w col l) (hx : x.ok w) (hc : x.hue col j) : Kc w col ((j, x) :: l) := ⟨⟨hx, hc⟩, h⟩
end
end Go.Kin
/- Walks of package coder: right, Next, begin, New, add. -/
namespace Go.Kin
/-- The chance behind a bit. -/
def nextP (c bit : Int) : Int := if bit = 0 then min (max c 31) 2017 + (2048 - min (max c 31) 2017) / 32 else min (max c 31) 2017 - min (max c 31) 2017 / 32
theorem nextP_bd (c bit : Int) : 31 ≤ nextP c bit ∧ nextP c bit ≤ 2017 := by unfold nextP; split <;> omega
/-- Whether it is a chance. -/
def chB (c : Int) : Bool := decide (31 ≤ c ∧ c ≤ 2017)
end Go.Kin
namespace Go.Proofs.Ytmnoddmecghjdaa
open Go.RowKit Go.Kin
set_option linter.unusedVariables false

theorem cright_any (c : Int) (w : World) : Calls Try.prog 99 #[.int .u16 c] w fun e w' => e = .returned (.bool (chB c)) ∧ w = w' := by
  have H : Hid (chB c = (decide (31 ≤ c) && decide (c ≤ 2017))) := Lib.hid (by unfold chB; by_cases h1 : 31 ≤ c <;> by_cases h2 : c ≤ 2017 <;> simp [h1, h2])
  by_cases h : 31 ≤ c
  · have HE : Hid (decide (31 ≤ c) = true) := Lib.hid (by simp [h])
    go_enter Try.func99, Try.ntmps99
    go_wp2
    go_ret
    exact ⟨ret_bool (by rw [H.out, HE.out, Bool.true_and]), rfl⟩
  · have HE : Hid (decide (31 ≤ c) = false) := Lib.hid (by simp [h])
    go_enter Try.func99, Try.ntmps99
    go_wp2
    go_ret
    exact ⟨ret_bool (by rw [H.out, HE.out, Bool.false_and]), rfl⟩
set_option maxHeartbeats 1000000 in
theorem next_any (c bit : Int) (w : World) (hc : 0 ≤ c ∧ c ≤ 65535) : Calls Try.prog 91 #[.int .u16 c, .int .i64 bit] w fun e w' => e = .returned (.int .u16 (nextP c bit)) ∧ w = w' := by
  by_cases h : bit = 0
  · have H := Lib.hid (show nextP c bit = min (max c 31) 2017 + (2048 - min (max c 31) 2017) / 32 by unfold nextP; rw [if_pos h])
    have hb : (bit == 0) = true := by simp [h]
    have z : (2048 - min (max c 31) 2017).tdiv 32 = (2048 - min (max c 31) 2017) / 32 := Int.tdiv_eq_ediv_of_nonneg (by omega)
    clear h
    go_enter Try.func91, Try.ntmps91
    go_wp2
    go_ret
    exact ⟨ret_int (by rw [H.out]), rfl⟩
  · have H := Lib.hid (show nextP c bit = min (max c 31) 2017 - min (max c 31) 2017 / 32 by unfold nextP; rw [if_neg h])
    have hb : (bit == 0) = false := by simp [h]
    have z : (min (max c 31) 2017).tdiv 32 = (min (max c 31) 2017) / 32 := Int.tdiv_eq_ediv_of_nonneg (by omega)
    clear h
    go_enter Try.func91, Try.ntmps91
    go_wp2
    go_ret
    exact ⟨ret_int (by rw [H.out]), rfl⟩
/-- begin, when there is a code. -/
theorem begin_any (p : Nat) (A : Option Addr) (L c : Nat) (R : Value) (w : World) (hB : Box w p #[.slice A L c, R]) (hL : 1 ≤ L) :
    Calls Try.prog 47 #[.pointer (some ⟨p, 0, none⟩)] w fun e w' => e = .returned (.tuple #[]) ∧ w = w' := by
  have kc := Box.cells hB
  have l1 : ((L : Int) == 0) = false := by simp; omega
  go_enter Try.func47, Try.ntmps47
  go_wp2
  go_end0
  exact ⟨rfl, rfl⟩
end Go.Proofs.Ytmnoddmecghjdaa
