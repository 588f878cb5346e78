/- Colours of blocks: whose a block is. What a call keeps that writes only blocks of one colour. -/
import Derived.Test.YtmnoddmecghjdaaCo0
namespace Go.Kin
open Go.RowKit
/-- All blocks of other colours than i are as they were. -/
structure Upd (col : Nat → Nat) (i : Nat) (w w' : World) : Prop where
  os : w'.os = w.os
  tape : w'.tape = w.tape
  output : w'.output = w.output
  size : w.heap.size ≤ w'.heap.size
  block : ∀ k, k < w.heap.size → col k ≠ i → w'.heap[k]? = w.heap[k]?
/-- What is new is of colour i. -/
def recol (col : Nat → Nat) (w : World) (i : Nat) (k : Nat) : Nat := if k < w.heap.size then col k else i
/-- A thing that is known lies in blocks of colour j. -/
def It.hue (col : Nat → Nat) (j : Nat) : It → Prop
  | .box k _ => col k = j
  | .row k _ _ => col k = j
  | .rd A n _ => n = 0 ∨ ∀ k o, A = some ⟨k, o, none⟩ → col k = j
  | .own _ _ A _ _ _ => ∀ k o, A = some ⟨k, o, none⟩ → col k = j
  | .since w0 => ∀ k, k < w0.heap.size → col k = j
/-- What is known, each thing with its colour. -/
def Kc (w : World) (col : Nat → Nat) : List (Nat × It) → Prop
  | [] => True
  | (j, x) :: l => (x.ok w ∧ x.hue col j) ∧ Kc w col l
/-- None of these has colour i. -/
def Nos (i : Nat) : List (Nat × It) → Prop
  | [] => True
  | (j, _) :: l => j ≠ i ∧ Nos i l
section
variable {w w' w'' : World} {col : Nat → Nat} {i j : Nat} {l : List (Nat × It)} {x : It}
theorem Upd.refl (col : Nat → Nat) (i : Nat) (w : World) : Upd col i w w := ⟨rfl, rfl, rfl, Nat.le_refl _, fun _ _ _ => rfl⟩
theorem Upd.trans (h : Upd col i w w') (k : Upd (recol col w i) i w' w'') : Upd col i w w'' :=
  ⟨k.os.trans h.os, k.tape.trans h.tape, k.output.trans h.output, Nat.le_trans h.size k.size, fun b hb hn => (k.block b (Nat.lt_of_lt_of_le hb h.size) (by unfold recol; rw [if_pos hb]; exact hn)).trans (h.block b hb hn)⟩
theorem Upd.of_below (h : Below w.heap.size w w') (col : Nat → Nat) (i : Nat) : Upd col i w w' := ⟨h.os, h.tape, h.output, h.size, fun k hk _ => h.block k hk⟩
theorem Upd.alloc (col : Nat → Nat) (i : Nat) (w : World) (o : Obj) : Upd col i w (w.alloc o) := Upd.of_below ((Below.refl _ w).alloc (Nat.le_refl _) o) col i
theorem Upd.set {b : Nat} (hc : col b = i) (k : Nat) (u : Value) : Upd col i w (w.setCell ⟨b, k, none⟩ u) :=
  ⟨rfl, rfl, rfl, by simp [World.setCell], fun q _ hn => Below.heap_setCell w ⟨b, k, none⟩ u q (fun e => hn (by rw [e]; exact hc))⟩
theorem Upd.of_oth {b : Nat} (h : Oth b w w') (hc : b < w.heap.size → col b = i) : Upd col i w w' :=
  ⟨h.os, h.tape, h.output, h.size, fun k hk hn => h.block k hk (fun e => hn (by subst e; exact hc hk))⟩
theorem recol_lt {k : Nat} (h : k < w.heap.size) : recol col w i k = col k := by unfold recol; rw [if_pos h]
theorem recol_ge {k : Nat} (h : w.heap.size ≤ k) : recol col w i k = i := by unfold recol; rw [if_neg (by omega)]
theorem recol_i {k : Nat} (h : k < w.heap.size → col k = i) : recol col w i k = i := by
  unfold recol
  split
  · exact h ‹_›
  · rfl
/-- A thing of another colour is kept. -/
theorem It.upd (h : x.ok w ∧ x.hue col j) (hj : j ≠ i) (hu : Upd col i w w') : x.ok w' ∧ x.hue (recol col w i) j := by
  obtain ⟨h, hc⟩ := h
  cases x with
  | box k cs => exact ⟨Box.same h (hu.block k (Box.lt h) (by rw [show col k = j from hc]; exact hj)), by show recol col w i k = j; rw [recol_lt (Box.lt h)]; exact hc⟩
  | row k n f => exact ⟨Row.same h (hu.block k (Row.lt h) (by rw [show col k = j from hc]; exact hj)), by show recol col w i k = j; rw [recol_lt (Row.lt h)]; exact hc⟩
  | rd A n f =>
    rcases Nat.eq_zero_or_pos n with h0 | h0
    · subst h0; exact ⟨Rd.none_ _ _ _, .inl rfl⟩
    · obtain ⟨b, o, e, hlt, hcell⟩ := Rd.some_ h h0
      have hb : col b = j := by
        rcases hc with hc | hc
        · omega
        · exact hc b o e
      refine ⟨fun _ => ⟨b, o, e, fun q hq => (World.cell?_of_block (w := w) (hu.block b hlt (by rw [hb]; exact hj))).trans (hcell q hq)⟩, .inr fun k o' e' => ?_⟩
      rw [e] at e'
      injection e' with e'
      injection e' with e1 e2
      subst e1
      rw [recol_lt hlt]
      exact hb
  | own base e A n c f =>
    refine ⟨OwnS.keep h fun k o hA => hu.block k (OwnS.lt h hA).2 (by rw [show col k = j from hc k o hA]; exact hj), fun k o hA => ?_⟩
    rw [recol_lt (OwnS.lt h hA).2]
    exact hc k o hA
  | since w0 =>
    have hs : w0.heap.size ≤ w.heap.size := Below.size h
    exact ⟨Below.trans h ⟨hu.os, hu.tape, hu.output, hu.size, fun k hk => hu.block k (by omega) (by rw [show col k = j from hc k hk]; exact hj)⟩, fun k hk => by rw [recol_lt (by omega)]; exact hc k hk⟩
theorem Kc.upd (h : Kc w col l) (hn : Nos i l) (hu : Upd col i w w') : Kc w' (recol col w i) l := by
  induction l with
  | nil => trivial
  | cons y l ih =>
    obtain ⟨j, x⟩ := y
    exact ⟨It.upd h.1 hn.1 hu, ih h.2 hn.2⟩
theorem Kc.add (h : Kc w col l) (hx : x.ok w) (hc : x.hue col j) : Kc w col ((j, x) :: l) := ⟨⟨hx, hc⟩, h⟩
end
end Go.Kin
