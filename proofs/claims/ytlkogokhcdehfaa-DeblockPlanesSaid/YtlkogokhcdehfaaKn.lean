/- What is known of memory, as one list: blocks known whole, rows, slices that are read, and the world since which nothing that was there has turned; kept by a call that only makes memory. -/
import Derived.Test.YtlkogokhcdehfaaApp
import Derived.Test.YtlkogokhcdehfaaRp1
namespace Go.Kin
open Go.RowKit

/-- One thing that is known of memory. -/
inductive It where
  | box (b : Nat) (cs : Array Value)
  | row (b n : Nat) (f : Nat → Value)
  | rd (A : Option Addr) (n : Nat) (f : Nat → Value)
  | own (base : Nat) (e : TypeId) (A : Option Addr) (n c : Nat) (f : Nat → Value)
  | since (w0 : World)
def It.ok (w : World) : It → Prop
  | .box b cs => Box w b cs
  | .row b n f => Row w b n f
  | .rd A n f => Rd w A n f
  | .own base e A n c f => OwnS w base e A n c f
  | .since w0 => Below w0.heap.size w0 w
def Kn (w : World) : List It → Prop
  | [] => True
  | x :: l => x.ok w ∧ Kn w l

section
variable {w w' : World} {l : List It} {x : It}

theorem It.ok.below (h : x.ok w) (hb : Below w.heap.size w w') : x.ok w' := by
  cases x with
  | box b cs => exact Box.below h hb (Box.lt h)
  | row b n f => exact Row.below h hb (Row.lt h)
  | rd A n f => exact Rd.below h hb
  | own base e A n c f => exact OwnS.below h hb (Nat.le_refl _)
  | since w0 => exact Below.trans h (hb.mono (Below.size h))
theorem Kn.below (h : Kn w l) (hb : Below w.heap.size w w') : Kn w' l := by
  induction l with
  | nil => trivial
  | cons x l ih => exact ⟨It.ok.below h.1 hb, ih h.2⟩
theorem Kn.alloc (h : Kn w l) (o : Obj) : Kn (w.alloc o) l := h.below ((Below.refl _ w).alloc (Nat.le_refl _) o)
/-- A new block. -/
theorem Kn.new (h : Kn w l) (b : Nat) (cs : Array Value) (t : TypeId) (hb : b = w.heap.size) : Kn (w.alloc (.cells cs t)) (.box b cs :: l) :=
  ⟨Box.newAt w t cs hb, h.alloc _⟩
/-- A new row. -/
theorem Kn.make (h : Kn w l) (b : Nat) (z : Value) (n : Nat) (t : TypeId) (hb : b = w.heap.size) : Kn (w.alloc (.cells (madeCells #[z] n) t)) (.row b n (fun _ => z) :: l) :=
  ⟨Row.madeAt w z n t hb, h.alloc _⟩
theorem Kn.add (h : Kn w l) (hx : x.ok w) : Kn w (x :: l) := ⟨hx, h⟩
theorem Kn.start (w : World) : Kn w [.since w] := ⟨Below.refl _ _, trivial⟩
theorem Kn.drew (h : Kn w l) : Kn w.drew l := h.below (Below.refl _ w).drew
theorem Kn.drewN (h : Kn w l) (k : Nat) : Kn (w.drewN k) l := h.below (below_drewN (Below.refl _ w) k)

/-- A thing that has nothing to do with block b. -/
def It.off (b : Nat) : It → Prop
  | .box k _ => k ≠ b
  | .row k _ _ => k ≠ b
  | .rd A _ _ => ∀ k o, A = some ⟨k, o, none⟩ → k ≠ b
  | .own _ _ A _ _ _ => ∀ k o, A = some ⟨k, o, none⟩ → k ≠ b
  | .since w0 => w0.heap.size ≤ b
def Offs (b : Nat) : List It → Prop
  | [] => True
  | x :: l => x.off b ∧ Offs b l
theorem It.ok.oth {b : Nat} (h : x.ok w) (ho : Oth b w w') (hf : x.off b) : x.ok w' := by
  cases x with
  | box k cs => exact Box.oth h ho hf
  | row k n f => exact Row.oth h ho hf
  | rd A n f => exact Rd.oth h ho hf
  | own base e A n c f => exact OwnS.keep h fun k o hA => ho.block k (OwnS.lt h hA).2 (hf k o hA)
  | since w0 => exact Below.trans h (ho.below hf (Below.size h))
theorem Kn.oth {b : Nat} (h : Kn w l) (ho : Oth b w w') (hf : Offs b l) : Kn w' l := by
  induction l with
  | nil => trivial
  | cons x l ih => exact ⟨It.ok.oth h.1 ho hf.1, ih h.2 hf.2⟩
theorem Box.cells {b : Nat} {cs : Array Value} (h : Box w b cs) : ∀ i, w.cell? ⟨b, i, none⟩ = cs[i]? := h.cell
theorem Box.frees {b : Nat} {cs : Array Value} (h : Box w b cs) : ∀ i, w.frozen? ⟨b, i, none⟩ = false := h.frozen
end
end Go.Kin
