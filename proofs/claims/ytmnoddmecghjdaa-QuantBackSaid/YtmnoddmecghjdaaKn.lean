/- What is known of memory, as one list: blocks known whole, rows, slices that are read, and the world since which nothing that was there has turned; kept by a call that only makes memory. -/
import Derived.Test.YtmnoddmecghjdaaApp
import Derived.Test.YtmnoddmecghjdaaRp0
namespace Go.Kin
open Go.RowKit

theorem quietLeft {P : Program} {f : FuncId} {args : Array Value} {w : World} {n : Nat} {v : Value}
    (h : Calls P f args (w.drewN n) fun e w' => e = .returned v ∧ w.drewN n = w') : Calls P f args (w.drewN n) fun e w'' => e = .returned v ∧ ∃ m, w'' = w.drewN m :=
  h.mono fun _ _ ⟨he, hm⟩ => ⟨he, n, hm.symm⟩
theorem Rd.at_ {w : World} {b off n i : Nat} {f : Nat → Value} (h : Rd w (some ⟨b, off, none⟩) n f) (hi : i < n) : w.cell? ⟨b, off + i, none⟩ = some (f i) := by
  obtain ⟨b', o', e, hc⟩ := h (by omega)
  injection e with e
  injection e with e1 e2
  subst e1 e2
  exact hc i hi
/-- One thing that is known of memory. -/
inductive It where
  | box (b : Nat) (cs : Array Value)
  | row (b n : Nat) (f : Nat → Value)
  | rd (A : Option Addr) (n : Nat) (f : Nat → Value)
  | own (base : Nat) (e : TypeId) (A : Option Addr) (n c : Nat) (f : Nat → Value)
  | since (w0 : World)
def It.ok (w : World) : It → Prop
  | .box b cs => Box w b cs
  | .row b n f => Row w b n f
  | .rd A n f => Rd w A n f
  | .own base e A n c f => OwnS w base e A n c f
  | .since w0 => Below w0.heap.size w0 w
def Kn (w : World) : List It → Prop
  | [] => True
  | x :: l => x.ok w ∧ Kn w l

section
variable {w w' : World} {l : List It} {x : It}

theorem It.ok.below (h : x.ok w) (hb : Below w.heap.size w w') : x.ok w' := by
  cases x with
  | box b cs => exact Box.below h hb (Box.lt h)
  | row b n f => exact Row.below h hb (Row.lt h)
  | rd A n f => exact Rd.below h hb
  | own base e A n c f => exact OwnS.below h hb (Nat.le_refl _)
  | since w0 => exact Below.trans h (hb.mono (Below.size h))
theorem Kn.below (h : Kn w l) (hb : Below w.heap.size w w') : Kn w' l := by
  induction l with
  | nil => trivial
  | cons x l ih => exact ⟨It.ok.below h.1 hb, ih h.2⟩
theorem Kn.alloc (h : Kn w l) (o : Obj) : Kn (w.alloc o) l := h.below ((Below.refl _ w).alloc (Nat.le_refl _) o)
/-- A new block. -/
theorem Kn.new (h : Kn w l) (b : Nat) (cs : Array Value) (t : TypeId) (hb : b = w.heap.size) : Kn (w.alloc (.cells cs t)) (.box b cs :: l) :=
  ⟨Box.newAt w t cs hb, h.alloc _⟩
/-- A new row. -/
theorem Kn.make (h : Kn w l) (b : Nat) (z : Value) (n : Nat) (t : TypeId) (hb : b = w.heap.size) : Kn (w.alloc (.cells (madeCells #[z] n) t)) (.row b n (fun _ => z) :: l) :=
  ⟨Row.madeAt w z n t hb, h.alloc _⟩
theorem Kn.add (h : Kn w l) (hx : x.ok w) : Kn w (x :: l) := ⟨hx, h⟩
theorem Kn.start (w : World) : Kn w [.since w] := ⟨Below.refl _ _, trivial⟩
theorem Kn.drew (h : Kn w l) : Kn w.drew l := h.below (Below.refl _ w).drew
theorem Kn.drewN (h : Kn w l) (k : Nat) : Kn (w.drewN k) l := h.below (below_drewN (Below.refl _ w) k)

/-- A thing that has nothing to do with block b. -/
def It.off (b : Nat) : It → Prop
  | .box k _ => k ≠ b
  | .row k _ _ => k ≠ b
  | .rd A _ _ => ∀ k o, A = some ⟨k, o, none⟩ → k ≠ b
  | .own _ _ A _ _ _ => ∀ k o, A = some ⟨k, o, none⟩ → k ≠ b
  | .since w0 => w0.heap.size ≤ b
def Offs (b : Nat) : List It → Prop
  | [] => True
  | x :: l => x.off b ∧ Offs b l
theorem off_rd {b k o n : Nat} {f : Nat → Value} (h : k ≠ b) : It.off b (.rd (some ⟨k, o, none⟩) n f) := fun k' o' e => by
  injection e with e
  injection e with e
  omega
theorem It.ok.oth {b : Nat} (h : x.ok w) (ho : Oth b w w') (hf : x.off b) : x.ok w' := by
  cases x with
  | box k cs => exact Box.oth h ho hf
  | row k n f => exact Row.oth h ho hf
  | rd A n f => exact Rd.oth h ho hf
  | own base e A n c f => exact OwnS.keep h fun k o hA => ho.block k (OwnS.lt h hA).2 (hf k o hA)
  | since w0 => exact Below.trans h (ho.below hf (Below.size h))
theorem Kn.oth {b : Nat} (h : Kn w l) (ho : Oth b w w') (hf : Offs b l) : Kn w' l := by
  induction l with
  | nil => trivial
  | cons x l ih => exact ⟨It.ok.oth h.1 ho hf.1, ih h.2 hf.2⟩
theorem Kn.setRow {b n : Nat} {f : Nat → Value} (h : Kn w (.row b n f :: l)) (i : Nat) (v : Value) (hf : Offs b l) : Kn (w.setCell ⟨b, i, none⟩ v) (.row b n (fun j => if j = i then v else f j) :: l) :=
  ⟨Row.set h.1 i v, Kn.oth h.2 ((Oth.refl b w).set i v) hf⟩
theorem Kn.setBox {b : Nat} {cs : Array Value} (h : Kn w (.box b cs :: l)) (i : Nat) (v : Value) (hf : Offs b l) : Kn (w.setCell ⟨b, i, none⟩ v) (.box b (cs.setIfInBounds i v) :: l) :=
  ⟨Box.set h.1 i v, Kn.oth h.2 ((Oth.refl b w).set i v) hf⟩
theorem size_set (w : World) (p : Addr) (u : Value) : (w.setCell p u).heap.size = w.heap.size := by simp [World.setCell]
theorem Kn.set3 {b : Nat} {cs : Array Value} (h : Kn w (.box b cs :: l)) (i : Nat) (u v x : Value) (hf : Offs b l) :
    Kn (((w.setCell ⟨b, i, none⟩ u).setCell ⟨b, i + 1, none⟩ v).setCell ⟨b, i + 2, none⟩ x) (.box b (((cs.setIfInBounds i u).setIfInBounds (i + 1) v).setIfInBounds (i + 2) x) :: l) :=
  ((h.setBox i u hf).setBox (i + 1) v hf).setBox (i + 2) x hf
theorem Kn.set9 {b : Nat} {cs : Array Value} (h : Kn w (.box b cs :: l)) (v0 v1 v2 v3 v4 v5 v6 v7 v8 : Value) (hf : Offs b l) :
    Kn (((((((((w.setCell ⟨b, 0, none⟩ v0).setCell ⟨b, 1, none⟩ v1).setCell ⟨b, 2, none⟩ v2).setCell ⟨b, 3, none⟩ v3).setCell ⟨b, 4, none⟩ v4).setCell ⟨b, 5, none⟩ v5).setCell ⟨b, 6, none⟩ v6).setCell ⟨b, 7, none⟩ v7).setCell ⟨b, 8, none⟩ v8) l :=
  (((h.set3 0 v0 v1 v2 hf).set3 3 v3 v4 v5 hf).set3 6 v6 v7 v8 hf).2
theorem Kn.tuck {y : It} (h : Kn w (y :: l)) (hx : x.ok w) : Kn w (y :: x :: l) := ⟨h.1, hx, h.2⟩
theorem Kn.row {b n : Nat} {f g : Nat → Value} (h : Kn w (.row b n f :: l)) (e : ∀ i, i < n → f i = g i) : Kn w (.row b n g :: l) := ⟨Row.congr h.1 e, h.2⟩
theorem Box.rd {b n : Nat} {cs : Array Value} {f : Nat → Value} (h : Box w b cs) (hc : ∀ i, i < n → cs[i]? = some (f i)) : Rd w (some ⟨b, 0, none⟩) n f := fun _ => ⟨b, 0, rfl, fun i hi => by rw [Nat.zero_add, h.cell, hc i hi]⟩
theorem Box.cells {b : Nat} {cs : Array Value} (h : Box w b cs) : ∀ i, w.cell? ⟨b, i, none⟩ = cs[i]? := h.cell
theorem Box.frees {b : Nat} {cs : Array Value} (h : Box w b cs) : ∀ i, w.frozen? ⟨b, i, none⟩ = false := h.frozen
end
end Go.Kin
