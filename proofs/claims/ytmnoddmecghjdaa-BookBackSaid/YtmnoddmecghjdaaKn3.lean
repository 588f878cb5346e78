/- What is known of memory, kept while one block is written that did not stand when it was learnt. -/
import Derived.Test.YtmnoddmecghjdaaKn2
namespace Go.Kin
open Go.RowKit
/-- A thing that has nothing to do with block b (a slice of no elements has to do with none). -/
def It.offS (b : Nat) : It → Prop
  | .box k _ => k ≠ b
  | .row k _ _ => k ≠ b
  | .rd A n _ => n = 0 ∨ ∀ k o, A = some ⟨k, o, none⟩ → k ≠ b
  | .own _ _ A _ _ _ => ∀ k o, A = some ⟨k, o, none⟩ → k ≠ b
  | .since w0 => w0.heap.size ≤ b
def OffsS (b : Nat) : List It → Prop
  | [] => True
  | x :: l => x.offS b ∧ OffsS b l
section
variable {w w' : World} {l : List It} {x : It} {b : Nat}
theorem It.ok.othS (h : x.ok w) (ho : Oth b w w') (hf : x.offS b) : x.ok w' := by
  cases x with
  | box k cs => exact Box.oth h ho hf
  | row k n f => exact Row.oth h ho hf
  | rd A n f =>
    rcases hf with h0 | hf
    · subst h0; exact Rd.none_ _ _ _
    · exact Rd.oth h ho hf
  | own base e A n c f => exact OwnS.keep h fun k o hA => ho.block k (OwnS.lt h hA).2 (hf k o hA)
  | since w0 => exact Below.trans h (ho.below hf (Below.size h))
theorem Kn.othS (h : Kn w l) (ho : Oth b w w') (hf : OffsS b l) : Kn w' l := by
  induction l with
  | nil => trivial
  | cons x l ih => exact ⟨It.ok.othS h.1 ho hf.1, ih h.2 hf.2⟩
theorem It.ok.offS (h : x.ok w) (hb : w.heap.size ≤ b) : x.offS b := by
  cases x with
  | box k cs => have := Box.lt h; show k ≠ b; omega
  | row k n f => have := Row.lt h; show k ≠ b; omega
  | rd A n f =>
    rcases Nat.eq_zero_or_pos n with h0 | h0
    · exact .inl h0
    · refine .inr fun k o hA => ?_
      obtain ⟨k', o', e, hlt, _⟩ := Rd.some_ h h0
      rw [hA] at e
      injection e with e
      injection e with e
      omega
  | own base e A n c f => exact fun k o hA => by have := (OwnS.lt h hA).2; omega
  | since w0 => exact Nat.le_trans (Below.size h) hb
theorem Kn.offS (h : Kn w l) (hb : w.heap.size ≤ b) : OffsS b l := by
  induction l with
  | nil => trivial
  | cons x l ih => exact ⟨It.ok.offS h.1 hb, ih h.2⟩
theorem Kn.setRowS {n : Nat} {f : Nat → Value} (h : Kn w (.row b n f :: l)) (i : Nat) (v : Value) (hf : OffsS b l) : Kn (w.setCell ⟨b, i, none⟩ v) (.row b n (fun j => if j = i then v else f j) :: l) :=
  ⟨Row.set h.1 i v, Kn.othS h.2 ((Oth.refl b w).set i v) hf⟩
/-- Two lists, one behind the other. -/
theorem Kn.app : ∀ {l m : List It}, Kn w l → Kn w m → Kn w (l ++ m)
  | [], _, _, h => h
  | _ :: _, _, h, k => ⟨h.1, Kn.app h.2 k⟩
theorem OffsS.app : ∀ {l m : List It}, OffsS b l → OffsS b m → OffsS b (l ++ m)
  | [], _, _, h => h
  | _ :: _, _, h, k => ⟨h.1, OffsS.app h.2 k⟩
end
end Go.Kin
