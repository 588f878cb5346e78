/- What is known of memory, kept while three cells of one block are written, whatever else is known that has nothing to do with it. -/
import Derived.Test.YtmnoddmecghjdaaKn4
namespace Go.Kin
open Go.RowKit
section
variable {w : World} {l : List It} {b : Nat} {cs : Array Value}
theorem Kn.setBoxS (h : Kn w (.box b cs :: l)) (i : Nat) (v : Value) (hf : OffsS b l) : Kn (w.setCell ⟨b, i, none⟩ v) (.box b (cs.setIfInBounds i v) :: l) :=
  ⟨Box.set h.1 i v, Kn.othS h.2 ((Oth.refl b w).set i v) hf⟩
theorem Kn.set2S (h : Kn w (.box b cs :: l)) (i : Nat) (u v : Value) (hf : OffsS b l) :
    Kn ((w.setCell ⟨b, i, none⟩ u).setCell ⟨b, i + 1, none⟩ v) (.box b ((cs.setIfInBounds i u).setIfInBounds (i + 1) v) :: l) := (h.setBoxS i u hf).setBoxS (i + 1) v hf
theorem Kn.swap {x y : It} (h : Kn w (x :: y :: l)) : Kn w (y :: x :: l) := ⟨h.2.1, h.1, h.2.2⟩
theorem Kn.third {x y z : It} (h : Kn w (x :: y :: z :: l)) : Kn w (z :: x :: y :: l) := ⟨h.2.2.1, h.1, h.2.1, h.2.2.2⟩
theorem Kn.fourth {x y z u : It} (h : Kn w (x :: y :: z :: u :: l)) : Kn w (u :: x :: y :: z :: l) := ⟨h.2.2.2.1, h.1, h.2.1, h.2.2.1, h.2.2.2.2⟩
theorem Kn.set3S (h : Kn w (.box b cs :: l)) (i : Nat) (u v x : Value) (hf : OffsS b l) :
    Kn (((w.setCell ⟨b, i, none⟩ u).setCell ⟨b, i + 1, none⟩ v).setCell ⟨b, i + 2, none⟩ x) (.box b (((cs.setIfInBounds i u).setIfInBounds (i + 1) v).setIfInBounds (i + 2) x) :: l) :=
  ((h.setBoxS i u hf).setBoxS (i + 1) v hf).setBoxS (i + 2) x hf
end
theorem app_freshC {P : Program} {w : World} {base b : Nat} {e t ty : TypeId} {i : TypeInfo} {z : Value} {bytes m d : Nat} {B : Option Addr} {h f : Nat → Value} (ht : P.underlying t = some (.slice e)) (hi : P.info? e = some i) (hz : i.zero = some z)
    (hsize : i.size = 1) (hby : i.bytes = bytes) (hzs : z.cells.size = 1) (hown : OwnS w base e (some ⟨b, 0, none⟩) 0 0 f) (hS : Rd w B m h) (h1 : ∀ j, (h j).oneCell' = true)
    (hm : 0 < m) (h63 : m ≤ maxLen) (hbytes : m * bytes ≤ 140737488355328) (hbase : base ≤ w.heap.size) :
    ∃ br c' w', (Builtin.append_ #[t, t] ty #[.slice (some ⟨b, 0, none⟩) 0 0, .slice B m d]).run P w = .ok (.slice (some ⟨br, 0, none⟩) m c') w' ∧ Row w' br m h ∧ m ≤ c' ∧ c' ≤ 9223372036854775807 ∧ (br = b ∨ br = w.heap.size) ∧ Oth b w w' := by
  obtain ⟨A', c', w', hrun, hO, hG, hL⟩ := run_appS (P := P) (ty := ty) (d := d) ht hi hz hsize hby hzs hown hS hS.nil_ h1 (by omega) (by rw [Nat.zero_add]; exact hbytes) hbase
  rw [Nat.zero_add] at hrun hO hL
  obtain ⟨br, rfl, hb, hr, hc⟩ := hO.row hm
  refine ⟨br, c', w', hrun, hr.congr (fun j _ => by simp), hc, ?_, ?_, ⟨hG.os, hG.tape, hG.output, hG.size, fun k hk hne => hG.block k hk (by simp [Value.ownBlock]; omega)⟩⟩
  · rcases hO.cases with ⟨_, _, h⟩ | ⟨_, _, _, _, _, h⟩
    · omega
    · unfold maxLen at h; exact h
  rcases hL with hL | hL
  · left; simpa [Value.ownBlock] using hL
  · right; simpa [Value.ownBlock] using hL
end Go.Kin
