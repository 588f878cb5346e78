/- A great region in a chosen order: its operations stand under a name, so that each step is cheap. -/
import Derived.Test.YtmnoddmecghjdaaRg4
import Derived.Lib.Hide
namespace Go.Kin
open Go.RowKit Go.Lib
section
variable {P : Program} {ops : Array Oper} {l : List Oper} {Q : Exit → Act → World → Prop} {S : World → Prop}
theorem wp_region_allV {id : Nat} {a : Act} {w : World} {l : List Oper} (S : World → Prop) (late : List Nat) (ord : List (Nat × Nat)) (hm : P.follows .mixedOrders = true)
    (hB : (regHB l.toArray late ord && (ord.length == l.length) && decide (Region.ready .any l.toArray (listAfter ord (Array.replicate l.length false)) = [])) = true)
    (hQ : ∀ c a d v w, Q (.panic c) (Act.put a d v) w → Q (.panic c) a w) (hS : S w.drew) (h : ∀ ops, Hid (ops = l.toArray) → wpOrdX P ops Q (Q .normal) S ord a w.drew) : (Code.region id l.toArray true).wp P Q a w :=
  wp_region_allX S late ord hm hB hQ hS (h _ (Lib.hid rfl))
theorem oV_freeG (H : Hid (ops = l.toArray)) {K : Act → World → Prop} {k : Nat} {r : List (Nat × Nat)} {a : Act} {w : World} {o : Oper} {v : Value} (ho : l.toArray[k]? = some o) (hw : Region.wanted o (yielded l.toArray a.tmps) = true)
    (hv : ∀ w', S w' → (execOp a.eval o).run P w' = .ok (.value v) w') (h : wpOrdX P ops Q K S r (a.put o.dst v) w) : wpOrdX P ops Q K S ((k, 1) :: r) a w := by
  rw [H.out] at h ⊢
  exact oX_freeG ho hw hv h
theorem oV_skipG (H : Hid (ops = l.toArray)) {K : Act → World → Prop} {k : Nat} {r : List (Nat × Nat)} {a : Act} {w : World} {o : Oper} (ho : l.toArray[k]? = some o) (hw : Region.wanted o (yielded l.toArray a.tmps) = false)
    (h : wpOrdX P ops Q K S r (a.put o.dst undef) w) : wpOrdX P ops Q K S ((k, 1) :: r) a w := by
  rw [H.out] at h ⊢
  exact oX_skipG ho hw h
theorem oV_doG (H : Hid (ops = l.toArray)) {K : Act → World → Prop} {k : Nat} {r : List (Nat × Nat)} {a : Act} {w : World} {o : Oper} (ho : l.toArray[k]? = some o) (hw : Region.wanted o (yielded l.toArray a.tmps) = true)
    (h : ∀ K' : Act → World → Prop, (∀ (S' : World → Prop) a w, (∀ w, S' w → S w) → S' w → wpOrdX P ops Q K S' r a w → K' a w) → Oper.wp P o a w K' Q) : wpOrdX P ops Q K S ((k, 2) :: r) a w := by
  have e := H.out
  subst e
  exact oX_doG ho hw h
theorem oV_passG (H : Hid (ops = l.toArray)) {K : Act → World → Prop} {k : Nat} {r : List (Nat × Nat)} {a : Act} {w : World} {o : Oper} (ho : l.toArray[k]? = some o) (hw : Region.wanted o (yielded l.toArray a.tmps) = false) (hS : S w)
    (h : wpOrdX P ops Q K S r (a.put o.dst undef) w) : wpOrdX P ops Q K S ((k, 2) :: r) a w := by
  have e := H.out
  subst e
  exact oX_passG ho hw hS h
theorem oV_still (H : Hid (ops = l.toArray)) {K : Act → World → Prop} {k : Nat} {r : List (Nat × Nat)} {a : Act} {w : World} {o : Oper} (ho : l.toArray[k]? = some o)
    (h : ∀ K' : Act → Prop, (∀ a, wpOrdX P ops Q K S r a w → K' a) → if Region.wanted o (yielded l.toArray a.tmps) then o.still P a w K' else K' (a.put o.dst undef)) : wpOrdX P ops Q K S ((k, 0) :: r) a w := by
  have e := H.out
  subst e
  exact oX_still ho h
end
end Go.Kin
