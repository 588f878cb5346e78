/- append onto a fresh empty slice ('append([]T{}, xs...)'): a copy of the call's own. -/
import Derived.Test.YtmnoddmecghjdaaKn
namespace Go.Kin
open Go.RowKit
/-- The step: append(fresh, src...) in a plain region. -/
theorem wpList_appE {P : Program} {w : World} {e : TypeId} {ops : Array Oper} {rest : List Oper} {o : Oper} {a : Act} {Q : Exit → Act → World → Prop} {t : TypeId} {i : TypeInfo} {z : Value} {bytes m d : Nat} {B : Option Addr} {h : Nat → Value} (hgd : o.guard = none) (s x : Operand)
    (ho : o.op = .call { callee := .builtin .append, args := #[s, x], argTypes := #[t, t] }) (ht : P.underlying t = some (.slice e)) (hi : P.info? e = some i) (hz : i.zero = some z)
    (hsize : i.size = 1) (hby : i.bytes = bytes) (hzs : z.cells.size = 1) (hs : a.eval s = .slice (some ⟨w.heap.size, 0, none⟩) 0 0) (hx : a.eval x = .slice B m d) (hS : Rd w B m h) (h1 : ∀ j, (h j).oneCell' = true)
    (h63 : m ≤ maxLen) (hbytes : m * bytes ≤ 140737488355328)
    (hK : ∀ A' c' w', OwnS w' w.heap.size e A' m c' h → Below w.heap.size w w' → wpList P ops Q rest (a.put o.dst (.slice A' m c')) w') : wpList P ops Q (o :: rest) a (w.alloc (.cells #[] e)) := by
  refine wpList_appS hgd s x ho ht hi hz hsize hby hzs hs hx (OwnS.empty w e h rfl (Nat.le_refl _)) (hS.alloc _) hS.nil_ h1 (by omega) (by rw [Nat.zero_add]; exact hbytes) (by simp) ?_
  intro A' c' w' hO hG hL
  rw [Nat.zero_add] at hO ⊢
  refine hK A' c' w' (hO.congr (fun j _ => by simp)) ?_
  exact ((Below.refl _ w).alloc (Nat.le_refl _) _).grown hG (by simp) (fun k hk => by simp [Value.ownBlock] at hk; omega)
end Go.Kin
