/- append of one element onto a slice of the call's own, as a step of a plain region. -/
import Derived.Test.YtfooglenhepogaaKn5
namespace Go.Kin
open Go.RowKit
theorem wpList_app1 {P : Program} {w : World} {base n c b : Nat} {e : TypeId} {ops : Array Oper} {rest : List Oper} {o : Oper} {a : Act} {Q : Exit → Act → World → Prop} {t : TypeId} {i : TypeInfo} {z y : Value} {bytes : Nat} {A : Option Addr} {f : Nat → Value} (hgd : o.guard = none) (s x : Operand)
    (ho : o.op = .call { callee := .builtin .append, args := #[s, x], argTypes := #[t, t] }) (ht : P.underlying t = some (.slice e)) (hi : P.info? e = some i) (hz : i.zero = some z)
    (hsize : i.size = 1) (hby : i.bytes = bytes) (hzs : z.cells.size = 1) (hs : a.eval s = .slice A n c) (hx : a.eval x = .slice (some ⟨b, 0, none⟩) 1 1) (hown : OwnS w base e A n c f) (hB : Box w b #[y]) (h1 : y.oneCell' = true)
    (h63 : n + 1 ≤ maxLen) (hbytes : (n + 1) * bytes ≤ 140737488355328) (hbase : base ≤ w.heap.size)
    (hK : ∀ A' c' w' bo, OwnS w' base e A' (n + 1) c' (fun j => if j < n then f j else y) → base ≤ bo → Oth bo w w' → wpList P ops Q rest (a.put o.dst (.slice A' (n + 1) c')) w') : wpList P ops Q (o :: rest) a w := by
  refine wpList_plain hgd fun K hK' => ?_
  obtain ⟨A', c', w', bo, hrun, h2, h3, h4⟩ := app_one (P := P) (ty := o.type) ht hi hz hsize hby hzs hown hB h1 h63 hbytes hbase
  unfold Oper.wp execOp
  simp only [ho, resolve, invoke, builtin, Sem.run_bind, Sem.run_pure, Result.andThen_ok, List.map_toArray, List.map_cons, List.map_nil, hs, hx, hrun]
  exact hK' _ _ (hK A' c' w' bo h2 h3 h4)
end Go.Kin
