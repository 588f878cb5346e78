/- append onto a slice of the call's own that is empty, as a run: what it makes, and what stays. -/
import Derived.Test.YtmnoddmecghjdaaKn3
namespace Go.Kin
open Go.RowKit
theorem app_fresh {P : Program} {w : World} {base b : Nat} {e t ty : TypeId} {i : TypeInfo} {z : Value} {bytes m d : Nat} {B : Option Addr} {h f : Nat → Value} (ht : P.underlying t = some (.slice e)) (hi : P.info? e = some i) (hz : i.zero = some z)
    (hsize : i.size = 1) (hby : i.bytes = bytes) (hzs : z.cells.size = 1) (hown : OwnS w base e (some ⟨b, 0, none⟩) 0 0 f) (hS : Rd w B m h) (h1 : ∀ j, (h j).oneCell' = true)
    (hm : 0 < m) (h63 : m ≤ maxLen) (hbytes : m * bytes ≤ 140737488355328) (hbase : base ≤ w.heap.size) :
    ∃ br c' w', (Builtin.append_ #[t, t] ty #[.slice (some ⟨b, 0, none⟩) 0 0, .slice B m d]).run P w = .ok (.slice (some ⟨br, 0, none⟩) m c') w' ∧ Row w' br m h ∧ m ≤ c' ∧ (br = b ∨ br = w.heap.size) ∧ Oth b w w' := by
  obtain ⟨A', c', w', hrun, hO, hG, hL⟩ := run_appS (P := P) (ty := ty) (d := d) ht hi hz hsize hby hzs hown hS hS.nil_ h1 (by omega) (by rw [Nat.zero_add]; exact hbytes) hbase
  rw [Nat.zero_add] at hrun hO hL
  obtain ⟨br, rfl, hb, hr, hc⟩ := hO.row hm
  refine ⟨br, c', w', hrun, hr.congr (fun j _ => by simp), hc, ?_, ⟨hG.os, hG.tape, hG.output, hG.size, fun k hk hne => hG.block k hk (by simp [Value.ownBlock]; omega)⟩⟩
  rcases hL with hL | hL
  · left; simpa [Value.ownBlock] using hL
  · right; simpa [Value.ownBlock] using hL
/-- The operation append by its run. -/
theorem wp_app {P : Program} {w w' : World} {a : Act} {K' : Act → World → Prop} {Q : Exit → Act → World → Prop} {d : Option Tmp} {ty : TypeId} {pos : String} {af : Array Edge} {s x : Operand} {t : TypeId} {u v r : Value} (hs : a.eval s = u) (hx : a.eval x = v)
    (hrun : (Builtin.append_ #[t, t] ty #[u, v]).run P w = .ok r w') (h : K' (a.put d r) w') : Oper.wp P ⟨d, .call { callee := .builtin .append, args := #[s, x], argTypes := #[t, t] }, ty, pos, af, none⟩ a w K' Q := by
  unfold Oper.wp execOp
  simp only [resolve, invoke, builtin, Sem.run_bind, Sem.run_pure, Result.andThen_ok, List.map_toArray, List.map_cons, List.map_nil, hs, hx, hrun]
  exact h
end Go.Kin
