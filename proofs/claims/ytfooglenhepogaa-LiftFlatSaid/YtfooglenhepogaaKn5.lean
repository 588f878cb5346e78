/- append of one element onto a slice of the call's own, as a run. -/
import Derived.Test.YtfooglenhepogaaKn4
namespace Go.Kin
open Go.RowKit
theorem app_one {P : Program} {w : World} {base n c b : Nat} {e t ty : TypeId} {i : TypeInfo} {z x : Value} {bytes : Nat} {A : Option Addr} {f : Nat → Value} (ht : P.underlying t = some (.slice e)) (hi : P.info? e = some i) (hz : i.zero = some z)
    (hsize : i.size = 1) (hby : i.bytes = bytes) (hzs : z.cells.size = 1) (hown : OwnS w base e A n c f) (hB : Box w b #[x]) (h1 : x.oneCell' = true) (h63 : n + 1 ≤ maxLen) (hbytes : (n + 1) * bytes ≤ 140737488355328) (hbase : base ≤ w.heap.size) :
    ∃ A' c' w' bo, (Builtin.append_ #[t, t] ty #[.slice A n c, .slice (some ⟨b, 0, none⟩) 1 1]).run P w = .ok (.slice A' (n + 1) c') w' ∧ OwnS w' base e A' (n + 1) c' (fun j => if j < n then f j else x) ∧ base ≤ bo ∧ Oth bo w w' := by
  have hS : Rd w (some ⟨b, 0, none⟩) 1 (fun _ => x) := Box.rd hB (fun j hj => by obtain rfl : j = 0 := (by omega); rfl)
  obtain ⟨A', c', w', hrun, hO, hG, hL⟩ := run_appS (P := P) (ty := ty) (d := 1) ht hi hz hsize hby hzs hown hS (fun h => by cases h) (fun _ => h1) h63 hbytes hbase
  rcases hown.cases with ⟨rfl, rfl, rfl⟩ | ⟨bo, rfl, hbo, _⟩
  · exact ⟨A', c', w', w.heap.size, hrun, hO, hbase, ⟨hG.os, hG.tape, hG.output, hG.size, fun k hk _ => hG.block k hk (by simp [Value.ownBlock])⟩⟩
  · exact ⟨A', c', w', bo, hrun, hO, hbo, ⟨hG.os, hG.tape, hG.output, hG.size, fun k hk hne => hG.block k hk (by simp [Value.ownBlock]; omega)⟩⟩
end Go.Kin
