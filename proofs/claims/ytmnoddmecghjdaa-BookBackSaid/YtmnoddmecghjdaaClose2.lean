/- Arguments opened into cells: an array of four numbers. -/
import Derived.Test.YtmnoddmecghjdaaClose
namespace Go.Kin
open Go.ChangeShapes Go.WideShapes Go.ChangeAt Go.RowKit Go.Joins Go.Deep
section
variable {H : Type} {enc : TypeId × Value → H} {P : Program} {w : World} {base : Nat} {spare : Nat → Bool} {held : Bool}
theorem array4' {α : Type} {cs : Array α} (h : cs.size = 4) : ∃ c0 c1 c2 c3, cs = #[c0, c1, c2, c3] := by
  obtain ⟨l⟩ := cs
  match l, h with
  | [c0, c1, c2, c3], _ => exact ⟨c0, c1, c2, c3, rfl⟩
theorem open_arr4 {t e : TypeId} {b0 : Nat} {v : Value} {d : DataW H} {p : List MemPlace} (ht : P.underlying t = some (.array 4 e)) (he : P.underlying e = some (.int .i64)) (hct : P.cellsOf t = 4) (hc : P.cellsOf e = 1)
    (hv : Value.okWide P w .any b0 t v) (h : DataW.Trod enc P w base spare held t v d p) : ∃ x0 x1 x2 x3 : Int, v = .agg #[.int .i64 x0, .int .i64 x1, .int .i64 x2, .int .i64 x3] ∧ I64 x0 ∧ I64 x1 ∧ I64 x2 ∧ I64 x3 := by
  obtain ⟨cs, rfl, hsz⟩ := okWide_array ht hv
  obtain ⟨c0, c1, c2, c3, rfl⟩ := array4' (hsz.trans hct)
  obtain ⟨fuel, hf⟩ := h
  obtain ⟨xs, m, _, _, _, hlen, hg⟩ := DataW.trod_array ht hf
  match xs, hlen with
  | [y0, y1, y2, y3], _ =>
    obtain ⟨x0, e0, _, w0⟩ := DataW.trod_int he (by simpa [hc, Value.cells] using hg 0 (by omega))
    obtain ⟨x1, e1, _, w1⟩ := DataW.trod_int he (by simpa [hc, Value.cells] using hg 1 (by omega))
    obtain ⟨x2, e2, _, w2⟩ := DataW.trod_int he (by simpa [hc, Value.cells] using hg 2 (by omega))
    obtain ⟨x3, e3, _, w3⟩ := DataW.trod_int he (by simpa [hc, Value.cells] using hg 3 (by omega))
    simp at e0 e1 e2 e3
    subst e0 e1 e2 e3
    exact ⟨x0, x1, x2, x3, rfl, bounds_i64 w0, bounds_i64 w1, bounds_i64 w2, bounds_i64 w3⟩
/-- A struct of two numbers. -/
theorem open_vec {t ti : TypeId} {f0 f1 : Field} {b0 : Nat} {v : Value} {d : DataW H} {p : List MemPlace} (ht : P.underlying t = some (.struct #[f0, f1])) (hct : P.cellsOf t = 2)
    (h0 : f0.type = ti ∧ f0.offset = 0) (h1 : f1.type = ti ∧ f1.offset = 1) (hi : P.underlying ti = some (.int .i64)) (hci : P.cellsOf ti = 1)
    (hv : Value.okWide P w .any b0 t v) (h : DataW.Trod enc P w base spare held t v d p) : ∃ x0 x1 : Int, v = .agg #[.int .i64 x0, .int .i64 x1] ∧ I64 x0 ∧ I64 x1 := by
  obtain ⟨cs, rfl, hsz⟩ := okWide_struct ht hv
  obtain ⟨c0, c1, rfl⟩ := array2' (hsz.trans hct)
  obtain ⟨fuel, hf⟩ := h
  obtain ⟨y0, y1, n, _, _, r0, r1⟩ := trod_struct2 ht (by simpa [Value.cells] using hf)
  rw [h0.1, h0.2, hci] at r0
  rw [h1.1, h1.2, hci] at r1
  obtain ⟨a, e0, _, w0⟩ := DataW.trod_int hi r0
  obtain ⟨b, e1, _, w1⟩ := DataW.trod_int hi r1
  simp at e0 e1
  subst e0 e1
  exact ⟨a, b, rfl, bounds_i64 w0, bounds_i64 w1⟩
end
end Go.Kin
