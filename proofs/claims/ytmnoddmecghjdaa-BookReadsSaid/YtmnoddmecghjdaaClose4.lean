/- Arguments opened into cells: a struct of four numbers, and a slice of such. -/
import Derived.Test.YtmnoddmecghjdaaClose3
set_option linter.unusedVariables false
namespace Go.Kin
open Go.ChangeShapes Go.WideShapes Go.ChangeAt Go.RowKit Go.Joins Go.Deep
section
variable {H : Type} {enc : TypeId × Value → H} {P : Program} {w : World} {base : Nat} {spare : Nat → Bool} {held : Bool}
theorem trod_ints4 {t ti : TypeId} {f0 f1 f2 f3 : Field} {fuel : Nat} {c0 c1 c2 c3 : Value} {x : DataW H × List MemPlace} (ht : P.underlying t = some (.struct #[f0, f1, f2, f3]))
    (h0 : f0.type = ti ∧ f0.offset = 0) (h1 : f1.type = ti ∧ f1.offset = 1) (h2 : f2.type = ti ∧ f2.offset = 2) (h3 : f3.type = ti ∧ f3.offset = 3) (hi : P.underlying ti = some (.int .i64)) (hci : P.cellsOf ti = 1)
    (h : DataW.trod enc P w base spare held fuel t [c0, c1, c2, c3] = some x) : ∃ x0 x1 x2 x3 : Int, (c0 = .int .i64 x0 ∧ c1 = .int .i64 x1 ∧ c2 = .int .i64 x2 ∧ c3 = .int .i64 x3) ∧ I64 x0 ∧ I64 x1 ∧ I64 x2 ∧ I64 x3 := by
  obtain ⟨xs, n, _, _, hl, hlen, hf⟩ := DataW.trod_struct ht h
  match xs, hlen with
  | [y0, y1, y2, y3], _ =>
    have r0 : DataW.trod enc P w base spare held n f0.type (([c0, c1, c2, c3].drop f0.offset).take (P.cellsOf f0.type)) = some y0 := by simpa using hf 0 f0 rfl
    have r1 : DataW.trod enc P w base spare held n f1.type (([c0, c1, c2, c3].drop f1.offset).take (P.cellsOf f1.type)) = some y1 := by simpa using hf 1 f1 rfl
    have r2 : DataW.trod enc P w base spare held n f2.type (([c0, c1, c2, c3].drop f2.offset).take (P.cellsOf f2.type)) = some y2 := by simpa using hf 2 f2 rfl
    have r3 : DataW.trod enc P w base spare held n f3.type (([c0, c1, c2, c3].drop f3.offset).take (P.cellsOf f3.type)) = some y3 := by simpa using hf 3 f3 rfl
    rw [h0.1, h0.2, hci] at r0
    rw [h1.1, h1.2, hci] at r1
    rw [h2.1, h2.2, hci] at r2
    rw [h3.1, h3.2, hci] at r3
    obtain ⟨x0, e0, _, w0⟩ := DataW.trod_int hi r0
    obtain ⟨x1, e1, _, w1⟩ := DataW.trod_int hi r1
    obtain ⟨x2, e2, _, w2⟩ := DataW.trod_int hi r2
    obtain ⟨x3, e3, _, w3⟩ := DataW.trod_int hi r3
    simp at e0 e1 e2 e3
    exact ⟨x0, x1, x2, x3, ⟨e0, e1, e2, e3⟩, bounds_i64 w0, bounds_i64 w1, bounds_i64 w2, bounds_i64 w3⟩
theorem open_act4 {t ti : TypeId} {f0 f1 f2 f3 : Field} {b0 : Nat} {v : Value} {d : DataW H} {p : List MemPlace} (ht : P.underlying t = some (.struct #[f0, f1, f2, f3])) (hct : P.cellsOf t = 4)
    (h0 : f0.type = ti ∧ f0.offset = 0) (h1 : f1.type = ti ∧ f1.offset = 1) (h2 : f2.type = ti ∧ f2.offset = 2) (h3 : f3.type = ti ∧ f3.offset = 3) (hi : P.underlying ti = some (.int .i64)) (hci : P.cellsOf ti = 1)
    (hv : Value.okWide P w .any b0 t v) (h : DataW.Trod enc P w base spare held t v d p) : ∃ x0 x1 x2 x3 : Int, v = .agg #[.int .i64 x0, .int .i64 x1, .int .i64 x2, .int .i64 x3] ∧ I64 x0 ∧ I64 x1 ∧ I64 x2 ∧ I64 x3 := by
  obtain ⟨cs, rfl, hsz⟩ := okWide_struct ht hv
  obtain ⟨c0, c1, c2, c3, rfl⟩ := array4' (hsz.trans hct)
  obtain ⟨fuel, hf⟩ := h
  obtain ⟨x0, x1, x2, x3, ⟨rfl, rfl, rfl, rfl⟩, r⟩ := trod_ints4 ht h0 h1 h2 h3 hi hci (by simpa [Value.cells] using hf)
  exact ⟨x0, x1, x2, x3, rfl, r⟩
theorem open_acts4 {t e ti : TypeId} {f0 f1 f2 f3 : Field} {b0 : Nat} {v : Value} {d : DataW H} {p : List MemPlace} (ht : P.underlying t = some (.slice e)) (he : P.underlying e = some (.struct #[f0, f1, f2, f3])) (hce : P.cellsOf e = 4)
    (h0 : f0.type = ti ∧ f0.offset = 0) (h1 : f1.type = ti ∧ f1.offset = 1) (h2 : f2.type = ti ∧ f2.offset = 2) (h3 : f3.type = ti ∧ f3.offset = 3) (hi : P.underlying ti = some (.int .i64)) (hci : P.cellsOf ti = 1)
    (hv : Value.okWide P w .any b0 t v) (h : DataW.Trod enc P w base spare held t v d p) : ∃ (A : Option Addr) (n c : Nat) (f : Nat → Nat → Int), v = .slice A n c ∧ Rd w A (n * 4) (recs 4 f) ∧ (∀ i r, I64 (f i r)) ∧ n ≤ c ∧ c ≤ 9223372036854775807 := by
  obtain ⟨a0, l0, c0, rfl⟩ := okWide_slice ht hv
  obtain ⟨fuel, hf⟩ := h
  rcases open_slice ht hf with ⟨hcs, _⟩ | ⟨a, len, cap, m, n, D, Pl, hcs, _, hl, hm, hmm, _, hx⟩
  · simp [Value.cells] at hcs
    obtain ⟨rfl, rfl, rfl⟩ := hcs
    exact ⟨none, 0, 0, fun _ _ => 0, rfl, Rd.none_ _ _ _, fun _ _ => by show I64 0; unfold I64; omega, by omega, by omega⟩
  simp [Value.cells] at hcs
  obtain ⟨rfl, rfl, rfl⟩ := hcs
  have hlm : l0 ≤ m := by rw [hmm]; split <;> omega
  obtain ⟨V, hV⟩ := choose_lt (α := Nat → Int) (n := l0) (p := fun i v => (∀ r, r < 4 → w.cell? (a.add (i * 4 + r)) = some (.int .i64 (v r))) ∧ ∀ r, I64 (v r)) (fun i hi' => by
    obtain ⟨cs', g1, g2⟩ := hx i (by omega)
    rw [hce] at g1
    obtain ⟨_, hlen, hcell⟩ := World.cells?_some g1
    match cs', hlen with
    | [u0, u1, u2, u3], _ =>
      obtain ⟨x0, x1, x2, x3, ⟨rfl, rfl, rfl, rfl⟩, w0, w1, w2, w3⟩ := trod_ints4 he h0 h1 h2 h3 hi hci g2
      refine ⟨fun r => if r = 0 then x0 else if r = 1 then x1 else if r = 2 then x2 else x3, fun r hr => ?_, fun r => ?_⟩
      · have k := hcell r (by simpa using hr)
        rw [add_add] at k
        rw [k]
        rcases (show r = 0 ∨ r = 1 ∨ r = 2 ∨ r = 3 by omega) with rfl | rfl | rfl | rfl <;> rfl
      · dsimp only
        split
        · exact w0
        · split
          · exact w1
          · split
            · exact w2
            · exact w3)
  refine ⟨some a, l0, c0, fun i r => if i < l0 then V i r else 0, rfl, ?_, fun i r => ?_, hl, by unfold maxLen at hm; exact hm⟩
  · rcases Nat.eq_zero_or_pos l0 with hz | hz
    · subst hz; rw [Nat.zero_mul]; exact Rd.none_ _ _ _
    obtain ⟨b, off, spot⟩ := a
    have hs : spot = none := by
      have h0 := (hV 0 hz).1 0 (by omega)
      simpa [Addr.add] using World.cell?_spot h0
    subst hs
    refine recs_rd (by omega) (fun i hi' r hr => ?_)
    have k0 := (hV i hi').1 r hr
    rw [addr_add, ← Nat.add_assoc] at k0
    rw [if_pos hi']
    exact k0
  · dsimp only
    split
    · next hh => exact (hV i hh).2 r
    · unfold I64; omega
end
end Go.Kin
