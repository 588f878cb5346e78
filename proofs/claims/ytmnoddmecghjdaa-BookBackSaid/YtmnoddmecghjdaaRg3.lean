/- Steps of a region in a chosen order, for operations that bear a guard. -/
import Derived.Test.YtmnoddmecghjdaaRg2
namespace Go.Kin
section
variable {P : Program} {ops : Array Oper} {Q : Exit → Act → World → Prop} {S : World → Prop}
theorem oH_freeG {K : Act → World → Prop} {k : Nat} {r : List (Nat × Nat)} {a : Act} {w : World} {o : Oper} {v : Value} (ho : ops[k]? = some o) (hw : Region.wanted o (yielded ops a.tmps) = true)
    (hv : ∀ w', S w' → (execOp a.eval o).run P w' = .ok (.value v) w') (h : wpOrdH P ops Q S K r (a.put o.dst v) w) : wpOrdH P ops Q S K ((k, 1) :: r) a w := by
  simp only [wpOrdH]
  exact ⟨o, v, ho, .inl ⟨hw, hv⟩, h⟩
theorem oH_skipG {K : Act → World → Prop} {k : Nat} {r : List (Nat × Nat)} {a : Act} {w : World} {o : Oper} (ho : ops[k]? = some o) (hw : Region.wanted o (yielded ops a.tmps) = false)
    (h : wpOrdH P ops Q S K r (a.put o.dst undef) w) : wpOrdH P ops Q S K ((k, 1) :: r) a w := by
  simp only [wpOrdH]
  exact ⟨o, undef, ho, .inr ⟨hw, rfl⟩, h⟩
theorem oH_doG {K : Act → World → Prop} {k : Nat} {r : List (Nat × Nat)} {a : Act} {w : World} {o : Oper} (ho : ops[k]? = some o) (hw : Region.wanted o (yielded ops a.tmps) = true)
    (h : ∀ K' : Act → World → Prop, (∀ a w, S w ∧ wpOrdH P ops Q S K r a w → K' a w) → Oper.wp P o a w K' Q) : wpOrdH P ops Q S K ((k, 2) :: r) a w := by
  have := h _ (fun _ _ h => h)
  simp only [wpOrdH, Go.wpOp, ho]
  rw [if_pos hw]
  exact .inl this
end
end Go.Kin
