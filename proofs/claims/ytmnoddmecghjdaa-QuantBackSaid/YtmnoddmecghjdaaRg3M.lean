/- Steps of a region in a chosen order, for operations that bear a guard. -/
import Derived.Test.YtmnoddmecghjdaaRg2
import Derived.Lib.Hide
namespace Go.Kin
section
variable {P : Program} {ops : Array Oper} {Q : Exit → Act → World → Prop} {S : World → Prop}
theorem oH_freeG {K : Act → World → Prop} {k : Nat} {r : List (Nat × Nat)} {a : Act} {w : World} {o : Oper} {v : Value} (ho : ops[k]? = some o) (hw : Region.wanted o (yielded ops a.tmps) = true)
    (hv : ∀ w', S w' → (execOp a.eval o).run P w' = .ok (.value v) w') (h : wpOrdH P ops Q S K r (a.put o.dst v) w) : wpOrdH P ops Q S K ((k, 1) :: r) a w := by
  simp only [wpOrdH]
  exact ⟨o, v, ho, .inl ⟨hw, hv⟩, h⟩
theorem oH_skipG {K : Act → World → Prop} {k : Nat} {r : List (Nat × Nat)} {a : Act} {w : World} {o : Oper} (ho : ops[k]? = some o) (hw : Region.wanted o (yielded ops a.tmps) = false)
    (h : wpOrdH P ops Q S K r (a.put o.dst undef) w) : wpOrdH P ops Q S K ((k, 1) :: r) a w := by
  simp only [wpOrdH]
  exact ⟨o, undef, ho, .inr ⟨hw, rfl⟩, h⟩
theorem oH_doG {K : Act → World → Prop} {k : Nat} {r : List (Nat × Nat)} {a : Act} {w : World} {o : Oper} (ho : ops[k]? = some o) (hw : Region.wanted o (yielded ops a.tmps) = true)
    (h : ∀ K' : Act → World → Prop, (∀ a w, S w ∧ wpOrdH P ops Q S K r a w → K' a w) → Oper.wp P o a w K' Q) : wpOrdH P ops Q S K ((k, 2) :: r) a w := by
  have := h _ (fun _ _ h => h)
  simp only [wpOrdH, Go.wpOp, ho]
  rw [if_pos hw]
  exact .inl this
end
end Go.Kin
/- A region that draws its order, walked in one chosen order, where what is known of the world may grow behind each writing operation. No condition but what is reckoned. -/
namespace Go.Kin
section
variable {P : Program} {ops : Array Oper} {Q : Exit → Act → World → Prop} {md : Region.Mode} {S S' : World → Prop} {late : Nat → Bool}
theorem wpH_mono (hS : ∀ w, S' w → S w) : ∀ (fuel : Nat) (listed : Array Bool) (a : Act) (w : World), wpH P md ops Q S' late fuel listed a w → wpH P md ops Q S late fuel listed a w
  | 0, _, _, _, h => h
  | fuel + 1, _, _, _, h => ⟨h.1, fun i hi => wpOp_mono (fun a' w' h' => ⟨h'.1, hS _ h'.2.1, wpH_mono hS fuel _ a' w' h'.2.2⟩) (h.2 i hi)⟩
/-- The chosen order and what comes behind it (0: leaves the world; 1: yields in every world that meets S; else: it alone may come up, and what is known behind it is S', which says S). -/
def wpOrdX (P : Program) (ops : Array Oper) (Q : Exit → Act → World → Prop) (K : Act → World → Prop) : (World → Prop) → List (Nat × Nat) → Act → World → Prop
  | _, [], a, w => K a w
  | S, (k, 0) :: r, a, w => stOp P ops w k (fun a' => wpOrdX P ops Q K S r a' w) a
  | S, (k, 1) :: r, a, w => ∃ o v, ops[k]? = some o ∧ YieldsIf P ops S o v a ∧ wpOrdX P ops Q K S r (a.put o.dst v) w
  | S, (k, _ + 2) :: r, a, w => wpOp P ops Q k (fun a' w' => ∃ S' : World → Prop, (∀ w, S' w → S w) ∧ S' w' ∧ wpOrdX P ops Q K S' r a' w') a w
theorem wpH_of_ordX (hsel : Region.noSelect ops = true) (hQ : ∀ c a d v w, Q (.panic c) (Act.put a d v) w → Q (.panic c) a w) {K : Act → World → Prop} {fuel : Nat} : ∀ (ord : List (Nat × Nat)) (S : World → Prop) (listed : Array Bool) (a : Act) (w : World),
    ordHB md ops late ord listed = true → (∀ S a w, S w → K a w → wpH P md ops Q S late fuel (listAfter ord listed) a w) → S w → wpOrdX P ops Q K S ord a w → wpH P md ops Q S late (ord.length + fuel) listed a w
  | [], S, listed, a, w, _, hK, hS, h => by
    rw [List.length_nil, Nat.zero_add]
    exact hK S a w hS h
  | (k, 0) :: r, S, listed, a, w, hB, hK, hS, h => by
    simp only [ordHB, Bool.and_eq_true] at hB
    obtain ⟨⟨⟨hr, hf⟩, hw⟩, hB'⟩ := hB
    have hr' : k ∈ Region.ready md ops listed := by simpa using hr
    obtain ⟨_, ok, hok, _⟩ := mem_ready.1 hr'
    obtain ⟨v, hy, hKk⟩ := yieldsAt_of_stOp hok h
    rw [List.length_cons, show r.length + 1 + fuel = (r.length + fuel) + 1 by omega]
    exact wpH_first hok (Region.noSelect_spec hsel) (fun c a w => hQ c a _ _ w) _ listed a w (waitsAll_spec hw) (Region.free_spec hok hf) hr' hy hS (wpH_of_ordX hsel hQ r S _ _ _ hB' hK hS hKk)
  | (k, 1) :: r, S, listed, a, w, hB, hK, hS, h => by
    simp only [ordHB, Bool.and_eq_true] at hB
    obtain ⟨⟨hr, hf⟩, hB'⟩ := hB
    have hr' : k ∈ Region.ready md ops listed := by simpa using hr
    obtain ⟨ok, v, hok, hy, hKk⟩ := h
    rw [List.length_cons, show r.length + 1 + fuel = (r.length + fuel) + 1 by omega]
    exact wpH_firstS hok (Region.noSelect_spec hsel) (fun c a w => hQ c a _ _ w) _ listed a w (Region.free_spec hok hf) hr' hy hS (wpH_of_ordX hsel hQ r S _ _ _ hB' hK hS hKk)
  | (k, n + 2) :: r, S, listed, a, w, hB, hK, hS, h => by
    simp only [ordHB, Bool.and_eq_true, decide_eq_true_eq] at hB
    obtain ⟨⟨hr, hl⟩, hB'⟩ := hB
    rw [List.length_cons, show r.length + 1 + fuel = (r.length + fuel) + 1 by omega]
    refine ⟨fun h0 => (by rw [hr] at h0; cases h0), fun i hi => ?_⟩
    rw [hr] at hi
    have hik : i = k := by simpa using hi
    subst hik
    refine wpOp_mono (fun a' w' h' => ?_) h
    obtain ⟨S', hSS, hS', h''⟩ := h'
    exact ⟨fun e => (by rw [hl] at e; cases e), hSS _ hS', wpH_mono hSS _ _ _ _ (wpH_of_ordX hsel hQ r S' _ a' w' hB' hK hS' h'')⟩
/-- The region, walked in the chosen order, which is all of it. -/
theorem wp_region_allX {id : Nat} {a : Act} {w : World} {l : List Oper} (S : World → Prop) (late : List Nat) (ord : List (Nat × Nat)) (hm : P.follows .mixedOrders = true)
    (hB : (regHB l.toArray late ord && (ord.length == l.length) && decide (Region.ready .any l.toArray (listAfter ord (Array.replicate l.length false)) = [])) = true)
    (hQ : ∀ c a d v w, Q (.panic c) (Act.put a d v) w → Q (.panic c) a w) (hS : S w.drew) (h : wpOrdX P l.toArray Q (Q .normal) S ord a w.drew) : (Code.region id l.toArray true).wp P Q a w := by
  simp only [Bool.and_eq_true, beq_iff_eq, decide_eq_true_eq] at hB
  obtain ⟨⟨hB1, hlen⟩, hr⟩ := hB
  simp only [regHB, Bool.and_eq_true, decide_eq_true_eq] at hB1
  obtain ⟨⟨hsel, hle⟩, hord⟩ := hB1
  have hsz : l.toArray.size = l.length := by simp
  rw [hsz] at hle hord
  have := wpAny_of_H _ _ _ _ (wpH_of_ordX (fuel := 0) hsel hQ ord S _ a w.drew hord (fun S' a' w' _ hK => ⟨hr, hK⟩) hS h)
  rw [show ord.length + 0 = l.toArray.size by rw [hsz]; omega, ← hsz] at this
  exact wp_region_any hm this
theorem oX_freeG {K : Act → World → Prop} {k : Nat} {r : List (Nat × Nat)} {a : Act} {w : World} {o : Oper} {v : Value} (ho : ops[k]? = some o) (hw : Region.wanted o (yielded ops a.tmps) = true)
    (hv : ∀ w', S w' → (execOp a.eval o).run P w' = .ok (.value v) w') (h : wpOrdX P ops Q K S r (a.put o.dst v) w) : wpOrdX P ops Q K S ((k, 1) :: r) a w := by
  simp only [wpOrdX]
  exact ⟨o, v, ho, .inl ⟨hw, hv⟩, h⟩
theorem oX_skipG {K : Act → World → Prop} {k : Nat} {r : List (Nat × Nat)} {a : Act} {w : World} {o : Oper} (ho : ops[k]? = some o) (hw : Region.wanted o (yielded ops a.tmps) = false)
    (h : wpOrdX P ops Q K S r (a.put o.dst undef) w) : wpOrdX P ops Q K S ((k, 1) :: r) a w := by
  simp only [wpOrdX]
  exact ⟨o, undef, ho, .inr ⟨hw, rfl⟩, h⟩
theorem oX_doG {K : Act → World → Prop} {k : Nat} {r : List (Nat × Nat)} {a : Act} {w : World} {o : Oper} (ho : ops[k]? = some o) (hw : Region.wanted o (yielded ops a.tmps) = true)
    (h : ∀ K' : Act → World → Prop, (∀ (S' : World → Prop) a w, (∀ w, S' w → S w) → S' w → wpOrdX P ops Q K S' r a w → K' a w) → Oper.wp P o a w K' Q) : wpOrdX P ops Q K S ((k, 2) :: r) a w := by
  have := h (fun a' w' => ∃ S' : World → Prop, (∀ w, S' w → S w) ∧ S' w' ∧ wpOrdX P ops Q K S' r a' w') (fun S' a w h1 h2 h3 => ⟨S', h1, h2, h3⟩)
  simp only [wpOrdX, Go.wpOp, ho]
  rw [if_pos hw]
  exact .inl this
/-- A writing operation that its guard passes over. -/
theorem oX_passG {K : Act → World → Prop} {k : Nat} {r : List (Nat × Nat)} {a : Act} {w : World} {o : Oper} (ho : ops[k]? = some o) (hw : Region.wanted o (yielded ops a.tmps) = false) (hS : S w)
    (h : wpOrdX P ops Q K S r (a.put o.dst undef) w) : wpOrdX P ops Q K S ((k, 2) :: r) a w := by
  simp only [wpOrdX, Go.wpOp, ho]
  rw [if_neg (by rw [hw]; decide)]
  exact ⟨S, fun _ h => h, hS, h⟩
theorem oX_still {K : Act → World → Prop} {k : Nat} {r : List (Nat × Nat)} {a : Act} {w : World} {o : Oper} (ho : ops[k]? = some o)
    (h : ∀ K' : Act → Prop, (∀ a, wpOrdX P ops Q K S r a w → K' a) → if Region.wanted o (yielded ops a.tmps) then o.still P a w K' else K' (a.put o.dst undef)) : wpOrdX P ops Q K S ((k, 0) :: r) a w := by
  have := h _ (fun _ h => h)
  simp only [wpOrdX, stOp, ho]
  exact this
theorem oX_nil {K : Act → World → Prop} {a : Act} {w : World} (h : K a w) : wpOrdX P ops Q K S [] a w := h
end
end Go.Kin
/- A great region in a chosen order: its operations stand under a name, so that each step is cheap. -/
namespace Go.Kin
open Go.RowKit Go.Lib
section
variable {P : Program} {ops : Array Oper} {l : List Oper} {Q : Exit → Act → World → Prop} {S : World → Prop}
theorem wp_region_allV {id : Nat} {a : Act} {w : World} {l : List Oper} (S : World → Prop) (late : List Nat) (ord : List (Nat × Nat)) (hm : P.follows .mixedOrders = true)
    (hB : (regHB l.toArray late ord && (ord.length == l.length) && decide (Region.ready .any l.toArray (listAfter ord (Array.replicate l.length false)) = [])) = true)
    (hQ : ∀ c a d v w, Q (.panic c) (Act.put a d v) w → Q (.panic c) a w) (hS : S w.drew) (h : ∀ ops, Hid (ops = l.toArray) → wpOrdX P ops Q (Q .normal) S ord a w.drew) : (Code.region id l.toArray true).wp P Q a w :=
  wp_region_allX S late ord hm hB hQ hS (h _ (Lib.hid rfl))
theorem oV_freeG (H : Hid (ops = l.toArray)) {K : Act → World → Prop} {k : Nat} {r : List (Nat × Nat)} {a : Act} {w : World} {o : Oper} {v : Value} (ho : l.toArray[k]? = some o) (hw : Region.wanted o (yielded l.toArray a.tmps) = true)
    (hv : ∀ w', S w' → (execOp a.eval o).run P w' = .ok (.value v) w') (h : wpOrdX P ops Q K S r (a.put o.dst v) w) : wpOrdX P ops Q K S ((k, 1) :: r) a w := by
  rw [H.out] at h ⊢
  exact oX_freeG ho hw hv h
theorem oV_skipG (H : Hid (ops = l.toArray)) {K : Act → World → Prop} {k : Nat} {r : List (Nat × Nat)} {a : Act} {w : World} {o : Oper} (ho : l.toArray[k]? = some o) (hw : Region.wanted o (yielded l.toArray a.tmps) = false)
    (h : wpOrdX P ops Q K S r (a.put o.dst undef) w) : wpOrdX P ops Q K S ((k, 1) :: r) a w := by
  rw [H.out] at h ⊢
  exact oX_skipG ho hw h
theorem oV_doG (H : Hid (ops = l.toArray)) {K : Act → World → Prop} {k : Nat} {r : List (Nat × Nat)} {a : Act} {w : World} {o : Oper} (ho : l.toArray[k]? = some o) (hw : Region.wanted o (yielded l.toArray a.tmps) = true)
    (h : ∀ K' : Act → World → Prop, (∀ (S' : World → Prop) a w, (∀ w, S' w → S w) → S' w → wpOrdX P ops Q K S' r a w → K' a w) → Oper.wp P o a w K' Q) : wpOrdX P ops Q K S ((k, 2) :: r) a w := by
  have e := H.out
  subst e
  exact oX_doG ho hw h
theorem oV_passG (H : Hid (ops = l.toArray)) {K : Act → World → Prop} {k : Nat} {r : List (Nat × Nat)} {a : Act} {w : World} {o : Oper} (ho : l.toArray[k]? = some o) (hw : Region.wanted o (yielded l.toArray a.tmps) = false) (hS : S w)
    (h : wpOrdX P ops Q K S r (a.put o.dst undef) w) : wpOrdX P ops Q K S ((k, 2) :: r) a w := by
  have e := H.out
  subst e
  exact oX_passG ho hw hS h
theorem oV_still (H : Hid (ops = l.toArray)) {K : Act → World → Prop} {k : Nat} {r : List (Nat × Nat)} {a : Act} {w : World} {o : Oper} (ho : l.toArray[k]? = some o)
    (h : ∀ K' : Act → Prop, (∀ a, wpOrdX P ops Q K S r a w → K' a) → if Region.wanted o (yielded l.toArray a.tmps) then o.still P a w K' else K' (a.put o.dst undef)) : wpOrdX P ops Q K S ((k, 0) :: r) a w := by
  have e := H.out
  subst e
  exact oX_still ho h
end
end Go.Kin
