/- A region that draws its order, with a condition S on the world that every writing operation keeps: loads that S decides may be walked first; where two writing operations may come up, both orders are walked. No condition but what is reckoned. -/
import Derived.Test.YtmnoddmecghjdaaReg
import Derived.OrdersHeld
namespace Go.Kin
section
variable {P : Program} {ops : Array Oper} {Q : Exit → Act → World → Prop} {md : Region.Mode} {S : World → Prop} {late : Nat → Bool}

/-- Whatever order is picked from here on: operations that are not late leave the world as it is, late ones keep S. -/
def wpH (P : Program) (md : Region.Mode) (ops : Array Oper) (Q : Exit → Act → World → Prop) (S : World → Prop) (late : Nat → Bool) : Nat → Array Bool → Act → World → Prop
  | 0, listed, a, w => Region.ready md ops listed = [] ∧ Q .normal a w
  | fuel + 1, listed, a, w =>
    (Region.ready md ops listed = [] → Q .normal a w) ∧
    ∀ i ∈ Region.ready md ops listed, wpOp P ops Q i (fun a' w' => (late i = false → w' = w) ∧ S w' ∧ wpH P md ops Q S late fuel (listed.setIfInBounds i true) a' w') a w

theorem wpAny_of_H : ∀ (fuel : Nat) (listed : Array Bool) (a : Act) (w : World), wpH P md ops Q S late fuel listed a w → wpAny P md ops Q fuel listed a w
  | 0, _, _, _, h => h
  | fuel + 1, _, _, _, h => ⟨h.1, fun i hi => wpOp_mono (fun a' w' h' => wpAny_of_H fuel _ a' w' h'.2.2) (h.2 i hi)⟩

theorem not_waits {i : Nat} {oj : Oper} {listed : Array Bool} (hr : i ∈ Region.ready md ops listed) (hall : ∀ e ∈ oj.after, Region.binds md e = true → listed.getD e.on false = true) :
    ∀ e ∈ oj.after, Region.binds md e = true → e.on ≠ i := fun e he hb heq => by
  have h1 := hall e he hb
  have h0 := (mem_ready.1 hr).1
  rw [heq] at h1
  rcases Nat.lt_or_ge i listed.size with h' | h'
  · simp [h'] at h0 h1; rw [h0] at h1; cases h1
  · simp [Array.getElem?_eq_none h'] at h1

/-- An operation that leaves the world as it is, and for which every late one waits, may be taken first. -/
theorem wpH_first {i : Nat} {oi : Oper} {v : Value} (hi : ops[i]? = some oi) (hsel : ∀ (j : Nat) (o : Oper) cs b, ops[j]? = some o → o.op ≠ .select cs b)
    (hQ : ∀ c a w, Q (.panic c) (a.put oi.dst v) w → Q (.panic c) a w) :
    ∀ (fuel : Nat) (listed : Array Bool) (a : Act) (w : World),
      (∀ j oj, ops[j]? = some oj → late j = true → listed.getD j true = false → ∃ e ∈ oj.after, Region.binds md e = true ∧ e.on = i) →
      (∀ j oj, ops[j]? = some oj → j ≠ i → listed.getD j true = false → (∀ e ∈ oj.after, Region.binds md e = true → e.on ≠ i) → oi.apart ops oj = true) →
      i ∈ Region.ready md ops listed → YieldsAt P ops w oi v a → S w →
      wpH P md ops Q S late fuel (listed.setIfInBounds i true) (a.put oi.dst v) w → wpH P md ops Q S late (fuel + 1) listed a w := by
  intro fuel
  induction fuel with
  | zero =>
    intro listed a w _ _ hr hy hS H
    refine ⟨fun h => (by rw [h] at hr; cases hr), fun j hj => ?_⟩
    by_cases hji : j = i
    · subst hji; exact YieldsAt.wpOp hi hy ⟨fun _ => rfl, hS, H⟩
    · have := ready_mono hj hji
      rw [H.1] at this
      cases this
  | succ fuel ih =>
    intro listed a w hcond hfree hr hy hS H
    refine ⟨fun h => (by rw [h] at hr; cases hr), fun j hj => ?_⟩
    by_cases hji : j = i
    · subst hji; exact YieldsAt.wpOp hi hy ⟨fun _ => rfl, hS, H⟩
    · have h1 := H.2 j (ready_mono hj hji)
      obtain ⟨hjun, oj, hoj, hall⟩ := mem_ready.1 hj
      have hnot := not_waits hr hall
      have h2 := wpOp_putAt hoj (hfree j oj hoj hji hjun hnot) (fun cs b => hsel i oi cs b hi) (fun cs b => hsel j oj cs b hoj) hQ hy h1
      have hsub : ∀ k, (listed.setIfInBounds j true).getD k true = false → listed.getD k true = false := fun k hun => by
        by_cases hjk : j = k
        · subst hjk; exact hjun
        · rw [getD_set_ne true hjk] at hun; exact hun
      refine wpOp_mono (fun a' w' h3 => ⟨h3.2.1, h3.2.2.1, ?_⟩) h2
      have hlj : late j = false := by
        cases hlj : late j with
        | false => rfl
        | true =>
          obtain ⟨e, he, hb, hon⟩ := hcond j oj hoj hlj hjun
          exact absurd hon (hnot e he hb)
      have hw := h3.2.1 hlj
      refine ih (listed.setIfInBounds j true) a' w' (fun k ok hk hlk hun => hcond k ok hk hlk (hsub k hun)) (fun k ok hk hki hun hno => hfree k ok hk hki (hsub k hun) hno) (ready_mono hr (Ne.symm hji)) (by rw [hw]; exact h3.1) h3.2.2.1 ?_
      rw [Array.setIfInBounds_comm _ _ hji]
      exact h3.2.2.2

/-- An operation that yields its value in every world that meets S may be taken first. -/
theorem wpH_firstS {i : Nat} {oi : Oper} {v : Value} (hi : ops[i]? = some oi) (hsel : ∀ (j : Nat) (o : Oper) cs b, ops[j]? = some o → o.op ≠ .select cs b)
    (hQ : ∀ c a w, Q (.panic c) (a.put oi.dst v) w → Q (.panic c) a w) :
    ∀ (fuel : Nat) (listed : Array Bool) (a : Act) (w : World),
      (∀ j oj, ops[j]? = some oj → j ≠ i → listed.getD j true = false → (∀ e ∈ oj.after, Region.binds md e = true → e.on ≠ i) → oi.apart ops oj = true) →
      i ∈ Region.ready md ops listed → YieldsIf P ops S oi v a → S w →
      wpH P md ops Q S late fuel (listed.setIfInBounds i true) (a.put oi.dst v) w → wpH P md ops Q S late (fuel + 1) listed a w := by
  intro fuel
  induction fuel with
  | zero =>
    intro listed a w _ hr hy hS H
    refine ⟨fun h => (by rw [h] at hr; cases hr), fun j hj => ?_⟩
    by_cases hji : j = i
    · subst hji; exact hy.wpOp hi hS ⟨fun _ => rfl, hS, H⟩
    · have := ready_mono hj hji
      rw [H.1] at this
      cases this
  | succ fuel ih =>
    intro listed a w hfree hr hy hS H
    refine ⟨fun h => (by rw [h] at hr; cases hr), fun j hj => ?_⟩
    by_cases hji : j = i
    · subst hji; exact hy.wpOp hi hS ⟨fun _ => rfl, hS, H⟩
    · have h1 := H.2 j (ready_mono hj hji)
      obtain ⟨hjun, oj, hoj, hall⟩ := mem_ready.1 hj
      have hnot := not_waits hr hall
      have h2 := wpOp_putIf hoj (hfree j oj hoj hji hjun hnot) (fun cs b => hsel i oi cs b hi) (fun cs b => hsel j oj cs b hoj) hQ hy h1
      have hsub : ∀ k, (listed.setIfInBounds j true).getD k true = false → listed.getD k true = false := fun k hun => by
        by_cases hjk : j = k
        · subst hjk; exact hjun
        · rw [getD_set_ne true hjk] at hun; exact hun
      refine wpOp_mono (fun a' w' h3 => ⟨h3.2.1, h3.2.2.1, ?_⟩) h2
      refine ih (listed.setIfInBounds j true) a' w' (fun k ok hk hki hun hno => hfree k ok hk hki (hsub k hun) hno) (ready_mono hr (Ne.symm hji)) h3.1 h3.2.2.1 ?_
      rw [Array.setIfInBounds_comm _ _ hji]
      exact h3.2.2.2

/-- The chosen order and what comes behind it (0: leaves the world; 1: yields in every world that meets S; else: it alone may come up, and S holds behind it). -/
def wpOrdH (P : Program) (ops : Array Oper) (Q : Exit → Act → World → Prop) (S : World → Prop) (K : Act → World → Prop) : List (Nat × Nat) → Act → World → Prop
  | [], a, w => K a w
  | (k, 0) :: r, a, w => stOp P ops w k (fun a' => wpOrdH P ops Q S K r a' w) a
  | (k, 1) :: r, a, w => ∃ o v, ops[k]? = some o ∧ YieldsIf P ops S o v a ∧ wpOrdH P ops Q S K r (a.put o.dst v) w
  | (k, _ + 2) :: r, a, w => wpOp P ops Q k (fun a' w' => S w' ∧ wpOrdH P ops Q S K r a' w') a w

/-- What has come up behind the chosen order. -/
def listAfter : List (Nat × Nat) → Array Bool → Array Bool
  | [], l => l
  | (k, _) :: r, l => listAfter r (l.setIfInBounds k true)
def ordHB (md : Region.Mode) (ops : Array Oper) (late : Nat → Bool) : List (Nat × Nat) → Array Bool → Bool
  | [], _ => true
  | (k, 0) :: r, listed => (Region.ready md ops listed).contains k && Region.free md ops listed k && waitsAll md ops late listed k && ordHB md ops late r (listed.setIfInBounds k true)
  | (k, 1) :: r, listed => (Region.ready md ops listed).contains k && Region.free md ops listed k && ordHB md ops late r (listed.setIfInBounds k true)
  | (k, _ + 2) :: r, listed => decide (Region.ready md ops listed = [k]) && late k && ordHB md ops late r (listed.setIfInBounds k true)

theorem wpH_of_ord (hsel : Region.noSelect ops = true) (hQ : ∀ c a d v w, Q (.panic c) (Act.put a d v) w → Q (.panic c) a w) {K : Act → World → Prop} {fuel : Nat} : ∀ (ord : List (Nat × Nat)) (listed : Array Bool) (a : Act) (w : World),
    ordHB md ops late ord listed = true → (∀ a w, S w → K a w → wpH P md ops Q S late fuel (listAfter ord listed) a w) → S w → wpOrdH P ops Q S K ord a w → wpH P md ops Q S late (ord.length + fuel) listed a w
  | [], listed, a, w, _, hK, hS, h => by
    rw [List.length_nil, Nat.zero_add]
    exact hK a w hS h
  | (k, 0) :: r, listed, a, w, hB, hK, hS, h => by
    simp only [ordHB, Bool.and_eq_true] at hB
    obtain ⟨⟨⟨hr, hf⟩, hw⟩, hB'⟩ := hB
    have hr' : k ∈ Region.ready md ops listed := by simpa using hr
    obtain ⟨_, ok, hok, _⟩ := mem_ready.1 hr'
    obtain ⟨v, hy, hKk⟩ := yieldsAt_of_stOp hok h
    rw [List.length_cons, show r.length + 1 + fuel = (r.length + fuel) + 1 by omega]
    exact wpH_first hok (Region.noSelect_spec hsel) (fun c a w => hQ c a _ _ w) _ listed a w (waitsAll_spec hw) (Region.free_spec hok hf) hr' hy hS (wpH_of_ord hsel hQ r _ _ _ hB' hK hS hKk)
  | (k, 1) :: r, listed, a, w, hB, hK, hS, h => by
    simp only [ordHB, Bool.and_eq_true] at hB
    obtain ⟨⟨hr, hf⟩, hB'⟩ := hB
    have hr' : k ∈ Region.ready md ops listed := by simpa using hr
    obtain ⟨ok, v, hok, hy, hKk⟩ := h
    rw [List.length_cons, show r.length + 1 + fuel = (r.length + fuel) + 1 by omega]
    exact wpH_firstS hok (Region.noSelect_spec hsel) (fun c a w => hQ c a _ _ w) _ listed a w (Region.free_spec hok hf) hr' hy hS (wpH_of_ord hsel hQ r _ _ _ hB' hK hS hKk)
  | (k, n + 2) :: r, listed, a, w, hB, hK, hS, h => by
    simp only [ordHB, Bool.and_eq_true, decide_eq_true_eq] at hB
    obtain ⟨⟨hr, hl⟩, hB'⟩ := hB
    rw [List.length_cons, show r.length + 1 + fuel = (r.length + fuel) + 1 by omega]
    refine ⟨fun h0 => (by rw [hr] at h0; cases h0), fun i hi => ?_⟩
    rw [hr] at hi
    have hik : i = k := by simpa using hi
    subst hik
    exact wpOp_mono (fun a' w' h' => ⟨fun e => (by rw [hl] at e; cases e), h'.1, wpH_of_ord hsel hQ r _ a' w' hB' hK h'.1 h'.2⟩) h

/-- All have come up. -/
theorem wpH_done {listed : Array Bool} {a : Act} {w : World} (hr : Region.ready md ops listed = []) (h : Q .normal a w) : wpH P md ops Q S late 0 listed a w := ⟨hr, h⟩
/-- Two late operations may come up: each of them first. -/
theorem wpH_fork {i j fuel : Nat} {listed : Array Bool} {a : Act} {w : World} (hr : Region.ready md ops listed = [i, j]) (hl : (late i && late j) = true)
    (h1 : wpOp P ops Q i (fun a' w' => S w' ∧ wpH P md ops Q S late fuel (listed.setIfInBounds i true) a' w') a w)
    (h2 : wpOp P ops Q j (fun a' w' => S w' ∧ wpH P md ops Q S late fuel (listed.setIfInBounds j true) a' w') a w) : wpH P md ops Q S late (fuel + 1) listed a w := by
  simp only [Bool.and_eq_true] at hl
  refine ⟨fun h0 => (by rw [hr] at h0; cases h0), fun k hk => ?_⟩
  rw [hr] at hk
  simp only [List.mem_cons, List.not_mem_nil, or_false] at hk
  rcases hk with rfl | rfl
  · exact wpOp_mono (fun a' w' h' => ⟨fun e => (by rw [hl.1] at e; cases e), h'.1, h'.2⟩) h1
  · exact wpOp_mono (fun a' w' h' => ⟨fun e => (by rw [hl.2] at e; cases e), h'.1, h'.2⟩) h2

def regHB (ops : Array Oper) (late : List Nat) (ord : List (Nat × Nat)) : Bool :=
  Region.noSelect ops && decide (ord.length ≤ ops.size) && ordHB .any ops (fun k => late.contains k) ord (Array.replicate ops.size false)

/-- The region, walked in the chosen order as far as that goes. -/
theorem wp_region_ordH {id : Nat} {a : Act} {w : World} {l : List Oper} (S : World → Prop) (late : List Nat) (ord : List (Nat × Nat)) (K : Act → World → Prop) (hm : P.follows .mixedOrders = true) (hB : regHB l.toArray late ord = true)
    (hQ : ∀ c a d v w, Q (.panic c) (Act.put a d v) w → Q (.panic c) a w) (hS : S w.drew)
    (hK : ∀ a w, S w → K a w → wpH P .any l.toArray Q S (fun k => late.contains k) (l.length - ord.length) (listAfter ord (Array.replicate l.length false)) a w)
    (h : wpOrdH P l.toArray Q S K ord a w.drew) : (Code.region id l.toArray true).wp P Q a w := by
  simp only [regHB, Bool.and_eq_true, decide_eq_true_eq] at hB
  obtain ⟨⟨hsel, hlen⟩, hord⟩ := hB
  have hsz : l.toArray.size = l.length := by simp
  rw [hsz] at hlen hord
  have := wpAny_of_H _ _ _ _ (wpH_of_ord (fuel := l.length - ord.length) hsel hQ ord _ a w.drew hord hK hS h)
  rw [show ord.length + (l.length - ord.length) = l.toArray.size by rw [hsz]; omega, ← hsz] at this
  exact wp_region_any hm this
/-- The same, where the chosen order is all. -/
theorem wp_region_allH {id : Nat} {a : Act} {w : World} {l : List Oper} (S : World → Prop) (late : List Nat) (ord : List (Nat × Nat)) (hm : P.follows .mixedOrders = true)
    (hB : (regHB l.toArray late ord && (ord.length == l.length) && decide (Region.ready .any l.toArray (listAfter ord (Array.replicate l.length false)) = [])) = true)
    (hQ : ∀ c a d v w, Q (.panic c) (Act.put a d v) w → Q (.panic c) a w) (hS : S w.drew) (h : wpOrdH P l.toArray Q S (Q .normal) ord a w.drew) : (Code.region id l.toArray true).wp P Q a w := by
  simp only [Bool.and_eq_true, beq_iff_eq, decide_eq_true_eq] at hB
  obtain ⟨⟨hB1, hlen⟩, hr⟩ := hB
  refine wp_region_ordH S late ord (Q .normal) hm hB1 hQ hS (fun a' w' _ hK => ?_) h
  rw [hlen, Nat.sub_self]
  exact ⟨hr, hK⟩

/-- The rest of a region, in a chosen order that is all. -/
theorem wpH_rest {listed : Array Bool} {a : Act} {w : World} {fuel : Nat} (ord : List (Nat × Nat)) (hlen : ord.length = fuel)
    (hB : (Region.noSelect ops && ordHB md ops late ord listed && decide (Region.ready md ops (listAfter ord listed) = [])) = true)
    (hQ : ∀ c a d v w, Q (.panic c) (Act.put a d v) w → Q (.panic c) a w) (hS : S w) (h : wpOrdH P ops Q S (Q .normal) ord a w) : wpH P md ops Q S late fuel listed a w := by
  simp only [Bool.and_eq_true, decide_eq_true_eq] at hB
  obtain ⟨⟨hsel, hord⟩, hr⟩ := hB
  have := wpH_of_ord (fuel := 0) hsel hQ ord listed a w hord (fun a' w' _ hK => ⟨hr, hK⟩) hS h
  rw [Nat.add_zero, hlen] at this
  exact this
/-- One operation whose guard is none, as a step of a fork. -/
theorem wpOp_do {k : Nat} {K : Act → World → Prop} {a : Act} {w : World} {d : Option Tmp} {op : Op} {ty : TypeId} {pos : String} {af : Array Edge} (ho : ops[k]? = some ⟨d, op, ty, pos, af, none⟩)
    (h : ∀ K' : Act → World → Prop, (∀ a w, K a w → K' a w) → Oper.wp P ⟨d, op, ty, pos, af, none⟩ a w K' Q) : wpOp P ops Q k K a w := by
  have := h _ (fun _ _ h => h)
  simp only [Go.wpOp, ho]
  rw [if_pos (by simp [Region.wanted])]
  exact .inl this

theorem oH_still {K : Act → World → Prop} {k : Nat} {r : List (Nat × Nat)} {a : Act} {w : World} {o : Oper} (ho : ops[k]? = some o)
    (h : ∀ K' : Act → Prop, (∀ a, wpOrdH P ops Q S K r a w → K' a) → if Region.wanted o (yielded ops a.tmps) then o.still P a w K' else K' (a.put o.dst undef)) : wpOrdH P ops Q S K ((k, 0) :: r) a w := by
  have := h _ (fun _ h => h)
  simp only [wpOrdH, stOp, ho]
  exact this
theorem oH_free {K : Act → World → Prop} {k : Nat} {r : List (Nat × Nat)} {a : Act} {w : World} {d : Option Tmp} {op : Op} {ty : TypeId} {pos : String} {af : Array Edge} {v : Value} (ho : ops[k]? = some ⟨d, op, ty, pos, af, none⟩)
    (hv : ∀ w', S w' → (execOp a.eval ⟨d, op, ty, pos, af, none⟩).run P w' = .ok (.value v) w') (h : wpOrdH P ops Q S K r (a.put d v) w) : wpOrdH P ops Q S K ((k, 1) :: r) a w := by
  simp only [wpOrdH]
  exact ⟨_, v, ho, .inl ⟨by simp [Region.wanted], hv⟩, h⟩
theorem oH_do {K : Act → World → Prop} {k : Nat} {r : List (Nat × Nat)} {a : Act} {w : World} {d : Option Tmp} {op : Op} {ty : TypeId} {pos : String} {af : Array Edge} (ho : ops[k]? = some ⟨d, op, ty, pos, af, none⟩)
    (h : ∀ K' : Act → World → Prop, (∀ a w, S w ∧ wpOrdH P ops Q S K r a w → K' a w) → Oper.wp P ⟨d, op, ty, pos, af, none⟩ a w K' Q) : wpOrdH P ops Q S K ((k, 2) :: r) a w := by
  have := h _ (fun _ _ h => h)
  simp only [wpOrdH, Go.wpOp, ho]
  rw [if_pos (by simp [Region.wanted])]
  exact .inl this
theorem oH_nil {K : Act → World → Prop} {a : Act} {w : World} (h : K a w) : wpOrdH P ops Q S K [] a w := h
end
end Go.Kin
