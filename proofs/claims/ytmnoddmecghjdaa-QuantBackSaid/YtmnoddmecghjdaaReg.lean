/- A region that draws its order: its operations may be walked in one chosen order, if each of them is of one of three kinds: one that leaves the world as it is and for which every writing operation waits; one that yields in whatever world; one that alone may come up. No condition but these, which are reckoned. -/
import Derived.Still
import Derived.StillTactics
import Derived.Tactics
import Derived.KernelRfl
namespace Go.Kin
section
variable {P : Program} {ops : Array Oper} {Q : Exit → Act → World → Prop} {md : Region.Mode}

/-- Whatever order is picked from here on, and operations that are not late leave the world as it is. -/
def wpG (P : Program) (md : Region.Mode) (ops : Array Oper) (Q : Exit → Act → World → Prop) (late : Nat → Bool) : Nat → Array Bool → Act → World → Prop
  | 0, listed, a, w => Region.ready md ops listed = [] ∧ Q .normal a w
  | fuel + 1, listed, a, w =>
    (Region.ready md ops listed = [] → Q .normal a w) ∧
    ∀ i ∈ Region.ready md ops listed, wpOp P ops Q i (fun a' w' => (late i = false → w' = w) ∧ wpG P md ops Q late fuel (listed.setIfInBounds i true) a' w') a w

theorem wpAny_of_G {late : Nat → Bool} : ∀ (fuel : Nat) (listed : Array Bool) (a : Act) (w : World), wpG P md ops Q late fuel listed a w → wpAny P md ops Q fuel listed a w
  | 0, _, _, _, h => h
  | fuel + 1, _, _, _, h => ⟨h.1, fun i hi => wpOp_mono (fun a' w' h' => wpAny_of_G fuel _ a' w' h'.2) (h.2 i hi)⟩

theorem YieldsAt.wpOp {w : World} {i : Nat} {o : Oper} {v : Value} {a : Act} (hi : ops[i]? = some o) (hy : YieldsAt P ops w o v a)
    {K : Act → World → Prop} (h : K (a.put o.dst v) w) : wpOp P ops Q i K a w :=
  wpOp_of_stOp (K := fun a' => a' = a.put o.dst v) (fun a' e => by subst e; exact h) (hy.stOp hi rfl)

/-- One operation 'oj', apart from 'oi': whether 'oi''s value is already in its temporary makes no difference to it, and it makes none to what 'oi' yields in world w0. -/
theorem wpOp_putAt {w0 : World} {j : Nat} {oi oj : Oper} {v : Value} (hj : ops[j]? = some oj) (hap : oi.apart ops oj = true)
    (hsi : ∀ cs b, oi.op ≠ .select cs b) (hsj : ∀ cs b, oj.op ≠ .select cs b)
    (hQ : ∀ c a w, Q (.panic c) (a.put oi.dst v) w → Q (.panic c) a w) {K : Act → World → Prop} {a : Act} {w : World}
    (hy : YieldsAt P ops w0 oi v a) (h : wpOp P ops Q j K (a.put oi.dst v) w) :
    wpOp P ops Q j (fun a' w' => YieldsAt P ops w0 oi v a' ∧ K (a'.put oi.dst v) w') a w := by
  obtain ⟨h1, h2, h3⟩ := Oper.apart_spec hap
  have keep : ∀ (a : Act), YieldsAt P ops w0 oi v a → ∀ u, YieldsAt P ops w0 oi v (a.put oj.dst u) := fun a hy u =>
    hy.of_same (execOp_put oi hsi a oj.dst u h3) (wanted_put oi a oj.dst u h3)
  have keepD : ∀ d, YieldsAt P ops w0 oi v { a with defers := d :: a.defers } := fun d => hy.of_same rfl rfl
  unfold Go.wpOp at *
  simp only [hj] at *
  rw [wanted_put oj a oi.dst v h1] at h
  split
  · rename_i hw
    simp only [hw, if_true] at h
    rcases h with h | ⟨hasks, hlets⟩
    case inr => exact .inr ⟨by unfold Oper.asks at *; rw [execOp_put oj hsj a oi.dst v h1] at hasks; exact hasks, hlets⟩
    refine .inl ?_
    unfold Oper.wp at *
    rw [execOp_put oj hsj a oi.dst v h1] at h
    generalize (execOp a.eval oj).run P w = r at *
    cases r with
    | ok n w' =>
      cases n <;> simp only [Oper.upon] at h ⊢
      case value u => exact ⟨keep a hy u, by rw [← Act.put_comm a v u h2]; exact h⟩
      case skip => exact ⟨keep a hy _, by rw [← Act.put_comm a v undef h2]; exact h⟩
      case defer d =>
        refine ⟨keep _ (keepD d) _, ?_⟩
        rw [← Act.put_comm _ v undef h2, ← Act.put_defers]
        exact h
      case enter f args =>
        refine Calls.mono h fun e w'' he => ?_
        cases e with
        | returned u => exact ⟨keep a hy u, by rw [← Act.put_comm a v u h2]; exact he⟩
        | panicked c => exact hQ _ _ _ he
        | outgrown => exact he
      case row row args => exact Rows.mono h fun u w'' he => ⟨keep a hy u, by rw [← Act.put_comm a v u h2]; exact he⟩
    | halt x w' =>
      cases x <;> simp only [Oper.upon] at h ⊢
      case panic u => exact hQ _ _ _ h
  · rename_i hw
    simp only [hw] at h
    exact ⟨keep a hy _, by rw [← Act.put_comm a v undef h2]; exact h⟩

theorem wpG_first {late : Nat → Bool} {i : Nat} {oi : Oper} {v : Value} (hi : ops[i]? = some oi) (hsel : ∀ (j : Nat) (o : Oper) cs b, ops[j]? = some o → o.op ≠ .select cs b)
    (hQ : ∀ c a w, Q (.panic c) (a.put oi.dst v) w → Q (.panic c) a w) (hl : late i = false) :
    ∀ (fuel : Nat) (listed : Array Bool) (a : Act) (w : World),
      (∀ j oj, ops[j]? = some oj → late j = true → listed.getD j true = false → ∃ e ∈ oj.after, Region.binds md e = true ∧ e.on = i) →
      (∀ j oj, ops[j]? = some oj → j ≠ i → listed.getD j true = false → (∀ e ∈ oj.after, Region.binds md e = true → e.on ≠ i) → oi.apart ops oj = true) →
      i ∈ Region.ready md ops listed → YieldsAt P ops w oi v a →
      wpG P md ops Q late fuel (listed.setIfInBounds i true) (a.put oi.dst v) w → wpG P md ops Q late (fuel + 1) listed a w := by
  intro fuel
  induction fuel with
  | zero =>
    intro listed a w _ _ hr hy H
    refine ⟨fun h => (by rw [h] at hr; cases hr), fun j hj => ?_⟩
    by_cases hji : j = i
    · subst hji; exact YieldsAt.wpOp hi hy ⟨fun _ => rfl, H⟩
    · have := ready_mono hj hji
      rw [H.1] at this
      cases this
  | succ fuel ih =>
    intro listed a w hcond hfree hr hy H
    refine ⟨fun h => (by rw [h] at hr; cases hr), fun j hj => ?_⟩
    by_cases hji : j = i
    · subst hji; exact YieldsAt.wpOp hi hy ⟨fun _ => rfl, H⟩
    · have h1 := H.2 j (ready_mono hj hji)
      obtain ⟨hjun, oj, hoj, hall⟩ := mem_ready.1 hj
      have hnot : ∀ e ∈ oj.after, Region.binds md e = true → e.on ≠ i := fun e he hb heq => by
        have h1 := hall e he hb
        have h0 := (mem_ready.1 hr).1
        rw [heq] at h1
        rcases Nat.lt_or_ge i listed.size with h' | h'
        · simp [h'] at h0 h1; rw [h0] at h1; cases h1
        · simp [Array.getElem?_eq_none h'] at h1
      have h2 := wpOp_putAt hoj (hfree j oj hoj hji hjun hnot) (fun cs b => hsel i oi cs b hi) (fun cs b => hsel j oj cs b hoj) hQ hy h1
      have hsub : ∀ k, (listed.setIfInBounds j true).getD k true = false → listed.getD k true = false := fun k hun => by
        by_cases hjk : j = k
        · subst hjk; exact hjun
        · rw [getD_set_ne true hjk] at hun; exact hun
      refine wpOp_mono (fun a' w' h3 => ⟨h3.2.1, ?_⟩) h2
      have hy' : YieldsAt P ops w' oi v a' := by
        have hlj : late j = false := by
          cases hlj : late j with
          | false => rfl
          | true =>
            obtain ⟨e, he, hb, hon⟩ := hcond j oj hoj hlj hjun
            exact absurd hon (hnot e he hb)
        rw [h3.2.1 hlj]; exact h3.1
      refine ih (listed.setIfInBounds j true) a' w' (fun k ok hk hlk hun => hcond k ok hk hlk (hsub k hun)) (fun k ok hk hki hun hno => hfree k ok hk hki (hsub k hun) hno) (ready_mono hr (Ne.symm hji)) hy' ?_
      rw [Array.setIfInBounds_comm _ _ hji]
      exact h3.2.2

theorem wpG_firstW {late : Nat → Bool} {i : Nat} {oi : Oper} {v : Value} (hi : ops[i]? = some oi) (hsel : ∀ (j : Nat) (o : Oper) cs b, ops[j]? = some o → o.op ≠ .select cs b)
    (hQ : ∀ c a w, Q (.panic c) (a.put oi.dst v) w → Q (.panic c) a w) :
    ∀ (fuel : Nat) (listed : Array Bool) (a : Act) (w : World),
      (∀ j oj, ops[j]? = some oj → j ≠ i → listed.getD j true = false → (∀ e ∈ oj.after, Region.binds md e = true → e.on ≠ i) → oi.apart ops oj = true) →
      i ∈ Region.ready md ops listed → Yields P ops oi v a →
      wpG P md ops Q late fuel (listed.setIfInBounds i true) (a.put oi.dst v) w → wpG P md ops Q late (fuel + 1) listed a w := by
  intro fuel
  induction fuel with
  | zero =>
    intro listed a w _ hr hy H
    refine ⟨fun h => (by rw [h] at hr; cases hr), fun j hj => ?_⟩
    by_cases hji : j = i
    · subst hji; exact hy.wpOp hi ⟨fun _ => rfl, H⟩
    · have := ready_mono hj hji
      rw [H.1] at this
      cases this
  | succ fuel ih =>
    intro listed a w hfree hr hy H
    refine ⟨fun h => (by rw [h] at hr; cases hr), fun j hj => ?_⟩
    by_cases hji : j = i
    · subst hji; exact hy.wpOp hi ⟨fun _ => rfl, H⟩
    · have h1 := H.2 j (ready_mono hj hji)
      obtain ⟨hjun, oj, hoj, hall⟩ := mem_ready.1 hj
      have hnot : ∀ e ∈ oj.after, Region.binds md e = true → e.on ≠ i := fun e he hb heq => by
        have h1 := hall e he hb
        have h0 := (mem_ready.1 hr).1
        rw [heq] at h1
        rcases Nat.lt_or_ge i listed.size with h' | h'
        · simp [h'] at h0 h1; rw [h0] at h1; cases h1
        · simp [Array.getElem?_eq_none h'] at h1
      have h2 := wpOp_put hoj (hfree j oj hoj hji hjun hnot) (fun cs b => hsel i oi cs b hi) (fun cs b => hsel j oj cs b hoj) hQ hy h1
      have hsub : ∀ k, (listed.setIfInBounds j true).getD k true = false → listed.getD k true = false := fun k hun => by
        by_cases hjk : j = k
        · subst hjk; exact hjun
        · rw [getD_set_ne true hjk] at hun; exact hun
      refine wpOp_mono (fun a' w' h3 => ⟨h3.2.1, ?_⟩) h2
      refine ih (listed.setIfInBounds j true) a' w' (fun k ok hk hki hun hno => hfree k ok hk hki (hsub k hun) hno) (ready_mono hr (Ne.symm hji)) h3.1 ?_
      rw [Array.setIfInBounds_comm _ _ hji]
      exact h3.2.2

/-- The chosen order: each operation with its kind (0: leaves the world; 1: yields in whatever world; else: it alone may come up). -/
def wpOrd (P : Program) (ops : Array Oper) (Q : Exit → Act → World → Prop) : List (Nat × Nat) → Act → World → Prop
  | [], a, w => Q .normal a w
  | (k, 0) :: r, a, w => stOp P ops w k (fun a' => wpOrd P ops Q r a' w) a
  | (k, 1) :: r, a, w => ∃ o v, ops[k]? = some o ∧ Region.wanted o (yielded ops a.tmps) = true ∧ (∀ w', (execOp a.eval o).run P w' = .ok (.value v) w') ∧ wpOrd P ops Q r (a.put o.dst v) w
  | (k, _ + 2) :: r, a, w => wpOp P ops Q k (fun a' w' => wpOrd P ops Q r a' w') a w

def lateOf (ord : List (Nat × Nat)) (k : Nat) : Bool := ord.any fun p => p.1 == k && decide (2 ≤ p.2)
def waitsAll (md : Region.Mode) (ops : Array Oper) (late : Nat → Bool) (listed : Array Bool) (i : Nat) : Bool :=
  (List.range ops.size).all fun j => !late j || listed.getD j true || match ops[j]? with
    | some oj => oj.after.any fun e => Region.binds md e && e.on == i
    | none => true
def ordB (md : Region.Mode) (ops : Array Oper) (late : Nat → Bool) : List (Nat × Nat) → Array Bool → Bool
  | [], listed => (Region.ready md ops listed).isEmpty
  | (k, 0) :: r, listed => (Region.ready md ops listed).contains k && Region.free md ops listed k && !late k && waitsAll md ops late listed k && ordB md ops late r (listed.setIfInBounds k true)
  | (k, 1) :: r, listed => (Region.ready md ops listed).contains k && Region.free md ops listed k && !late k && ordB md ops late r (listed.setIfInBounds k true)
  | (k, _ + 2) :: r, listed => decide (Region.ready md ops listed = [k]) && late k && ordB md ops late r (listed.setIfInBounds k true)

theorem waitsAll_spec {late : Nat → Bool} {listed : Array Bool} {i : Nat} (h : waitsAll md ops late listed i = true) (j : Nat) (oj : Oper) (hj : ops[j]? = some oj) (hl : late j = true)
    (hun : listed.getD j true = false) : ∃ e ∈ oj.after, Region.binds md e = true ∧ e.on = i := by
  have h1 := List.all_eq_true.1 h j (List.mem_range.2 (Array.getElem?_eq_some_iff.1 hj).1)
  rw [hl, hun, hj] at h1
  simp only [Bool.not_true, Bool.false_or] at h1
  obtain ⟨e, he, hb⟩ := Array.any_eq_true'.1 h1
  simp only [Bool.and_eq_true, beq_iff_eq] at hb
  exact ⟨e, he, hb.1, hb.2⟩

theorem wpG_of_ord {late : Nat → Bool} (hsel : Region.noSelect ops = true) (hQ : ∀ c a d v w, Q (.panic c) (Act.put a d v) w → Q (.panic c) a w) : ∀ (ord : List (Nat × Nat)) (listed : Array Bool) (a : Act) (w : World),
    ordB md ops late ord listed = true → wpOrd P ops Q ord a w → wpG P md ops Q late ord.length listed a w
  | [], listed, a, w, hB, h => ⟨by simpa [ordB] using hB, h⟩
  | (k, 0) :: r, listed, a, w, hB, h => by
    simp only [ordB, Bool.and_eq_true, Bool.not_eq_true'] at hB
    obtain ⟨⟨⟨⟨hr, hf⟩, hl⟩, hw⟩, hB'⟩ := hB
    have hr' : k ∈ Region.ready md ops listed := by simpa using hr
    obtain ⟨_, ok, hok, _⟩ := mem_ready.1 hr'
    obtain ⟨v, hy, hK⟩ := yieldsAt_of_stOp hok h
    exact wpG_first hok (Region.noSelect_spec hsel) (fun c a w => hQ c a _ _ w) hl r.length listed a w (waitsAll_spec hw) (Region.free_spec hok hf) hr' hy (wpG_of_ord hsel hQ r _ _ _ hB' hK)
  | (k, 1) :: r, listed, a, w, hB, h => by
    simp only [ordB, Bool.and_eq_true, Bool.not_eq_true'] at hB
    obtain ⟨⟨⟨hr, hf⟩, _⟩, hB'⟩ := hB
    have hr' : k ∈ Region.ready md ops listed := by simpa using hr
    obtain ⟨ok, v, hok, hwant, hrun, hK⟩ := h
    have hG := wpG_of_ord hsel hQ r _ _ _ hB' hK
    exact wpG_firstW hok (Region.noSelect_spec hsel) (fun c a w => hQ c a _ _ w) r.length listed a w (Region.free_spec hok hf) hr' (.inl ⟨hwant, hrun⟩) hG
  | (k, n + 2) :: r, listed, a, w, hB, h => by
    simp only [ordB, Bool.and_eq_true, decide_eq_true_eq] at hB
    obtain ⟨⟨hr, hl⟩, hB'⟩ := hB
    refine ⟨fun h0 => (by rw [hr] at h0; cases h0), fun i hi => ?_⟩
    rw [hr] at hi
    have hik : i = k := by simpa using hi
    subst hik
    exact wpOp_mono (fun a' w' h' => ⟨fun e => (by rw [hl] at e; cases e), wpG_of_ord hsel hQ r _ a' w' hB' h'⟩) h

def regB (ops : Array Oper) (ord : List (Nat × Nat)) : Bool :=
  Region.noSelect ops && (ord.length == ops.size) && ordB .any ops (lateOf ord) ord (Array.replicate ops.size false)

/-- A region that draws its order, walked in the chosen one. -/
theorem wp_region_ord {id : Nat} {a : Act} {w : World} {l : List Oper} (ord : List (Nat × Nat)) (hm : P.follows .mixedOrders = true) (hB : regB l.toArray ord = true)
    (hQ : ∀ c a d v w, Q (.panic c) (Act.put a d v) w → Q (.panic c) a w) (h : wpOrd P l.toArray Q ord a w.drew) : (Code.region id l.toArray true).wp P Q a w := by
  simp only [regB, Bool.and_eq_true, beq_iff_eq] at hB
  obtain ⟨⟨hsel, hlen⟩, hord⟩ := hB
  have := wpAny_of_G _ _ _ _ (wpG_of_ord hsel hQ ord _ a w.drew hord h)
  rw [hlen] at this
  exact wp_region_any hm this

theorem wpOrd_still {k : Nat} {r : List (Nat × Nat)} {a : Act} {w : World} {o : Oper} (ho : ops[k]? = some o)
    (h : ∀ K : Act → Prop, (∀ a, wpOrd P ops Q r a w → K a) → if Region.wanted o (yielded ops a.tmps) then o.still P a w K else K (a.put o.dst undef)) : wpOrd P ops Q ((k, 0) :: r) a w := by
  have := h _ (fun _ h => h)
  simp only [wpOrd, stOp, ho]
  exact this
theorem wpOrd_free {k : Nat} {r : List (Nat × Nat)} {a : Act} {w : World} {d : Option Tmp} {op : Op} {ty : TypeId} {pos : String} {af : Array Edge} {v : Value} (ho : ops[k]? = some ⟨d, op, ty, pos, af, none⟩)
    (hv : ∀ w', (execOp a.eval ⟨d, op, ty, pos, af, none⟩).run P w' = .ok (.value v) w') (h : wpOrd P ops Q r (a.put d v) w) : wpOrd P ops Q ((k, 1) :: r) a w := by
  simp only [wpOrd]
  exact ⟨_, v, ho, by simp [Region.wanted], hv, h⟩
theorem wpOrd_do {k : Nat} {r : List (Nat × Nat)} {a : Act} {w : World} {d : Option Tmp} {op : Op} {ty : TypeId} {pos : String} {af : Array Edge} (ho : ops[k]? = some ⟨d, op, ty, pos, af, none⟩)
    (h : ∀ K : Act → World → Prop, (∀ a w, wpOrd P ops Q r a w → K a w) → Oper.wp P ⟨d, op, ty, pos, af, none⟩ a w K Q) : wpOrd P ops Q ((k, 2) :: r) a w := by
  have := h _ (fun _ _ h => h)
  simp only [wpOrd, Go.wpOp, ho]
  rw [if_pos (by simp [Region.wanted])]
  exact .inl this
theorem wpOrd_nil {a : Act} {w : World} (h : Q .normal a w) : wpOrd P ops Q [] a w := h
end
theorem Calls.flip {P : Program} {f : FuncId} {args : Array Value} {w : World} {v : Value} (h : Calls P f args w fun e w' => e = .returned v ∧ w = w') : Calls P f args w fun e w' => e = .returned v ∧ w' = w :=
  h.mono fun _ _ ⟨he, hw⟩ => ⟨he, hw.symm⟩
end Go.Kin
