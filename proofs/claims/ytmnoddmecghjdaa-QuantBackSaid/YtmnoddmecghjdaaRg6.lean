/- Regions that draw their order: an operation that only reads may be taken first if every late one waits for it, be it through others. -/
import Derived.Test.YtmnoddmecghjdaaReg
namespace Go.Kin
section
variable {P : Program} {md : Region.Mode} {ops : Array Oper} {Q : Exit → Act → World → Prop}
/-- What waits for operation i, be it through others. -/
def descA (md : Region.Mode) (ops : Array Oper) (i : Nat) : Array Bool :=
  (List.range ops.size).foldl (fun D j => D.push (j == i || match ops[j]? with
    | some oj => oj.after.any fun e => Region.binds md e && D.getD e.on false
    | none => false)) #[]
def waitsTr (md : Region.Mode) (ops : Array Oper) (late : Nat → Bool) (listed : Array Bool) (i : Nat) (D : Array Bool) : Bool :=
  D.getD i false && (D.size == ops.size) && (List.range ops.size).all fun j => (!late j || listed.getD j true || D.getD j false) && (!D.getD j false || (!listed.getD j true && (j == i || match ops[j]? with
    | some oj => oj.after.any fun e => Region.binds md e && D.getD e.on false
    | none => false)))
theorem wpG_firstD {late : Nat → Bool} {i : Nat} {oi : Oper} {v : Value} (hi : ops[i]? = some oi) (hsel : ∀ (j : Nat) (o : Oper) cs b, ops[j]? = some o → o.op ≠ .select cs b)
    (hQ : ∀ c a w, Q (.panic c) (a.put oi.dst v) w → Q (.panic c) a w) (D : Nat → Bool) (hDi : ∀ j oj, ops[j]? = some oj → D j = true → j ≠ i → ∃ e ∈ oj.after, Region.binds md e = true ∧ D e.on = true) :
    ∀ (fuel : Nat) (listed : Array Bool) (a : Act) (w : World),
      (∀ j oj, ops[j]? = some oj → late j = true → listed.getD j true = false → D j = true) → (∀ j, D j = true → listed.getD j true = false) →
      (∀ j oj, ops[j]? = some oj → j ≠ i → listed.getD j true = false → (∀ e ∈ oj.after, Region.binds md e = true → e.on ≠ i) → oi.apart ops oj = true) →
      i ∈ Region.ready md ops listed → YieldsAt P ops w oi v a →
      wpG P md ops Q late fuel (listed.setIfInBounds i true) (a.put oi.dst v) w → wpG P md ops Q late (fuel + 1) listed a w := by
  intro fuel
  induction fuel with
  | zero =>
    intro listed a w _ _ _ hr hy H
    refine ⟨fun h => (by rw [h] at hr; cases hr), fun j hj => ?_⟩
    by_cases hji : j = i
    · subst hji; exact YieldsAt.wpOp hi hy ⟨fun _ => rfl, H⟩
    · have := ready_mono hj hji
      rw [H.1] at this
      cases this
  | succ fuel ih =>
    intro listed a w hcond hun hfree hr hy H
    refine ⟨fun h => (by rw [h] at hr; cases hr), fun j hj => ?_⟩
    by_cases hji : j = i
    · subst hji; exact YieldsAt.wpOp hi hy ⟨fun _ => rfl, H⟩
    · have h1 := H.2 j (ready_mono hj hji)
      obtain ⟨hjun, oj, hoj, hall⟩ := mem_ready.1 hj
      have hlist : ∀ k, listed.getD k true = false → ∀ e ∈ oj.after, Region.binds md e = true → e.on ≠ k := fun k h0 e he hb heq => by
        have h1 := hall e he hb
        rw [heq] at h1
        rcases Nat.lt_or_ge k listed.size with h' | h'
        · simp [h'] at h0 h1; rw [h0] at h1; cases h1
        · simp [Array.getElem?_eq_none h'] at h1
      have hnot := hlist i (mem_ready.1 hr).1
      have hDj : D j = false := by
        cases hDj : D j with
        | false => rfl
        | true =>
          obtain ⟨e, he, hb, hon⟩ := hDi j oj hoj hDj hji
          exact absurd rfl (hlist e.on (hun _ hon) e he hb)
      have h2 := wpOp_putAt hoj (hfree j oj hoj hji hjun hnot) (fun cs b => hsel i oi cs b hi) (fun cs b => hsel j oj cs b hoj) hQ hy h1
      have hsub : ∀ k, (listed.setIfInBounds j true).getD k true = false → listed.getD k true = false := fun k hun => by
        by_cases hjk : j = k
        · subst hjk; exact hjun
        · rw [getD_set_ne true hjk] at hun; exact hun
      refine wpOp_mono (fun a' w' h3 => ⟨h3.2.1, ?_⟩) h2
      have hy' : YieldsAt P ops w' oi v a' := by
        have hlj : late j = false := by
          cases hlj : late j with
          | false => rfl
          | true => rw [hcond j oj hoj hlj hjun] at hDj; cases hDj
        rw [h3.2.1 hlj]; exact h3.1
      refine ih (listed.setIfInBounds j true) a' w' (fun k ok hk hlk hu => hcond k ok hk hlk (hsub k hu)) (fun k hk => ?_) (fun k ok hk hki hu hno => hfree k ok hk hki (hsub k hu) hno) (ready_mono hr (Ne.symm hji)) hy' ?_
      · have hjk : j ≠ k := fun e => by subst e; rw [hDj] at hk; cases hk
        rw [getD_set_ne true hjk]
        exact hun k hk
      · rw [Array.setIfInBounds_comm _ _ hji]
        exact h3.2.2
theorem waitsTr_spec {late : Nat → Bool} {listed : Array Bool} {i : Nat} {D : Array Bool} (h : waitsTr md ops late listed i D = true) :
    (∀ j oj, ops[j]? = some oj → D.getD j false = true → j ≠ i → ∃ e ∈ oj.after, Region.binds md e = true ∧ D.getD e.on false = true) ∧ (∀ j oj, ops[j]? = some oj → late j = true → listed.getD j true = false → D.getD j false = true) ∧ (∀ j, D.getD j false = true → listed.getD j true = false) := by
  unfold waitsTr at h
  rw [Bool.and_eq_true, Bool.and_eq_true] at h
  obtain ⟨⟨_, hs⟩, h⟩ := h
  have hs' : D.size = ops.size := by simpa using hs
  have key : ∀ j, j < ops.size → _ := fun j hj => List.all_eq_true.1 h j (List.mem_range.2 hj)
  refine ⟨fun j oj hj hD hji => ?_, fun j oj hj hl hun => ?_, fun j hD => ?_⟩
  · have k := key j (Array.getElem?_eq_some_iff.1 hj).1
    rw [hD, hj] at k
    simp only [Bool.and_eq_true, Bool.not_true, Bool.false_or] at k
    have k2 := k.2.2
    rw [show (j == i) = false by simpa using hji, Bool.false_or] at k2
    obtain ⟨e, he, hb⟩ := Array.any_eq_true'.1 k2
    simp only [Bool.and_eq_true] at hb
    exact ⟨e, he, hb.1, hb.2⟩
  · have k := key j (Array.getElem?_eq_some_iff.1 hj).1
    simp only [Bool.and_eq_true] at k
    have k1 := k.1
    rw [hl, hun] at k1
    simpa using k1
  · have hj : j < ops.size := by
      rcases Nat.lt_or_ge j ops.size with h' | h'
      · exact h'
      · rw [← hs'] at h'
        simp [Array.getD, Nat.not_lt.2 h'] at hD
    have k := key j hj
    rw [hD] at k
    simp only [Bool.and_eq_true, Bool.not_true, Bool.false_or] at k
    simpa using k.2.1
def ordT (md : Region.Mode) (ops : Array Oper) (late : Nat → Bool) : List (Nat × Nat) → Array Bool → Bool
  | [], listed => (Region.ready md ops listed).isEmpty
  | (k, 0) :: r, listed => (Region.ready md ops listed).contains k && Region.free md ops listed k && !late k && waitsTr md ops late listed k (descA md ops k) && ordT md ops late r (listed.setIfInBounds k true)
  | (k, 1) :: r, listed => (Region.ready md ops listed).contains k && Region.free md ops listed k && !late k && ordT md ops late r (listed.setIfInBounds k true)
  | (k, _ + 2) :: r, listed => decide (Region.ready md ops listed = [k]) && late k && ordT md ops late r (listed.setIfInBounds k true)
theorem wpG_of_ordT {late : Nat → Bool} (hsel : Region.noSelect ops = true) (hQ : ∀ c a d v w, Q (.panic c) (Act.put a d v) w → Q (.panic c) a w) : ∀ (ord : List (Nat × Nat)) (listed : Array Bool) (a : Act) (w : World),
    ordT md ops late ord listed = true → wpOrd P ops Q ord a w → wpG P md ops Q late ord.length listed a w
  | [], listed, a, w, hB, h => ⟨by simpa [ordT] using hB, h⟩
  | (k, 0) :: r, listed, a, w, hB, h => by
    simp only [ordT, Bool.and_eq_true, Bool.not_eq_true'] at hB
    obtain ⟨⟨⟨⟨hr, hf⟩, hl⟩, hw⟩, hB'⟩ := hB
    have hr' : k ∈ Region.ready md ops listed := by simpa using hr
    obtain ⟨_, ok, hok, _⟩ := mem_ready.1 hr'
    obtain ⟨v, hy, hK⟩ := yieldsAt_of_stOp hok h
    obtain ⟨d1, d2, d3⟩ := waitsTr_spec hw
    exact wpG_firstD hok (Region.noSelect_spec hsel) (fun c a w => hQ c a _ _ w) (fun j => (descA md ops k).getD j false) d1 r.length listed a w d2 d3 (Region.free_spec hok hf) hr' hy (wpG_of_ordT hsel hQ r _ _ _ hB' hK)
  | (k, 1) :: r, listed, a, w, hB, h => by
    simp only [ordT, Bool.and_eq_true, Bool.not_eq_true'] at hB
    obtain ⟨⟨⟨hr, hf⟩, _⟩, hB'⟩ := hB
    have hr' : k ∈ Region.ready md ops listed := by simpa using hr
    obtain ⟨ok, v, hok, hwant, hrun, hK⟩ := h
    have hG := wpG_of_ordT hsel hQ r _ _ _ hB' hK
    exact wpG_firstW hok (Region.noSelect_spec hsel) (fun c a w => hQ c a _ _ w) r.length listed a w (Region.free_spec hok hf) hr' (.inl ⟨hwant, hrun⟩) hG
  | (k, n + 2) :: r, listed, a, w, hB, h => by
    simp only [ordT, Bool.and_eq_true, decide_eq_true_eq] at hB
    obtain ⟨⟨hr, hl⟩, hB'⟩ := hB
    refine ⟨fun h0 => (by rw [hr] at h0; cases h0), fun i hi => ?_⟩
    rw [hr] at hi
    have hik : i = k := by simpa using hi
    subst hik
    exact wpOp_mono (fun a' w' h' => ⟨fun e => (by rw [hl] at e; cases e), wpG_of_ordT hsel hQ r _ a' w' hB' h'⟩) h
def regT (ops : Array Oper) (ord : List (Nat × Nat)) : Bool :=
  Region.noSelect ops && (ord.length == ops.size) && ordT .any ops (lateOf ord) ord (Array.replicate ops.size false)
/-- A region that draws its order, walked in the chosen one. -/
theorem wp_region_ordT {id : Nat} {a : Act} {w : World} {l : List Oper} (ord : List (Nat × Nat)) (hm : P.follows .mixedOrders = true) (hB : regT l.toArray ord = true)
    (hQ : ∀ c a d v w, Q (.panic c) (Act.put a d v) w → Q (.panic c) a w) (h : wpOrd P l.toArray Q ord a w.drew) : (Code.region id l.toArray true).wp P Q a w := by
  simp only [regT, Bool.and_eq_true, beq_iff_eq] at hB
  obtain ⟨⟨hsel, hlen⟩, hord⟩ := hB
  have := wpAny_of_G _ _ _ _ (wpG_of_ordT hsel hQ ord _ a w.drew hord h)
  rw [hlen] at this
  exact wp_region_any hm this
/-- A late operation whose guard may be anything that holds. -/
theorem wpOrd_doG {k : Nat} {r : List (Nat × Nat)} {a : Act} {w : World} {o : Oper} (ho : ops[k]? = some o) (hw : Region.wanted o (yielded ops a.tmps) = true)
    (h : ∀ K : Act → World → Prop, (∀ a w, wpOrd P ops Q r a w → K a w) → Oper.wp P o a w K Q) : wpOrd P ops Q ((k, 2) :: r) a w := by
  have := h _ (fun _ _ h => h)
  simp only [wpOrd, Go.wpOp, ho]
  rw [if_pos hw]
  exact .inl this
theorem wpOrd_pass {k : Nat} {r : List (Nat × Nat)} {a : Act} {w : World} {o : Oper} (ho : ops[k]? = some o) (hw : Region.wanted o (yielded ops a.tmps) = false)
    (h : wpOrd P ops Q r (a.put o.dst undef) w) : wpOrd P ops Q ((k, 2) :: r) a w := by
  simp only [wpOrd, Go.wpOp, ho]
  rw [if_neg (by rw [hw]; decide)]
  exact h
end
end Go.Kin
