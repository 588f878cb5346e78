/- append onto a slice of the call's own (nil let in), from a slice that is read, nil or not; no condition but the model's own bound on sizes. -/
import Derived.Test.YtmnoddmecghjdaaCom
import Derived.Maps.AppendAt
import Derived.Deep.AppendLies
import Derived.OwnWalk
namespace Go.Kin
open Go.RowKit

/-- A slice's value of n elements (of one cell each), nil or at the head of a block of the call's own from base on: it holds f 0 .. f (n - 1). -/
def OwnS (w : World) (base : Nat) (e : TypeId) (A : Option Addr) (n c : Nat) (f : Nat → Value) : Prop := w.ownsRow base e 1 (.slice A n c) n ((List.range n).map f)

section
variable {P : Program} {w w' : World} {base : Nat} {e : TypeId} {A : Option Addr} {n c : Nat} {f g : Nat → Value}

theorem OwnS.cases (h : OwnS w base e A n c f) : (A = none ∧ n = 0 ∧ c = 0) ∨ ∃ b, A = some ⟨b, 0, none⟩ ∧ base ≤ b ∧ Row w b n f ∧ n ≤ c ∧ c ≤ maxLen := by
  obtain ⟨_, h⟩ := h
  rcases h with ⟨h1, h2⟩ | ⟨b, cap, cur, hv, hb, hh, hnc, hcm, hsz, hcur⟩
  · simp only [Value.slice.injEq] at h1
    exact .inl ⟨h1.1, h2, h1.2.2⟩
  · simp only [Value.slice.injEq] at hv
    obtain ⟨rfl, _, rfl⟩ := hv
    refine .inr ⟨b, rfl, hb, ⟨cur, e, hh, by omega, fun i hi => ?_⟩, hnc, hcm⟩
    have h1 : (cur.toList.take (n * 1))[i]? = ((List.range n).map f)[i]? := by rw [hcur]
    rw [List.getElem?_take_of_lt (by omega), List.getElem?_map, List.getElem?_range hi] at h1
    simpa using h1
theorem OwnS.rd (h : OwnS w base e A n c f) : Rd w A n f := by
  rcases h.cases with ⟨_, rfl, _⟩ | ⟨b, rfl, _, hr, _⟩
  · exact Rd.none_ _ _ _
  · exact hr.rd
theorem OwnS.row (h : OwnS w base e A n c f) (hn : 0 < n) : ∃ b, A = some ⟨b, 0, none⟩ ∧ base ≤ b ∧ Row w b n f ∧ n ≤ c := by
  rcases h.cases with ⟨_, rfl, _⟩ | ⟨b, rfl, hb, hr, hc, _⟩
  · omega
  · exact ⟨b, rfl, hb, hr, hc⟩
theorem OwnS.nil (w : World) (base : Nat) (e : TypeId) (f : Nat → Value) : OwnS w base e none 0 0 f := ⟨by simp, .inl ⟨rfl, rfl⟩⟩
theorem OwnS.empty (w : World) (e : TypeId) (f : Nat → Value) {b base : Nat} (hb : b = w.heap.size) (hbase : base ≤ b) : OwnS (w.alloc (.cells #[] e)) base e (some ⟨b, 0, none⟩) 0 0 f := by
  subst hb
  exact ⟨by simp, .inr ⟨_, 0, #[], rfl, hbase, Go.Deep.blk_alloc_new _ _, by omega, by unfold maxLen; omega, by simp, by simp⟩⟩
theorem OwnS.congr (h : OwnS w base e A n c f) (he : ∀ i, i < n → f i = g i) : OwnS w base e A n c g := by
  unfold OwnS at *
  rw [← List.map_congr_left (fun i hi => he i (List.mem_range.1 hi))]
  exact h
theorem OwnS.keep (h : OwnS w base e A n c f) (hk : ∀ b o, A = some ⟨b, o, none⟩ → w'.heap[b]? = w.heap[b]?) : OwnS w' base e A n c f := by
  obtain ⟨h0, h⟩ := h
  refine ⟨h0, ?_⟩
  rcases h with h | ⟨b, cap, cur, hv, hb, hh, r⟩
  · exact .inl h
  · simp only [Value.slice.injEq] at hv
    exact .inr ⟨b, cap, cur, by simp [hv], hb, (hk b 0 hv.1).trans hh, r⟩
theorem OwnS.lt (h : OwnS w base e A n c f) {b o : Nat} (hA : A = some ⟨b, o, none⟩) : base ≤ b ∧ b < w.heap.size := by
  obtain ⟨_, h⟩ := h
  rcases h with ⟨h1, _⟩ | ⟨b', cap, cur, hv, hb, hh, _⟩
  · simp only [Value.slice.injEq] at h1; rw [hA] at h1; cases h1.1
  · simp only [Value.slice.injEq] at hv
    rw [hA] at hv
    have : b = b' := by have := hv.1; injection this with this; injection this
    subst this
    exact ⟨hb, (Array.getElem?_eq_some_iff.1 hh).1⟩
theorem OwnS.alloc (h : OwnS w base e A n c f) (o : Obj) : OwnS (w.alloc o) base e A n c f := h.keep fun b _ hA => Below.heap_alloc w o b (h.lt hA).2
theorem OwnS.drew (h : OwnS w base e A n c f) : OwnS w.drew base e A n c f := h.keep fun _ _ _ => rfl
theorem OwnS.drewN (h : OwnS w base e A n c f) (k : Nat) : OwnS (w.drewN k) base e A n c f := h.keep fun _ _ _ => rfl
theorem OwnS.below {B : Nat} (h : OwnS w base e A n c f) (hb : Below B w w') (hB : w.heap.size ≤ B) : OwnS w' base e A n c f := h.keep fun b _ hA => hb.block b (by have := (h.lt hA).2; omega)
theorem OwnS.far (h : OwnS w base e A n c f) {p : Addr} (hp : ∀ b o, A = some ⟨b, o, none⟩ → b ≠ p.block) (u : Value) : OwnS (w.setCell p u) base e A n c f := h.keep fun b o hA => Below.heap_setCell w p u b (hp b o hA)

theorem run_append_of_nil (base : Nat) (t ty e : TypeId) (i : TypeInfo) (size : Nat) (ht : P.underlying t = some (.slice e)) (hi : P.info? e = some i)
    (v : Value) (n : Nat) (xs : List Value) (hown : w.ownsRow base e size v n xs) (c : Nat) : (Builtin.append_ #[t, t] ty #[v, .slice none 0 c]).run P w = .ok v w := by
  rcases hown.2 with ⟨rfl, rfl⟩ | ⟨g, cap, cur, rfl, _, _, hnc, _⟩
  · simp [Builtin.append_, run_underlying ht, sizeOf, typeInfo, hi, Builtin.lenOf, Builtin.firstCells]
  · simp [Builtin.append_, run_underlying ht, sizeOf, typeInfo, hi, Builtin.lenOf, Builtin.firstCells, hnc, storeCells]

theorem own_form {v : Value} {n : Nat} {xs : List Value} (h : w.ownsRow base e 1 v n xs) : ∃ A c, v = .slice A n c := by
  rcases h.2 with ⟨rfl, rfl⟩ | ⟨g, cap, cur, rfl, _⟩
  · exact ⟨_, _, rfl⟩
  · exact ⟨_, _, rfl⟩

/-- append(v, src...). -/
theorem run_appS {t ty : TypeId} {i : TypeInfo} {z : Value} {bytes m d : Nat} {B : Option Addr} {h : Nat → Value} (ht : P.underlying t = some (.slice e)) (hi : P.info? e = some i) (hz : i.zero = some z)
    (hsize : i.size = 1) (hby : i.bytes = bytes) (hzs : z.cells.size = 1) (hown : OwnS w base e A n c f) (hS : Rd w B m h) (hB : B = none → m = 0) (h1 : ∀ j, (h j).oneCell' = true)
    (h63 : n + m ≤ maxLen) (hbytes : (n + m) * bytes ≤ 140737488355328) (hbase : base ≤ w.heap.size) :
    ∃ A' c' w', (Builtin.append_ #[t, t] ty #[.slice A n c, .slice B m d]).run P w = .ok (.slice A' (n + m) c') w' ∧ OwnS w' base e A' (n + m) c' (fun j => if j < n then f j else h (j - n)) ∧ w.grownBy w' (Value.slice A n c).ownBlock ∧
      ((Value.slice A' (n + m) c').ownBlock = (Value.slice A n c).ownBlock ∨ (Value.slice A' (n + m) c').ownBlock = some w.heap.size) := by
  have hmap : (List.range n).map f ++ (List.range m).map h = (List.range (n + m)).map (fun j => if j < n then f j else h (j - n)) := by
    rw [List.range_add, List.map_append, List.map_map]
    congr 1
    · exact List.map_congr_left fun j hj => by rw [if_pos (List.mem_range.1 hj)]
    · exact List.map_congr_left fun j _ => by show h j = if n + j < n then f (n + j) else h (n + j - n); rw [if_neg (by omega), Nat.add_sub_cancel_left]
  rcases B with _ | ad
  · have hm := hB rfl
    subst hm
    refine ⟨A, c, w, run_append_of_nil base t ty e i 1 ht hi _ n _ hown d, ?_, World.grownBy.refl w _, .inl rfl⟩
    exact OwnS.congr hown fun j hj => by rw [if_pos (show j < n by omega)]
  · have hnews : ∀ j u, ((List.range m).map h)[j]? = some u → w.cell? (ad.add j) = some u := by
      intro j u hu
      have hjl : j < m := by
        rcases Nat.lt_or_ge j m with hlt | hge
        · exact hlt
        · rw [List.getElem?_eq_none (by simpa using hge)] at hu; cases hu
      obtain ⟨b, off, he, hc⟩ := hS (by omega)
      have he' : ad = ⟨b, off, none⟩ := by injection he
      subst he'
      rw [addr_add, hc j hjl]
      rw [List.getElem?_map, List.getElem?_range hjl] at hu
      simpa using hu
    obtain ⟨v', w', hrun, h2, h3, _, h5⟩ := run_append_own_at (P := P) w base t ty e i z 1 bytes ht hi hz hsize hby hzs (by omega) _ n _ hown ad m d ((List.range m).map h) (by simp) hnews (by intro u hu; obtain ⟨j, _, rfl⟩ := List.mem_map.1 hu; exact h1 j) h63 hbytes hbase
    obtain ⟨A', c', rfl⟩ := own_form h2
    refine ⟨A', c', w', hrun, ?_, h3, h5⟩
    unfold OwnS
    rw [← hmap]
    exact h2

/-- The step: append(v, src...) in a plain region. -/
theorem wpList_appS {ops : Array Oper} {rest : List Oper} {o : Oper} {a : Act} {Q : Exit → Act → World → Prop} {t : TypeId} {i : TypeInfo} {z : Value} {bytes m d : Nat} {B : Option Addr} {h : Nat → Value} (hgd : o.guard = none) (s x : Operand)
    (ho : o.op = .call { callee := .builtin .append, args := #[s, x], argTypes := #[t, t] }) (ht : P.underlying t = some (.slice e)) (hi : P.info? e = some i) (hz : i.zero = some z)
    (hsize : i.size = 1) (hby : i.bytes = bytes) (hzs : z.cells.size = 1) (hs : a.eval s = .slice A n c) (hx : a.eval x = .slice B m d) (hown : OwnS w base e A n c f) (hS : Rd w B m h) (hB : B = none → m = 0) (h1 : ∀ j, (h j).oneCell' = true)
    (h63 : n + m ≤ maxLen) (hbytes : (n + m) * bytes ≤ 140737488355328) (hbase : base ≤ w.heap.size)
    (hK : ∀ A' c' w', OwnS w' base e A' (n + m) c' (fun j => if j < n then f j else h (j - n)) → w.grownBy w' (Value.slice A n c).ownBlock →
      ((Value.slice A' (n + m) c').ownBlock = (Value.slice A n c).ownBlock ∨ (Value.slice A' (n + m) c').ownBlock = some w.heap.size) → wpList P ops Q rest (a.put o.dst (.slice A' (n + m) c')) w') : wpList P ops Q (o :: rest) a w := by
  refine wpList_plain hgd fun K hK' => ?_
  obtain ⟨A', c', w', hrun, h2, h3, h4⟩ := run_appS (P := P) (ty := o.type) (d := d) ht hi hz hsize hby hzs hown hS hB h1 h63 hbytes hbase
  unfold Oper.wp execOp
  simp only [ho, resolve, invoke, builtin, Sem.run_bind, Sem.run_pure, Result.andThen_ok, List.map_toArray, List.map_cons, List.map_nil, hs, hx, hrun]
  exact hK' _ _ (hK A' c' w' h2 h3 h4)

theorem Below.grow {B : Nat} {a w w' : World} {A : Option Addr} {n c : Nat} (h : Below B a w) (hg : w.grownBy w' (Value.slice A n c).ownBlock) (hB : B ≤ w.heap.size) (hA : ∀ b o, A = some ⟨b, o, none⟩ → B ≤ b) (hs : ∀ x, A = some x → x.spot = none) : Below B a w' :=
  h.grown hg hB (fun k hk => by
    cases A with
    | none => simp [Value.ownBlock] at hk
    | some x =>
      obtain ⟨b, o, sp⟩ := x
      have := hs _ rfl
      simp only at this
      subst this
      simp only [Value.ownBlock, Option.some.injEq] at hk
      subst hk
      exact hA b o rfl)
end
end Go.Kin
