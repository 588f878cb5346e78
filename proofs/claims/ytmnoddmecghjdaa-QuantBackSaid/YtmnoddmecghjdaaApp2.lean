/- A slice of the call's own, whose elements have k cells each: what it holds, cell by cell; append. -/
import Derived.Test.YtmnoddmecghjdaaCp1
import Derived.Test.YtmnoddmecghjdaaClose3
namespace Go.Kin
open Go.RowKit
/-- The cells of a slice of the call's own, k for each element. -/
def OwnK (w : World) (base : Nat) (e : TypeId) (k : Nat) (A : Option Addr) (n c : Nat) (f : Nat → Value) : Prop := w.ownsRow base e k (.slice A n c) n ((List.range (n * k)).map f)
section
variable {P : Program} {w w' : World} {base k : Nat} {e : TypeId} {A : Option Addr} {n c : Nat} {f g : Nat → Value}
theorem OwnK.cases (h : OwnK w base e k A n c f) : (A = none ∧ n = 0 ∧ c = 0) ∨ ∃ b, A = some ⟨b, 0, none⟩ ∧ base ≤ b ∧ b < w.heap.size ∧ (∀ i, i < n * k → w.cell? ⟨b, i, none⟩ = some (f i)) ∧ n ≤ c ∧ c ≤ maxLen := by
  obtain ⟨_, h⟩ := h
  rcases h with ⟨h1, h2⟩ | ⟨b, cap, cur, hv, hb, hh, hnc, hcm, hsz, hcur⟩
  · simp only [Value.slice.injEq] at h1
    exact .inl ⟨h1.1, h2, h1.2.2⟩
  · simp only [Value.slice.injEq] at hv
    obtain ⟨rfl, _, rfl⟩ := hv
    refine .inr ⟨b, rfl, hb, (Array.getElem?_eq_some_iff.1 hh).1, fun i hi => ?_, hnc, hcm⟩
    have h1 : (cur.toList.take (n * k))[i]? = ((List.range (n * k)).map f)[i]? := by rw [hcur]
    rw [List.getElem?_take_of_lt hi, List.getElem?_map, List.getElem?_range hi] at h1
    simpa [World.cell?, hh] using h1
theorem OwnK.rd (h : OwnK w base e k A n c f) : Rd w A (n * k) f := by
  rcases h.cases with ⟨_, rfl, _⟩ | ⟨b, rfl, _, _, hr, _⟩
  · rw [Nat.zero_mul]; exact Rd.none_ _ _ _
  · exact fun _ => ⟨b, 0, rfl, fun i hi => by rw [Nat.zero_add]; exact hr i hi⟩
theorem OwnK.lt (h : OwnK w base e k A n c f) {b o : Nat} (hA : A = some ⟨b, o, none⟩) : base ≤ b ∧ b < w.heap.size := by
  rcases h.cases with ⟨h1, _⟩ | ⟨b', h1, hb, hl, _⟩
  · rw [h1] at hA; cases hA
  · rw [h1] at hA; injection hA with hA; injection hA with hA; subst hA; exact ⟨hb, hl⟩
theorem OwnK.nil (w : World) (base : Nat) (e : TypeId) (k : Nat) (f : Nat → Value) : OwnK w base e k none 0 0 f := ⟨by simp, .inl ⟨rfl, rfl⟩⟩
theorem OwnK.congr (h : OwnK w base e k A n c f) (he : ∀ i, i < n * k → f i = g i) : OwnK w base e k A n c g := by
  unfold OwnK at *
  rw [← List.map_congr_left (fun i hi => he i (List.mem_range.1 hi))]
  exact h
theorem OwnK.keep (h : OwnK w base e k A n c f) (hk : ∀ b o, A = some ⟨b, o, none⟩ → w'.heap[b]? = w.heap[b]?) : OwnK w' base e k A n c f := by
  obtain ⟨h0, h⟩ := h
  refine ⟨h0, ?_⟩
  rcases h with h | ⟨b, cap, cur, hv, hb, hh, r⟩
  · exact .inl h
  · simp only [Value.slice.injEq] at hv
    exact .inr ⟨b, cap, cur, by simp [hv], hb, (hk b 0 hv.1).trans hh, r⟩
theorem OwnK.below (h : OwnK w base e k A n c f) (hb : Below w.heap.size w w') : OwnK w' base e k A n c f := h.keep fun b _ hA => hb.block b (h.lt hA).2
theorem OwnK.alloc (h : OwnK w base e k A n c f) (o : Obj) : OwnK (w.alloc o) base e k A n c f := h.below ((Below.refl _ w).alloc (Nat.le_refl _) o)
/-- append(v, src...). -/
theorem run_appK {t ty : TypeId} {i : TypeInfo} {z : Value} {bytes m d : Nat} {ad : Addr} {h : Nat → Value} (ht : P.underlying t = some (.slice e)) (hi : P.info? e = some i) (hz : i.zero = some z)
    (hsize : i.size = k) (hby : i.bytes = bytes) (hzs : z.cells.size = k) (hk0 : 0 < k) (hown : OwnK w base e k A n c f) (hS : ∀ j, j < m * k → w.cell? (ad.add j) = some (h j)) (h1 : ∀ j, (h j).oneCell' = true)
    (h63 : n + m ≤ maxLen) (hbytes : (n + m) * bytes ≤ 140737488355328) (hbase : base ≤ w.heap.size) :
    ∃ A' c' w', (Builtin.append_ #[t, t] ty #[.slice A n c, .slice (some ad) m d]).run P w = .ok (.slice A' (n + m) c') w' ∧ OwnK w' base e k A' (n + m) c' (fun j => if j < n * k then f j else h (j - n * k)) ∧ w.grownBy w' (Value.slice A n c).ownBlock ∧
      ((Value.slice A' (n + m) c').ownBlock = (Value.slice A n c).ownBlock ∨ (Value.slice A' (n + m) c').ownBlock = some w.heap.size) := by
  have hmap : (List.range (n * k)).map f ++ (List.range (m * k)).map h = (List.range ((n + m) * k)).map (fun j => if j < n * k then f j else h (j - n * k)) := by
    rw [Nat.add_mul, List.range_add, List.map_append, List.map_map]
    congr 1
    · exact List.map_congr_left fun j hj => by rw [if_pos (List.mem_range.1 hj)]
    · exact List.map_congr_left fun j _ => by show h j = if n * k + j < n * k then f (n * k + j) else h (n * k + j - n * k); rw [if_neg (by omega), Nat.add_sub_cancel_left]
  have hnews : ∀ j u, ((List.range (m * k)).map h)[j]? = some u → w.cell? (ad.add j) = some u := by
    intro j u hu
    have hjl : j < m * k := by
      rcases Nat.lt_or_ge j (m * k) with hlt | hge
      · exact hlt
      · rw [List.getElem?_eq_none (by simpa using hge)] at hu; cases hu
    rw [hS j hjl]
    rw [List.getElem?_map, List.getElem?_range hjl] at hu
    simpa using hu
  obtain ⟨v', w', hrun, h2, h3, _, h5⟩ := run_append_own_at (P := P) w base t ty e i z k bytes ht hi hz hsize hby hzs hk0 _ n _ hown ad m d ((List.range (m * k)).map h) (by simp) hnews (by intro u hu; obtain ⟨j, _, rfl⟩ := List.mem_map.1 hu; exact h1 j) h63 hbytes hbase
  obtain ⟨A', c', rfl⟩ : ∃ A c, v' = .slice A (n + m) c := by
    rcases h2.2 with ⟨rfl, e0⟩ | ⟨g, cap, cur, rfl, _⟩
    · exact ⟨_, _, by rw [e0]⟩
    · exact ⟨_, _, rfl⟩
  refine ⟨A', c', w', hrun, ?_, h3, h5⟩
  unfold OwnK
  rw [← hmap]
  exact h2
theorem wpList_appK {ops : Array Oper} {rest : List Oper} {o : Oper} {a : Act} {Q : Exit → Act → World → Prop} {t : TypeId} {i : TypeInfo} {z : Value} {bytes m d : Nat} {ad : Addr} {h : Nat → Value} (hgd : o.guard = none) (s x : Operand)
    (ho : o.op = .call { callee := .builtin .append, args := #[s, x], argTypes := #[t, t] }) (ht : P.underlying t = some (.slice e)) (hi : P.info? e = some i) (hz : i.zero = some z)
    (hsize : i.size = k) (hby : i.bytes = bytes) (hzs : z.cells.size = k) (hk0 : 0 < k) (hs : a.eval s = .slice A n c) (hx : a.eval x = .slice (some ad) m d) (hown : OwnK w base e k A n c f) (hS : ∀ j, j < m * k → w.cell? (ad.add j) = some (h j)) (h1 : ∀ j, (h j).oneCell' = true)
    (h63 : n + m ≤ maxLen) (hbytes : (n + m) * bytes ≤ 140737488355328) (hbase : base ≤ w.heap.size)
    (hK : ∀ A' c' w', OwnK w' base e k A' (n + m) c' (fun j => if j < n * k then f j else h (j - n * k)) → w.grownBy w' (Value.slice A n c).ownBlock →
      ((Value.slice A' (n + m) c').ownBlock = (Value.slice A n c).ownBlock ∨ (Value.slice A' (n + m) c').ownBlock = some w.heap.size) → wpList P ops Q rest (a.put o.dst (.slice A' (n + m) c')) w') : wpList P ops Q (o :: rest) a w := by
  refine wpList_plain hgd fun K hK' => ?_
  obtain ⟨A', c', w', hrun, h2, h3, h4⟩ := run_appK (P := P) (ty := o.type) (d := d) ht hi hz hsize hby hzs hk0 hown hS h1 h63 hbytes hbase
  unfold Oper.wp execOp
  simp only [ho, resolve, invoke, builtin, Sem.run_bind, Sem.run_pure, Result.andThen_ok, List.map_toArray, List.map_cons, List.map_nil, hs, hx, hrun]
  exact hK' _ _ (hK A' c' w' h2 h3 h4)
/-- A slice of records of the call's own, of colour i. -/
def Recs (w : World) (col : Nat → Nat) (i : Nat) (e : TypeId) (k : Nat) (A : Option Addr) (n c : Nat) (F : Nat → Nat → Int) : Prop := OwnK w 0 e k A n c (recs k F) ∧ ∀ b o, A = some ⟨b, o, none⟩ → col b = i
theorem Recs.upd {col : Nat → Nat} {i j : Nat} {F : Nat → Nat → Int} (h : Recs w col i e k A n c F) (hj : i ≠ j) (hu : Upd col j w w') : Recs w' (recol col w j) i e k A n c F :=
  ⟨h.1.keep fun b o hA => hu.block b (h.1.lt hA).2 (by rw [h.2 b o hA]; exact hj), fun b o hA => by rw [recol_lt (h.1.lt hA).2]; exact h.2 b o hA⟩
theorem Recs.below {col : Nat → Nat} {i : Nat} {F : Nat → Nat → Int} (h : Recs w col i e k A n c F) (hb : Below w.heap.size w w') : Recs w' col i e k A n c F := ⟨h.1.below hb, h.2⟩
/-- One record more. -/
def recAdd (F : Nat → Nat → Int) (q : Nat) (x : Nat → Int) : Nat → Nat → Int := fun i r => if i < q then F i r else x r
theorem Recs.more {col : Nat → Nat} {i m2 : Nat} {F : Nat → Nat → Int} {x : Nat → Int} {A' : Option Addr} {c' : Nat} (hR : Recs w col i e k A n c F) (hk0 : 0 < k) {w1 : World} (hw1 : Below w.heap.size w w1)
    (h : OwnK w' 0 e k A' (n + 1) c' (fun j => if j < n * k then recs k F j else .int .i64 (x (j - n * k)))) (hg : w1.grownBy w' (Value.slice A n c).ownBlock) (hb : (Value.slice A' (n + 1) c').ownBlock = (Value.slice A n c).ownBlock ∨ (Value.slice A' (n + 1) c').ownBlock = some m2) (hm : w.heap.size ≤ m2) :
    Recs w' (recol col w i) i e k A' (n + 1) c' (recAdd F n x) ∧ Upd col i w w' := by
  refine ⟨⟨h.congr fun j hj => ?_, fun b o hA => ?_⟩, ⟨hg.os.trans hw1.os, hg.tape.trans hw1.tape, hg.output.trans hw1.output, Nat.le_trans hw1.size hg.size, fun b hl hn => ?_⟩⟩
  · unfold recAdd recs
    by_cases hlt : j < n * k
    · rw [if_pos hlt]; dsimp only; rw [if_pos ((Nat.div_lt_iff_lt_mul hk0).2 hlt)]
    · have hge : n ≤ j / k := (Nat.le_div_iff_mul_le hk0).2 (by omega)
      rw [if_neg hlt]; dsimp only; rw [if_neg (by omega)]
      rw [Nat.add_mul, Nat.one_mul] at hj
      have e1 : j / k = n := by
        have : j / k < n + 1 := (Nat.div_lt_iff_lt_mul hk0).2 (by rw [Nat.add_mul, Nat.one_mul]; omega)
        omega
      have e2 : j % k = j - n * k := by
        have := Nat.div_add_mod j k
        rw [e1, Nat.mul_comm] at this
        omega
      rw [e2]
  · subst hA
    rcases hb with hb | hb
    · cases A with
      | none => simp [Value.ownBlock] at hb
      | some y =>
        simp [Value.ownBlock] at hb
        rcases hR.1.cases with ⟨h0, _⟩ | ⟨b', h0, _, hlt, _⟩
        · cases h0
        · injection h0 with h0
          subst h0
          dsimp only at hb
          subst hb
          rw [recol_lt hlt]
          exact hR.2 _ 0 rfl
    · simp [Value.ownBlock] at hb
      exact recol_ge (by omega)
  · rw [hg.block b (Nat.lt_of_lt_of_le hl hw1.size) ?_, hw1.block b hl]
    intro hh
    cases A with
    | none => simp [Value.ownBlock] at hh
    | some y =>
      simp [Value.ownBlock] at hh
      rcases hR.1.cases with ⟨h0, _⟩ | ⟨b', h0, _, hlt, _⟩
      · cases h0
      · injection h0 with h0
        subst h0
        dsimp only at hh
        subst hh
        exact hn (hR.2 _ 0 rfl)
end
end Go.Kin
