/- Rows inside a block: read, stored, held against each other; New, Copy, Same of package book. -/
import Derived.Test.YtmnoddmecghjdaaBk2M
import Derived.ChangeKeysEq
import Derived.Laws.CopyRow
set_option linter.unusedVariables false
namespace Go.Kin
open Go.RowKit
section
variable {P : Program} {w : World}
theorem mkR_extract {n o k : Nat} {f : Nat → Value} (h : o + k ≤ n) : (mkR n f).extract o (o + k) = mkR k (fun i => f (o + i)) := by
  refine mkR_ext (by simp [mkR_size]; omega) fun i hi => ?_
  rw [Array.getElem?_extract, if_pos (by rw [mkR_size]; omega)]
  exact mkR_at (by omega)
theorem run_eqItems_all {d : Nat} {e : TypeId} {k : Nat} {xs ys : Array Value} {r : Nat → Bool} {a b : Nat → Value} : ∀ (is : List Nat),
    (∀ j, j ∈ is → (part e xs (j * k)).run P w = .ok (a j) w ∧ (part e ys (j * k)).run P w = .ok (b j) w ∧ (Op.equalIn d e (a j) (b j)).run P w = .ok (r j) w) → (Op.eqItems d e k xs ys is).run P w = .ok (is.all r) w
  | [], _ => by simp [Op.eqItems]
  | j :: is, h => by
    obtain ⟨h1, h2, h3⟩ := h j (by simp)
    have ih := run_eqItems_all (d := d) (k := k) is (fun j hj => h j (by simp [hj]))
    simp only [Op.eqItems, Sem.run_bind, h1, h2, h3, Result.andThen_ok, List.all_cons]
    cases r j
    · simp
    · simpa using ih
theorem run_part_cell {e : TypeId} {k : IntKind} {i : TypeInfo} {xs : Array Value} {o : Nat} {v : Value} (hu : P.underlying e = some (.int k)) (hv : xs[o]? = some v) : (part e xs o).run P w = .ok v w := by
  have hagg : (isAgg e).run P w = .ok false w := by
    unfold isAgg
    rw [Sem.run_bind, run_underlying hu w]
    rfl
  simp [part, Sem.run_bind, hagg, hv]
theorem run_part_agg {e : TypeId} {d : TypeDesc} {xs : Array Value} {o s : Nat} (hu : P.underlying e = some d) (hd : (match d with | .struct _ | .array _ _ => true | _ => false) = true) (hi : (P.info? e).map (·.size) = some s) :
    (part e xs o).run P w = .ok (.agg (xs.extract o (o + s))) w := by
  cases hq : P.info? e with
  | none => simp [hq] at hi
  | some i =>
    have hs : i.size = s := by simpa [hq] using hi
    have hagg : (isAgg e).run P w = .ok true w := by
      unfold isAgg
      rw [Sem.run_bind, run_underlying hu w]
      cases d <;> simp_all
    simp [part, Sem.run_bind, hagg, sizeOf, typeInfo, hq, hs]
/-- A row stored inside a block that is known whole. -/
theorem run_store_at {b o n k : Nat} {ty : TypeId} {f h : Nat → Value} (hB : Box w b (mkR n f)) (hi : (P.info? ty).map (·.size) = some k) (hfit : o + k ≤ n) (h1 : ∀ i, (h i).oneCell' = true) :
    ∃ w', (storeVar ty ⟨b, o, none⟩ (.agg (mkR k h))).run P w = .ok () w' ∧ Box w' b (mkR n (fun i => if o ≤ i ∧ i < o + k then h (i - o) else f i)) ∧ Oth b w w' := by
  obtain ⟨t, hg⟩ := hB
  have hls : (mkR k h).toList.length = k := by rw [Array.length_toList, mkR_size]
  have hns : (mkR n f).size = n := mkR_size
  have hrun := run_storeCells_at (P := P) b o t (mkR k h).toList 0 (mkR n f) w hg (by rw [hls, hns]; omega) (fun v hv => by
    rw [Array.mem_toList_iff, Array.mem_iff_getElem?] at hv
    obtain ⟨i, hi⟩ := hv
    rcases Nat.lt_or_ge i k with hlt | hge
    · rw [mkR_at hlt] at hi; injection hi with hi; subst hi; exact h1 i
    · rw [mkR_no hge] at hi; cases hi)
  cases hq : P.info? ty with
  | none => simp [hq] at hi
  | some ti =>
    have hs : ti.size = k := by simpa [hq] using hi
    have h0 : (storeVar ty ⟨b, o, none⟩ (.agg (mkR k h))).run P w = (storeCells ⟨b, o, none⟩ (mkR k h).toList 0).run P w := by
      simp only [storeVar, sizeOf, typeInfo, Sem.run_bind, Value.cells, mkR_size]
      simp [hq, hs]
    refine ⟨_, h0.trans hrun, ⟨t, (setRow_heap w b _ _ t _ hg).trans ?_⟩, oth_setRow w b _⟩
    · congr 2
      have hcell : ∀ i, i < n → (mkR n f)[i]? = some (f i) := fun i hi => mkR_at hi
      have hhell : ∀ i, i < k → (mkR k h).toList[i]? = some (h i) := fun i hi => by rw [Array.getElem?_toList]; exact mkR_at hi
      generalize mkR n f = c at *
      generalize (mkR k h).toList = l at *
      rw [hls]
      refine mkR_ext (by simp; omega) fun i hi => ?_
      simp only [List.getElem?_toArray, Nat.add_zero]
      by_cases ha : i < o
      · rw [if_neg (by omega), List.append_assoc, List.getElem?_append_left (by simp; omega), List.getElem?_take_of_lt ha, Array.getElem?_toList]
        exact hcell i hi
      · by_cases hb : i < o + k
        · rw [if_pos (by omega), List.append_assoc, List.getElem?_append_right (by simp; omega)]
          have e : (c.toList.take o).length = o := by simp; omega
          rw [e, List.getElem?_append_left (by omega)]
          exact hhell (i - o) (by omega)
        · rw [if_neg (by omega), List.getElem?_append_right (by simp; omega)]
          have e : (c.toList.take o ++ l).length = o + k := by simp; omega
          rw [e, List.getElem?_drop, show o + k + (i - (o + k)) = i by omega, Array.getElem?_toList]
          exact hcell i hi
theorem run_eqFields3 {d : Nat} {X Y : Array Value} {fa fb fc : Field} {a0 b0 a1 b1 a2 b2 : Value} {t0 t1 t2 : Bool} (ha : fa.name ≠ "_") (hb : fb.name ≠ "_") (hc : fc.name ≠ "_")
    (p0 : (part fa.type X fa.offset).run P w = .ok a0 w) (r0 : (part fa.type Y fa.offset).run P w = .ok b0 w) (q0 : (Op.equalIn d fa.type a0 b0).run P w = .ok t0 w)
    (p1 : (part fb.type X fb.offset).run P w = .ok a1 w) (r1 : (part fb.type Y fb.offset).run P w = .ok b1 w) (q1 : (Op.equalIn d fb.type a1 b1).run P w = .ok t1 w)
    (p2 : (part fc.type X fc.offset).run P w = .ok a2 w) (r2 : (part fc.type Y fc.offset).run P w = .ok b2 w) (q2 : (Op.equalIn d fc.type a2 b2).run P w = .ok t2 w) :
    (Op.eqFields d X Y [fa, fb, fc]).run P w = .ok (t0 && (t1 && t2)) w := by
  simp only [Op.eqFields, ha, hb, hc, ne_eq, not_false_eq_true, if_true, Sem.run_bind, p0, r0, q0, Result.andThen_ok]
  cases t0
  · simp
  · simp only [Bool.not_true, Bool.false_eq_true, if_false, Sem.run_bind, p1, r1, q1, Result.andThen_ok]
    cases t1
    · simp
    · simp only [Bool.not_true, Bool.false_eq_true, if_false, Sem.run_bind, p2, r2, q2, Result.andThen_ok]
      cases t2 <;> simp
end
theorem fold_at : ∀ (l : List Value) (k : Nat) (Z : Array Value), k + l.length ≤ Z.size → ∀ i, ((l.zipIdx k).foldl (fun cs x => cs.setIfInBounds x.2 x.1) Z)[i]? = if k ≤ i ∧ i < k + l.length then l[i - k]? else Z[i]?
  | [], k, Z, _, i => by
    rw [if_neg (by simp)]
    rfl
  | v :: l, k, Z, h, i => by
    rw [List.zipIdx_cons, List.foldl_cons, fold_at l (k + 1) _ (by simp at h ⊢; omega)]
    simp only [List.length_cons] at h ⊢
    by_cases h1 : k + 1 ≤ i ∧ i < k + 1 + l.length
    · rw [if_pos h1, if_pos (by omega), show i - k = i - (k + 1) + 1 by omega, List.getElem?_cons_succ]
    · rw [if_neg h1, Array.getElem?_setIfInBounds]
      by_cases h2 : k = i
      · subst h2
        rw [if_pos rfl, if_pos (by omega), if_pos (by omega), Nat.sub_self]
        rfl
      · rw [if_neg h2, if_neg (by omega)]
theorem fold_set {X Z : Array Value} (h : Z.size = X.size) : Array.foldl (fun cs x => cs.setIfInBounds x.snd x.fst) Z X.zipIdx 0 X.size = X := by
  have e : Array.foldl (fun cs (x : Value × Nat) => cs.setIfInBounds x.snd x.fst) Z X.zipIdx 0 X.size = (X.toList.zipIdx 0).foldl (fun cs x => cs.setIfInBounds x.2 x.1) Z := by
    have : X.toList.zipIdx 0 = X.zipIdx.toList := by simp
    rw [this, Array.foldl_toList]
    simp
  rw [e]
  apply Array.ext_getElem?
  intro i
  rw [fold_at X.toList 0 Z (by simp; omega)]
  simp only [Array.length_toList, Nat.zero_add, Nat.zero_le, true_and, Nat.sub_zero, Array.getElem?_toList]
  split
  · rfl
  · rw [Array.getElem?_eq_none (by omega), Array.getElem?_eq_none (by omega)]
theorem run_equalIn_nil_pointer {P : Program} (w : World) (d : Nat) (t : TypeId) (p : Option Addr) (h : P.underlying t = some (.pointer (P.pointee t))) :
    (Op.equalIn (d + 1) t (.pointer none) (.pointer p)).run P w = .ok p.isNone w := by
  cases p <;> simp [Op.equalIn, run_underlying h]
theorem run_equal_nil_pointer {P : Program} (w : World) (t : TypeId) (p : Option Addr) (h : P.underlying t = some (.pointer (P.pointee t))) :
    (Op.equal t (.pointer none) (.pointer p)).run P w = .ok p.isNone w := run_equalIn_nil_pointer w 9999 t p h
theorem run_eql_nil_pointer {P : Program} (w : World) (t : TypeId) (p : Option Addr) (h : P.underlying t = some (.pointer (P.pointee t))) :
    (binOp .eql t (.pointer none) (.pointer p)).run P w = .ok (.bool p.isNone) w := by
  simp only [binOp]
  simp [run_equal_nil_pointer w t p h]
/-- Two runs of cells of numbers, held against each other. -/
def allEq (n : Nat) (C D : Nat → Int) : Bool := (List.range n).all fun i => C i == D i
theorem allEq_iff {n : Nat} {C D : Nat → Int} : allEq n C D = true ↔ ∀ i, i < n → C i = D i := by
  unfold allEq
  simp only [List.all_eq_true, List.mem_range, beq_iff_eq]
/-- Whether two books are one. -/
def topEq (C D : Nat → Int) : Bool := allEq 20 C D && (allEq 16 (fun i => C (20 + i)) (fun i => D (20 + i)) && (C 36 == D 36))
def sameC (C D : Nat → Int) : Bool := (List.range 16).all fun j => topEq (fun i => C (j * 37 + i)) (fun i => D (j * 37 + i))
theorem topEq_iff {C D : Nat → Int} : topEq C D = true ↔ ∀ i, i < 37 → C i = D i := by
  unfold topEq
  simp only [Bool.and_eq_true, allEq_iff, beq_iff_eq]
  constructor
  · rintro ⟨h1, h2, h3⟩ i hi
    by_cases a : i < 20
    · exact h1 i a
    · by_cases c : i < 36
      · have := h2 (i - 20) (by omega)
        rw [show 20 + (i - 20) = i by omega] at this
        exact this
      · obtain rfl : i = 36 := by omega
        exact h3
  · intro h
    exact ⟨fun i hi => h i (by omega), fun i hi => h (20 + i) (by omega), h 36 (by omega)⟩
theorem sameC_iff {C D : Nat → Int} : sameC C D = true ↔ ∀ i, i < 592 → C i = D i := by
  unfold sameC
  simp only [List.all_eq_true, List.mem_range, topEq_iff]
  constructor
  · intro h i hi
    have := h (i / 37) (by omega) (i % 37) (by omega)
    rw [show i / 37 * 37 + i % 37 = i by omega] at this
    exact this
  · intro h j hj i hi
    exact h _ (by omega)
end Go.Kin
namespace Go.Proofs.Ytmnoddmecghjdaa
open Go.RowKit Go.Kin
theorem size_top : (Try.prog.info? 77).map (·.size) = some 37 := by kernel_rfl
theorem size_tops : (Try.prog.info? 78).map (·.size) = some 592 := by kernel_rfl
theorem size_20 : (Try.prog.info? 74).map (·.size) = some 20 := by kernel_rfl
theorem size_16 : (Try.prog.info? 75).map (·.size) = some 16 := by kernel_rfl
theorem cells_ch : Try.prog.cellsOf 73 = 1 := by kernel_rfl
theorem cells_top : Try.prog.cellsOf 77 = 37 := by kernel_rfl
theorem eq_arr {n : Nat} {t : TypeId} {d : Nat} {C D : Nat → Int} {w : World} (ht : Try.prog.underlying t = some (.array n 73)) :
    (Op.equalIn (d + 2) t (.agg (mkR n (u16s C))) (.agg (mkR n (u16s D)))).run Try.prog w = .ok (allEq n C D) w := by
  obtain ⟨ti, hti⟩ := info_of_underlying (P := Try.prog) Try.underlying73
  rw [run_equalIn_array w (d + 1) _ _ ht hti, cells_ch]
  refine run_eqItems_all (a := fun j => u16s C j) (b := fun j => u16s D j) _ fun j hj => ?_
  have hj' := List.mem_range.1 hj
  rw [Nat.mul_one]
  exact ⟨run_part_cell (i := ti) Try.underlying73 (mkR_at hj'), run_part_cell (i := ti) Try.underlying73 (mkR_at hj'), run_equalIn_int w d _ _ _ _ _ Try.underlying73⟩
theorem st_top : Try.prog.underlying 77 = some (.struct (Try.prog.fieldsOf 77)) := by kernel_rfl
theorem st_held : Try.prog.stoodInHeld 77 = false := by kernel_rfl
theorem pt_0 (C : Nat → Int) (w : World) : (part 74 (mkR 37 (u16s C)) 0).run Try.prog w = .ok (.agg (mkR 20 (u16s C))) w := by
  rw [run_part_agg Try.underlying74 rfl size_20, mkR_extract (by omega)]
  simp only [Nat.zero_add]
theorem pt_1 (C : Nat → Int) (w : World) : (part 75 (mkR 37 (u16s C)) 20).run Try.prog w = .ok (.agg (mkR 16 (u16s fun i => C (20 + i)))) w := by
  rw [run_part_agg Try.underlying75 rfl size_16, mkR_extract (by omega)]
  rfl
theorem pt_2 (C : Nat → Int) (w : World) : (part 73 (mkR 37 (u16s C)) 36).run Try.prog w = .ok (.int .u16 (C 36)) w := by
  obtain ⟨ti, hti⟩ := info_of_underlying (P := Try.prog) Try.underlying73
  exact run_part_cell (i := ti) Try.underlying73 (mkR_at (by omega))
theorem fs_top : ∃ a b c : Field, (Try.prog.fieldsOf 77).toList = [a, b, c] ∧ (a.name ≠ "_" ∧ a.type = 74 ∧ a.offset = 0) ∧ (b.name ≠ "_" ∧ b.type = 75 ∧ b.offset = 20) ∧ (c.name ≠ "_" ∧ c.type = 73 ∧ c.offset = 36) := by
  simp only [Program.fieldsOf, Try.underlying77]
  exact ⟨_, _, _, rfl, ⟨by decide, rfl, rfl⟩, ⟨by decide, rfl, rfl⟩, ⟨by decide, rfl, rfl⟩⟩
theorem eq_top {d : Nat} {C D : Nat → Int} {w : World} :
    (Op.equalIn (d + 3) 77 (.agg (mkR 37 (u16s C))) (.agg (mkR 37 (u16s D)))).run Try.prog w = .ok (topEq C D) w := by
  rw [run_equalIn_struct w (d + 2) _ _ _ st_top st_held]
  obtain ⟨fa, fb, fc, hfs, ⟨a1, a2, a3⟩, ⟨b1, b2, b3⟩, ⟨c1, c2, c3⟩⟩ := fs_top
  rw [hfs]
  unfold topEq
  exact run_eqFields3 a1 b1 c1 (by rw [a2, a3]; exact pt_0 C w) (by rw [a2, a3]; exact pt_0 D w) (by rw [a2]; exact eq_arr Try.underlying74)
    (by rw [b2, b3]; exact pt_1 C w) (by rw [b2, b3]; exact pt_1 D w) (by rw [b2]; exact eq_arr Try.underlying75)
    (by rw [c2, c3]; exact pt_2 C w) (by rw [c2, c3]; exact pt_2 D w) (by rw [c2]; exact run_equalIn_int w (d + 1) _ _ _ _ _ Try.underlying73)
theorem eq_tops {d : Nat} {C D : Nat → Int} {w : World} :
    (Op.equalIn (d + 4) 78 (.agg (mkR 592 (u16s C))) (.agg (mkR 592 (u16s D)))).run Try.prog w = .ok (sameC C D) w := by
  obtain ⟨ti, hti⟩ := info_of_underlying (P := Try.prog) Try.underlying77
  rw [run_equalIn_array w (d + 3) _ _ Try.underlying78 hti, cells_top]
  refine run_eqItems_all (a := fun j => .agg (mkR 37 (u16s fun i => C (j * 37 + i)))) (b := fun j => .agg (mkR 37 (u16s fun i => D (j * 37 + i)))) _ fun j hj => ?_
  have hj' := List.mem_range.1 hj
  refine ⟨?_, ?_, eq_top⟩
  · rw [run_part_agg Try.underlying77 rfl size_top, mkR_extract (by omega)]
    rfl
  · rw [run_part_agg Try.underlying77 rfl size_top, mkR_extract (by omega)]
    rfl
theorem eqg_tops : Try.prog.eqGuardType Try.prog.depth 78 = false := by kernel_rfl
theorem exec_eq {w : World} {o : Oper} {r : Operand → Value} {T : TypeId} (x y : Operand) (ho : o.op = .binOp .eql 78 x y T) (C D : Nat → Int) (hx : r x = .agg (mkR 592 (u16s C))) (hy : r y = .agg (mkR 592 (u16s D))) :
    (execOp r o).run Try.prog w = .ok (.value (.bool (sameC C D))) w := by
  have he := eq_tops (d := 9996) (C := C) (D := D) (w := w)
  unfold execOp
  simp only [ho, hx, hy]
  generalize mkR 592 (u16s C) = X at *
  generalize mkR 592 (u16s D) = Y at *
  generalize sameC C D = b at *
  rw [show (9996 + 4 : Nat) = 10000 from rfl] at he
  simp only [Sem.run_bind, run_eqGuard_agg w .eql _ _ _ _ _ eqg_tops, Result.andThen_ok, run_eql_struct, he, Sem.run_pure]
/-- Same. -/
theorem same_nilnil (w : World) : Calls Try.prog 30 #[.pointer none, .pointer none] w fun e w' => e = .returned (.bool true) ∧ w = w' := by
  go_enter Try.func30, Try.ntmps30
  go_wp2
  go_ret
  exact ⟨rfl, rfl⟩
theorem eql_nilsome (b : Nat) (w : World) : (binOp .eql 23 (.pointer none) (.pointer (some ⟨b, 0, none⟩))).run Try.prog w = .ok (.bool false) w := by
  exact run_eql_nil_pointer w 23 (some ⟨b, 0, none⟩) (by kernel_rfl)
set_option maxRecDepth 100000 in
theorem same_nilsome (b : Nat) (w : World) : Calls Try.prog 30 #[.pointer none, .pointer (some ⟨b, 0, none⟩)] w fun e w' => e = .returned (.bool false) ∧ w = w' := by
  have hen := eql_nilsome b
  go_enter Try.func30, Try.ntmps30
  go_wp2
  go_ret
  exact ⟨rfl, rfl⟩
theorem copy_nil (w : World) : Calls Try.prog 29 #[.pointer none] w fun e w' => e = .returned (.pointer none) ∧ w = w' := by
  go_enter Try.func29, Try.ntmps29
  go_wp2
  go_ret
  exact ⟨rfl, rfl⟩
theorem exec_load {P : Program} {w : World} {o : Oper} {r : Operand → Value} (ty : TypeId) (x : Operand) (ho : o.op = .load ty x) (g : Nat) (hx : r x = .pointer (some ⟨g, 0, none⟩)) (cs : Array Value) (d : TypeDesc) (hg : Box w g cs)
    (hu : P.underlying ty = some d) (hd : (match d with | .struct _ | .array _ _ => true | _ => false) = true) (hi : (P.info? ty).map (·.size) = some cs.size) : (execOp r o).run P w = .ok (.value (.agg cs)) w := by
  obtain ⟨t, hg⟩ := hg
  unfold execOp
  simp only [ho, hx, Instr.loadAt, Instr.sureAddr, Sem.run_bind, Sem.run_pure, Result.andThen_ok, run_loadVar_row w g t ty cs (0, 0) d hg hu hd hi]
set_option maxHeartbeats 1000000 in
theorem same_any (a b : Nat) (C D : Nat → Int) (w : World) (hA : Box w a (mkR 592 (u16s C))) (hB : Box w b (mkR 592 (u16s D))) :
    Calls Try.prog 30 #[.pointer (some ⟨a, 0, none⟩), .pointer (some ⟨b, 0, none⟩)] w fun e w' => e = .returned (.bool (sameC C D)) ∧ Below w.heap.size w w' := by
  have HA := Lib.hid (Box.drew hA)
  have HB := Lib.hid (Box.drew hB)
  clear hA hB
  go_enter Try.func30, Try.ntmps30
  go_wp2
  refine wp_region_allH (fun w' => Box w' a (mkR 592 (u16s C)) ∧ Box w' b (mkR 592 (u16s D))) [] [(0,1),(1,1),(2,1),(3,1),(4,1),(5,1),(6,1),(7,1),(8,1),(9,0)] (by kernel_rfl) (by kernel_rfl) (fun _ _ d _ _ h => by cases d <;> exact h) (⟨HA.out, HB.out⟩) ?_
  repeat (refine oH_freeG rfl rfl (fun w' hS => by first | exact exec_load 78 _ rfl a rfl _ _ hS.1 Try.underlying78 rfl (by rw [mkR_size]; exact size_tops) | exact exec_load 78 _ rfl b rfl _ _ hS.2 Try.underlying78 rfl (by rw [mkR_size]; exact size_tops) | exact exec_eq _ _ rfl C D rfl rfl | (clear hS; go_simp; with_reducible rfl)) ?_; go_simp)
  repeat (refine oH_still rfl (fun KK hKK => ?_); go_simp; refine hKK _ ?_; clear hKK KK)
  refine oH_nil ?_
  go_wp2
  go_ret
  exact ⟨rfl, (Below.refl _ w).drew⟩
set_option maxHeartbeats 1000000 in
theorem copy_any (b : Nat) (C : Nat → Int) (w : World) (hB : Box w b (mkR 592 (u16s C))) :
    Calls Try.prog 29 #[.pointer (some ⟨b, 0, none⟩)] w fun e w' => e = .returned (.pointer (some ⟨w.heap.size, 0, none⟩)) ∧ Box w' w.heap.size (mkR 592 (u16s C)) ∧ Below w.heap.size w w' := by
  have hl := Box.lt hB
  obtain ⟨t, hg⟩ := hB
  have hs : (mkR 592 (u16s C)).size = 592 := mkR_size
  have HN : Hid (Box (w.alloc (.cells (mkR 592 (u16s C)) 80)) w.heap.size (mkR 592 (u16s C))) := Lib.hid (Box.new w _ _)
  generalize mkR 592 (u16s C) = X at *
  have hz : Try.zeroCells80.size = X.size := by rw [hs]; kernel_rfl
  have hfold := fold_set hz
  rw [hs] at hfold
  have HS := Lib.hid hs
  clear hz
  go_enter Try.func29, Try.ntmps29
  go_wp2_with (refine wpList_load_row rfl 78 _ rfl b rfl t X (0, 0) _ hg Try.underlying78 rfl (by rw [HS.out]; exact size_tops) ?_)
  go_ret
  exact ⟨rfl, HN.out, (Below.refl _ w).alloc (Nat.le_refl _) _⟩
end Go.Proofs.Ytmnoddmecghjdaa
