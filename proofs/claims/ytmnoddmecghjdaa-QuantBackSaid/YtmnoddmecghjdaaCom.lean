/- Words for memory and small facts that all walks of this seat share: a block that is known whole (Box), a row of bytes or numbers (Row), a slice that is read (Rd), and what a call has kept (Oth). No condition. -/
import Derived.WalkKit
import Derived.WalkSpells
import Derived.WalkLawsBesides
import Derived.Deep.OwnRows
import Derived.Deep.Draws
import Derived.Deep.QuietTactic
import Derived.BigQuiet
import Derived.Lib.Hide
import Derived.Laws.CopyOwn
import Derived.Lib.MinMax
namespace Go.Kin
open Go.RowKit

theorem ret_int {k : IntKind} {a b : Int} (h : a = b) : Ending.returned (.int k a) = .returned (.int k b) := by rw [h]
theorem ret_two {k l : IntKind} {a b c d : Int} (h : a = b) (h' : c = d) : Ending.returned (.tuple #[.int k a, .int l c]) = .returned (.tuple #[.int k b, .int l d]) := by rw [h, h']
theorem ret_bool {a b : Bool} (h : a = b) : Ending.returned (.bool a) = .returned (.bool b) := by rw [h]

/-- Block b holds just these cells, none frozen. -/
def Box (w : World) (b : Nat) (cs : Array Value) : Prop := ∃ t, w.heap[b]? = some (.cells cs t (0, 0))
/-- The first n cells of block b hold f 0 .. f (n - 1), none frozen. -/
def Row (w : World) (b n : Nat) (f : Nat → Value) : Prop := ∃ c t, w.heap[b]? = some (.cells c t (0, 0)) ∧ n ≤ c.size ∧ ∀ i, i < n → c[i]? = some (f i)
/-- A slice's value of n elements, each of one cell, reads f 0 .. f (n - 1). -/
def Rd (w : World) (A : Option Addr) (n : Nat) (f : Nat → Value) : Prop := 0 < n → ∃ b off, A = some ⟨b, off, none⟩ ∧ ∀ i, i < n → w.cell? ⟨b, off + i, none⟩ = some (f i)
/-- All blocks that were there are as they were, but for block b. -/
structure Oth (b : Nat) (w w' : World) : Prop where
  os : w'.os = w.os
  tape : w'.tape = w.tape
  output : w'.output = w.output
  size : w.heap.size ≤ w'.heap.size
  block : ∀ k, k < w.heap.size → k ≠ b → w'.heap[k]? = w.heap[k]?

section
variable {w w' w'' : World} {b n : Nat} {cs : Array Value} {f g : Nat → Value} {A : Option Addr}

theorem Box.lt (h : Box w b cs) : b < w.heap.size := by
  obtain ⟨t, h⟩ := h
  exact (Array.getElem?_eq_some_iff.1 h).1
theorem Box.cell (h : Box w b cs) (i : Nat) : w.cell? ⟨b, i, none⟩ = cs[i]? := by
  obtain ⟨t, h⟩ := h
  simp [World.cell?, h]
theorem Box.frozen (h : Box w b cs) (i : Nat) : w.frozen? ⟨b, i, none⟩ = false := by
  obtain ⟨t, h⟩ := h
  simp [World.frozen?, h]
theorem Box.same (h : Box w b cs) (e : w'.heap[b]? = w.heap[b]?) : Box w' b cs := by
  obtain ⟨t, h⟩ := h
  exact ⟨t, e.trans h⟩
theorem Box.new (w : World) (t : TypeId) (cs : Array Value) : Box (w.alloc (.cells cs t)) w.heap.size cs := ⟨t, Go.Deep.blk_alloc_new _ _⟩
theorem Box.newAt (w : World) (t : TypeId) (cs : Array Value) {b : Nat} (hb : b = w.heap.size) : Box (w.alloc (.cells cs t)) b cs := by subst hb; exact Box.new w t cs
theorem Box.alloc (h : Box w b cs) (o : Obj) : Box (w.alloc o) b cs := h.same (Below.heap_alloc w o b h.lt)
theorem Box.drew (h : Box w b cs) : Box w.drew b cs := h
theorem Box.drewN (h : Box w b cs) (k : Nat) : Box (w.drewN k) b cs := h
theorem Box.set (h : Box w b cs) (i : Nat) (u : Value) : Box (w.setCell ⟨b, i, none⟩ u) b (cs.setIfInBounds i u) := by
  obtain ⟨t, h⟩ := h
  exact ⟨t, by simp [World.setCell, Array.getElem?_modify, h]⟩
theorem Box.far (h : Box w b cs) {p : Addr} (hp : b ≠ p.block) (u : Value) : Box (w.setCell p u) b cs := h.same (Below.heap_setCell w p u b hp)
theorem Box.below {B : Nat} (h : Box w b cs) (hb : Below B w w') (hg : b < B) : Box w' b cs := h.same (hb.block b hg)
theorem Box.oth {k : Nat} (h : Box w b cs) (ho : Oth k w w') (hg : b ≠ k) : Box w' b cs := h.same (ho.block b h.lt hg)

theorem Box.cell1 {x : Value} (h : Box w b #[x]) : w.cell? ⟨b, 0, none⟩ = some x := h.cell 0
theorem Box.cell3 {x y z : Value} (h : Box w b #[x, y, z]) : w.cell? ⟨b, 0, none⟩ = some x ∧ w.cell? ⟨b, 1, none⟩ = some y ∧ w.cell? ⟨b, 2, none⟩ = some z := ⟨h.cell 0, h.cell 1, h.cell 2⟩
theorem Box.frozen3 (h : Box w b cs) : w.frozen? ⟨b, 0, none⟩ = false ∧ w.frozen? ⟨b, 1, none⟩ = false ∧ w.frozen? ⟨b, 2, none⟩ = false := ⟨h.frozen 0, h.frozen 1, h.frozen 2⟩

theorem Row.lt (h : Row w b n f) : b < w.heap.size := by
  obtain ⟨c, t, h, _⟩ := h
  exact (Array.getElem?_eq_some_iff.1 h).1
theorem Row.cell (h : Row w b n f) {i : Nat} (hi : i < n) : w.cell? ⟨b, i, none⟩ = some (f i) := by
  obtain ⟨c, t, h, _, hc⟩ := h
  simp [World.cell?, h, hc i hi]
theorem Row.frozen (h : Row w b n f) (i : Nat) : w.frozen? ⟨b, i, none⟩ = false := by
  obtain ⟨c, t, h, _⟩ := h
  simp [World.frozen?, h]
theorem Row.same (h : Row w b n f) (e : w'.heap[b]? = w.heap[b]?) : Row w' b n f := by
  obtain ⟨c, t, h, r⟩ := h
  exact ⟨c, t, e.trans h, r⟩
theorem Row.congr (h : Row w b n f) (e : ∀ i, i < n → f i = g i) : Row w b n g := by
  obtain ⟨c, t, h, hn, hc⟩ := h
  exact ⟨c, t, h, hn, fun i hi => by rw [hc i hi, e i hi]⟩
theorem Row.alloc (h : Row w b n f) (o : Obj) : Row (w.alloc o) b n f := h.same (Below.heap_alloc w o b h.lt)
theorem Row.drew (h : Row w b n f) : Row w.drew b n f := h
theorem Row.drewN (h : Row w b n f) (k : Nat) : Row (w.drewN k) b n f := h
theorem Row.set (h : Row w b n f) (i : Nat) (v : Value) : Row (w.setCell ⟨b, i, none⟩ v) b n (fun j => if j = i then v else f j) := by
  obtain ⟨c, t, hb, hn, hc⟩ := h
  refine ⟨c.setIfInBounds i v, t, ?_, by simpa using hn, fun j hj => ?_⟩
  · simp [World.setCell, Array.getElem?_modify, hb]
  · rw [Array.getElem?_setIfInBounds]
    by_cases e : j = i
    · subst e
      simp [show j < c.size by omega]
    · rw [if_neg (fun h => e h.symm)]
      show c[j]? = some (if j = i then v else f j)
      rw [if_neg e]
      exact hc j hj
theorem Row.far (h : Row w b n f) {p : Addr} (hp : b ≠ p.block) (u : Value) : Row (w.setCell p u) b n f := h.same (Below.heap_setCell w p u b hp)
theorem Row.below {B : Nat} (h : Row w b n f) (hb : Below B w w') (hg : b < B) : Row w' b n f := h.same (hb.block b hg)
theorem Row.oth {k : Nat} (h : Row w b n f) (ho : Oth k w w') (hg : b ≠ k) : Row w' b n f := h.same (ho.block b h.lt hg)
theorem Row.made (w : World) (z : Value) (n : Nat) (t : TypeId) : Row (w.alloc (.cells (madeCells #[z] n) t)) w.heap.size n (fun _ => z) := by
  obtain ⟨c, h1, h2, h3⟩ := World.rowIs_made w z n t
  exact ⟨c, t, h1, by omega, h3⟩
theorem Row.madeAt (w : World) (z : Value) (n : Nat) (t : TypeId) {b : Nat} (hb : b = w.heap.size) : Row (w.alloc (.cells (madeCells #[z] n) t)) b n (fun _ => z) := by subst hb; exact Row.made w z n t
theorem Row.rd (h : Row w b n f) : Rd w (some ⟨b, 0, none⟩) n f := fun _ => ⟨b, 0, rfl, fun i hi => by rw [Nat.zero_add]; exact h.cell hi⟩

theorem Rd.none_ (w : World) (A : Option Addr) (f : Nat → Value) : Rd w A 0 f := fun h => absurd h (by omega)
theorem Rd.some_ (h : Rd w A n f) (hn : 0 < n) : ∃ b off, A = some ⟨b, off, none⟩ ∧ b < w.heap.size ∧ ∀ i, i < n → w.cell? ⟨b, off + i, none⟩ = some (f i) := by
  obtain ⟨b, off, e, hc⟩ := h hn
  refine ⟨b, off, e, ?_, hc⟩
  have := hc 0 hn
  rcases Nat.lt_or_ge b w.heap.size with hlt | hge
  · exact hlt
  · simp [World.cell?, Array.getElem?_eq_none hge] at this
theorem Rd.below (h : Rd w A n f) (hb : Below w.heap.size w w') : Rd w' A n f := fun hn => by
  obtain ⟨b, off, e, hlt, hc⟩ := h.some_ hn
  exact ⟨b, off, e, fun i hi => (hb.cell (p := ⟨b, off + i, none⟩) hlt).trans (hc i hi)⟩
theorem Rd.oth {k : Nat} (h : Rd w A n f) (ho : Oth k w w') (hk : ∀ b off, A = some ⟨b, off, none⟩ → b ≠ k) : Rd w' A n f := fun hn => by
  obtain ⟨b, off, e, hlt, hc⟩ := h.some_ hn
  exact ⟨b, off, e, fun i hi => (World.cell?_of_block (w := w) (ho.block b hlt (hk b off e))).trans (hc i hi)⟩
theorem Rd.alloc (h : Rd w A n f) (o : Obj) : Rd (w.alloc o) A n f := h.below ((Below.refl _ _).alloc (Nat.le_refl _) o)
theorem Rd.drew (h : Rd w A n f) : Rd w.drew A n f := h
theorem Rd.drewN (h : Rd w A n f) (k : Nat) : Rd (w.drewN k) A n f := h
theorem Rd.congr (h : Rd w A n f) (e : ∀ i, i < n → f i = g i) : Rd w A n g := fun hn => by
  obtain ⟨b, off, ea, hc⟩ := h hn
  exact ⟨b, off, ea, fun i hi => by rw [hc i hi, e i hi]⟩

theorem Oth.refl (b : Nat) (w : World) : Oth b w w := ⟨rfl, rfl, rfl, Nat.le_refl _, fun _ _ _ => rfl⟩
theorem Oth.trans (h : Oth b w w') (k : Oth b w' w'') : Oth b w w'' :=
  ⟨k.os.trans h.os, k.tape.trans h.tape, k.output.trans h.output, Nat.le_trans h.size k.size, fun i hi hn => (k.block i (Nat.lt_of_lt_of_le hi h.size) hn).trans (h.block i hi hn)⟩
theorem Oth.alloc (h : Oth b w w') (o : Obj) : Oth b w (w'.alloc o) :=
  h.trans ⟨rfl, rfl, rfl, by simp, fun i hi _ => Below.heap_alloc w' o i hi⟩
theorem Oth.drew (h : Oth b w w') : Oth b w w'.drew := ⟨h.os, h.tape, h.output, h.size, h.block⟩
theorem Oth.drewN (h : Oth b w w') (k : Nat) : Oth b w (w'.drewN k) := ⟨h.os, h.tape, h.output, h.size, h.block⟩
theorem Oth.set (h : Oth b w w') (i : Nat) (u : Value) : Oth b w (w'.setCell ⟨b, i, none⟩ u) :=
  ⟨h.os, h.tape, h.output, by simpa [World.setCell] using h.size, fun k hk hn => (Below.heap_setCell w' ⟨b, i, none⟩ u k hn).trans (h.block k hk hn)⟩
theorem Oth.setNew (h : Oth b w w') {p : Addr} (hp : w.heap.size ≤ p.block) (u : Value) : Oth b w (w'.setCell p u) :=
  ⟨h.os, h.tape, h.output, by simpa [World.setCell] using h.size, fun k hk hn => (Below.heap_setCell w' p u k (by omega)).trans (h.block k hk hn)⟩
theorem Oth.of_below (h : Below w.heap.size w w') (b : Nat) : Oth b w w' := ⟨h.os, h.tape, h.output, h.size, fun k hk _ => h.block k hk⟩
theorem Oth.below (h : Oth b w w') {B : Nat} (hB : B ≤ b) (hw : B ≤ w.heap.size) : Below B w w' :=
  ⟨h.os, h.tape, h.output, h.size, fun k hk => h.block k (by omega) (by omega)⟩
theorem below_drewN {B : Nat} {a : World} (h : Below B a w) (n : Nat) : Below B a (w.drewN n) := ⟨h.os, h.tape, h.output, h.size, h.block⟩
theorem Below.step {B : Nat} (h : Below B w w') (k : Below w'.heap.size w' w'') (hB : B ≤ w'.heap.size) : Below B w w'' := h.trans (k.mono hB)
end

theorem addr_add (b o i : Nat) : (⟨b, o, none⟩ : Addr).add i = ⟨b, o + i, none⟩ := by
  unfold Addr.add; split
  · simp [*]
  · rfl

/-- copy(dst, src): dst lies in a row that is known, src is read. -/
theorem run_copyR {P : Program} {w : World} {dT sT ty elem : TypeId} {g off dLen dCap sLen sCap n : Nat} {A : Option Addr} {f h : Nat → Value}
    (hu : P.underlying dT = some (.slice elem)) (hs : (P.info? elem).map (·.size) = some 1) (hR : Row w g n f) (hS : Rd w A sLen h) (h1 : ∀ i, (h i).oneCell' = true) (hfit : off + min sLen dLen ≤ n) :
    ∃ w', (Builtin.copy_ #[dT, sT] ty #[.slice (some ⟨g, off, none⟩) dLen dCap, .slice A sLen sCap]).run P w = .ok (goInt ((min sLen dLen : Nat) : Int)) w' ∧
      Row w' g n (fun i => if off ≤ i ∧ i < off + min sLen dLen then h (i - off) else f i) ∧ Oth g w w' := by
  by_cases h0 : min sLen dLen = 0
  · refine ⟨w, ?_, hR.congr (fun i hi => by rw [if_neg (by omega)]), Oth.refl _ _⟩
    have := run_copy_none (P := P) w dT sT ty elem (some ⟨g, off, none⟩) A dLen dCap sLen sCap hu hs h0
    rw [h0]; exact this
  · obtain ⟨b, o, rfl, hc⟩ := hS (by omega)
    obtain ⟨c, t, hg, hn, hcell⟩ := hR
    have hlen : ((List.range (min sLen dLen)).map h).length = min sLen dLen := by simp
    have hrun := run_copy_row (P := P) w dT sT ty elem g off dLen dCap ⟨b, o, none⟩ sLen sCap c t ((List.range (min sLen dLen)).map h) hu hs hg (by rw [hlen]) (fun j v hj => by
      have hjl : j < min sLen dLen := by
        rcases Nat.lt_or_ge j (min sLen dLen) with hlt | hge
        · exact hlt
        · rw [List.getElem?_eq_none (by rw [hlen]; exact hge)] at hj; cases hj
      rw [List.getElem?_map, List.getElem?_range hjl] at hj
      simp only [Option.map_some, Option.some.injEq] at hj
      rw [addr_add, hc j (by omega), hj]) (by rw [hlen]; omega) (by intro v hv; obtain ⟨i, _, rfl⟩ := List.mem_map.1 hv; exact h1 i)
    rw [hlen] at hrun
    refine ⟨_, hrun, ⟨_, t, setRow_heap w g _ _ t _ hg, by simp; omega, fun i hi => ?_⟩, ?_⟩
    · simp only [List.getElem?_toArray]
      by_cases ha : i < off
      · rw [if_neg (by omega), List.append_assoc, List.getElem?_append_left (by simp; omega), List.getElem?_take_of_lt ha, Array.getElem?_toList]
        exact hcell i hi
      · by_cases hb : i < off + min sLen dLen
        · rw [if_pos (by omega), List.append_assoc, List.getElem?_append_right (by simp; omega)]
          have e : (c.toList.take off).length = off := by simp; omega
          rw [e, List.getElem?_append_left (by rw [hlen]; omega), List.getElem?_map, List.getElem?_range (by omega)]
          rfl
        · rw [if_neg (by omega), List.getElem?_append_right (by simp; omega)]
          have e : (c.toList.take off ++ (List.range (min sLen dLen)).map h).length = off + min sLen dLen := by simp; omega
          rw [e, List.getElem?_drop, show off + min sLen dLen + (i - (off + min sLen dLen)) = i by omega, Array.getElem?_toList]
          exact hcell i hi
    · exact ⟨rfl, rfl, rfl, by simp [World.setRow], fun k hk hne => setRow_other w g k _ hne⟩

theorem wpList_copyR {P : Program} {w : World} {ops : Array Oper} {rest : List Oper} {o : Oper} {a : Act} {Q : Exit → Act → World → Prop} (hgd : o.guard = none) (d s : Operand) {dT sT : TypeId}
    (ho : o.op = .call { callee := .builtin .copy, args := #[d, s], argTypes := #[dT, sT] }) {elem : TypeId} (hu : P.underlying dT = some (.slice elem)) (hsz : (P.info? elem).map (·.size) = some 1)
    {g off dLen dCap sLen sCap n : Nat} {A : Option Addr} {f h : Nat → Value} (hd : a.eval d = .slice (some ⟨g, off, none⟩) dLen dCap) (hs : a.eval s = .slice A sLen sCap)
    (hR : Row w g n f) (hS : Rd w A sLen h) (h1 : ∀ i, (h i).oneCell' = true) (hfit : off + min sLen dLen ≤ n)
    (hK : ∀ w', Row w' g n (fun i => if off ≤ i ∧ i < off + min sLen dLen then h (i - off) else f i) → Oth g w w' → wpList P ops Q rest (a.put o.dst (goInt ((min sLen dLen : Nat) : Int))) w') :
    wpList P ops Q (o :: rest) a w := by
  refine wpList_plain hgd fun K hK' => ?_
  obtain ⟨w', hrun, hR', ho'⟩ := run_copyR (P := P) (ty := o.type) (sT := sT) (dCap := dCap) (sCap := sCap) hu hsz hR hS h1 hfit
  unfold Oper.wp
  simp [execOp, ho, resolve, invoke, builtin, hd, hs, hrun, Result.andThen]
  exact hK' _ _ (hK w' hR' ho')

/-- The cells of bytes. -/
def by8 (g : Nat → Int) : Nat → Value := fun i => .int .u8 (g i)
theorem by8_at (g : Nat → Int) (i : Nat) : by8 g i = .int .u8 (g i) := rfl
/-- All bytes of g fit. -/
def Byt (g : Nat → Int) : Prop := ∀ i, 0 ≤ g i ∧ g i ≤ 255
/-- The cells of ints. -/
def in64 (g : Nat → Int) : Nat → Value := fun i => .int .i64 (g i)


/-- The text of n bytes. -/
def strOf (n : Nat) (g : Nat → Int) : ByteArray := strOfNums ((List.range n).map g)
theorem strOf_eq {n m : Nat} {g h : Nat → Int} (hg : Byt g) (hh : Byt h) : strOf n g = strOf m h ↔ (n = m ∧ ∀ i, i < n → g i = h i) := by
  constructor
  · intro e
    have hs : n = m := by
      have := congrArg ByteArray.size e
      simpa [strOf, strOfNums_size] using this
    subst hs
    refine ⟨rfl, fun i hi => ?_⟩
    have e1 := congrArg (fun b : ByteArray => b.data.toList[i]?) e
    simp only [strOf, strOfNums_data, List.getElem?_map, List.getElem?_range hi, Option.map_some, Option.some.injEq] at e1
    have e2 := congrArg UInt8.toNat e1
    have b1 := hg i
    have b2 := hh i
    simp only [UInt8.toNat_ofNat'] at e2
    omega
  · rintro ⟨rfl, h⟩
    unfold strOf
    rw [List.map_congr_left (fun i hi => h i (List.mem_range.1 hi))]
theorem conv_u8 {P : Program} {w : World} {src dst e : TypeId} {A : Option Addr} {n c : Nat} {g : Nat → Int} (hs : P.underlying src = some (.slice e)) (he : P.underlying e = some (.int .u8)) (hd : P.underlying dst = some .string)
    (hR : Rd w A n (by8 g)) : (convert src dst (.slice A n c)).run P w = .ok (.string (strOf n g)) w := by
  rcases Nat.eq_zero_or_pos n with h0 | h0
  · subst h0
    cases A with
    | none => rw [run_convert_bytes_nil w src e hs he 0 c dst hd]; rfl
    | some a =>
      rw [run_convert_bytes_string w src dst e _ 0 c hs he hd, run_bytesToString w a 0 c [] (by simpa using run_loadCells_list (P := P) w a [] (by simp))]
      rfl
  · obtain ⟨b, off, rfl, hc⟩ := hR h0
    exact run_convert_bytes_arg w src e hs he b off n c ((List.range n).map g) (by simp) (fun i hi => by rw [hc i hi]; simp [by8, List.getD, List.getElem?_range hi]) dst hd
/-- A number of kind int. -/
def I64 (x : Int) : Prop := -9223372036854775808 ≤ x ∧ x ≤ 9223372036854775807
/-- A plane's numbers. -/
structure PlV where
  a : Int
  b : Int
  A : Option Addr
  n : Nat
  c : Nat
  g : Nat → Int
structure PlV.Ok (w : World) (p : PlV) : Prop where
  ia : I64 p.a
  ib : I64 p.b
  rd : Rd w p.A p.n (by8 p.g)
  byt : Byt p.g
  le : p.n ≤ p.c
  cap : p.c ≤ 9223372036854775807
end Go.Kin
