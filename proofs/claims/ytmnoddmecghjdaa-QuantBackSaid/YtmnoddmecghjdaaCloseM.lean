/- From the walk of a law to its row: arguments opened into cells, and the row's own post paid by 'it returned true and turned nothing that was there'. -/
import Derived.Test.YtmnoddmecghjdaaRows
import Derived.Test.YtmnoddmecghjdaaCom
import Derived.ProofKit
import Derived.OpenShut
import Derived.ShutString
import Derived.ChangeOld
import Derived.Deep.Strs
import Derived.Lib.SmallJoins
namespace Go.Kin
open Go.ChangeShapes Go.WideShapes Go.ChangeAt Go.RowKit Go.Joins Go.Deep

section
variable {H : Type} {enc : TypeId × Value → H} {P : Program} {w : World} {base : Nat} {spare : Nat → Bool} {held : Bool}

theorem trod_bytes {t e : TypeId} {fuel : Nat} {cs : List Value} {x : DataW H × List MemPlace} (ht : P.underlying t = some (.slice e)) (he : P.underlying e = some (.int .u8)) (hc : P.cellsOf e = 1)
    (h : DataW.trod enc P w base spare held fuel t cs = some x) : ∃ (A : Option Addr) (n c : Nat) (g : Nat → Int), cs = [.slice A n c] ∧ Rd w A n (by8 g) ∧ Byt g ∧ n ≤ c ∧ c ≤ 9223372036854775807 := by
  rcases open_ints ht he hc h with ⟨rfl, _⟩ | ⟨a, l, c, zs, rfl, _, hl, hm, hz, _, hcell, hwz⟩
  · exact ⟨none, 0, 0, fun _ => 0, rfl, Rd.none_ _ _ _, fun _ => by show (0 : Int) ≤ 0 ∧ (0 : Int) ≤ 255; omega, by omega, by omega⟩
  · have hzl : l ≤ zs.length := by rw [hz]; split <;> omega
    refine ⟨some a, l, c, fun i => zs.getD i 0, rfl, fun hn => ?_, fun i => ?_, hl, by unfold maxLen at hm; exact hm⟩
    · obtain ⟨b, off, spot⟩ := a
      have h0 := hcell 0 (by omega)
      have hs : spot = none := by simpa [Addr.add] using World.cell?_spot h0
      subst hs
      exact ⟨b, off, rfl, fun i hi => by have := hcell i (by omega); rw [addr_add] at this; exact this⟩
    · show 0 ≤ zs.getD i 0 ∧ zs.getD i 0 ≤ 255
      rcases Nat.lt_or_ge i zs.length with hlt | hge
      · have : zs.getD i 0 ∈ zs := by rw [List.getD_eq_getElem?_getD, List.getElem?_eq_getElem hlt]; exact List.getElem_mem hlt
        exact bounds_u8 (hwz _ this)
      · rw [List.getD_eq_getElem?_getD, List.getElem?_eq_none hge]
        show (0 : Int) ≤ 0 ∧ (0 : Int) ≤ 255
        omega

/-- A slice of ints. -/
theorem trod_ints {t e : TypeId} {fuel : Nat} {cs : List Value} {x : DataW H × List MemPlace} (ht : P.underlying t = some (.slice e)) (he : P.underlying e = some (.int .i64)) (hc : P.cellsOf e = 1)
    (h : DataW.trod enc P w base spare held fuel t cs = some x) : ∃ (A : Option Addr) (n c : Nat) (g : Nat → Int), cs = [.slice A n c] ∧ Rd w A n (in64 g) ∧ (∀ i, -9223372036854775808 ≤ g i ∧ g i ≤ 9223372036854775807) ∧ n ≤ c ∧ c ≤ 9223372036854775807 := by
  rcases open_ints ht he hc h with ⟨rfl, _⟩ | ⟨a, l, c, zs, rfl, _, hl, hm, hz, _, hcell, hwz⟩
  · exact ⟨none, 0, 0, fun _ => 0, rfl, Rd.none_ _ _ _, fun _ => by show (-9223372036854775808 : Int) ≤ 0 ∧ (0 : Int) ≤ 9223372036854775807; omega, by omega, by omega⟩
  · have hzl : l ≤ zs.length := by rw [hz]; split <;> omega
    refine ⟨some a, l, c, fun i => zs.getD i 0, rfl, fun hn => ?_, fun i => ?_, hl, by unfold maxLen at hm; exact hm⟩
    · obtain ⟨b, off, spot⟩ := a
      have h0 := hcell 0 (by omega)
      have hs : spot = none := by simpa [Addr.add] using World.cell?_spot h0
      subst hs
      exact ⟨b, off, rfl, fun i hi => by have := hcell i (by omega); rw [addr_add] at this; exact this⟩
    · show -9223372036854775808 ≤ zs.getD i 0 ∧ zs.getD i 0 ≤ 9223372036854775807
      rcases Nat.lt_or_ge i zs.length with hlt | hge
      · have : zs.getD i 0 ∈ zs := by rw [List.getD_eq_getElem?_getD, List.getElem?_eq_getElem hlt]; exact List.getElem_mem hlt
        exact bounds_i64 (hwz _ this)
      · rw [List.getD_eq_getElem?_getD, List.getElem?_eq_none hge]
        show (-9223372036854775808 : Int) ≤ 0 ∧ (0 : Int) ≤ 9223372036854775807
        omega

theorem okWide_array {r : Reach} {t e : TypeId} {n : Nat} {v : Value} (ht : P.underlying t = some (.array n e)) (h : Value.okWide P w r base t v) : ∃ cs, v = .agg cs ∧ cs.size = P.cellsOf t := by
  simp only [Value.okWide, ht] at h
  obtain ⟨cs, h1, h2, _⟩ := h
  exact ⟨cs, h1, h2⟩

theorem open_arr4_u8 {t e : TypeId} {b0 : Nat} {v : Value} {d : DataW H} {p : List MemPlace} (ht : P.underlying t = some (.array 4 e)) (he : P.underlying e = some (.int .u8)) (hct : P.cellsOf t = 4) (hc : P.cellsOf e = 1)
    (hv : Value.okWide P w .any b0 t v) (h : DataW.Trod enc P w base spare held t v d p) :
    ∃ x0 x1 x2 x3 : Int, v = .agg #[.int .u8 x0, .int .u8 x1, .int .u8 x2, .int .u8 x3] ∧ (0 ≤ x0 ∧ x0 ≤ 255) ∧ (0 ≤ x1 ∧ x1 ≤ 255) ∧ (0 ≤ x2 ∧ x2 ≤ 255) ∧ (0 ≤ x3 ∧ x3 ≤ 255) := by
  obtain ⟨cs, rfl, hsz⟩ := okWide_array ht hv
  obtain ⟨c0, c1, c2, c3, rfl⟩ := array4 (hsz.trans hct)
  obtain ⟨fuel, hf⟩ := h
  obtain ⟨xs, m, _, _, _, hlen, hg⟩ := DataW.trod_array ht hf
  match xs, hlen with
  | [y0, y1, y2, y3], _ =>
    obtain ⟨x0, e0, _, w0⟩ := DataW.trod_int he (by simpa [hc, Value.cells] using hg 0 (by omega))
    obtain ⟨x1, e1, _, w1⟩ := DataW.trod_int he (by simpa [hc, Value.cells] using hg 1 (by omega))
    obtain ⟨x2, e2, _, w2⟩ := DataW.trod_int he (by simpa [hc, Value.cells] using hg 2 (by omega))
    obtain ⟨x3, e3, _, w3⟩ := DataW.trod_int he (by simpa [hc, Value.cells] using hg 3 (by omega))
    simp at e0 e1 e2 e3
    subst e0 e1 e2 e3
    exact ⟨x0, x1, x2, x3, rfl, bounds_u8 w0, bounds_u8 w1, bounds_u8 w2, bounds_u8 w3⟩
theorem array2' {α : Type} {cs : Array α} (h : cs.size = 2) : ∃ c0 c1, cs = #[c0, c1] := by
  obtain ⟨l⟩ := cs
  match l, h with
  | [c0, c1], _ => exact ⟨c0, c1, rfl⟩
theorem array3' {α : Type} {cs : Array α} (h : cs.size = 3) : ∃ c0 c1 c2, cs = #[c0, c1, c2] := by
  obtain ⟨l⟩ := cs
  match l, h with
  | [c0, c1, c2], _ => exact ⟨c0, c1, c2, rfl⟩
theorem array9' {α : Type} {cs : Array α} (h : cs.size = 9) : ∃ c0 c1 c2 c3 c4 c5 c6 c7 c8, cs = #[c0, c1, c2, c3, c4, c5, c6, c7, c8] := by
  obtain ⟨l⟩ := cs
  match l, h with
  | [c0, c1, c2, c3, c4, c5, c6, c7, c8], _ => exact ⟨c0, c1, c2, c3, c4, c5, c6, c7, c8, rfl⟩
theorem open_arr2 {t e : TypeId} {b0 : Nat} {v : Value} {d : DataW H} {p : List MemPlace} (ht : P.underlying t = some (.array 2 e)) (he : P.underlying e = some (.int .i64)) (hct : P.cellsOf t = 2) (hc : P.cellsOf e = 1)
    (hv : Value.okWide P w .any b0 t v) (h : DataW.Trod enc P w base spare held t v d p) : ∃ x0 x1 : Int, v = .agg #[.int .i64 x0, .int .i64 x1] ∧ I64 x0 ∧ I64 x1 := by
  obtain ⟨cs, rfl, hsz⟩ := okWide_array ht hv
  obtain ⟨c0, c1, rfl⟩ := array2' (hsz.trans hct)
  obtain ⟨fuel, hf⟩ := h
  obtain ⟨xs, m, _, _, _, hlen, hg⟩ := DataW.trod_array ht hf
  match xs, hlen with
  | [y0, y1], _ =>
    obtain ⟨x0, e0, _, w0⟩ := DataW.trod_int he (by simpa [hc, Value.cells] using hg 0 (by omega))
    obtain ⟨x1, e1, _, w1⟩ := DataW.trod_int he (by simpa [hc, Value.cells] using hg 1 (by omega))
    simp at e0 e1
    subst e0 e1
    exact ⟨x0, x1, rfl, bounds_i64 w0, bounds_i64 w1⟩
theorem open_arr3 {t e : TypeId} {b0 : Nat} {v : Value} {d : DataW H} {p : List MemPlace} (ht : P.underlying t = some (.array 3 e)) (he : P.underlying e = some (.int .i64)) (hct : P.cellsOf t = 3) (hc : P.cellsOf e = 1)
    (hv : Value.okWide P w .any b0 t v) (h : DataW.Trod enc P w base spare held t v d p) : ∃ x0 x1 x2 : Int, v = .agg #[.int .i64 x0, .int .i64 x1, .int .i64 x2] ∧ I64 x0 ∧ I64 x1 ∧ I64 x2 := by
  obtain ⟨cs, rfl, hsz⟩ := okWide_array ht hv
  obtain ⟨c0, c1, c2, rfl⟩ := array3' (hsz.trans hct)
  obtain ⟨fuel, hf⟩ := h
  obtain ⟨xs, m, _, _, _, hlen, hg⟩ := DataW.trod_array ht hf
  match xs, hlen with
  | [y0, y1, y2], _ =>
    obtain ⟨x0, e0, _, w0⟩ := DataW.trod_int he (by simpa [hc, Value.cells] using hg 0 (by omega))
    obtain ⟨x1, e1, _, w1⟩ := DataW.trod_int he (by simpa [hc, Value.cells] using hg 1 (by omega))
    obtain ⟨x2, e2, _, w2⟩ := DataW.trod_int he (by simpa [hc, Value.cells] using hg 2 (by omega))
    simp at e0 e1 e2
    subst e0 e1 e2
    exact ⟨x0, x1, x2, rfl, bounds_i64 w0, bounds_i64 w1, bounds_i64 w2⟩
theorem open_bytes {t e : TypeId} {b0 : Nat} {v : Value} {d : DataW H} {p : List MemPlace} (ht : P.underlying t = some (.slice e)) (he : P.underlying e = some (.int .u8)) (hc : P.cellsOf e = 1)
    (hv : Value.okWide P w .any b0 t v) (h : DataW.Trod enc P w base spare held t v d p) : ∃ (A : Option Addr) (n c : Nat) (g : Nat → Int), v = .slice A n c ∧ Rd w A n (by8 g) ∧ Byt g ∧ n ≤ c ∧ c ≤ 9223372036854775807 := by
  obtain ⟨a0, l0, c0, rfl⟩ := okWide_slice ht hv
  obtain ⟨fuel, hf⟩ := h
  obtain ⟨A, n, c, g, hcs, r⟩ := trod_bytes ht he hc hf
  simp [Value.cells] at hcs
  obtain ⟨rfl, rfl, rfl⟩ := hcs
  exact ⟨_, _, _, g, rfl, r⟩
theorem open_intsl {t e : TypeId} {b0 : Nat} {v : Value} {d : DataW H} {p : List MemPlace} (ht : P.underlying t = some (.slice e)) (he : P.underlying e = some (.int .i64)) (hc : P.cellsOf e = 1)
    (hv : Value.okWide P w .any b0 t v) (h : DataW.Trod enc P w base spare held t v d p) : ∃ (A : Option Addr) (n c : Nat) (g : Nat → Int), v = .slice A n c ∧ Rd w A n (in64 g) ∧ (∀ i, I64 (g i)) ∧ n ≤ c ∧ c ≤ 9223372036854775807 := by
  obtain ⟨a0, l0, c0, rfl⟩ := okWide_slice ht hv
  obtain ⟨fuel, hf⟩ := h
  obtain ⟨A, n, c, g, hcs, r⟩ := trod_ints ht he hc hf
  simp [Value.cells] at hcs
  obtain ⟨rfl, rfl, rfl⟩ := hcs
  exact ⟨_, _, _, g, rfl, r⟩
/-- What is known of a plane's cells. -/
def PlIn (w : World) (c0 c1 c2 : Value) (a b : Int) (A : Option Addr) (n c : Nat) (g : Nat → Int) : Prop :=
  c0 = .int .i64 a ∧ c1 = .int .i64 b ∧ c2 = .slice A n c ∧ I64 a ∧ I64 b ∧ Rd w A n (by8 g) ∧ Byt g ∧ n ≤ c ∧ c ≤ 9223372036854775807
theorem trod_plane {t ti ts e : TypeId} {f0 f1 f2 : Field} {fuel : Nat} {c0 c1 c2 : Value} {x : DataW H × List MemPlace} (ht : P.underlying t = some (.struct #[f0, f1, f2]))
    (h0 : f0.type = ti ∧ f0.offset = 0) (h1 : f1.type = ti ∧ f1.offset = 1) (h2 : f2.type = ts ∧ f2.offset = 2) (hi : P.underlying ti = some (.int .i64)) (hs : P.underlying ts = some (.slice e)) (he : P.underlying e = some (.int .u8)) (hci : P.cellsOf ti = 1) (hcs : P.cellsOf ts = 1) (hce : P.cellsOf e = 1)
    (h : DataW.trod enc P w base spare held fuel t [c0, c1, c2] = some x) : ∃ a b A n c g, PlIn w c0 c1 c2 a b A n c g := by
  obtain ⟨y0, y1, y2, n, _, _, r0, r1, r2⟩ := trod_struct3 ht h
  rw [h0.1, h0.2, hci] at r0
  rw [h1.1, h1.2, hci] at r1
  rw [h2.1, h2.2, hcs] at r2
  obtain ⟨a, e0, _, w0⟩ := DataW.trod_int hi r0
  obtain ⟨b, e1, _, w1⟩ := DataW.trod_int hi r1
  obtain ⟨A, n, c, g, e2, r⟩ := trod_bytes hs he hce r2
  simp at e0 e1 e2
  exact ⟨a, b, A, n, c, g, e0, e1, e2, bounds_i64 w0, bounds_i64 w1, r⟩
theorem open_plane {t ti ts e : TypeId} {f0 f1 f2 : Field} {b0 : Nat} {v : Value} {d : DataW H} {p : List MemPlace} (ht : P.underlying t = some (.struct #[f0, f1, f2])) (hct : P.cellsOf t = 3)
    (h0 : f0.type = ti ∧ f0.offset = 0) (h1 : f1.type = ti ∧ f1.offset = 1) (h2 : f2.type = ts ∧ f2.offset = 2) (hi : P.underlying ti = some (.int .i64)) (hs : P.underlying ts = some (.slice e)) (he : P.underlying e = some (.int .u8)) (hci : P.cellsOf ti = 1) (hcs : P.cellsOf ts = 1) (hce : P.cellsOf e = 1)
    (hv : Value.okWide P w .any b0 t v) (h : DataW.Trod enc P w base spare held t v d p) :
    ∃ (a b : Int) (A : Option Addr) (n c : Nat) (g : Nat → Int), v = .agg #[.int .i64 a, .int .i64 b, .slice A n c] ∧ I64 a ∧ I64 b ∧ Rd w A n (by8 g) ∧ Byt g ∧ n ≤ c ∧ c ≤ 9223372036854775807 := by
  obtain ⟨cs, rfl, hsz⟩ := okWide_struct ht hv
  obtain ⟨c0, c1, c2, rfl⟩ := array3' (hsz.trans hct)
  obtain ⟨fuel, hf⟩ := h
  obtain ⟨a, b, A, n, c, g, rfl, rfl, rfl, r⟩ := trod_plane ht h0 h1 h2 hi hs he hci hcs hce (by simpa [Value.cells] using hf)
  exact ⟨a, b, A, n, c, g, rfl, r⟩
theorem open_frame {tf t ti ts e : TypeId} {k0 k1 k2 f0 f1 f2 : Field} {b0 : Nat} {v : Value} {d : DataW H} {p : List MemPlace} (htf : P.underlying tf = some (.struct #[k0, k1, k2])) (hcf : P.cellsOf tf = 9)
    (g0 : k0.type = t ∧ k0.offset = 0) (g1 : k1.type = t ∧ k1.offset = 3) (g2 : k2.type = t ∧ k2.offset = 6) (ht : P.underlying t = some (.struct #[f0, f1, f2])) (hct : P.cellsOf t = 3)
    (h0 : f0.type = ti ∧ f0.offset = 0) (h1 : f1.type = ti ∧ f1.offset = 1) (h2 : f2.type = ts ∧ f2.offset = 2) (hi : P.underlying ti = some (.int .i64)) (hs : P.underlying ts = some (.slice e)) (he : P.underlying e = some (.int .u8)) (hci : P.cellsOf ti = 1) (hcs : P.cellsOf ts = 1) (hce : P.cellsOf e = 1)
    (hv : Value.okWide P w .any b0 tf v) (h : DataW.Trod enc P w base spare held tf v d p) :
    ∃ y u x : PlV, v = .agg #[.int .i64 y.a, .int .i64 y.b, .slice y.A y.n y.c, .int .i64 u.a, .int .i64 u.b, .slice u.A u.n u.c, .int .i64 x.a, .int .i64 x.b, .slice x.A x.n x.c] ∧ y.Ok w ∧ u.Ok w ∧ x.Ok w := by
  obtain ⟨cs, rfl, hsz⟩ := okWide_struct htf hv
  obtain ⟨c0, c1, c2, c3, c4, c5, c6, c7, c8, rfl⟩ := array9' (hsz.trans hcf)
  obtain ⟨fuel, hf⟩ := h
  obtain ⟨y0, y1, y2, n, _, _, r0, r1, r2⟩ := trod_struct3 htf hf
  rw [g0.1, g0.2, hct] at r0
  rw [g1.1, g1.2, hct] at r1
  rw [g2.1, g2.2, hct] at r2
  obtain ⟨a, b, A, n, c, g, rfl, rfl, rfl, q1, q2, q3, q4, q5, q6⟩ := trod_plane ht h0 h1 h2 hi hs he hci hcs hce (by simpa [Value.cells] using r0)
  obtain ⟨a', b', A', n', c', g', rfl, rfl, rfl, s1, s2, s3, s4, s5, s6⟩ := trod_plane ht h0 h1 h2 hi hs he hci hcs hce (by simpa [Value.cells] using r1)
  obtain ⟨a'', b'', A'', n'', c'', g'', rfl, rfl, rfl, t1, t2, t3, t4, t5, t6⟩ := trod_plane ht h0 h1 h2 hi hs he hci hcs hce (by simpa [Value.cells] using r2)
  exact ⟨⟨a, b, A, n, c, g⟩, ⟨a', b', A', n', c', g'⟩, ⟨a'', b'', A'', n'', c'', g''⟩, rfl, ⟨q1, q2, q3, q4, q5, q6⟩, ⟨s1, s2, s3, s4, s5, s6⟩, ⟨t1, t2, t3, t4, t5, t6⟩⟩

theorem trodAll_below (hl : laidOutB P = true) {W W' : World} (hb : Below W.heap.size W W') : ∀ {ts : List TypeId} {vs : List Value} {ds : List (DataW H)} {ps : List MemPlace},
    (ts.all fun t => P.readableRec t && decide (t < P.types.size)) = true → DataW.TrodAll enc P W 0 (fun _ => true) true ts vs ds ps → (∀ x ∈ ps, x.block < W.heap.size) →
    DataW.TrodAll enc P W' 0 (fun b => decide (b < W.heap.size)) true ts vs ds ps
  | [], vs, ds, ps, _, h, _ => by
    obtain ⟨rfl, rfl, rfl⟩ := trodAll_nil h
    exact trodAll_mk0
  | t :: ts, vs, ds, ps, ht, h, hlt => by
    obtain ⟨v, vs', d, ds', p, q, rfl, rfl, rfl, h0, hr⟩ := trodAll_cons h
    simp only [List.all_cons, Bool.and_eq_true, decide_eq_true_eq] at ht
    exact trodAll_cons_mk (Below.trod hl ht.1.1 ht.1.2 h0 hb fun x hx => hlt x (List.mem_append_left _ hx)) (trodAll_below hl hb (by simpa using ht.2) hr fun x hx => hlt x (List.mem_append_right _ hx))

/-- A law's post: it returned true, and nothing that was there has turned. -/
theorem law_post {s : ChangeSpec} {f : Func} {F : FuncId} {W : World} {args : Array Value} {ds gs : List (DataW H)} {before : List MemPlace} {tb : TypeId} (hl : laidOutB P = true)
    (hts : (f.params.toList.all fun t => P.readableRec t && decide (t < P.types.size)) = true) (hres : f.resultTypes = #[tb]) (hb : P.underlying tb = some .bool) (hvars : s.vars = [])
    (hfn : ∀ ds' : List (DataW H), ds'.length = f.params.size → (s.fn H (ds' ++ [])).results = [.lit (.bool true)] ∧ (s.fn H (ds' ++ [])).args = ds' ∧ (s.fn H (ds' ++ [])).vars = [])
    (hW : DataW.Whole enc P f.params.toList s.vars false W args.toList ds gs before)
    (h : Calls P F args W fun e W' => e = .returned (.bool true) ∧ Below W.heap.size W W') :
    Calls P F args W fun e W' => ∃ v, e = .returned v ∧ s.post enc P f false true false false W args v W' := by
  refine h.mono fun e W' ⟨he, bel⟩ => ⟨_, he, ?_⟩
  have hW' := hW
  obtain ⟨p, q, hA, hV, rfl, hfz, hnd⟩ := hW
  have hlt : ∀ x ∈ p, x.block < W.heap.size := fun x hx => hW'.lt x (List.mem_append_left _ hx)
  rw [hvars] at hV
  obtain ⟨rfl, rfl⟩ := trodVars_none hV
  have hlen : ds.length = f.params.size := by
    have : ∀ (ts : List TypeId) (vs : List Value) (ds : List (DataW H)) (ps : List MemPlace), DataW.TrodAll enc P W 0 (fun _ => true) true ts vs ds ps → ds.length = ts.length := by
      intro ts
      induction ts with
      | nil => intro vs ds ps h; obtain ⟨_, rfl, _⟩ := trodAll_nil h; rfl
      | cons t ts ih => intro vs ds ps h; obtain ⟨_, _, _, _, _, _, _, rfl, _, _, hr⟩ := trodAll_cons h; simp [ih _ _ _ hr]
    simpa using this _ _ _ _ hA
  obtain ⟨e1, e2, e3⟩ := hfn ds hlen
  refine ⟨ds, [], _, [], p, [], hW', ?_, ?_, ?_, bel.frame _, fun h => by cases h⟩
  · rw [e1, hres]
    exact trodAll_mk1 (shut_bool hb _)
  · rw [e2]
    exact trodAll_below hl bel hts hA hlt
  · rw [e3, hvars]
    rfl
end
end Go.Kin
namespace Go.Proofs.Ytmnoddmecghjdaa
open Go.ChangeShapes Go.WideShapes Go.ChangeAt Go.RowKit Go.Joins Go.Kin
theorem own : ownKnob Try.prog.godebug = none := by kernel_rfl
theorem laidOut : laidOutB Try.prog = true := by kernel_rfl

end Go.Proofs.Ytmnoddmecghjdaa
/- Arguments opened into cells: an array of four numbers. -/
namespace Go.Kin
open Go.ChangeShapes Go.WideShapes Go.ChangeAt Go.RowKit Go.Joins Go.Deep
section
variable {H : Type} {enc : TypeId × Value → H} {P : Program} {w : World} {base : Nat} {spare : Nat → Bool} {held : Bool}
theorem array4' {α : Type} {cs : Array α} (h : cs.size = 4) : ∃ c0 c1 c2 c3, cs = #[c0, c1, c2, c3] := by
  obtain ⟨l⟩ := cs
  match l, h with
  | [c0, c1, c2, c3], _ => exact ⟨c0, c1, c2, c3, rfl⟩
theorem open_arr4 {t e : TypeId} {b0 : Nat} {v : Value} {d : DataW H} {p : List MemPlace} (ht : P.underlying t = some (.array 4 e)) (he : P.underlying e = some (.int .i64)) (hct : P.cellsOf t = 4) (hc : P.cellsOf e = 1)
    (hv : Value.okWide P w .any b0 t v) (h : DataW.Trod enc P w base spare held t v d p) : ∃ x0 x1 x2 x3 : Int, v = .agg #[.int .i64 x0, .int .i64 x1, .int .i64 x2, .int .i64 x3] ∧ I64 x0 ∧ I64 x1 ∧ I64 x2 ∧ I64 x3 := by
  obtain ⟨cs, rfl, hsz⟩ := okWide_array ht hv
  obtain ⟨c0, c1, c2, c3, rfl⟩ := array4' (hsz.trans hct)
  obtain ⟨fuel, hf⟩ := h
  obtain ⟨xs, m, _, _, _, hlen, hg⟩ := DataW.trod_array ht hf
  match xs, hlen with
  | [y0, y1, y2, y3], _ =>
    obtain ⟨x0, e0, _, w0⟩ := DataW.trod_int he (by simpa [hc, Value.cells] using hg 0 (by omega))
    obtain ⟨x1, e1, _, w1⟩ := DataW.trod_int he (by simpa [hc, Value.cells] using hg 1 (by omega))
    obtain ⟨x2, e2, _, w2⟩ := DataW.trod_int he (by simpa [hc, Value.cells] using hg 2 (by omega))
    obtain ⟨x3, e3, _, w3⟩ := DataW.trod_int he (by simpa [hc, Value.cells] using hg 3 (by omega))
    simp at e0 e1 e2 e3
    subst e0 e1 e2 e3
    exact ⟨x0, x1, x2, x3, rfl, bounds_i64 w0, bounds_i64 w1, bounds_i64 w2, bounds_i64 w3⟩
/-- A struct of two numbers. -/
theorem open_vec {t ti : TypeId} {f0 f1 : Field} {b0 : Nat} {v : Value} {d : DataW H} {p : List MemPlace} (ht : P.underlying t = some (.struct #[f0, f1])) (hct : P.cellsOf t = 2)
    (h0 : f0.type = ti ∧ f0.offset = 0) (h1 : f1.type = ti ∧ f1.offset = 1) (hi : P.underlying ti = some (.int .i64)) (hci : P.cellsOf ti = 1)
    (hv : Value.okWide P w .any b0 t v) (h : DataW.Trod enc P w base spare held t v d p) : ∃ x0 x1 : Int, v = .agg #[.int .i64 x0, .int .i64 x1] ∧ I64 x0 ∧ I64 x1 := by
  obtain ⟨cs, rfl, hsz⟩ := okWide_struct ht hv
  obtain ⟨c0, c1, rfl⟩ := array2' (hsz.trans hct)
  obtain ⟨fuel, hf⟩ := h
  obtain ⟨y0, y1, n, _, _, r0, r1⟩ := trod_struct2 ht (by simpa [Value.cells] using hf)
  rw [h0.1, h0.2, hci] at r0
  rw [h1.1, h1.2, hci] at r1
  obtain ⟨a, e0, _, w0⟩ := DataW.trod_int hi r0
  obtain ⟨b, e1, _, w1⟩ := DataW.trod_int hi r1
  simp at e0 e1
  subst e0 e1
  exact ⟨a, b, rfl, bounds_i64 w0, bounds_i64 w1⟩
end
end Go.Kin
