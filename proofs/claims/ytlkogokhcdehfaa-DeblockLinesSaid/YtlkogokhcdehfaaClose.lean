/- From the walk of a law to its row: arguments opened into cells, and the row's own post paid by 'it returned true and turned nothing that was there'. -/
import Derived.Test.YtlkogokhcdehfaaRows
import Derived.Test.YtlkogokhcdehfaaCom
import Derived.ProofKit
import Derived.OpenShut
import Derived.ShutString
import Derived.ChangeOld
import Derived.Deep.Strs
import Derived.Lib.SmallJoins
namespace Go.Kin
open Go.ChangeShapes Go.WideShapes Go.ChangeAt Go.RowKit Go.Joins

section
variable {H : Type} {enc : TypeId × Value → H} {P : Program} {w : World} {base : Nat} {spare : Nat → Bool} {held : Bool}

theorem trod_bytes {t e : TypeId} {fuel : Nat} {cs : List Value} {x : DataW H × List MemPlace} (ht : P.underlying t = some (.slice e)) (he : P.underlying e = some (.int .u8)) (hc : P.cellsOf e = 1)
    (h : DataW.trod enc P w base spare held fuel t cs = some x) : ∃ (A : Option Addr) (n c : Nat) (g : Nat → Int), cs = [.slice A n c] ∧ Rd w A n (by8 g) ∧ Byt g ∧ n ≤ c ∧ c ≤ 9223372036854775807 := by
  rcases open_ints ht he hc h with ⟨rfl, _⟩ | ⟨a, l, c, zs, rfl, _, hl, hm, hz, _, hcell, hwz⟩
  · exact ⟨none, 0, 0, fun _ => 0, rfl, Rd.none_ _ _ _, fun _ => by show (0 : Int) ≤ 0 ∧ (0 : Int) ≤ 255; omega, by omega, by omega⟩
  · have hzl : l ≤ zs.length := by rw [hz]; split <;> omega
    refine ⟨some a, l, c, fun i => zs.getD i 0, rfl, fun hn => ?_, fun i => ?_, hl, by unfold maxLen at hm; exact hm⟩
    · obtain ⟨b, off, spot⟩ := a
      have h0 := hcell 0 (by omega)
      have hs : spot = none := by simpa [Addr.add] using World.cell?_spot h0
      subst hs
      exact ⟨b, off, rfl, fun i hi => by have := hcell i (by omega); rw [addr_add] at this; exact this⟩
    · show 0 ≤ zs.getD i 0 ∧ zs.getD i 0 ≤ 255
      rcases Nat.lt_or_ge i zs.length with hlt | hge
      · have : zs.getD i 0 ∈ zs := by rw [List.getD_eq_getElem?_getD, List.getElem?_eq_getElem hlt]; exact List.getElem_mem hlt
        exact bounds_u8 (hwz _ this)
      · rw [List.getD_eq_getElem?_getD, List.getElem?_eq_none hge]
        show (0 : Int) ≤ 0 ∧ (0 : Int) ≤ 255
        omega

/-- A slice of ints. -/
theorem trod_ints {t e : TypeId} {fuel : Nat} {cs : List Value} {x : DataW H × List MemPlace} (ht : P.underlying t = some (.slice e)) (he : P.underlying e = some (.int .i64)) (hc : P.cellsOf e = 1)
    (h : DataW.trod enc P w base spare held fuel t cs = some x) : ∃ (A : Option Addr) (n c : Nat) (g : Nat → Int), cs = [.slice A n c] ∧ Rd w A n (in64 g) ∧ (∀ i, -9223372036854775808 ≤ g i ∧ g i ≤ 9223372036854775807) ∧ n ≤ c ∧ c ≤ 9223372036854775807 := by
  rcases open_ints ht he hc h with ⟨rfl, _⟩ | ⟨a, l, c, zs, rfl, _, hl, hm, hz, _, hcell, hwz⟩
  · exact ⟨none, 0, 0, fun _ => 0, rfl, Rd.none_ _ _ _, fun _ => by show (-9223372036854775808 : Int) ≤ 0 ∧ (0 : Int) ≤ 9223372036854775807; omega, by omega, by omega⟩
  · have hzl : l ≤ zs.length := by rw [hz]; split <;> omega
    refine ⟨some a, l, c, fun i => zs.getD i 0, rfl, fun hn => ?_, fun i => ?_, hl, by unfold maxLen at hm; exact hm⟩
    · obtain ⟨b, off, spot⟩ := a
      have h0 := hcell 0 (by omega)
      have hs : spot = none := by simpa [Addr.add] using World.cell?_spot h0
      subst hs
      exact ⟨b, off, rfl, fun i hi => by have := hcell i (by omega); rw [addr_add] at this; exact this⟩
    · show -9223372036854775808 ≤ zs.getD i 0 ∧ zs.getD i 0 ≤ 9223372036854775807
      rcases Nat.lt_or_ge i zs.length with hlt | hge
      · have : zs.getD i 0 ∈ zs := by rw [List.getD_eq_getElem?_getD, List.getElem?_eq_getElem hlt]; exact List.getElem_mem hlt
        exact bounds_i64 (hwz _ this)
      · rw [List.getD_eq_getElem?_getD, List.getElem?_eq_none hge]
        show (-9223372036854775808 : Int) ≤ 0 ∧ (0 : Int) ≤ 9223372036854775807
        omega

theorem okWide_array {r : Reach} {t e : TypeId} {n : Nat} {v : Value} (ht : P.underlying t = some (.array n e)) (h : Value.okWide P w r base t v) : ∃ cs, v = .agg cs ∧ cs.size = P.cellsOf t := by
  simp only [Value.okWide, ht] at h
  obtain ⟨cs, h1, h2, _⟩ := h
  exact ⟨cs, h1, h2⟩

theorem trodAll_below (hl : laidOutB P = true) {W W' : World} (hb : Below W.heap.size W W') : ∀ {ts : List TypeId} {vs : List Value} {ds : List (DataW H)} {ps : List MemPlace},
    (ts.all fun t => P.readableRec t && decide (t < P.types.size)) = true → DataW.TrodAll enc P W 0 (fun _ => true) true ts vs ds ps → (∀ x ∈ ps, x.block < W.heap.size) →
    DataW.TrodAll enc P W' 0 (fun b => decide (b < W.heap.size)) true ts vs ds ps
  | [], vs, ds, ps, _, h, _ => by
    obtain ⟨rfl, rfl, rfl⟩ := trodAll_nil h
    exact trodAll_mk0
  | t :: ts, vs, ds, ps, ht, h, hlt => by
    obtain ⟨v, vs', d, ds', p, q, rfl, rfl, rfl, h0, hr⟩ := trodAll_cons h
    simp only [List.all_cons, Bool.and_eq_true, decide_eq_true_eq] at ht
    exact trodAll_cons_mk (Below.trod hl ht.1.1 ht.1.2 h0 hb fun x hx => hlt x (List.mem_append_left _ hx)) (trodAll_below hl hb (by simpa using ht.2) hr fun x hx => hlt x (List.mem_append_right _ hx))

/-- A law's post: it returned true, and nothing that was there has turned. -/
theorem law_post {s : ChangeSpec} {f : Func} {F : FuncId} {W : World} {args : Array Value} {ds gs : List (DataW H)} {before : List MemPlace} {tb : TypeId} (hl : laidOutB P = true)
    (hts : (f.params.toList.all fun t => P.readableRec t && decide (t < P.types.size)) = true) (hres : f.resultTypes = #[tb]) (hb : P.underlying tb = some .bool) (hvars : s.vars = [])
    (hfn : ∀ ds' : List (DataW H), ds'.length = f.params.size → (s.fn H (ds' ++ [])).results = [.lit (.bool true)] ∧ (s.fn H (ds' ++ [])).args = ds' ∧ (s.fn H (ds' ++ [])).vars = [])
    (hW : DataW.Whole enc P f.params.toList s.vars false W args.toList ds gs before)
    (h : Calls P F args W fun e W' => e = .returned (.bool true) ∧ Below W.heap.size W W') :
    Calls P F args W fun e W' => ∃ v, e = .returned v ∧ s.post enc P f false true false false W args v W' := by
  refine h.mono fun e W' ⟨he, bel⟩ => ⟨_, he, ?_⟩
  have hW' := hW
  obtain ⟨p, q, hA, hV, rfl, hfz, hnd⟩ := hW
  have hlt : ∀ x ∈ p, x.block < W.heap.size := fun x hx => hW'.lt x (List.mem_append_left _ hx)
  rw [hvars] at hV
  obtain ⟨rfl, rfl⟩ := trodVars_none hV
  have hlen : ds.length = f.params.size := by
    have : ∀ (ts : List TypeId) (vs : List Value) (ds : List (DataW H)) (ps : List MemPlace), DataW.TrodAll enc P W 0 (fun _ => true) true ts vs ds ps → ds.length = ts.length := by
      intro ts
      induction ts with
      | nil => intro vs ds ps h; obtain ⟨_, rfl, _⟩ := trodAll_nil h; rfl
      | cons t ts ih => intro vs ds ps h; obtain ⟨_, _, _, _, _, _, _, rfl, _, _, hr⟩ := trodAll_cons h; simp [ih _ _ _ hr]
    simpa using this _ _ _ _ hA
  obtain ⟨e1, e2, e3⟩ := hfn ds hlen
  refine ⟨ds, [], _, [], p, [], hW', ?_, ?_, ?_, bel.frame _, fun h => by cases h⟩
  · rw [e1, hres]
    exact trodAll_mk1 (shut_bool hb _)
  · rw [e2]
    exact trodAll_below hl bel hts hA hlt
  · rw [e3, hvars]
    rfl
end
end Go.Kin
namespace Go.Proofs.Ytlkogokhcdehfaa
open Go.ChangeShapes Go.WideShapes Go.ChangeAt Go.RowKit Go.Joins Go.Kin
theorem own : ownKnob Try.prog.godebug = none := by kernel_rfl
theorem laidOut : laidOutB Try.prog = true := by kernel_rfl

section
variable {H : Type} {enc : TypeId × Value → H} {w : World} {base : Nat} {spare : Nat → Bool} {held : Bool} {b0 : Nat} {v : Value} {d : DataW H} {p : List MemPlace}
theorem open_arr4_u8 (hv : Value.okWide Try.prog w .any b0 22 v) (h : DataW.Trod enc Try.prog w base spare held 22 v d p) :
    ∃ x0 x1 x2 x3 : Int, v = .agg #[.int .u8 x0, .int .u8 x1, .int .u8 x2, .int .u8 x3] ∧ (0 ≤ x0 ∧ x0 ≤ 255) ∧ (0 ≤ x1 ∧ x1 ≤ 255) ∧ (0 ≤ x2 ∧ x2 ≤ 255) ∧ (0 ≤ x3 ∧ x3 ≤ 255) := by
  obtain ⟨cs, rfl, hsz⟩ := okWide_array Try.underlying22 hv
  obtain ⟨c0, c1, c2, c3, rfl⟩ := array4 (hsz.trans (by kernel_rfl : Try.prog.cellsOf 22 = 4))
  obtain ⟨fuel, hf⟩ := h
  obtain ⟨xs, m, _, _, _, hlen, hg⟩ := DataW.trod_array Try.underlying22 hf
  have hc : Try.prog.cellsOf 5 = 1 := by kernel_rfl
  match xs, hlen with
  | [y0, y1, y2, y3], _ =>
    obtain ⟨x0, e0, _, w0⟩ := DataW.trod_int Try.underlying5 (by simpa [hc, Value.cells] using hg 0 (by omega))
    obtain ⟨x1, e1, _, w1⟩ := DataW.trod_int Try.underlying5 (by simpa [hc, Value.cells] using hg 1 (by omega))
    obtain ⟨x2, e2, _, w2⟩ := DataW.trod_int Try.underlying5 (by simpa [hc, Value.cells] using hg 2 (by omega))
    obtain ⟨x3, e3, _, w3⟩ := DataW.trod_int Try.underlying5 (by simpa [hc, Value.cells] using hg 3 (by omega))
    simp at e0 e1 e2 e3
    subst e0 e1 e2 e3
    exact ⟨x0, x1, x2, x3, rfl, bounds_u8 w0, bounds_u8 w1, bounds_u8 w2, bounds_u8 w3⟩
end
end Go.Proofs.Ytlkogokhcdehfaa
