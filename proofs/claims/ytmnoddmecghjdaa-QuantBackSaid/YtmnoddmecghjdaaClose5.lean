/- Arguments opened into cells: a slice of slices of numbers. -/
import Derived.Test.YtmnoddmecghjdaaClose3
namespace Go.Kin
open Go.ChangeShapes Go.WideShapes Go.ChangeAt Go.RowKit Go.Joins Go.Deep
section
variable {P : Program} {H : Type} {enc : TypeId × Value → H} {w : World} {base : Nat} {spare : Nat → Bool} {held : Bool}
theorem open_intss {t e q : TypeId} {b0 : Nat} {v : Value} {d : DataW H} {p : List MemPlace} (ht : P.underlying t = some (.slice e)) (he : P.underlying e = some (.slice q)) (hce : P.cellsOf e = 1) (hq : P.underlying q = some (.int .i64)) (hcq : P.cellsOf q = 1)
    (hv : Value.okWide P w .any b0 t v) (h : DataW.Trod enc P w base spare held t v d p) : ∃ (A : Option Addr) (n c : Nat) (B : Nat → Option Addr) (L C : Nat → Nat) (G : Nat → Nat → Int), v = .slice A n c ∧ Rd w A n (fun i => .slice (B i) (L i) (C i)) ∧
      (∀ i, i < n → Rd w (B i) (L i) (in64 (G i)) ∧ L i ≤ C i ∧ C i ≤ 9223372036854775807) ∧ n ≤ c ∧ c ≤ 9223372036854775807 := by
  obtain ⟨a0, l0, c0, rfl⟩ := okWide_slice ht hv
  obtain ⟨fuel, hf⟩ := h
  rcases open_slice ht hf with ⟨hcs, _⟩ | ⟨a, len, cap, m, n, D, Pl, hcs, _, hl, hm, hmm, _, hx⟩
  · simp [Value.cells] at hcs
    obtain ⟨rfl, rfl, rfl⟩ := hcs
    exact ⟨none, 0, 0, fun _ => none, fun _ => 0, fun _ => 0, fun _ _ => 0, rfl, Rd.none_ _ _ _, fun i hi => absurd hi (by omega), by omega, by omega⟩
  simp [Value.cells] at hcs
  obtain ⟨rfl, rfl, rfl⟩ := hcs
  have hlm : l0 ≤ m := by rw [hmm]; split <;> omega
  obtain ⟨V, hV⟩ := choose_lt (α := Option Addr × Nat × Nat × (Nat → Int)) (n := l0) (p := fun i v => w.cell? (a.add i) = some (.slice v.1 v.2.1 v.2.2.1) ∧ Rd w v.1 v.2.1 (in64 v.2.2.2) ∧ v.2.1 ≤ v.2.2.1 ∧ v.2.2.1 ≤ 9223372036854775807) (fun i hi' => by
    obtain ⟨cs', g1, g2⟩ := hx i (by omega)
    rw [hce] at g1
    rw [Nat.mul_one] at g1
    obtain ⟨_, hlen, hcell⟩ := World.cells?_some g1
    obtain ⟨A, n1, c1, g, rfl, r1, r2, r3, r4⟩ := trod_ints he hq hcq g2
    have k0 := hcell 0 (by omega)
    refine ⟨(A, n1, c1, g), ?_, r1, r3, r4⟩
    rw [add_add] at k0
    simpa using k0)
  refine ⟨some a, l0, c0, fun i => (V i).1, fun i => (V i).2.1, fun i => (V i).2.2.1, fun i => (V i).2.2.2, rfl, ?_, fun i hi => (hV i hi).2, hl, by unfold maxLen at hm; exact hm⟩
  rcases Nat.eq_zero_or_pos l0 with hz | hz
  · subst hz; exact Rd.none_ _ _ _
  obtain ⟨b, off, spot⟩ := a
  have hs : spot = none := by
    have h0 := (hV 0 hz).1
    simpa [Addr.add] using World.cell?_spot h0
  subst hs
  exact fun _ => ⟨b, off, rfl, fun i hi => by have := (hV i hi).1; rw [addr_add] at this; exact this⟩
end
end Go.Kin
