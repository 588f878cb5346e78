/- Arguments opened into cells: a slice of structs of numbers; a slice of bools. -/
import Derived.Test.YtmnoddmecghjdaaCloseM
import Derived.Test.YtmnoddmecghjdaaKn
import Derived.Deep.Slices
import Derived.Deep.Grids
namespace Go.Kin
open Go.ChangeShapes Go.WideShapes Go.ChangeAt Go.RowKit Go.Joins Go.Deep
/-- Cells of structs of k numbers, one behind the other. -/
def recs (k : Nat) (f : Nat → Nat → Int) : Nat → Value := fun j => .int .i64 (f (j / k) (j % k))
theorem recs_at {k : Nat} (f : Nat → Nat → Int) (i r : Nat) (hr : r < k) : recs k f (i * k + r) = .int .i64 (f i r) := by
  unfold recs
  have hk : 0 < k := by omega
  rw [Nat.mul_comm, Nat.mul_add_div hk, Nat.mul_add_mod, Nat.div_eq_of_lt hr, Nat.mod_eq_of_lt hr, Nat.add_zero]
/-- Cells of bools. -/
def bo (g : Nat → Bool) : Nat → Value := fun i => .bool (g i)
section
variable {H : Type} {enc : TypeId × Value → H} {P : Program} {w : World} {base : Nat} {spare : Nat → Bool} {held : Bool}
theorem recs_rd {k : Nat} {b off n : Nat} {f : Nat → Nat → Int} (hk : 0 < k) (h : ∀ i, i < n → ∀ r, r < k → w.cell? ⟨b, off + i * k + r, none⟩ = some (.int .i64 (f i r))) : Rd w (some ⟨b, off, none⟩) (n * k) (recs k f) := fun _ => ⟨b, off, rfl, fun j hj => by
  have h1 : j / k < n := (Nat.div_lt_iff_lt_mul hk).2 hj
  have h2 : j % k < k := Nat.mod_lt _ hk
  have := h (j / k) h1 (j % k) h2
  have e : j / k * k + j % k = j := by rw [Nat.mul_comm]; exact Nat.div_add_mod j k
  rw [Nat.add_assoc, e] at this
  exact this⟩
theorem recs_cell {k : Nat} {b off n : Nat} {f : Nat → Nat → Int} (h : Rd w (some ⟨b, off, none⟩) (n * k) (recs k f)) {i r : Nat} (hi : i < n) (hr : r < k) : w.cell? ⟨b, off + i * k + r, none⟩ = some (.int .i64 (f i r)) := by
  have hlt : i * k + r < n * k := by
    have : (i + 1) * k ≤ n * k := Nat.mul_le_mul_right k hi
    rw [Nat.add_mul] at this
    omega
  have := Rd.at_ h hlt
  rw [recs_at f i r hr, ← Nat.add_assoc] at this
  exact this
theorem open_acts {t e ti : TypeId} {f0 f1 : Field} {b0 : Nat} {v : Value} {d : DataW H} {p : List MemPlace} (ht : P.underlying t = some (.slice e)) (he : P.underlying e = some (.struct #[f0, f1])) (hce : P.cellsOf e = 2)
    (h0 : f0.type = ti ∧ f0.offset = 0) (h1 : f1.type = ti ∧ f1.offset = 1) (hi : P.underlying ti = some (.int .i64)) (hci : P.cellsOf ti = 1)
    (hv : Value.okWide P w .any b0 t v) (h : DataW.Trod enc P w base spare held t v d p) : ∃ (A : Option Addr) (n c : Nat) (f : Nat → Nat → Int), v = .slice A n c ∧ Rd w A (n * 2) (recs 2 f) ∧ (∀ i r, I64 (f i r)) ∧ n ≤ c ∧ c ≤ 9223372036854775807 := by
  obtain ⟨a0, l0, c0, rfl⟩ := okWide_slice ht hv
  obtain ⟨fuel, hf⟩ := h
  rcases open_slice ht hf with ⟨hcs, _⟩ | ⟨a, len, cap, m, n, D, Pl, hcs, _, hl, hm, hmm, _, hx⟩
  · simp [Value.cells] at hcs
    obtain ⟨rfl, rfl, rfl⟩ := hcs
    exact ⟨none, 0, 0, fun _ _ => 0, rfl, Rd.none_ _ _ _, fun _ _ => by show I64 0; unfold I64; omega, by omega, by omega⟩
  simp [Value.cells] at hcs
  obtain ⟨rfl, rfl, rfl⟩ := hcs
  have hlm : l0 ≤ m := by rw [hmm]; split <;> omega
  obtain ⟨V, hV⟩ := choose_lt (α := Int × Int) (n := l0) (p := fun i v => w.cell? (a.add (i * 2)) = some (.int .i64 v.1) ∧ w.cell? (a.add (i * 2 + 1)) = some (.int .i64 v.2) ∧ I64 v.1 ∧ I64 v.2) (fun i hi' => by
    obtain ⟨cs', g1, g2⟩ := hx i (by omega)
    rw [hce] at g1
    obtain ⟨_, hlen, hcell⟩ := World.cells?_some g1
    obtain ⟨y0, y1, q, _, _, r0, r1⟩ := trod_struct2 he g2
    rw [h0.1, h0.2, hci] at r0
    rw [h1.1, h1.2, hci] at r1
    obtain ⟨x0, e0, _, w0⟩ := DataW.trod_int hi r0
    obtain ⟨x1, e1, _, w1⟩ := DataW.trod_int hi r1
    match cs', hlen with
    | [u0, u1], _ =>
      simp at e0 e1
      subst e0 e1
      have k0 := hcell 0 (by omega)
      have k1 := hcell 1 (by omega)
      rw [add_add] at k0 k1
      exact ⟨(x0, x1), by simpa using k0, by simpa using k1, bounds_i64 w0, bounds_i64 w1⟩)
  refine ⟨some a, l0, c0, fun i r => if i < l0 then (if r = 0 then (V i).1 else (V i).2) else 0, rfl, ?_, fun i r => ?_, hl, by unfold maxLen at hm; exact hm⟩
  · rcases Nat.eq_zero_or_pos l0 with hz | hz
    · subst hz; rw [Nat.zero_mul]; exact Rd.none_ _ _ _
    obtain ⟨b, off, spot⟩ := a
    have hs : spot = none := by
      have h0 := (hV 0 hz).1
      simpa [Addr.add] using World.cell?_spot h0
    subst hs
    refine recs_rd (by omega) (fun i hi' r hr => ?_)
    obtain ⟨k0, k1, _, _⟩ := hV i hi'
    rw [addr_add] at k0 k1
    rw [if_pos hi']
    have hr' : r = 0 ∨ r = 1 := by omega
    rcases hr' with rfl | rfl
    · exact k0
    · rw [Nat.add_assoc]; exact k1
  · dsimp only
    split
    · next hh => obtain ⟨_, _, k0, k1⟩ := hV i hh; split <;> assumption
    · unfold I64; omega
theorem open_boolsl {t e : TypeId} {b0 : Nat} {v : Value} {d : DataW H} {p : List MemPlace} (ht : P.underlying t = some (.slice e)) (he : P.underlying e = some .bool) (hc : P.cellsOf e = 1)
    (hv : Value.okWide P w .any b0 t v) (h : DataW.Trod enc P w base spare held t v d p) : ∃ (A : Option Addr) (n c : Nat) (g : Nat → Bool), v = .slice A n c ∧ Rd w A n (bo g) ∧ n ≤ c ∧ c ≤ 9223372036854775807 := by
  obtain ⟨a0, l0, c0, rfl⟩ := okWide_slice ht hv
  obtain ⟨fuel, hf⟩ := h
  rcases open_slice1 ht hc hf with ⟨hcs, _⟩ | ⟨a, len, cap, m, n, V, D, Pl, hcs, _, hl, hm, hmm, _, hx⟩
  · simp [Value.cells] at hcs
    obtain ⟨rfl, rfl, rfl⟩ := hcs
    exact ⟨none, 0, 0, fun _ => false, rfl, Rd.none_ _ _ _, by omega, by omega⟩
  simp [Value.cells] at hcs
  obtain ⟨rfl, rfl, rfl⟩ := hcs
  have hlm : l0 ≤ m := by rw [hmm]; split <;> omega
  obtain ⟨B, hB⟩ := choose_lt (α := Bool) (n := l0) (p := fun i b => w.cell? (a.add i) = some (.bool b)) (fun i hi => by
    obtain ⟨b, h1, _⟩ := DataW.trod_bool he (hx i (by omega)).2
    have h1' : V i = .bool b := by simpa using h1
    exact ⟨b, by rw [(hx i (by omega)).1, h1']⟩)
  refine ⟨some a, l0, c0, B, rfl, fun hn => ?_, hl, by unfold maxLen at hm; exact hm⟩
  obtain ⟨b, off, spot⟩ := a
  have hs : spot = none := by simpa [Addr.add] using World.cell?_spot (hB 0 hn)
  subst hs
  exact ⟨b, off, rfl, fun i hi => by have := hB i hi; rw [addr_add] at this; exact this⟩
end
end Go.Kin
