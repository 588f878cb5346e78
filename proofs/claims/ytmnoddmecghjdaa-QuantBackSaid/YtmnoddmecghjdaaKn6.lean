/- A block whose cells are known whole, by their numbers: mkR n f; kept by a store, by a copy into it. -/
import Derived.Test.YtmnoddmecghjdaaKn2M
import Derived.Laws.Rows
import Derived.Laws.Tables
namespace Go.Kin
open Go.RowKit
/-- n cells f 0 .. f (n - 1). -/
def mkR (n : Nat) (f : Nat → Value) : Array Value := ((List.range n).map f).toArray
/-- A block of just these cells. -/
@[reducible] def It.mr (b n : Nat) (f : Nat → Value) : It := .box b (mkR n f)
section
variable {w w' : World} {b n : Nat} {f g : Nat → Value} {l : List It}
theorem mkR_size : (mkR n f).size = n := by simp [mkR]
theorem mkR_at {i : Nat} (hi : i < n) : (mkR n f)[i]? = some (f i) := by simp [mkR, List.getElem?_range hi]
theorem mkR_no {i : Nat} (hi : n ≤ i) : (mkR n f)[i]? = none := Array.getElem?_eq_none (by rw [mkR_size]; exact hi)
theorem mkR_congr (e : ∀ i, i < n → f i = g i) : mkR n f = mkR n g := by
  unfold mkR
  rw [List.map_congr_left (fun i hi => e i (List.mem_range.1 hi))]
theorem mkR_ext {c : Array Value} (hs : c.size = n) (h : ∀ i, i < n → c[i]? = some (f i)) : c = mkR n f := by
  apply Array.ext_getElem?
  intro i
  rcases Nat.lt_or_ge i n with hi | hi
  · rw [h i hi, mkR_at hi]
  · rw [mkR_no hi, Array.getElem?_eq_none (by omega)]
theorem mkR_set {i : Nat} {v : Value} : (mkR n f).setIfInBounds i v = mkR n (fun j => if j = i then v else f j) := by
  refine mkR_ext (by simp [mkR_size]) fun j hj => ?_
  rw [Array.getElem?_setIfInBounds]
  by_cases e : i = j
  · subst e; simp [mkR_size, hj]
  · rw [if_neg e, mkR_at hj, if_neg (fun h => e h.symm)]
theorem Box.mrRow (h : Box w b (mkR n f)) : Row w b n f := by
  obtain ⟨t, h⟩ := h
  exact ⟨_, t, h, by rw [mkR_size]; exact Nat.le_refl _, fun i hi => mkR_at hi⟩
theorem Box.mr (h : Box w b (mkR n f)) (e : ∀ i, i < n → f i = g i) : Box w b (mkR n g) := by rw [← mkR_congr e]; exact h
theorem Kn.mr (h : Kn w (.mr b n f :: l)) (e : ∀ i, i < n → f i = g i) : Kn w (.mr b n g :: l) := ⟨Box.mr h.1 e, h.2⟩
theorem Kn.setMr (h : Kn w (.mr b n f :: l)) (i : Nat) (v : Value) (hf : Offs b l) : Kn (w.setCell ⟨b, i, none⟩ v) (.mr b n (fun j => if j = i then v else f j) :: l) := by
  have := Kn.setBox h i v hf
  rw [mkR_set] at this
  exact this
theorem Kn.setMrS (h : Kn w (.mr b n f :: l)) (i : Nat) (v : Value) (hf : OffsS b l) : Kn (w.setCell ⟨b, i, none⟩ v) (.mr b n (fun j => if j = i then v else f j) :: l) := by
  have := Box.set h.1 i v
  rw [mkR_set] at this
  exact ⟨this, Kn.othS h.2 ((Oth.refl b w).set i v) hf⟩
theorem oth_setRow (w : World) (g : Nat) (cs : Array Value) : Oth g w (w.setRow g cs) := ⟨rfl, rfl, rfl, by simp [World.setRow], fun k _ hne => setRow_other w g k _ hne⟩
theorem Box.setRow {cs : Array Value} (h : Box w b cs) (ds : Array Value) : Box (w.setRow b ds) b ds := by
  obtain ⟨t, h⟩ := h
  exact ⟨t, setRow_heap w b _ _ t _ h⟩
end
theorem run_copyX {P : Program} {w : World} {dT sT ty elem : TypeId} {g off dLen dCap sLen sCap n : Nat} {A : Option Addr} {f h : Nat → Value}
    (hu : P.underlying dT = some (.slice elem)) (hs : (P.info? elem).map (·.size) = some 1) (hR : Box w g (mkR n f)) (hS : Rd w A sLen h) (h1 : ∀ i, (h i).oneCell' = true) (hfit : off + min sLen dLen ≤ n) :
    ∃ w', (Builtin.copy_ #[dT, sT] ty #[.slice (some ⟨g, off, none⟩) dLen dCap, .slice A sLen sCap]).run P w = .ok (goInt ((min sLen dLen : Nat) : Int)) w' ∧
      Box w' g (mkR n (fun i => if off ≤ i ∧ i < off + min sLen dLen then h (i - off) else f i)) ∧ Oth g w w' := by
  by_cases h0 : min sLen dLen = 0
  · refine ⟨w, ?_, hR.mr (fun i hi => by rw [if_neg (by omega)]), Oth.refl _ _⟩
    have := run_copy_none (P := P) w dT sT ty elem (some ⟨g, off, none⟩) A dLen dCap sLen sCap hu hs h0
    rw [h0]; exact this
  · obtain ⟨b, o, rfl, hc⟩ := hS (by omega)
    obtain ⟨t, hg⟩ := hR
    have hn : (mkR n f).size = n := mkR_size
    have hcell : ∀ i, i < n → (mkR n f)[i]? = some (f i) := fun i hi => mkR_at hi
    generalize mkR n f = c at *
    have hlen : ((List.range (min sLen dLen)).map h).length = min sLen dLen := by simp
    have hrun := run_copy_row (P := P) w dT sT ty elem g off dLen dCap ⟨b, o, none⟩ sLen sCap c t ((List.range (min sLen dLen)).map h) hu hs hg (by rw [hlen]) (fun j v hj => by
      have hjl : j < min sLen dLen := by
        rcases Nat.lt_or_ge j (min sLen dLen) with hlt | hge
        · exact hlt
        · rw [List.getElem?_eq_none (by rw [hlen]; exact hge)] at hj; cases hj
      rw [List.getElem?_map, List.getElem?_range hjl] at hj
      simp only [Option.map_some, Option.some.injEq] at hj
      rw [addr_add, hc j (by omega), hj]) (by rw [hlen]; omega) (by intro v hv; obtain ⟨i, _, rfl⟩ := List.mem_map.1 hv; exact h1 i)
    rw [hlen] at hrun
    refine ⟨_, hrun, ⟨t, ?_⟩, ?_⟩
    · rw [setRow_heap w g _ _ t _ hg]
      congr 2
      refine mkR_ext (by simp; omega) fun i hi => ?_
      simp only [List.getElem?_toArray]
      by_cases ha : i < off
      · rw [if_neg (by omega), List.append_assoc, List.getElem?_append_left (by simp; omega), List.getElem?_take_of_lt ha, Array.getElem?_toList]
        exact hcell i hi
      · by_cases hb : i < off + min sLen dLen
        · rw [if_pos (by omega), List.append_assoc, List.getElem?_append_right (by simp; omega)]
          have e : (c.toList.take off).length = off := by simp; omega
          rw [e, List.getElem?_append_left (by rw [hlen]; omega), List.getElem?_map, List.getElem?_range (by omega)]
          rfl
        · rw [if_neg (by omega), List.getElem?_append_right (by simp; omega)]
          have e : (c.toList.take off ++ (List.range (min sLen dLen)).map h).length = off + min sLen dLen := by simp; omega
          rw [e, List.getElem?_drop, show off + min sLen dLen + (i - (off + min sLen dLen)) = i by omega, Array.getElem?_toList]
          exact hcell i hi
    · exact oth_setRow _ _ _
end Go.Kin
