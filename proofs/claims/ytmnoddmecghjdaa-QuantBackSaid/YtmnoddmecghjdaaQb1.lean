/- QuantBack in plain numbers: blocks put one after the other. A slice of the call's own whose elements have one cell each. -/
import Derived.Test.YtmnoddmecghjdaaQr4
import Derived.Test.YtmnoddmecghjdaaBb1
set_option linter.unusedVariables false
namespace Go.Kin
open Go.RowKit
/-- A slice of the call's own, of colour i, whose elements have one cell each. -/
def RecV (w : World) (col : Nat → Nat) (i : Nat) (e : TypeId) (A : Option Addr) (n c : Nat) (F : Nat → Value) : Prop := OwnK w 0 e 1 A n c F ∧ ∀ b o, A = some ⟨b, o, none⟩ → col b = i
theorem RecV.kp {I : List Nat} {w w' : World} {col col' : Nat → Nat} {i n c : Nat} {e : TypeId} {A : Option Addr} {F : Nat → Value} (h : RecV w col i e A n c F) (hp : Kp I w col w' col') (hi : i ∉ I) : RecV w' col' i e A n c F :=
  ⟨h.1.keep fun b o hA => (hp.1.2 b (h.1.lt hA).2 (by rw [h.2 b o hA]; exact hi)).1, fun b o hA => by rw [(hp.1.2 b (h.1.lt hA).2 (by rw [h.2 b o hA]; exact hi)).2]; exact h.2 b o hA⟩
theorem RecV.more {w w' w1 : World} {e : TypeId} {n c : Nat} {A : Option Addr} {col : Nat → Nat} {i m2 : Nat} {F : Nat → Value} {x : Value} {A' : Option Addr} {c' : Nat} (hR : RecV w col i e A n c F) (hw1 : Below w.heap.size w w1)
    (h : OwnK w' 0 e 1 A' (n + 1) c' (fun j => if j < n * 1 then F j else x)) (hg : w1.grownBy w' (Value.slice A n c).ownBlock) (hb : (Value.slice A' (n + 1) c').ownBlock = (Value.slice A n c).ownBlock ∨ (Value.slice A' (n + 1) c').ownBlock = some m2) (hm : w.heap.size ≤ m2) :
    RecV w' (recol col w i) i e A' (n + 1) c' (fun j => if j < n then F j else x) ∧ Upd col i w w' := by
  refine ⟨⟨h.congr fun j hj => by rw [Nat.mul_one], fun b o hA => ?_⟩, ⟨hg.os.trans hw1.os, hg.tape.trans hw1.tape, hg.output.trans hw1.output, Nat.le_trans hw1.size hg.size, fun b hl hn => ?_⟩⟩
  · subst hA
    rcases hb with hb | hb
    · cases A with
      | none => simp [Value.ownBlock] at hb
      | some y =>
        simp [Value.ownBlock] at hb
        rcases hR.1.cases with ⟨h0, _⟩ | ⟨b', h0, _, hlt, _⟩
        · cases h0
        · injection h0 with h0
          subst h0
          dsimp only at hb
          subst hb
          rw [recol_lt hlt]
          exact hR.2 _ 0 rfl
    · simp [Value.ownBlock] at hb
      exact recol_ge (by omega)
  · rw [hg.block b (Nat.lt_of_lt_of_le hl hw1.size) ?_, hw1.block b hl]
    intro hh
    cases A with
    | none => simp [Value.ownBlock] at hh
    | some y =>
      simp [Value.ownBlock] at hh
      rcases hR.1.cases with ⟨h0, _⟩ | ⟨b', h0, _, hlt, _⟩
      · cases h0
      · injection h0 with h0
        subst h0
        dsimp only at hh
        subst hh
        exact hn (hR.2 _ 0 rfl)
end Go.Kin
namespace Go.Proofs.Ytmnoddmecghjdaa
open Go.RowKit Go.Kin
/-- A book and an encoder behind the blocks D 0, .., D (k - 1) of a list. -/
def runQ (t : Nat) (L : Nat → Nat) (G : Nat → Nat → Int) (D : Nat → Nat) : Nat → PS
  | 0 => PS0
  | k + 1 => (runQ t L G D k).blk t (L (D k)) (G (D k))
/-- All of these are blocks. -/
def AllQ (L : Nat → Nat) (G : Nat → Nat → Int) (D : Nat → Nat) (q : Nat) : Prop := ∀ i, i < q → sideN (L (D i)) ≠ 0 ∧ Wi 1048576 (L (D i)) (G (D i))
def addQ (D : Nat → Nat) (q j : Nat) : Nat → Nat := fun i => if i < q then D i else j
section
variable {t : Nat} {L : Nat → Nat} {G : Nat → Nat → Int} {D : Nat → Nat} {q : Nat}
theorem runQ_congr {D D' : Nat → Nat} : ∀ {q : Nat}, (∀ i, i < q → D i = D' i) → runQ t L G D q = runQ t L G D' q
  | 0, _ => rfl
  | q + 1, h => by
    simp only [runQ]
    rw [runQ_congr (fun i hi => h i (by omega)), h q (by omega)]
theorem runQ_more (j : Nat) : runQ t L G (addQ D q j) (q + 1) = (runQ t L G D q).blk t (L j) (G j) := by
  simp only [runQ]
  rw [runQ_congr (D := addQ D q j) (D' := D) (fun i hi => by unfold addQ; rw [if_pos hi])]
  unfold addQ
  rw [if_neg (by omega)]
theorem runQ_ok : ∀ k, AllQ L G D k → (runQ t L G D k).ok ∧ (runQ t L G D k).s.L ≤ 4 + 2900 * k ∧ 4 ≤ (runQ t L G D k).s.L
  | 0, _ => ⟨PS0_ok, by show 4 ≤ 4 + 2900 * 0; omega, by show 4 ≤ 4; omega⟩
  | k + 1, h => by
    obtain ⟨h1, h2, h3⟩ := runQ_ok k (fun i hi => h i (by omega))
    obtain ⟨h4, h5, h6⟩ := PS.blk_ok (t := t) h1 (h k (by omega)).1 (h k (by omega)).2
    have e : runQ t L G D (k + 1) = (runQ t L G D k).blk t (L (D k)) (G (D k)) := rfl
    rw [e]
    refine ⟨h4, ?_⟩
    clear h4 e h
    generalize ((runQ t L G D k).blk t (L (D k)) (G (D k))).s.L = a at *
    generalize (runQ t L G D k).s.L = a2 at *
    omega
theorem runQ_within {k : Nat} : ∀ {q : Nat}, AllQ L G D q → k ≤ q → Within (runQ t L G D k).s (runQ t L G D q).s
  | 0, _, h => by obtain rfl : k = 0 := (by omega); exact Within.refl _
  | q + 1, ha, h => by
    rcases Nat.lt_or_ge k (q + 1) with hlt | hge
    · exact (runQ_within (fun i hi => ha i (by omega)) (by omega)).trans (blk_within (runQ_ok q (fun i hi => ha i (by omega))).1 (ha q (by omega)).1 (ha q (by omega)).2)
    · obtain rfl : k = q + 1 := by omega
      exact Within.refl _
theorem AllQ.more (h : AllQ L G D q) {j : Nat} (h1 : sideN (L j) ≠ 0) (h2 : Wi 1048576 (L j) (G j)) : AllQ L G (addQ D q j) (q + 1) := fun i hi => by
  unfold addQ
  by_cases h3 : i < q
  · rw [if_pos h3]; exact h i h3
  · rw [if_neg h3]; exact ⟨h1, h2⟩
theorem runQ_fin (h : AllQ L G D q) : FinC (dig (runQ t L G D q).s.V (runQ t L G D q).s.L) (runQ t L G D q).s.L (runQ t L G D q).s := fin_dig (runQ_ok q h).1.2 (runQ_within h (Nat.zero_le q))
theorem runQ_step (h : AllQ L G D q) {k : Nat} (hk : k < q) {z : GS} (ht : Tw (dig (runQ t L G D q).s.V (runQ t L G D q).s.L) (runQ t L G D k) z) :
    (z.blk (dig (runQ t L G D q).s.V (runQ t L G D q).s.L) (runQ t L G D q).s.L t (L (D k))).e = 0 ∧ (∀ j, j < L (D k) → uns (L (D k)) (z.blk (dig (runQ t L G D q).s.V (runQ t L G D q).s.L) (runQ t L G D q).s.L t (L (D k))).h j = G (D k) j) ∧
      Tw (dig (runQ t L G D q).s.V (runQ t L G D q).s.L) (runQ t L G D (k + 1)) (z.blk (dig (runQ t L G D q).s.V (runQ t L G D q).s.L) (runQ t L G D q).s.L t (L (D k))).x :=
  blk_back ht (runQ_ok k (fun i hi => h i (by omega))).1 t (h k hk).1 (h k hk).2 (runQ_within h (k := k + 1) hk) (runQ_fin h)
theorem runQ_end (h : AllQ L G D q) {z : GS} (ht : Tw (dig (runQ t L G D q).s.V (runQ t L G D q).s.L) (runQ t L G D q) z) : endK ((runQ t L G D q).s.L - z.d.I) z.d.rest = 0 := tw_end ht (runQ_ok q h).1.2 (runQ_within h (Nat.zero_le q))
end
theorem info_ints : (Try.prog.info? 57).map (fun i => (i.zero, i.size, i.bytes)) = some (some (.slice none 0 0), 1, 24) := by kernel_rfl
theorem parts_ints : ∃ i, Try.prog.info? 57 = some i ∧ i.zero = some (.slice none 0 0) ∧ i.size = 1 ∧ i.bytes = 24 := info_parts info_ints
end Go.Proofs.Ytmnoddmecghjdaa
