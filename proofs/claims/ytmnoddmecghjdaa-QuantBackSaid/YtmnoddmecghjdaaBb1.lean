/- BookBack in plain numbers: acts put one after the other. Records of four cells carried over a call. -/
import Derived.Test.YtmnoddmecghjdaaAl5
import Derived.Test.YtmnoddmecghjdaaApp2
set_option linter.unusedVariables false
namespace Go.Kin
open Go.RowKit
theorem Recs.kp {I : List Nat} {w w' : World} {col col' : Nat → Nat} {i k n c : Nat} {e : TypeId} {A : Option Addr} {F : Nat → Nat → Int} (h : Recs w col i e k A n c F) (hp : Kp I w col w' col') (hi : i ∉ I) : Recs w' col' i e k A n c F :=
  ⟨h.1.keep fun b o hA => (hp.1.2 b (h.1.lt hA).2 (by rw [h.2 b o hA]; exact hi)).1, fun b o hA => by rw [(hp.1.2 b (h.1.lt hA).2 (by rw [h.2 b o hA]; exact hi)).2]; exact h.2 b o hA⟩
end Go.Kin
namespace Go.Proofs.Ytmnoddmecghjdaa
open Go.RowKit Go.Kin
/-- A book and an encoder behind the first k acts. -/
def runB (F : Nat → Nat → Int) : Nat → PS
  | 0 => PS0
  | k + 1 => actP (runB F k) (F k 0) (F k 1) (F k 2) (F k 3)
theorem runB_congr {F G : Nat → Nat → Int} : ∀ {q : Nat}, (∀ i, i < q → ∀ r, F i r = G i r) → runB F q = runB G q
  | 0, _ => rfl
  | q + 1, h => by
    simp only [runB]
    rw [runB_congr (fun i hi => h i (by omega)), h q (by omega), h q (by omega), h q (by omega), h q (by omega)]
theorem runB_ok (F : Nat → Nat → Int) : ∀ k, (runB F k).ok ∧ (runB F k).s.L ≤ 4 + 44 * k ∧ 4 ≤ (runB F k).s.L
  | 0 => ⟨PS0_ok, Nat.le_refl _, Nat.le_refl _⟩
  | k + 1 => by
    obtain ⟨h1, h2, h3⟩ := runB_ok F k
    obtain ⟨h4, h5, h6⟩ := actP_ok (k := F k 0) (t := F k 1) (n := F k 2) (v := F k 3) h1
    exact ⟨h4, by simp only [runB]; omega, by simp only [runB]; omega⟩
theorem runB_within (F : Nat → Nat → Int) {k : Nat} : ∀ {q : Nat}, k ≤ q → Within (runB F k).s (runB F q).s
  | 0, h => by obtain rfl : k = 0 := (by omega); exact Within.refl _
  | q + 1, h => by
    rcases Nat.lt_or_ge k (q + 1) with hlt | hge
    · exact (runB_within F (by omega)).trans (actP_within (runB_ok F q).1)
    · obtain rfl : k = q + 1 := (by omega)
      exact Within.refl _
theorem runB_more (F : Nat → Nat → Int) (q : Nat) (x : Nat → Int) : runB (recAdd F q x) (q + 1) = actP (runB F q) (x 0) (x 1) (x 2) (x 3) := by
  simp only [runB]
  rw [runB_congr (F := recAdd F q x) (G := F) (fun i hi r => by unfold recAdd; rw [if_pos hi])]
  unfold recAdd
  rw [if_neg (by omega), if_neg (by omega), if_neg (by omega), if_neg (by omega)]
theorem runB_fin (F : Nat → Nat → Int) (q : Nat) : FinC (dig (runB F q).s.V (runB F q).s.L) (runB F q).s.L (runB F q).s := fin_dig (runB_ok F q).1.2 (runB_within F (show 0 ≤ q by omega))
/-- Acts that are put. -/
def AllOk (F : Nat → Nat → Int) (q : Nat) : Prop := ∀ i, i < q → actOk (F i 0) (F i 1) (F i 2) (F i 3) = true
theorem AllOk.more {F : Nat → Nat → Int} {q : Nat} {x : Nat → Int} (h : AllOk F q) (hx : actOk (x 0) (x 1) (x 2) (x 3) = true) : AllOk (recAdd F q x) (q + 1) := fun i hi => by
  unfold recAdd
  by_cases hl : i < q
  · rw [if_pos hl, if_pos hl, if_pos hl, if_pos hl]; exact h i hl
  · rw [if_neg hl, if_neg hl, if_neg hl, if_neg hl]; exact hx
theorem runB_step {F : Nat → Nat → Int} {q k : Nat} {z : GS} (h : AllOk F q) (hk : k < q) (ht : Tw (dig (runB F q).s.V (runB F q).s.L) (runB F k) z) :
    (actG (dig (runB F q).s.V (runB F q).s.L) (runB F q).s.L z (F k 0) (F k 1) (F k 2)).v = F k 3 ∧ (actG (dig (runB F q).s.V (runB F q).s.L) (runB F q).s.L z (F k 0) (F k 1) (F k 2)).e = 0 ∧ Tw (dig (runB F q).s.V (runB F q).s.L) (runB F (k + 1)) (actG (dig (runB F q).s.V (runB F q).s.L) (runB F q).s.L z (F k 0) (F k 1) (F k 2)).x :=
  act_back ht (runB_ok F k).1 (h k hk) (runB_within F (show k + 1 ≤ q by omega)) (runB_fin F q)
theorem runB_end {F : Nat → Nat → Int} {q : Nat} {z : GS} (ht : Tw (dig (runB F q).s.V (runB F q).s.L) (runB F q) z) : endK ((runB F q).s.L - z.d.I) z.d.rest = 0 := tw_end ht (runB_ok F q).1.2 (runB_within F (show 0 ≤ q by omega))
theorem actE_yes {k t n v : Int} (h : actOk k t n v = true) : actE k t n v = 0 := by unfold actE; rw [if_pos h]
theorem act_no {y : PS} {k t n v : Int} (h : actOk k t n v = false) : actE k t n v = 1 ∧ actP y k t n v = y := by
  unfold actE actP
  rw [if_neg (by rw [h]; simp), if_neg (by rw [h]; simp)]
  exact ⟨rfl, rfl⟩
theorem same_self {a b : Nat} {C : Nat → Int} {w : World} (hA : Box w a (mkR 592 (u16s C))) (hB : Box w b (mkR 592 (u16s C))) :
    Calls Try.prog 30 #[.pointer (some ⟨a, 0, none⟩), .pointer (some ⟨b, 0, none⟩)] w fun e w' => e = .returned (.bool true) ∧ Below w.heap.size w w' := by
  have := same_any a b C C w hA hB
  rw [sameC_iff.2 (fun _ _ => rfl)] at this
  exact this
theorem info_act4 : (Try.prog.info? 33).map (fun i => (i.zero, i.size, i.bytes)) = some (some (.agg #[.int .i64 0, .int .i64 0, .int .i64 0, .int .i64 0]), 4, 32) := by kernel_rfl
theorem parts_act4 : ∃ i, Try.prog.info? 33 = some i ∧ i.zero = some (.agg #[.int .i64 0, .int .i64 0, .int .i64 0, .int .i64 0]) ∧ i.size = 4 ∧ i.bytes = 32 := info_parts info_act4
end Go.Proofs.Ytmnoddmecghjdaa
