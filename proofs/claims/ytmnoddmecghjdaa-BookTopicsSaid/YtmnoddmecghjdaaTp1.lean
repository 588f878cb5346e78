/- BookTopics in plain numbers: what is put of a topic depends on its own chances, and leaves all others. -/
import Derived.Test.YtmnoddmecghjdaaAc1
set_option linter.unusedVariables false
namespace Go.Kin
/-- A chance of the topic whose place is lo, or an even one. -/
def InT (lo : Nat) (j : Option Nat) : Prop := ∀ q, j = some q → lo ≤ q ∧ q < lo + 37
def runP (l : List (Option Nat × Int)) (y : PS) : PS := l.foldl (fun y p => y.put1 p.1 p.2) y
/-- What is put is put bit by bit, with chances of this topic only. -/
def Pth (lo : Nat) (f : PS → PS) : Prop := ∃ l, (∀ p, p ∈ l → InT lo p.1) ∧ ∀ y, f y = runP l y
theorem pth_id (lo : Nat) : Pth lo (fun y => y) := ⟨[], fun p hp => absurd hp (by simp), fun y => rfl⟩
theorem Pth.put1 {lo : Nat} {f : PS → PS} (h : Pth lo f) {j : Option Nat} (hj : InT lo j) (b : Int) : Pth lo (fun y => (f y).put1 j b) := by
  obtain ⟨l, h1, h2⟩ := h
  refine ⟨l ++ [(j, b)], fun p hp => ?_, fun y => ?_⟩
  · rcases List.mem_append.1 hp with hp | hp
    · exact h1 p hp
    · obtain rfl : p = (j, b) := by simpa using hp
      exact hj
  · show (f y).put1 j b = runP (l ++ [(j, b)]) y
    rw [h2]
    unfold runP
    rw [List.foldl_append]
    rfl
theorem loJ_in (lo k a : Nat) (ha : a < 2 ^ k) : InT lo (loJ lo k a) := by
  intro q hq
  unfold loJ at hq
  split at hq
  · injection hq with hq
    subst hq
    have hp : 2 ^ k ≤ 2 ^ 3 := Nat.pow_le_pow_right (by omega) (by omega)
    omega
  · cases hq
theorem pth_low {lo : Nat} {f : PS → PS} (h : Pth lo f) (v n : Nat) : ∀ k, Pth lo (fun y => (f y).low lo v n k)
  | 0 => h
  | k + 1 => (pth_low h v n k).put1 (loJ_in lo k _ (loA_lt v n k)) _
theorem pth_ones {lo : Nat} {f : PS → PS} (h : Pth lo f) : ∀ k, k ≤ 21 → Pth lo (fun y => (f y).ones lo k)
  | 0, _ => h
  | k + 1, hk => (pth_ones h k (by omega)).put1 (fun q hq => by injection hq with hq; omega) _
theorem pth_lens {lo n : Nat} (hn : n ≤ 21) : Pth lo (fun y => y.lens lo n) := by
  have h1 := pth_ones (pth_id lo) (n - 1) (by omega)
  by_cases h : n < 21
  · have := h1.put1 (j := some (lo + (n - 1))) (fun q hq => by injection hq with hq; omega) 0
    unfold PS.lens
    simp only [if_pos h]
    exact this
  · unfold PS.lens
    simp only [if_neg h]
    exact h1
theorem pth_num (lo : Nat) {v : Nat} (hv : v ≤ 1048576) : Pth lo (fun y => y.num lo v) := pth_low (pth_lens (num_len hv).2) _ _ _
theorem pth_sgn (lo : Nat) {v : Int} (hv : -1048576 ≤ v ∧ v ≤ 1048576) : Pth lo (fun y => y.sgn lo v) := by
  by_cases h : v = 0
  · unfold PS.sgn
    simp only [if_pos h]
    exact pth_num lo (by omega)
  · unfold PS.sgn
    simp only [if_neg h]
    exact (pth_num lo (v := v.natAbs) (by omega)).put1 (fun q hq => by injection hq with hq; omega) _
theorem pth_one (lo n v : Nat) : Pth lo (fun y => y.one lo n v) := pth_low (pth_id lo) _ _ _
/-- The same code, and the same chances of one topic. -/
def Like (lo : Nat) (y z : PS) : Prop := y.s = z.s ∧ ∀ j, lo ≤ j → j < lo + 37 → y.C j = z.C j
theorem like_put1 {lo : Nat} {y z : PS} (h : Like lo y z) {j : Option Nat} (hj : InT lo j) (b : Int) : Like lo (y.put1 j b) (z.put1 j b) := by
  obtain ⟨h1, h2⟩ := h
  cases j with
  | none => exact ⟨by unfold PS.put1 chOf; dsimp only; rw [h1], h2⟩
  | some q =>
    obtain ⟨q1, q2⟩ := hj q rfl
    have he := h2 q q1 q2
    refine ⟨by unfold PS.put1 chOf; dsimp only; rw [h1, he], fun i i1 i2 => ?_⟩
    unfold PS.put1 nxC bset
    dsimp only
    rw [he, h2 i i1 i2]
theorem like_run {lo : Nat} : ∀ (l : List (Option Nat × Int)) (y z : PS), (∀ p, p ∈ l → InT lo p.1) → Like lo y z → Like lo (runP l y) (runP l z)
  | [], _, _, _, h => h
  | p :: l, y, z, hl, h => like_run l (y.put1 p.1 p.2) (z.put1 p.1 p.2) (fun q hq => hl q (by simp [hq])) (like_put1 h (hl p (by simp)) _)
theorem Pth.like {lo : Nat} {f : PS → PS} (hf : Pth lo f) {y z : PS} (h : Like lo y z) : Like lo (f y) (f z) := by
  obtain ⟨l, h1, h2⟩ := hf
  rw [h2, h2]
  exact like_run l y z h1 h
theorem off_run {lo i : Nat} (hi : i < lo ∨ lo + 37 ≤ i) : ∀ (l : List (Option Nat × Int)) (y : PS), (∀ p, p ∈ l → InT lo p.1) → (runP l y).C i = y.C i
  | [], _, _ => rfl
  | p :: l, y, hl => by
    show (runP l (y.put1 p.1 p.2)).C i = y.C i
    rw [off_run hi l _ (fun q hq => hl q (by simp [hq]))]
    have hj := hl p (by simp)
    unfold PS.put1 nxC bset
    dsimp only
    cases hp : p.1 with
    | none => rfl
    | some q =>
      obtain ⟨q1, q2⟩ := hj q hp
      dsimp only
      rw [if_neg (by omega)]
theorem Pth.off {lo i : Nat} {f : PS → PS} (hf : Pth lo f) (hi : i < lo ∨ lo + 37 ≤ i) (y : PS) : (f y).C i = y.C i := by
  obtain ⟨l, h1, h2⟩ := hf
  rw [h2]
  exact off_run hi l y h1
end Go.Kin
namespace Go.Proofs.Ytmnoddmecghjdaa
open Go.RowKit Go.Kin
theorem pth_act (k t n v : Int) (ho : actOk k t n v = true) : Pth (37 * t.toNat) (fun y => actP y k t n v) := by
  unfold actP
  simp only [if_pos ho]
  unfold actOk at ho
  rw [Bool.and_eq_true] at ho
  obtain ⟨_, ho⟩ := ho
  by_cases h1 : k = 1
  · rw [if_pos h1] at ho
    simp only [if_pos h1]
    have := of_decide_eq_true ho
    exact pth_num _ (by omega)
  · rw [if_neg h1] at ho
    simp only [if_neg h1]
    by_cases h2 : k = 2
    · rw [if_pos h2] at ho
      simp only [if_pos h2]
      exact pth_sgn _ (of_decide_eq_true ho)
    · simp only [if_neg h2]
      exact pth_one _ _ _
/-- No act of this topic was put. -/
def Fresh (t : Int) (y : PS) : Prop := ∀ j, 37 * t.toNat ≤ j → j < 37 * t.toNat + 37 → topB t = true → y.C j = 1024
theorem fresh_act {t u : Int} {y : PS} (h : Fresh t y) (hne : u ≠ t) (k n v : Int) : Fresh t (actP y k u n v) := by
  intro j j1 j2 hb
  cases ho : actOk k u n v
  · unfold actP
    rw [if_neg (by rw [ho]; simp)]
    exact h j j1 j2 hb
  · have hu : topB u = true := by
      unfold actOk at ho
      rw [Bool.and_eq_true] at ho
      exact ho.1
    obtain ⟨u', rfl, hu'⟩ := topB_yes hu
    obtain ⟨t', rfl, ht'⟩ := topB_yes hb
    have := (pth_act k u' n v ho).off (i := j) (by simp only [Int.toNat_natCast] at *; omega) y
    exact this.trans (h j j1 j2 hb)
theorem last_act {t : Int} {y : PS} (h : Fresh t y) (k n v : Int) : (actP ⟨PS0.C, y.s⟩ k t n v).s = (actP y k t n v).s := by
  cases ho : actOk k t n v
  · unfold actP
    rw [if_neg (by rw [ho]; simp), if_neg (by rw [ho]; simp)]
  · have hu : topB t = true := by
      unfold actOk at ho
      rw [Bool.and_eq_true] at ho
      exact ho.1
    exact ((pth_act k t n v ho).like (y := ⟨PS0.C, y.s⟩) (z := y) ⟨rfl, fun j j1 j2 => (h j j1 j2 hu).symm⟩).1
end Go.Proofs.Ytmnoddmecghjdaa
