/- The book in plain numbers: what was put is got by another book; topics are apart. -/
import Derived.Test.YtmnoddmecghjdaaBk0
set_option linter.unusedVariables false
namespace Go.Kin
open Go.RowKit
/-- A decoder's book and rest, where an encoder and its book stood. -/
def Tw (g : Nat → Int) (y : PS) (z : GS) : Prop := z.C = y.C ∧ Twin g y.s z.d
/-- The bytes g are the code f. -/
def FinC (g : Nat → Int) (n : Nat) (f : St) : Prop := 0 < f.R ∧ f.L ≤ n ∧ ∀ k, k ≤ f.L → numOf g k = f.V / 256 ^ (f.L - k)
section
variable {g : Nat → Int} {n : Nat} {f : St} {y : PS} {z : GS}
theorem put1_within (h : y.ok) (j : Option Nat) (b : Int) : Within y.s (y.put1 j b).s := putI_within h.2
theorem low_within (h : y.ok) (base v m : Nat) {k : Nat} : ∀ {q : Nat}, k ≤ q → Within (y.low base v m k).s (y.low base v m q).s
  | 0, hk => by obtain rfl : k = 0 := (by omega); exact Within.refl _
  | q + 1, hk => by
    rcases Nat.lt_or_ge k (q + 1) with hlt | hge
    · exact (low_within h base v m (by omega)).trans (put1_within (PS.low_ok h base v m q).1 _ _)
    · obtain rfl : k = q + 1 := (by omega)
      exact Within.refl _
theorem ones_within (h : y.ok) (base : Nat) {k : Nat} : ∀ {q : Nat}, k ≤ q → Within (y.ones base k).s (y.ones base q).s
  | 0, hk => by obtain rfl : k = 0 := (by omega); exact Within.refl _
  | q + 1, hk => by
    rcases Nat.lt_or_ge k (q + 1) with hlt | hge
    · exact (ones_within h base (by omega)).trans (put1_within (PS.ones_ok h base q).1 _ _)
    · obtain rfl : k = q + 1 := (by omega)
      exact Within.refl _
theorem lens_within (h : y.ok) (base m : Nat) : Within (y.ones base (m - 1)).s (y.lens base m).s := by
  unfold PS.lens
  split
  · exact put1_within (PS.ones_ok h base (m - 1)).1 _ _
  · exact Within.refl _
theorem num_within (h : y.ok) (base v : Nat) : Within y.s (y.num base v).s :=
  ((ones_within h base (k := 0) (Nat.zero_le _)).trans (lens_within h base _)).trans (low_within (PS.lens_ok h base _).1 base _ _ (k := 0) (Nat.zero_le _))
theorem sgn_within (h : y.ok) (base : Nat) {v : Int} (hv : -1048576 ≤ v ∧ v ≤ 1048576) : Within y.s (y.sgn base v).s := by
  unfold PS.sgn
  split
  · exact num_within h base 0
  · exact (num_within h base _).trans (put1_within (PS.num_ok h base (by omega)).1 _ _)
theorem one_within (h : y.ok) (base m v : Nat) : Within y.s (y.one base m v).s := low_within h base v _ (k := 0) (Nat.zero_le _)
/-- A bit that was put is got. -/
theorem get1_back (ht : Tw g y z) (hok : y.ok) {j : Option Nat} {b : Int} (hb : b = 0 ∨ b = 1) (hw : Within (y.put1 j b).s f) (hf : FinC g n f) :
    (z.get1 g n j).1 = b ∧ (z.get1 g n j).2.1 = 0 ∧ Tw g (y.put1 j b) (z.get1 g n j).2.2 := by
  obtain ⟨hC, hT⟩ := ht
  have hbd := chOf_bd hok.1 j
  have hfair : Fair (chOf y.C j) b := ⟨hbd.1, hbd.2, hb⟩
  obtain ⟨h1, h2⟩ := twin_put (n := n) hT hok.2 hfair hw hf.1 hf.2.1 hf.2.2
  have h3 := (twin_get (n := n) hT h1).2
  rw [h2] at h3
  unfold GS.get1 PS.put1
  rw [hC]
  refine ⟨h2, h1, ?_, h3⟩
  dsimp only
  rw [if_pos h1, h2]
theorem low_back (ht : Tw g y z) (hok : y.ok) (base v m : Nat) (hw : Within (y.low base v m m).s f) (hf : FinC g n f) : ∀ k, k ≤ m →
    (z.low g n base k).e = 0 ∧ (z.low g n base k).a = loA v m k ∧ Tw g (y.low base v m k) (z.low g n base k).x
  | 0, _ => ⟨rfl, (loA_zero v m).symm, ht⟩
  | k + 1, hk => by
    obtain ⟨h1, h2, h3⟩ := low_back ht hok base v m hw hf k (by omega)
    have hb := loB_bd v m k
    obtain ⟨q1, q2, q3⟩ := get1_back h3 (PS.low_ok hok base v m k).1 (j := loJ base k (loA v m k)) (b := (loB v m k : Nat)) (by omega) ((low_within hok base v m (show k + 1 ≤ m by omega)).trans hw) hf
    have e : z.low g n base (k + 1) = lrNext ((z.low g n base k).x.get1 g n (loJ base k (z.low g n base k).a)) (z.low g n base k).a := by
      show (if (z.low g n base k).e = 0 then _ else _) = _
      rw [if_pos h1]
    rw [h2] at e
    unfold lrNext at e
    rw [if_pos q2] at e
    rw [e]
    refine ⟨rfl, ?_, q3⟩
    dsimp only
    rw [q1, loA_succ (by omega)]
    omega
theorem len_back (ht : Tw g y z) (hok : y.ok) (base m : Nat) (hm : m ≤ 20) (hw : Within (y.ones base m).s f) (hf : FinC g n f) : ∀ k, k ≤ m →
    (z.len g n base k).go = true ∧ (z.len g n base k).n = k + 1 ∧ (z.len g n base k).e = 0 ∧ Tw g (y.ones base k) (z.len g n base k).x
  | 0, _ => ⟨rfl, rfl, rfl, ht⟩
  | k + 1, hk => by
    obtain ⟨h0, h1, h2, h3⟩ := len_back ht hok base m hm hw hf k (by omega)
    obtain ⟨q1, q2, q3⟩ := get1_back h3 (PS.ones_ok hok base k).1 (j := some (base + k)) (b := 1) (.inr rfl) ((ones_within hok base (show k + 1 ≤ m by omega)).trans hw) hf
    have e : z.len g n base (k + 1) = qrNext ((z.len g n base k).x.get1 g n (some (base + ((z.len g n base k).n - 1)))) (z.len g n base k).n := by
      show (if (z.len g n base k).go = true then _ else _) = _
      rw [if_pos h0]
    rw [h1, Nat.add_sub_cancel] at e
    unfold qrNext at e
    rw [if_pos q2, if_neg (by rw [q1]; decide)] at e
    rw [e]
    exact ⟨rfl, rfl, rfl, q3⟩
theorem GS.len_stop' {base k : Nat} (h : (z.len g n base k).go = false) : ∀ {q : Nat}, k ≤ q → z.len g n base q = z.len g n base k := by
  intro q hq
  induction q with
  | zero => rw [Nat.le_zero.1 hq]
  | succ q ih =>
    rcases Nat.eq_or_lt_of_le hq with h1 | h1
    · rw [h1]
    · have := ih (by omega)
      show (if (z.len g n base q).go = true then _ else z.len g n base q) = _
      rw [this, if_neg (by rw [h]; simp)]
theorem num_back (ht : Tw g y z) (hok : y.ok) (base : Nat) {v : Nat} (hv : v ≤ 1048576) (hw : Within (y.num base v).s f) (hf : FinC g n f) :
    (z.num g n base).v = v ∧ (z.num g n base).e = 0 ∧ Tw g (y.num base v) (z.num g n base).x := by
  obtain ⟨n1, n2⟩ := num_len hv
  obtain ⟨s1, s2⟩ := bitLen_spec (x := v + 1) (by omega) (by omega)
  unfold PS.num at hw ⊢
  generalize Lib.bitLen (v + 1) = N at *
  have hlo := PS.lens_ok hok base N
  have hwl : Within (y.lens base N).s f := (low_within hlo.1 base (v + 1) (N - 1) (k := 0) (Nat.zero_le _)).trans hw
  have hw1 : Within (y.ones base (N - 1)).s f := (lens_within hok base N).trans hwl
  obtain ⟨g0, g1, g2, g3⟩ := len_back ht hok base (N - 1) (by omega) hw1 hf (N - 1) (Nat.le_refl _)
  have key : (z.len g n base 20).e = 0 ∧ (z.len g n base 20).n = N ∧ Tw g (y.lens base N) (z.len g n base 20).x := by
    by_cases h21 : N < 21
    · have hl : y.lens base N = (y.ones base (N - 1)).put1 (some (base + (N - 1))) 0 := by unfold PS.lens; rw [if_pos h21]
      rw [hl] at hwl ⊢
      obtain ⟨q1, q2, q3⟩ := get1_back g3 (PS.ones_ok hok base (N - 1)).1 (.inl rfl) hwl hf
      have e : z.len g n base (N - 1 + 1) = qrNext ((z.len g n base (N - 1)).x.get1 g n (some (base + ((z.len g n base (N - 1)).n - 1)))) (z.len g n base (N - 1)).n := by
        show (if (z.len g n base (N - 1)).go = true then _ else _) = _
        rw [if_pos g0]
      rw [g1, Nat.add_sub_cancel] at e
      unfold qrNext at e
      rw [if_pos q2, if_pos q1] at e
      have e20 := GS.len_stop' (z := z) (g := g) (n := n) (base := base) (k := N - 1 + 1) (by rw [e]) (q := 20) (by omega)
      rw [e20, e]
      exact ⟨rfl, by dsimp only; omega, q3⟩
    · have hl : y.lens base N = y.ones base (N - 1) := by unfold PS.lens; rw [if_neg h21]
      rw [hl]
      rw [show N - 1 = 20 by omega] at g1 g2 g3 ⊢
      exact ⟨g2, by omega, g3⟩
  obtain ⟨k1, k2, k3⟩ := key
  obtain ⟨l1, l2, l3⟩ := low_back k3 hlo.1 base (v + 1) (N - 1) hw hf (N - 1) (Nat.le_refl _)
  have hval : 2 ^ (N - 1) + (v + 1) % 2 ^ (N - 1) - 1 = v := by
    have e : 2 ^ N = 2 * 2 ^ (N - 1) := by rw [← Nat.pow_succ']; congr 1; omega
    have : (v + 1) % 2 ^ (N - 1) = v + 1 - 2 ^ (N - 1) := by
      rw [Nat.mod_eq_sub_mod s1, Nat.mod_eq_of_lt (by omega)]
    omega
  rw [loA_all] at l2
  have e : z.num g n base = ⟨(v : Nat), 0, ((z.len g n base 20).x.low g n base (N - 1)).x⟩ := by
    unfold GS.num nrLen
    rw [if_pos k1, k2]
    unfold nrLow
    rw [if_pos l1, l2, hval, if_neg (by omega)]
  rw [e]
  exact ⟨rfl, rfl, l3⟩
theorem sgn_back (ht : Tw g y z) (hok : y.ok) (base : Nat) {v : Int} (hv : -1048576 ≤ v ∧ v ≤ 1048576) (hw : Within (y.sgn base v).s f) (hf : FinC g n f) :
    (z.sgn g n base).v = v ∧ (z.sgn g n base).e = 0 ∧ Tw g (y.sgn base v) (z.sgn g n base).x := by
  unfold PS.sgn at hw ⊢
  by_cases h0 : v = 0
  · subst h0
    rw [if_pos rfl] at hw ⊢
    obtain ⟨a1, a2, a3⟩ := num_back ht hok base (v := 0) (by omega) hw hf
    have e : z.sgn g n base = ⟨0, (z.num g n base).e, (z.num g n base).x⟩ := by
      unfold GS.sgn
      rw [if_neg (fun h => h.2 a1)]
    rw [e]
    exact ⟨rfl, a2, a3⟩
  · rw [if_neg h0] at hw ⊢
    have hno := PS.num_ok hok base (v := v.natAbs) (by omega)
    obtain ⟨a1, a2, a3⟩ := num_back ht hok base (v := v.natAbs) (by omega) ((put1_within hno.1 _ _).trans hw) hf
    obtain ⟨q1, q2, q3⟩ := get1_back a3 hno.1 (j := some (base + 36)) (b := if v < 0 then 1 else 0) (by split <;> simp) hw hf
    have e : z.sgn g n base = ⟨if ((z.num g n base).x.get1 g n (some (base + 36))).1 = 1 then -(z.num g n base).v else (z.num g n base).v, 0, ((z.num g n base).x.get1 g n (some (base + 36))).2.2⟩ := by
      unfold GS.sgn
      rw [if_pos ⟨a2, by rw [a1]; omega⟩]
      unfold nrSgn
      rw [if_pos q2]
    rw [e]
    refine ⟨?_, rfl, q3⟩
    dsimp only
    rw [q1, a1]
    by_cases hn : v < 0
    · rw [if_pos hn, if_pos rfl]; omega
    · rw [if_neg hn, if_neg (by decide)]; omega
theorem one_back (ht : Tw g y z) (hok : y.ok) (base : Nat) {m v : Nat} (h1 : 1 ≤ m) (h16 : m ≤ 16) (hv : v < m) (hw : Within (y.one base m v).s f) (hf : FinC g n f) :
    (z.one g n base m).v = v ∧ (z.one g n base m).e = 0 ∧ Tw g (y.one base m v) (z.one g n base m).x := by
  unfold PS.one at hw ⊢
  have hlt : v < 2 ^ Lib.bitLen (m - 1) := by
    rcases Nat.eq_zero_or_pos (m - 1) with h | h
    · have : v = 0 := by omega
      rw [this]
      exact Nat.pow_pos (by omega)
    · have := (bitLen_spec (x := m - 1) h (by omega)).2
      omega
  obtain ⟨l1, l2, l3⟩ := low_back ht hok base v (Lib.bitLen (m - 1)) hw hf (Lib.bitLen (m - 1)) (Nat.le_refl _)
  rw [loA_all, Nat.mod_eq_of_lt hlt] at l2
  have e : z.one g n base m = ⟨(v : Nat), 0, (z.low g n base (Lib.bitLen (m - 1))).x⟩ := by
    unfold GS.one nrOne
    rw [if_pos l1, l2, if_neg (by omega)]
  rw [e]
  exact ⟨rfl, rfl, l3⟩
end
end Go.Kin
