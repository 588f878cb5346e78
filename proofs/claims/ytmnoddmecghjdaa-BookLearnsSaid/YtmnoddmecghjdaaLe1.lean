/- BookLearns in plain numbers: the same number, put again and again. -/
import Derived.Test.YtmnoddmecghjdaaAc1
set_option linter.unusedVariables false
namespace Go.Kin
def bi (b : Bool) : Int := if b then 1 else 0
/-- The places and bits of a number of at most four bits. -/
def pat (v : Nat) : List (Nat × Bool) :=
  match v with
  | 0 => [(0, false)]
  | 1 => [(0, true), (1, false), (20, false)]
  | 2 => [(0, true), (1, false), (20, true)]
  | 3 => [(0, true), (1, true), (2, false), (20, false), (21, false)]
  | 4 => [(0, true), (1, true), (2, false), (20, false), (21, true)]
  | 5 => [(0, true), (1, true), (2, false), (20, true), (22, false)]
  | 6 => [(0, true), (1, true), (2, false), (20, true), (22, true)]
  | 7 => [(0, true), (1, true), (2, true), (3, false), (20, false), (21, false), (23, false)]
  | 8 => [(0, true), (1, true), (2, true), (3, false), (20, false), (21, false), (23, true)]
  | 9 => [(0, true), (1, true), (2, true), (3, false), (20, false), (21, true), (24, false)]
  | 10 => [(0, true), (1, true), (2, true), (3, false), (20, false), (21, true), (24, true)]
  | 11 => [(0, true), (1, true), (2, true), (3, false), (20, true), (22, false), (25, false)]
  | 12 => [(0, true), (1, true), (2, true), (3, false), (20, true), (22, false), (25, true)]
  | 13 => [(0, true), (1, true), (2, true), (3, false), (20, true), (22, true), (26, false)]
  | _ => [(0, true), (1, true), (2, true), (3, false), (20, true), (22, true), (26, true)]
def PS.many (x : PS) (base : Nat) : List (Nat × Bool) → PS
  | [] => x
  | p :: ps => PS.many (x.put1 (some (base + p.1)) (bi p.2)) base ps
theorem num_pat (x : PS) (base v : Nat) (hv : v ≤ 14) : x.num base v = x.many base (pat v) := by
  rcases (show v = 0 ∨ v = 1 ∨ v = 2 ∨ v = 3 ∨ v = 4 ∨ v = 5 ∨ v = 6 ∨ v = 7 ∨ v = 8 ∨ v = 9 ∨ v = 10 ∨ v = 11 ∨ v = 12 ∨ v = 13 ∨ v = 14 by omega) with h | h | h | h | h | h | h | h | h | h | h | h | h | h | h <;> subst h <;> rfl
def nxN (c : Nat) (b : Bool) : Nat := if b then c - c / 32 else c + (2048 - c) / 32
theorem nxN_spec {c : Nat} (b : Bool) (h1 : 31 ≤ c) (h2 : c ≤ 2017) : nextP c (bi b) = (nxN c b : Nat) ∧ 31 ≤ nxN c b ∧ nxN c b ≤ 2017 := by
  have := nextP_bd c (bi b)
  have e : nextP c (bi b) = (nxN c b : Nat) := by
    unfold nextP nxN bi
    cases b <;> simp <;> omega
  exact ⟨e, by omega, by omega⟩
/-- Range and bytes behind bits whose chances are u for ones and d for others. -/
def mach : List (Nat × Bool) → Nat → Nat → Nat → Nat → Nat × Nat
  | [], R, L, _, _ => (R, L)
  | p :: ps, R, L, u, d => if (if p.2 then R - R / 2048 * u else R / 2048 * d) < 16777216 then mach ps ((if p.2 then R - R / 2048 * u else R / 2048 * d) * 256) (L + 1) u d else mach ps (if p.2 then R - R / 2048 * u else R / 2048 * d) L u d
def apt (ps : List (Nat × Bool)) : Prop := (ps.map (·.1)).Nodup
theorem many_spec {base u d : Nat} (hu : 31 ≤ u ∧ u ≤ 2017) (hd : 31 ≤ d ∧ d ≤ 2017) : ∀ (ps : List (Nat × Bool)) (x : PS), apt ps → (∀ p, p ∈ ps → x.C (base + p.1) = ((if p.2 then u else d : Nat) : Int)) →
    (∀ p, p ∈ ps → (x.many base ps).C (base + p.1) = ((if p.2 then nxN u true else nxN d false : Nat) : Int)) ∧ (∀ j, (∀ p, p ∈ ps → j ≠ base + p.1) → (x.many base ps).C j = x.C j) ∧ mach ps x.s.R x.s.L u d = ((x.many base ps).s.R, (x.many base ps).s.L)
  | [], x, _, _ => ⟨fun p hp => absurd hp (by simp), fun j _ => rfl, rfl⟩
  | p :: ps, x, hn, hC => by
    have hn' : p.1 ∉ ps.map (·.1) ∧ apt ps := by unfold apt at hn ⊢; simpa using hn
    have h0 := hC p (by simp)
    have hne : ∀ q, q ∈ ps → base + q.1 ≠ base + p.1 := fun q hq he => hn'.1 (List.mem_map.2 ⟨q, hq, by omega⟩)
    obtain ⟨k1, k2, k3⟩ := many_spec hu hd ps (x.put1 (some (base + p.1)) (bi p.2)) hn'.2 (fun q hq => by
      unfold PS.put1 nxC bset
      dsimp only
      rw [if_neg (hne q hq)]
      exact hC q (by simp [hq]))
    have hput : (x.put1 (some (base + p.1)) (bi p.2)).s = x.s.put (if p.2 then u else d) (bi p.2).toNat := by
      show x.s.putI (x.C (base + p.1)) (bi p.2) = _
      rw [h0]
      unfold St.putI
      rw [if_pos ⟨chB_iff.2 (by cases p.2 <;> simp <;> omega), by unfold bi; cases p.2 <;> simp⟩]
      rfl
    refine ⟨fun q hq => ?_, fun j hj => ?_, ?_⟩
    · rcases List.mem_cons.1 hq with rfl | hq
      · show ((x.put1 (some (base + q.1)) (bi q.2)).many base ps).C (base + q.1) = _
        rw [k2 (base + q.1) (fun r hr => (hne r hr).symm)]
        unfold PS.put1 nxC bset
        dsimp only
        rw [if_pos rfl, h0]
        cases hb : q.2
        · exact (nxN_spec false hd.1 hd.2).1
        · exact (nxN_spec true hu.1 hu.2).1
      · exact k1 q hq
    · show ((x.put1 (some (base + p.1)) (bi p.2)).many base ps).C j = _
      rw [k2 j (fun r hr => hj r (by simp [hr]))]
      unfold PS.put1 nxC bset
      dsimp only
      rw [if_neg (hj p (by simp))]
    · show mach (p :: ps) x.s.R x.s.L u d = (((x.put1 (some (base + p.1)) (bi p.2)).many base ps).s.R, ((x.put1 (some (base + p.1)) (bi p.2)).many base ps).s.L)
      rw [← k3, hput]
      unfold St.put St.norm St.half St.bd bi
      rw [mach]
      cases hb : p.2
      · simp only [Bool.false_eq_true, if_false, if_true, Int.toNat_zero]
        split <;> rfl
      · simp only [if_true]
        rw [if_neg (by decide : ¬ (1 : Int).toNat = 0)]
        dsimp only
        split <;> rfl
structure LN where
  R : Nat
  L : Nat
  u : Nat
  d : Nat
def lnNext (ps : List (Nat × Bool)) (s : LN) : LN := ⟨(mach ps s.R s.L s.u s.d).1, (mach ps s.R s.L s.u s.d).2, nxN s.u true, nxN s.d false⟩
def lnRun (ps : List (Nat × Bool)) : Nat → LN
  | 0 => ⟨4294967295, 4, 1024, 1024⟩
  | k + 1 => lnNext ps (lnRun ps k)
/-- A number, put k times. -/
def again (base v : Nat) : Nat → PS
  | 0 => PS0
  | k + 1 => (again base v k).num base v
theorem pat_apt (v : Nat) (hv : v ≤ 14) : apt (pat v) := by
  unfold apt
  rcases (show v = 0 ∨ v = 1 ∨ v = 2 ∨ v = 3 ∨ v = 4 ∨ v = 5 ∨ v = 6 ∨ v = 7 ∨ v = 8 ∨ v = 9 ∨ v = 10 ∨ v = 11 ∨ v = 12 ∨ v = 13 ∨ v = 14 by omega) with h | h | h | h | h | h | h | h | h | h | h | h | h | h | h <;> subst h <;> decide
theorem again_ln (base v : Nat) (hv : v ≤ 14) : ∀ k, (∀ p, p ∈ pat v → (again base v k).C (base + p.1) = ((if p.2 then (lnRun (pat v) k).u else (lnRun (pat v) k).d : Nat) : Int)) ∧ (again base v k).s.R = (lnRun (pat v) k).R ∧ (again base v k).s.L = (lnRun (pat v) k).L ∧ (31 ≤ (lnRun (pat v) k).u ∧ (lnRun (pat v) k).u ≤ 2017) ∧ (31 ≤ (lnRun (pat v) k).d ∧ (lnRun (pat v) k).d ≤ 2017)
  | 0 => by
    refine ⟨fun p _ => ?_, rfl, rfl, by simp [lnRun], by simp [lnRun]⟩
    show (1024 : Int) = _
    cases p.2 <;> rfl
  | k + 1 => by
    obtain ⟨h1, h2, h3, h4, h5⟩ := again_ln base v hv k
    obtain ⟨k1, _, k3⟩ := many_spec h4 h5 (pat v) (again base v k) (pat_apt v hv) h1
    show (∀ p, p ∈ pat v → ((again base v k).num base v).C (base + p.1) = ((if p.2 then nxN (lnRun (pat v) k).u true else nxN (lnRun (pat v) k).d false : Nat) : Int)) ∧ ((again base v k).num base v).s.R = (mach (pat v) (lnRun (pat v) k).R (lnRun (pat v) k).L (lnRun (pat v) k).u (lnRun (pat v) k).d).1 ∧ ((again base v k).num base v).s.L = (mach (pat v) (lnRun (pat v) k).R (lnRun (pat v) k).L (lnRun (pat v) k).u (lnRun (pat v) k).d).2 ∧ (31 ≤ nxN (lnRun (pat v) k).u true ∧ nxN (lnRun (pat v) k).u true ≤ 2017) ∧ (31 ≤ nxN (lnRun (pat v) k).d false ∧ nxN (lnRun (pat v) k).d false ≤ 2017)
    rw [num_pat _ _ _ hv, ← h2, ← h3, k3]
    exact ⟨k1, rfl, rfl, (nxN_spec true h4.1 h4.2).2, (nxN_spec false h5.1 h5.2).2⟩
def lnGood (v : Nat) : Bool := decide ((lnRun (pat v) 200).L ≤ (lnRun (pat v) 100).L + ((lnRun (pat v) 100).L / 2 + 2))
set_option maxRecDepth 100000 in
theorem ln_good (v : Nat) (hv : v ≤ 14) : lnGood v = true := by
  rcases (show v = 0 ∨ v = 1 ∨ v = 2 ∨ v = 3 ∨ v = 4 ∨ v = 5 ∨ v = 6 ∨ v = 7 ∨ v = 8 ∨ v = 9 ∨ v = 10 ∨ v = 11 ∨ v = 12 ∨ v = 13 ∨ v = 14 by omega) with h | h | h | h | h | h | h | h | h | h | h | h | h | h | h <;> subst h <;> decide +kernel
theorem again_good (base v : Nat) (hv : v ≤ 14) : (again base v 200).s.L ≤ (again base v 100).s.L + ((again base v 100).s.L / 2 + 2) := by
  rw [(again_ln base v hv 200).2.2.1, (again_ln base v hv 100).2.2.1]
  exact of_decide_eq_true (ln_good v hv)
theorem again_ok (base v : Nat) (hv : v ≤ 14) : ∀ k, (again base v k).ok ∧ (again base v k).s.L ≤ 4 + 43 * k ∧ 4 ≤ (again base v k).s.L
  | 0 => ⟨PS0_ok, by simp [again, PS0], by simp [again, PS0]⟩
  | k + 1 => by
    obtain ⟨h1, h2, h3⟩ := again_ok base v hv k
    obtain ⟨h4, h5, h6⟩ := PS.num_ok h1 base (v := v) (by omega)
    exact ⟨h4, by simp only [again]; omega, by simp only [again]; omega⟩
end Go.Kin
