/- Layer 8 in plain numbers: steps, levels, what a block that is put makes of book and coder, what is got, and there and back. -/
import Derived.Test.YtmnoddmecghjdaaBk8
import Derived.Test.YtmnoddmecghjdaaLf5
set_option linter.unusedVariables false
namespace Go.Kin
open Go.RowKit
/-- The step of a quantiser at a place. -/
def stpS (q : Nat) : Nat := (4 + q % 4) * 2 ^ (q / 4)
def stp (q x y : Nat) : Nat := stpS q / 4 * (4 + x + y) / 4
def stpOk (q x y : Int) : Prop := 0 ≤ q ∧ q ≤ 31 ∧ 0 ≤ x ∧ x ≤ 7 ∧ 0 ≤ y ∧ y ≤ 7
instance (q x y : Int) : Decidable (stpOk q x y) := by unfold stpOk; infer_instance
def stpV (q x y : Int) : Int := if stpOk q x y then ((stp q.toNat x.toNat y.toNat : Nat) : Int) else 0
def stpE (q x y : Int) : Int := if stpOk q x y then 0 else 1
theorem stpS_bd {q : Nat} (h : q ≤ 31) : 4 ≤ stpS q ∧ stpS q ≤ 896 := by
  have h2 : ∀ q, q ≤ 31 → 4 ≤ stpS q ∧ stpS q ≤ 896 := by decide +kernel
  exact h2 q h
theorem stp_bd {q x y : Nat} (h : q ≤ 31) (hx : x ≤ 7) (hy : y ≤ 7) : 1 ≤ stp q x y ∧ stp q x y ≤ 1008 := by
  obtain ⟨h1, h2⟩ := stpS_bd h
  have h3 : 1 ≤ stpS q / 4 ∧ stpS q / 4 ≤ 224 := by omega
  unfold stp
  generalize stpS q / 4 = a at *
  have h4 : 4 ≤ 4 + x + y ∧ 4 + x + y ≤ 18 := by omega
  generalize 4 + x + y = b at *
  have l1 : 1 * 4 ≤ a * b := Nat.mul_le_mul h3.1 h4.1
  have l2 : a * b ≤ 224 * 18 := Nat.mul_le_mul h3.2 h4.2
  omega
/-- A number's level. -/
def levI (v s : Int) : Int := if s < 1 then 0 else if v < 0 then -((-v + s / 3) / s) else (v + s / 3) / s
theorem lev_pos {v s : Int} (hv : 0 ≤ v) (hs : 1 ≤ s) : 0 ≤ (v + s / 3) / s ∧ (v + s / 3) / s ≤ v := by
  have h3 : 0 ≤ s / 3 := by omega
  refine ⟨Int.ediv_nonneg (by omega) (by omega), ?_⟩
  have key : v + s / 3 < (v + 1) * s := by
    have e : (v + 1) * s = v * s + s := by rw [Int.add_mul, Int.one_mul]
    have e2 : v * 1 ≤ v * s := Int.mul_le_mul_of_nonneg_left hs hv
    rw [e]
    omega
  have := Int.ediv_lt_of_lt_mul (by omega) key
  omega
theorem levI_bd {v s M : Int} (hv : -M ≤ v ∧ v ≤ M) (hM : 0 ≤ M) : -M ≤ levI v s ∧ levI v s ≤ M := by
  unfold levI
  split
  · omega
  · split
    · have := lev_pos (v := -v) (s := s) (by omega) (by omega)
      omega
    · have := lev_pos (v := v) (s := s) (by omega) (by omega)
      omega
/-- What a level stands for. -/
def valI (l s : Int) : Int := if s < 1 then 0 else l * s
/-- How many numbers there are up to the last one that is not 0. -/
def cntZ (h : Nat → Int) : Nat → Nat
  | 0 => 0
  | n + 1 => if h n = 0 then cntZ h n else n + 1
theorem cntZ_le (h : Nat → Int) : ∀ n, cntZ h n ≤ n
  | 0 => Nat.le_refl _
  | n + 1 => by
    have := cntZ_le h n
    unfold cntZ
    split <;> omega
theorem cntZ_top {h : Nat → Int} : ∀ {n : Nat}, 0 < cntZ h n → h (cntZ h n - 1) ≠ 0
  | 0, h0 => by simp [cntZ] at h0
  | n + 1, h0 => by
    unfold cntZ at h0 ⊢
    split
    · rename_i hz
      rw [if_pos hz] at h0
      exact cntZ_top h0
    · rename_i hz
      simpa using hz
theorem cntZ_above {h : Nat → Int} : ∀ {n i : Nat}, cntZ h n ≤ i → i < n → h i = 0
  | 0, _, _, hi => by omega
  | n + 1, i, hc, hi => by
    unfold cntZ at hc
    split at hc
    · rename_i hz
      rcases Nat.lt_or_ge i n with h1 | h1
      · exact cntZ_above hc h1
      · rw [show i = n by omega]; exact hz
    · omega
theorem cntZ_congr {h h' : Nat → Int} : ∀ {n : Nat}, (∀ i, i < n → h i = h' i) → cntZ h n = cntZ h' n
  | 0, _ => rfl
  | n + 1, e => by
    unfold cntZ
    rw [e n (by omega), cntZ_congr (n := n) (fun i hi => e i (by omega))]
/-- A block's numbers in the order of its places; and taken back. -/
def srt (N : Nat) (g : Nat → Int) (i : Nat) : Int := g (zg (sideN N) i)
def uns (N : Nat) (h : Nat → Int) (j : Nat) : Int := h (zi (sideN N) j)
theorem sideN_yes {N : Nat} (h : sideN N ≠ 0) : N = 16 ∨ N = 64 := by
  unfold sideN at h
  by_cases h1 : N = 16
  · exact .inl h1
  · by_cases h2 : N = 64
    · exact .inr h2
    · rw [if_neg h1, if_neg h2] at h
      exact absurd rfl h
theorem zg_lt {N : Nat} (h : sideN N ≠ 0) {i : Nat} (hi : i < N) : zg (sideN N) i < N := by
  rcases sideN_yes h with rfl | rfl
  · exact zg4_lt i hi
  · exact zg8_lt i hi
theorem zi_lt {N : Nat} (h : sideN N ≠ 0) {i : Nat} (hi : i < N) : zi (sideN N) i < N := by
  rcases sideN_yes h with rfl | rfl
  · exact zi4_lt i hi
  · exact zi8_lt i hi
theorem zg_zi {N : Nat} (h : sideN N ≠ 0) {i : Nat} (hi : i < N) : zg (sideN N) (zi (sideN N) i) = i := by
  rcases sideN_yes h with rfl | rfl
  · exact zg4_zi i hi
  · exact zg8_zi i hi
theorem uns_srt {N : Nat} (h : sideN N ≠ 0) (g : Nat → Int) {j : Nat} (hj : j < N) : uns N (srt N g) j = g j := by
  unfold uns srt
  rw [zg_zi h hj]
theorem uns_congr {N : Nat} (h : sideN N ≠ 0) {a b : Nat → Int} (e : ∀ i, i < N → a i = b i) {j : Nat} (hj : j < N) : uns N a j = uns N b j := e _ (zi_lt h hj)
/-- Numbers with a sign, one behind the other. -/
def PS.lvs (y : PS) (base : Nat) (h : Nat → Int) : Nat → PS
  | 0 => y
  | k + 1 => (y.lvs base h k).sgn base (h k)
/-- A block that is put. -/
def PS.blk (y : PS) (t N : Nat) (g : Nat → Int) : PS := (y.num (37 * t) (cntZ (srt N g) N)).lvs (37 * (t + 1)) (srt N g) (cntZ (srt N g) N)
section
variable {y : PS} {base N t : Nat} {h g : Nat → Int}
theorem PS.lvs_ok (hy : y.ok) {n : Nat} (hh : ∀ i, i < n → -1048576 ≤ h i ∧ h i ≤ 1048576) : ∀ k, k ≤ n → (y.lvs base h k).ok ∧ (y.lvs base h k).s.L ≤ y.s.L + 44 * k ∧ y.s.L ≤ (y.lvs base h k).s.L
  | 0, _ => ⟨hy, by simp [PS.lvs], Nat.le_refl _⟩
  | k + 1, hk => by
    obtain ⟨h1, h2, h3⟩ := PS.lvs_ok hy hh k (by omega)
    obtain ⟨h4, h5, h6⟩ := PS.sgn_ok h1 base (hh k (by omega))
    exact ⟨h4, by simp only [PS.lvs]; omega, by simp only [PS.lvs]; omega⟩
theorem lvs_within (hy : y.ok) {n : Nat} (hh : ∀ i, i < n → -1048576 ≤ h i ∧ h i ≤ 1048576) {k : Nat} : ∀ {q : Nat}, k ≤ q → q ≤ n → Within (y.lvs base h k).s (y.lvs base h q).s := by
  intro q hkq hq
  induction q with
  | zero => rw [Nat.le_zero.1 hkq]; exact Within.refl _
  | succ q ih =>
    rcases Nat.eq_or_lt_of_le hkq with h1 | h1
    · rw [h1]; exact Within.refl _
    · exact (ih (by omega) (by omega)).trans (sgn_within (PS.lvs_ok hy hh q (by omega)).1 base (hh q (by omega)))
theorem srt_bd (hs : sideN N ≠ 0) (hg : Wi 1048576 N g) : ∀ i, i < N → -1048576 ≤ srt N g i ∧ srt N g i ≤ 1048576 := fun i hi => hg _ (zg_lt hs hi)
theorem PS.blk_ok (hy : y.ok) (hs : sideN N ≠ 0) (hg : Wi 1048576 N g) : (y.blk t N g).ok ∧ (y.blk t N g).s.L ≤ y.s.L + 2900 ∧ y.s.L ≤ (y.blk t N g).s.L := by
  have hc := cntZ_le (srt N g) N
  have hN : N ≤ 64 := by rcases sideN_yes hs with h | h <;> omega
  obtain ⟨h1, h2, h3⟩ := PS.num_ok hy (37 * t) (v := cntZ (srt N g) N) (by omega)
  obtain ⟨h4, h5, h6⟩ := PS.lvs_ok (base := 37 * (t + 1)) h1 (srt_bd hs hg) (cntZ (srt N g) N) hc
  unfold PS.blk
  exact ⟨h4, by omega, by omega⟩
theorem blk_within (hy : y.ok) (hs : sideN N ≠ 0) (hg : Wi 1048576 N g) : Within y.s (y.blk t N g).s := by
  have hc := cntZ_le (srt N g) N
  have hN : N ≤ 64 := by rcases sideN_yes hs with h | h <;> omega
  exact (num_within hy (37 * t) _).trans (lvs_within (base := 37 * (t + 1)) (PS.num_ok hy (37 * t) (by omega)).1 (srt_bd hs hg) (Nat.zero_le _) hc)
end
/-- Numbers that were got: an error, they, and what is then. -/
structure VR where
  e : Int
  h : Nat → Int
  x : GS
def vrNext (q : NR) (k : Nat) (h : Nat → Int) : VR := ⟨q.e, fun i => if i = k then q.v else h i, q.x⟩
def GS.lvs (g : Nat → Int) (m : Nat) (z : GS) (base : Nat) : Nat → VR
  | 0 => ⟨0, fun _ => 0, z⟩
  | k + 1 => if (z.lvs g m base k).e = 0 then vrNext ((z.lvs g m base k).x.sgn g m base) k (z.lvs g m base k).h else z.lvs g m base k
def vrEnd (q : VR) (c : Nat) : VR := if q.e = 0 then (if 0 < c ∧ q.h (c - 1) = 0 then ⟨51, fun _ => 0, q.x⟩ else q) else ⟨q.e, fun _ => 0, q.x⟩
/-- A block that is got. -/
def GS.blk (g : Nat → Int) (m : Nat) (z : GS) (t N : Nat) : VR := if (z.num g m (37 * t)).e = 0 then (if (N : Int) < (z.num g m (37 * t)).v then ⟨51, fun _ => 0, (z.num g m (37 * t)).x⟩ else vrEnd ((z.num g m (37 * t)).x.lvs g m (37 * (t + 1)) (z.num g m (37 * t)).v.toNat) (z.num g m (37 * t)).v.toNat) else ⟨(z.num g m (37 * t)).e, fun _ => 0, (z.num g m (37 * t)).x⟩
section
variable {g : Nat → Int} {m : Nat} {z : GS} {base : Nat}
theorem GS.sgn_ok (hg : Byt g) (h : z.ok m) (base : Nat) : (z.sgn g m base).x.ok m ∧ ((z.sgn g m base).e = 0 ∨ ((z.sgn g m base).v = 0 ∧ (z.sgn g m base).e = 41) ∨ ((z.sgn g m base).v = 0 ∧ (z.sgn g m base).e = 51)) := by
  obtain ⟨h1, h2, h3, h4⟩ := GS.num_ok hg h base
  unfold GS.sgn
  split
  · have := GS.get1_ok hg h1 (some (base + 36))
    have he := GS.get1_err g m h1.1 (some (base + 36))
    unfold nrSgn
    split
    · exact ⟨this, .inl rfl⟩
    · exact ⟨this, .inr (.inl ⟨rfl, by dsimp only; omega⟩)⟩
  · refine ⟨h1, ?_⟩
    rcases h4 with h | ⟨_, h⟩ | ⟨_, h⟩
    · exact .inl h
    · exact .inr (.inl ⟨rfl, h⟩)
    · exact .inr (.inr ⟨rfl, h⟩)
theorem GS.lvs_ok (hg : Byt g) (h : z.ok m) (base : Nat) : ∀ k, (z.lvs g m base k).x.ok m ∧ ((z.lvs g m base k).e = 0 ∨ (z.lvs g m base k).e = 41 ∨ (z.lvs g m base k).e = 51)
  | 0 => ⟨h, .inl rfl⟩
  | k + 1 => by
    obtain ⟨h1, h2⟩ := GS.lvs_ok hg h base k
    unfold GS.lvs
    split
    · obtain ⟨h3, h4⟩ := GS.sgn_ok hg h1 base
      refine ⟨h3, ?_⟩
      rcases h4 with h | ⟨_, h⟩ | ⟨_, h⟩ <;> simp [vrNext, h]
    · exact ⟨h1, h2⟩
theorem GS.lvs_stop {k : Nat} (h : (z.lvs g m base k).e ≠ 0) : ∀ {n : Nat}, k ≤ n → z.lvs g m base n = z.lvs g m base k := by
  intro n hn
  induction n with
  | zero => rw [Nat.le_zero.1 hn]
  | succ n ih =>
    rcases Nat.eq_or_lt_of_le hn with h1 | h1
    · rw [h1]
    · have := ih (by omega)
      show (if (z.lvs g m base n).e = 0 then _ else z.lvs g m base n) = _
      rw [this, if_neg h]
theorem GS.blk_ok (hg : Byt g) (h : z.ok m) (t N : Nat) : (z.blk g m t N).x.ok m ∧ ((z.blk g m t N).e = 0 ∨ (z.blk g m t N).e = 41 ∨ (z.blk g m t N).e = 51) := by
  obtain ⟨h1, h2, h3, h4⟩ := GS.num_ok hg h (37 * t)
  unfold GS.blk
  split
  · split
    · exact ⟨h1, .inr (.inr rfl)⟩
    · obtain ⟨h5, h6⟩ := GS.lvs_ok hg h1 (37 * (t + 1)) (z.num g m (37 * t)).v.toNat
      unfold vrEnd
      split
      · split
        · exact ⟨h5, .inr (.inr rfl)⟩
        · exact ⟨h5, h6⟩
      · exact ⟨h5, h6⟩
  · refine ⟨h1, ?_⟩
    rcases h4 with h | ⟨_, h⟩ | ⟨_, h⟩ <;> simp [h]
end
section
variable {g : Nat → Int} {n : Nat} {f : St} {y : PS} {z : GS}
theorem lvs_back (ht : Tw g y z) (hok : y.ok) (base : Nat) {h : Nat → Int} {c : Nat} (hh : ∀ i, i < c → -1048576 ≤ h i ∧ h i ≤ 1048576) (hw : Within (y.lvs base h c).s f) (hf : FinC g n f) : ∀ k, k ≤ c →
    (z.lvs g n base k).e = 0 ∧ (∀ i, (z.lvs g n base k).h i = if i < k then h i else 0) ∧ Tw g (y.lvs base h k) (z.lvs g n base k).x
  | 0, _ => ⟨rfl, fun i => by simp [GS.lvs], ht⟩
  | k + 1, hk => by
    obtain ⟨h1, h2, h3⟩ := lvs_back ht hok base hh hw hf k (by omega)
    obtain ⟨a, b, d⟩ := sgn_back h3 (PS.lvs_ok hok hh k (by omega)).1 base (hh k (by omega)) ((lvs_within hok hh (k := k + 1) hk (Nat.le_refl _)).trans hw) hf
    have e : z.lvs g n base (k + 1) = vrNext ((z.lvs g n base k).x.sgn g n base) k (z.lvs g n base k).h := by
      show (if (z.lvs g n base k).e = 0 then _ else _) = _
      rw [if_pos h1]
    rw [e]
    refine ⟨b, fun i => ?_, d⟩
    show (if i = k then _ else _) = _
    by_cases hik : i = k
    · rw [if_pos hik, if_pos (by omega), a, hik]
    · rw [if_neg hik, h2 i]
      by_cases h4 : i < k
      · rw [if_pos h4, if_pos (by omega)]
      · rw [if_neg h4, if_neg (by omega)]
/-- A block that was put is got. -/
theorem blk_back (ht : Tw g y z) (hok : y.ok) (t : Nat) {N : Nat} {b : Nat → Int} (hs : sideN N ≠ 0) (hb : Wi 1048576 N b) (hw : Within (y.blk t N b).s f) (hf : FinC g n f) :
    (z.blk g n t N).e = 0 ∧ (∀ j, j < N → uns N (z.blk g n t N).h j = b j) ∧ Tw g (y.blk t N b) (z.blk g n t N).x := by
  have hc := cntZ_le (srt N b) N
  have htop := cntZ_top (h := srt N b) (n := N)
  have habo := fun i => cntZ_above (h := srt N b) (n := N) (i := i)
  have hN : N ≤ 64 := by rcases sideN_yes hs with h | h <;> omega
  have hbd := srt_bd hs hb
  unfold PS.blk at hw ⊢
  generalize cntZ (srt N b) N = c at *
  have hok1 := (PS.num_ok hok (37 * t) (v := c) (by omega)).1
  have hbd' : ∀ i, i < c → -1048576 ≤ srt N b i ∧ srt N b i ≤ 1048576 := fun i hi => hbd i (by omega)
  have hw1 : Within (y.num (37 * t) c).s f := (lvs_within (base := 37 * (t + 1)) hok1 hbd' (Nat.zero_le _) (Nat.le_refl _)).trans hw
  obtain ⟨n1, n2, n3⟩ := num_back ht hok (37 * t) (v := c) (by omega) hw1 hf
  obtain ⟨l1, l2, l3⟩ := lvs_back n3 hok1 (37 * (t + 1)) hbd' hw hf c (Nat.le_refl _)
  have e : z.blk g n t N = (z.num g n (37 * t)).x.lvs g n (37 * (t + 1)) c := by
    unfold GS.blk
    rw [if_pos n2, n1, if_neg (by omega), Int.toNat_natCast]
    unfold vrEnd
    rw [if_pos l1, if_neg]
    rintro ⟨h1, h2⟩
    rw [l2, if_pos (by omega)] at h2
    exact htop h1 h2
  rw [e]
  refine ⟨l1, fun j hj => ?_, l3⟩
  rw [← uns_srt hs b hj]
  refine uns_congr hs (fun i hi => ?_) hj
  rw [l2]
  by_cases h1 : i < c
  · rw [if_pos h1]
  · rw [if_neg h1, habo i (by omega) hi]
end
end Go.Kin
