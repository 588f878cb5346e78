/- Layer 7 in plain numbers: a line's transform there and back, that of a block by rows and by columns, and bounds. -/
import Derived.Test.YtmnoddmecghjdaaCom
set_option linter.unusedVariables false
namespace Go.Kin
/-- One step there: 2m numbers, their low halves ahead. -/
def fst1 (m : Nat) (l : Nat → Int) (i : Nat) : Int := if i < m then (l (2 * i) + l (2 * i + 1)) / 2 else if i < 2 * m then l (2 * (i - m)) - l (2 * (i - m) + 1) else l i
def fwd : Nat → (Nat → Int) → Nat → Int
  | 0, l => l
  | k + 1, l => fwd k (fst1 (2 ^ k) l)
/-- One step back. -/
def bst1 (m : Nat) (l : Nat → Int) (i : Nat) : Int := if i < 2 * m then (if i % 2 = 0 then l (i / 2) + (l (m + i / 2) + 1) / 2 else l (i / 2) + (l (m + i / 2) + 1) / 2 - l (m + i / 2)) else l i
def bck : Nat → (Nat → Int) → Nat → Int
  | 0, l => l
  | k + 1, l => bst1 (2 ^ k) (bck k l)
def lin (b : Bool) (k : Nat) : (Nat → Int) → Nat → Int := if b then bck k else fwd k
theorem two_pow_succ (k : Nat) : 2 ^ (k + 1) = 2 * 2 ^ k := by rw [Nat.pow_succ, Nat.mul_comm]
theorem fst1_congr {m : Nat} {l h : Nat → Int} (e : ∀ i, i < 2 * m → l i = h i) : ∀ i, i < 2 * m → fst1 m l i = fst1 m h i := by
  intro i hi
  unfold fst1
  by_cases h1 : i < m
  · rw [if_pos h1, if_pos h1, e _ (by omega), e _ (by omega)]
  · rw [if_neg h1, if_neg h1, if_pos hi, if_pos hi, e _ (by omega), e _ (by omega)]
/-- Beyond its numbers a line stays. -/
theorem fwd_out : ∀ {k i : Nat} {l : Nat → Int}, 2 ^ k ≤ i → fwd k l i = l i
  | 0, _, _, _ => rfl
  | k + 1, i, l, h => by
    have hk := two_pow_succ k
    unfold fwd
    rw [fwd_out (by omega)]
    unfold fst1
    rw [if_neg (by omega), if_neg (by omega)]
theorem fwd_congr : ∀ {k : Nat} {l h : Nat → Int}, (∀ i, i < 2 ^ k → l i = h i) → ∀ i, i < 2 ^ k → fwd k l i = fwd k h i
  | 0, _, _, e => e
  | k + 1, l, h, e => by
    have hk := two_pow_succ k
    intro i hi
    have e1 := fst1_congr (m := 2 ^ k) (fun i hi => e i (by omega))
    unfold fwd
    by_cases hi' : i < 2 ^ k
    · exact fwd_congr (fun j hj => e1 j (by omega)) i hi'
    · rw [fwd_out (by omega), fwd_out (by omega)]
      exact e1 i (by omega)
theorem bck_out : ∀ {k i : Nat} {l : Nat → Int}, 2 ^ k ≤ i → bck k l i = l i
  | 0, _, _, _ => rfl
  | k + 1, i, l, h => by
    have hk := two_pow_succ k
    unfold bck bst1
    rw [if_neg (by omega), bck_out (by omega)]
theorem bck_congr : ∀ {k : Nat} {l h : Nat → Int}, (∀ i, i < 2 ^ k → l i = h i) → ∀ i, i < 2 ^ k → bck k l i = bck k h i
  | 0, _, _, e => e
  | k + 1, l, h, e => by
    have hk := two_pow_succ k
    intro i hi
    have e1 := bck_congr (k := k) (fun i hi => e i (by omega))
    have e2 : ∀ i, i < 2 ^ (k + 1) → bck k l i = bck k h i := fun j hj => by
      by_cases hj' : j < 2 ^ k
      · exact e1 j hj'
      · rw [bck_out (by omega), bck_out (by omega)]; exact e j hj
    have h1 := e2 (i / 2) (by omega)
    have h2 := e2 (2 ^ k + i / 2) (by omega)
    show bst1 (2 ^ k) (bck k l) i = bst1 (2 ^ k) (bck k h) i
    unfold bst1
    rw [h1, h2, e2 i hi]
theorem lin_congr {b : Bool} {k : Nat} {l h : Nat → Int} (e : ∀ i, i < 2 ^ k → l i = h i) : ∀ i, i < 2 ^ k → lin b k l i = lin b k h i := by
  unfold lin
  split
  · exact bck_congr e
  · exact fwd_congr e
theorem lin_out {b : Bool} {k i : Nat} {l : Nat → Int} (h : 2 ^ k ≤ i) : lin b k l i = l i := by
  unfold lin
  split
  · exact bck_out h
  · exact fwd_out h
/-- All of the first n numbers are from -M to M. -/
def Wi (M : Int) (n : Nat) (l : Nat → Int) : Prop := ∀ i, i < n → -M ≤ l i ∧ l i ≤ M
theorem Wi.mono {M M' : Int} {n n' : Nat} {l : Nat → Int} (h : Wi M n l) (hM : M ≤ M') (hn : n' ≤ n) : Wi M' n' l := fun i hi => by
  have := h i (by omega)
  omega
theorem fst1_lo {M : Int} {m : Nat} {l : Nat → Int} (h : Wi M (2 * m) l) : Wi M m (fst1 m l) := fun i hi => by
  have h1 := h (2 * i) (by omega)
  have h2 := h (2 * i + 1) (by omega)
  unfold fst1
  rw [if_pos hi]
  omega
theorem fst1_hi {M : Int} {m : Nat} {l : Nat → Int} (h : Wi M (2 * m) l) (hM : 0 ≤ M) : Wi (2 * M) (2 * m) (fst1 m l) := fun i hi => by
  by_cases hi' : i < m
  · have := fst1_lo h i hi'
    omega
  · have h1 := h (2 * (i - m)) (by omega)
    have h2 := h (2 * (i - m) + 1) (by omega)
    unfold fst1
    rw [if_neg hi', if_pos hi]
    omega
theorem fwd_bd : ∀ {k : Nat} {M : Int} {l : Nat → Int}, 0 ≤ M → Wi M (2 ^ k) l → Wi (2 * M) (2 ^ k) (fwd k l) ∧ -M ≤ fwd k l 0 ∧ fwd k l 0 ≤ M
  | 0, M, l, hM, h => ⟨h.mono (by omega) (Nat.le_refl _), h 0 (by omega)⟩
  | k + 1, M, l, hM, h => by
    have hk := two_pow_succ k
    have hp : 0 < 2 ^ k := Nat.pow_pos (by omega)
    have h' : Wi M (2 * 2 ^ k) l := h.mono (by omega) (by omega)
    have h1 := fst1_lo h'
    have h2 := fst1_hi h' hM
    obtain ⟨r1, r2⟩ := fwd_bd hM h1
    refine ⟨fun i hi => ?_, r2⟩
    by_cases hi' : i < 2 ^ k
    · exact r1 i hi'
    · unfold fwd
      rw [fwd_out (by omega)]
      exact h2 i (by omega)
theorem bst1_bd {M X : Int} {m : Nat} {l : Nat → Int} (hM : 1 ≤ M) (h1 : Wi X m l) (h2 : ∀ i, m ≤ i → i < 2 * m → -M ≤ l i ∧ l i ≤ M) : Wi (X + M) (2 * m) (bst1 m l) := fun i hi => by
  have a := h1 (i / 2) (by omega)
  have b := h2 (m + i / 2) (by omega) (by omega)
  unfold bst1
  rw [if_pos hi]
  split <;> omega
theorem bck_bd : ∀ {k : Nat} {M : Int} {l : Nat → Int}, 1 ≤ M → Wi M (2 ^ k) l → Wi ((k + 1) * M) (2 ^ k) (bck k l)
  | 0, M, l, hM, h => h.mono (by simp) (Nat.le_refl _)
  | k + 1, M, l, hM, h => by
    have hk := two_pow_succ k
    have r := bck_bd (k := k) hM (h.mono (Int.le_refl _) (by omega))
    have := bst1_bd hM r (fun i h1 h2 => by rw [bck_out h1]; exact h i (by omega))
    refine this.mono ?_ (by omega)
    have e : (((k + 1 : Nat) : Int) + 1) * M = ((k : Int) + 1) * M + M := by rw [Int.natCast_add, Int.natCast_one, Int.add_mul ((k : Int) + 1) 1 M, Int.one_mul]
    omega
theorem lin_bd {b : Bool} {k : Nat} {M : Int} {l : Nat → Int} (hk : k ≤ 3) (hM : 1 ≤ M) (h : Wi M (2 ^ k) l) : Wi (4 * M) (2 ^ k) (lin b k l) := by
  unfold lin
  split
  · have := bck_bd hM h
    refine this.mono ?_ (Nat.le_refl _)
    have : ((k : Int) + 1) * M ≤ 4 * M := Int.mul_le_mul_of_nonneg_right (by omega) (by omega)
    exact this
  · exact (fwd_bd (by omega) h).1.mono (by omega) (Nat.le_refl _)
/-- Each row of a block of side n. -/
def byRow (n : Nat) (T : (Nat → Int) → Nat → Int) (b : Nat → Int) (i : Nat) : Int := T (fun j => b (i / n * n + j)) (i % n)
/-- Each column. -/
def byCol (n : Nat) (T : (Nat → Int) → Nat → Int) (b : Nat → Int) (i : Nat) : Int := T (fun j => b (j * n + i % n)) (i / n)
/-- Rows as columns. -/
def tur (n : Nat) (b : Nat → Int) (i : Nat) : Int := b (i % n * n + i / n)
theorem cell_lt {n x y : Nat} (hx : x < n) (hy : y < n) : y * n + x < n * n := by
  have : (y + 1) * n ≤ n * n := Nat.mul_le_mul_right n (by omega)
  rw [Nat.add_mul] at this
  omega
theorem cell_div {n x y : Nat} (hx : x < n) : (y * n + x) / n = y := by
  rw [Nat.mul_comm, Nat.mul_add_div (by omega), Nat.div_eq_of_lt hx, Nat.add_zero]
theorem cell_mod {n x y : Nat} (hx : x < n) : (y * n + x) % n = x := by
  rw [Nat.mul_comm, Nat.mul_add_mod, Nat.mod_eq_of_lt hx]
theorem div_lt_side {n i : Nat} (hi : i < n * n) : i / n < n := Nat.div_lt_of_lt_mul hi
theorem mod_lt_side {n i : Nat} (hi : i < n * n) : i % n < n := by
  rcases Nat.eq_zero_or_pos n with h | h
  · subst h; omega
  · exact Nat.mod_lt _ h
theorem byRow_congr {n : Nat} {T : (Nat → Int) → Nat → Int} (hT : ∀ l h, (∀ i, i < n → l i = h i) → ∀ i, i < n → T l i = T h i) {a b : Nat → Int} (e : ∀ i, i < n * n → a i = b i) : ∀ i, i < n * n → byRow n T a i = byRow n T b i := fun i hi =>
  hT _ _ (fun j hj => e _ (cell_lt hj (div_lt_side hi))) _ (mod_lt_side hi)
theorem byCol_congr {n : Nat} {T : (Nat → Int) → Nat → Int} (hT : ∀ l h, (∀ i, i < n → l i = h i) → ∀ i, i < n → T l i = T h i) {a b : Nat → Int} (e : ∀ i, i < n * n → a i = b i) : ∀ i, i < n * n → byCol n T a i = byCol n T b i := fun i hi =>
  hT _ _ (fun j hj => e _ (cell_lt (mod_lt_side hi) hj)) _ (div_lt_side hi)
/-- By columns is by rows of the turned block, turned. -/
theorem byCol_tur {n : Nat} {T : (Nat → Int) → Nat → Int} (hT : ∀ l h, (∀ i, i < n → l i = h i) → ∀ i, i < n → T l i = T h i) {b : Nat → Int} : ∀ i, i < n * n → tur n (byRow n T (tur n b)) i = byCol n T b i := fun i hi => by
  unfold byCol
  show byRow n T (tur n b) (i % n * n + i / n) = _
  unfold byRow
  rw [cell_div (div_lt_side hi), cell_mod (div_lt_side hi)]
  refine hT _ _ (fun j hj => ?_) _ (div_lt_side hi)
  show tur n b (i % n * n + j) = _
  unfold tur
  rw [cell_div hj, cell_mod hj]
theorem tur_congr {n : Nat} {a b : Nat → Int} (e : ∀ i, i < n * n → a i = b i) : ∀ i, i < n * n → tur n a i = tur n b i := fun i hi =>
  e _ (cell_lt (div_lt_side hi) (mod_lt_side hi))
theorem byRow_bd {k : Nat} {b : Bool} {M : Int} {g : Nat → Int} (hk : k ≤ 3) (hM : 1 ≤ M) (h : Wi M (2 ^ k * 2 ^ k) g) : Wi (4 * M) (2 ^ k * 2 ^ k) (byRow (2 ^ k) (lin b k) g) := fun i hi =>
  lin_bd hk hM (fun j hj => h _ (cell_lt hj (div_lt_side hi))) _ (mod_lt_side hi)
theorem byCol_bd {k : Nat} {b : Bool} {M : Int} {g : Nat → Int} (hk : k ≤ 3) (hM : 1 ≤ M) (h : Wi M (2 ^ k * 2 ^ k) g) : Wi (4 * M) (2 ^ k * 2 ^ k) (byCol (2 ^ k) (lin b k) g) := fun i hi =>
  lin_bd hk hM (fun j hj => h _ (cell_lt (mod_lt_side hi) hj)) _ (div_lt_side hi)
theorem tur_bd {n : Nat} {M : Int} {g : Nat → Int} (h : Wi M (n * n) g) : Wi M (n * n) (tur n g) := fun i hi => h _ (cell_lt (div_lt_side hi) (mod_lt_side hi))
/-- The side of a block of N numbers, as a power of 2; none: 9. -/
def sideK (N : Nat) : Nat := if N = 16 then 2 else if N = 64 then 3 else 9
/-- A block's transform. -/
def forwB (k : Nat) (g : Nat → Int) : Nat → Int := byCol (2 ^ k) (fwd k) (byRow (2 ^ k) (fwd k) g)
def backB (k : Nat) (g : Nat → Int) : Nat → Int := byRow (2 ^ k) (bck k) (byCol (2 ^ k) (bck k) g)
end Go.Kin
