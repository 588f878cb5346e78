/- The book in plain numbers: chances, what each number's bits make of them and of a code, and what is got. What is kept of memory behind calls that write blocks of some colours. -/
import Derived.Test.YtmnoddmecghjdaaCp1
import Derived.Test.YtmnoddmecghjdaaKn6
import Derived.Lib.BitFns
set_option linter.unusedVariables false
namespace Go.Kin
open Go.RowKit
def bset (C : Nat → Int) (j : Nat) (v : Int) : Nat → Int := fun i => if i = j then v else C i
/-- All are chances. -/
def BkOk (C : Nat → Int) : Prop := ∀ j, 31 ≤ C j ∧ C j ≤ 2017
/-- A book and an encoder. -/
structure PS where
  C : Nat → Int
  s : St
def chOf (C : Nat → Int) : Option Nat → Int
  | none => 1024
  | some j => C j
def nxC (C : Nat → Int) : Option Nat → Int → Nat → Int
  | none, _ => C
  | some j, b => bset C j (nextP (C j) b)
/-- One bit, with a chance of the book, or an even one. -/
def PS.put1 (x : PS) (j : Option Nat) (b : Int) : PS := ⟨nxC x.C j b, x.s.putI (chOf x.C j) b⟩
def PS.ok (x : PS) : Prop := BkOk x.C ∧ x.s.ok
theorem chOf_bd {C : Nat → Int} (h : BkOk C) (j : Option Nat) : 31 ≤ chOf C j ∧ chOf C j ≤ 2017 := by
  cases j with
  | none => simp [chOf]
  | some j => exact h j
theorem nxC_ok {C : Nat → Int} (h : BkOk C) (j : Option Nat) (b : Int) : BkOk (nxC C j b) := by
  cases j with
  | none => exact h
  | some j =>
    intro i
    unfold nxC bset
    dsimp only
    split
    · exact nextP_bd _ _
    · exact h i
theorem PS.put1_ok {x : PS} (h : x.ok) (j : Option Nat) (b : Int) : (x.put1 j b).ok ∧ (x.put1 j b).s.L ≤ x.s.L + 1 ∧ x.s.L ≤ (x.put1 j b).s.L := by
  have := putI_ok (c := chOf x.C j) (bit := b) h.2
  exact ⟨⟨nxC_ok h.1 j b, this.1⟩, this.2⟩
/-- The chance of the i-th of some low bits, behind those of a. -/
def loJ (base i a : Nat) : Option Nat := if i < 4 then some (base + 20 + (2 ^ i - 1 + a)) else none
/-- The i-th of the n lowest bits of v, and the number of those ahead. -/
def loB (v n i : Nat) : Nat := v / 2 ^ (n - 1 - i) % 2
def loA (v n i : Nat) : Nat := v / 2 ^ (n - i) % 2 ^ i
theorem loB_bd (v n i : Nat) : loB v n i = 0 ∨ loB v n i = 1 := by unfold loB; omega
theorem loA_zero (v n : Nat) : loA v n 0 = 0 := by unfold loA; rw [Nat.pow_zero, Nat.mod_one]
theorem loA_lt (v n i : Nat) : loA v n i < 2 ^ i := Nat.mod_lt _ (Nat.pow_pos (by omega))
theorem loA_succ {v n i : Nat} (h : i < n) : loA v n (i + 1) = 2 * loA v n i + loB v n i := by
  unfold loA loB
  rw [show n - (i + 1) = n - 1 - i by omega, show n - i = n - 1 - i + 1 by omega, Nat.pow_succ 2 i, Nat.mul_comm (2 ^ i) 2, Nat.mod_mul, Nat.pow_succ, ← Nat.div_div_eq_div_mul]
  omega
theorem loA_all (v n : Nat) : loA v n n = v % 2 ^ n := by unfold loA; rw [Nat.sub_self, Nat.pow_zero, Nat.div_one]
def PS.low (x : PS) (base v n : Nat) : Nat → PS
  | 0 => x
  | k + 1 => (x.low base v n k).put1 (loJ base k (loA v n k)) (loB v n k)
theorem PS.low_ok {x : PS} (h : x.ok) (base v n : Nat) : ∀ k, (x.low base v n k).ok ∧ (x.low base v n k).s.L ≤ x.s.L + k ∧ x.s.L ≤ (x.low base v n k).s.L
  | 0 => ⟨h, by simp [PS.low], Nat.le_refl _⟩
  | k + 1 => by
    obtain ⟨h1, h2, h3⟩ := PS.low_ok h base v n k
    obtain ⟨h4, h5, h6⟩ := PS.put1_ok h1 (loJ base k (loA v n k)) (loB v n k)
    exact ⟨h4, by simp only [PS.low]; omega, by simp only [PS.low]; omega⟩
def PS.ones (x : PS) (base : Nat) : Nat → PS
  | 0 => x
  | k + 1 => (x.ones base k).put1 (some (base + k)) 1
theorem PS.ones_ok {x : PS} (h : x.ok) (base : Nat) : ∀ k, (x.ones base k).ok ∧ (x.ones base k).s.L ≤ x.s.L + k ∧ x.s.L ≤ (x.ones base k).s.L
  | 0 => ⟨h, by simp [PS.ones], Nat.le_refl _⟩
  | k + 1 => by
    obtain ⟨h1, h2, h3⟩ := PS.ones_ok h base k
    obtain ⟨h4, h5, h6⟩ := PS.put1_ok h1 (some (base + k)) 1
    exact ⟨h4, by simp only [PS.ones]; omega, by simp only [PS.ones]; omega⟩
/-- Behind the bits that tell how many there are. -/
def PS.lens (x : PS) (base n : Nat) : PS := if n < 21 then (x.ones base (n - 1)).put1 (some (base + (n - 1))) 0 else x.ones base (n - 1)
/-- A number. -/
def PS.num (x : PS) (base v : Nat) : PS := (x.lens base (Lib.bitLen (v + 1))).low base (v + 1) (Lib.bitLen (v + 1) - 1) (Lib.bitLen (v + 1) - 1)
/-- A number with a sign. -/
def PS.sgn (x : PS) (base : Nat) (v : Int) : PS := if v = 0 then x.num base 0 else (x.num base v.natAbs).put1 (some (base + 36)) (if v < 0 then 1 else 0)
/-- A choice. -/
def PS.one (x : PS) (base n v : Nat) : PS := x.low base v (Lib.bitLen (n - 1)) (Lib.bitLen (n - 1))
theorem PS.lens_ok {x : PS} (h : x.ok) (base n : Nat) : (x.lens base n).ok ∧ (x.lens base n).s.L ≤ x.s.L + n + 1 ∧ x.s.L ≤ (x.lens base n).s.L := by
  obtain ⟨h1, h2, h3⟩ := PS.ones_ok h base (n - 1)
  unfold PS.lens
  split
  · obtain ⟨h4, h5, h6⟩ := PS.put1_ok h1 (some (base + (n - 1))) 0
    exact ⟨h4, by omega, by omega⟩
  · exact ⟨h1, by omega, by omega⟩
theorem bitLen_le {n : Nat} : ∀ {x : Nat}, x < 2 ^ n → n ≤ 64 → Lib.bitLen x ≤ n := by
  induction n with
  | zero => intro x hx _; obtain rfl : x = 0 := (by omega); decide
  | succ n ih =>
    intro x hx hn
    rcases Nat.eq_zero_or_pos x with h0 | h0
    · subst h0; exact Nat.zero_le _
    · rw [Lib.bitLen_half x (by omega) (Nat.lt_of_lt_of_le hx (Nat.pow_le_pow_right (by omega) hn))]
      have := ih (x := x / 2) (by rw [Nat.pow_succ] at hx; omega) (by omega)
      omega
theorem bitLen_pow {n : Nat} : ∀ {x : Nat}, 2 ^ n ≤ x → x < 2 ^ (n + 1) → n < 64 → Lib.bitLen x = n + 1 := by
  induction n with
  | zero => intro x h1 h2 _; obtain rfl : x = 1 := (by omega); decide
  | succ n ih =>
    intro x h1 h2 hn
    have hp : 0 < 2 ^ (n + 1) := Nat.pow_pos (by omega)
    rw [Lib.bitLen_half x (by omega) (Nat.lt_of_lt_of_le h2 (Nat.pow_le_pow_right (by omega) (by omega)))]
    have e1 : 2 ^ (n + 1) = 2 * 2 ^ n := by rw [Nat.pow_succ, Nat.mul_comm]
    have e2 : 2 ^ (n + 1 + 1) = 2 * 2 ^ (n + 1) := by rw [Nat.pow_succ, Nat.mul_comm]
    have := ih (x := x / 2) (by omega) (by omega) (by omega)
    omega
theorem bitLen_pos {x : Nat} (h0 : 0 < x) (h : x < 2 ^ 64) : 1 ≤ Lib.bitLen x := by rw [Lib.bitLen_half x (by omega) h]; omega
/-- Between which powers a number lies. -/
theorem bitLen_spec {x : Nat} (h0 : 0 < x) (h : x < 2 ^ 64) : 2 ^ (Lib.bitLen x - 1) ≤ x ∧ x < 2 ^ Lib.bitLen x := by
  have key : ∀ n, n ≤ 64 → ∀ x, 0 < x → x < 2 ^ n → 2 ^ (Lib.bitLen x - 1) ≤ x ∧ x < 2 ^ Lib.bitLen x := by
    intro n
    induction n with
    | zero => intro _ x h1 h2; omega
    | succ n ih =>
      intro hn x h1 h2
      rcases Nat.lt_or_ge x (2 ^ n) with h3 | h3
      · exact ih (by omega) x h1 h3
      · rw [bitLen_pow h3 h2 (by omega)]
        exact ⟨h3, h2⟩
  exact key 64 (Nat.le_refl _) x h0 h
theorem num_len {v : Nat} (h : v ≤ 1048576) : 1 ≤ Lib.bitLen (v + 1) ∧ Lib.bitLen (v + 1) ≤ 21 := ⟨bitLen_pos (by omega) (by omega), bitLen_le (by omega) (by omega)⟩
theorem PS.num_ok {x : PS} (h : x.ok) (base : Nat) {v : Nat} (hv : v ≤ 1048576) : (x.num base v).ok ∧ (x.num base v).s.L ≤ x.s.L + 43 ∧ x.s.L ≤ (x.num base v).s.L := by
  obtain ⟨h1, h2, h3⟩ := PS.lens_ok h base (Lib.bitLen (v + 1))
  obtain ⟨h4, h5, h6⟩ := PS.low_ok h1 base (v + 1) (Lib.bitLen (v + 1) - 1) (Lib.bitLen (v + 1) - 1)
  have := num_len hv
  unfold PS.num
  exact ⟨h4, by omega, by omega⟩
theorem PS.sgn_ok {x : PS} (h : x.ok) (base : Nat) {v : Int} (hv : -1048576 ≤ v ∧ v ≤ 1048576) : (x.sgn base v).ok ∧ (x.sgn base v).s.L ≤ x.s.L + 44 ∧ x.s.L ≤ (x.sgn base v).s.L := by
  unfold PS.sgn
  split
  · obtain ⟨h1, h2, h3⟩ := PS.num_ok h base (v := 0) (by omega)
    exact ⟨h1, by omega, by omega⟩
  · obtain ⟨h1, h2, h3⟩ := PS.num_ok h base (v := v.natAbs) (by omega)
    obtain ⟨h4, h5, h6⟩ := PS.put1_ok h1 (some (base + 36)) (if v < 0 then 1 else 0)
    exact ⟨h4, by omega, by omega⟩
theorem PS.one_ok {x : PS} (h : x.ok) (base v : Nat) {n : Nat} (hn : n ≤ 16) : (x.one base n v).ok ∧ (x.one base n v).s.L ≤ x.s.L + 4 ∧ x.s.L ≤ (x.one base n v).s.L := by
  obtain ⟨h1, h2, h3⟩ := PS.low_ok h base v (Lib.bitLen (n - 1)) (Lib.bitLen (n - 1))
  have := bitLen_le (n := 4) (x := n - 1) (by omega) (by omega)
  unfold PS.one
  exact ⟨h1, by omega, by omega⟩
/-- A book and a decoder. -/
structure GS where
  C : Nat → Int
  d : DS
def GS.ok (n : Nat) (x : GS) : Prop := BkOk x.C ∧ x.d.ok ∧ x.d.I ≤ n
/-- The next bit, its error, and what is then. -/
def GS.get1 (g : Nat → Int) (n : Nat) (x : GS) (j : Option Nat) : Int × Int × GS :=
  ((x.d.get g n (chOf x.C j)).1, (x.d.get g n (chOf x.C j)).2.1, ⟨if (x.d.get g n (chOf x.C j)).2.1 = 0 then nxC x.C j (x.d.get g n (chOf x.C j)).1 else x.C, (x.d.get g n (chOf x.C j)).2.2⟩)
theorem DS.get_bit (g : Nat → Int) (n : Nat) (d : DS) (c : Int) : (d.get g n c).1 = 0 ∨ (d.get g n c).1 = 1 := by
  unfold DS.get
  split
  · exact .inl rfl
  · split
    · exact .inl rfl
    · split
      · split
        · exact .inl rfl
        · dsimp only; unfold gBit; split <;> simp
      · dsimp only; unfold gBit; split <;> simp
theorem DS.get_err (g : Nat → Int) (n : Nat) (d : DS) {c : Int} (h : 31 ≤ c ∧ c ≤ 2017) : (d.get g n c).2.1 = 0 ∨ (d.get g n c).2.1 = 41 := by
  unfold DS.get
  rw [if_neg (by rw [chB_iff.2 h]; simp)]
  split
  · exact .inr rfl
  · split
    · split
      · exact .inr rfl
      · exact .inl rfl
    · exact .inl rfl
section
variable {g : Nat → Int} {n : Nat} {x : GS} (hg : Byt g)
include hg
theorem GS.get1_ok (h : x.ok n) (j : Option Nat) : (x.get1 g n j).2.2.ok n := by
  obtain ⟨h1, h2, h3⟩ := h
  have := DS.get_ok (c := chOf x.C j) hg h2 h3
  refine ⟨?_, this.1, this.2.1⟩
  unfold GS.get1
  dsimp only
  split
  · exact nxC_ok h1 _ _
  · exact h1
end
theorem GS.get1_bit (g : Nat → Int) (n : Nat) (x : GS) (j : Option Nat) : (x.get1 g n j).1 = 0 ∨ (x.get1 g n j).1 = 1 := DS.get_bit _ _ _ _
theorem GS.get1_err (g : Nat → Int) (n : Nat) {x : GS} (h : BkOk x.C) (j : Option Nat) : (x.get1 g n j).2.1 = 0 ∨ (x.get1 g n j).2.1 = 41 := DS.get_err _ _ _ (chOf_bd h j)
/-- Low bits that were got: an error, their number, and what is then. -/
structure LR where
  e : Int
  a : Nat
  x : GS
def lrNext (q : Int × Int × GS) (a : Nat) : LR := if q.2.1 = 0 then ⟨0, 2 * a + q.1.toNat, q.2.2⟩ else ⟨q.2.1, 0, q.2.2⟩
def GS.low (g : Nat → Int) (n : Nat) (x : GS) (base : Nat) : Nat → LR
  | 0 => ⟨0, 0, x⟩
  | k + 1 => if (x.low g n base k).e = 0 then lrNext ((x.low g n base k).x.get1 g n (loJ base k (x.low g n base k).a)) (x.low g n base k).a else x.low g n base k
theorem GS.low_ok {g : Nat → Int} {n : Nat} {x : GS} (hg : Byt g) (h : x.ok n) (base : Nat) : ∀ k, (x.low g n base k).x.ok n ∧ (x.low g n base k).a < 2 ^ k ∧ ((x.low g n base k).e = 0 ∨ (x.low g n base k).e = 41)
  | 0 => ⟨h, by simp [GS.low], .inl rfl⟩
  | k + 1 => by
    obtain ⟨h1, h2, h3⟩ := GS.low_ok hg h base k
    have hp : 2 ^ (k + 1) = 2 * 2 ^ k := by rw [Nat.pow_succ, Nat.mul_comm]
    unfold GS.low
    split
    · have hb := GS.get1_bit g n (x.low g n base k).x (loJ base k (x.low g n base k).a)
      have he := GS.get1_err g n h1.1 (loJ base k (x.low g n base k).a)
      have ho := GS.get1_ok hg h1 (loJ base k (x.low g n base k).a)
      unfold lrNext
      split
      · exact ⟨ho, by dsimp only; omega, .inl rfl⟩
      · exact ⟨ho, by dsimp only; omega, he⟩
    · exact ⟨h1, by omega, h3⟩
/-- The bits that tell how many there are: whether they go on, how many, an error, and what is then. -/
structure QR where
  go : Bool
  n : Nat
  e : Int
  x : GS
def qrNext (q : Int × Int × GS) (m : Nat) : QR := if q.2.1 = 0 then (if q.1 = 0 then ⟨false, m, 0, q.2.2⟩ else ⟨true, m + 1, 0, q.2.2⟩) else ⟨false, m, q.2.1, q.2.2⟩
def GS.len (g : Nat → Int) (n : Nat) (x : GS) (base : Nat) : Nat → QR
  | 0 => ⟨true, 1, 0, x⟩
  | k + 1 => if (x.len g n base k).go = true then qrNext ((x.len g n base k).x.get1 g n (some (base + ((x.len g n base k).n - 1)))) (x.len g n base k).n else x.len g n base k
theorem GS.len_ok {g : Nat → Int} {n : Nat} {x : GS} (hg : Byt g) (h : x.ok n) (base : Nat) : ∀ k, (x.len g n base k).x.ok n ∧ 1 ≤ (x.len g n base k).n ∧ (x.len g n base k).n ≤ k + 1 ∧ ((x.len g n base k).go = true → (x.len g n base k).n = k + 1 ∧ (x.len g n base k).e = 0) ∧ ((x.len g n base k).e = 0 ∨ (x.len g n base k).e = 41)
  | 0 => ⟨h, by simp [GS.len], by simp [GS.len], fun _ => ⟨rfl, rfl⟩, .inl rfl⟩
  | k + 1 => by
    obtain ⟨h1, h2, h3, h4, h5⟩ := GS.len_ok hg h base k
    unfold GS.len
    split
    · have he := GS.get1_err g n h1.1 (some (base + ((x.len g n base k).n - 1)))
      have ho := GS.get1_ok hg h1 (some (base + ((x.len g n base k).n - 1)))
      have := h4 ‹_›
      unfold qrNext
      split
      · split
        · exact ⟨ho, h2, by dsimp only; omega, (fun h => by cases h), .inl rfl⟩
        · exact ⟨ho, by dsimp only; omega, by dsimp only; omega, fun _ => ⟨by dsimp only; omega, rfl⟩, .inl rfl⟩
      · exact ⟨ho, h2, by dsimp only; omega, (fun h => by cases h), he⟩
    · rename_i hgo
      exact ⟨h1, h2, by omega, fun h => absurd h hgo, h5⟩
/-- A number that was got: it, an error, and what is then. -/
structure NR where
  v : Int
  e : Int
  x : GS
def nrLow (q : LR) (m : Nat) : NR := if q.e = 0 then (if 2 ^ m + q.a - 1 > 1048576 then ⟨0, 51, q.x⟩ else ⟨(2 ^ m + q.a - 1 : Nat), 0, q.x⟩) else ⟨0, q.e, q.x⟩
def nrLen (g : Nat → Int) (n : Nat) (base : Nat) (r : QR) : NR := if r.e = 0 then nrLow (r.x.low g n base (r.n - 1)) (r.n - 1) else ⟨0, r.e, r.x⟩
def GS.num (g : Nat → Int) (n : Nat) (x : GS) (base : Nat) : NR := nrLen g n base (x.len g n base 20)
def nrSgn (q : Int × Int × GS) (v : Int) : NR := if q.2.1 = 0 then ⟨if q.1 = 1 then -v else v, 0, q.2.2⟩ else ⟨0, q.2.1, q.2.2⟩
def GS.sgn (g : Nat → Int) (n : Nat) (x : GS) (base : Nat) : NR := if (x.num g n base).e = 0 ∧ (x.num g n base).v ≠ 0 then nrSgn ((x.num g n base).x.get1 g n (some (base + 36))) (x.num g n base).v else ⟨0, (x.num g n base).e, (x.num g n base).x⟩
def nrOne (q : LR) (m : Nat) : NR := if q.e = 0 then (if m ≤ q.a then ⟨0, 51, q.x⟩ else ⟨(q.a : Nat), 0, q.x⟩) else ⟨0, q.e, q.x⟩
def GS.one (g : Nat → Int) (n : Nat) (x : GS) (base m : Nat) : NR := nrOne (x.low g n base (Lib.bitLen (m - 1))) m
theorem GS.num_ok {g : Nat → Int} {n : Nat} {x : GS} (hg : Byt g) (h : x.ok n) (base : Nat) : (x.num g n base).x.ok n ∧ 0 ≤ (x.num g n base).v ∧ (x.num g n base).v ≤ 1048576 ∧ ((x.num g n base).e = 0 ∨ ((x.num g n base).v = 0 ∧ (x.num g n base).e = 41) ∨ ((x.num g n base).v = 0 ∧ (x.num g n base).e = 51)) := by
  obtain ⟨h1, h2, h3, h4, h5⟩ := GS.len_ok hg h base 20
  unfold GS.num nrLen
  split
  · obtain ⟨k1, k2, k3⟩ := GS.low_ok hg h1 base ((x.len g n base 20).n - 1)
    unfold nrLow
    split
    · split
      · exact ⟨k1, Int.le_refl _, by dsimp only; omega, .inr (.inr ⟨rfl, rfl⟩)⟩
      · exact ⟨k1, by dsimp only; omega, by dsimp only; omega, .inl rfl⟩
    · exact ⟨k1, Int.le_refl _, by dsimp only; omega, .inr (.inl ⟨rfl, by dsimp only; omega⟩)⟩
  · exact ⟨h1, Int.le_refl _, by dsimp only; omega, .inr (.inl ⟨rfl, by dsimp only; omega⟩)⟩
/-- What is kept of things of other colours than those of I. -/
def Kp (I : List Nat) (w : World) (col : Nat → Nat) (w' : World) (col' : Nat → Nat) : Prop := (w.heap.size ≤ w'.heap.size ∧ ∀ b, b < w.heap.size → col b ∉ I → w'.heap[b]? = w.heap[b]? ∧ col' b = col b) ∧ ∀ (k : Nat) (x : It), k ∉ I → x.ok w ∧ x.hue col k → x.ok w' ∧ x.hue col' k
section
variable {I J L : List Nat} {w w1 w2 w' : World} {col c1 c2 col' : Nat → Nat} {i j : Nat} {l : List (Nat × It)}
theorem Kp.refl (I : List Nat) (w : World) (col : Nat → Nat) : Kp I w col w col := ⟨⟨Nat.le_refl _, fun _ _ _ => ⟨rfl, rfl⟩⟩, fun _ _ _ h => h⟩
theorem Kp.upd (hu : Upd col i w w') : Kp [i] w col w' (recol col w i) := ⟨⟨hu.size, fun b hl hn => ⟨hu.block b hl (by simpa using hn), recol_lt hl⟩⟩, fun k x hk h => It.upd h (by simpa using hk) hu⟩
theorem Kp.below (hb : Below w.heap.size w w') (I : List Nat) (col : Nat → Nat) : Kp I w col w' col := ⟨⟨hb.size, fun b hl _ => ⟨hb.block b hl, rfl⟩⟩, fun k x _ h => ⟨It.ok.below h.1 hb, h.2⟩⟩
theorem Kp.mono (h : Kp I w col w' col') (hI : ∀ a, a ∈ I → a ∈ L) : Kp L w col w' col' := ⟨⟨h.1.1, fun b hl hn => h.1.2 b hl (fun h' => hn (hI _ h'))⟩, fun k x hk => h.2 k x (fun h' => hk (hI _ h'))⟩
theorem Kp.trans (h : Kp I w col w1 c1) (k : Kp I w1 c1 w2 c2) : Kp I w col w2 c2 := ⟨⟨Nat.le_trans h.1.1 k.1.1, fun b hl hn => by
    obtain ⟨h1, h2⟩ := h.1.2 b hl hn
    obtain ⟨k1, k2⟩ := k.1.2 b (Nat.lt_of_lt_of_le hl h.1.1) (by rw [h2]; exact hn)
    exact ⟨k1.trans h1, k2.trans h2⟩⟩, fun a x ha hx => k.2 a x ha (h.2 a x ha hx)⟩
theorem Kp.kc (h : Kp I w col w' col') (K : Kc w col l) (hn : ∀ a, a ∈ I → Nos a l) : Kc w' col' l := by
  induction l with
  | nil => trivial
  | cons y l ih =>
    obtain ⟨k, x⟩ := y
    exact ⟨h.2 k x (fun hk => (hn k hk).1 rfl) K.1, ih K.2 (fun a ha => (hn a ha).2)⟩
end
def u16s (C : Nat → Int) : Nat → Value := fun i => .int .u16 (C i)
/-- A book in memory: one block of colour j. -/
def Bk (w : World) (col : Nat → Nat) (j b : Nat) (C : Nat → Int) : Prop := Box w b (mkR 592 (u16s C)) ∧ col b = j
theorem Bk.kp {I : List Nat} {w w' : World} {col col' : Nat → Nat} {j b : Nat} {C : Nat → Int} (h : Bk w col j b C) (k : Kp I w col w' col') (hj : j ∉ I) : Bk w' col' j b C := k.2 j (.mr b 592 (u16s C)) hj h
end Go.Kin
