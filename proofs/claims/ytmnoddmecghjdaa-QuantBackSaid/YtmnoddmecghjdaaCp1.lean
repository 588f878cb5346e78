/- The arithmetic coder in plain numbers: what was put is got, bytes of which that was all are the code. -/
import Derived.Test.YtmnoddmecghjdaaCo9M
namespace Go.Kin
open Go.RowKit
theorem Kc.start (w : World) : Kc w (fun _ => 0) [(0, .since w)] := ⟨⟨Below.refl _ _, fun _ _ => rfl⟩, trivial⟩
/-- What a call hands out that it has made. -/
theorem Kc.fresh {w w' : World} {col : Nat → Nat} {i n : Nat} {l : List (Nat × It)} {A : Option Addr} {f : Nat → Value} (h : Kc w' (recol col w i) l) (hR : Rd w' A n f) (hA : ∀ k o, A = some ⟨k, o, none⟩ → w.heap.size ≤ k) : Kc w' (recol col w i) ((i, .rd A n f) :: l) :=
  h.add hR (.inr fun k o e => recol_ge (hA k o e))
theorem Kc.sinceB {w w0 : World} {col : Nat → Nat} {j : Nat} {l : List (Nat × It)} (h : Kc w col ((j, .since w0) :: l)) : Below w0.heap.size w0 w := h.1.1
/-- An act: a chance and a bit. -/
def Fair (c bit : Int) : Prop := 31 ≤ c ∧ c ≤ 2017 ∧ (bit = 0 ∨ bit = 1)
theorem fair_iff {c bit : Int} : (chB c = true ∧ (bit = 0 ∨ bit = 1)) ↔ Fair c bit := by rw [chB_iff]; unfold Fair; omega
/-- The decoder d stands where the encoder s stood: the same range, as many bytes, and the rest is what the code is more. -/
structure Twin (g : Nat → Int) (s : St) (d : DS) : Prop where
  I : d.I = s.L
  wide : d.wide = s.R
  num : numOf g s.L = s.V + d.rest
theorem twin_start (g : Nat → Int) : Twin g ⟨0, 4, 4294967295⟩ ⟨4, numOf g 4, 4294967295⟩ := ⟨rfl, rfl, by simp⟩
theorem bit_toNat {b : Int} (h : b = 0 ∨ b = 1) : b.toNat = 0 ∧ b = 0 ∨ b.toNat = 1 ∧ b = 1 := by omega
/-- A bit that is got: putting it keeps the two together. -/
theorem twin_get {g : Nat → Int} {n : Nat} {s : St} {d : DS} {c : Int} (ht : Twin g s d) (h : (d.get g n c).2.1 = 0) :
    Fair c (d.get g n c).1 ∧ Twin g (s.putI c (d.get g n c).1) (d.get g n c).2.2 := by
  obtain ⟨hI, hW, hN⟩ := ht
  unfold DS.get at h ⊢
  by_cases h1 : chB c = false
  · rw [if_pos h1] at h; simp at h
  rw [if_neg h1] at h ⊢
  by_cases h2 : d.wide ≤ d.rest
  · rw [if_pos h2] at h; simp at h
  rw [if_neg h2] at h ⊢
  have hct : chB c = true := by cases hh : chB c <;> simp_all
  have hcb := chB_iff.1 hct
  rw [hW] at h h2 ⊢
  have hbd : s.bd c.toNat = s.R / 2048 * c.toNat := rfl
  rw [← hbd] at h ⊢
  have key : ∀ b : Nat, b = gBit d.rest (s.bd c.toNat) → (s.half c.toNat b).R = gWide s.R d.rest (s.bd c.toNat) ∧ (s.half c.toNat b).L = s.L ∧ (s.half c.toNat b).V + gRest d.rest (s.bd c.toNat) = s.V + d.rest := by
    intro b hb
    subst hb
    unfold gBit gWide gRest St.half
    by_cases hr : d.rest < s.bd c.toNat
    · simp [hr]
    · simp [hr]
      omega
  have hf : Fair c (gBit d.rest (s.bd c.toNat) : Nat) := by
    unfold Fair gBit; split <;> omega
  have hput : s.putI c (gBit d.rest (s.bd c.toNat) : Nat) = (s.half c.toNat (gBit d.rest (s.bd c.toNat))).norm := by
    unfold St.putI; rw [if_pos (fair_iff.2 hf)]; rfl
  obtain ⟨k1, k2, k3⟩ := key _ rfl
  by_cases h3 : gWide s.R d.rest (s.bd c.toNat) < 16777216
  · rw [if_pos h3] at h ⊢
    by_cases h4 : n ≤ d.I
    · rw [if_pos h4] at h; simp at h
    rw [if_neg h4] at h ⊢
    refine ⟨hf, ?_⟩
    dsimp only
    rw [hput]
    unfold St.norm
    rw [k1, if_pos h3]
    refine ⟨by dsimp only; rw [k2, hI], rfl, ?_⟩
    dsimp only
    rw [k2]
    show numOf g s.L * 256 + (g s.L).toNat = _
    rw [hN, hI]
    omega
  · rw [if_neg h3] at h ⊢
    refine ⟨hf, ?_⟩
    dsimp only
    rw [hput]
    unfold St.norm
    rw [k1, if_neg h3]
    exact ⟨by rw [k2]; exact hI, k1.symm, by rw [k2, hN]; exact k3.symm⟩
/-- The digits' number. -/
theorem numOf_dig {V L : Nat} (hV : V < 256 ^ L) : ∀ k, k ≤ L → numOf (dig V L) k = V / 256 ^ (L - k)
  | 0, _ => by simp only [numOf, Nat.sub_zero]; exact (Nat.div_eq_of_lt hV).symm
  | k + 1, hk => by
    have ih := numOf_dig hV k (by omega)
    simp only [numOf]
    rw [ih]
    unfold dig
    rw [show L - 1 - k = L - (k + 1) by omega, show L - k = (L - (k + 1)) + 1 by omega, Nat.pow_succ, ← Nat.div_div_eq_div_mul]
    have : ((V / 256 ^ (L - (k + 1)) % 256 : Nat) : Int).toNat = V / 256 ^ (L - (k + 1)) % 256 := by omega
    rw [this]
    omega
theorem dig_numOf {g : Nat → Int} (hg : Byt g) (n : Nat) : ∀ i, i < n → dig (numOf g n) n i = g i := by
  induction n with
  | zero => intro i hi; omega
  | succ n ih =>
    intro i hi
    have hb := hg n
    unfold dig at *
    simp only [numOf]
    by_cases e : i = n
    · subst e
      rw [show i + 1 - 1 - i = 0 by omega, Nat.pow_zero, Nat.div_one]
      omega
    · rw [← ih i (by omega), show n + 1 - 1 - i = (n - 1 - i) + 1 by omega, Nat.pow_succ, Nat.mul_comm (256 ^ (n - 1 - i)) 256, ← Nat.div_div_eq_div_mul]
      rw [show (numOf g n * 256 + (g n).toNat) / 256 = numOf g n by omega]
theorem numOf_congr {g h : Nat → Int} : ∀ {n : Nat}, (∀ i, i < n → g i = h i) → numOf g n = numOf h n
  | 0, _ => rfl
  | n + 1, e => by
    simp only [numOf]
    rw [numOf_congr (fun i hi => e i (by omega)), e n (by omega)]
/-- Where bytes end just with the code. -/
theorem twin_end {g : Nat → Int} {n : Nat} {s : St} {d : DS} (hg : Byt g) (ht : Twin g s d) (h0 : n = d.I) (h1 : d.rest = 0) : s.L = n ∧ ∀ i, i < n → dig s.V s.L i = g i := by
  have hL : s.L = n := by rw [h0]; exact ht.I.symm
  refine ⟨hL, fun i hi => ?_⟩
  have hN := ht.num
  rw [h1, Nat.add_zero, hL] at hN
  rw [hL, ← hN]
  exact dig_numOf hg n i hi
/-- A later state lies within an earlier one. -/
structure Within (s f : St) : Prop where
  L : s.L ≤ f.L
  low : s.V * 256 ^ (f.L - s.L) ≤ f.V
  high : f.V + f.R ≤ (s.V + s.R) * 256 ^ (f.L - s.L)
theorem Within.refl (s : St) : Within s s := ⟨Nat.le_refl _, by simp, by simp⟩
theorem Within.trans {s t f : St} (h : Within s t) (k : Within t f) : Within s f := by
  have e : f.L - s.L = (t.L - s.L) + (f.L - t.L) := by have := h.L; have := k.L; omega
  refine ⟨Nat.le_trans h.L k.L, ?_, ?_⟩
  · rw [e, Nat.pow_add, ← Nat.mul_assoc]
    exact Nat.le_trans (Nat.mul_le_mul_right _ h.low) k.low
  · rw [e, Nat.pow_add, ← Nat.mul_assoc]
    exact Nat.le_trans k.high (Nat.mul_le_mul_right _ h.high)
theorem norm_within (s : St) : Within s s.norm := by
  unfold St.norm
  split
  · refine ⟨by dsimp only; omega, ?_, ?_⟩
    · dsimp only; rw [show s.L + 1 - s.L = 1 by omega]; omega
    · dsimp only; rw [show s.L + 1 - s.L = 1 by omega]; omega
  · exact Within.refl s
theorem half_within {s : St} {c bit : Nat} (h : s.ok) (h1 : 31 ≤ c) (h2 : c ≤ 2017) : Within s (s.half c bit) := by
  have := St.bd_bd h h1 h2
  unfold St.half
  split
  · exact ⟨Nat.le_refl _, by simp, by simp; omega⟩
  · exact ⟨Nat.le_refl _, by simp, by simp; omega⟩
theorem put_within {s : St} {c bit : Nat} (h : s.ok) (h1 : 31 ≤ c) (h2 : c ≤ 2017) : Within s (s.put c bit) := (half_within h h1 h2).trans (norm_within _)
theorem putI_ok {s : St} {c bit : Int} (h : s.ok) : (s.putI c bit).ok ∧ (s.putI c bit).L ≤ s.L + 1 ∧ s.L ≤ (s.putI c bit).L := by
  unfold St.putI
  split
  · next hh => have hc := chB_iff.1 hh.1; exact St.put_ok h (by omega) (by omega)
  · exact ⟨h, by omega, Nat.le_refl _⟩
theorem putI_within {s : St} {c bit : Int} (h : s.ok) : Within s (s.putI c bit) := by
  unfold St.putI
  split
  · next hh => have hc := chB_iff.1 hh.1; exact put_within h (by omega) (by omega)
  · exact Within.refl s
/-- What is put is got: the code f lies within the state behind the bit. -/
theorem twin_put {g : Nat → Int} {n : Nat} {s f : St} {d : DS} {c bit : Int} (ht : Twin g s d) (hs : s.ok) (hf : Fair c bit) (hw : Within (s.putI c bit) f) (hR : 0 < f.R) (hn : f.L ≤ n) (hnum : ∀ k, k ≤ f.L → numOf g k = f.V / 256 ^ (f.L - k)) :
    (d.get g n c).2.1 = 0 ∧ (d.get g n c).1 = bit := by
  have hput : s.putI c bit = (s.half c.toNat bit.toNat).norm := by unfold St.putI; rw [if_pos (fair_iff.2 hf)]; rfl
  have hx := hf
  unfold Fair at hx
  have hok := putI_ok (c := c) (bit := bit) hs
  have hh := half_within (bit := bit.toNat) hs (c := c.toNat) (by omega) (by omega)
  have hwh : Within (s.half c.toNat bit.toNat) f := (norm_within _).trans (hput ▸ hw)
  have hbds := St.bd_bd hs (c := c.toNat) (by omega) (by omega)
  have hL : (s.half c.toNat bit.toNat).L = s.L := by unfold St.half; split <;> rfl
  obtain ⟨a1, a2, a3⟩ := hwh
  rw [hL] at a1 a2 a3
  have hp : 0 < 256 ^ (f.L - s.L) := Nat.pow_pos (by omega)
  have hq := hnum s.L a1
  obtain ⟨t1, t2, t3⟩ := ht
  have b1 : (s.half c.toNat bit.toNat).V ≤ s.V + d.rest := by
    rw [← t3, hq]; exact (Nat.le_div_iff_mul_le hp).2 a2
  have b2 : s.V + d.rest < (s.half c.toNat bit.toNat).V + (s.half c.toNat bit.toNat).R := by
    rw [← t3, hq]; exact (Nat.div_lt_iff_lt_mul hp).2 (by omega)
  have hbit : gBit d.rest (s.bd c.toNat) = bit.toNat ∧ d.rest < s.R ∧ gWide s.R d.rest (s.bd c.toNat) = (s.half c.toNat bit.toNat).R := by
    unfold St.half at b1 b2 ⊢
    unfold gBit gWide
    rcases bit_toNat hx.2.2 with ⟨e, _⟩ | ⟨e, _⟩
    · rw [e] at b1 b2 ⊢
      simp only [if_pos] at b1 b2 ⊢
      have : d.rest < s.bd c.toNat := by omega
      simp [this]; omega
    · rw [e] at b1 b2 ⊢
      have e1 : ¬ (1 = 0) := by omega
      simp only [if_neg e1] at b1 b2 ⊢
      have : ¬ d.rest < s.bd c.toNat := by omega
      simp [this]; omega
  have hct : ¬ chB c = false := by rw [chB_iff.2 ⟨hx.1, hx.2.1⟩]; simp
  unfold DS.get
  rw [if_neg hct, t2, if_neg (by omega)]
  have hbd : s.R / 2048 * c.toNat = s.bd c.toNat := rfl
  rw [hbd]
  have eb : ((gBit d.rest (s.bd c.toNat) : Nat) : Int) = bit := by rw [hbit.1]; omega
  by_cases h3 : gWide s.R d.rest (s.bd c.toNat) < 16777216
  · rw [if_pos h3]
    have hlt : ¬ n ≤ d.I := by
      have hl := hw.L
      rw [hput] at hl
      unfold St.norm at hl
      rw [← hbit.2.2, if_pos h3] at hl
      dsimp only at hl
      rw [hL] at hl
      omega
    rw [if_neg hlt]
    exact ⟨rfl, eb⟩
  · rw [if_neg h3]
    exact ⟨rfl, eb⟩
/-- The code is less than its place allows. -/
theorem within_lt {f : St} (h : Within ⟨0, 4, 4294967295⟩ f) (hR : 0 < f.R) : f.V < 256 ^ f.L := by
  obtain ⟨a1, a2, a3⟩ := h
  dsimp only at a1 a2 a3
  have hp : 0 < 256 ^ (f.L - 4) := Nat.pow_pos (by omega)
  have e : 256 ^ f.L = 256 ^ 4 * 256 ^ (f.L - 4) := by rw [← Nat.pow_add]; congr 1; omega
  rw [e]
  have h4 : (0 + 4294967295) * 256 ^ (f.L - 4) ≤ 256 ^ 4 * 256 ^ (f.L - 4) := Nat.mul_le_mul_right _ (by decide)
  omega
end Go.Kin
namespace Go.Proofs.Ytmnoddmecghjdaa
open Go.RowKit Go.Kin
theorem EncS.below {w w' : World} {col : Nat → Nat} {i p : Nat} {s : St} (h : EncS w col i p s) (hb : Below w.heap.size w w') : EncS w' col i p s := by
  obtain ⟨h1, h2, A, c, h3⟩ := h
  exact ⟨h1, h2, A, c, h3.box.below hb (Box.lt h3.box), OwnS.below h3.own hb (Nat.le_refl _), h3.hp, h3.hA⟩
theorem DecS.below {w w' : World} {col : Nat → Nat} {i p n : Nat} {g : Nat → Int} {d : DS} (h : DecS w col i p n g d) (hb : Below w.heap.size w w') : DecS w' col i p n g d := by
  obtain ⟨h1, h2, A, c, h3⟩ := h
  exact ⟨h1, h2, A, c, h3.box.below hb (Box.lt h3.box), h3.rd.below hb, h3.hp, h3.hA, h3.le⟩
theorem Kc.below {w w' : World} {col : Nat → Nat} {l : List (Nat × It)} (h : Kc w col l) (hb : Below w.heap.size w w') : Kc w' col l := by
  induction l with
  | nil => trivial
  | cons y l ih =>
    obtain ⟨j, x⟩ := y
    exact ⟨⟨It.ok.below h.1.1 hb, h.1.2⟩, ih h.2⟩
theorem below_drew (w : World) : Below w.heap.size w w.drew := (Below.refl _ w).drew
end Go.Proofs.Ytmnoddmecghjdaa
