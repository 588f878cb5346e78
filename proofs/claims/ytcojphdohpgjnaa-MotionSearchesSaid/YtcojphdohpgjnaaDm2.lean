/- Plain numbers: no sample of a smooth plane is further than twice the strength from what it was, and those beside no edge stay; no program in sight. -/
import Derived.Test.YtcojphdohpgjnaaDm
namespace Go.Kin

theorem pos_mod {W x y : Nat} (hx : x < W) : (y * W + x) % W = x ∧ (y * W + x) / W = y := by
  constructor
  · rw [Nat.add_comm, Nat.add_mul_mod_self_right, Nat.mod_eq_of_lt hx]
  · rw [Nat.add_comm, Nat.add_mul_div_right _ _ (by omega), Nat.div_eq_of_lt hx, Nat.zero_add]

theorem ln_near {a b c d q : Int} (hq : 0 ≤ q) (hb : 0 ≤ b ∧ b ≤ 255) (hc : 0 ≤ c ∧ c ≤ 255) :
    (-(q / 2) ≤ ln1 a b c d q - b ∧ ln1 a b c d q - b ≤ q / 2) ∧ (-(q / 2) ≤ ln2 a b c d q - c ∧ ln2 a b c d q - c ≤ q / 2) := by
  cases h : lnOff a b c d q with
  | true => obtain ⟨h1, h2⟩ := ln_off h; omega
  | false =>
    obtain ⟨h1, h2⟩ := ln_on h
    rw [h1, h2]
    unfold clipI lnM
    omega

/-- h is no further than s from g, alike where 'far' says so, and alike where 'keep' says so. -/
structure Near (s : Int) (far keep : Nat → Prop) (g h : Nat → Int) : Prop where
  lo : ∀ i, -s ≤ h i - g i
  hi : ∀ i, h i - g i ≤ s
  far : ∀ i, far i → h i = g i
  keep : ∀ i, keep i → h i = g i

theorem Near.step {q : Int} {p st : Nat} {far far' keep : Nat → Prop} {g h : Nat → Int} (hq : 0 ≤ q) (hg : ∀ i, 0 ≤ g i ∧ g i ≤ 255) (hn : Near (q / 2) far keep g h) (h1 : far p) (h2 : far (p - st)) (k1 : ¬ keep p) (k2 : ¬ keep (p - st))
    (hf : ∀ i, far' i → far i ∧ i ≠ p ∧ i ≠ p - st) : Near (q / 2) far' keep g (sm1 q p st h) := by
  have e1 := hn.far p h1
  have e2 := hn.far (p - st) h2
  have b1 : 0 ≤ h (p - st) ∧ h (p - st) ≤ 255 := by rw [e2]; exact hg _
  have b2 : 0 ≤ h p ∧ h p ≤ 255 := by rw [e1]; exact hg _
  have hl := ln_near (a := h (p - 2 * st)) (d := h (p + st)) hq b1 b2
  have hv : ∀ i, i ≠ p → i ≠ p - st → sm1 q p st h i = h i := fun i a b => by unfold sm1; rw [if_neg a, if_neg b]
  have hp : sm1 q p st h p = ln2 (h (p - 2 * st)) (h (p - st)) (h p) (h (p + st)) q := by unfold sm1; rw [if_pos rfl]
  have hps : p - st ≠ p → sm1 q p st h (p - st) = ln1 (h (p - 2 * st)) (h (p - st)) (h p) (h (p + st)) q := fun a => by unfold sm1; rw [if_neg a, if_pos rfl]
  refine ⟨fun i => ?_, fun i => ?_, fun i hi => ?_, fun i hi => ?_⟩
  · by_cases x : i = p
    · subst x; rw [hp]; omega
    · by_cases y : i = p - st
      · subst y; rw [hps x]; omega
      · rw [hv i x y]; exact hn.lo i
  · by_cases x : i = p
    · subst x; rw [hp]; omega
    · by_cases y : i = p - st
      · subst y; rw [hps x]; omega
      · rw [hv i x y]; exact hn.hi i
  · obtain ⟨a, b, c⟩ := hf i hi
    rw [hv i b c]; exact hn.far i a
  · by_cases x : i = p
    · subst x; exact absurd hi k1
    · by_cases y : i = p - st
      · subst y; exact absurd hi k2
      · rw [hv i x y]; exact hn.keep i hi

theorem Near.weak {s : Int} {far far' keep : Nat → Prop} {g h : Nat → Int} (hn : Near s far keep g h) (hf : ∀ i, far' i → far i) : Near s far' keep g h :=
  ⟨hn.lo, hn.hi, fun i hi => hn.far i (hf i hi), hn.keep⟩

def offX (W i : Nat) : Prop := i % W % 8 ≠ 0 ∧ i % W % 8 ≠ 7
def offY (W i : Nat) : Prop := i / W % 8 ≠ 0 ∧ i / W % 8 ≠ 7

theorem rowE_near {q : Int} {W y : Nat} {g h : Nat → Int} (hq : 0 ≤ q) (hg : ∀ i, 0 ≤ g i ∧ g i ≤ 255) (hn : Near (q / 2) (fun i => y * W + 7 ≤ i) (offX W) g h) :
    ∀ k, k ≤ edges W → Near (q / 2) (fun i => y * W + 8 * (k + 1) - 1 ≤ i) (offX W) g (rowE q W y k h)
  | 0, _ => hn.weak (fun i hi => by omega)
  | k + 1, hk => by
    have hx := edges_lt.1 (show k < edges W by omega)
    have m1 := pos_mod (W := W) (x := 8 * (k + 1)) (y := y) (by omega)
    have m2 := pos_mod (W := W) (x := 8 * (k + 1) - 1) (y := y) (by omega)
    have e : y * W + 8 * (k + 1) - 1 = y * W + (8 * (k + 1) - 1) := by omega
    refine Near.step hq hg (rowE_near hq hg hn k (by omega)) (by omega) (by omega) ?_ ?_ (fun i hi => by omega)
    · rintro ⟨a, _⟩; rw [m1.1] at a; omega
    · rintro ⟨_, b⟩; rw [e, m2.1] at b; omega
theorem rowsE_near {q : Int} {W : Nat} {g : Nat → Int} (hq : 0 ≤ q) (hW : 1 ≤ W) (hg : ∀ i, 0 ≤ g i ∧ g i ≤ 255) : ∀ y, Near (q / 2) (fun i => y * W + 7 ≤ i) (offX W) g (rowsE q W y g)
  | 0 => ⟨fun i => by show -(q / 2) ≤ g i - g i; omega, fun i => by show g i - g i ≤ q / 2; omega, fun _ _ => rfl, fun _ _ => rfl⟩
  | y + 1 => (rowE_near hq hg (rowsE_near hq hW hg y) (edges W) (Nat.le_refl _)).weak (fun i hi => by
      have : 8 * edges W ≤ W - 2 := by unfold edges; omega
      rw [Nat.add_mul] at hi
      omega)

theorem colE_near {q : Int} {W H x : Nat} {g h : Nat → Int} (hq : 0 ≤ q) (hx : x < W) (hg : ∀ i, 0 ≤ g i ∧ g i ≤ 255) (hn : Near (q / 2) (fun i => x < i % W ∨ (i % W = x ∧ 7 ≤ i / W)) (offY W) g h) :
    ∀ k, k ≤ edges H → Near (q / 2) (fun i => x < i % W ∨ (i % W = x ∧ 8 * (k + 1) - 1 ≤ i / W)) (offY W) g (colE q W x k h)
  | 0, _ => hn.weak (fun i hi => by omega)
  | k + 1, hk => by
    have m1 := pos_mod (W := W) (x := x) (y := 8 * (k + 1)) hx
    have m2 := pos_mod (W := W) (x := x) (y := 8 * (k + 1) - 1) hx
    have e : 8 * (k + 1) * W + x - W = (8 * (k + 1) - 1) * W + x := by
      rw [Nat.sub_mul, Nat.one_mul]
      have := Nat.le_mul_of_pos_left W (show 0 < 8 * (k + 1) by omega)
      omega
    refine Near.step hq hg (colE_near (H := H) hq hx hg hn k (by omega)) (.inr ⟨m1.1, by rw [m1.2]; omega⟩) (.inr ⟨by rw [e]; exact m2.1, by rw [e, m2.2]; omega⟩) ?_ ?_ (fun i hi => ?_)
    · rintro ⟨a, _⟩; rw [m1.2] at a; omega
    · rintro ⟨_, b⟩; rw [e, m2.2] at b; omega
    · refine ⟨by omega, ?_, ?_⟩
      · rintro rfl; rw [m1.1, m1.2] at hi; omega
      · rintro rfl; rw [e, m2.1, m2.2] at hi; omega
theorem colsE_near {q : Int} {W H : Nat} {g : Nat → Int} (hq : 0 ≤ q) (hg : ∀ i, 0 ≤ g i ∧ g i ≤ 255) : ∀ x, x ≤ W → Near (q / 2) (fun i => x ≤ i % W) (offY W) g (colsE q W H x g)
  | 0, _ => ⟨fun i => by show -(q / 2) ≤ g i - g i; omega, fun i => by show g i - g i ≤ q / 2; omega, fun _ _ => rfl, fun _ _ => rfl⟩
  | x + 1, hx => (colE_near hq (by omega) hg ((colsE_near hq hg x (by omega)).weak (fun i hi => by omega)) (edges H) (Nat.le_refl _)).weak (fun i hi => by omega)

theorem dbP_near {q : Int} {W H : Nat} {g : Nat → Int} (hq : 0 ≤ q) (hW : 1 ≤ W) (hg : ∀ i, 0 ≤ g i ∧ g i ≤ 255) (i : Nat) :
    -(2 * (q / 2)) ≤ dbP q W H g i - g i ∧ dbP q W H g i - g i ≤ 2 * (q / 2) ∧ (offX W i → offY W i → dbP q W H g i = g i) := by
  have h1 := rowsE_near hq hW hg H
  have h2 := colsE_near (H := H) hq (rowsE_byt (q := q) (W := W) hg H) W (Nat.le_refl _)
  have a := h1.lo i; have b := h1.hi i; have c := h2.lo i; have d := h2.hi i
  unfold dbP
  refine ⟨by omega, by omega, fun x y => ?_⟩
  rw [h2.keep i y, h1.keep i x]
end Go.Kin
