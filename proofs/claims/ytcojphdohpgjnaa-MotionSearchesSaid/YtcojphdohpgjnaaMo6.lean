/- The search of a vector, in plain numbers: both ways find the same, and what is found is the nearest and the first. -/
import Derived.Test.YtcojphdohpgjnaaMo4
namespace Go.Kin
/-- A vector and how far its block is. -/
structure Fnd where
  x : Int
  y : Int
  far : Int
theorem aheadV_iff {vx vy wx wy : Int} : aheadV vx vy wx wy = true ↔ (absI vx + absI vy < absI wx + absI wy ∨ (absI vx + absI vy = absI wx + absI wy ∧ (vy < wy ∨ (vy = wy ∧ vx < wx)))) := by
  unfold aheadV
  split
  · split
    · simp only [decide_eq_true_eq]; omega
    · simp only [decide_eq_true_eq]; omega
  · simp only [decide_eq_true_eq]; omega
theorem aheadV_no {vx vy wx wy : Int} : aheadV vx vy wx wy = false ↔ ¬ (absI vx + absI vy < absI wx + absI wy ∨ (absI vx + absI vy = absI wx + absI wy ∧ (vy < wy ∨ (vy = wy ∧ vx < wx)))) := by
  rw [← aheadV_iff]
  cases aheadV vx vy wx wy <;> simp
theorem aheadV_zero (vx vy : Int) : aheadV vx vy 0 0 = false := by
  rw [aheadV_no]
  unfold absI
  omega
def stepS (D : Int → Int → Int) (s : Fnd) (vx vy : Int) : Fnd := if D vx vy < s.far ∨ (D vx vy = s.far ∧ aheadV vx vy s.x s.y = true) then ⟨vx, vy, D vx vy⟩ else s
def vX (r k : Nat) : Int := ((k % (2 * r + 1) : Nat) : Int) - r
def vY (r k : Nat) : Int := ((k / (2 * r + 1) : Nat) : Int) - r
/-- What is found behind k vectors. -/
def srch (D : Int → Int → Int) (r : Nat) : Nat → Fnd
  | 0 => ⟨0, 0, D 0 0⟩
  | k + 1 => stepS D (srch D r k) (vX r k) (vY r k)
theorem vX_at {r p q : Nat} (hp : p < 2 * r + 1) : vX r (q * (2 * r + 1) + p) = (p : Int) - r ∧ vY r (q * (2 * r + 1) + p) = (q : Int) - r := by
  obtain ⟨e1, e2⟩ := pos_mod (y := q) hp
  unfold vX vY
  rw [e1, e2]
  exact ⟨rfl, rfl⟩
theorem srch_inv (D : Int → Int → Int) (r : Nat) : ∀ k, k ≤ (2 * r + 1) * (2 * r + 1) → (srch D r k).far = D (srch D r k).x (srch D r k).y ∧ (srch D r k).far ≤ D 0 0 ∧ ((srch D r k).far = D 0 0 → (srch D r k).x = 0 ∧ (srch D r k).y = 0) ∧
    (-r ≤ (srch D r k).x ∧ (srch D r k).x ≤ r) ∧ (-r ≤ (srch D r k).y ∧ (srch D r k).y ≤ r)
  | 0, _ => ⟨rfl, Int.le_refl _, fun _ => ⟨rfl, rfl⟩, ⟨by show -(r : Int) ≤ 0; omega, by show (0 : Int) ≤ r; omega⟩, ⟨by show -(r : Int) ≤ 0; omega, by show (0 : Int) ≤ r; omega⟩⟩
  | k + 1, hk => by
    have ih := srch_inv D r k (by omega)
    obtain ⟨h1, h2, h3, h4, h5⟩ := ih
    simp only [srch]
    unfold stepS
    split
    · rename_i h
      dsimp only
      have b1 : k % (2 * r + 1) < 2 * r + 1 := Nat.mod_lt _ (by omega)
      have b2 : k / (2 * r + 1) < 2 * r + 1 := Nat.div_lt_of_lt_mul (by omega)
      refine ⟨rfl, ?_, ?_, by unfold vX; generalize k % (2 * r + 1) = a at *; omega, by unfold vY; generalize k / (2 * r + 1) = a at *; omega⟩
      · omega
      · intro he
        exfalso
        rcases h with h | ⟨h, ha⟩
        · omega
        · have := h3 (by omega)
          rw [this.1, this.2, aheadV_zero] at ha
          cases ha
    · exact ⟨h1, h2, h3, h4, h5⟩
/-- The vector of nothing changes nothing. -/
theorem srch_skip {D : Int → Int → Int} {r k : Nat} (hk : k < (2 * r + 1) * (2 * r + 1)) (hx : vX r k = 0) (hy : vY r k = 0) : srch D r (k + 1) = srch D r k := by
  obtain ⟨h1, h2, h3, _⟩ := srch_inv D r k (by omega)
  simp only [srch]
  unfold stepS
  rw [if_neg]
  intro h
  rw [hx, hy] at h
  rcases h with h | ⟨h, ha⟩
  · omega
  · have := h3 h.symm
    rw [this.1, this.2, aheadV_zero] at ha
    cases ha
theorem srch_min (D : Int → Int → Int) (r : Nat) : ∀ k j, j < k → (srch D r k).far < D (vX r j) (vY r j) ∨ ((srch D r k).far = D (vX r j) (vY r j) ∧ aheadV (vX r j) (vY r j) (srch D r k).x (srch D r k).y = false)
  | 0, j, hj => absurd hj (by omega)
  | k + 1, j, hj => by
    simp only [srch]
    generalize hs : srch D r k = s
    unfold stepS
    by_cases hjk : j = k
    · subst hjk
      split
      · right
        dsimp only
        exact ⟨rfl, by rw [aheadV_no]; omega⟩
      · rename_i h
        have hh : ¬ D (vX r j) (vY r j) < s.far ∧ ¬ (D (vX r j) (vY r j) = s.far ∧ aheadV (vX r j) (vY r j) s.x s.y = true) := ⟨fun h' => h (.inl h'), fun h' => h (.inr h')⟩
        rcases Int.lt_or_eq_of_le (show s.far ≤ D (vX r j) (vY r j) by omega) with h' | h'
        · exact .inl h'
        · refine .inr ⟨h', ?_⟩
          cases ha : aheadV (vX r j) (vY r j) s.x s.y with
          | false => rfl
          | true => exact absurd ⟨h'.symm, ha⟩ hh.2
    · have ih := srch_min D r k j (by omega)
      rw [hs] at ih
      split
      · rename_i h
        dsimp only
        rcases h with h | ⟨h, ha⟩
        · left
          rcases ih with ih | ⟨ih, _⟩ <;> omega
        · rcases ih with ih | ⟨ih, ia⟩
          · left; omega
          · right
            refine ⟨by omega, ?_⟩
            rw [aheadV_no] at ia ⊢
            rw [aheadV_iff] at ha
            omega
      · exact ih
end Go.Kin
