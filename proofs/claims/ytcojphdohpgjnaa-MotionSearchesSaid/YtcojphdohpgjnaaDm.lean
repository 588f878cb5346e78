/- Plain numbers: what making one line smooth comes to; no program in sight. -/
namespace Go.Kin

def ap (a b : Int) : Int := max a b - min a b
def clipI (v : Int) : Int := min (max v 0) 255
def lnM (a b c d s : Int) : Int := min (max ((4 * (c - b) + a - d + 4) / 8) (-s)) s
def lnOff (a b c d q : Int) : Bool := decide (q < 0) || decide (31 < q) || decide (4 * (q / 2) ≤ ap b c) || decide (2 * (q / 2) ≤ ap a b) || decide (2 * (q / 2) ≤ ap c d)
def ln1 (a b c d q : Int) : Int := if lnOff a b c d q then b else clipI (b + lnM a b c d (q / 2))
def ln2 (a b c d q : Int) : Int := if lnOff a b c d q then c else clipI (c - lnM a b c d (q / 2))

theorem ap_bd {a b : Int} (ha : 0 ≤ a ∧ a ≤ 255) (hb : 0 ≤ b ∧ b ≤ 255) : 0 ≤ ap a b ∧ ap a b ≤ 255 := by unfold ap; omega
theorem clip_bd (v : Int) : 0 ≤ clipI v ∧ clipI v ≤ 255 := by unfold clipI; omega
theorem ln1_bd {a b c d q : Int} (hb : 0 ≤ b ∧ b ≤ 255) : 0 ≤ ln1 a b c d q ∧ ln1 a b c d q ≤ 255 := by
  unfold ln1; split
  · exact hb
  · exact clip_bd _
theorem ln2_bd {a b c d q : Int} (hc : 0 ≤ c ∧ c ≤ 255) : 0 ≤ ln2 a b c d q ∧ ln2 a b c d q ≤ 255 := by
  unfold ln2; split
  · exact hc
  · exact clip_bd _
theorem ln_off {a b c d q : Int} (h : lnOff a b c d q = true) : ln1 a b c d q = b ∧ ln2 a b c d q = c := by simp [ln1, ln2, h]
theorem ln_on {a b c d q : Int} (h : lnOff a b c d q = false) : ln1 a b c d q = clipI (b + lnM a b c d (q / 2)) ∧ ln2 a b c d q = clipI (c - lnM a b c d (q / 2)) := by simp [ln1, ln2, h]

/-- One line of a row of samples, made smooth: its third sample is at p, each is st behind the last. -/
def sm1 (q : Int) (p st : Nat) (g : Nat → Int) : Nat → Int := fun i =>
  if i = p then ln2 (g (p - 2 * st)) (g (p - st)) (g p) (g (p + st)) q else if i = p - st then ln1 (g (p - 2 * st)) (g (p - st)) (g p) (g (p + st)) q else g i
/-- How many edges a side has. -/
def edges (W : Nat) : Nat := (W - 2) / 8
/-- The first k edges of row y. -/
def rowE (q : Int) (W y : Nat) : Nat → (Nat → Int) → Nat → Int
  | 0, g => g
  | k + 1, g => sm1 q (y * W + 8 * (k + 1)) 1 (rowE q W y k g)
/-- The first y rows. -/
def rowsE (q : Int) (W : Nat) : Nat → (Nat → Int) → Nat → Int
  | 0, g => g
  | y + 1, g => rowE q W y (edges W) (rowsE q W y g)
/-- The first k edges of column x. -/
def colE (q : Int) (W x : Nat) : Nat → (Nat → Int) → Nat → Int
  | 0, g => g
  | k + 1, g => sm1 q (8 * (k + 1) * W + x) W (colE q W x k g)
/-- The first x columns. -/
def colsE (q : Int) (W H : Nat) : Nat → (Nat → Int) → Nat → Int
  | 0, g => g
  | x + 1, g => colE q W x (edges H) (colsE q W H x g)
/-- A plane made smooth. -/
def dbP (q : Int) (W H : Nat) (g : Nat → Int) : Nat → Int := colsE q W H W (rowsE q W H g)

theorem sm1_byt {q : Int} {p st : Nat} {g : Nat → Int} (h : ∀ i, 0 ≤ g i ∧ g i ≤ 255) : ∀ i, 0 ≤ sm1 q p st g i ∧ sm1 q p st g i ≤ 255 := by
  intro i; unfold sm1; split
  · exact ln2_bd (h _)
  · split
    · exact ln1_bd (h _)
    · exact h i
theorem rowE_byt {q : Int} {W y : Nat} {g : Nat → Int} (h : ∀ i, 0 ≤ g i ∧ g i ≤ 255) : ∀ k i, 0 ≤ rowE q W y k g i ∧ rowE q W y k g i ≤ 255
  | 0 => h
  | k + 1 => sm1_byt (rowE_byt h k)
theorem rowsE_byt {q : Int} {W : Nat} {g : Nat → Int} (h : ∀ i, 0 ≤ g i ∧ g i ≤ 255) : ∀ k i, 0 ≤ rowsE q W k g i ∧ rowsE q W k g i ≤ 255
  | 0 => h
  | k + 1 => rowE_byt (rowsE_byt h k) _
theorem colE_byt {q : Int} {W x : Nat} {g : Nat → Int} (h : ∀ i, 0 ≤ g i ∧ g i ≤ 255) : ∀ k i, 0 ≤ colE q W x k g i ∧ colE q W x k g i ≤ 255
  | 0 => h
  | k + 1 => sm1_byt (colE_byt h k)
theorem colsE_byt {q : Int} {W H : Nat} {g : Nat → Int} (h : ∀ i, 0 ≤ g i ∧ g i ≤ 255) : ∀ k i, 0 ≤ colsE q W H k g i ∧ colsE q W H k g i ≤ 255
  | 0 => h
  | k + 1 => colE_byt (colsE_byt h k) _
theorem edges_lt {W k : Nat} : k < edges W ↔ 8 * (k + 1) + 1 < W := by unfold edges; omega
theorem place_lt {W H x y : Nat} (hx : x < W) (hy : y < H) : y * W + x < W * H := by
  have : (y + 1) * W ≤ H * W := Nat.mul_le_mul_right W hy
  rw [Nat.mul_comm W H]
  rw [Nat.add_mul] at this
  omega

theorem ln_flat {v q : Int} (hv : 0 ≤ v ∧ v ≤ 255) : ln1 v v v v q = v ∧ ln2 v v v v q = v := by
  cases h : lnOff v v v v q with
  | true => exact ln_off h
  | false =>
    have hq : 0 ≤ q := by simp [lnOff] at h; omega
    have hm : lnM v v v v (q / 2) = 0 := by unfold lnM; omega
    obtain ⟨h1, h2⟩ := ln_on h
    rw [h1, h2, hm]
    unfold clipI; omega
theorem sm1_id {q : Int} {p st : Nat} {g : Nat → Int} (h1 : ln1 (g (p - 2 * st)) (g (p - st)) (g p) (g (p + st)) q = g (p - st)) (h2 : ln2 (g (p - 2 * st)) (g (p - st)) (g p) (g (p + st)) q = g p) : sm1 q p st g = g := by
  funext i
  unfold sm1
  by_cases x : i = p
  · rw [if_pos x, h2, x]
  · rw [if_neg x]
    by_cases y : i = p - st
    · rw [if_pos y, h1, y]
    · rw [if_neg y]
theorem rowE_id {q : Int} {W y : Nat} {g : Nat → Int} : ∀ {k : Nat}, (∀ j, j < k → sm1 q (y * W + 8 * (j + 1)) 1 g = g) → rowE q W y k g = g
  | 0, _ => rfl
  | k + 1, h => by
    show sm1 q (y * W + 8 * (k + 1)) 1 (rowE q W y k g) = g
    rw [rowE_id fun j hj => h j (by omega)]
    exact h k (by omega)
theorem rowsE_id {q : Int} {W : Nat} {g : Nat → Int} : ∀ {y : Nat}, (∀ z, z < y → ∀ j, j < edges W → sm1 q (z * W + 8 * (j + 1)) 1 g = g) → rowsE q W y g = g
  | 0, _ => rfl
  | y + 1, h => by
    show rowE q W y (edges W) (rowsE q W y g) = g
    rw [rowsE_id fun z hz => h z (by omega)]
    exact rowE_id (h y (by omega))
theorem colE_id {q : Int} {W x : Nat} {g : Nat → Int} : ∀ {k : Nat}, (∀ j, j < k → sm1 q (8 * (j + 1) * W + x) W g = g) → colE q W x k g = g
  | 0, _ => rfl
  | k + 1, h => by
    show sm1 q (8 * (k + 1) * W + x) W (colE q W x k g) = g
    rw [colE_id fun j hj => h j (by omega)]
    exact h k (by omega)
theorem colsE_id {q : Int} {W H : Nat} {g : Nat → Int} : ∀ {x : Nat}, (∀ z, z < x → ∀ j, j < edges H → sm1 q (8 * (j + 1) * W + z) W g = g) → colsE q W H x g = g
  | 0, _ => rfl
  | x + 1, h => by
    show colE q W x (edges H) (colsE q W H x g) = g
    rw [colsE_id fun z hz => h z (by omega)]
    exact colE_id (h x (by omega))
theorem dbP_id {q : Int} {W H : Nat} {g : Nat → Int} (hr : ∀ z, z < H → ∀ j, j < edges W → sm1 q (z * W + 8 * (j + 1)) 1 g = g) (hc : ∀ z, z < W → ∀ j, j < edges H → sm1 q (8 * (j + 1) * W + z) W g = g) : dbP q W H g = g := by
  unfold dbP
  rw [rowsE_id hr, colsE_id hc]
theorem dbP_flat {q v : Int} {W H : Nat} (hv : 0 ≤ v ∧ v ≤ 255) : dbP q W H (fun _ => v) = fun _ => v :=
  dbP_id (fun _ _ _ _ => sm1_id (ln_flat hv).1 (ln_flat hv).2) (fun _ _ _ _ => sm1_id (ln_flat hv).1 (ln_flat hv).2)
end Go.Kin
