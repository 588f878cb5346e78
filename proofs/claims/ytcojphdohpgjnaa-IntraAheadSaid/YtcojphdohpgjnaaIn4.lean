/- Walks of package intra: look. (Printed by tools/genIn4.py.) -/
import Derived.Test.YtcojphdohpgjnaaIn3
import Derived.Test.YtcojphdohpgjnaaKn6
namespace Go.Kin
/-- The cells of what is around a block, by their numbers. -/
def arV (n : Int) (ab lf : Nat → Int) (co : Int) (j : Nat) : Value := if j = 0 then .int .i64 n else if j < 9 then .int .u8 (ab (j - 1)) else if j < 17 then .int .u8 (lf (j - 9)) else .int .u8 co
theorem arV_box {w : World} {b : Nat} {n : Int} {ab lf : Nat → Int} {co : Int} (h : Box w b (arCells n ab lf co)) : Row w b 18 (arV n ab lf co) := by
  obtain ⟨t, h⟩ := h
  refine ⟨_, t, h, Nat.le_refl _, fun i hi => ?_⟩
  match i, hi with
  | 0, _ => exact rfl
  | 1, _ => exact rfl
  | 2, _ => exact rfl
  | 3, _ => exact rfl
  | 4, _ => exact rfl
  | 5, _ => exact rfl
  | 6, _ => exact rfl
  | 7, _ => exact rfl
  | 8, _ => exact rfl
  | 9, _ => exact rfl
  | 10, _ => exact rfl
  | 11, _ => exact rfl
  | 12, _ => exact rfl
  | 13, _ => exact rfl
  | 14, _ => exact rfl
  | 15, _ => exact rfl
  | 16, _ => exact rfl
  | 17, _ => exact rfl
  | k + 18, h => exact absurd h (by omega)
theorem ar18 {w : World} {b : Nat} {n : Int} {ab lf : Nat → Int} {co : Int} (h : Row w b 18 (arV n ab lf co)) :
    w.cell? ⟨b, 0, none⟩ = some (.int .i64 n) ∧ w.cell? ⟨b, 1, none⟩ = some (.int .u8 (ab 0)) ∧ w.cell? ⟨b, 2, none⟩ = some (.int .u8 (ab 1)) ∧ w.cell? ⟨b, 3, none⟩ = some (.int .u8 (ab 2)) ∧ w.cell? ⟨b, 4, none⟩ = some (.int .u8 (ab 3)) ∧ w.cell? ⟨b, 5, none⟩ = some (.int .u8 (ab 4)) ∧ w.cell? ⟨b, 6, none⟩ = some (.int .u8 (ab 5)) ∧ w.cell? ⟨b, 7, none⟩ = some (.int .u8 (ab 6)) ∧ w.cell? ⟨b, 8, none⟩ = some (.int .u8 (ab 7)) ∧ w.cell? ⟨b, 9, none⟩ = some (.int .u8 (lf 0)) ∧ w.cell? ⟨b, 10, none⟩ = some (.int .u8 (lf 1)) ∧ w.cell? ⟨b, 11, none⟩ = some (.int .u8 (lf 2)) ∧ w.cell? ⟨b, 12, none⟩ = some (.int .u8 (lf 3)) ∧ w.cell? ⟨b, 13, none⟩ = some (.int .u8 (lf 4)) ∧ w.cell? ⟨b, 14, none⟩ = some (.int .u8 (lf 5)) ∧ w.cell? ⟨b, 15, none⟩ = some (.int .u8 (lf 6)) ∧ w.cell? ⟨b, 16, none⟩ = some (.int .u8 (lf 7)) ∧ w.cell? ⟨b, 17, none⟩ = some (.int .u8 co) :=
  ⟨h.cell (i := 0) (by omega), h.cell (i := 1) (by omega), h.cell (i := 2) (by omega), h.cell (i := 3) (by omega), h.cell (i := 4) (by omega), h.cell (i := 5) (by omega), h.cell (i := 6) (by omega), h.cell (i := 7) (by omega), h.cell (i := 8) (by omega), h.cell (i := 9) (by omega), h.cell (i := 10) (by omega), h.cell (i := 11) (by omega), h.cell (i := 12) (by omega), h.cell (i := 13) (by omega), h.cell (i := 14) (by omega), h.cell (i := 15) (by omega), h.cell (i := 16) (by omega), h.cell (i := 17) (by omega)⟩
theorem arV_ab {n : Int} {ab lf : Nat → Int} {co v : Int} {x j : Nat} (hx : x < 8) : (if j = 1 + x then Value.int .u8 v else arV n ab lf co j) = arV n (fun k => if k = x then v else ab k) lf co j := by
  unfold arV
  by_cases e : j = 1 + x
  · rw [if_pos e, if_neg (by omega), if_pos (by omega)]
    simp [show j - 1 = x by omega]
  · rw [if_neg e]
    split
    · rfl
    · split
      · dsimp only; rw [if_neg (show ¬ j - 1 = x by omega)]
      · rfl
theorem arV_lf {n : Int} {ab lf : Nat → Int} {co v : Int} {x j : Nat} (hx : x < 8) : (if j = 9 + x then Value.int .u8 v else arV n ab lf co j) = arV n ab (fun k => if k = x then v else lf k) co j := by
  unfold arV
  by_cases e : j = 9 + x
  · rw [if_pos e, if_neg (by omega), if_neg (by omega), if_pos (by omega)]
    simp [show j - 9 = x by omega]
  · rw [if_neg e]
    split
    · rfl
    · split
      · rfl
      · split
        · dsimp only; rw [if_neg (show ¬ j - 9 = x by omega)]
        · rfl
theorem arV_co {n : Int} {ab lf : Nat → Int} {co v : Int} {j : Nat} (hj : j < 18) : (if j = 17 then Value.int .u8 v else arV n ab lf co j) = arV n ab lf v j := by
  unfold arV
  by_cases e : j = 17
  · rw [if_pos e, if_neg (by omega), if_neg (by omega), if_neg (by omega)]
  · rw [if_neg e]
    split
    · rfl
    · split
      · rfl
      · rw [if_pos (by omega), if_pos (by omega)]
theorem arV_copy {n : Int} {ab lf h : Nat → Int} {co : Int} {m j : Nat} (hm : m ≤ 8) : (if 1 ≤ j ∧ j < 1 + m then Value.int .u8 (h (j - 1)) else arV n ab lf co j) = arV n (fun k => if k < m then h k else ab k) lf co j := by
  unfold arV
  by_cases e : 1 ≤ j ∧ j < 1 + m
  · rw [if_pos e, if_neg (by omega), if_pos (by omega)]
    dsimp only
    rw [if_pos (by omega)]
  · rw [if_neg e]
    split
    · rfl
    · split
      · dsimp only; rw [if_neg (by omega)]
      · rfl
theorem arV_congr {n : Int} {ab lf ab' lf' : Nat → Int} {j : Nat} {c : Int} (ha : ∀ k, k < 8 → ab k = ab' k) (hl : ∀ k, k < 8 → lf k = lf' k) : arV n ab lf c j = arV n ab' lf' c j := by
  unfold arV
  split
  · rfl
  · split
    · rw [ha _ (by omega)]
    · split
      · rw [hl _ (by omega)]
      · rfl
def abP (W : Nat) (g : Nat → Int) (X Y n k : Nat) : Int := if k < n then (if 0 < Y then g ((Y - 1) * W + X + k) else 128) else 0
def lfP (W : Nat) (g : Nat → Int) (X Y n k : Nat) : Int := if k < n then (if 0 < X then g ((Y + k) * W + X - 1) else 128) else 0
def coP (W : Nat) (g : Nat → Int) (X Y : Nat) : Int := if 0 < X ∧ 0 < Y then g ((Y - 1) * W + X - 1) else 128
theorem abP_byt {W : Nat} {g : Nat → Int} {X Y n : Nat} (hg : Byt g) : Byt (abP W g X Y n) := fun k => by
  unfold abP
  split
  · split
    · exact hg _
    · omega
  · omega
theorem lfP_byt {W : Nat} {g : Nat → Int} {X Y n : Nat} (hg : Byt g) : Byt (lfP W g X Y n) := fun k => by
  unfold lfP
  split
  · split
    · exact hg _
    · omega
  · omega
theorem coP_byt {W : Nat} {g : Nat → Int} {X Y : Nat} (hg : Byt g) : 0 ≤ coP W g X Y ∧ coP W g X Y ≤ 255 := by
  unfold coP
  split
  · exact hg _
  · omega
end Go.Kin
namespace Go.Proofs.Ytcojphdohpgjnaa
open Go.RowKit Go.Kin
set_option linter.unusedVariables false

/-- What is around a block, made by a call. -/
def Around (n : Nat) (ab lf : Nat → Int) (co : Int) (w : World) (e : Ending) (w' : World) : Prop := e = .returned (.agg (arCells n ab lf co)) ∧ Below w.heap.size w w'

theorem ar_one (n : Int) (ab lf : Nat → Int) (co : Int) : (arCells n ab lf co).all (·.oneCell') = true := by simp [Value.oneCell']
theorem size_ar : (Try.prog.info? 61).map (·.size) = some 18 := by kernel_rfl
end Go.Proofs.Ytcojphdohpgjnaa
