/- The live question of layer 6. -/
import Derived.Test.YtlkogokhcdehfaaPw5
import Derived.Test.YtlkogokhcdehfaaPw6
namespace Go.Proofs.Ytlkogokhcdehfaa
open Go.RowKit Go.Kin
set_option linter.unusedVariables false

theorem four_cells (i : Nat) (hi : i < 4) : (#[.int .u8 1, .int .u8 2, .int .u8 3, .int .u8 4] : Array Value)[i]? = some (by8 (fun k => if k < 4 then (k : Int) + 1 else 0) i) := by
  match i, hi with
  | 0, _ => rfl
  | 1, _ => rfl
  | 2, _ => rfl
  | 3, _ => rfl
def q6 : Nat → Int := layP 3 (fun _ => 9) 1 1 2 (fun k => if k < 4 then (k : Int) + 1 else 0)

set_option maxRecDepth 100000 in
set_option maxHeartbeats 2000000 in
theorem alive06 (w : World) : Calls Try.prog 30 #[] w fun e w' => e = .returned (.bool true) ∧ Below w.heap.size w w' := by
  have K := Kn.start w
  have hr : rightB 3 2 6 = true := by decide
  go_enter Try.func30, Try.ntmps30
  go_wp2_with fail
  refine (new_yes 3 2 9 6 _ (by decide) (by decide)).mono ?_
  rintro e w1 ⟨b1, rfl, hb1, hr1, hL1⟩
  replace K := (K.below hL1).add (x := .row b1 6 (by8 fun _ => 9)) hr1
  clear hL1 hr1
  go_wp2_with fail
  replace K := (K.new w1.heap.size #[.int .i64 3, .int .i64 2, .slice (some ⟨b1, 0, none⟩) 6 6] 29 rfl).new (w1.heap.size + 1) #[.int .u8 1, .int .u8 2, .int .u8 3, .int .u8 4] 5 (by simp)
  refine (lay_yes 3 2 _ _ 6 6 4 4 (fun _ => 9) (fun k => if k < 4 then (k : Int) + 1 else 0) 1 1 2 _ (by omega) (by omega) rfl hr ⟨by omega, by omega⟩ ⟨by omega, by omega⟩ (Row.rd K.2.2.1) (Box.rd K.1 four_cells) (by omega) (by omega)).mono ?_
  rintro e w2 ⟨b2, rfl, hb2, hr2, hL2⟩
  replace K := (K.below hL2).add (x := .row b2 6 (by8 q6)) hr2
  clear hL2 hr2
  go_wp2_with fail
  replace K := K.new w2.heap.size #[.int .i64 3, .int .i64 2, .slice (some ⟨b2, 0, none⟩) 6 6] 29 rfl
  refine (block_yes 3 2 _ 6 6 q6 2 1 2 _ hr (Row.rd K.2.1) (by omega) (by omega) ⟨by omega, by omega⟩ ⟨by omega, by omega⟩).mono ?_
  rintro e w3 ⟨b3, rfl, hb3, hr3, hL3⟩
  replace K := (K.below hL3).add (x := .row b3 4 (by8 (blockP 3 2 q6 2 1 2))) hr3
  clear hL3 hr3
  go_wp2_with fail
  refine (blank_yes 16 32 7 512 128 _ (by decide) (by decide) (by decide)).mono ?_
  rintro e w4 ⟨A1, c1, A2, c2, A3, c3, rfl, hy, hu, hx, hL4⟩
  replace K := K.below hL4
  clear hL4 hy hu hx
  replace R3 : Row _ _ _ _ := K.1
  replace kc1 := Box.cells K.2.1
  replace kl1 := Box.lt K.2.1
  replace kc4 := Box.cells K.2.2.2.2.1
  replace kl4 := Box.lt K.2.2.2.2.1
  replace L : Below _ _ _ := K.2.2.2.2.2.2.1
  have x0 := R3.cell (i := 0) (by omega)
  have x1 := R3.cell (i := 1) (by omega)
  have x2 := R3.cell (i := 2) (by omega)
  have y0 : blockP 3 2 q6 2 1 2 0 = 2 := by decide
  have y1 : blockP 3 2 q6 2 1 2 1 = 2 := by decide
  have y2 : blockP 3 2 q6 2 1 2 2 = 2 := by decide
  simp only [by8, y0, y1, y2] at x0 x1 x2
  clear y0 y1 y2
  have lb3 := R3.lt
  go_wp2_with fail
  replace K := K.new w4.heap.size #[.int .i64 16, .int .i64 32, .slice A1 512 c1, .int .i64 8, .int .i64 16, .slice A2 128 c2, .int .i64 8, .int .i64 16, .slice A3 128 c3] 39 rfl
  refine (at_yes 3 2 _ 6 6 q6 1 1 _ hr (Row.rd K.2.2.2.1)).mono ?_
  rintro e w5 ⟨rfl, hb5⟩
  have ya : atP 3 2 q6 1 1 = 1 := by decide
  replace K := K.below hb5
  clear hb5
  replace kc0 := Box.cells K.1
  replace kl0 := Box.lt K.1
  replace kc5 := Box.cells K.2.2.2.2.2.1
  replace kl5 := Box.lt K.2.2.2.2.2.1
  replace L : Below _ _ _ := K.2.2.2.2.2.2.2.1
  go_wp2_with fail
  refine (whole_any ⟨16, 32, A1, 512, c1, fun _ => 7⟩ ⟨8, 16, A2, 128, c2, fun _ => 7⟩ ⟨8, 16, A3, 128, c3, fun _ => 7⟩ _).mono ?_
  rintro e w6 ⟨rfl, hb6⟩
  have yw : wholeB ⟨16, 32, A1, 512, c1, fun _ => 7⟩ ⟨8, 16, A2, 128, c2, fun _ => 7⟩ ⟨8, 16, A3, 128, c3, fun _ => 7⟩ = true := rfl
  replace K := K.below hb6
  clear hb6
  replace kc0 := Box.cells K.1
  replace kl0 := Box.lt K.1
  replace L : Below _ _ _ := K.2.2.2.2.2.2.2.1
  go_wp2
  go_ret
  exact ⟨rfl, L⟩
end Go.Proofs.Ytlkogokhcdehfaa
