/- The live question of layer 9. -/
import Derived.Test.YtcojphdohpgjnaaIn10
namespace Go.Proofs.Ytcojphdohpgjnaa
open Go.RowKit Go.Kin
set_option linter.unusedVariables false

def g9 : Nat → Int := fun i => if i = 28 then 40 else 0
theorem g9_byt : Byt g9 := fun i => by unfold g9; split <;> omega

set_option maxRecDepth 100000 in
set_option maxHeartbeats 2000000 in
theorem alive09 (w : World) : Calls Try.prog 14 #[] w fun e w' => e = .returned (.bool true) ∧ Below w.heap.size w w' := by
  have K := Kn.start w
  have hr : rightB 8 8 64 = true := by decide
  have hmk64 : ∀ w, (Instr.makeSlice 22 (.int .i64 64) (.int .i64 64)).run Try.prog w = .ok (.slice (some ⟨w.heap.size, 0, none⟩) 64 64) (w.alloc (.cells (madeCells #[.int .u8 0] 64) 5)) := make_u8 64 (by omega)
  have hmk16 : ∀ w, (Instr.makeSlice 22 (.int .i64 16) (.int .i64 16)).run Try.prog w = .ok (.slice (some ⟨w.heap.size, 0, none⟩) 16 16) (w.alloc (.cells (madeCells #[.int .u8 0] 16) 5)) := make_u8 16 (by omega)
  go_enter Try.func14, Try.ntmps14
  go_upto_region 2 with (fail)
  replace K := (K.make w.heap.size (.int .u8 0) 64 5 rfl).new (w.heap.size + 1) #[.int .i64 8, .int .i64 8, .slice (some ⟨w.heap.size, 0, none⟩) 64 64] 24 (by simp)
  generalize ((w.alloc (.cells (madeCells #[.int .u8 0] 64) 5)).alloc (.cells #[.int .i64 8, .int .i64 8, .slice (some ⟨w.heap.size, 0, none⟩) 64 64] 24)) = w1 at K ⊢
  have kc := Box.cells K.1
  have cr := Row.cell K.2.1 (i := 28) (by omega)
  have fr := Row.frozen K.2.1 28
  go_upto_region 3 with (fail)
  clear cr fr kc
  have K2 : Kn (w1.setCell ⟨w.heap.size, 28, none⟩ (.int .u8 40)) [.row w.heap.size 64 (by8 g9), .box (w.heap.size + 1) #[.int .i64 8, .int .i64 8, .slice (some ⟨w.heap.size, 0, none⟩) 64 64], .since w] :=
    Kn.row (Kn.setRow (l := [.box (w.heap.size + 1) #[.int .i64 8, .int .i64 8, .slice (some ⟨w.heap.size, 0, none⟩) 64 64], .since w]) ⟨K.2.1, K.1, K.2.2.1, trivial⟩ 28 (.int .u8 40) ⟨by show w.heap.size + 1 ≠ w.heap.size; omega, by show w.heap.size ≤ w.heap.size; omega, trivial⟩) (fun i _ => by by_cases e : i = 28 <;> simp [g9, by8, e])
  generalize w1.setCell ⟨w.heap.size, 28, none⟩ (.int .u8 40) = w2 at K2 ⊢
  clear K
  have kc := Box.cells K2.2.1
  go_wp2_with fail
  refine (guess_yes 8 8 4 4 4 1 _ _ 64 64 g9 _ hr (Row.rd K2.1) (by have := Row.lt K2.1; omega) (by omega) (by omega) (.inl rfl) (by omega) (by omega) (by omega) g9_byt).mono ?_
  rintro e w3 ⟨A3, c3, rfl, hR3, _, _, hb3⟩
  have K3 := (K2.below hb3).add (x := .rd A3 16 (by8 (gsP 8 g9 4 4 4 1))) hR3
  clear hb3 hR3 K2 kc
  go_wp2
  have KD := Kn.drew K3
  refine wp_region_allH (fun w' => Kn w' _) [1, 2] [(0,1),(1,2),(2,2),(3,0),(4,0),(5,0),(6,0),(7,0),(8,0),(9,0)] (by kernel_rfl) (by kernel_rfl) (fun _ _ d _ _ h => by cases d <;> exact h) (KD) ?_
  generalize w3.drew = wd at KD ⊢
  repeat (first | (refine oH_freeG rfl rfl (fun w' hS => by have s1 := Box.cells hS.2.2.1; clear hS; go_simp; with_reducible rfl) ?_; go_simp) | (refine oH_skipG rfl rfl ?_; go_simp))
  refine oH_doG rfl rfl (fun KK hKK => ?_)
  go_simp
  have K4 := KD.make wd.heap.size (.int .u8 0) 16 5 rfl
  refine hKK _ _ ⟨K4.2, ?_⟩
  clear hKK KK KD K3
  refine oH_doG rfl rfl (fun KK hKK => ?_)
  go_simp
  refine (choose_yes 8 8 4 4 4 _ _ 64 64 g9 _ 16 16 (fun _ => 0) _ hr (Row.rd K4.2.2.1) (by have := Row.lt K4.2.2.1; omega) (by omega) (by omega) (.inl rfl) (by omega) (by omega) g9_byt (Row.rd K4.1) (fun _ => by show (0 : Int) ≤ 0 ∧ (0 : Int) ≤ 255; omega) rfl).mono ?_
  rintro e w5 ⟨A5, c5, rfl, hR5, _, _, hb5⟩
  have K5 := K4.2.below hb5
  refine hKK _ _ ⟨K5, ?_⟩
  clear hKK KK K4 hb5 hR5
  repeat (refine oH_still rfl (fun KK hKK => ?_); go_simp; refine hKK _ ?_; clear hKK KK)
  refine oH_nil ?_
  have y1 : bestM (fun k => sumAbs (fun _ => 0) (gsP 8 g9 4 4 4 k) 16) 4 = 2 := by decide
  rw [y1]
  clear y1
  go_wp2_with fail
  have K6 := (K5.new w5.heap.size #[.int .u8 9, .int .u8 1] 5 rfl).new (w5.heap.size + 1) #[.int .u8 5, .int .u8 3] 5 (by simp)
  refine (irest_yes _ _ 2 2 2 (fun i => if i = 0 then 9 else 1) (fun i => if i = 0 then 5 else 3) _ (Box.rd K6.2.1 (fun i hi => by match i, hi with | 0, _ => rfl | 1, _ => rfl)) (Box.rd K6.1 (fun i hi => by match i, hi with | 0, _ => rfl | 1, _ => rfl)) (fun i => by dsimp only; split <;> omega) (fun i => by dsimp only; split <;> omega) (by omega)).mono ?_
  rintro e w7 ⟨b7, rfl, hb7, hR7, hL7⟩
  have K7 := (K6.below hL7).add (x := .row b7 2 _) hR7
  clear hL7 hR7 K6 K5 
  have r0 := Row.cell K7.1 (i := 0) (by omega)
  have r1 := Row.cell K7.1 (i := 1) (by omega)
  have hA3 := K7.2.2.2.1
  obtain ⟨b3, o3, rfl, _, hc3⟩ := Rd.some_ hA3 (by omega)
  have x0 := hc3 0 (by omega)
  have x12 := hc3 12 (by omega)
  have x1 := hc3 1 (by omega)
  have y0 : gsP 8 g9 4 4 4 1 0 = 40 := by decide
  have y12 : gsP 8 g9 4 4 4 1 12 = 40 := by decide
  have y1 : gsP 8 g9 4 4 4 1 1 = 0 := by decide
  simp only [by8, y0, y12, y1, Nat.add_zero] at x0 x12 x1
  simp [in64] at r0 r1
  clear y0 y12 y1 hc3 hA3
  have HK := Lib.hid K7
  clear K7
  go_wp2
  go_ret
  exact ⟨rfl, HK.out.2.2.2.2.2.2.1⟩
end Go.Proofs.Ytcojphdohpgjnaa
