/- Walks of the document's layer 9: sample, by the mode 3. -/
import Derived.Test.YtcojphdohpgjnaaIn6
namespace Go.Proofs.Ytcojphdohpgjnaa
open Go.RowKit Go.Kin
set_option linter.unusedVariables false

set_option maxRecDepth 100000 in
set_option maxHeartbeats 2000000 in
theorem rsample3 (W H : Int) (A : Option Addr) (N c : Nat) (g : Nat → Int) (X Y n i j : Nat) (w : World) (hr : rightB W H N = true) (hS : Rd w A N (by8 g)) (hg : Byt g) (hX : X ≤ 4096) (hY : Y ≤ 4096) (hi : i ≤ 8) (hj : j ≤ 8) :
    Calls Try.prog 36 #[.agg #[.int .i64 W, .int .i64 H, .slice A N c], .int .i64 X, .int .i64 Y, .int .i64 n, .int .i64 3, .int .i64 i, .int .i64 j] w
      fun e w' => e = .returned (.int .u8 (clip8 (at9 W H g ((X : Int) + i) ((Y : Int) - 1) + at9 W H g ((X : Int) - 1) ((Y : Int) + j) - at9 W H g ((X : Int) - 1) ((Y : Int) - 1)))) ∧ Below w.heap.size w w' := by
  obtain ⟨a0, a1⟩ := at9_bd (W := W) (H := H) (x := (X : Int) + i) (y := (Y : Int) - 1) hg
  obtain ⟨b0, b1⟩ := at9_bd (W := W) (H := H) (x := (X : Int) - 1) (y := (Y : Int) + j) hg
  obtain ⟨c0, c1⟩ := at9_bd (W := W) (H := H) (x := (X : Int) - 1) (y := (Y : Int) - 1) hg
  have K2 := ((Kn.start w).add (x := .rd A N (by8 g)) hS).new w.heap.size #[.int .i64 W, .int .i64 H, .slice A N c] 24 rfl
  clear hS
  go_enter Try.func36, Try.ntmps36
  go_wp2
  generalize w.alloc (.cells #[.int .i64 W, .int .i64 H, .slice A N c] 24) = w0 at K2 ⊢
  have z1 : IntKind.i64.wrap ((X : Int) + i) = X + i := IntWalk.i64_in _ (by omega)
  have z2 : IntKind.i64.wrap ((Y : Int) - 1) = Y - 1 := IntWalk.i64_in _ (by omega)
  have z3 : IntKind.i64.wrap ((X : Int) - 1) = X - 1 := IntWalk.i64_in _ (by omega)
  have z4 : IntKind.i64.wrap ((Y : Int) + j) = Y + j := IntWalk.i64_in _ (by omega)
  have KD := Kn.drew K2
  refine wp_region_allH (fun w' => Kn w' _) [6, 13, 20, 22] [(0,1),(1,1),(2,1),(3,1),(4,1),(5,1),(7,1),(8,1),(9,1),(10,1),(11,1),(12,1),(15,1),(16,1),(17,1),(18,1),(19,1),(6,2),(13,2),(14,1),(20,2),(21,1),(22,2),(23,0)] (by kernel_rfl) (by kernel_rfl) (fun _ _ d _ _ h => by cases d <;> exact h) (KD) ?_
  generalize w0.drew = wd at KD ⊢
  repeat (first | (refine oH_freeG rfl rfl (fun w' hS => by have s1 := Box.cells hS.1; clear hS; go_simp; with_reducible rfl) ?_; go_simp) | (refine oH_skipG rfl rfl ?_; go_simp))
  refine oH_doG rfl rfl (fun KK hKK => ?_)
  go_simp
  refine (r9at_any W H A N c g _ _ _ hr KD.2.1 hg).mono ?_
  rintro e w3 ⟨rfl, hL3⟩
  have K3 := KD.below hL3
  refine hKK _ _ ⟨K3, ?_⟩
  clear hKK KK hL3 KD K2
  refine oH_doG rfl rfl (fun KK hKK => ?_)
  go_simp
  refine (r9at_any W H A N c g _ _ _ hr K3.2.1 hg).mono ?_
  rintro e w4 ⟨rfl, hL4⟩
  have K4 := K3.below hL4
  refine hKK _ _ ⟨K4, ?_⟩
  clear hKK KK hL4 K3
  have z5 : IntKind.i64.wrap (at9 W H g ((X : Int) + i) ((Y : Int) - 1) + at9 W H g ((X : Int) - 1) ((Y : Int) + j)) = at9 W H g ((X : Int) + i) ((Y : Int) - 1) + at9 W H g ((X : Int) - 1) ((Y : Int) + j) := IntWalk.i64_in _ (by omega)
  have z6 : IntKind.i64.wrap (at9 W H g ((X : Int) + i) ((Y : Int) - 1) + at9 W H g ((X : Int) - 1) ((Y : Int) + j) - at9 W H g ((X : Int) - 1) ((Y : Int) - 1)) = at9 W H g ((X : Int) + i) ((Y : Int) - 1) + at9 W H g ((X : Int) - 1) ((Y : Int) + j) - at9 W H g ((X : Int) - 1) ((Y : Int) - 1) := IntWalk.i64_in _ (by omega)
  repeat (first | (refine oH_freeG rfl rfl (fun w' hS => by have s1 := Box.cells hS.1; clear hS; go_simp; with_reducible rfl) ?_; go_simp) | (refine oH_skipG rfl rfl ?_; go_simp))
  refine oH_doG rfl rfl (fun KK hKK => ?_)
  go_simp
  refine (r9at_any W H A N c g _ _ _ hr K4.2.1 hg).mono ?_
  rintro e w5 ⟨rfl, hL5⟩
  have K5 := K4.below hL5
  refine hKK _ _ ⟨K5, ?_⟩
  clear hKK KK hL5 K4
  repeat (first | (refine oH_freeG rfl rfl (fun w' hS => by have s1 := Box.cells hS.1; clear hS; go_simp; with_reducible rfl) ?_; go_simp) | (refine oH_skipG rfl rfl ?_; go_simp))
  refine oH_doG rfl rfl (fun KK hKK => ?_)
  go_simp
  refine (rclip_any _ _).mono ?_
  rintro e w6 ⟨rfl, rfl⟩
  refine hKK _ _ ⟨K5, ?_⟩
  clear hKK KK
  repeat (refine oH_still rfl (fun KK hKK => ?_); go_simp; refine hKK _ ?_; clear hKK KK)
  refine oH_nil ?_
  clear z1 z2 z3 z4 z5 z6
  go_wp2
  go_ret
  exact ⟨rfl, K5.2.2.1⟩
end Go.Proofs.Ytcojphdohpgjnaa
