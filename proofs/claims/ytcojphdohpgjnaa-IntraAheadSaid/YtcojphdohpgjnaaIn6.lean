/- Walks of the document's layer 9: sample, by the modes 1 and 2. -/
import Derived.Test.YtcojphdohpgjnaaIn5
namespace Go.Proofs.Ytcojphdohpgjnaa
open Go.RowKit Go.Kin
set_option linter.unusedVariables false

set_option maxHeartbeats 1000000 in
theorem rsample1 (W H : Int) (A : Option Addr) (N c : Nat) (g : Nat → Int) (X Y n i j : Nat) (w : World) (hr : rightB W H N = true) (hS : Rd w A N (by8 g)) (hg : Byt g) (hX : X ≤ 4096) (hY : Y ≤ 4096) (hi : i ≤ 8) (hj : j ≤ 8) :
    Calls Try.prog 36 #[.agg #[.int .i64 W, .int .i64 H, .slice A N c], .int .i64 X, .int .i64 Y, .int .i64 n, .int .i64 1, .int .i64 i, .int .i64 j] w fun e w' => e = .returned (.int .u8 (at9 W H g ((X : Int) + i) ((Y : Int) - 1))) ∧ Below w.heap.size w w' := by
  obtain ⟨b0, b1⟩ := at9_bd (W := W) (H := H) (x := (X : Int) + i) (y := (Y : Int) - 1) hg
  have K := (Kn.start w).add (x := .rd A N (by8 g)) hS
  clear hS
  go_enter Try.func36, Try.ntmps36
  go_wp2_with fail
  refine (r9at_any W H A N c g ((X : Int) + i) ((Y : Int) - 1) _ hr (Rd.alloc K.1 _) hg).mono ?_
  rintro e w1 ⟨rfl, hb1⟩
  replace K := (K.new w.heap.size _ _ rfl).below hb1
  clear hb1
  replace L : Below _ _ _ := K.2.2.1
  generalize hv : at9 W H g ((X : Int) + i) ((Y : Int) - 1) = v at *
  have HV := Lib.hid hv
  clear hv
  go_wp2
  go_ret
  exact ⟨ret_int (by rw [HV.out]), L⟩
set_option maxHeartbeats 1000000 in
theorem rsample2 (W H : Int) (A : Option Addr) (N c : Nat) (g : Nat → Int) (X Y n i j : Nat) (w : World) (hr : rightB W H N = true) (hS : Rd w A N (by8 g)) (hg : Byt g) (hX : X ≤ 4096) (hY : Y ≤ 4096) (hi : i ≤ 8) (hj : j ≤ 8) :
    Calls Try.prog 36 #[.agg #[.int .i64 W, .int .i64 H, .slice A N c], .int .i64 X, .int .i64 Y, .int .i64 n, .int .i64 2, .int .i64 i, .int .i64 j] w fun e w' => e = .returned (.int .u8 (at9 W H g ((X : Int) - 1) ((Y : Int) + j))) ∧ Below w.heap.size w w' := by
  obtain ⟨b0, b1⟩ := at9_bd (W := W) (H := H) (x := (X : Int) - 1) (y := (Y : Int) + j) hg
  have K := (Kn.start w).add (x := .rd A N (by8 g)) hS
  clear hS
  go_enter Try.func36, Try.ntmps36
  go_wp2_with fail
  refine (r9at_any W H A N c g ((X : Int) - 1) ((Y : Int) + j) _ hr (Rd.alloc K.1 _) hg).mono ?_
  rintro e w1 ⟨rfl, hb1⟩
  replace K := (K.new w.heap.size _ _ rfl).below hb1
  clear hb1
  replace L : Below _ _ _ := K.2.2.1
  generalize hv : at9 W H g ((X : Int) - 1) ((Y : Int) + j) = v at *
  have HV := Lib.hid hv
  clear hv
  go_wp2
  go_ret
  exact ⟨ret_int (by rw [HV.out]), L⟩
end Go.Proofs.Ytcojphdohpgjnaa
