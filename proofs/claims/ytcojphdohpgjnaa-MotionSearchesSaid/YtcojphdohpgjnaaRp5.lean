/- The document's layer 6: near, At. -/
import Derived.Test.YtcojphdohpgjnaaPw3
import Derived.Test.YtcojphdohpgjnaaKn4
namespace Go.Proofs.Ytcojphdohpgjnaa
open Go.RowKit Go.Kin
set_option linter.unusedVariables false

set_option maxHeartbeats 1000000 in
theorem rnear_any (x n : Int) (hn : 1 ≤ n) (hn2 : n ≤ 4096) (w : World) :
    Calls Try.prog 66 #[.int .i64 x, .int .i64 n] w fun e w' => e = .returned (.int .i64 (nearI x 0 (n - 1))) ∧ w = w' := by
  by_cases h : x < 0
  · have H := Lib.hid (show nearI x 0 (n - 1) = 0 by unfold nearI; omega)
    go_enter Try.func66, Try.ntmps66
    go_wp2
    go_ret
    exact ⟨ret_int (by rw [H.out]), rfl⟩
  · by_cases h2 : n ≤ x
    · have H := Lib.hid (show nearI x 0 (n - 1) = n - 1 by unfold nearI; omega)
      go_enter Try.func66, Try.ntmps66
      go_wp2
      go_ret
      exact ⟨ret_int (by rw [H.out]), rfl⟩
    · have H := Lib.hid (show nearI x 0 (n - 1) = x by unfold nearI; omega)
      go_enter Try.func66, Try.ntmps66
      go_wp2
      go_ret
      exact ⟨ret_int (by rw [H.out]), rfl⟩

set_option maxHeartbeats 1000000 in
theorem rat_yes (W H : Int) (A : Option Addr) (n c : Nat) (g : Nat → Int) (x y : Int) (w : World) (hr : rightB W H n = true) (hS : Rd w A n (by8 g)) :
    Calls Try.prog 63 #[.agg #[.int .i64 W, .int .i64 H, .slice A n c], .int .i64 x, .int .i64 y] w fun e w' => e = .returned (.int .u8 (atP W H g x y)) ∧ Below w.heap.size w w' := by
  obtain ⟨r1, r2, r3, r4, r5⟩ := rightB_iff.1 hr
  obtain ⟨b, off, rfl, hb, hc⟩ := hS.some_ (rightB_pos hr)
  have hn := rightB_le hr
  have y0 : 0 ≤ nearI y 0 (H - 1) ∧ nearI y 0 (H - 1) < H := by unfold nearI; omega
  have x0 : 0 ≤ nearI x 0 (W - 1) ∧ nearI x 0 (W - 1) < W := by unfold nearI; omega
  obtain ⟨p1, p2, p3⟩ := place_in r5 x0 y0
  have HA := Lib.hid (show atP W H g x y = g (nearI y 0 (H - 1) * W + nearI x 0 (W - 1)).toNat from rfl)
  have K := (Kn.start w).add (x := .rd (some ⟨b, off, none⟩) n (by8 g)) hS
  have hc1 := hc (nearI y 0 (H - 1) * W + nearI x 0 (W - 1)).toNat (by omega)
  have HR5 := Lib.hid r5
  clear hS hc r5
  go_enter Try.func63, Try.ntmps63
  go_wp2_with fail
  refine (rright_any _ _ _ _ _ _).mono ?_
  rintro e w1 ⟨rfl, hb1⟩
  replace K := (K.new w.heap.size _ _ rfl).below hb1
  clear hb1
  replace kc0 := Box.cells K.1
  replace kl0 := Box.lt K.1
  replace R : Rd _ _ _ _ := K.2.1
  replace L : Below _ _ _ := K.2.2.1
  have hc2 : w1.cell? ⟨b, off + (nearI y 0 (H - 1) * W + nearI x 0 (W - 1)).toNat, none⟩ = some (.int .u8 (g (nearI y 0 (H - 1) * W + nearI x 0 (W - 1)).toNat)) := (L.cell (p := ⟨b, _, none⟩) hb).trans hc1
  clear hc1
  have z3 : IntKind.i64.wrap (nearI y 0 (H - 1) * W) = nearI y 0 (H - 1) * W := IntWalk.i64_in _ (by omega)
  have z4 : IntKind.i64.wrap (nearI y 0 (H - 1) * W + nearI x 0 (W - 1)) = nearI y 0 (H - 1) * W + nearI x 0 (W - 1) := IntWalk.i64_in _ (by omega)
  go_wp2
  go_quiet ((go_at_call 66; exact quietLeft (rnear_any _ _ (by omega) (by omega) _)))
  go_wp2
  go_ret
  exact ⟨ret_int HA.out.symm, L.trans (below_drewN (Below.refl _ _) _)⟩
end Go.Proofs.Ytcojphdohpgjnaa
