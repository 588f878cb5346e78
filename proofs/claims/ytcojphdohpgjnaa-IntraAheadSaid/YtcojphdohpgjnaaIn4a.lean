/- Walks of package intra: look, way a. (Printed by tools/genIn4.py.) -/
import Derived.Test.YtcojphdohpgjnaaIn4
namespace Go.Proofs.Ytcojphdohpgjnaa
open Go.RowKit Go.Kin
set_option linter.unusedVariables false

set_option maxRecDepth 100000 in
set_option maxHeartbeats 4000000 in
theorem look_a (W H X Y n : Nat) (b off N c : Nat) (g : Nat → Int) (w : World) (hr : rightB W H N = true) (hS : Rd w (some ⟨b, off, none⟩) N (by8 g)) (hb : b < w.heap.size) (hnc : N ≤ c) (hc : c ≤ 9223372036854775807) (n1 : 1 ≤ n) (n8 : n ≤ 8) (hX : X + n ≤ W) (hY : Y + n ≤ H) (y0 : Y = 0) (x0 : X = 0) :
    Calls Try.prog 34 #[.agg #[.int .i64 W, .int .i64 H, .slice (some ⟨b, off, none⟩) N c], .int .i64 X, .int .i64 Y, .int .i64 n] w (Around n (abP W g X Y n) (lfP W g X Y n) (coP W g X Y) w) := by
  obtain ⟨r1, r2, r3, r4, r5⟩ := rightB_iff.1 hr
  have hNW : N = W * H := by exact_mod_cast r5
  have hN := rightB_le hr
  have HNW := Lib.hid hNW
  clear r5 hNW
  have K := (((((Kn.start w).add (x := .rd (some ⟨b, off, none⟩) N (by8 g)) hS).new w.heap.size #[.int .i64 W, .int .i64 H, .slice (some ⟨b, off, none⟩) N c] 24 rfl).new (w.heap.size + 1) (arCells 0 (fun _ => 0) (fun _ => 0) 0) 61 (by simp)).new (w.heap.size + 1 + 1) (arCells n (fun _ => 0) (fun _ => 0) 128) 61 (by simp))
  clear hS
  have HYX := Lib.hid (And.intro y0 x0)
  clear y0 x0
  go_enter Try.func34, Try.ntmps34
  go_wp2
  have HK := Lib.hid (show Kn _ [.mr (w.heap.size + 1 + 1) 18 (arV n (fun k => if k < 0 then 128 else 0) (fun k => if k < 0 then 128 else 0) 128), .box (w.heap.size + 1) (arCells 0 (fun _ => 0) (fun _ => 0) 0), .box w.heap.size #[.int .i64 W, .int .i64 H, .slice (some ⟨b, off, none⟩) N c], .rd (some ⟨b, off, none⟩) N (by8 g), .since w] from ⟨Box.mr (f := arV n (fun _ => 0) (fun _ => 0) 128) K.1 (fun j _ => by simp), K.2⟩)
  clear K
  generalize ((w.alloc (.cells #[.int .i64 W, .int .i64 H, .slice (some ⟨b, off, none⟩) N c] 24)).alloc (.cells (arCells 0 (fun _ => 0) (fun _ => 0) 0) 61)).alloc (.cells (arCells n (fun _ => 0) (fun _ => 0) 128) 61) = w3 at HK ⊢
  go_loopw [16] (fun i wr => ∃ k : Nat, k ≤ n ∧ i = .int .i64 k ∧ Kn wr [.mr (w.heap.size + 1 + 1) 18 (arV n (fun j => if j < k then 128 else 0) (fun j => if j < k then 128 else 0) 128), .box (w.heap.size + 1) (arCells 0 (fun _ => 0) (fun _ => 0) 0), .box w.heap.size #[.int .i64 W, .int .i64 H, .slice (some ⟨b, off, none⟩) N c], .rd (some ⟨b, off, none⟩) N (by8 g), .since w]) (fun i _ => n - (intOf i).toNat)
  case atStart => exact ⟨0, Nat.zero_le _, rfl, HK.out⟩
  case round =>
    obtain ⟨k, hk, rfl, K⟩ := hrel
    clear HK
    by_cases hlt : k < n
    · have k8 : (k : Int) < 8 := by omega
      have k9 : k < 8 := by omega
      have c1 := Row.cell (Box.mrRow K.1) (i := 1 + k) (by omega)
      have f1 := Box.frozen K.1 (1 + k)
      have c2 := Row.cell (Box.mrRow K.1) (i := 9 + k) (by omega)
      have f2 := Box.frozen K.1 (9 + k)
      have e1 : arV n (fun j => if j < k then 128 else 0) (fun j => if j < k then 128 else 0) 128 (1 + k) = .int .u8 0 := by unfold arV; rw [if_neg (by omega), if_pos (by omega)]; simp
      have e2 : arV n (fun j => if j < k then 128 else 0) (fun j => if j < k then 128 else 0) 128 (9 + k) = .int .u8 0 := by unfold arV; rw [if_neg (by omega), if_neg (by omega), if_pos (by omega)]; simp
      rw [e1] at c1
      rw [e2] at c2
      clear e1 e2
      have nn : ¬ (9 + k = 1 + k) := by omega
      have nm : ¬ (1 + k = 9 + k) := by omega
      have HK := Lib.hid K
      clear K
      go_wp2
      go_roundw
      case rel =>
        have off1 : Offs (w.heap.size + 1 + 1) [.box (w.heap.size + 1) (arCells 0 (fun _ => 0) (fun _ => 0) 0), .box w.heap.size #[.int .i64 W, .int .i64 H, .slice (some ⟨b, off, none⟩) N c], .rd (some ⟨b, off, none⟩) N (by8 g), .since w] := ⟨by simp [It.off], by simp [It.off]; omega, off_rd (by omega), by simp [It.off]; omega, trivial⟩
        refine ⟨k + 1, hlt, by go_num, ((Kn.setMr HK.out (1 + k) (.int .u8 128) off1).setMr (9 + k) (.int .u8 128) off1).mr fun j hj => ?_⟩
        rw [arV_ab k9, arV_lf k9]
        exact arV_congr (fun m _ => by by_cases e : m = k <;> by_cases e2 : m < k <;> simp [e, e2] <;> omega) (fun m _ => by by_cases e : m = k <;> by_cases e2 : m < k <;> simp [e, e2] <;> omega)
      case measure => simp [intOf]; omega
    · obtain rfl : n = k := by omega
      obtain ⟨P, hP⟩ : ∃ P : Nat, P = Y * W + X := ⟨_, rfl⟩
      have hPi : (Y : Int) * W + X = P := by rw [hP]; simp
      have p0 : (0 : Int) ≤ (Y : Int) * W := Int.mul_nonneg (by omega) (by omega)
      have pr : ∀ r, r ≤ H → 1 ≤ r → (r - 1) * W + W ≤ N := fun r h1 h2 => by
        have h3 := Nat.mul_le_mul_left W h1
        have h4 : (r - 1) * W + W = r * W := by rw [Nat.sub_mul, Nat.one_mul]; have := Nat.mul_le_mul_right W h2; omega
        have h5 := HNW.out
        rw [h4, Nat.mul_comm]
        omega
      have PR := Lib.hid pr
      have p1 : P + n ≤ N := by have := pr (Y + 1) (by omega) (by omega); rw [Nat.add_sub_cancel] at this; omega
      have HP := Lib.hid hP
      clear hP pr
      have kcp := Box.cells K.2.2.1
      have off1 : Offs (w.heap.size + 1 + 1) [.box (w.heap.size + 1) (arCells 0 (fun _ => 0) (fun _ => 0) 0), .box w.heap.size #[.int .i64 W, .int .i64 H, .slice (some ⟨b, off, none⟩) N c], .rd (some ⟨b, off, none⟩) N (by8 g), .since w] := ⟨by simp [It.off], by simp [It.off]; omega, off_rd (by omega), by simp [It.off]; omega, trivial⟩
      obtain ⟨y0, x0⟩ := HYX.out
      clear HYX
      have yz : ¬ 0 < Y := by omega
      have yi : ¬ (0 : Int) < Y := by omega
      have HY := Lib.hid y0
      clear y0
      have xz : ¬ 0 < X := by omega
      have xi : ¬ (0 : Int) < X := by omega
      clear x0
      have HK := Lib.hid (show Kn wr [.mr (w.heap.size + 1 + 1) 18 (arV n (abP W g X Y n) (lfP W g X Y n) (coP W g X Y)), .box (w.heap.size + 1) (arCells 0 (fun _ => 0) (fun _ => 0) 0), .box w.heap.size #[.int .i64 W, .int .i64 H, .slice (some ⟨b, off, none⟩) N c], .rd (some ⟨b, off, none⟩) N (by8 g), .since w] from ⟨Box.mr K.1 (fun j _ => by rw [show coP W g X Y = 128 by unfold coP; rw [if_neg (by omega)]]; exact arV_congr (fun m _ => by unfold abP; rw [if_neg yz]) (fun m _ => by unfold lfP; rw [if_neg xz])), K.2⟩)
      clear K
      obtain ⟨ta, hga⟩ : Box wr (w.heap.size + 1 + 1) (arCells n (abP W g X Y n) (lfP W g X Y n) (coP W g X Y)) := HK.out.1
      obtain ⟨tr, hgr⟩ := HK.out.2.1
      go_wp2_with first | (refine wpList_load_row rfl 61 _ rfl (w.heap.size + 1 + 1) rfl ta _ (0, 0) _ hga Try.underlying61 rfl size_ar ?_) | (refine wpList_store_row rfl 61 _ _ rfl (w.heap.size + 1) (arCells n (abP W g X Y n) (lfP W g X Y n) (coP W g X Y)) rfl rfl tr _ hgr size_ar rfl (ar_one _ _ _ _) ?_)
      refine bodyPost_ret (v := .agg (arCells n (abP W g X Y n) (lfP W g X Y n) (coP W g X Y))) (results_cell_row Try.results34 _ _ (w.heap.size + 1) tr _ (0, 0) _ rfl (setRow_heap _ _ _ _ tr (0, 0) hgr) Try.underlying61 rfl size_ar) rfl ⟨rfl, ?_⟩
      exact Below.trans HK.out.2.2.2.2.1 (Oth.below (oth_setRow _ _ _) (by omega) (Below.size HK.out.2.2.2.2.1))
end Go.Proofs.Ytcojphdohpgjnaa
