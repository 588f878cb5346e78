/- Walks of package intra: look, way d. (Printed by tools/genIn4.py.) -/
import Derived.Test.YtcojphdohpgjnaaIn4
namespace Go.Proofs.Ytcojphdohpgjnaa
open Go.RowKit Go.Kin
set_option linter.unusedVariables false

set_option maxRecDepth 100000 in
set_option maxHeartbeats 4000000 in
theorem look_d (W H X Y n : Nat) (b off N c : Nat) (g : Nat → Int) (w : World) (hr : rightB W H N = true) (hS : Rd w (some ⟨b, off, none⟩) N (by8 g)) (hb : b < w.heap.size) (hnc : N ≤ c) (hc : c ≤ 9223372036854775807) (n1 : 1 ≤ n) (n8 : n ≤ 8) (hX : X + n ≤ W) (hY : Y + n ≤ H) (y0 : 0 < Y) (x0 : 0 < X) :
    Calls Try.prog 34 #[.agg #[.int .i64 W, .int .i64 H, .slice (some ⟨b, off, none⟩) N c], .int .i64 X, .int .i64 Y, .int .i64 n] w (Around n (abP W g X Y n) (lfP W g X Y n) (coP W g X Y) w) := by
  obtain ⟨r1, r2, r3, r4, r5⟩ := rightB_iff.1 hr
  have hNW : N = W * H := by exact_mod_cast r5
  have hN := rightB_le hr
  have HNW := Lib.hid hNW
  clear r5 hNW
  have K := (((((Kn.start w).add (x := .rd (some ⟨b, off, none⟩) N (by8 g)) hS).new w.heap.size #[.int .i64 W, .int .i64 H, .slice (some ⟨b, off, none⟩) N c] 24 rfl).new (w.heap.size + 1) (arCells 0 (fun _ => 0) (fun _ => 0) 0) 61 (by simp)).new (w.heap.size + 1 + 1) (arCells n (fun _ => 0) (fun _ => 0) 128) 61 (by simp))
  clear hS
  have HYX := Lib.hid (And.intro y0 x0)
  clear y0 x0
  go_enter Try.func34, Try.ntmps34
  go_wp2
  have HK := Lib.hid (show Kn _ [.mr (w.heap.size + 1 + 1) 18 (arV n (fun k => if k < 0 then 128 else 0) (fun k => if k < 0 then 128 else 0) 128), .box (w.heap.size + 1) (arCells 0 (fun _ => 0) (fun _ => 0) 0), .box w.heap.size #[.int .i64 W, .int .i64 H, .slice (some ⟨b, off, none⟩) N c], .rd (some ⟨b, off, none⟩) N (by8 g), .since w] from ⟨Box.mr (f := arV n (fun _ => 0) (fun _ => 0) 128) K.1 (fun j _ => by simp), K.2⟩)
  clear K
  generalize ((w.alloc (.cells #[.int .i64 W, .int .i64 H, .slice (some ⟨b, off, none⟩) N c] 24)).alloc (.cells (arCells 0 (fun _ => 0) (fun _ => 0) 0) 61)).alloc (.cells (arCells n (fun _ => 0) (fun _ => 0) 128) 61) = w3 at HK ⊢
  go_loopw [16] (fun i wr => ∃ k : Nat, k ≤ n ∧ i = .int .i64 k ∧ Kn wr [.mr (w.heap.size + 1 + 1) 18 (arV n (fun j => if j < k then 128 else 0) (fun j => if j < k then 128 else 0) 128), .box (w.heap.size + 1) (arCells 0 (fun _ => 0) (fun _ => 0) 0), .box w.heap.size #[.int .i64 W, .int .i64 H, .slice (some ⟨b, off, none⟩) N c], .rd (some ⟨b, off, none⟩) N (by8 g), .since w]) (fun i _ => n - (intOf i).toNat)
  case atStart => exact ⟨0, Nat.zero_le _, rfl, HK.out⟩
  case round =>
    obtain ⟨k, hk, rfl, K⟩ := hrel
    clear HK
    by_cases hlt : k < n
    · have k8 : (k : Int) < 8 := by omega
      have k9 : k < 8 := by omega
      have c1 := Row.cell (Box.mrRow K.1) (i := 1 + k) (by omega)
      have f1 := Box.frozen K.1 (1 + k)
      have c2 := Row.cell (Box.mrRow K.1) (i := 9 + k) (by omega)
      have f2 := Box.frozen K.1 (9 + k)
      have e1 : arV n (fun j => if j < k then 128 else 0) (fun j => if j < k then 128 else 0) 128 (1 + k) = .int .u8 0 := by unfold arV; rw [if_neg (by omega), if_pos (by omega)]; simp
      have e2 : arV n (fun j => if j < k then 128 else 0) (fun j => if j < k then 128 else 0) 128 (9 + k) = .int .u8 0 := by unfold arV; rw [if_neg (by omega), if_neg (by omega), if_pos (by omega)]; simp
      rw [e1] at c1
      rw [e2] at c2
      clear e1 e2
      have nn : ¬ (9 + k = 1 + k) := by omega
      have nm : ¬ (1 + k = 9 + k) := by omega
      have HK := Lib.hid K
      clear K
      go_wp2
      go_roundw
      case rel =>
        have off1 : Offs (w.heap.size + 1 + 1) [.box (w.heap.size + 1) (arCells 0 (fun _ => 0) (fun _ => 0) 0), .box w.heap.size #[.int .i64 W, .int .i64 H, .slice (some ⟨b, off, none⟩) N c], .rd (some ⟨b, off, none⟩) N (by8 g), .since w] := ⟨by simp [It.off], by simp [It.off]; omega, off_rd (by omega), by simp [It.off]; omega, trivial⟩
        refine ⟨k + 1, hlt, by go_num, ((Kn.setMr HK.out (1 + k) (.int .u8 128) off1).setMr (9 + k) (.int .u8 128) off1).mr fun j hj => ?_⟩
        rw [arV_ab k9, arV_lf k9]
        exact arV_congr (fun m _ => by by_cases e : m = k <;> by_cases e2 : m < k <;> simp [e, e2] <;> omega) (fun m _ => by by_cases e : m = k <;> by_cases e2 : m < k <;> simp [e, e2] <;> omega)
      case measure => simp [intOf]; omega
    · obtain rfl : n = k := by omega
      obtain ⟨P, hP⟩ : ∃ P : Nat, P = Y * W + X := ⟨_, rfl⟩
      have hPi : (Y : Int) * W + X = P := by rw [hP]; simp
      have p0 : (0 : Int) ≤ (Y : Int) * W := Int.mul_nonneg (by omega) (by omega)
      have pr : ∀ r, r ≤ H → 1 ≤ r → (r - 1) * W + W ≤ N := fun r h1 h2 => by
        have h3 := Nat.mul_le_mul_left W h1
        have h4 : (r - 1) * W + W = r * W := by rw [Nat.sub_mul, Nat.one_mul]; have := Nat.mul_le_mul_right W h2; omega
        have h5 := HNW.out
        rw [h4, Nat.mul_comm]
        omega
      have PR := Lib.hid pr
      have p1 : P + n ≤ N := by have := pr (Y + 1) (by omega) (by omega); rw [Nat.add_sub_cancel] at this; omega
      have HP := Lib.hid hP
      clear hP pr
      have kcp := Box.cells K.2.2.1
      have off1 : Offs (w.heap.size + 1 + 1) [.box (w.heap.size + 1) (arCells 0 (fun _ => 0) (fun _ => 0) 0), .box w.heap.size #[.int .i64 W, .int .i64 H, .slice (some ⟨b, off, none⟩) N c], .rd (some ⟨b, off, none⟩) N (by8 g), .since w] := ⟨by simp [It.off], by simp [It.off]; omega, off_rd (by omega), by simp [It.off]; omega, trivial⟩
      obtain ⟨y0, x0⟩ := HYX.out
      clear HYX
      have HX0 := Lib.hid x0
      clear x0
      have yi : (0 : Int) < Y := by omega
      have yW : W ≤ P := by have := HP.out; have := Nat.mul_le_mul_right W (show 1 ≤ Y by omega); omega
      go_wp2
      have d0 : (W : Int) ≤ P := by omega
      have d1 : (P : Int) - W + n ≤ c := by omega
      have d2 : (P : Int) - W ≤ max ((P : Int) - W + n) 0 := by omega
      have d3 : ¬ (c = P - W) := by omega
      have d4 : (0 : Int) ≤ (P : Int) - W + n := by omega
      have d5 : (n : Int) ≤ 8 := by omega
      have d6 : (0 : Int) ≤ (P : Int) - W := by omega
      have d7 : (P : Int) - W ≤ ((P - W : Nat) : Int) + n := by omega
      have t1 : ((P : Int) - W).toNat = P - W := by omega
      have t2 : ((P : Int) - W + n).toNat = P - W + n := by omega
      have t3 : P - W + n - (P - W) = n := by omega
      have z1 : IntKind.i64.wrap ((P : Int) - W) = P - W := IntWalk.i64_in _ (by omega)
      have z2 : IntKind.i64.wrap ((P : Int) - W + n) = P - W + n := IntWalk.i64_in _ (by omega)
      refine wp_region_allH (fun w' => Box w' w.heap.size #[.int .i64 W, .int .i64 H, .slice (some ⟨b, off, none⟩) N c]) [16] [(0,1),(1,1),(2,1),(3,1),(4,1),(5,1),(6,1),(7,1),(8,1),(9,1),(10,1),(11,1),(12,1),(13,1),(14,1),(15,1),(16,2)] (by kernel_rfl) (by kernel_rfl) (fun _ _ d _ _ h => by cases d <;> exact h) (Box.drew K.2.2.1) ?_
      repeat (refine oH_free rfl (fun w' hS => by have kS := Box.cells hS; clear hS; go_simp; with_reducible rfl) ?_; go_simp)
      refine oH_do rfl (fun KK hKK => ?_)
      have hsrc : Rd wr.drew (some ⟨b, off + (P - W), none⟩) n (by8 fun i => g (P - W + i)) := fun _ => ⟨b, off + (P - W), rfl, fun i hi => by
        have := Rd.at_ (Rd.drew K.2.2.2.1) (i := P - W + i) (by omega)
        rw [← Nat.add_assoc] at this
        rw [this]
        rfl⟩
      obtain ⟨wq, hrun, hR', ho'⟩ := run_copyX (P := Try.prog) (w := wr.drew) (dT := 22) (sT := 22) (ty := 3) (elem := 5) (dCap := 8) (sCap := c - (P - W)) (dLen := n) Try.underlying22 size_u8 (Box.drew K.1) hsrc (fun _ => rfl) (off := 1) (by omega)
      rw [Nat.min_self] at hR' hrun
      go_simp
      have K1 : Kn wq [.mr (w.heap.size + 1 + 1) 18 (arV n (abP W g X Y n) (fun j => if j < n then 128 else 0) 128), .box (w.heap.size + 1) (arCells 0 (fun _ => 0) (fun _ => 0) 0), .box w.heap.size #[.int .i64 W, .int .i64 H, .slice (some ⟨b, off, none⟩) N c], .rd (some ⟨b, off, none⟩) N (by8 g), .since w] := ⟨Box.mr hR' (fun j _ => by
        have := arV_copy (n := n) (ab := fun j => if j < n then 128 else 0) (lf := fun j => if j < n then 128 else 0) (h := fun i => g (P - W + i)) (co := 128) (j := j) n8
        simp only [by8]
        rw [this]
        exact arV_congr (fun m _ => by
          by_cases e : m < n
          · simp only [abP, e, if_true]
            rw [if_pos y0]
            congr 1
            have h1 := HP.out
            have h2 : (Y - 1) * W + W = Y * W := by rw [Nat.sub_mul, Nat.one_mul]; have := Nat.mul_le_mul_right W (show 1 ≤ Y by omega); omega
            omega
          · simp [abP, e]) (fun m _ => rfl)), Kn.oth (Kn.drew K.2) ho' off1⟩
      refine hKK _ _ ⟨K1.2.2.1, ?_⟩
      clear hKK KK
      refine oH_nil ?_
      clear z1 z2 t1 t2 t3 hR' ho' hrun hsrc K kcp
      have kcp := Box.cells K1.2.2.1
      have K := K1
      clear K1
      generalize wr.drew = wz at *
      obtain ⟨wr, rfl⟩ : ∃ wr : World, wr = wq := ⟨_, rfl⟩
      have x0 := HX0.out
      have xi : (0 : Int) < X := by omega
      have HK0 := Lib.hid (show Kn wr [.mr (w.heap.size + 1 + 1) 18 (arV n (abP W g X Y n) (fun j => if j < 0 then lfP W g X Y n j else if j < n then 128 else 0) 128), .box (w.heap.size + 1) (arCells 0 (fun _ => 0) (fun _ => 0) 0), .box w.heap.size #[.int .i64 W, .int .i64 H, .slice (some ⟨b, off, none⟩) N c], .rd (some ⟨b, off, none⟩) N (by8 g), .since w] from ⟨Box.mr K.1 (fun j _ => arV_congr (fun m _ => rfl) (fun m _ => by simp)), K.2⟩)
      clear K
      go_wp2
      clear kcp
      obtain ⟨wo, rfl⟩ : ∃ wo : World, wo = wr := ⟨_, rfl⟩
      go_loopw [54] (fun i wr => ∃ k : Nat, k ≤ n ∧ i = .int .i64 k ∧ Kn wr [.mr (w.heap.size + 1 + 1) 18 (arV n (abP W g X Y n) (fun j => if j < k then lfP W g X Y n j else if j < n then 128 else 0) 128), .box (w.heap.size + 1) (arCells 0 (fun _ => 0) (fun _ => 0) 0), .box w.heap.size #[.int .i64 W, .int .i64 H, .slice (some ⟨b, off, none⟩) N c], .rd (some ⟨b, off, none⟩) N (by8 g), .since w]) (fun i _ => n - (intOf i).toNat)
      case atStart => exact ⟨0, Nat.zero_le _, rfl, HK0.out⟩
      case round =>
        obtain ⟨k, hk, rfl, K⟩ := hrel
        clear HK0
        have kcp := Box.cells K.2.2.1
        by_cases hlt : k < n
        · have q1 : P + k * W < N := by
            have h1 := PR.out (Y + k + 1) (by omega) (by omega)
            have h2 := HP.out
            rw [Nat.add_sub_cancel, Nat.add_mul] at h1
            omega
          have q2 : (0 : Int) ≤ (k : Int) * W := Int.mul_nonneg (by omega) (by omega)
          have q3 : (P : Int) + (k : Int) * W < N := by exact_mod_cast q1
          have q4 : 1 ≤ P := by have := HP.out; omega
          have tq : ((P : Int) + (k : Int) * W - 1).toNat = P + k * W - 1 := by
            have : ((P + k * W : Nat) : Int) = (P : Int) + (k : Int) * W := by simp
            omega
          have cq := Rd.at_ K.2.2.2.1 (i := P + k * W - 1) (by omega)
          have c2 := Row.cell (Box.mrRow K.1) (i := 9 + k) (by omega)
          have f2 := Box.frozen K.1 (9 + k)
          simp only [by8] at cq
          have k8 : (k : Int) < 8 := by omega
          have k9 : k < 8 := by omega
          have HV : Hid (g (P + k * W - 1) = lfP W g X Y n k) := Lib.hid (by
            unfold lfP
            rw [if_pos hlt, if_pos x0]
            congr 1
            have h2 := HP.out
            rw [Nat.add_mul]
            omega)
          have HK := Lib.hid K
          clear K
          go_wp2
          go_roundw
          case rel =>
            refine ⟨k + 1, hlt, by go_num, (Kn.setMr HK.out (9 + k) (.int .u8 (g (P + k * W - 1))) off1).mr fun j hj => ?_⟩
            rw [arV_lf k9, HV.out]
            exact arV_congr (fun m _ => rfl) (fun m _ => by
              by_cases e : m = k
              · subst e; simp
              · by_cases e2 : m < k
                · simp [e, e2, show m < k + 1 by omega]
                · simp [e, e2, show ¬ m < k + 1 by omega])
          case measure => simp [intOf]; omega
        · obtain rfl : n = k := by omega
          have K2 : Kn wr [.mr (w.heap.size + 1 + 1) 18 (arV n (abP W g X Y n) (lfP W g X Y n) 128), .box (w.heap.size + 1) (arCells 0 (fun _ => 0) (fun _ => 0) 0), .box w.heap.size #[.int .i64 W, .int .i64 H, .slice (some ⟨b, off, none⟩) N c], .rd (some ⟨b, off, none⟩) N (by8 g), .since w] := ⟨Box.mr K.1 (fun j _ => arV_congr (fun m _ => rfl) (fun m _ => by by_cases e : m < n <;> simp [lfP, e])), K.2⟩
          clear K
          have f17 := Box.frozen K2.1 17
          have c17 : wr.cell? ⟨w.heap.size + 1 + 1, 17, none⟩ = some (.int .u8 128) := Box.cell K2.1 17
          have yX : W + 1 ≤ P := by have := HP.out; have := Nat.mul_le_mul_right W (show 1 ≤ Y by omega); omega
          have cp := Rd.at_ K2.2.2.2.1 (i := P - W - 1) (by omega)
          simp only [by8] at cp
          have tp : ((P : Int) - W - 1).toNat = P - W - 1 := by omega
          have HCO : Hid (coP W g X Y = g (P - W - 1)) := Lib.hid (by
            unfold coP
            rw [if_pos ⟨x0, y0⟩]
            congr 1
            have h1 := HP.out
            have h2 : (Y - 1) * W + W = Y * W := by rw [Nat.sub_mul, Nat.one_mul]; have := Nat.mul_le_mul_right W (show 1 ≤ Y by omega); omega
            omega)
          have HK := Lib.hid (show Kn (wr.setCell ⟨w.heap.size + 1 + 1, 17, none⟩ (.int .u8 (g (P - W - 1)))) [.mr (w.heap.size + 1 + 1) 18 (arV n (abP W g X Y n) (lfP W g X Y n) (coP W g X Y)), .box (w.heap.size + 1) (arCells 0 (fun _ => 0) (fun _ => 0) 0), .box w.heap.size #[.int .i64 W, .int .i64 H, .slice (some ⟨b, off, none⟩) N c], .rd (some ⟨b, off, none⟩) N (by8 g), .since w] from (Kn.setMr K2 17 (.int .u8 (g (P - W - 1))) off1).mr fun j hj => by rw [arV_co hj, HCO.out])
          clear K2
          obtain ⟨ta, hga⟩ : Box (wr.setCell ⟨w.heap.size + 1 + 1, 17, none⟩ (.int .u8 (g (P - W - 1)))) (w.heap.size + 1 + 1) (arCells n (abP W g X Y n) (lfP W g X Y n) (coP W g X Y)) := HK.out.1
          obtain ⟨tr, hgr⟩ := HK.out.2.1
          go_wp2_with first | (refine wpList_load_row rfl 61 _ rfl (w.heap.size + 1 + 1) rfl ta _ (0, 0) _ hga Try.underlying61 rfl size_ar ?_) | (refine wpList_store_row rfl 61 _ _ rfl (w.heap.size + 1) (arCells n (abP W g X Y n) (lfP W g X Y n) (coP W g X Y)) rfl rfl tr _ hgr size_ar rfl (ar_one _ _ _ _) ?_)
          refine bodyPost_ret (v := .agg (arCells n (abP W g X Y n) (lfP W g X Y n) (coP W g X Y))) (results_cell_row Try.results34 _ _ (w.heap.size + 1) tr _ (0, 0) _ rfl (setRow_heap _ _ _ _ tr (0, 0) hgr) Try.underlying61 rfl size_ar) rfl ⟨rfl, ?_⟩
          exact Below.trans HK.out.2.2.2.2.1 (Oth.below (oth_setRow _ _ _) (by omega) (Below.size HK.out.2.2.2.2.1))
end Go.Proofs.Ytcojphdohpgjnaa
