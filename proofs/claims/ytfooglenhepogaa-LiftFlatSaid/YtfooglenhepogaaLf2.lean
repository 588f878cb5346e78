/- Walks of package lift: a line's transform back. -/
import Derived.Test.YtfooglenhepogaaLf1
namespace Go.Kin
open Go.RowKit
theorem bck_wi {j : Nat} {M : Int} {l : Nat → Int} (hj : j ≤ 3) (hM : 1 ≤ M) (h : Wi M 8 l) : Wi (4 * M) 8 (bck j l) := fun i hi => by
  have hp : 2 ^ j ≤ 8 := Nat.pow_le_pow_right (n := 2) (by omega) (show j ≤ 3 by omega)
  by_cases hi' : i < 2 ^ j
  · exact (bck_bd hM (h.mono (Int.le_refl _) hp)).mono (Int.mul_le_mul_of_nonneg_right (by omega) (by omega)) (Nat.le_refl _) i hi'
  · rw [bck_out (by omega)]
    have := h i hi
    omega
theorem bst1_at {m t : Nat} {g : Nat → Int} (ht : t < m) {a b : Int} (ha : a = g t + (g (m + t) + 1) / 2) (hb : b = a - g (m + t)) (q : Nat) :
    (if q = 2 * t + 1 then b else if q = 2 * t then a else if q < 2 * t then bst1 m g q else g q) = if q < 2 * (t + 1) then bst1 m g q else g q := by
  by_cases e1 : q = 2 * t + 1
  · subst e1
    unfold bst1
    rw [if_pos rfl, if_pos (by omega), if_pos (by omega), if_neg (by omega), show (2 * t + 1) / 2 = t by omega, hb, ha]
  · by_cases e2 : q = 2 * t
    · subst e2
      unfold bst1
      rw [if_neg e1, if_pos rfl, if_pos (by omega), if_pos (by omega), if_pos (by omega), show (2 * t) / 2 = t by omega, ha]
    · rw [if_neg e1, if_neg e2]
      by_cases e3 : q < 2 * t
      · rw [if_pos e3, if_pos (by omega)]
      · rw [if_neg e3, if_neg (by omega)]
end Go.Kin
namespace Go.Proofs.Ytfooglenhepogaa
open Go.RowKit Go.Kin
set_option linter.unusedVariables false
set_option maxRecDepth 100000 in
set_option maxHeartbeats 4000000 in
theorem back_any (k p : Nat) (l : Nat → Int) (M : Int) (w : World) (hB : Box w p (mkR 8 (in64 l))) (hk : k ≤ 3) (hM0 : 1 ≤ M) (hM : M ≤ 1000000000) (h2 : Wi M 8 l) (N : Nat) (hN : N = 2 ^ k) :
    Calls Try.prog 58 #[.pointer (some ⟨p, 0, none⟩), .int .i64 N] w fun e w' => e = .returned (.tuple #[]) ∧ Box w' p (mkR 8 (in64 (bck k l))) ∧ Oth p w w' := by
  have hs := Box.lt hB
  have HB := Lib.hid hB
  have HN := Lib.hid hN
  have H2 := Lib.hid h2
  have hN8 : N ≤ 8 := by rw [hN]; exact Nat.pow_le_pow_right (n := 2) (by omega) (show k ≤ 3 by omega)
  clear hB hN h2
  go_enter Try.func58, Try.ntmps58
  go_wp2
  go_loopw [4] (fun mm wr => ∃ (j m : Nat), j ≤ k ∧ m = 2 ^ j ∧ mm = .int .i64 m ∧ Oth p w wr ∧ Box wr p (mkR 8 (in64 (bck j l)))) (fun mm _ => 8 - (intOf mm).toNat)
  case atStart => exact ⟨0, 1, by omega, rfl, rfl, Oth.refl _ _, HB.out⟩
  case round =>
    obtain ⟨j, m, hj, hm, rfl, ho, hB⟩ := hrel
    clear HB
    obtain ⟨wo, rfl⟩ : ∃ wo : World, wo = wr := ⟨_, rfl⟩
    rcases Nat.eq_or_lt_of_le hj with j0 | j0
    · have e1 : ¬ (m : Int) < N := by rw [hm, HN.out, j0]; omega
      have HX := Lib.hid (And.intro j0 (And.intro ho hB))
      clear hm ho hB j0
      go_wp2
      go_end0
      refine ⟨rfl, ?_, HX.out.2.1⟩
      rw [← HX.out.1]
      exact HX.out.2.2
    · have hp2 := two_pow_succ j
      have hp3 : 2 ^ (j + 1) ≤ 2 ^ k := Nat.pow_le_pow_right (n := 2) (by omega) (show j + 1 ≤ k by omega)
      have hm0 : 0 < m := by rw [hm]; exact Nat.pow_pos (by omega)
      have hmN : 2 * m ≤ N := by rw [HN.out, hm]; omega
      have hm4 : m ≤ 4 := by omega
      have hN1 : (m : Int) < N := by omega
      have hw := bck_wi (j := j) (l := l) (by omega) hM0 H2.out
      have HE := Lib.hid (show bst1 m (bck j l) = bck (j + 1) l by rw [hm]; rfl)
      have HM := Lib.hid (show m * 2 = 2 ^ (j + 1) by rw [hm, hp2]; omega)
      have HJ := Lib.hid j0
      clear hp2 hp3 hm j0
      generalize bck j l = g at *
      have HW := Lib.hid hw
      have hsr : w.heap.size ≤ wo.heap.size := ho.size
      have hs' : p < wo.heap.size := by omega
      have HK := Lib.hid (And.intro ((ho.alloc zhalf).alloc zhalf) (show Kn ((wo.alloc zhalf).alloc zhalf) [.mr (wo.heap.size + 1) 4 (in64 fun _ => 0), .mr wo.heap.size 4 (in64 fun _ => 0), .mr p 8 (in64 g)] from ((show Kn wo [.mr p 8 (in64 g)] from ⟨hB, trivial⟩).new wo.heap.size #[.int .i64 0, .int .i64 0, .int .i64 0, .int .i64 0] 88 rfl).new (wo.heap.size + 1) #[.int .i64 0, .int .i64 0, .int .i64 0, .int .i64 0] 88 (by simp)))
      clear ho hB hw
      have d1 : (m : Int) ≤ 8 := by omega
      have d2 : (m : Int) ≤ 4 := by omega
      have d3 : ¬ (8 : Nat) = m := by omega
      have d4 : (2 : Int) * m ≤ 8 := by omega
      have d5 : (m : Int) ≤ 2 * m := by omega
      have t1 : 2 * m - m = m := by omega
      have t2 : (2 * (m : Int)).toNat = 2 * m := by omega
      go_wp2
      generalize (wo.alloc zhalf).alloc zhalf = wa at *
      have K := HK.out.2
      have kp := Box.cells K.2.2.1
      obtain ⟨wq, hrun, hR, hq⟩ := run_copyX (P := Try.prog) (w := wa.drew) (dT := 55) (sT := 55) (ty := 3) (elem := 3) (off := 0) (dLen := m) (dCap := 4) (sLen := m) (sCap := 8) Try.underlying55 size_i64 (Box.drew K.2.1) (Box.rd (Box.drew K.2.2.1) (fun i hi => mkR_at (show i < 8 by omega))) (fun _ => rfl) (by omega)
      rw [Nat.min_self] at hrun hR
      refine wp_region_allH (fun _ => True) [6] [(0,1),(1,1),(2,1),(3,1),(4,1),(5,1),(6,2)] (by kernel_rfl) (by kernel_rfl) (fun _ _ d _ _ h => by cases d <;> exact h) (trivial) ?_
      repeat (refine oH_free rfl (fun w' hS => by skip; clear hS; go_simp; with_reducible rfl) ?_; go_simp)
      refine oH_do rfl (fun KK hKK => ?_)
      go_simp
      refine hKK _ _ ⟨trivial, ?_⟩
      clear hKK KK hrun
      refine oH_nil ?_
      have K1 : Kn wq [.mr wo.heap.size 4 (in64 fun s => if s < m then g s else 0), .mr (wo.heap.size + 1) 4 (in64 fun _ => 0), .mr p 8 (in64 g)] := ⟨hR.mr (fun i hi => by simp only [in64]; by_cases e : i < m <;> simp [e]), (Box.drew K.1).oth hq (by omega), (Box.drew K.2.2.1).oth hq (by omega), trivial⟩
      have HO1 := Lib.hid (HK.out.1.drew.newer hq hsr)
      clear hR hq kp K
      have kp := Box.cells K1.2.2.1
      go_wp2
      obtain ⟨wz, hrun, hR, hq⟩ := run_copyX (P := Try.prog) (w := wq.drew) (dT := 55) (sT := 55) (ty := 3) (elem := 3) (off := 0) (dLen := m) (dCap := 4) (sLen := m) (sCap := 8 - m) (A := some ⟨p, m, none⟩) (h := in64 fun s => g (m + s)) Try.underlying55 size_i64 (Box.drew K1.2.1) (fun _ => ⟨p, m, rfl, fun i hi => (Box.cell (Box.drew K1.2.2.1) _).trans (mkR_at (by omega))⟩) (fun _ => rfl) (by omega)
      rw [Nat.min_self] at hrun hR
      have z1 : IntKind.i64.wrap (2 * (m : Int)) = 2 * m := IntWalk.i64_in _ (by omega)
      refine wp_region_allH (fun _ => True) [8] [(0,1),(1,1),(2,1),(3,1),(4,1),(5,1),(6,1),(7,1),(8,2)] (by kernel_rfl) (by kernel_rfl) (fun _ _ d _ _ h => by cases d <;> exact h) (trivial) ?_
      repeat (refine oH_free rfl (fun w' hS => by skip; clear hS; go_simp; with_reducible rfl) ?_; go_simp)
      refine oH_do rfl (fun KK hKK => ?_)
      go_simp
      refine hKK _ _ ⟨trivial, ?_⟩
      clear hKK KK hrun
      refine oH_nil ?_
      have hsz : w.heap.size ≤ wo.heap.size + 1 := by omega
      have HK2 := Lib.hid (And.intro (HO1.out.drew.newer hq hsz) (show Kn wz [.mr wo.heap.size 4 (in64 fun s => if s < m then g s else 0), .mr (wo.heap.size + 1) 4 (in64 fun s => if s < m then g (m + s) else 0), .mr p 8 (in64 fun s => if s < 2 * 0 then bst1 m g s else g s)] from ⟨(Box.drew K1.1).oth hq (by omega), hR.mr (fun i hi => by simp only [in64]; by_cases e : i < m <;> simp [e]), ((Box.drew K1.2.2.1).oth hq (by omega)).mr (fun i _ => by simp), trivial⟩))
      clear hR hq kp K1 HO1 HK t1 t2 z1
      go_wp2
      go_loopw [31] (fun i wr => ∃ t : Nat, t ≤ m ∧ i = .int .i64 t ∧ Oth p w wr ∧ Kn wr [.mr wo.heap.size 4 (in64 fun s => if s < m then g s else 0), .mr (wo.heap.size + 1) 4 (in64 fun s => if s < m then g (m + s) else 0), .mr p 8 (in64 fun s => if s < 2 * t then bst1 m g s else g s)]) (fun i _ => m - (intOf i).toNat)
      case atStart => exact ⟨0, by omega, rfl, HK2.out.1, HK2.out.2⟩
      case round =>
        obtain ⟨t, ht, rfl, ho, K⟩ := hrel
        clear HK2
        by_cases hlt : t < m
        · have k0 := (Box.cell K.1 t).trans (mkR_at (by omega))
          have k1 := (Box.cell K.2.1 t).trans (mkR_at (by omega))
          simp only [in64, if_pos hlt] at k0 k1
          have b0 := HW.out t (by omega)
          have b1 := HW.out (m + t) (by omega)
          have i3 : (t : Int) < 4 := by omega
          have i1 : (2 : Int) * t < 8 := by omega
          have i2 : (2 : Int) * t + 1 < 8 := by omega
          have HK := Lib.hid (And.intro ho K)
          clear ho K
          generalize hx : g t = x at *
          generalize hy : g (m + t) = y at *
          have HG := Lib.hid (And.intro hx hy)
          clear hx hy
          go_wp2
          go_quiet (fail)
          clear k0 k1
          go_wp2
          have z1 : IntKind.i64.wrap (2 * (t : Int)) = 2 * t := IntWalk.i64_in _ (by omega)
          have z2 : IntKind.i64.wrap (2 * (t : Int) + 1) = 2 * t + 1 := IntWalk.i64_in _ (by omega)
          have z3 : IntKind.i64.wrap (x + (y + 1) / 2 - y) = x + (y + 1) / 2 - y := IntWalk.i64_in _ (by omega)
          have j1 : (0 : Int) ≤ 2 * t := by omega
          have j2 : (0 : Int) ≤ 2 * t + 1 := by omega
          have j3 : (2 * (t : Int)).toNat = 2 * t := by omega
          have j4 : (2 * (t : Int) + 1).toNat = 2 * t + 1 := by omega
          have KD := (HK.out.2.drewN nq).drew
          have HOD := Lib.hid (HK.out.1.drewN nq).drew
          refine wp_region_allH (fun w' => Box w' (wo.heap.size + 1) (mkR 4 (in64 fun s => if s < m then g (m + s) else 0))) [15, 18] [(0,1),(1,1),(2,1),(3,1),(4,1),(5,1),(6,1),(7,1),(8,1),(9,1),(10,1),(11,1),(12,1),(13,1),(14,1),(16,1),(15,2),(17,1),(18,2)] (by kernel_rfl) (by kernel_rfl) (fun _ _ d _ _ h => by cases d <;> exact h) (KD.2.1) ?_
          generalize (wr.drewN nq).drew = wd at *
          repeat (first | (refine oH_freeG rfl rfl (fun w' hS => by have k1 := (Box.cell hS t).trans (mkR_at (by omega)); simp only [in64, if_pos hlt, HG.out.2] at k1; clear hS; go_simp; with_reducible rfl) ?_; go_simp) | (refine oH_skipG rfl rfl ?_; go_simp))
          have kl := Box.lt KD.2.2.1
          have kf := Box.frozen KD.2.2.1 (2 * t)
          have ke := (Box.cell KD.2.2.1 (2 * t)).trans (mkR_at (by omega))
          refine oH_doG rfl rfl (fun KK hKK => ?_)
          go_simp
          have K1 := (Kn.third KD).setMr (2 * t) (.int .i64 (x + (y + 1) / 2)) ⟨by simp [It.off]; omega, by simp [It.off]; omega, trivial⟩
          have HO1 := Lib.hid (HOD.out.set (2 * t) (.int .i64 (x + (y + 1) / 2)))
          refine hKK _ _ ⟨K1.2.2.1, ?_⟩
          clear hKK KK kl kf ke
          generalize wd.setCell _ _ = we at *
          repeat (first | (refine oH_freeG rfl rfl (fun w' hS => by skip; clear hS; go_simp; with_reducible rfl) ?_; go_simp) | (refine oH_skipG rfl rfl ?_; go_simp))
          have kl := Box.lt K1.1
          have kf := Box.frozen K1.1 (2 * t + 1)
          have ke := (Box.cell K1.1 (2 * t + 1)).trans (mkR_at (by omega))
          refine oH_doG rfl rfl (fun KK hKK => ?_)
          go_simp
          have K2 := K1.setMr (2 * t + 1) (.int .i64 (x + (y + 1) / 2 - y)) ⟨by simp [It.off]; omega, by simp [It.off]; omega, trivial⟩
          have HO2 := Lib.hid (HO1.out.set (2 * t + 1) (.int .i64 (x + (y + 1) / 2 - y)))
          refine hKK _ _ ⟨K2.2.2.1, ?_⟩
          clear hKK KK kl kf ke z1 z2 z3 j1 j2 j3 j4 K1 KD
          generalize we.setCell _ _ = wf at *
          refine oH_nil ?_
          have HK2 := Lib.hid K2
          clear K2
          go_wp2
          go_roundw
          case rel => exact ⟨t + 1, by omega, by go_num, HO2.out, HK2.out.2.1, HK2.out.2.2.1, HK2.out.1.mr (fun q hq => by
            simp only [in64]
            rw [← bst1_at (m := m) (t := t) (g := g) hlt (a := x + (y + 1) / 2) (b := x + (y + 1) / 2 - y) (by rw [HG.out.1, HG.out.2]) (by rw [HG.out.2]) q]
            split
            · rfl
            · split
              · rfl
              · split <;> rfl), trivial⟩
          case measure => simp [intOf]; omega
        · obtain rfl : t = m := by omega
          have HK2 := Lib.hid (And.intro ho K)
          clear ho K
          go_wp2
          go_roundw
          case rel => exact ⟨j + 1, t * 2, HJ.out, HM.out, by go_num, HK2.out.1, HK2.out.2.2.2.1.mr (fun i hi => by
            simp only [in64]
            rw [← HE.out]
            by_cases e : i < 2 * t
            · rw [if_pos e]
            · rw [if_neg e]; unfold bst1; rw [if_neg e])⟩
          case measure => simp [intOf]; omega
end Go.Proofs.Ytfooglenhepogaa
