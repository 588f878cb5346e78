/- Walks of package lift: a line's transform there. -/
import Derived.Test.YtfooglenhepogaaLf0
import Derived.Test.YtfooglenhepogaaKn6
import Derived.Test.YtfooglenhepogaaRg4
import Derived.Test.YtfooglenhepogaaKn8
namespace Go.Kin
open Go.RowKit
theorem fst1_at {m : Nat} {g lo hi : Nat → Int} (hlo : ∀ i, i < m → lo i = (g (2 * i) + g (2 * i + 1)) / 2) (hhi : ∀ i, i < m → hi i = g (2 * i) - g (2 * i + 1)) (i : Nat) :
    (if m ≤ i ∧ i < m + m then hi (i - m) else if 0 ≤ i ∧ i < 0 + m then lo (i - 0) else g i) = fst1 m g i := by
  unfold fst1
  by_cases h1 : i < m
  · rw [if_neg (by omega), if_pos (by omega), if_pos h1, Nat.sub_zero, hlo i h1]
  · by_cases h2 : i < 2 * m
    · rw [if_pos (by omega), if_neg h1, if_pos h2, hhi _ (by omega)]
    · rw [if_neg (by omega), if_neg (by omega), if_neg h1, if_neg h2]
/-- What writes only a block that is newer. -/
theorem Oth.newer {b b' : Nat} {w w' w'' : World} (h : Oth b w w') (k : Oth b' w' w'') (hb : w.heap.size ≤ b') : Oth b w w'' :=
  ⟨k.os.trans h.os, k.tape.trans h.tape, k.output.trans h.output, Nat.le_trans h.size k.size, fun i hi hn => (k.block i (Nat.lt_of_lt_of_le hi h.size) (by omega)).trans (h.block i hi hn)⟩
end Go.Kin
namespace Go.Proofs.Ytfooglenhepogaa
open Go.RowKit Go.Kin
set_option linter.unusedVariables false
theorem size_i64 : (Try.prog.info? 3).map (·.size) = some 1 := by kernel_rfl
abbrev zhalf : Obj := .cells #[.int .i64 0, .int .i64 0, .int .i64 0, .int .i64 0] 88
set_option maxRecDepth 100000 in
set_option maxHeartbeats 2000000 in
theorem forward_any (k p : Nat) (l : Nat → Int) (M : Int) (w : World) (hB : Box w p (mkR 8 (in64 l))) (hk : k ≤ 3) (hM0 : 0 ≤ M) (hM : M ≤ 1000000000) (h1 : Wi M (2 ^ k) l) (h2 : Wi (2 * M) 8 l) (N : Nat) (hN : N = 2 ^ k) :
    Calls Try.prog 50 #[.pointer (some ⟨p, 0, none⟩), .int .i64 N] w fun e w' => e = .returned (.tuple #[]) ∧ Box w' p (mkR 8 (in64 (fwd k l))) ∧ Oth p w w' := by
  have hs := Box.lt hB
  have HB := Lib.hid hB
  have HN := Lib.hid hN
  have H1 := Lib.hid h1
  have H2 := Lib.hid h2
  clear hB hN h1 h2
  go_enter Try.func50, Try.ntmps50
  go_wp2
  go_loopw [1] (fun n wr => ∃ (j N : Nat) (g : Nat → Int), j ≤ 3 ∧ N = 2 ^ j ∧ n = .int .i64 N ∧ fwd j g = fwd k l ∧ Wi M (2 ^ j) g ∧ Wi (2 * M) 8 g ∧ Oth p w wr ∧ Box wr p (mkR 8 (in64 g))) (fun n _ => (intOf n).toNat)
  case atStart => exact ⟨k, N, l, hk, HN.out, rfl, rfl, H1.out, H2.out, Oth.refl _ _, HB.out⟩
  case round =>
    obtain ⟨j, N, g, hj, hN', rfl, hE, hw1, hw2, ho, hB⟩ := hrel
    clear HB HN H1 H2
    obtain ⟨wo, rfl⟩ : ∃ wo : World, wo = wr := ⟨_, rfl⟩
    rcases Nat.eq_zero_or_pos j with j0 | j0
    · subst j0
      have e1 : ¬ (1 : Int) < N := by rw [hN']; omega
      have HX := Lib.hid (And.intro hE (And.intro ho hB))
      clear hN' hE hw1 hw2 ho hB
      go_wp2
      go_end0
      refine ⟨rfl, ?_, HX.out.2.1⟩
      rw [← HX.out.1]
      exact HX.out.2.2
    · obtain ⟨i, rfl⟩ : ∃ i, j = i + 1 := ⟨j - 1, by omega⟩
      have hp2 := two_pow_succ i
      have hm : 2 ^ i ≤ 4 := Nat.pow_le_pow_right (n := 2) (by omega) (show i ≤ 2 by omega)
      have hm0 : 0 < 2 ^ i := Nat.pow_pos (by omega)
      have hE' : fwd i (fst1 (2 ^ i) g) = fwd k l := hE
      have w1 : Wi M (2 ^ i) (fst1 (2 ^ i) g) := fst1_lo (hw1.mono (Int.le_refl _) (by omega))
      have w2 : Wi (2 * M) 8 (fst1 (2 ^ i) g) := fun q hq => by
        by_cases hq' : q < 2 * 2 ^ i
        · exact fst1_hi (hw1.mono (Int.le_refl _) (by omega)) hM0 q hq'
        · unfold fst1
          rw [if_neg (by omega), if_neg hq']
          exact hw2 q hq
      have HX := Lib.hid (And.intro hE' (And.intro w1 w2))
      rw [hp2] at hN' hw1
      clear hE hE' w1 w2 hp2
      generalize hmi : 2 ^ i = m at *
      have HI := Lib.hid hmi
      clear hmi
      have HW := Lib.hid (And.intro hw1 hw2)
      have hN1 : (1 : Int) < N := by omega
      have hz : (N : Int).tdiv 2 = m := by rw [Int.tdiv_eq_ediv_of_nonneg (by omega)]; omega
      have HNN := Lib.hid hN'
      clear hN' hw1 hw2
      have hsr : w.heap.size ≤ wo.heap.size := ho.size
      have hs' : p < wo.heap.size := by omega
      have HK := Lib.hid (And.intro ((ho.alloc zhalf).alloc zhalf) (show Kn ((wo.alloc zhalf).alloc zhalf) [.mr (wo.heap.size + 1) 4 (in64 fun _ => 0), .mr wo.heap.size 4 (in64 fun _ => 0), .mr p 8 (in64 g)] from ((show Kn wo [.mr p 8 (in64 g)] from ⟨hB, trivial⟩).new wo.heap.size #[.int .i64 0, .int .i64 0, .int .i64 0, .int .i64 0] 88 rfl).new (wo.heap.size + 1) #[.int .i64 0, .int .i64 0, .int .i64 0, .int .i64 0] 88 (by simp)))
      clear ho hB
      go_wp2
      go_loopw [17] (fun i wq => ∃ t : Nat, t ≤ m ∧ i = .int .i64 t ∧ Oth p w wq ∧ Kn wq [.mr (wo.heap.size + 1) 4 (in64 fun s => if s < t then g (2 * s) - g (2 * s + 1) else 0), .mr wo.heap.size 4 (in64 fun s => if s < t then (g (2 * s) + g (2 * s + 1)) / 2 else 0), .mr p 8 (in64 g)]) (fun i _ => m - (intOf i).toNat)
      case atStart => exact ⟨0, by omega, rfl, HK.out.1, HK.out.2⟩
      case round =>
        obtain ⟨t, ht, rfl, ho, K⟩ := hrel
        clear HK
        by_cases hlt : t < m
        · have kp := Box.cells K.2.2.1
          have kl0 := Box.lt K.2.1
          have kl1 := Box.lt K.1
          have kf0 := Box.frozen K.2.1 t
          have kf1 := Box.frozen K.1 t
          have k0 := (Box.cell K.2.1 t).trans (mkR_at (by omega))
          have k1 := (Box.cell K.1 t).trans (mkR_at (by omega))
          have c1 : (mkR 8 (in64 g))[2 * t]? = some (.int .i64 (g (2 * t))) := mkR_at (by omega)
          have c2 : (mkR 8 (in64 g))[2 * t + 1]? = some (.int .i64 (g (2 * t + 1))) := mkR_at (by omega)
          have b1 := HW.out.2 (2 * t) (by omega)
          have b2 := HW.out.2 (2 * t + 1) (by omega)
          have i1 : (2 : Int) * t < 8 := by omega
          have i2 : (2 : Int) * t + 1 < 8 := by omega
          have i3 : (t : Int) < 4 := by omega
          have HK := Lib.hid (And.intro ho K)
          clear ho K
          have HG := Lib.hid (And.intro (show g (2 * t) = g (2 * t) from rfl) (show g (2 * t + 1) = g (2 * t + 1) from rfl))
          generalize hx : g (2 * t) = x at *
          generalize hy : g (2 * t + 1) = y at *
          have HG := Lib.hid (And.intro hx hy)
          clear hx hy
          go_wp2
          go_quiet (fail)
          go_wp2
          go_roundw
          case rel =>
            refine ⟨t + 1, by omega, by go_num, ((HK.out.1.drewN _).setNew (by show w.heap.size ≤ wo.heap.size; omega) _).setNew (by show w.heap.size ≤ wo.heap.size + 1; omega) _, ?_⟩
            have K1 := ((HK.out.2.drewN nq).swap.setMr t (.int .i64 ((x + y) / 2)) ⟨by simp [It.off], by simp [It.off]; omega, trivial⟩).swap.setMr t (.int .i64 (x - y)) ⟨by simp [It.off], by simp [It.off]; omega, trivial⟩
            refine ⟨Box.mr K1.1 (fun q hq => ?_), Box.mr K1.2.1 (fun q hq => ?_), K1.2.2.1, trivial⟩
            · simp only [in64]
              by_cases e1 : q = t
              · subst e1; simp [HG.out.1, HG.out.2]
              · by_cases e2 : q < t
                · simp [e1, e2, show q < t + 1 by omega]
                · simp [e1, e2, show ¬ q < t + 1 by omega]
            · simp only [in64]
              by_cases e1 : q = t
              · subst e1; simp [HG.out.1, HG.out.2]
              · by_cases e2 : q < t
                · simp [e1, e2, show q < t + 1 by omega]
                · simp [e1, e2, show ¬ q < t + 1 by omega]
          case measure => simp [intOf]; omega
        · obtain rfl : t = m := by omega
          have kp := Box.cells K.2.2.1
          have kl0 := Box.lt K.2.1
          have kl1 := Box.lt K.1
          have d1 : (t : Int) ≤ 8 := by omega
          have d2 : (t : Int) ≤ 4 := by omega
          have d3 : ¬ (8 : Nat) = t := by omega
          have HK := Lib.hid (And.intro ho K)
          go_wp2
          obtain ⟨wq, hrun, hR, hq⟩ := run_copyX (P := Try.prog) (w := wr.drew) (dT := 55) (sT := 55) (ty := 3) (elem := 3) (off := 0) (dLen := t) (dCap := 8) (sLen := t) (sCap := 4) Try.underlying55 size_i64 (Box.drew K.2.2.1) (Box.rd (Box.drew K.2.1) (fun i hi => mkR_at (show i < 4 by omega))) (fun _ => rfl) (by omega)
          rw [Nat.min_self] at hrun hR
          refine wp_region_allH (fun _ => True) [6] [(0,1),(1,1),(2,1),(3,1),(4,1),(5,1),(6,2)] (by kernel_rfl) (by kernel_rfl) (fun _ _ d _ _ h => by cases d <;> exact h) (trivial) ?_
          repeat (refine oH_free rfl (fun w' hS => by skip; clear hS; go_simp; with_reducible rfl) ?_; go_simp)
          refine oH_do rfl (fun KK hKK => ?_)
          go_simp
          refine hKK _ _ ⟨trivial, ?_⟩
          clear hKK KK hrun
          refine oH_nil ?_
          have ho1 := HK.out.1.drew.trans hq
          have hH := (Box.drew HK.out.2.1).oth hq (by omega)
          have HO := Lib.hid ho1
          have HR := Lib.hid hR
          have HH := Lib.hid hH
          have hsz : wo.heap.size + 1 < wq.heap.size := Nat.lt_of_lt_of_le (Box.lt HK.out.2.1) hq.size
          clear ho1 hR hH hq kp kl0 kl1 HK
          have kp := Box.cells HR.out
          have d4 : (t : Int) ≤ N := by have := HNN.out; omega
          have d5 : (N : Int) ≤ 8 := by have := HNN.out; omega
          have d6 : ¬ (8 = t) := by omega
          have t1 : N - t = t := by have := HNN.out; omega
          have z1 : (N : Int) - t = t := by have := HNN.out; omega
          go_wp2
          obtain ⟨wz, hrun, hR2, hq2⟩ := run_copyX (P := Try.prog) (w := wq.drew) (dT := 55) (sT := 55) (ty := 3) (elem := 3) (off := t) (dLen := t) (dCap := 8 - t) (sLen := t) (sCap := 4) Try.underlying55 size_i64 (Box.drew HR.out) (Box.rd (Box.drew HH.out) (fun i hi => mkR_at (show i < 4 by omega))) (fun _ => rfl) (by omega)
          rw [Nat.min_self] at hrun hR2
          refine wp_region_allH (fun _ => True) [7] [(0,1),(1,1),(2,1),(3,1),(4,1),(5,1),(6,1),(7,2)] (by kernel_rfl) (by kernel_rfl) (fun _ _ d _ _ h => by cases d <;> exact h) (trivial) ?_
          repeat (refine oH_free rfl (fun w' hS => by skip; clear hS; go_simp; with_reducible rfl) ?_; go_simp)
          refine oH_do rfl (fun KK hKK => ?_)
          go_simp
          refine hKK _ _ ⟨trivial, ?_⟩
          clear hKK KK hrun
          refine oH_nil ?_
          have HR2 := Lib.hid hR2
          have HO2 := Lib.hid (HO.out.drew.trans hq2)
          clear hR2 hq2 kp z1 t1
          go_wp2
          go_roundw
          case rel =>
            refine ⟨i, t, _, by omega, HI.out.symm, rfl, HX.out.1, by rw [HI.out]; exact HX.out.2.1, HX.out.2.2, HO2.out, HR2.out.mr (fun q hq => ?_)⟩
            simp only [in64]
            rw [← fst1_at (g := g) (lo := fun s => if s < t then (g (2 * s) + g (2 * s + 1)) / 2 else 0) (hi := fun s => if s < t then g (2 * s) - g (2 * s + 1) else 0) (fun i hi => by simp [hi]) (fun i hi => by simp [hi])]
            split
            · rfl
            · split <;> rfl
          case measure => have := HNN.out; simp [intOf]; omega
end Go.Proofs.Ytfooglenhepogaa
