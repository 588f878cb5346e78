/- New of package book. -/
import Derived.Test.YtmnoddmecghjdaaBk6
set_option linter.unusedVariables false
namespace Go.Proofs.Ytmnoddmecghjdaa
open Go.RowKit Go.Kin
abbrev zTop : Array Value := #[.int .u16 0, .int .u16 0, .int .u16 0, .int .u16 0, .int .u16 0, .int .u16 0, .int .u16 0, .int .u16 0, .int .u16 0, .int .u16 0, .int .u16 0, .int .u16 0, .int .u16 0, .int .u16 0, .int .u16 0, .int .u16 0, .int .u16 0, .int .u16 0, .int .u16 0, .int .u16 0, .int .u16 0, .int .u16 0, .int .u16 0, .int .u16 0, .int .u16 0, .int .u16 0, .int .u16 0, .int .u16 0, .int .u16 0, .int .u16 0, .int .u16 0, .int .u16 0, .int .u16 0, .int .u16 0, .int .u16 0, .int .u16 0, .int .u16 0]
theorem zero_top : zTop = mkR 37 (u16s fun _ => 0) := by kernel_rfl
theorem zero_book : Try.zeroCells80 = mkR 592 (u16s fun _ => 0) := by kernel_rfl
/-- A row stored, in whatever region. -/
theorem wp_store_at {P : Program} {o : Oper} {a : Act} {w : World} {K : Act → World → Prop} {Q : Exit → Act → World → Prop} {b off n k : Nat} {f h : Nat → Value} (ty : TypeId) (x y : Operand) (ho : o.op = .store ty x y) (hx : a.eval x = .pointer (some ⟨b, off, none⟩)) (hy : a.eval y = .agg (mkR k h))
    (hB : Box w b (mkR n f)) (hi : (P.info? ty).map (·.size) = some k) (hfit : off + k ≤ n) (h1 : ∀ i, (h i).oneCell' = true)
    (hK : ∀ w', Box w' b (mkR n (fun i => if off ≤ i ∧ i < off + k then h (i - off) else f i)) → Oth b w w' → K (a.put o.dst undef) w') : o.wp P a w K Q := by
  obtain ⟨w', hrun, hB', ho'⟩ := run_store_at hB hi hfit h1
  unfold Oper.wp execOp
  simp only [ho, hx, hy, Instr.storeAt, Instr.sureAddr, Sem.run_bind, Sem.run_pure, Result.andThen_ok, hrun]
  exact hK w' hB' ho'
set_option maxRecDepth 100000 in
set_option maxHeartbeats 4000000 in
theorem bnew_s (w : World) : Calls Try.prog 15 #[] w fun e w' => ∃ b, e = .returned (.pointer (some ⟨b, 0, none⟩)) ∧ (∀ col j, Bk w' (recol col w j) j b (fun _ => 1024)) ∧ Below w.heap.size w w' := by
  have HK : Hid (Kn (w.alloc (.cells zTop 77)) [.mr w.heap.size 37 (u16s fun j => if j < 0 then 1024 else 0), .since w]) := Lib.hid (by
    have := (Kn.start w).new w.heap.size zTop 77 rfl
    exact ⟨by have h := this.1; rw [zero_top] at h ⊢; exact Box.mr h (fun i _ => by simp [u16s]), this.2⟩)
  go_enter Try.func15, Try.ntmps15
  go_wp2
  go_loopw [6] (fun i wr => ∃ k : Nat, k ≤ 20 ∧ i = .int .i64 k ∧ Kn wr [.mr w.heap.size 37 (u16s fun j => if j < k then 1024 else 0), .since w]) (fun i _ => 20 - (intOf i).toNat)
  case atStart => exact ⟨0, by omega, rfl, HK.out⟩
  case round =>
    obtain ⟨k, hk, rfl, K⟩ := hrel
    clear HK
    by_cases hlt : k < 20
    · have kl := Box.lt K.1
      have kf := Box.frozen K.1 k
      have ke := (Box.cell K.1 k).trans (mkR_at (by omega))
      have lk : (k : Int) < 20 := by omega
      have HK := Lib.hid K
      clear K
      go_wp2
      go_roundw
      case rel =>
        refine ⟨k + 1, by omega, by go_num, ?_⟩
        have K1 := HK.out.setMr k (.int .u16 1024) ⟨Nat.le_refl _, trivial⟩
        refine ⟨Box.mr K1.1 (fun q _ => ?_), K1.2⟩
        unfold u16s
        by_cases e1 : q = k
        · subst e1; simp
        · by_cases e2 : q < k
          · simp [e1, e2, show q < k + 1 by omega]
          · simp [e1, e2, show ¬ q < k + 1 by omega]
      case measure => simp [intOf]; omega
    · obtain rfl : k = 20 := by omega
      have HK : Hid (Kn wr [.mr w.heap.size 37 (u16s fun j => if j < 20 + 0 then 1024 else 0), .since w]) := Lib.hid K
      clear K
      go_wp2
      go_loopw [13] (fun i wr => ∃ k : Nat, k ≤ 16 ∧ i = .int .i64 k ∧ Kn wr [.mr w.heap.size 37 (u16s fun j => if j < 20 + k then 1024 else 0), .since w]) (fun i _ => 16 - (intOf i).toNat)
      case atStart => exact ⟨0, by omega, rfl, HK.out⟩
      case round =>
        obtain ⟨k, hk, rfl, K⟩ := hrel
        clear HK
        by_cases hlt : k < 16
        · have kl := Box.lt K.1
          have kf := Box.frozen K.1 (20 + k)
          have ke := (Box.cell K.1 (20 + k)).trans (mkR_at (by omega))
          have lk : (k : Int) < 16 := by omega
          have HK := Lib.hid K
          clear K
          go_wp2
          go_roundw
          case rel =>
            refine ⟨k + 1, by omega, by go_num, ?_⟩
            have K1 := HK.out.setMr (20 + k) (.int .u16 1024) ⟨Nat.le_refl _, trivial⟩
            refine ⟨Box.mr K1.1 (fun q _ => ?_), K1.2⟩
            unfold u16s
            by_cases e1 : q = 20 + k
            · subst e1; simp
            · by_cases e2 : q < 20 + k
              · simp [e1, e2, show q < 20 + (k + 1) by omega]
              · simp [e1, e2, show ¬ q < 20 + (k + 1) by omega]
          case measure => simp [intOf]; omega
        · obtain rfl : k = 16 := by omega
          obtain ⟨wm, rfl⟩ : ∃ wm : World, wm = wr := ⟨_, rfl⟩
          have kl := Box.lt K.1
          have kf := Box.frozen K.1 36
          have ke := (Box.cell K.1 36).trans (mkR_at (by omega))
          have K1 := K.setMr 36 (.int .u16 1024) ⟨Nat.le_refl _, trivial⟩
          have hsz : (wm.setCell ⟨w.heap.size, 36, none⟩ (.int .u16 1024)).heap.size = wm.heap.size := size_set _ _ _
          have HK : Hid (Kn ((wm.setCell ⟨w.heap.size, 36, none⟩ (.int .u16 1024)).alloc (.cells Try.zeroCells80 80)) [.mr wm.heap.size 592 (u16s fun j => if j < 37 * 0 then 1024 else 0), .mr w.heap.size 37 (u16s fun _ => 1024), .since w]) := Lib.hid (by
            have := K1.new wm.heap.size Try.zeroCells80 80 hsz.symm
            refine ⟨by have h := this.1; rw [zero_book] at h ⊢; exact Box.mr h (fun i _ => by simp [u16s]), Box.mr this.2.1 (fun q hq => ?_), this.2.2.1, trivial⟩
            unfold u16s
            by_cases e1 : q = 36
            · simp [e1]
            · simp [e1, show q < 20 + 16 by omega])
          have hwr : w.heap.size < wm.heap.size := kl
          clear K K1
          go_wp2
          generalize (wm.setCell ⟨w.heap.size, 36, none⟩ (.int .u16 1024)).alloc (.cells Try.zeroCells80 80) = wn at *
          clear kl kf ke
          go_loopw [23] (fun i wr => ∃ k : Nat, k ≤ 16 ∧ i = .int .i64 k ∧ Kn wr [.mr wm.heap.size 592 (u16s fun j => if j < 37 * k then 1024 else 0), .mr w.heap.size 37 (u16s fun _ => 1024), .since w]) (fun i _ => 16 - (intOf i).toNat)
          case atStart => exact ⟨0, by omega, rfl, HK.out⟩
          case round =>
            obtain ⟨k, hk, rfl, K⟩ := hrel
            clear HK
            by_cases hlt : k < 16
            · have KD := Kn.drew K
              have lk : (k : Int) < 16 := by omega
              have hmul : k * 37 = 37 * k := by omega
              clear K
              go_wp2
              refine wp_region_allH (fun w' => Box w' w.heap.size (mkR 37 (u16s fun _ => 1024))) [6] [(0,1),(1,1),(2,1),(3,1),(4,1),(5,1),(6,2)] (by kernel_rfl) (by kernel_rfl) (fun _ _ d _ _ h => by cases d <;> exact h) (KD.2.1) ?_
              generalize wr.drew = wd at KD ⊢
              repeat (refine oH_freeG rfl rfl (fun w' hS => by first | exact exec_load 77 _ rfl w.heap.size rfl _ _ hS Try.underlying77 rfl (by rw [mkR_size]; exact size_top) | (clear hS; go_simp; with_reducible rfl)) ?_; go_simp)
              refine oH_doG rfl rfl (fun KK hKK => ?_)
              refine wp_store_at (b := wm.heap.size) (off := 37 * k) (n := 592) (k := 37) 77 _ _ rfl rfl rfl KD.1 size_top (by omega) (fun _ => rfl) ?_
              intro wz hBz hoz
              have K2 : Kn wz [.mr w.heap.size 37 (u16s fun _ => 1024), .since w] := Kn.oth KD.2 hoz ⟨by show w.heap.size ≠ wm.heap.size; omega, by show w.heap.size ≤ wm.heap.size; omega, trivial⟩
              refine hKK _ _ ⟨K2.1, ?_⟩
              clear hKK KK
              refine oH_nil ?_
              have HK2 := Lib.hid (And.intro hBz K2)
              clear hBz K2 hoz KD
              go_wp2
              go_roundw
              case rel =>
                refine ⟨k + 1, by omega, by go_num, Box.mr HK2.out.1 (fun q hq => ?_), HK2.out.2⟩
                unfold u16s
                dsimp only
                by_cases e1 : 37 * k ≤ q ∧ q < 37 * k + 37
                · rw [if_pos e1, if_pos (by omega)]
                · rw [if_neg e1]
                  by_cases e2 : q < 37 * k
                  · rw [if_pos e2, if_pos (by omega)]
                  · rw [if_neg e2, if_neg (by omega)]
              case measure => simp [intOf]; omega
            · obtain rfl : k = 16 := by omega
              have hlm := Box.lt K.1
              have HK := Lib.hid K
              clear K
              go_wp2
              go_ret
              refine ⟨wm.heap.size, rfl, fun col j => ⟨Box.mr HK.out.1 (fun q hq => by unfold u16s; dsimp only; rw [if_pos (by omega)]), recol_ge (by omega)⟩, HK.out.2.2.1⟩
end Go.Proofs.Ytmnoddmecghjdaa
