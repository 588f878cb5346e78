/- New of the document's book. -/
import Derived.Test.YtmnoddmecghjdaaBr1M
import Derived.Test.YtmnoddmecghjdaaKn6
set_option linter.unusedVariables false
namespace Go.Proofs.Ytmnoddmecghjdaa
open Go.RowKit Go.Kin
theorem rzero_book : Try.zeroCells84 = mkR 592 (in64 fun _ => 0) := by kernel_rfl
set_option maxRecDepth 100000 in
set_option maxHeartbeats 4000000 in
theorem rbnew_s (w : World) : Calls Try.prog 16 #[] w fun e w' => ∃ b, e = .returned (.pointer (some ⟨b, 0, none⟩)) ∧ (∀ col j, BkR w' (recol col w j) j b (fun _ => 1024)) ∧ Below w.heap.size w w' := by
  have HK : Hid (Kn (w.alloc (.cells Try.zeroCells84 84)) [.mr w.heap.size 592 (in64 fun j => if j < 0 * 37 then 1024 else 0), .since w]) := Lib.hid (by
    have := (Kn.start w).new w.heap.size Try.zeroCells84 84 rfl
    exact ⟨by have h := this.1; rw [rzero_book] at h ⊢; exact Box.mr h (fun i _ => by simp [in64]), this.2⟩)
  go_enter Try.func16, Try.ntmps16
  go_wp2
  generalize w.alloc (.cells Try.zeroCells84 84) = wn at *
  go_loopw [2] (fun i wr => ∃ t : Nat, t ≤ 16 ∧ i = .int .i64 t ∧ Kn wr [.mr w.heap.size 592 (in64 fun j => if j < t * 37 then 1024 else 0), .since w]) (fun i _ => 16 - (intOf i).toNat)
  case atStart => exact ⟨0, by omega, rfl, HK.out⟩
  case round =>
    obtain ⟨t, ht, rfl, K⟩ := hrel
    clear HK
    by_cases hlt : t < 16
    · have HK : Hid (Kn wr [.mr w.heap.size 592 (in64 fun j => if j < t * 37 + 0 then 1024 else 0), .since w]) := Lib.hid K
      clear K
      have l1 : (t : Int) < 16 := by omega
      have l3 : ¬ (t : Int) < 0 := by omega
      obtain ⟨wo, rfl⟩ : ∃ wo : World, wo = wr := ⟨_, rfl⟩
      go_wp2
      go_loopw [3] (fun i wr => ∃ k : Nat, k ≤ 37 ∧ i = .int .i64 k ∧ Kn wr [.mr w.heap.size 592 (in64 fun j => if j < t * 37 + k then 1024 else 0), .since w]) (fun i _ => 37 - (intOf i).toNat)
      case atStart => exact ⟨0, by omega, rfl, HK.out⟩
      case round =>
        obtain ⟨k, hk, rfl, K⟩ := hrel
        clear HK
        by_cases hlt2 : k < 37
        · have l2 : (k : Int) < 37 := by omega
          have l4 : ¬ (k : Int) < 0 := by omega
          have kl := Box.lt K.1
          have kf := Box.frozen K.1 (t * 37 + k)
          have ke := (Box.cell K.1 (t * 37 + k)).trans (mkR_at (by omega))
          have HK := Lib.hid (K.setMr (t * 37 + k) (.int .i64 1024) ⟨Nat.le_refl _, trivial⟩)
          clear K
          go_wp2
          go_roundw
          case rel =>
            refine ⟨k + 1, by omega, by go_num, ?_⟩
            refine ⟨Box.mr HK.out.1 (fun q _ => ?_), HK.out.2⟩
            unfold in64
            by_cases e1 : q = t * 37 + k
            · subst e1; simp
            · by_cases e2 : q < t * 37 + k
              · simp [e1, e2, show q < t * 37 + (k + 1) by omega]
              · simp [e1, e2, show ¬ q < t * 37 + (k + 1) by omega]
          case measure => simp [intOf]; omega
        · obtain rfl : k = 37 := by omega
          have HK := Lib.hid K
          clear K
          go_wp2
          go_roundw
          case rel => exact ⟨t + 1, by omega, by go_num, Box.mr HK.out.1 (fun q _ => by unfold in64; dsimp only; by_cases e : q < t * 37 + 37 <;> simp [e] <;> omega), HK.out.2⟩
          case measure => simp [intOf]; omega
    · obtain rfl : t = 16 := by omega
      have HK := Lib.hid K
      clear K
      go_wp2
      go_ret
      exact ⟨w.heap.size, rfl, fun col j => ⟨Box.mr HK.out.1 (fun q hq => by unfold in64; dsimp only; rw [if_pos (by omega)]), recol_ge (Nat.le_refl _)⟩, HK.out.2.1⟩
end Go.Proofs.Ytmnoddmecghjdaa
