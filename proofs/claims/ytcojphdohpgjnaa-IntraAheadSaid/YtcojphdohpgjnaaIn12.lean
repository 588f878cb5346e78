/- Walks of the document's layer 9: sample, by the mode 0 and by any. -/
import Derived.Test.YtcojphdohpgjnaaIn7
import Derived.Test.YtcojphdohpgjnaaIn11
namespace Go.Proofs.Ytcojphdohpgjnaa
open Go.RowKit Go.Kin
set_option linter.unusedVariables false

set_option maxRecDepth 100000 in
set_option maxHeartbeats 2000000 in
theorem rsample0 (W H : Int) (A : Option Addr) (N c : Nat) (g : Nat → Int) (X Y n i j : Nat) (w : World) (hr : rightB W H N = true) (hS : Rd w A N (by8 g)) (hg : Byt g) (hX : X ≤ 4096) (hY : Y ≤ 4096) (n1 : 1 ≤ n) (n8 : n ≤ 8) :
    Calls Try.prog 36 #[.agg #[.int .i64 W, .int .i64 H, .slice A N c], .int .i64 X, .int .i64 Y, .int .i64 n, .int .i64 0, .int .i64 i, .int .i64 j] w
      fun e w' => e = .returned (.int .u8 (flS n (fun i => at9 W H g ((X : Int) + i) ((Y : Int) - 1)) (fun j => at9 W H g ((X : Int) - 1) ((Y : Int) + j)) n / (2 * n))) ∧ Below w.heap.size w w' := by
  generalize hAB : (fun i : Nat => at9 W H g ((X : Int) + i) ((Y : Int) - 1)) = AB
  generalize hLF : (fun j : Nat => at9 W H g ((X : Int) - 1) ((Y : Int) + j)) = LF
  have bAB : Byt AB := fun i => by rw [← hAB]; exact at9_bd hg
  have bLF : Byt LF := fun i => by rw [← hLF]; exact at9_bd hg
  have HAB := Lib.hid (congrFun hAB)
  have HLF := Lib.hid (congrFun hLF)
  clear hAB hLF
  have K := ((Kn.start w).add (x := .rd A N (by8 g)) hS).new w.heap.size #[.int .i64 W, .int .i64 H, .slice A N c] 24 rfl
  clear hS
  go_enter Try.func36, Try.ntmps36
  go_wp2
  have HK := Lib.hid K
  clear K
  go_loopw [15, 16] (fun s i wr => ∃ k : Nat, k ≤ n ∧ i = .int .i64 k ∧ s = .int .i64 (flS n AB LF k) ∧ Kn wr [.box w.heap.size #[.int .i64 W, .int .i64 H, .slice A N c], .rd A N (by8 g), .since w]) (fun _ i _ => n - (intOf i).toNat)
  case atStart => exact ⟨0, Nat.zero_le _, rfl, rfl, HK.out⟩
  case round =>
    obtain ⟨k, hk, rfl, rfl, K⟩ := hrel
    clear HK
    obtain ⟨f0, f1⟩ := flS_bd (n := n) bAB bLF k
    by_cases hlt : k < n
    · have ea : at9 W H g ((X : Int) + k) ((Y : Int) - 1) = AB k := HAB.out k
      have eb : at9 W H g ((X : Int) - 1) ((Y : Int) + k) = LF k := HLF.out k
      have b1 := bAB k
      have b2 := bLF k
      have HD := Lib.hid (show flS n AB LF (k + 1) = flS n AB LF k + (AB k + LF k) from rfl)
      generalize flS n AB LF k = s at *
      have HEA := Lib.hid ea
      have HEB := Lib.hid eb
      clear ea eb
      generalize hA : AB k = ak at *
      generalize hL : LF k = lk at *
      clear hA hL
      go_wp2
      have z1 : IntKind.i64.wrap ((X : Int) + k) = X + k := IntWalk.i64_in _ (by omega)
      have z2 : IntKind.i64.wrap ((Y : Int) - 1) = Y - 1 := IntWalk.i64_in _ (by omega)
      have z3 : IntKind.i64.wrap ((X : Int) - 1) = X - 1 := IntWalk.i64_in _ (by omega)
      have z4 : IntKind.i64.wrap ((Y : Int) + k) = Y + k := IntWalk.i64_in _ (by omega)
      have z5 : IntKind.i64.wrap (s + ak) = s + ak := IntWalk.i64_in _ (by omega)
      have z6 : IntKind.i64.wrap (s + ak + lk) = s + ak + lk := IntWalk.i64_in _ (by omega)
      have KD := Kn.drew K
      refine wp_region_allH (fun w' => Kn w' _) [7, 15] [(0,1),(1,1),(2,1),(3,1),(4,1),(5,1),(6,1),(9,1),(10,1),(11,1),(12,1),(13,1),(14,1),(7,2),(8,1),(15,2),(16,1),(17,0)] (by kernel_rfl) (by kernel_rfl) (fun _ _ d _ _ h => by cases d <;> exact h) (KD) ?_
      generalize wr.drew = wd at KD ⊢
      repeat (first | (refine oH_freeG rfl rfl (fun w' hS => by have s1 := Box.cells hS.1; clear hS; go_simp; with_reducible rfl) ?_; go_simp) | (refine oH_skipG rfl rfl ?_; go_simp))
      refine oH_doG rfl rfl (fun KK hKK => ?_)
      go_simp
      refine (r9at_any W H A N c g _ _ _ hr KD.2.1 hg).mono ?_
      rintro e w3 ⟨rfl, hL3⟩
      rw [HEA.out]
      have K3 := KD.below hL3
      refine hKK _ _ ⟨K3, ?_⟩
      clear hKK KK hL3 KD K
      repeat (first | (refine oH_freeG rfl rfl (fun w' hS => by have s1 := Box.cells hS.1; clear hS; go_simp; with_reducible rfl) ?_; go_simp) | (refine oH_skipG rfl rfl ?_; go_simp))
      refine oH_doG rfl rfl (fun KK hKK => ?_)
      go_simp
      refine (r9at_any W H A N c g _ _ _ hr K3.2.1 hg).mono ?_
      rintro e w4 ⟨rfl, hL4⟩
      rw [HEB.out]
      have K4 := K3.below hL4
      refine hKK _ _ ⟨K4, ?_⟩
      clear hKK KK hL4 K3
      repeat (first | (refine oH_freeG rfl rfl (fun w' hS => by have s1 := Box.cells hS.1; clear hS; go_simp; with_reducible rfl) ?_; go_simp) | (refine oH_skipG rfl rfl ?_; go_simp))
      repeat (refine oH_still rfl (fun KK hKK => ?_); go_simp; refine hKK _ ?_; clear hKK KK)
      refine oH_nil ?_
      clear z1 z2 z3 z4 z5 z6
      have HK := Lib.hid K4
      clear K4
      go_wp2
      exact ⟨⟨k + 1, hlt, by go_num, by rw [HD.out, Int.add_assoc], HK.out⟩, by simp [intOf]; omega⟩
    · obtain rfl : k = n := by omega
      have L : Below _ _ _ := K.2.2.1
      clear K
      have hz : (2 * (k : Int)) ≠ 0 := by omega
      have zq : (flS k AB LF k).tdiv (2 * k) = flS k AB LF k / (2 * k) := Int.tdiv_eq_ediv_of_nonneg (by omega)
      have q0 : 0 ≤ flS k AB LF k / (2 * k) := Int.ediv_nonneg (by omega) (by omega)
      have q1 : flS k AB LF k / (2 * k) < 256 := Int.ediv_lt_of_lt_mul (by omega) (by omega)
      generalize hs : flS k AB LF k = s at *
      have HS := Lib.hid hs
      clear hs
      generalize hq : s / (2 * k) = q at *
      have HQ := Lib.hid hq
      clear hq
      go_wp2
      go_ret
      exact ⟨ret_int (by rw [HS.out, HQ.out]), L⟩

theorem rsample_any (W H X Y n mode i j : Nat) (A : Option Addr) (N c : Nat) (g : Nat → Int) (w : World) (hr : rightB W H N = true) (hS : Rd w A N (by8 g)) (hg : Byt g) (n1 : 1 ≤ n) (n8 : n ≤ 8) (hX : X + n ≤ W) (hY : Y + n ≤ H) (hm : mode < 4) (hi : i < n) (hj : j < n) :
    Calls Try.prog 36 #[.agg #[.int .i64 W, .int .i64 H, .slice A N c], .int .i64 X, .int .i64 Y, .int .i64 n, .int .i64 mode, .int .i64 i, .int .i64 j] w
      fun e w' => e = .returned (.int .u8 (moV n (abP W g X Y n) (lfP W g X Y n) (coP W g X Y) mode i j)) ∧ Below w.heap.size w w' := by
  obtain ⟨r1, r2, r3, r4, r5⟩ := rightB_iff.1 hr
  unfold moV
  match mode, hm with
  | 0, _ =>
    have := rsample0 W H A N c g X Y n i j w hr hS hg (by omega) (by omega) n1 n8
    rw [flS_at9 hX hY _ n (Nat.le_refl _)] at this
    exact this
  | 1, _ =>
    have := rsample1 W H A N c g X Y n i j w hr hS hg (by omega) (by omega) (by omega) (by omega)
    rw [at9_ab hX hY hi] at this
    exact this
  | 2, _ =>
    have := rsample2 W H A N c g X Y n i j w hr hS hg (by omega) (by omega) (by omega) (by omega)
    rw [at9_lf hX hY hj] at this
    exact this
  | 3, _ =>
    have := rsample3 W H A N c g X Y n i j w hr hS hg (by omega) (by omega) (by omega) (by omega)
    rw [at9_ab hX hY hi, at9_lf hX hY hj, at9_co n1 hX hY] at this
    exact this
end Go.Proofs.Ytcojphdohpgjnaa
