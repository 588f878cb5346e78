/- Walks of package intra and of the document's layer 9: Clip, Rest, Far; Same of layer 7. -/
import Derived.Test.YtcojphdohpgjnaaIn1
namespace Go.Kin
/-- A sample of a guess with its rest. -/
def clipR (g r : Nat → Int) (i : Nat) : Int := clip8 (g i + min (max (r i) (-255)) 255)
theorem clipR_ref {g r : Nat → Int} (hg : Byt g) (i : Nat) : clip8 (g i + min (max (r i) (-300)) 300) = clipR g r i := by
  have := hg i
  unfold clipR clip8
  omega
theorem clipR_byt (g r : Nat → Int) : Byt (clipR g r) := fun _ => clip8_bd _
def sumAbs (g h : Nat → Int) : Nat → Int
  | 0 => 0
  | k + 1 => sumAbs g h k + max (g k - h k) (-(g k - h k))
theorem sumAbs_bd {g h : Nat → Int} (hg : Byt g) (hh : Byt h) : ∀ k, 0 ≤ sumAbs g h k ∧ sumAbs g h k ≤ 255 * k
  | 0 => by simp [sumAbs]
  | k + 1 => by
    have := sumAbs_bd hg hh k
    have := hg k
    have := hh k
    simp only [sumAbs]
    omega
end Go.Kin
namespace Go.Proofs.Ytcojphdohpgjnaa
open Go.RowKit Go.Kin
set_option linter.unusedVariables false

set_option maxHeartbeats 1000000 in
theorem iclips_yes (A B : Option Addr) (n c d : Nat) (g r : Nat → Int) (w : World) (hA : Rd w A n (by8 g)) (hB : Rd w B n (in64 r)) (hg : Byt g) (hn : n ≤ 10000) :
    Calls Try.prog 22 #[.slice A n c, .slice B n d] w (MadeBytes n (clipR g r) w) := by
  have hmk := make_u8 n (by omega)
  have K := ((Kn.start w).add (x := .rd A n (by8 g)) hA).add (x := .rd B n (in64 r)) hB
  have OF := fun b hb => K.offS (b := b) hb
  have HOF := Lib.hid OF
  clear hA hB OF
  go_enter Try.func22, Try.ntmps22
  go_wp2_with fail
  have HK := Lib.hid (K.make w.heap.size (.int .u8 0) n 5 rfl)
  clear K
  go_loopw [18] (fun i wr => ∃ k : Nat, k ≤ n ∧ i = .int .i64 k ∧ Kn wr [.row w.heap.size n (by8 fun j => if j < k then clipR g r j else 0), .rd B n (in64 r), .rd A n (by8 g), .since w]) (fun i _ => n - (intOf i).toNat)
  case atStart => exact ⟨0, Nat.zero_le _, rfl, HK.out.row (fun i _ => by simp [by8])⟩
  case round =>
    obtain ⟨k, hk, rfl, K⟩ := hrel
    clear HK
    by_cases hlt : k < n
    · obtain ⟨bA, oA, rfl, _, hcA⟩ := Rd.some_ K.2.2.1 (by omega)
      obtain ⟨bB, oB, rfl, _, hcB⟩ := Rd.some_ K.2.1 (by omega)
      have c1 := hcA k hlt
      have c2 := hcB k hlt
      have cr := Row.cell K.1 hlt
      have fr := Row.frozen K.1 k
      simp only [by8, in64] at c1 c2 cr
      have b1 := hg k
      have HV := Lib.hid (show clipR g r k = clip8 (g k + min (max (r k) (-255)) 255) from rfl)
      have HK := Lib.hid K
      clear K hcA hcB
      go_wp2_with (go_at_call 37; refine (iclip_any _ _).mono ?_; rintro e w' ⟨rfl, rfl⟩)
      go_roundw
      case rel =>
        refine ⟨k + 1, hlt, by go_num, (Kn.setRowS HK.out k _ (HOF.out _ (Nat.le_refl _))).row fun i _ => ?_⟩
        simp only [by8]
        by_cases e1 : i = k
        · subst e1; simp [HV.out]
        · by_cases e2 : i < k
          · simp [e1, e2, show i < k + 1 by omega]
          · simp [e1, e2, show ¬ i < k + 1 by omega]
      case measure => simp [intOf]; omega
    · have hkn : k = n := by omega
      subst hkn
      go_wp2
      go_ret
      exact ⟨_, rfl, Nat.le_refl _, Row.congr K.1 (fun i hi => by simp [by8, hi]), K.2.2.2.1⟩

/-- A slice that was grown by the call. -/
def GrownS (e : TypeId) (n : Nat) (f : Nat → Value) (w : World) (en : Ending) (w' : World) : Prop :=
  ∃ A c, en = .returned (.slice A n c) ∧ OwnS w' w.heap.size e A n c f ∧ Below w.heap.size w w'

set_option maxHeartbeats 1000000 in
theorem rrest_yes (A B : Option Addr) (n c d : Nat) (g h : Nat → Int) (w : World) (hA : Rd w A n (by8 g)) (hB : Rd w B n (by8 h)) (hg : Byt g) (hh : Byt h) (hn : n ≤ 10000) :
    Calls Try.prog 21 #[.slice A n c, .slice B n d] w (GrownS 3 n (in64 fun i => g i - h i) w) := by
  obtain ⟨i0, hi0, hz0, hz1, hz2⟩ := parts_i64
  have HI := Lib.hid hi0
  clear hi0
  have K := ((Kn.start w).add (x := .rd A n (by8 g)) hA).add (x := .rd B n (by8 h)) hB
  have OF := fun b hb => K.offS (b := b) hb
  have HOF := Lib.hid OF
  clear hA hB OF
  go_enter Try.func21, Try.ntmps21
  go_wp2
  have HK := Lib.hid K
  clear K
  go_loopw [5, 6] (fun v i wr => ∃ k : Nat, k ≤ n ∧ i = .int .i64 k ∧ ∃ A' c', v = .slice A' k c' ∧ Kn wr [.own w.heap.size 3 A' k c' (in64 fun i => g i - h i), .rd B n (by8 h), .rd A n (by8 g), .since w]) (fun _ i _ => n - (intOf i).toNat)
  case atStart => exact ⟨0, Nat.zero_le _, rfl, none, 0, rfl, HK.out.add (OwnS.nil _ _ _ _)⟩
  case round =>
    obtain ⟨k, hk, rfl, A', c', rfl, K⟩ := hrel
    clear HK
    by_cases hlt : k < n
    · have b1 := hg k
      have b2 := hh k
      obtain ⟨bA, oA, rfl, _, _⟩ := Rd.some_ K.2.2.1 (by omega)
      obtain ⟨bB, oB, rfl, _, _⟩ := Rd.some_ K.2.1 (by omega)
      have K2 := K
      clear K
      go_wp2
      have z1 : IntKind.i64.wrap (g k - h k) = g k - h k := IntWalk.i64_in _ (by omega)
      have z2 : IntKind.i64.wrap (g k) = g k := IntWalk.i64_in _ (by omega)
      have z3 : IntKind.i64.wrap (h k) = h k := IntWalk.i64_in _ (by omega)
      have KD := Kn.drew K2
      have hlt' : (k : Int) < n := by omega
      refine wp_region_allH (fun w' => Kn w' [.rd (some ⟨bB, oB, none⟩) n (by8 h), .rd (some ⟨bA, oA, none⟩) n (by8 g)]) [12, 13] [(0,1),(1,1),(2,1),(3,1),(4,1),(5,1),(6,1),(7,1),(8,1),(9,1),(10,1),(11,1),(12,2),(13,2),(14,0)] (by kernel_rfl) (by kernel_rfl) (fun _ _ d _ _ h => by cases d <;> exact h) (⟨KD.2.1, KD.2.2.1, trivial⟩) ?_
      generalize wr.drew = wd at KD ⊢
      repeat (first | (refine oH_freeG rfl rfl (fun w' hS => by have s1 := Rd.at_ hS.1 hlt; have s2 := Rd.at_ hS.2.1 hlt; simp only [by8] at s1 s2; clear hS; go_simp; with_reducible rfl) ?_; go_simp) | (refine oH_skipG rfl rfl ?_; go_simp))
      clear z1 z2 z3
      refine oH_doG rfl rfl (fun KK hKK => ?_)
      go_simp
      have K3 := KD.new wd.heap.size #[.int .i64 (g k - h k)] 3 rfl
      refine hKK _ _ ⟨⟨K3.2.2.1, K3.2.2.2.1, trivial⟩, ?_⟩
      clear hKK KK K2 KD
      refine oH_doG rfl rfl (fun KK hKK => ?_)
      have hs3 : w.heap.size ≤ (wd.alloc (.cells #[.int .i64 (g k - h k)] 3)).heap.size := Below.size K3.2.2.2.2.1
      obtain ⟨A2, c2, w2, bo, hrun, hO2, hbo, ho2⟩ := app_one (P := Try.prog) (ty := 39) Try.underlying39 HI.out hz0 hz1 hz2 rfl K3.2.1 K3.1 rfl (by unfold maxLen; omega) (by omega) hs3
      refine wp_app rfl rfl hrun ?_
      have K4 := Kn.othS K3.2.2 ho2 (HOF.out _ hbo)
      refine hKK _ _ ⟨⟨K4.1, K4.2.1, trivial⟩, ?_⟩
      clear hKK KK
      repeat (refine oH_still rfl (fun KK hKK => ?_); go_simp; refine hKK _ ?_; clear hKK KK)
      refine oH_nil ?_
      have HK4 := Lib.hid (K4.add (x := .own w.heap.size 3 A2 (k + 1) c2 (in64 fun i => g i - h i)) (hO2.congr fun j hj => by
        by_cases e : j < k
        · simp [e]
        · obtain rfl : j = k := by omega
          simp [in64]))
      clear K4 K3 hO2 ho2 hrun
      go_wp2
      exact ⟨⟨k + 1, hlt, by go_num, A2, c2, rfl, HK4.out⟩, by simp [intOf]; omega⟩
    · have hkn : k = n := by omega
      subst hkn
      go_wp2
      go_ret
      exact ⟨A', c', rfl, K.1, K.2.2.2.1⟩

set_option maxHeartbeats 1000000 in
theorem rclips_yes (A B : Option Addr) (n c d : Nat) (g r : Nat → Int) (w : World) (hA : Rd w A n (by8 g)) (hB : Rd w B n (in64 r)) (hg : Byt g) (hn : n ≤ 10000) :
    Calls Try.prog 24 #[.slice A n c, .slice B n d] w (GrownS 5 n (by8 (clipR g r)) w) := by
  obtain ⟨i0, hi0, hz0, hz1, hz2⟩ := parts_u8
  have HI := Lib.hid hi0
  clear hi0
  have K := ((Kn.start w).add (x := .rd A n (by8 g)) hA).add (x := .rd B n (in64 r)) hB
  have OF := fun b hb => K.offS (b := b) hb
  have HOF := Lib.hid OF
  clear hA hB OF
  go_enter Try.func24, Try.ntmps24
  go_wp2
  have HK := Lib.hid K
  clear K
  go_loopw [5, 6] (fun v i wr => ∃ k : Nat, k ≤ n ∧ i = .int .i64 k ∧ ∃ A' c', v = .slice A' k c' ∧ Kn wr [.own w.heap.size 5 A' k c' (by8 (clipR g r)), .rd B n (in64 r), .rd A n (by8 g), .since w]) (fun _ i _ => n - (intOf i).toNat)
  case atStart => exact ⟨0, Nat.zero_le _, rfl, none, 0, rfl, HK.out.add (OwnS.nil _ _ _ _)⟩
  case round =>
    obtain ⟨k, hk, rfl, A', c', rfl, K⟩ := hrel
    clear HK
    by_cases hlt : k < n
    · have b1 := hg k
      obtain ⟨bA, oA, rfl, _, _⟩ := Rd.some_ K.2.2.1 (by omega)
      obtain ⟨bB, oB, rfl, _, _⟩ := Rd.some_ K.2.1 (by omega)
      have K2 := K
      clear K
      go_wp2
      have HV := Lib.hid (clipR_ref (r := r) hg k)
      have z1 : IntKind.i64.wrap (g k + min (max (r k) (-300)) 300) = g k + min (max (r k) (-300)) 300 := IntWalk.i64_in _ (by omega)
      have z2 : IntKind.i64.wrap (g k) = g k := IntWalk.i64_in _ (by omega)
      have KD := Kn.drew K2
      have hlt' : (k : Int) < n := by omega
      refine wp_region_allH (fun w' => Kn w' [.rd (some ⟨bB, oB, none⟩) n (in64 r), .rd (some ⟨bA, oA, none⟩) n (by8 g)]) [13, 14, 15] [(0,1),(1,1),(2,1),(3,1),(4,1),(5,1),(6,1),(7,1),(8,1),(9,1),(10,1),(11,1),(12,1),(13,2),(14,2),(15,2),(16,0)] (by kernel_rfl) (by kernel_rfl) (fun _ _ d _ _ h => by cases d <;> exact h) (⟨KD.2.1, KD.2.2.1, trivial⟩) ?_
      generalize wr.drew = wd at KD ⊢
      repeat (first | (refine oH_freeG rfl rfl (fun w' hS => by have s1 := Rd.at_ hS.1 hlt; have s2 := Rd.at_ hS.2.1 hlt; simp only [by8, in64] at s1 s2; clear hS; go_simp; with_reducible rfl) ?_; go_simp) | (refine oH_skipG rfl rfl ?_; go_simp))
      clear z1 z2
      refine oH_doG rfl rfl (fun KK hKK => ?_)
      go_simp
      refine (rclip_any _ _).mono ?_
      rintro e w' ⟨rfl, rfl⟩
      rw [HV.out]
      refine hKK _ _ ⟨⟨KD.2.1, KD.2.2.1, trivial⟩, ?_⟩
      clear hKK KK
      refine oH_doG rfl rfl (fun KK hKK => ?_)
      go_simp
      have K3 := KD.new wd.heap.size #[.int .u8 (clipR g r k)] 5 rfl
      refine hKK _ _ ⟨⟨K3.2.2.1, K3.2.2.2.1, trivial⟩, ?_⟩
      clear hKK KK K2 KD
      refine oH_doG rfl rfl (fun KK hKK => ?_)
      have hs3 : w.heap.size ≤ (wd.alloc (.cells #[.int .u8 (clipR g r k)] 5)).heap.size := Below.size K3.2.2.2.2.1
      obtain ⟨A2, c2, w2, bo, hrun, hO2, hbo, ho2⟩ := app_one (P := Try.prog) (ty := 22) Try.underlying22 HI.out hz0 hz1 hz2 rfl K3.2.1 K3.1 rfl (by unfold maxLen; omega) (by omega) hs3
      refine wp_app rfl rfl hrun ?_
      have K4 := Kn.othS K3.2.2 ho2 (HOF.out _ hbo)
      refine hKK _ _ ⟨⟨K4.1, K4.2.1, trivial⟩, ?_⟩
      clear hKK KK
      repeat (refine oH_still rfl (fun KK hKK => ?_); go_simp; refine hKK _ ?_; clear hKK KK)
      refine oH_nil ?_
      have HK4 := Lib.hid (K4.add (x := .own w.heap.size 5 A2 (k + 1) c2 (by8 (clipR g r))) (hO2.congr fun j hj => by
        by_cases e : j < k
        · simp [e]
        · obtain rfl : j = k := by omega
          simp [by8]))
      clear K4 K3 hO2 ho2 hrun
      go_wp2
      exact ⟨⟨k + 1, hlt, by go_num, A2, c2, rfl, HK4.out⟩, by simp [intOf]; omega⟩
    · have hkn : k = n := by omega
      subst hkn
      go_wp2
      go_ret
      exact ⟨A', c', rfl, K.1, K.2.2.2.1⟩

set_option maxHeartbeats 1000000 in
theorem far9_any (A B : Option Addr) (n m c d : Nat) (g h : Nat → Int) (w : World) (hA : Rd w A n (by8 g)) (hB : Rd w B m (by8 h)) (hg : Byt g) (hh : Byt h) (hn : n ≤ m) (hn2 : n ≤ 10000) :
    Calls Try.prog 19 #[.slice A n c, .slice B m d] w fun e w' => e = .returned (.int .i64 (sumAbs g h n)) ∧ Below w.heap.size w w' := by
  have K := ((Kn.start w).add (x := .rd A n (by8 g)) hA).add (x := .rd B m (by8 h)) hB
  clear hA hB
  go_enter Try.func19, Try.ntmps19
  go_wp2
  have HK := Lib.hid K
  clear K
  go_loopw [5, 6] (fun s i wr => ∃ k : Nat, k ≤ n ∧ i = .int .i64 k ∧ s = .int .i64 (sumAbs g h k) ∧ Kn wr [.rd B m (by8 h), .rd A n (by8 g), .since w]) (fun _ i _ => n - (intOf i).toNat)
  case atStart => exact ⟨0, Nat.zero_le _, rfl, rfl, HK.out⟩
  case round =>
    obtain ⟨k, hk, rfl, rfl, K⟩ := hrel
    clear HK
    obtain ⟨f0, f1⟩ := sumAbs_bd hg hh k
    by_cases hlt : k < n
    · have b1 := hg k
      have b2 := hh k
      obtain ⟨bA, oA, rfl, _, hcA⟩ := Rd.some_ K.2.1 (by omega)
      obtain ⟨bB, oB, rfl, _, hcB⟩ := Rd.some_ K.1 (by omega)
      have c1 := hcA k hlt
      have c2 := hcB k (by omega)
      simp only [by8] at c1 c2
      have HK := Lib.hid K
      clear K hcA hcB
      have HD := Lib.hid (show sumAbs g h (k + 1) = sumAbs g h k + max (g k - h k) (-(g k - h k)) from rfl)
      generalize sumAbs g h k = s at *
      have lm : k < m := by omega
      have lm' : (k : Int) < m := by omega
      go_wp2
      have z1 : IntKind.i64.wrap (g k - h k) = g k - h k := IntWalk.i64_in _ (by omega)
      go_quiet (fail)
      clear z1
      go_wp2
      go_roundw
      case rel => exact ⟨k + 1, hlt, by go_num, by rw [HD.out], Kn.drewN HK.out _⟩
      case measure => simp [intOf]; omega
    · have hkn : k = n := by omega
      subst hkn
      have L : Below _ _ _ := K.2.2.1
      go_wp2
      go_ret
      exact ⟨rfl, L⟩

/-- Two lists of numbers, held against each other. -/
def sameB (n m : Nat) (g h : Nat → Int) : Bool := (n == m) && (List.range n).all fun i => g i == h i
theorem sameB_yes {n : Nat} {g h : Nat → Int} (e : ∀ i, i < n → g i = h i) : sameB n n g h = true := by
  simp only [sameB, beq_self_eq_true, Bool.true_and, List.all_eq_true, List.mem_range, beq_iff_eq]
  exact e
set_option maxHeartbeats 1000000 in
theorem same7_yes (A B : Option Addr) (n c d : Nat) (g : Nat → Int) (w : World) (hA : Rd w A n (in64 g)) (hB : Rd w B n (in64 g)) (hn2 : n ≤ 10000) :
    Calls Try.prog 23 #[.slice A n c, .slice B n d] w fun e w' => e = .returned (.bool true) ∧ Below w.heap.size w w' := by
  have K := ((Kn.start w).add (x := .rd A n (in64 g)) hA).add (x := .rd B n (in64 g)) hB
  clear hA hB
  go_enter Try.func23, Try.ntmps23
  go_wp2
  have HK := Lib.hid K
  clear K
  go_loopw [5] (fun i wr => ∃ k : Nat, k ≤ n ∧ i = .int .i64 k ∧ Kn wr [.rd B n (in64 g), .rd A n (in64 g), .since w]) (fun i _ => n - (intOf i).toNat)
  case atStart => exact ⟨0, Nat.zero_le _, rfl, HK.out⟩
  case round =>
    obtain ⟨k, hk, rfl, K⟩ := hrel
    clear HK
    by_cases hlt : k < n
    · obtain ⟨bA, oA, rfl, _, hcA⟩ := Rd.some_ K.2.1 (by omega)
      obtain ⟨bB, oB, rfl, _, hcB⟩ := Rd.some_ K.1 (by omega)
      have c1 := hcA k hlt
      have c2 := hcB k hlt
      simp only [in64] at c1 c2
      have HK := Lib.hid K
      clear K hcA hcB
      have lm' : (k : Int) < n := by omega
      go_wp2
      go_quiet (fail)
      go_wp2
      exact ⟨⟨k + 1, hlt, by go_num, Kn.drewN HK.out _⟩, by simp [intOf]; omega⟩
    · have L : Below _ _ _ := K.2.2.1
      go_wp2
      go_ret
      exact ⟨rfl, L⟩
end Go.Proofs.Ytcojphdohpgjnaa
