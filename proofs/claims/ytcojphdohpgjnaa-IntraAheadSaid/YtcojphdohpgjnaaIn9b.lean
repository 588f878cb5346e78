/- Walks of package intra: Guess, a block of 8. (Printed by tools/gen9.py.) -/
import Derived.Test.YtcojphdohpgjnaaIn8
namespace Go.Proofs.Ytcojphdohpgjnaa
open Go.RowKit Go.Kin
set_option linter.unusedVariables false

set_option maxRecDepth 100000 in
set_option maxHeartbeats 4000000 in
theorem guess_8 (W H X Y n mode : Nat) (b off N c : Nat) (g : Nat → Int) (w : World) (hr : rightB W H N = true) (hS : Rd w (some ⟨b, off, none⟩) N (by8 g)) (hb : b < w.heap.size) (hnc : N ≤ c) (hc : c ≤ 9223372036854775807) (hn : n = 8) (hX : X + n ≤ W) (hY : Y + n ≤ H) (hm : mode < 4) (hg : Byt g) :
    Calls Try.prog 15 #[.agg #[.int .i64 W, .int .i64 H, .slice (some ⟨b, off, none⟩) N c], .int .i64 X, .int .i64 Y, .int .i64 n, .int .i64 mode] w (GivesB (n * n) (gsP W g X Y n mode) w) := by
  obtain ⟨r1, r2, r3, r4, r5⟩ := rightB_iff.1 hr
  clear r5
  have hnn : n * n ≤ 64 := by subst hn; decide
  have hmk := make_u8 (n * n) (by omega)
  rw [Int.natCast_mul] at hmk
  have m1 : (0 : Int) ≤ (n : Int) * n := by have := Int.natCast_mul n n; omega
  have m2 : (n : Int) * n ≤ 64 := by have := Int.natCast_mul n n; omega
  have q4 : ((n : Int) != 4) = true := by subst hn; rfl
  have q8 : ((n : Int) != 8) = false := by subst hn; rfl
  have x0 : ¬ (X : Int) < 0 := by omega
  have x1 : ¬ (W : Int) - n < X := by omega
  have y0 : ¬ (Y : Int) < 0 := by omega
  have y1 : ¬ (H : Int) - n < Y := by omega
  have o0 : ¬ (mode : Int) < 0 := by omega
  have o1 : (mode : Int) < 4 := by omega
  have n1 : 1 ≤ n := by omega
  have n8 : n ≤ 8 := by omega
  have HN := Lib.hid hn
  clear hn
  have K := (Kn.start w).add (x := .rd (some ⟨b, off, none⟩) N (by8 g)) hS
  clear hS
  go_enter Try.func15, Try.ntmps15
  go_wp2_with fail
  refine (right_any _ _ _ _ _ _).mono ?_
  rintro e w1 ⟨rfl, hb1⟩
  replace K := (K.new w.heap.size _ _ rfl).below hb1
  clear hb1
  replace kc0 := Box.cells K.1
  replace kl0 := Box.lt K.1
  replace R : Rd _ _ _ _ := K.2.1
  replace L : Below _ _ _ := K.2.2.1
  go_wp2_with fail
  refine (modes_any _).mono ?_
  rintro e w2 ⟨rfl, hb2⟩
  replace K := K.below hb2
  clear hb2
  replace kc0 := Box.cells K.1
  replace kl0 := Box.lt K.1
  replace R : Rd _ _ _ _ := K.2.1
  replace L : Below _ _ _ := K.2.2.1
  replace K := K.new w2.heap.size funs4 57 rfl
  have hb2 : b < (w2.alloc (.cells funs4 57)).heap.size := by have := Below.size L; simp; omega
  have HHK := Lib.hid K
  have R2 : Rd (w2.alloc (.cells funs4 57)) (some ⟨b, off, none⟩) N (by8 g) := K.2.2.1
  clear K R
  go_wp2_with fail
  refine (look_yes W H X Y n b off N c g _ hr R2 hb2 hnc hc n1 n8 hX hY).mono ?_
  rintro e w3 ⟨rfl, hb3⟩
  have K := HHK.out.below hb3
  clear hb3 R2 hb2 HHK kc0 kl0 L x0 x1 y0 y1 q4 q8
  generalize hAB : abP W g X Y n = AB
  generalize hLF : lfP W g X Y n = LF
  generalize hCO : coP W g X Y = CO
  have bAB : Byt AB := hAB ▸ abP_byt hg
  have bLF : Byt LF := hLF ▸ lfP_byt hg
  have bCO : 0 ≤ CO ∧ CO ≤ 255 := hCO ▸ coP_byt hg
  have HG : Hid (∀ k, gsP W g X Y n mode k = moV n AB LF CO mode (k % n) (k / n)) := Lib.hid (fun k => by unfold gsP; rw [hAB, hLF, hCO])
  clear hAB hLF hCO hb
  have K4 := K.new w3.heap.size (arCells 0 (fun _ => 0) (fun _ => 0) 0) 61 rfl
  have K5 : Kn ((w3.alloc (.cells (arCells 0 (fun _ => 0) (fun _ => 0) 0) 61)).setRow w3.heap.size (arCells n AB LF CO)) (.box w3.heap.size (arCells n AB LF CO) :: _) := ⟨Box.setRow K4.1 _, Kn.othS K4.2 (oth_setRow _ _ _) (K.offS (Nat.le_refl _))⟩
  clear K4 K
  have sz5 : ((w3.alloc (.cells (arCells 0 (fun _ => 0) (fun _ => 0) 0) 61)).setRow w3.heap.size (arCells n AB LF CO)).heap.size = w3.heap.size + 1 := by simp [World.setRow]
  go_wp2_with (refine wpList_store_row rfl 61 _ _ rfl w3.heap.size (arCells n AB LF CO) rfl rfl 61 _ (heap_alloc_new w3 _) size_ar rfl (ar_one _ _ _ _) ?_)
  generalize (w3.alloc (.cells (arCells 0 (fun _ => 0) (fun _ => 0) 0) 61)).setRow w3.heap.size (arCells n AB LF CO) = w4 at *
  have OF := Lib.hid (K5.offS (b := w3.heap.size + 1) (by omega))
  have HK := Lib.hid (K5.make (w3.heap.size + 1) (.int .u8 0) (n * n) 5 sz5.symm)
  clear K5 sz5
  have HF := Lib.hid (funs4_at hm)
  go_loopw [69] (fun i wr => ∃ k : Nat, k ≤ n * n ∧ i = .int .i64 k ∧ Kn wr [.row (w3.heap.size + 1) (n * n) (by8 fun j => if j < k then gsP W g X Y n mode j else 0), .box w3.heap.size (arCells n AB LF CO), .box w2.heap.size funs4, .box w.heap.size #[.int .i64 W, .int .i64 H, .slice (some ⟨b, off, none⟩) N c], .rd (some ⟨b, off, none⟩) N (by8 g), .since w]) (fun i _ => n * n - (intOf i).toNat)
  case atStart => exact ⟨0, Nat.zero_le _, rfl, HK.out.row (fun i _ => by simp [by8])⟩
  case round =>
    obtain ⟨k, hk, rfl, K⟩ := hrel
    clear HK
    by_cases hlt : k < n * n
    · have kx : k % n < n := Nat.mod_lt _ (by omega)
      have ky : k / n < n := Nat.div_lt_of_lt_mul hlt
      have kl : (k : Int) < (n : Int) * n := by exact_mod_cast hlt
      have nz : ¬ n = 0 := by omega
      have zq : (k : Int).tmod n = (k : Int) % n := Int.tmod_eq_emod_of_nonneg (by omega)
      have zd0 : (0 : Int) ≤ (k : Int) / n := Int.ediv_nonneg (by omega) (by omega)
      have zd1 : (k : Int) / n ≤ k := Int.ediv_le_self _ (by omega)
      have zd : IntKind.i64.wrap ((k : Int) / n) = (k : Int) / n := IntWalk.i64_in _ (by omega)
      go_wp2
      have KD := Kn.drew K
      have he := mode_enter mode
      refine wp_region_allH (fun w' => Kn w' _) [12, 14] [(0,1),(1,1),(2,1),(3,1),(4,1),(5,1),(6,1),(7,1),(8,1),(9,1),(10,1),(11,1),(12,2),(13,1),(14,2)] (by kernel_rfl) (by kernel_rfl) (fun _ _ d _ _ h => by cases d <;> exact h) (KD.2) ?_
      generalize wr.drew = wd at KD ⊢
      repeat (first | (refine oH_freeG rfl rfl (fun w' hS => by have s1 := Box.cells hS.1; have s2 := (Box.cell hS.2.1 mode).trans HF.out; clear hS; go_simp; with_reducible rfl) ?_; go_simp))
      refine oH_doG rfl rfl (fun KK hKK => ?_)
      go_simp
      refine (mode_any mode n AB LF CO (k % n) (k / n) _ n1 n8 kx ky bAB bLF bCO).mono ?_
      rintro e w5 ⟨rfl, hL5⟩
      have K5 := KD.below hL5
      refine hKK _ _ ⟨K5.2, ?_⟩
      clear hKK KK hL5 KD K
      repeat (first | (refine oH_freeG rfl rfl (fun w' hS => by clear hS; go_simp; with_reducible rfl) ?_; go_simp))
      refine oH_doG rfl rfl (fun KK hKK => ?_)
      have cr := Row.cell K5.1 hlt
      have fr := Row.frozen K5.1 k
      simp only [by8] at cr
      go_simp
      have K6 := Kn.setRowS K5 k (.int .u8 (moV n AB LF CO mode (k % n) (k / n))) OF.out
      refine hKK _ _ ⟨K6.2, ?_⟩
      clear hKK KK cr fr K5
      have HK := Lib.hid K6
      clear K6
      refine oH_nil ?_
      clear zq zd zd0 zd1 he kx ky nz
      go_wp2
      go_roundw
      case rel =>
        refine ⟨k + 1, hlt, by go_num, HK.out.row fun i _ => ?_⟩
        simp only [by8]
        by_cases e : i = k
        · subst e
          rw [if_pos rfl, if_pos (by omega), HG.out]
        · rw [if_neg e]
          by_cases e2 : i < k
          · rw [if_pos e2, if_pos (by omega)]
          · rw [if_neg e2, if_neg (by omega)]
      case measure => simp [intOf]; omega
    · obtain rfl : k = n * n := by omega
      have HK := Lib.hid K
      clear K
      go_wp2
      go_ret2
      exact ⟨_, _, rfl, (Row.rd HK.out.1).congr (fun i hi => by simp only [by8]; rw [if_pos hi]), Nat.le_refl _, by omega, HK.out.2.2.2.2.2.1⟩
end Go.Proofs.Ytcojphdohpgjnaa
