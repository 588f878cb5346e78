/- LiftFlat: of a block of one number the transform is this number, and 0 else; a number more everywhere is as much more in the first place, and nothing else. No condition. -/
import Derived.Test.YtfooglenhepogaaAl7
import Derived.Test.YtfooglenhepogaaClose
set_option linter.unusedVariables false
namespace Go.Kin
open Go.RowKit
theorem fwd_add {v : Int} : ∀ {k : Nat} {g : Nat → Int} (i : Nat), i < 2 ^ k → fwd k (fun i => g i + v) i = fwd k g i + if i = 0 then v else 0
  | 0, g, i, hi => by
    obtain rfl : i = 0 := by omega
    rfl
  | k + 1, g, i, hi => by
    have hk := two_pow_succ k
    have hp : 0 < 2 ^ k := Nat.pow_pos (by omega)
    show fwd k (fst1 (2 ^ k) fun i => g i + v) i = fwd k (fst1 (2 ^ k) g) i + _
    by_cases h : i < 2 ^ k
    · rw [fwd_congr (h := fun i => fst1 (2 ^ k) g i + v) (fun j hj => ?_) i h]
      · exact fwd_add i h
      · unfold fst1
        rw [if_pos hj, if_pos hj]
        dsimp only
        omega
    · rw [fwd_out (by omega), fwd_out (by omega), if_neg (by omega)]
      unfold fst1
      rw [if_neg h, if_neg h, if_pos (by omega), if_pos (by omega)]
      dsimp only
      omega
theorem fwd_zero : ∀ (k i : Nat), fwd k (fun _ => 0) i = 0
  | 0, _ => rfl
  | k + 1, i => by
    show fwd k (fst1 (2 ^ k) fun _ => 0) i = 0
    rw [show (fst1 (2 ^ k) fun _ => 0) = fun _ => 0 from funext fun j => by unfold fst1; split <;> (try split) <;> rfl]
    exact fwd_zero k i
theorem fwdB_add {k : Nat} {v : Int} {g : Nat → Int} : ∀ i, i < 2 ^ k * 2 ^ k → byCol (2 ^ k) (fwd k) (byRow (2 ^ k) (fwd k) fun i => g i + v) i = byCol (2 ^ k) (fwd k) (byRow (2 ^ k) (fwd k) g) i + if i = 0 then v else 0 := fun i hi => by
  have hp : 0 < 2 ^ k := Nat.pow_pos (by omega)
  have hx := mod_lt_side hi
  have hy := div_lt_side hi
  have hrow : ∀ j, j < 2 ^ k → byRow (2 ^ k) (fwd k) (fun i => g i + v) (j * 2 ^ k + i % 2 ^ k) = byRow (2 ^ k) (fwd k) g (j * 2 ^ k + i % 2 ^ k) + if i % 2 ^ k = 0 then v else 0 := fun j hj => by
    unfold byRow
    rw [cell_div hx, cell_mod hx]
    exact fwd_add (g := fun s => g (j * 2 ^ k + s)) _ hx
  unfold byCol
  rw [fwd_congr hrow _ hy]
  by_cases h0 : i % 2 ^ k = 0
  · simp only [h0, if_true]
    rw [fwd_add (g := fun j => byRow (2 ^ k) (fwd k) g (j * 2 ^ k + 0)) _ hy]
    congr 1
    by_cases h1 : i / 2 ^ k = 0
    · have := Nat.div_add_mod i (2 ^ k)
      rw [h0, h1] at this
      rw [if_pos h1, if_pos (by omega)]
    · rw [if_neg h1, if_neg (fun h => h1 (by rw [h, Nat.zero_div]))]
  · have h2 : i ≠ 0 := fun h => h0 (by rw [h, Nat.zero_mod])
    simp only [h0, if_false, h2, Int.add_zero]
theorem fwV_add {n : Nat} {v : Int} {g : Nat → Int} (hn : n = 16 ∨ n = 64) : ∀ i, i < n → fwV n (fun i => g i + v) i = fwV n g i + if i = 0 then v else 0 := by
  unfold fwV
  rcases hn with rfl | rfl
  · exact fwdB_add (k := 2)
  · exact fwdB_add (k := 3)
theorem fwV_flat {n : Nat} {v : Int} (hn : n = 16 ∨ n = 64) : ∀ i, i < n → fwV n (fun _ => v) i = if i = 0 then v else 0 := fun i hi => by
  have h := fwV_add (v := v) (g := fun _ => 0) hn i hi
  rw [show (fun i : Nat => (fun _ => (0 : Int)) i + v) = fun _ => v from funext fun _ => by simp] at h
  rw [h]
  have hz : fwV n (fun _ => 0) i = 0 := by
    have e : ∀ k, byCol (2 ^ k) (fwd k) (byRow (2 ^ k) (fwd k) fun _ => 0) i = 0 := fun k => by
      unfold byCol byRow
      simp only [fwd_zero]
    unfold fwV
    rcases hn with rfl | rfl
    · exact e 2
    · exact e 3
  rw [hz]
  omega
theorem fwV_bdx {n : Nat} {M : Int} {g : Nat → Int} (hn : n = 16 ∨ n = 64) (hM : 1 ≤ M) (h : Wi M n g) : Wi (16 * M) n (fwV n g) := by
  unfold fwV
  rcases hn with rfl | rfl
  · exact (byCol_bd (k := 2) (b := false) (M := 4 * M) (by omega) (by omega) (byRow_bd (k := 2) (by omega) hM h)).mono (by omega) (Nat.le_refl _)
  · exact (byCol_bd (k := 3) (b := false) (M := 4 * M) (by omega) (by omega) (byRow_bd (k := 3) (by omega) hM h)).mono (by omega) (Nat.le_refl _)
theorem okB_of {n : Nat} {g : Nat → Int} {M : Int} (hn : n = 16 ∨ n = 64) (h : ∀ i, i < n → -M ≤ g i ∧ g i ≤ M) : (n = 16 ∨ n = 64) ∧ Wi M n g := ⟨hn, h⟩
theorem fwV_congr {n : Nat} {g h : Nat → Int} (hn : n = 16 ∨ n = 64) (e : ∀ i, i < n → g i = h i) : ∀ i, i < n → fwV n g i = fwV n h i := by
  unfold fwV
  rcases hn with rfl | rfl
  · exact byCol_congr (n := 4) (fun l h e => lin_congr (k := 2) e) (byRow_congr (n := 4) (fun l h e => lin_congr (k := 2) e) e)
  · exact byCol_congr (n := 8) (fun l h e => lin_congr (k := 3) e) (byRow_congr (n := 8) (fun l h e => lin_congr (k := 3) e) e)
end Go.Kin
namespace Go.Proofs.Ytfooglenhepogaa
open Go.ChangeShapes Go.WideShapes Go.ChangeAt Go.RowKit Go.Joins Go.Kin
namespace LiftFlat
theorem walk_no (w : World) (A : Option Addr) (n c : Nat) (v : Int) (h : (n ≠ 16 ∧ n ≠ 64) ∨ ((n = 16 ∨ n = 64) ∧ v < -524288) ∨ ((n = 16 ∨ n = 64) ∧ ¬ v < -524288 ∧ 524288 < v)) :
    Calls Try.prog 11 #[.slice A n c, .int .i64 v] w fun e w' => e = .returned (.bool true) ∧ Below w.heap.size w w' := by
  have K := Kn.start w
  rcases h with ⟨h1, h2⟩ | ⟨h1 | h1, h2⟩ | ⟨h1 | h1, h2, h3⟩
  · have e1 : ((n : Int) != 16) = true := by simp; omega
    have e2 : ((n : Int) != 64) = true := by simp; omega
    clear h1 h2
    go_enter Try.func11, Try.ntmps11
    go_wp2_with fail
    refine (alive07 _).mono ?_
    rintro e w1 ⟨rfl, hb1⟩
    replace K := K.below hb1
    clear hb1
    replace L : Below _ _ _ := K.1
    go_wp2
    go_ret
    exact ⟨rfl, L⟩
  all_goals subst h1
  all_goals go_enter Try.func11, Try.ntmps11
  all_goals go_wp2_with fail
  all_goals refine (alive07 _).mono ?_
  all_goals rintro e w1 ⟨rfl, hb1⟩
  all_goals replace K := K.below hb1
  all_goals clear hb1
  all_goals replace L : Below _ _ _ := K.1
  all_goals go_wp2
  all_goals go_ret
  all_goals exact ⟨rfl, L⟩
set_option maxRecDepth 100000 in
set_option maxHeartbeats 8000000 in
theorem walk_16 (w : World) (A : Option Addr) (c : Nat) (g : Nat → Int) (v : Int) (hA : Rd w A 16 (in64 g)) (hv1 : -524288 ≤ v) (hv2 : v ≤ 524288) :
    Calls Try.prog 11 #[.slice A 16 c, .int .i64 v] w fun e w' => e = .returned (.bool true) ∧ Below w.heap.size w w' := by
  obtain ⟨i0, hi0, hz0, hz1, hz2⟩ := parts_i64
  have HI := Lib.hid hi0
  clear hi0
  have hmk : ∀ w, (Instr.makeSlice 55 (.int .i64 16) (.int .i64 16)).run Try.prog w = .ok (.slice (some ⟨w.heap.size, 0, none⟩) 16 16) (w.alloc (.cells (madeCells #[.int .i64 0] 16) 3)) := make_i64 16 (by omega)
  have K := (Kn.start w).add (x := .rd A 16 (in64 g)) hA
  have HOF := Lib.hid (fun b (hb : w.heap.size ≤ b) => K.offS (b := b) hb)
  obtain ⟨bA, oA, rfl, hbA, -⟩ := Rd.some_ hA (by omega)
  clear hA
  have v1 : ¬ v < -524288 := by omega
  have v2 : ¬ 524288 < v := by omega
  have K := K.make w.heap.size (.int .i64 0) 16 3 rfl
  have hRA : Rd (w.alloc (.cells (madeCells #[.int .i64 0] 16) 3)) (some ⟨bA, oA, none⟩) 16 (in64 g) := K.2.1
  go_enter Try.func11, Try.ntmps11
  have hRA2 : Rd ((w.alloc (.cells (madeCells #[.int .i64 0] 16) 3)).alloc (.cells #[] 3)) (some ⟨bA, oA, none⟩) 16 (in64 g) := hRA.alloc _
  have hOE : OwnS ((w.alloc (.cells (madeCells #[.int .i64 0] 16) 3)).alloc (.cells #[] 3)) (w.heap.size + 1) 3 (some ⟨w.heap.size + 1, 0, none⟩) 0 0 (in64 g) := OwnS.empty _ 3 _ (by simp) (Nat.le_refl _)
  have hNo : some (⟨bA, oA, none⟩ : Addr) = none → 16 = 0 := fun h => by cases h
  go_wp2_with (at_builtin; refine wpList_appM rfl (.tmp 35) (.tmp 36) rfl Try.underlying55 HI.out hz0 hz1 hz2 rfl rfl rfl hOE hRA2 hNo (fun _ => rfl) ?_ ?_ ?_ ?_; rotate_right; intro A5 c5 w5 bo hO5 hbo hb5)
  rotate_left
  · unfold maxLen; omega
  rw [Nat.zero_add] at hO5
  obtain ⟨b6, rfl, hb6, hr6, hc6⟩ := OwnS.row hO5 (by omega)
  have hcap := (OwnS.cap hO5).2
  have hOF5 := HOF.out bo (by omega)
  have HK := Lib.hid (show Kn w5 [.row b6 16 (in64 fun i => if i < 0 then g i + v else g i), .row w.heap.size 16 (in64 fun i => if i < 0 then v else 0), .rd (some ⟨bA, oA, none⟩) 16 (in64 g), .since w] from ⟨hr6.congr (fun i _ => by simp [in64]), (Row.oth (Row.alloc K.1 _) hb5 (by omega)).congr (fun i _ => by simp [in64]), (Kn.othS (K.2.alloc _) hb5 hOF5)⟩)
  have hbs : w.heap.size < w5.heap.size := by have := hb5.size; simp at this; omega
  clear hO5 hb5 hr6 K hRA hRA2 hOE hNo hOF5
  go_wp2
  go_loopw [7] (fun i wr => ∃ k : Nat, k ≤ 16 ∧ i = .int .i64 k ∧ Wi 524288 k g ∧ Kn wr [.row b6 16 (in64 fun i => if i < k then g i + v else g i), .row w.heap.size 16 (in64 fun i => if i < k then v else 0), .rd (some ⟨bA, oA, none⟩) 16 (in64 g), .since w]) (fun i _ => 16 - (intOf i).toNat)
  case atStart => exact ⟨0, by omega, rfl, fun i hi => by omega, HK.out⟩
  case round =>
    obtain ⟨k, hk, rfl, hw, K⟩ := hrel
    clear HK
    have HW := Lib.hid hw
    clear hw
    by_cases hlt : k < 16
    · have c1 := Rd.at_ K.2.2.1 hlt
      simp only [in64] at c1
      by_cases h1 : g k < -524288
      · have HK := Lib.hid K
        clear K
        generalize g k = u at *
        go_wp2_with fail
        refine (alive07 _).mono ?_
        rintro e w6 ⟨rfl, hb⟩
        have L := Below.trans HK.out.2.2.2.1 (hb.mono HK.out.2.2.2.1.size)
        go_wp2
        go_ret
        exact ⟨rfl, L⟩
      · by_cases h2 : 524288 < g k
        · have HK := Lib.hid K
          clear K
          generalize g k = u at *
          go_wp2_with fail
          refine (alive07 _).mono ?_
          rintro e w6 ⟨rfl, hb⟩
          have L := Below.trans HK.out.2.2.2.1 (hb.mono HK.out.2.2.2.1.size)
          go_wp2
          go_ret
          exact ⟨rfl, L⟩
        · have k5 := Row.cell K.2.1 hlt
          have f5 := Row.frozen K.2.1 k
          have k6 := Row.cell K.1 hlt
          have f6 := Row.frozen K.1 k
          have HWN := Lib.hid (show Wi 524288 (k + 1) g from fun i hi => by
            by_cases e : i = k
            · subst e; omega
            · exact HW.out i (by omega))
          have HK := Lib.hid K
          have HOK := Lib.hid (HOF.out b6 (by omega))
          have HOK2 := Lib.hid (HOF.out w.heap.size (by omega))
          clear K
          have nb1 : bA ≠ w.heap.size := by omega
          have nb2 : b6 ≠ w.heap.size := by omega
          have nb3 : w.heap.size ≠ b6 := by omega
          have nb4 : w.heap.size ≠ bA := by omega
          generalize hgk : g k = u at *
          have HGK := Lib.hid hgk
          clear hgk
          go_wp2
          go_roundw
          case rel =>
            refine ⟨k + 1, by omega, by go_num, HWN.out, ?_⟩
            have K1 := Kn.setRowS HK.out.swap k (.int .i64 v) ⟨by show b6 ≠ w.heap.size; omega, HOK2.out⟩
            have K2 := Kn.setRowS K1.swap k (.int .i64 (u + v)) ⟨by show w.heap.size ≠ b6; omega, HOK.out⟩
            refine ⟨K2.1.congr (fun i hi => ?_), Row.congr K2.2.1 (fun i hi => ?_), K2.2.2⟩
            · simp only [in64]
              by_cases e1 : i = k
              · subst e1; simp [HGK.out]
              · by_cases e2 : i < k
                · simp [e1, e2, show i < k + 1 by omega]
                · simp [e1, e2, show ¬ i < k + 1 by omega]
            · simp only [in64]
              by_cases e1 : i = k
              · subst e1; simp
              · by_cases e2 : i < k
                · simp [e1, e2, show i < k + 1 by omega]
                · simp [e1, e2, show ¬ i < k + 1 by omega]
          case measure => simp [intOf]; omega
    · obtain rfl : k = 16 := by omega
      have HB1 := Lib.hid (okB_iff.2 (okB_of (M := 1048576) (n := 16) (g := fun _ => v) (.inl rfl) (fun i hi => by first | omega | (dsimp only; omega))))
      have HB2 := Lib.hid (okB_iff.2 (okB_of (M := 1048576) (n := 16) (g := g) (.inl rfl) (fun i hi => by have := HW.out i hi; omega)))
      have HB3 := Lib.hid (okB_iff.2 (okB_of (M := 1048576) (n := 16) (g := fun i => g i + v) (.inl rfl) (fun i hi => by have := HW.out i hi; first | omega | (dsimp only; omega))))
      have hadd := Lib.hid (fwV_add (v := v) (g := g) (.inl rfl))
      have hflat := Lib.hid (fwV_flat (v := v) (.inl rfl))
      have HY := Lib.hid (fun i (hi : i < 16) => (fwV_bdx (.inl rfl) (M := 524288) (by omega) HW.out i hi))
      have K : Kn wr [.rd (some ⟨b6, 0, none⟩) 16 (in64 fun i => g i + v), .rd (some ⟨w.heap.size, 0, none⟩) 16 (in64 fun _ => v), .rd (some ⟨bA, oA, none⟩) 16 (in64 g), .since w] := ⟨(Row.rd K.1).congr (fun i hi => by simp only [in64]; rw [if_pos hi]), (Row.rd K.2.1).congr (fun i hi => by simp only [in64]; rw [if_pos hi]), K.2.2⟩
      have k1 : okN true 16 = 16 := rfl
      have k2 : okK true = 0 := rfl
      clear hk hlt
      go_wp2_with fail
      refine (lforward_any _ 16 16 (fun _ => v) _ K.2.1).mono ?_
      rintro e w6 ⟨A7, c7, rfl, hR7, _, _, _, hb⟩
      rw [HB1.out, k1] at hR7
      rw [HB1.out, k1, k2]
      replace K := (K.below hb).add (x := .rd A7 16 (in64 (fwV 16 fun _ => v))) hR7
      obtain ⟨b7, o7, rfl, -, -⟩ := Rd.some_ hR7 (by omega)
      clear hb hR7
      go_wp2_with fail
      refine (lforward_any _ 16 c g _ K.2.2.2.1).mono ?_
      rintro e w7 ⟨A8, c8, rfl, hR8, _, _, _, hb⟩
      rw [HB2.out, k1] at hR8
      rw [HB2.out, k1, k2]
      replace K := (K.below hb).add (x := .rd A8 16 (in64 (fwV 16 g))) hR8
      obtain ⟨b8, o8, rfl, -, -⟩ := Rd.some_ hR8 (by omega)
      clear hb hR8
      go_wp2_with fail
      refine (lforward_any _ 16 c5 (fun i => g i + v) _ K.2.2.1).mono ?_
      rintro e w8 ⟨A9, c9, rfl, hR9, _, _, _, hb⟩
      rw [HB3.out, k1] at hR9
      rw [HB3.out, k1, k2]
      replace K := (K.below hb).add (x := .rd A9 16 (in64 (fwV 16 fun i => g i + v))) hR9
      obtain ⟨b9, o9, rfl, -, -⟩ := Rd.some_ hR9 (by omega)
      clear hb hR9 k1 k2
      have HK := Lib.hid (show Kn w8 [.rd (some ⟨b9, o9, none⟩) 16 (in64 (fwV 16 fun i => g i + v)), .rd (some ⟨b8, o8, none⟩) 16 (in64 (fwV 16 g)), .rd (some ⟨b7, o7, none⟩) 16 (in64 (fwV 16 fun _ => v)), .since w] from ⟨K.1, K.2.1, K.2.2.1, K.2.2.2.2.2.2.1, trivial⟩)
      clear K
      go_wp2
      go_loopw [14] (fun i wr => ∃ t : Nat, 1 ≤ t ∧ t ≤ 16 ∧ i = .int .i64 t ∧ Kn wr [.rd (some ⟨b9, o9, none⟩) 16 (in64 (fwV 16 fun i => g i + v)), .rd (some ⟨b8, o8, none⟩) 16 (in64 (fwV 16 g)), .rd (some ⟨b7, o7, none⟩) 16 (in64 (fwV 16 fun _ => v)), .since w]) (fun i _ => 16 - (intOf i).toNat)
      case atStart => exact ⟨1, by omega, by omega, rfl, HK.out⟩
      case round =>
        obtain ⟨t, ht1, ht, rfl, K⟩ := hrel
        clear HK
        by_cases hlt : t < 16
        · have c1 := Rd.at_ K.1 hlt
          have c2 := Rd.at_ K.2.1 hlt
          have c3 := Rd.at_ K.2.2.1 hlt
          simp only [in64] at c1 c2 c3
          rw [hadd.out t hlt, if_neg (show ¬ t = 0 by omega), Int.add_zero] at c1
          rw [hflat.out t hlt, if_neg (show ¬ t = 0 by omega)] at c3
          have HK := Lib.hid K
          clear K
          generalize fwV 16 g t = u at *
          have q1 : (u != u) = false := by simp
          have lt1 : (t : Int) < 16 := by omega
          go_wp2
          go_quiet (fail)
          go_wp2
          go_roundw
          case rel => exact ⟨t + 1, by omega, by omega, by go_num, HK.out.drewN _⟩
          case measure => simp [intOf]; omega
        · obtain rfl : t = 16 := by omega
          have y0 := HY.out 0 (by omega)
          have ha := hadd.out 0 (by omega)
          have hf := hflat.out 0 (by omega)
          rw [if_pos rfl] at ha hf
          have HV := Lib.hid (And.intro ha hf)
          generalize hu : fwV 16 g 0 = u at *
          have HU := Lib.hid hu
          clear hu ha hf
          go_wp2_with fail
          have K := Kn.drew K
          have z1 : IntKind.i64.wrap (u + v) = u + v := IntWalk.i64_in _ (by omega)
          refine wp_region_allX (fun w' => Kn w' _) [0] [(0,2),(1,1),(2,1),(3,1),(4,1),(5,1),(6,1),(7,1),(8,1),(9,1),(10,1),(11,1),(12,1),(13,1),(14,1),(15,1),(16,1),(17,1),(18,1),(19,0)] (by kernel_rfl) (by kernel_rfl) (fun _ _ d _ _ h => by cases d <;> exact h) (K) ?_
          generalize World.drew _ = wd at K ⊢
          refine oX_doG rfl rfl (fun KK hKK => ?_)
          go_simp
          refine (alive07 _).mono ?_
          rintro e w5 ⟨rfl, hb5⟩
          replace K := K.below hb5
          refine hKK (fun w' => Kn w' _) _ _ ?hsub K ?_
          case hsub => exact fun _ h => h
          clear hKK KK hb5
          repeat (first | (refine oX_freeG rfl rfl (fun w' hS => by have c1 := Rd.at_ hS.1 (show 0 < 16 by omega); have c2 := Rd.at_ hS.2.1 (show 0 < 16 by omega); have c3 := Rd.at_ hS.2.2.1 (show 0 < 16 by omega); simp only [in64, Nat.add_zero, HV.out.1, HV.out.2, HU.out] at c1 c2 c3; clear hS; go_simp; with_reducible rfl) ?_; go_simp) | (refine oX_skipG rfl rfl ?_; go_simp))
          repeat (refine oX_still rfl (fun KK hKK => ?_); go_simp; refine hKK _ ?_; clear hKK KK)
          refine oX_nil ?_
          have L : Below _ _ _ := K.2.2.2.1
          clear K z1
          go_wp2
          go_ret
          exact ⟨rfl, L⟩
set_option maxRecDepth 100000 in
set_option maxHeartbeats 8000000 in
theorem walk_64 (w : World) (A : Option Addr) (c : Nat) (g : Nat → Int) (v : Int) (hA : Rd w A 64 (in64 g)) (hv1 : -524288 ≤ v) (hv2 : v ≤ 524288) :
    Calls Try.prog 11 #[.slice A 64 c, .int .i64 v] w fun e w' => e = .returned (.bool true) ∧ Below w.heap.size w w' := by
  obtain ⟨i0, hi0, hz0, hz1, hz2⟩ := parts_i64
  have HI := Lib.hid hi0
  clear hi0
  have hmk : ∀ w, (Instr.makeSlice 55 (.int .i64 64) (.int .i64 64)).run Try.prog w = .ok (.slice (some ⟨w.heap.size, 0, none⟩) 64 64) (w.alloc (.cells (madeCells #[.int .i64 0] 64) 3)) := make_i64 64 (by omega)
  have K := (Kn.start w).add (x := .rd A 64 (in64 g)) hA
  have HOF := Lib.hid (fun b (hb : w.heap.size ≤ b) => K.offS (b := b) hb)
  obtain ⟨bA, oA, rfl, hbA, -⟩ := Rd.some_ hA (by omega)
  clear hA
  have v1 : ¬ v < -524288 := by omega
  have v2 : ¬ 524288 < v := by omega
  have K := K.make w.heap.size (.int .i64 0) 64 3 rfl
  have hRA : Rd (w.alloc (.cells (madeCells #[.int .i64 0] 64) 3)) (some ⟨bA, oA, none⟩) 64 (in64 g) := K.2.1
  go_enter Try.func11, Try.ntmps11
  have hRA2 : Rd ((w.alloc (.cells (madeCells #[.int .i64 0] 64) 3)).alloc (.cells #[] 3)) (some ⟨bA, oA, none⟩) 64 (in64 g) := hRA.alloc _
  have hOE : OwnS ((w.alloc (.cells (madeCells #[.int .i64 0] 64) 3)).alloc (.cells #[] 3)) (w.heap.size + 1) 3 (some ⟨w.heap.size + 1, 0, none⟩) 0 0 (in64 g) := OwnS.empty _ 3 _ (by simp) (Nat.le_refl _)
  have hNo : some (⟨bA, oA, none⟩ : Addr) = none → 64 = 0 := fun h => by cases h
  go_wp2_with (at_builtin; refine wpList_appM rfl (.tmp 35) (.tmp 36) rfl Try.underlying55 HI.out hz0 hz1 hz2 rfl rfl rfl hOE hRA2 hNo (fun _ => rfl) ?_ ?_ ?_ ?_; rotate_right; intro A5 c5 w5 bo hO5 hbo hb5)
  rotate_left
  · unfold maxLen; omega
  rw [Nat.zero_add] at hO5
  obtain ⟨b6, rfl, hb6, hr6, hc6⟩ := OwnS.row hO5 (by omega)
  have hcap := (OwnS.cap hO5).2
  have hOF5 := HOF.out bo (by omega)
  have HK := Lib.hid (show Kn w5 [.row b6 64 (in64 fun i => if i < 0 then g i + v else g i), .row w.heap.size 64 (in64 fun i => if i < 0 then v else 0), .rd (some ⟨bA, oA, none⟩) 64 (in64 g), .since w] from ⟨hr6.congr (fun i _ => by simp [in64]), (Row.oth (Row.alloc K.1 _) hb5 (by omega)).congr (fun i _ => by simp [in64]), (Kn.othS (K.2.alloc _) hb5 hOF5)⟩)
  have hbs : w.heap.size < w5.heap.size := by have := hb5.size; simp at this; omega
  clear hO5 hb5 hr6 K hRA hRA2 hOE hNo hOF5
  go_wp2
  go_loopw [7] (fun i wr => ∃ k : Nat, k ≤ 64 ∧ i = .int .i64 k ∧ Wi 524288 k g ∧ Kn wr [.row b6 64 (in64 fun i => if i < k then g i + v else g i), .row w.heap.size 64 (in64 fun i => if i < k then v else 0), .rd (some ⟨bA, oA, none⟩) 64 (in64 g), .since w]) (fun i _ => 64 - (intOf i).toNat)
  case atStart => exact ⟨0, by omega, rfl, fun i hi => by omega, HK.out⟩
  case round =>
    obtain ⟨k, hk, rfl, hw, K⟩ := hrel
    clear HK
    have HW := Lib.hid hw
    clear hw
    by_cases hlt : k < 64
    · have c1 := Rd.at_ K.2.2.1 hlt
      simp only [in64] at c1
      by_cases h1 : g k < -524288
      · have HK := Lib.hid K
        clear K
        generalize g k = u at *
        go_wp2_with fail
        refine (alive07 _).mono ?_
        rintro e w6 ⟨rfl, hb⟩
        have L := Below.trans HK.out.2.2.2.1 (hb.mono HK.out.2.2.2.1.size)
        go_wp2
        go_ret
        exact ⟨rfl, L⟩
      · by_cases h2 : 524288 < g k
        · have HK := Lib.hid K
          clear K
          generalize g k = u at *
          go_wp2_with fail
          refine (alive07 _).mono ?_
          rintro e w6 ⟨rfl, hb⟩
          have L := Below.trans HK.out.2.2.2.1 (hb.mono HK.out.2.2.2.1.size)
          go_wp2
          go_ret
          exact ⟨rfl, L⟩
        · have k5 := Row.cell K.2.1 hlt
          have f5 := Row.frozen K.2.1 k
          have k6 := Row.cell K.1 hlt
          have f6 := Row.frozen K.1 k
          have HWN := Lib.hid (show Wi 524288 (k + 1) g from fun i hi => by
            by_cases e : i = k
            · subst e; omega
            · exact HW.out i (by omega))
          have HK := Lib.hid K
          have HOK := Lib.hid (HOF.out b6 (by omega))
          have HOK2 := Lib.hid (HOF.out w.heap.size (by omega))
          clear K
          have nb1 : bA ≠ w.heap.size := by omega
          have nb2 : b6 ≠ w.heap.size := by omega
          have nb3 : w.heap.size ≠ b6 := by omega
          have nb4 : w.heap.size ≠ bA := by omega
          generalize hgk : g k = u at *
          have HGK := Lib.hid hgk
          clear hgk
          go_wp2
          go_roundw
          case rel =>
            refine ⟨k + 1, by omega, by go_num, HWN.out, ?_⟩
            have K1 := Kn.setRowS HK.out.swap k (.int .i64 v) ⟨by show b6 ≠ w.heap.size; omega, HOK2.out⟩
            have K2 := Kn.setRowS K1.swap k (.int .i64 (u + v)) ⟨by show w.heap.size ≠ b6; omega, HOK.out⟩
            refine ⟨K2.1.congr (fun i hi => ?_), Row.congr K2.2.1 (fun i hi => ?_), K2.2.2⟩
            · simp only [in64]
              by_cases e1 : i = k
              · subst e1; simp [HGK.out]
              · by_cases e2 : i < k
                · simp [e1, e2, show i < k + 1 by omega]
                · simp [e1, e2, show ¬ i < k + 1 by omega]
            · simp only [in64]
              by_cases e1 : i = k
              · subst e1; simp
              · by_cases e2 : i < k
                · simp [e1, e2, show i < k + 1 by omega]
                · simp [e1, e2, show ¬ i < k + 1 by omega]
          case measure => simp [intOf]; omega
    · obtain rfl : k = 64 := by omega
      have HB1 := Lib.hid (okB_iff.2 (okB_of (M := 1048576) (n := 64) (g := fun _ => v) (.inr rfl) (fun i hi => by first | omega | (dsimp only; omega))))
      have HB2 := Lib.hid (okB_iff.2 (okB_of (M := 1048576) (n := 64) (g := g) (.inr rfl) (fun i hi => by have := HW.out i hi; omega)))
      have HB3 := Lib.hid (okB_iff.2 (okB_of (M := 1048576) (n := 64) (g := fun i => g i + v) (.inr rfl) (fun i hi => by have := HW.out i hi; first | omega | (dsimp only; omega))))
      have hadd := Lib.hid (fwV_add (v := v) (g := g) (.inr rfl))
      have hflat := Lib.hid (fwV_flat (v := v) (.inr rfl))
      have HY := Lib.hid (fun i (hi : i < 64) => (fwV_bdx (.inr rfl) (M := 524288) (by omega) HW.out i hi))
      have K : Kn wr [.rd (some ⟨b6, 0, none⟩) 64 (in64 fun i => g i + v), .rd (some ⟨w.heap.size, 0, none⟩) 64 (in64 fun _ => v), .rd (some ⟨bA, oA, none⟩) 64 (in64 g), .since w] := ⟨(Row.rd K.1).congr (fun i hi => by simp only [in64]; rw [if_pos hi]), (Row.rd K.2.1).congr (fun i hi => by simp only [in64]; rw [if_pos hi]), K.2.2⟩
      have k1 : okN true 64 = 64 := rfl
      have k2 : okK true = 0 := rfl
      clear hk hlt
      go_wp2_with fail
      refine (lforward_any _ 64 64 (fun _ => v) _ K.2.1).mono ?_
      rintro e w6 ⟨A7, c7, rfl, hR7, _, _, _, hb⟩
      rw [HB1.out, k1] at hR7
      rw [HB1.out, k1, k2]
      replace K := (K.below hb).add (x := .rd A7 64 (in64 (fwV 64 fun _ => v))) hR7
      obtain ⟨b7, o7, rfl, -, -⟩ := Rd.some_ hR7 (by omega)
      clear hb hR7
      go_wp2_with fail
      refine (lforward_any _ 64 c g _ K.2.2.2.1).mono ?_
      rintro e w7 ⟨A8, c8, rfl, hR8, _, _, _, hb⟩
      rw [HB2.out, k1] at hR8
      rw [HB2.out, k1, k2]
      replace K := (K.below hb).add (x := .rd A8 64 (in64 (fwV 64 g))) hR8
      obtain ⟨b8, o8, rfl, -, -⟩ := Rd.some_ hR8 (by omega)
      clear hb hR8
      go_wp2_with fail
      refine (lforward_any _ 64 c5 (fun i => g i + v) _ K.2.2.1).mono ?_
      rintro e w8 ⟨A9, c9, rfl, hR9, _, _, _, hb⟩
      rw [HB3.out, k1] at hR9
      rw [HB3.out, k1, k2]
      replace K := (K.below hb).add (x := .rd A9 64 (in64 (fwV 64 fun i => g i + v))) hR9
      obtain ⟨b9, o9, rfl, -, -⟩ := Rd.some_ hR9 (by omega)
      clear hb hR9 k1 k2
      have HK := Lib.hid (show Kn w8 [.rd (some ⟨b9, o9, none⟩) 64 (in64 (fwV 64 fun i => g i + v)), .rd (some ⟨b8, o8, none⟩) 64 (in64 (fwV 64 g)), .rd (some ⟨b7, o7, none⟩) 64 (in64 (fwV 64 fun _ => v)), .since w] from ⟨K.1, K.2.1, K.2.2.1, K.2.2.2.2.2.2.1, trivial⟩)
      clear K
      go_wp2
      go_loopw [14] (fun i wr => ∃ t : Nat, 1 ≤ t ∧ t ≤ 64 ∧ i = .int .i64 t ∧ Kn wr [.rd (some ⟨b9, o9, none⟩) 64 (in64 (fwV 64 fun i => g i + v)), .rd (some ⟨b8, o8, none⟩) 64 (in64 (fwV 64 g)), .rd (some ⟨b7, o7, none⟩) 64 (in64 (fwV 64 fun _ => v)), .since w]) (fun i _ => 64 - (intOf i).toNat)
      case atStart => exact ⟨1, by omega, by omega, rfl, HK.out⟩
      case round =>
        obtain ⟨t, ht1, ht, rfl, K⟩ := hrel
        clear HK
        by_cases hlt : t < 64
        · have c1 := Rd.at_ K.1 hlt
          have c2 := Rd.at_ K.2.1 hlt
          have c3 := Rd.at_ K.2.2.1 hlt
          simp only [in64] at c1 c2 c3
          rw [hadd.out t hlt, if_neg (show ¬ t = 0 by omega), Int.add_zero] at c1
          rw [hflat.out t hlt, if_neg (show ¬ t = 0 by omega)] at c3
          have HK := Lib.hid K
          clear K
          generalize fwV 64 g t = u at *
          have q1 : (u != u) = false := by simp
          have lt1 : (t : Int) < 64 := by omega
          go_wp2
          go_quiet (fail)
          go_wp2
          go_roundw
          case rel => exact ⟨t + 1, by omega, by omega, by go_num, HK.out.drewN _⟩
          case measure => simp [intOf]; omega
        · obtain rfl : t = 64 := by omega
          have y0 := HY.out 0 (by omega)
          have ha := hadd.out 0 (by omega)
          have hf := hflat.out 0 (by omega)
          rw [if_pos rfl] at ha hf
          have HV := Lib.hid (And.intro ha hf)
          generalize hu : fwV 64 g 0 = u at *
          have HU := Lib.hid hu
          clear hu ha hf
          go_wp2_with fail
          have K := Kn.drew K
          have z1 : IntKind.i64.wrap (u + v) = u + v := IntWalk.i64_in _ (by omega)
          refine wp_region_allX (fun w' => Kn w' _) [0] [(0,2),(1,1),(2,1),(3,1),(4,1),(5,1),(6,1),(7,1),(8,1),(9,1),(10,1),(11,1),(12,1),(13,1),(14,1),(15,1),(16,1),(17,1),(18,1),(19,0)] (by kernel_rfl) (by kernel_rfl) (fun _ _ d _ _ h => by cases d <;> exact h) (K) ?_
          generalize World.drew _ = wd at K ⊢
          refine oX_doG rfl rfl (fun KK hKK => ?_)
          go_simp
          refine (alive07 _).mono ?_
          rintro e w5 ⟨rfl, hb5⟩
          replace K := K.below hb5
          refine hKK (fun w' => Kn w' _) _ _ ?hsub K ?_
          case hsub => exact fun _ h => h
          clear hKK KK hb5
          repeat (first | (refine oX_freeG rfl rfl (fun w' hS => by have c1 := Rd.at_ hS.1 (show 0 < 64 by omega); have c2 := Rd.at_ hS.2.1 (show 0 < 64 by omega); have c3 := Rd.at_ hS.2.2.1 (show 0 < 64 by omega); simp only [in64, Nat.add_zero, HV.out.1, HV.out.2, HU.out] at c1 c2 c3; clear hS; go_simp; with_reducible rfl) ?_; go_simp) | (refine oX_skipG rfl rfl ?_; go_simp))
          repeat (refine oX_still rfl (fun KK hKK => ?_); go_simp; refine hKK _ ?_; clear hKK KK)
          refine oX_nil ?_
          have L : Below _ _ _ := K.2.2.2.1
          clear K z1
          go_wp2
          go_ret
          exact ⟨rfl, L⟩
theorem walk (w : World) (A : Option Addr) (n c : Nat) (g : Nat → Int) (hA : Rd w A n (in64 g)) (hg : ∀ i, I64 (g i)) (hc : n ≤ c) (hc2 : c ≤ 9223372036854775807) (v : Int) (hv : I64 v) :
    Calls Try.prog 11 #[.slice A n c, .int .i64 v] w fun e w' => e = .returned (.bool true) ∧ Below w.heap.size w w' := by
  by_cases hn : n = 16 ∨ n = 64
  · by_cases h1 : v < -524288
    · exact walk_no w A n c v (.inr (.inl ⟨hn, h1⟩))
    · by_cases h2 : 524288 < v
      · exact walk_no w A n c v (.inr (.inr ⟨hn, h1, h2⟩))
      · rcases hn with rfl | rfl
        · exact walk_16 w A c g v hA (by omega) (by omega)
        · exact walk_64 w A c g v hA (by omega) (by omega)
  · exact walk_no w A n c v (.inl (by omega))
end LiftFlat
namespace LiftFlat
set_option maxRecDepth 100000 in
theorem lifted (os : Os) (started : os.Started) (H : Type) (enc : TypeId × Value → H) :
    ReturnsInHanded {} Try.checked os 11 .any (Rows.liftFlatSpec.pre6 enc Try.prog Try.f11 Rows.liftFlatRow.domain false) (Rows.liftFlatSpec.post enc Try.prog Try.f11 false true false false) := by
  refine returnsInHanded_of_change (C := Try.checked) own started (by kernel_rfl) Try.func11
    (ChangeSpec.witness6 (enc := enc) (C := Try.checked) false ⟨#[], #[.slice none 0 0, .int .i64 0], []⟩ 8 (by kernel_rfl) (by kernel_rfl) (by kernel_rfl) (by kernel_rfl)) ?_
  intro W base args ds gs before hval0 hW hcnd _
  have hval : ∀ (j : Nat) t v, Try.f11.params[j]? = some t → args[j]? = some v → Value.okWide Try.prog W .any base t v := hval0
  refine law_post (tb := 4) laidOut (by kernel_rfl) rfl Try.underlying4 rfl (fun ds' h => ?_) hW ?_
  · rw [Try.params11] at h
    match ds', h with
    | [d1, d2], _ => exact ⟨rfl, rfl, rfl⟩
  obtain ⟨p, q, hA0, hV, rfl, hfz, hnd⟩ := hW
  have hA : DataW.TrodAll enc Try.prog W 0 (fun _ => true) true Try.f11.params.toList args.toList ds p := hA0
  rw [Try.params11] at hA hval
  obtain ⟨v0, vs0, d0, ds0, p0, q0, hargs, rfl, rfl, h0, r0⟩ := trodAll_cons hA
  obtain ⟨v1, vs1, d1, ds1, p1, q1, rfl, rfl, rfl, h1, r1⟩ := trodAll_cons r0
  obtain ⟨rfl, rfl, rfl⟩ := trodAll_nil r1
  obtain rfl : args = #[v0, v1] := by cases args; simp_all
  obtain ⟨A0, n0, c0, g0, rfl, rr0, t0, l0, m0⟩ := open_intsl Try.underlying55 Try.underlying3 (by kernel_rfl) (hval 0 55 v0 rfl rfl) h0
  obtain ⟨a1, rfl, rfl, rfl, w1⟩ := open_int Try.underlying3 (hval 1 3 v1 rfl rfl) h1
  exact walk W A0 n0 c0 g0 rr0 t0 l0 m0 a1 (bounds_i64 w1)
theorem over : Rows.liftFlatRow.holds Try.pinned (OpenSpec.ofChange Rows.liftFlatSpec) :=
  OpenClaim.holds_of_wide 11 Try.f11 rfl rfl rfl rfl rfl rfl rfl ⟨rfl, rfl, rfl, rfl, rfl⟩ rfl rfl rfl rfl rfl (by kernel_rfl) Try.func11 (by kernel_rfl)
    (of_decide_eq_true (by kernel_rfl)) (by unfold Func.isWrapper; first | (rw [if_pos (by decide +kernel)]; kernel_rfl) | (rw [if_neg (by decide +kernel)]; exact ⟨rfl, rfl⟩))
    (fun os started H enc _ => lifted os started H enc)
end LiftFlat
theorem liftFlat_holds : Rows.LiftFlatSaid := LiftFlat.over

end Go.Proofs.Ytfooglenhepogaa
