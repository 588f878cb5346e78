/- Walks of package lift: what is done with each line; rows and columns of a block of side 8. -/
import Derived.Test.YtfooglenhepogaaLf3

namespace Go.Proofs.Ytfooglenhepogaa
open Go.RowKit Go.Kin
set_option linter.unusedVariables false
set_option maxRecDepth 100000 in
set_option maxHeartbeats 4000000 in
theorem rows_8 (bk : Bool) (b q c : Nat) (g : Nat → Int) (M : Int) (w : World) (hR : Row w b 64 (in64 g)) (hq : Box w q #[.int .i64 8]) (hbq : b ≠ q) (hM0 : 1 ≤ M) (hM : M ≤ 300000000) (hW : Wi M 64 g) (hc : 64 ≤ c) (hc2 : c ≤ 9223372036854775807) :
    Calls Try.prog 51 #[.slice (some ⟨b, 0, none⟩) 64 c, .int .i64 8, .func (.func (doF bk)) #[] #[.pointer (some ⟨q, 0, none⟩)]] w fun e w' => e = .returned (.tuple #[]) ∧ Row w' b 64 (in64 (byRow 8 (lin bk 3) g)) ∧ Oth b w w' := by
  have hlb := Row.lt hR
  have HR := Lib.hid hR
  have HQ := Lib.hid hq
  have HW := Lib.hid hW
  clear hR hq hW
  have he := do_enter bk
  go_enter Try.func51, Try.ntmps51
  go_wp2
  go_loopw [9] (fun i wr => ∃ y : Nat, y ≤ 8 ∧ i = .int .i64 y ∧ Row wr b 64 (in64 fun s => if s < y * 8 then byRow 8 (lin bk 3) g s else g s) ∧ Oth b w wr) (fun i _ => 8 - (intOf i).toNat)
  case atStart => exact ⟨0, by omega, rfl, HR.out.congr (fun i _ => by simp), Oth.refl _ _⟩
  case round =>
    obtain ⟨y, hy, rfl, hR, ho⟩ := hrel
    clear HR
    obtain ⟨wo, rfl⟩ : ∃ wo : World, wo = wr := ⟨_, rfl⟩
    by_cases hlt : y < 8
    · have hsr : w.heap.size ≤ wo.heap.size := ho.size
      have hlb' : b < wo.heap.size := by omega
      have hlq : q < wo.heap.size := Nat.lt_of_lt_of_le (Box.lt HQ.out) hsr
      have HK := Lib.hid (And.intro (ho.alloc zline) (show Kn (wo.alloc zline) [.mr wo.heap.size 8 (in64 fun _ => 0), .row b 64 (in64 fun s => if s < y * 8 then byRow 8 (lin bk 3) g s else g s), .box q #[.int .i64 8]] from (show Kn wo [.row b 64 (in64 fun s => if s < y * 8 then byRow 8 (lin bk 3) g s else g s), .box q #[.int .i64 8]] from ⟨hR, HQ.out.oth ho (by omega), trivial⟩).new wo.heap.size #[.int .i64 0, .int .i64 0, .int .i64 0, .int .i64 0, .int .i64 0, .int .i64 0, .int .i64 0, .int .i64 0] 90 rfl))
      clear hR ho
      have d0 : (0 : Int) ≤ (y : Int) * 8 := by omega
      have d1 : (y : Int) * 8 + 8 ≤ c := by omega
      have d2 : (y : Int) * 8 ≤ (y : Int) * 8 + 8 := by omega
      have d3 : ¬ (c : Nat) = y * 8 := by omega
      have d4 : (0 : Int) ≤ (y : Int) * 8 + 8 := by omega
      have t1 : ((y : Int) * 8).toNat = y * 8 := by omega
      have t2 : ((y : Int) * 8 + 8).toNat = y * 8 + 8 := by omega
      have t3 : y * 8 + 8 - y * 8 = 8 := by omega
      have z1 : IntKind.i64.wrap ((y : Int) * 8) = y * 8 := IntWalk.i64_in _ (by omega)
      have z2 : IntKind.i64.wrap ((y : Int) * 8 + 8) = y * 8 + 8 := IntWalk.i64_in _ (by omega)
      go_wp2
      generalize wo.alloc zline = wa at *
      have K := HK.out.2
      obtain ⟨wq, hrun, hR, hq⟩ := run_copyX (P := Try.prog) (w := wa.drew) (dT := 55) (sT := 55) (ty := 3) (elem := 3) (off := 0) (dLen := 8) (dCap := 8) (sLen := 8) (sCap := c - y * 8) (A := some ⟨b, y * 8, none⟩) (h := in64 fun s => g (y * 8 + s)) Try.underlying55 size_i64 (Box.drew K.1) (fun _ => ⟨b, y * 8, rfl, fun i hi => ((Row.drew K.2.1).cell (show y * 8 + i < 64 by omega)).trans (by simp only [in64]; rw [if_neg (by omega)])⟩) (fun _ => rfl) (by omega)
      rw [show min 8 8 = 8 from rfl] at hrun hR
      refine wp_region_allH (fun _ => True) [12] [(0,1),(1,1),(2,1),(3,1),(4,1),(5,1),(6,1),(7,1),(8,1),(9,1),(10,1),(11,1),(12,2)] (by kernel_rfl) (by kernel_rfl) (fun _ _ d _ _ h => by cases d <;> exact h) (trivial) ?_
      repeat (refine oH_free rfl (fun w' hS => by skip; clear hS; go_simp; with_reducible rfl) ?_; go_simp)
      refine oH_do rfl (fun KK hKK => ?_)
      go_simp
      refine hKK _ _ ⟨trivial, ?_⟩
      clear hKK KK hrun
      refine oH_nil ?_
      have K1 : Kn wq [.mr wo.heap.size 8 (in64 fun s => if s < 8 then g (y * 8 + s) else 0), .row b 64 (in64 fun s => if s < y * 8 then byRow 8 (lin bk 3) g s else g s), .box q #[.int .i64 8]] := ⟨hR.mr (fun i hi => by simp only [in64]; by_cases e : i < 8 <;> simp [e]), (Row.drew K.2.1).oth hq (by omega), (Box.drew K.2.2.1).oth hq (by omega), trivial⟩
      have HO1 := Lib.hid (HK.out.1.drew.newer hq hsr)
      clear hR hq K HK
      have hwl : Wi M 8 (fun s => if s < 8 then g (y * 8 + s) else 0) := fun s hs => by
        dsimp only
        split
        · exact HW.out _ (by omega)
        · omega
      have HK1 := Lib.hid K1
      clear K1
      go_wp2_with fail
      refine (do_any bk 3 wo.heap.size q _ M _ HK1.out.1 HK1.out.2.2.1 (by omega) hM0 (by omega) hwl).mono ?_
      rintro e w3 ⟨rfl, hL, hoL⟩
      have HK3 := Lib.hid (And.intro (HO1.out.newer hoL hsr) (show Kn w3 [.mr wo.heap.size 8 (in64 (lin bk 3 fun s => if s < 8 then g (y * 8 + s) else 0)), .row b 64 (in64 fun s => if s < y * 8 then byRow 8 (lin bk 3) g s else g s), .box q #[.int .i64 8]] from ⟨hL, Row.oth HK1.out.2.1 hoL (by omega), Box.oth HK1.out.2.2.1 hoL (by omega), trivial⟩))
      clear hL hoL HK1 HO1 hwl
      go_wp2
      have K := HK3.out.2
      obtain ⟨wz, hrun, hR, hq⟩ := run_copyR (P := Try.prog) (w := w3.drew) (dT := 55) (sT := 55) (ty := 3) (elem := 3) (off := y * 8) (dLen := 8) (dCap := c - y * 8) (sLen := 8) (sCap := 8) Try.underlying55 size_i64 (Row.drew K.2.1) (Box.rd (Box.drew K.1) (fun i hi => mkR_at (show i < 8 by omega))) (fun _ => rfl) (by omega)
      rw [show min 8 8 = 8 from rfl] at hrun hR
      refine wp_region_allH (fun _ => True) [12] [(0,1),(1,1),(2,1),(3,1),(4,1),(5,1),(6,1),(7,1),(8,1),(9,1),(10,1),(11,1),(12,2)] (by kernel_rfl) (by kernel_rfl) (fun _ _ d _ _ h => by cases d <;> exact h) (trivial) ?_
      repeat (refine oH_free rfl (fun w' hS => by skip; clear hS; go_simp; with_reducible rfl) ?_; go_simp)
      refine oH_do rfl (fun KK hKK => ?_)
      go_simp
      refine hKK _ _ ⟨trivial, ?_⟩
      clear hKK KK hrun
      refine oH_nil ?_
      have HO2 := Lib.hid (HK3.out.1.drew.trans hq)
      have HR2 := Lib.hid hR
      clear hR hq K HK3 z1 z2 t1 t2 t3
      go_wp2
      go_roundw
      case rel =>
        refine ⟨y + 1, by omega, by go_num, HR2.out.congr (fun i hi => ?_), HO2.out⟩
        simp only [in64]
        by_cases e1 : y * 8 ≤ i ∧ i < y * 8 + 8
        · rw [if_pos e1, if_pos (by omega)]
          unfold byRow
          rw [show i / 8 = y by omega, show i % 8 = i - y * 8 by omega]
          congr 1
          exact lin_congr (k := 3) (fun j hj => by rw [if_pos (by omega)]) _ (by omega)
        · rw [if_neg e1]
          by_cases e2 : i < y * 8
          · rw [if_pos e2, if_pos (by omega)]
          · rw [if_neg e2, if_neg (by omega)]
      case measure => simp [intOf]; omega
    · obtain rfl : y = 8 := by omega
      have HX := Lib.hid (And.intro hR ho)
      clear hR ho
      go_wp2
      go_end0
      refine ⟨rfl, HX.out.1.congr (fun i hi => ?_), HX.out.2⟩
      simp only [in64]
      rw [if_pos (by omega)]
set_option maxRecDepth 100000 in
set_option maxHeartbeats 4000000 in
theorem columns_8 (bk : Bool) (b q c : Nat) (g : Nat → Int) (M : Int) (w : World) (hR : Row w b 64 (in64 g)) (hq : Box w q #[.int .i64 8]) (hbq : b ≠ q) (hM0 : 1 ≤ M) (hM : M ≤ 300000000) (hW : Wi M 64 g) (hc : 64 ≤ c) (hc2 : c ≤ 9223372036854775807) :
    Calls Try.prog 52 #[.slice (some ⟨b, 0, none⟩) 64 c, .int .i64 8, .func (.func (doF bk)) #[] #[.pointer (some ⟨q, 0, none⟩)]] w fun e w' => e = .returned (.tuple #[]) ∧ Row w' b 64 (in64 (byCol 8 (lin bk 3) g)) ∧ Oth b w w' := by
  have hlb := Row.lt hR
  have HR := Lib.hid hR
  have HQ := Lib.hid hq
  have HW := Lib.hid hW
  clear hR hq hW
  have he := do_enter bk
  go_enter Try.func52, Try.ntmps52
  go_wp2
  go_loopw [11] (fun i wr => ∃ x : Nat, x ≤ 8 ∧ i = .int .i64 x ∧ Row wr b 64 (in64 fun s => if s % 8 < x then byCol 8 (lin bk 3) g s else g s) ∧ Oth b w wr) (fun i _ => 8 - (intOf i).toNat)
  case atStart => exact ⟨0, by omega, rfl, HR.out.congr (fun i _ => by simp), Oth.refl _ _⟩
  case round =>
    obtain ⟨x, hx, rfl, hR, ho⟩ := hrel
    clear HR
    obtain ⟨wo, rfl⟩ : ∃ wo : World, wo = wr := ⟨_, rfl⟩
    by_cases hlt : x < 8
    · have hsr : w.heap.size ≤ wo.heap.size := ho.size
      have hlb' : b < wo.heap.size := by omega
      have hlq : q < wo.heap.size := Nat.lt_of_lt_of_le (Box.lt HQ.out) hsr
      have HK := Lib.hid (And.intro (ho.alloc zline) (show Kn (wo.alloc zline) [.mr wo.heap.size 8 (in64 fun s => if s < 0 then g (s * 8 + x) else 0), .row b 64 (in64 fun s => if s % 8 < x then byCol 8 (lin bk 3) g s else g s), .box q #[.int .i64 8]] from (show Kn wo [.row b 64 (in64 fun s => if s % 8 < x then byCol 8 (lin bk 3) g s else g s), .box q #[.int .i64 8]] from ⟨hR, HQ.out.oth ho (by omega), trivial⟩).new wo.heap.size #[.int .i64 0, .int .i64 0, .int .i64 0, .int .i64 0, .int .i64 0, .int .i64 0, .int .i64 0, .int .i64 0] 90 rfl))
      clear hR ho
      go_wp2
      go_loopw [15] (fun i wr => ∃ y : Nat, y ≤ 8 ∧ i = .int .i64 y ∧ Oth b w wr ∧ Kn wr [.mr wo.heap.size 8 (in64 fun s => if s < y then g (s * 8 + x) else 0), .row b 64 (in64 fun s => if s % 8 < x then byCol 8 (lin bk 3) g s else g s), .box q #[.int .i64 8]]) (fun i _ => 8 - (intOf i).toNat)
      case atStart => exact ⟨0, by omega, rfl, HK.out.1, HK.out.2⟩
      case round =>
        obtain ⟨y, hy, rfl, ho, K⟩ := hrel
        clear HK
        obtain ⟨wi, rfl⟩ : ∃ wi : World, wi = wr := ⟨_, rfl⟩
        by_cases hly : y < 8
        · have c1 := Row.cell K.2.1 (show y * 8 + x < 64 by omega)
          simp only [in64] at c1
          rw [if_neg (by omega)] at c1
          have kl := Box.lt K.1
          have kf := Box.frozen K.1 y
          have ke := (Box.cell K.1 y).trans (mkR_at (by omega))
          have d1 : (y : Int) * 8 + x < 64 := by omega
          have d0 : (0 : Int) ≤ (y : Int) * 8 + x := by omega
          have t1 : ((y : Int) * 8 + x).toNat = y * 8 + x := by omega
          have i3 : (y : Int) < 8 := by omega
          have HK := Lib.hid (And.intro ho K)
          clear ho K
          go_wp2
          go_roundw
          case rel =>
            refine ⟨y + 1, by omega, by go_num, HK.out.1.setNew (by show w.heap.size ≤ wo.heap.size; omega) _, ?_⟩
            have K1 := HK.out.2.setMr y (.int .i64 (g (y * 8 + x))) ⟨by simp [It.off]; omega, by simp [It.off]; omega, trivial⟩
            refine ⟨Box.mr K1.1 (fun s hs => ?_), K1.2⟩
            simp only [in64]
            by_cases e1 : s = y
            · subst e1; simp
            · by_cases e2 : s < y
              · simp [e1, e2, show s < y + 1 by omega]
              · simp [e1, e2, show ¬ s < y + 1 by omega]
          case measure => simp [intOf]; omega
        · obtain rfl : y = 8 := by omega
          have hwl : Wi M 8 (fun s => if s < 8 then g (s * 8 + x) else 0) := fun s hs => by
            dsimp only
            split
            · exact HW.out _ (by omega)
            · omega
          have HK1 := Lib.hid K
          have HO1 := Lib.hid ho
          clear ho K
          go_wp2_with fail
          refine (do_any bk 3 wo.heap.size q _ M _ HK1.out.1 HK1.out.2.2.1 (by omega) hM0 (by omega) hwl).mono ?_
          rintro e w3 ⟨rfl, hL, hoL⟩
          have hTL : ∀ j, j < 8 → lin bk 3 (fun s => if s < 8 then g (s * 8 + x) else 0) j = byCol 8 (lin bk 3) g (j * 8 + x) := fun j hj => by
            unfold byCol
            rw [show (j * 8 + x) / 8 = j by omega, show (j * 8 + x) % 8 = x by omega]
            exact lin_congr (k := 3) (fun s hs => by rw [if_pos (by omega)]) _ (by omega)
          have HT := Lib.hid hTL
          have HK3 := Lib.hid (And.intro (HO1.out.newer hoL hsr) (show Kn w3 [.row b 64 (in64 fun s => if s % 8 < x ∨ (s % 8 = x ∧ s / 8 < 0) then byCol 8 (lin bk 3) g s else g s), .mr wo.heap.size 8 (in64 (lin bk 3 fun s => if s < 8 then g (s * 8 + x) else 0)), .box q #[.int .i64 8]] from ⟨(Row.oth HK1.out.2.1 hoL (by omega)).congr (fun i hi => by simp), hL, Box.oth HK1.out.2.2.1 hoL (by omega), trivial⟩))
          clear hL hoL HK1 HO1 hwl hTL
          generalize lin bk 3 (fun s => if s < 8 then g (s * 8 + x) else 0) = tl at *
          go_wp2
          go_loopw [32] (fun i wr => ∃ y : Nat, y ≤ 8 ∧ i = .int .i64 y ∧ Oth b w wr ∧ Kn wr [.row b 64 (in64 fun s => if s % 8 < x ∨ (s % 8 = x ∧ s / 8 < y) then byCol 8 (lin bk 3) g s else g s), .mr wo.heap.size 8 (in64 tl), .box q #[.int .i64 8]]) (fun i _ => 8 - (intOf i).toNat)
          case atStart => exact ⟨0, by omega, rfl, HK3.out.1, HK3.out.2⟩
          case round =>
            obtain ⟨y, hy, rfl, ho, K⟩ := hrel
            clear HK3
            by_cases hly : y < 8
            · have c1 := (Box.cell K.2.1 y).trans (mkR_at (by omega))
              simp only [in64] at c1
              have kl := Row.lt K.1
              have kf := Row.frozen K.1 (y * 8 + x)
              have ke := Row.cell K.1 (show y * 8 + x < 64 by omega)
              have d1 : (y : Int) * 8 + x < 64 := by omega
              have d0 : (0 : Int) ≤ (y : Int) * 8 + x := by omega
              have t1 : ((y : Int) * 8 + x).toNat = y * 8 + x := by omega
              have i3 : (y : Int) < 8 := by omega
              have HK := Lib.hid (And.intro ho K)
              clear ho K
              go_wp2
              go_roundw
              case rel =>
                refine ⟨y + 1, by omega, by go_num, HK.out.1.set _ _, ?_⟩
                have K1 := HK.out.2.setRow (y * 8 + x) (.int .i64 (tl y)) ⟨by simp [It.off]; omega, by simp [It.off]; omega, trivial⟩
                refine K1.row (fun s hs => ?_)
                simp only [in64]
                by_cases e1 : s = y * 8 + x
                · subst e1
                  rw [if_pos rfl, if_pos (by omega), HT.out y hly]
                · rw [if_neg e1]
                  by_cases e2 : s % 8 < x ∨ (s % 8 = x ∧ s / 8 < y)
                  · rw [if_pos e2, if_pos (by omega)]
                  · rw [if_neg e2, if_neg (by omega)]
              case measure => simp [intOf]; omega
            · obtain rfl : y = 8 := by omega
              have HK := Lib.hid (And.intro ho K)
              clear ho K
              go_wp2
              go_roundw
              case rel =>
                refine ⟨x + 1, by omega, by go_num, HK.out.2.1.congr (fun s hs => ?_), HK.out.1⟩
                simp only [in64]
                by_cases e2 : s % 8 < x + 1
                · rw [if_pos e2, if_pos (by omega)]
                · rw [if_neg e2, if_neg (by omega)]
              case measure => simp [intOf]; omega
    · obtain rfl : x = 8 := by omega
      have HX := Lib.hid (And.intro hR ho)
      clear hR ho
      go_wp2
      go_end0
      refine ⟨rfl, HX.out.1.congr (fun i hi => ?_), HX.out.2⟩
      simp only [in64]
      rw [if_pos (by omega)]
end Go.Proofs.Ytfooglenhepogaa
