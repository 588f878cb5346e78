/- IntraAhead: a guess stays when the samples of the block, those right of it in its rows, and all below its first row but those left of it, are others: proved for every plane, place, size, mode and other samples, no condition. -/
import Derived.Test.YtcojphdohpgjnaaAl9
import Derived.Test.YtcojphdohpgjnaaIn15
import Derived.Test.YtcojphdohpgjnaaFt
import Derived.Test.YtcojphdohpgjnaaRg4
import Derived.Test.YtcojphdohpgjnaaKn8
import Derived.Test.YtcojphdohpgjnaaClose2
namespace Go.Kin
/-- What is behind is another. -/
def mixP (W X Y n : Nat) (g o : Nat → Int) (i : Nat) : Int := if Y ≤ i / W ∧ (X ≤ i % W ∨ Y + n ≤ i / W) then o i else g i
theorem row_at {W a b : Nat} (hb : b < W) : (a * W + b) / W = a ∧ (a * W + b) % W = b := by
  constructor
  · rw [Nat.mul_comm, Nat.mul_add_div (by omega), Nat.div_eq_of_lt hb, Nat.add_zero]
  · rw [Nat.mul_comm, Nat.mul_add_mod, Nat.mod_eq_of_lt hb]
theorem mix_above {W X Y n a b : Nat} {g o : Nat → Int} (hb : b < W) (ha : a < Y) : mixP W X Y n g o (a * W + b) = g (a * W + b) := by
  obtain ⟨e1, e2⟩ := row_at (a := a) hb
  unfold mixP
  rw [e1, if_neg (by omega)]
theorem mix_left {W X Y n a b : Nat} {g o : Nat → Int} (hb : b < W) (hX : b < X) (ha : a < Y + n) : mixP W X Y n g o (a * W + b) = g (a * W + b) := by
  obtain ⟨e1, e2⟩ := row_at (a := a) hb
  unfold mixP
  rw [e1, e2, if_neg (by omega)]
theorem gsP_mix {W X Y n mode : Nat} {g o : Nat → Int} (hX : X + n ≤ W) (hn : 1 ≤ n) (k : Nat) : gsP W (mixP W X Y n g o) X Y n mode k = gsP W g X Y n mode k := by
  have e1 : abP W (mixP W X Y n g o) X Y n = abP W g X Y n := by
    funext i
    unfold abP
    by_cases hi : i < n
    · rw [if_pos hi, if_pos hi]
      by_cases hY0 : 0 < Y
      · rw [if_pos hY0, if_pos hY0, Nat.add_assoc, mix_above (by omega) (by omega)]
      · rw [if_neg hY0, if_neg hY0]
    · rw [if_neg hi, if_neg hi]
  have e2 : lfP W (mixP W X Y n g o) X Y n = lfP W g X Y n := by
    funext i
    unfold lfP
    by_cases hi : i < n
    · rw [if_pos hi, if_pos hi]
      by_cases hX0 : 0 < X
      · rw [if_pos hX0, if_pos hX0, show (Y + i) * W + X - 1 = (Y + i) * W + (X - 1) by omega, mix_left (by omega) (by omega) (by omega)]
      · rw [if_neg hX0, if_neg hX0]
    · rw [if_neg hi, if_neg hi]
  have e3 : coP W (mixP W X Y n g o) X Y = coP W g X Y := by
    unfold coP
    by_cases h : 0 < X ∧ 0 < Y
    · rw [if_pos h, if_pos h, show (Y - 1) * W + X - 1 = (Y - 1) * W + (X - 1) by omega, mix_above (by omega) (by omega)]
    · rw [if_neg h, if_neg h]
  unfold gsP
  rw [e1, e2, e3]
theorem mixP_byt {W X Y n : Nat} {g o : Nat → Int} (hg : Byt g) (ho : Byt o) : Byt (mixP W X Y n g o) := fun i => by
  unfold mixP
  split
  · exact ho _
  · exact hg _
/-- The samples up to place k are mixed. -/
def mixTo (W X Y n : Nat) (g o : Nat → Int) (k i : Nat) : Int := if i < k then mixP W X Y n g o i else g i
theorem mixTo_start {W X Y n : Nat} {g o : Nat → Int} (hW : 0 < W) (i : Nat) : mixTo W X Y n g o (Y * W) i = g i := by
  unfold mixTo
  split
  · rename_i h
    unfold mixP
    rw [if_neg]
    have : i / W < Y := (Nat.div_lt_iff_lt_mul hW).2 h
    omega
  · rfl
theorem mixTo_set {W X Y n j p : Nat} {g o : Nat → Int} (hp : p < W) (hj : Y ≤ j) (h : X ≤ p ∨ Y + n ≤ j) (i : Nat) : (if i = j * W + p then Value.int .u8 (o (j * W + p)) else by8 (mixTo W X Y n g o (j * W + p)) i) = by8 (mixTo W X Y n g o (j * W + p + 1)) i := by
  obtain ⟨e1, e2⟩ := row_at (a := j) hp
  unfold by8 mixTo
  by_cases e : i = j * W + p
  · subst e
    rw [if_pos rfl, if_pos (by omega)]
    unfold mixP
    rw [e1, e2, if_pos ⟨hj, h⟩]
  · rw [if_neg e]
    by_cases e3 : i < j * W + p
    · rw [if_pos e3, if_pos (by omega)]
    · rw [if_neg e3, if_neg (by omega)]
theorem mixTo_keep {W X Y n j p : Nat} {g o : Nat → Int} (hp : p < W) (h : ¬ (X ≤ p ∨ Y + n ≤ j)) (i : Nat) : by8 (mixTo W X Y n g o (j * W + p)) i = by8 (mixTo W X Y n g o (j * W + p + 1)) i := by
  obtain ⟨e1, e2⟩ := row_at (a := j) hp
  unfold by8 mixTo
  by_cases e : i = j * W + p
  · subst e
    rw [if_neg (by omega), if_pos (by omega)]
    unfold mixP
    rw [e1, e2, if_neg (fun hh => h hh.2)]
  · by_cases e3 : i < j * W + p
    · rw [if_pos e3, if_pos (by omega)]
    · rw [if_neg e3, if_neg (by omega)]
end Go.Kin
namespace Go.Proofs.Ytcojphdohpgjnaa
open Go.ChangeShapes Go.WideShapes Go.ChangeAt Go.RowKit Go.Joins Go.Kin
set_option linter.unusedVariables false

namespace IntraAhead
set_option maxRecDepth 100000 in
set_option maxHeartbeats 2000000 in
theorem walk_no (w : World) (p : PlV) (x y n mode : Int) (B : Option Addr) (m d : Nat) (N : Nat) (gg : Nat → Int) (k : Int) (h : fitB p.n = false ∨ (fitB p.n = true ∧ (k != 0) = true) ∨ (fitB p.n = true ∧ (k != 0) = false ∧ neN m p.n))
    (hG : ∀ w1, Below w.heap.size w w1 → Calls Try.prog 15 #[.agg #[.int .i64 p.a, .int .i64 p.b, .slice p.A p.n p.c], .int .i64 x, .int .i64 y, .int .i64 n, .int .i64 mode] w1 (GivesR N gg k w1)) :
    Calls Try.prog 5 #[.agg #[.int .i64 p.a, .int .i64 p.b, .slice p.A p.n p.c], .agg #[.int .i64 x, .int .i64 y, .int .i64 n, .int .i64 mode], .slice B m d] w fun e w' => e = .returned (.bool true) ∧ Below w.heap.size w w' := by
  have K := Kn.start w
  have HG := Lib.hid hG
  clear hG
  rcases h with h1 | ⟨h1, h2⟩ | ⟨h1, h2, ⟨h3, h4, h5, h6, h7⟩⟩
  all_goals go_enter Try.func5, Try.ntmps5
  all_goals go_wp2_with fail
  all_goals refine (fits_any _ _ _ _ _ _).mono ?_
  all_goals rintro e w1 ⟨rfl, hb1⟩
  all_goals replace K := ((K.new w.heap.size _ _ rfl).new (w.heap.size + 1) _ _ (by simp)).below hb1
  all_goals clear hb1
  all_goals replace kc0 := Box.cells K.1
  all_goals replace kl0 := Box.lt K.1
  all_goals replace kc1 := Box.cells K.2.1
  all_goals replace kl1 := Box.lt K.2.1
  all_goals replace L : Below _ _ _ := K.2.2.1
  all_goals go_wp2_with fail
  all_goals refine (HG.out _ L).mono ?_
  all_goals rintro e w2 ⟨A2, c2, rfl, _, _, _, hb2⟩
  all_goals replace K := K.below hb2
  all_goals clear hb2
  all_goals replace kc0 := Box.cells K.1
  all_goals replace kl0 := Box.lt K.1
  all_goals replace kc1 := Box.cells K.2.1
  all_goals replace kl1 := Box.lt K.2.1
  all_goals replace L : Below _ _ _ := K.2.2.1
  all_goals go_wp2_with fail
  all_goals refine (alive09 _).mono ?_
  all_goals rintro e w3 ⟨rfl, hb3⟩
  all_goals replace K := K.below hb3
  all_goals clear hb3
  all_goals replace L : Below _ _ _ := K.2.2.1
  all_goals go_wp2
  all_goals go_ret
  all_goals exact ⟨rfl, L⟩
set_option maxRecDepth 100000 in
set_option maxHeartbeats 4000000 in
theorem walk_yes (w : World) (W H X Y n mode : Nat) (bb off N c : Nat) (g : Nat → Int) (B : Option Addr) (d : Nat) (o : Nat → Int) (hf : fitB N = true) (hr : rightB W H N = true) (hR : Rd w (some ⟨bb, off, none⟩) N (by8 g)) (hg : Byt g) (hb : bb < w.heap.size) (hnc : N ≤ c) (hc : c ≤ 9223372036854775807)
    (hn : n = 4 ∨ n = 8) (hX : X + n ≤ W) (hY : Y + n ≤ H) (hm : mode < 4) (hB : Rd w B N (by8 o)) (ho : Byt o) :
    Calls Try.prog 5 #[.agg #[.int .i64 W, .int .i64 H, .slice (some ⟨bb, off, none⟩) N c], .agg #[.int .i64 X, .int .i64 Y, .int .i64 n, .int .i64 mode], .slice B N d] w fun e w' => e = .returned (.bool true) ∧ Below w.heap.size w w' := by
  obtain ⟨r1, r2, r3, r4, r5⟩ := rightB_iff.1 hr
  have hNl := fitB_le hf
  have hn1 := rightB_pos hr
  have n1 : 1 ≤ n := by omega
  have HN := Lib.hid hn
  obtain ⟨bB, oB, rfl, _, _⟩ := hB.some_ hn1
  have HR5 := Lib.hid r5
  clear r5 hn
  obtain ⟨i0, hi0, hz0, hz1, hz2⟩ := parts_u8
  have HI := Lib.hid hi0
  clear hi0
  have K := ((Kn.start w).add (x := .rd (some ⟨bb, off, none⟩) N (by8 g)) hR).add (x := .rd (some ⟨bB, oB, none⟩) N (by8 o)) hB
  clear hR hB
  go_enter Try.func5, Try.ntmps5
  go_wp2_with fail
  refine (fits_any _ _ _ _ _ _).mono ?_
  rintro e w1 ⟨rfl, hb1⟩
  replace K := ((K.new w.heap.size _ _ rfl).new (w.heap.size + 1) _ _ (by simp)).below hb1
  clear hb1
  replace kc0 := Box.cells K.1
  replace kl0 := Box.lt K.1
  replace kc1 := Box.cells K.2.1
  replace kl1 := Box.lt K.2.1
  replace L : Below _ _ _ := K.2.2.2.2.1
  go_wp2_with fail
  refine (guess_yes W H X Y n mode bb off N c g _ hr K.2.2.2.1 (by have := Below.size L; omega) hnc hc HN.out hX hY hm hg).mono ?_
  rintro e w2 ⟨A2, c2, rfl, R2, _, _, hb2⟩
  replace K := K.below hb2
  clear hb2
  replace kc0 := Box.cells K.1
  replace kl0 := Box.lt K.1
  replace kc1 := Box.cells K.2.1
  replace kl1 := Box.lt K.2.1
  replace L : Below _ _ _ := K.2.2.2.2.1
  replace K := K.add (x := .rd A2 (n * n) (by8 (gsP W g X Y n mode))) R2
  clear R2 L
  go_wp2
  have K0 := K
  clear K kc0 kl0 kc1 kl1
  have t0 := Box.lt K0.2.1
  go_cut [10] (fun p w' => ∃ b3 br c', p = .pointer (some ⟨b3, 0, none⟩) ∧ w2.heap.size ≤ b3 ∧ w2.heap.size ≤ br ∧ b3 ≠ br ∧ N ≤ c' ∧ c' ≤ 9223372036854775807 ∧ Kn w' (.box b3 #[.int .i64 W, .int .i64 H, .slice (some ⟨br, 0, none⟩) N c'] :: .row br N (by8 g) :: [.rd A2 (n * n) (by8 (gsP W g X Y n mode)), .box (w.heap.size + 1) #[.int .i64 X, .int .i64 Y, .int .i64 n, .int .i64 mode], .box w.heap.size #[.int .i64 W, .int .i64 H, .slice (some ⟨bb, off, none⟩) N c], .rd (some ⟨bB, oB, none⟩) N (by8 o), .rd (some ⟨bb, off, none⟩) N (by8 g), .since w]))
  case first =>
    have KD := Kn.drew K0
    have hz : w2.drew.heap.size = w2.heap.size := rfl
    refine wp_region_ordH (fun w' => Kn w' _) [4, 7, 9, 10] [(0, 1), (1, 1), (2, 1), (3, 1), (5, 1), (6, 1)] _ (by kernel_rfl) (by kernel_rfl) (fun _ _ d _ _ h => by cases d <;> exact h) KD (fun _ _ _ h => h) ?_
    generalize w2.drew = u4 at *
    repeat (first | (refine oH_freeG rfl rfl (fun w' hS => by have s1 := Box.cells hS.2.2.1; clear hS; go_simp; with_reducible rfl) ?_; go_simp) | (refine oH_skipG rfl rfl ?_; go_simp))
    refine oH_nil ?_
    refine wpH_fork (i := 4) (j := 9) (by kernel_rfl) (by kernel_rfl) ?_ ?_
    · refine wpOp_do rfl (fun K' hK' => ?_)
      go_simp
      have KA := KD.alloc (.cells #[] 5)
      have OA := OwnS.empty u4 5 (by8 g) (b := w2.heap.size) (base := w2.heap.size) hz.symm (Nat.le_refl _)
      refine hK' _ _ ⟨KA, ?_⟩
      clear hK' K'
      refine wpH_fork (i := 7) (j := 9) (by kernel_rfl) (by kernel_rfl) ?_ ?_
      · refine wpOp_do rfl (fun K' hK' => ?_)
        obtain ⟨br, c', u5, hrun, hR5, hc5, hc6, hbr, ho5⟩ := app_freshC (P := Try.prog) (ty := 22) (d := c) Try.underlying22 HI.out hz0 hz1 hz2 rfl OA KA.2.2.2.2.1 (fun _ => rfl) hn1 (by unfold maxLen; omega) (by omega) (by simp [hz])
        refine wp_app rfl rfl hrun ?_
        have K5 := KA.othS ho5 (KD.offS (Nat.le_of_eq hz))
        refine hK' _ _ ⟨K5, ?_⟩
        clear hK' K'
        refine wpH_rest [(8, 1), (9, 2), (10, 2)] rfl (by kernel_rfl) (fun _ _ d _ _ h => by cases d <;> exact h) K5 ?_
        refine oH_free rfl (fun w' hS => by clear hS; go_simp; with_reducible rfl) ?_
        go_simp
        refine oH_do rfl (fun K' hK' => ?_)
        go_simp
        refine hK' _ _ ⟨K5.alloc _, ?_⟩
        clear hK' K'
        refine oH_do rfl (fun K' hK' => ?_)
        go_simp
        refine hK' _ _ ⟨K5.alloc _, ?_⟩
        clear hK' K'
        refine oH_nil ?_
        go_wp2
        go_meet
        case rel =>
          have s5 := ho5.size
          have lr := hR5.lt
          simp [hz] at s5
          have hbr2 : w2.heap.size ≤ br := by rcases hbr with h | h <;> (try simp [hz] at h) <;> omega
          exact ⟨u5.heap.size, br, c', rfl, by omega, hbr2, by omega, hc5, hc6, (K5.add (x := .row br N (by8 g)) hR5).new u5.heap.size _ _ rfl⟩
      · refine wpOp_do rfl (fun K' hK' => ?_)
        go_simp
        have KB := KA.new (w2.heap.size + 1) #[.int .i64 0, .int .i64 0, .slice none 0 0] 24 (by simp [hz])
        have OB := OA.alloc (.cells #[.int .i64 0, .int .i64 0, .slice none 0 0] 24)
        refine hK' _ _ ⟨KB.2, ?_⟩
        clear hK' K'
        refine wpH_rest [(7, 2), (8, 1), (10, 2)] rfl (by kernel_rfl) (fun _ _ d _ _ h => by cases d <;> exact h) KB.2 ?_
        refine oH_do rfl (fun K' hK' => ?_)
        obtain ⟨br, c', u5, hrun, hR5, hc5, hc6, hbr, ho5⟩ := app_freshC (P := Try.prog) (ty := 22) (d := c) Try.underlying22 HI.out hz0 hz1 hz2 rfl OB KB.2.2.2.2.2.1 (fun _ => rfl) hn1 (by unfold maxLen; omega) (by omega) (by simp [hz]; try omega)
        refine wp_app rfl rfl hrun ?_
        have K5 := KB.othS ho5 ⟨by simp [It.offS], KD.offS (Nat.le_of_eq hz)⟩
        refine hK' _ _ ⟨K5.2, ?_⟩
        clear hK' K'
        refine oH_free rfl (fun w' hS => by clear hS; go_simp; with_reducible rfl) ?_
        go_simp
        have kc := Box.cells K5.1
        have kf := Box.frees K5.1
        have hbr2 : w2.heap.size ≤ br ∧ br ≠ w2.heap.size + 1 := by rcases hbr with h | h <;> (try simp [hz] at h) <;> omega
        refine oH_do rfl (fun K' hK' => ?_)
        go_simp
        have K6 := (K5.tuck (x := .row br N (by8 g)) hR5).set3S 0 (.int .i64 W) (.int .i64 H) (.slice (some ⟨br, 0, none⟩) N c') ⟨by simp [It.offS]; omega, KD.offS (by omega)⟩
        refine hK' _ _ ⟨K6.2.2, ?_⟩
        clear hK' K'
        refine oH_nil ?_
        go_wp2
        go_meet
        case rel => exact ⟨w2.heap.size + 1, br, c', rfl, by omega, hbr2.1, by omega, hc5, hc6, K6⟩
    · refine wpOp_do rfl (fun K' hK' => ?_)
      go_simp
      have KA := KD.new w2.heap.size #[.int .i64 0, .int .i64 0, .slice none 0 0] 24 hz.symm
      refine hK' _ _ ⟨KA.2, ?_⟩
      clear hK' K'
      refine wpH_rest [(4, 2), (7, 2), (8, 1), (10, 2)] rfl (by kernel_rfl) (fun _ _ d _ _ h => by cases d <;> exact h) KA.2 ?_
      refine oH_do rfl (fun K' hK' => ?_)
      go_simp
      have KB := KA.alloc (.cells #[] 5)
      have OB := OwnS.empty (u4.alloc (.cells #[.int .i64 0, .int .i64 0, .slice none 0 0] 24)) 5 (by8 g) (b := w2.heap.size + 1) (base := w2.heap.size) (by simp [hz]) (by omega)
      refine hK' _ _ ⟨KB.2, ?_⟩
      clear hK' K'
      refine oH_do rfl (fun K' hK' => ?_)
      obtain ⟨br, c', u5, hrun, hR5, hc5, hc6, hbr, ho5⟩ := app_freshC (P := Try.prog) (ty := 22) (d := c) Try.underlying22 HI.out hz0 hz1 hz2 rfl OB KB.2.2.2.2.2.1 (fun _ => rfl) hn1 (by unfold maxLen; omega) (by omega) (by simp [hz]; try omega)
      refine wp_app rfl rfl hrun ?_
      have K5 := KB.othS ho5 ⟨by simp [It.offS], KD.offS (by omega)⟩
      refine hK' _ _ ⟨K5.2, ?_⟩
      clear hK' K'
      refine oH_free rfl (fun w' hS => by clear hS; go_simp; with_reducible rfl) ?_
      go_simp
      have kc := Box.cells K5.1
      have kf := Box.frees K5.1
      have hbr2 : w2.heap.size ≤ br ∧ br ≠ w2.heap.size := by rcases hbr with h | h <;> (try simp [hz] at h) <;> omega
      refine oH_do rfl (fun K' hK' => ?_)
      go_simp
      have K6 := (K5.tuck (x := .row br N (by8 g)) hR5).set3S 0 (.int .i64 W) (.int .i64 H) (.slice (some ⟨br, 0, none⟩) N c') ⟨by simp [It.offS]; omega, KD.offS (by omega)⟩
      refine hK' _ _ ⟨K6.2.2, ?_⟩
      clear hK' K'
      refine oH_nil ?_
      go_wp2
      go_meet
      case rel => exact ⟨w2.heap.size, br, c', rfl, Nat.le_refl _, hbr2.1, by omega, hc5, hc6, K6⟩
  case rest =>
    obtain ⟨b3, br, c', rfl, x1, x2, x3, x4, x5, K⟩ := hcut
    have OF := Lib.hid (K0.offS (b := br) x2)
    clear K0
    have OF2 : Hid (OffsS br (.box b3 #[.int .i64 W, .int .i64 H, .slice (some ⟨br, 0, none⟩) N c'] :: [.rd A2 (n * n) (by8 (gsP W g X Y n mode)), .box (w.heap.size + 1) #[.int .i64 X, .int .i64 Y, .int .i64 n, .int .i64 mode], .box w.heap.size #[.int .i64 W, .int .i64 H, .slice (some ⟨bb, off, none⟩) N c], .rd (some ⟨bB, oB, none⟩) N (by8 o), .rd (some ⟨bb, off, none⟩) N (by8 g), .since w])) := Lib.hid ⟨x3, OF.out⟩
    clear OF x1 x2
    have kc := Box.cells K.2.2.2.1
    have HK := Lib.hid (show Kn wc (.row br N (by8 (mixTo W X Y n g o (Y * W))) :: .box b3 #[.int .i64 W, .int .i64 H, .slice (some ⟨br, 0, none⟩) N c'] :: [.rd A2 (n * n) (by8 (gsP W g X Y n mode)), .box (w.heap.size + 1) #[.int .i64 X, .int .i64 Y, .int .i64 n, .int .i64 mode], .box w.heap.size #[.int .i64 W, .int .i64 H, .slice (some ⟨bb, off, none⟩) N c], .rd (some ⟨bB, oB, none⟩) N (by8 o), .rd (some ⟨bb, off, none⟩) N (by8 g), .since w]) from ⟨Row.congr K.2.1 (fun i _ => by simp only [by8]; rw [mixTo_start (by omega)]), K.1, K.2.2⟩)
    clear K
    go_wp2_with fail
    clear kc
    go_loopw [11] (fun i wr => ∃ j : Nat, Y ≤ j ∧ j ≤ H ∧ i = .int .i64 j ∧ Kn wr (.row br N (by8 (mixTo W X Y n g o (j * W))) :: .box b3 #[.int .i64 W, .int .i64 H, .slice (some ⟨br, 0, none⟩) N c'] :: [.rd A2 (n * n) (by8 (gsP W g X Y n mode)), .box (w.heap.size + 1) #[.int .i64 X, .int .i64 Y, .int .i64 n, .int .i64 mode], .box w.heap.size #[.int .i64 W, .int .i64 H, .slice (some ⟨bb, off, none⟩) N c], .rd (some ⟨bB, oB, none⟩) N (by8 o), .rd (some ⟨bb, off, none⟩) N (by8 g), .since w])) (fun i _ => H - (intOf i).toNat)
    case atStart => exact ⟨Y, by omega, by omega, rfl, HK.out⟩
    case round =>
      obtain ⟨j, hj1, hj2, rfl, K⟩ := hrel
      clear HK
      have kc := Box.cells K.2.2.2.2.1
      by_cases hlt : j < H
      · have HK := Lib.hid K
        clear K
        go_wp2_with fail
        clear kc
        go_loopw [12] (fun i wr => ∃ p : Nat, p ≤ W ∧ i = .int .i64 p ∧ Kn wr (.row br N (by8 (mixTo W X Y n g o (j * W + p))) :: .box b3 #[.int .i64 W, .int .i64 H, .slice (some ⟨br, 0, none⟩) N c'] :: [.rd A2 (n * n) (by8 (gsP W g X Y n mode)), .box (w.heap.size + 1) #[.int .i64 X, .int .i64 Y, .int .i64 n, .int .i64 mode], .box w.heap.size #[.int .i64 W, .int .i64 H, .slice (some ⟨bb, off, none⟩) N c], .rd (some ⟨bB, oB, none⟩) N (by8 o), .rd (some ⟨bb, off, none⟩) N (by8 g), .since w])) (fun i _ => W - (intOf i).toNat)
        case atStart => exact ⟨0, by omega, rfl, HK.out⟩
        case round =>
          obtain ⟨p, hp, rfl, K⟩ := hrel
          clear HK
          have kc4 := Box.cells K.2.2.2.2.1
          by_cases hlp : p < W
          · have kc3 := Box.cells K.2.2.2.1
            have hin : j * W + p < N := by
              have := Nat.mul_le_mul_right W (show j + 1 ≤ H by omega)
              rw [Nat.add_mul, Nat.one_mul] at this
              have e5 := HR5.out
              have e6 : N = W * H := by exact_mod_cast e5
              rw [e6, Nat.mul_comm W H]
              omega
            by_cases hT : X ≤ p ∨ Y + n ≤ j
            · have hset := fun i => mixTo_set (g := g) (o := o) (X := X) (n := n) hlp hj1 hT i
              have HSET := Lib.hid hset
              clear hset
              have HIN := Lib.hid hin
              by_cases hT1 : X ≤ p
              all_goals (try have hT2 : Y + n ≤ j := by omega)
              all_goals clear hT
              all_goals go_wp2
              all_goals have hini : (j : Int) * W + p < N := by exact_mod_cast hin
              all_goals have h00 : (0 : Int) ≤ (j : Int) * W := Int.mul_nonneg (by omega) (by omega)
              all_goals have z1 : IntKind.i64.wrap ((j : Int) * W) = (j : Int) * W := IntWalk.i64_in _ (by omega)
              all_goals have z2 : IntKind.i64.wrap ((j : Int) * W + p) = (j : Int) * W + p := IntWalk.i64_in _ (by omega)
              all_goals have z3 : ((j : Int) * W + p).toNat = j * W + p := by rw [show (j : Int) * W + p = ((j * W + p : Nat) : Int) by push_cast; rfl, Int.toNat_natCast]
              all_goals have z4 : 0 ≤ (j : Int) * W + p := by omega
              all_goals have KD := Kn.drew K
              all_goals refine wp_region_allH (fun w' => Kn w' _) [18] [(0,1),(1,1),(2,1),(3,1),(4,1),(5,1),(6,1),(7,1),(8,1),(9,1),(10,1),(11,1),(12,1),(13,1),(14,1),(15,1),(16,1),(17,1),(18,2)] (by kernel_rfl) (by kernel_rfl) (fun _ _ d _ _ h => by cases d <;> exact h) (KD.2) ?_
              all_goals generalize wr.drew = wd at KD ⊢
              all_goals repeat (first | (refine oH_freeG rfl rfl (fun w' hS => by have s1 := Box.cells hS.1; have s2 := Box.cells hS.2.2.2.1; have s3 := Rd.at_ hS.2.2.2.2.1 hin; simp only [by8] at s3; clear hS; go_simp; with_reducible rfl) ?_; go_simp) | (refine oH_skipG rfl rfl ?_; go_simp))
              all_goals refine oH_doG rfl rfl (fun KK hKK => ?_)
              all_goals have cr := Row.cell KD.1 hin
              all_goals have fr := Row.frozen KD.1 (j * W + p)
              all_goals simp only [by8] at cr
              all_goals go_simp
              all_goals have K6 := Kn.setRowS KD (j * W + p) (.int .u8 (o (j * W + p))) OF2.out
              all_goals refine hKK _ _ ⟨K6.2, ?_⟩
              all_goals clear hKK KK cr fr KD K
              all_goals have HK := Lib.hid (K6.row (fun i _ => HSET.out i))
              all_goals clear K6
              all_goals refine oH_nil ?_
              all_goals clear z1 z2 z3 z4 hini h00
              all_goals go_wp2
              all_goals go_roundw
              case rel => exact ⟨p + 1, by omega, by go_num, HK.out⟩
              case measure => simp [intOf]; omega
              case rel => exact ⟨p + 1, by omega, by go_num, HK.out⟩
              case measure => simp [intOf]; omega
            · have hkp := fun i => mixTo_keep (g := g) (o := o) (X := X) (Y := Y) (n := n) hlp hT i
              have HKP := Lib.hid hkp
              clear hkp
              have hT1 : ¬ X ≤ p := by omega
              have hT2 : ¬ Y + n ≤ j := by omega
              have HK := Lib.hid (K.row (fun i _ => HKP.out i))
              clear K hT hin
              go_wp2
              go_roundw
              case rel => exact ⟨p + 1, by omega, by go_num, HK.out⟩
              case measure => simp [intOf]; omega
          · obtain rfl : p = W := by omega
            have HK := Lib.hid K
            clear K
            go_wp2
            go_roundw
            case rel => exact ⟨j + 1, by omega, by omega, by go_num, by rw [Nat.add_mul, Nat.one_mul]; exact HK.out⟩
            case measure => simp [intOf]; omega
      · obtain rfl : j = H := by omega
        have kc1 := Box.cells K.2.1
        have kc3 := Box.cells K.2.2.2.1
        have hbr := Row.lt K.1
        have R : Rd wr (some ⟨br, 0, none⟩) N (by8 (mixP W X Y n g o)) := (Row.rd K.1).congr (fun i hi => by
          have e5 := HR5.out
          have e6 : N = W * j := by exact_mod_cast e5
          simp only [by8]
          unfold mixTo
          rw [if_pos (by rw [Nat.mul_comm]; omega)])
        go_wp2_with fail
        refine (guess_yes W j X Y n mode br 0 N c' (mixP W X Y n g o) _ hr R hbr x4 x5 HN.out hX hY hm (mixP_byt hg ho)).mono ?_
        rintro e w3 ⟨A3, c3, rfl, R3, _, _, hb3⟩
        replace K := (K.below hb3).add (x := .rd A3 (n * n) (by8 (gsP W g X Y n mode))) (R3.congr (fun i _ => by simp only [by8]; rw [gsP_mix hX n1]))
        clear R3 R hb3 kc kc1 kc3
        go_wp2_with fail
        refine (alive09 _).mono ?_
        rintro e w4 ⟨rfl, hb4⟩
        replace K := K.below hb4
        have k1 := conv_any (c := c3) K.1
        have k2 := conv_any (c := c2) K.2.2.2.1
        have L : Below _ _ _ := K.2.2.2.2.2.2.2.2.1
        clear K
        go_wp2
        go_ret
        exact ⟨rfl, L⟩
theorem walk (w : World) (a b : Int) (A : Option Addr) (N c : Nat) (g : Nat → Int) (ia : I64 a) (ib : I64 b) (hR : Rd w A N (by8 g)) (hg : Byt g) (hnc : N ≤ c) (hc : c ≤ 9223372036854775807) (x y q mo : Int) (ix : I64 x) (iy : I64 y) (iq : I64 q) (im : I64 mo)
    (B : Option Addr) (m d : Nat) (o : Nat → Int) (hB : Rd w B m (by8 o)) (ho : Byt o) (hd : m ≤ d) (hd2 : d ≤ 9223372036854775807) :
    Calls Try.prog 5 #[.agg #[.int .i64 a, .int .i64 b, .slice A N c], .agg #[.int .i64 x, .int .i64 y, .int .i64 q, .int .i64 mo], .slice B m d] w fun e w' => e = .returned (.bool true) ∧ Below w.heap.size w w' := by
  cases h1 : fitB N with
  | false =>
    obtain ⟨N', gg, k, hG, _⟩ := guess_both ⟨a, b, A, N, c, g⟩ x y q mo w ⟨ia, ib, hR, hg, hnc, hc⟩
    exact walk_no w ⟨a, b, A, N, c, g⟩ x y q mo B m d N' gg k (.inl h1) hG
  | true =>
    cases hr : rightB a b N with
    | false => exact walk_no w ⟨a, b, A, N, c, g⟩ x y q mo B m d 0 (fun _ => 0) 61 (.inr (.inl ⟨h1, rfl⟩)) fun w1 _ => (guess_no _ _ _ _ _ _ _ _ _ _ hr).mono fun _ _ h => .no h
    | true =>
      by_cases hT : gOk a b x y q mo
      · obtain ⟨r1, r2, r3, r4, r5⟩ := rightB_iff.1 hr
        obtain ⟨X, Y, n, mode, rfl, rfl, rfl, rfl, hn, hX, hY, hm⟩ := gOk_nat hT
        obtain ⟨W, rfl⟩ := Int.eq_ofNat_of_zero_le (show 0 ≤ a by omega)
        obtain ⟨H, rfl⟩ := Int.eq_ofNat_of_zero_le (show 0 ≤ b by omega)
        obtain ⟨bb, off, rfl, hb, _⟩ := hR.some_ (rightB_pos hr)
        by_cases hmn : m = N
        · subst hmn
          exact walk_yes w W H X Y n mode bb off m c g B d o h1 hr hR hg hb hnc hc hn (by omega) (by omega) hm hB ho
        · exact walk_no w ⟨W, H, some ⟨bb, off, none⟩, N, c, g⟩ X Y n mode B m d (n * n) (gsP W g X Y n mode) 0 (.inr (.inr ⟨h1, rfl, neN_of hmn⟩)) fun w1 hw => (guess_yes W H X Y n mode bb off N c g w1 hr (hR.below hw) (by have := hw.size; omega) hnc hc hn (by omega) (by omega) hm hg).mono fun _ _ h => .yes h
      · exact walk_no w ⟨a, b, A, N, c, g⟩ x y q mo B m d 0 (fun _ => 0) 1 (.inr (.inl ⟨h1, rfl⟩)) fun w1 _ => (guess_arg _ _ _ _ _ _ _ _ _ _ hr hT).mono fun _ _ h => .no h
end IntraAhead
namespace IntraAhead
set_option maxRecDepth 100000 in
theorem lifted (os : Os) (started : os.Started) (H : Type) (enc : TypeId × Value → H) :
    ReturnsInHanded {} Try.checked os 5 .any (Rows.intraAheadSpec.pre6 enc Try.prog Try.f5 Rows.intraAheadRow.domain false) (Rows.intraAheadSpec.post enc Try.prog Try.f5 false true false false) := by
  refine returnsInHanded_of_change (C := Try.checked) own started (by kernel_rfl) Try.func5
    (ChangeSpec.witness6 (enc := enc) (C := Try.checked) false ⟨#[], #[.agg #[.int .i64 0, .int .i64 0, .slice none 0 0], .agg #[.int .i64 0, .int .i64 0, .int .i64 0, .int .i64 0], .slice none 0 0], []⟩ 8 (by kernel_rfl) (by kernel_rfl) (by kernel_rfl) (by kernel_rfl)) ?_
  intro W base args ds gs before hval0 hW hcnd _
  have hval : ∀ (j : Nat) t v, Try.f5.params[j]? = some t → args[j]? = some v → Value.okWide Try.prog W .any base t v := hval0
  refine law_post (tb := 4) laidOut (by kernel_rfl) rfl Try.underlying4 rfl (fun ds' h => ?_) hW ?_
  · rw [Try.params5] at h
    match ds', h with
    | [d1, d2, d3], _ => exact ⟨rfl, rfl, rfl⟩
  obtain ⟨p, q, hA0, hV, rfl, hfz, hnd⟩ := hW
  have hA : DataW.TrodAll enc Try.prog W 0 (fun _ => true) true Try.f5.params.toList args.toList ds p := hA0
  rw [Try.params5] at hA hval
  obtain ⟨v0, vs0, d0, ds0, p0, q0, hargs, rfl, rfl, h0, r0⟩ := trodAll_cons hA
  obtain ⟨v1, vs1, d1, ds1, p1, q1, rfl, rfl, rfl, h1, r1⟩ := trodAll_cons r0
  obtain ⟨v2, vs2, d2, ds2, p2, q2, rfl, rfl, rfl, h2, r2⟩ := trodAll_cons r1
  obtain ⟨rfl, rfl, rfl⟩ := trodAll_nil r2
  obtain rfl : args = #[v0, v1, v2] := by cases args; simp_all
  obtain ⟨a0, b0, A0, n0, c0, g0, rfl, w0, x0, rr0, t0, l0, m0⟩ := open_plane Try.underlying24 (by kernel_rfl) ⟨rfl, rfl⟩ ⟨rfl, rfl⟩ ⟨rfl, rfl⟩ Try.underlying3 Try.underlying22 Try.underlying5 (by kernel_rfl) (by kernel_rfl) (by kernel_rfl) (hval 0 24 v0 rfl rfl) h0
  obtain ⟨a1, b1, c1, d1, rfl, w1, x1, y1, z1⟩ := open_arr4 Try.underlying36 Try.underlying3 (by kernel_rfl) (by kernel_rfl) (hval 1 36 v1 rfl rfl) h1
  obtain ⟨A2, n2, c2, g2, rfl, rr2, t2, l2, m2⟩ := open_bytes Try.underlying22 Try.underlying5 (by kernel_rfl) (hval 2 22 v2 rfl rfl) h2
  exact walk W a0 b0 A0 n0 c0 g0 w0 x0 rr0 t0 l0 m0 a1 b1 c1 d1 w1 x1 y1 z1 A2 n2 c2 g2 rr2 t2 l2 m2
theorem over : Rows.intraAheadRow.holds Try.pinned (OpenSpec.ofChange Rows.intraAheadSpec) :=
  OpenClaim.holds_of_wide 5 Try.f5 rfl rfl rfl rfl rfl rfl rfl ⟨rfl, rfl, rfl, rfl, rfl⟩ rfl rfl rfl rfl rfl (by kernel_rfl) Try.func5 (by kernel_rfl)
    (of_decide_eq_true (by kernel_rfl)) (by unfold Func.isWrapper; first | (rw [if_pos (by decide +kernel)]; kernel_rfl) | (rw [if_neg (by decide +kernel)]; exact ⟨rfl, rfl⟩))
    (fun os started H enc _ => lifted os started H enc)
end IntraAhead
theorem intraAhead_holds : Rows.IntraAheadSaid := IntraAhead.over

end Go.Proofs.Ytcojphdohpgjnaa
