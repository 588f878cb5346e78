/- Walks of the document's answer for layer 6: shifted, Lay. -/
import Derived.Test.YtlkogokhcdehfaaGiv
import Derived.Test.YtlkogokhcdehfaaPw4
namespace Go.Kin
/-- The plane's samples once j rows of a block, and i columns of the next one, are laid at (x, y). -/
def layJI (W : Nat) (g : Nat → Int) (x y : Int) (n : Nat) (bb : Nat → Int) (j i : Nat) (k : Nat) : Int :=
  if x ≤ ((k % W : Nat) : Int) ∧ ((k % W : Nat) : Int) < x + i ∧ ((k / W : Nat) : Int) = y + j then bb (j * n + (((k % W : Nat) : Int) - x).toNat) else layJ W g x y n bb j k
theorem layJI_zero (W : Nat) (g : Nat → Int) (x y : Int) (n : Nat) (bb : Nat → Int) (j k : Nat) : layJI W g x y n bb j 0 k = layJ W g x y n bb j k := by
  unfold layJI
  rw [if_neg (by omega)]
theorem layJI_full {W : Nat} {g : Nat → Int} {x y : Int} {n : Nat} {bb : Nat → Int} {j k : Nat} : layJI W g x y n bb j n k = layJ W g x y n bb (j + 1) k := by
  unfold layJI layJ
  generalize k / W = q
  generalize k % W = r
  by_cases h : x ≤ (r : Int) ∧ (r : Int) < x + n ∧ (q : Int) = y + j
  · rw [if_pos h, if_pos (by omega)]
    have e : (q : Int) - y = j := by omega
    rw [e]
    congr 1
    have e3 : (j : Int) * n = ((j * n : Nat) : Int) := by simp
    rw [e3]
    omega
  · rw [if_neg h]
    by_cases h2 : x ≤ (r : Int) ∧ (r : Int) < x + n ∧ y ≤ (q : Int) ∧ (q : Int) < y + j
    · rw [if_pos h2, if_pos (by omega)]
    · rw [if_neg h2, if_neg (by omega)]
theorem layJI_skip {W H : Nat} {g : Nat → Int} {x y : Int} {n : Nat} {bb : Nat → Int} {j i k : Nat} (hW : 1 ≤ W) (hk : k < W * H) (h : ¬ (0 ≤ x + i ∧ x + i < W ∧ 0 ≤ y + j ∧ y + j < H)) : layJI W g x y n bb j (i + 1) k = layJI W g x y n bb j i k := by
  have hH : k / W < H := Nat.div_lt_of_lt_mul hk
  have hm : k % W < W := Nat.mod_lt _ (by omega)
  unfold layJI
  generalize layJ W g x y n bb j k = v
  generalize k / W = q at *
  generalize k % W = r at *
  by_cases h1 : x ≤ (r : Int) ∧ (r : Int) < x + i ∧ (q : Int) = y + j
  · rw [if_pos h1, if_pos (by omega)]
  · rw [if_neg h1, if_neg (by omega)]
theorem layJI_set {W : Nat} {g : Nat → Int} {x y : Int} {n : Nat} {bb : Nat → Int} {j i k a c : Nat} (ha : x + (i : Int) = a) (hc : y + (j : Int) = c) (hW : a < W) :
    (if k = c * W + a then bb (j * n + i) else layJI W g x y n bb j i k) = layJI W g x y n bb j (i + 1) k := by
  have hk : k = k / W * W + k % W := by rw [Nat.mul_comm]; exact (Nat.div_add_mod k W).symm
  have hm : k % W < W := Nat.mod_lt _ (by omega)
  by_cases e : k = c * W + a
  · obtain ⟨e1, e2⟩ := pos_mod (y := c) hW
    rw [if_pos e, e]
    unfold layJI
    rw [e1, e2, if_pos (by omega)]
    congr 2
    omega
  · rw [if_neg e]
    have hn : ¬ (k / W = c ∧ k % W = a) := fun h => e (by rw [h.1, h.2] at hk; exact hk)
    unfold layJI
    generalize layJ W g x y n bb j k = v
    generalize k / W = q at *
    generalize k % W = r at *
    by_cases h1 : x ≤ (r : Int) ∧ (r : Int) < x + i ∧ (q : Int) = y + j
    · rw [if_pos h1, if_pos (by omega)]
    · rw [if_neg h1, if_neg (by omega)]
/-- x and i together; where that would go round: the greatest. -/
def shI (x i : Int) : Int := if 4611686018427387904 < x then 4611686018427387904 else x + i
end Go.Kin
namespace Go.Proofs.Ytlkogokhcdehfaa
open Go.RowKit Go.Kin
set_option linter.unusedVariables false

set_option maxHeartbeats 400000 in
theorem shifted_any (x i : Int) (ix : -9223372036854775808 ≤ x) (hi : 0 ≤ i ∧ i ≤ 4096) (w : World) :
    Calls Try.prog 59 #[.int .i64 x, .int .i64 i] w fun e w' => e = .returned (.int .i64 (shI x i)) ∧ w = w' := by
  obtain ⟨i0, i1⟩ := hi
  by_cases h : 4611686018427387904 < x
  · have H := Lib.hid (show shI x i = 4611686018427387904 by unfold shI; rw [if_pos h])
    go_enter Try.func59, Try.ntmps59
    go_wp2
    go_ret
    exact ⟨ret_int (by rw [H.out]), rfl⟩
  · have H := Lib.hid (show shI x i = x + i by unfold shI; rw [if_neg h])
    go_enter Try.func59, Try.ntmps59
    go_wp2
    go_ret
    exact ⟨ret_int (by rw [H.out]), rfl⟩

set_option maxHeartbeats 1000000 in
theorem rlay_no1 (W H : Int) (A B : Option Addr) (N c m d : Nat) (x y n : Int) (w : World) (h : n < 1 ∨ (¬ n < 1 ∧ 64 < n) ∨ (1 ≤ n ∧ n ≤ 64 ∧ ((m : Int) == n * n) = false ∧ ((m : Int) != n * n) = true)) :
    Calls Try.prog 35 #[.agg #[.int .i64 W, .int .i64 H, .slice A N c], .int .i64 x, .int .i64 y, .int .i64 n, .slice B m d] w (NoPlane 1 w) := by
  have K := Kn.start w
  rcases h with h | ⟨h, h1⟩ | ⟨h, h1, h2, h3⟩
  rotate_right
  have m1 : 0 ≤ n * n := Int.mul_nonneg (by omega) (by omega)
  have m2 : n * n ≤ 4096 := by
    have := Int.mul_le_mul h1 h1 (by omega) (by omega)
    omega
  all_goals go_enter Try.func35, Try.ntmps35
  all_goals go_wp2_with fail
  all_goals refine (rright_any _ _ _ _ _ _).mono ?_
  all_goals rintro e w1 ⟨rfl, hb1⟩
  all_goals replace K := ((K.new w.heap.size _ _ rfl).new (w.heap.size + 1) _ _ (by simp)).below hb1
  all_goals clear hb1
  all_goals replace kc0 := Box.cells K.1
  all_goals replace kl0 := Box.lt K.1
  all_goals replace kf0 := Box.frees K.1
  all_goals replace kc1 := Box.cells K.2.1
  all_goals replace kl1 := Box.lt K.2.1
  all_goals replace L : Below _ _ _ := K.2.2.1
  all_goals go_wp2
  all_goals exact bodyPost_ret (v := .tuple #[.agg #[.int .i64 0, .int .i64 0, .slice none 0 0], .int .i64 1]) (by simp [results, Try.results35, go_sem, kc0]) rfl ⟨rfl, ((L.setCell (by simp) _).setCell (by simp) _).setCell (by simp) _⟩

set_option maxHeartbeats 1000000 in
theorem rlay_no2 (W H : Int) (A B : Option Addr) (N c m d : Nat) (x y : Int) (n : Nat) (w : World) (h1 : 1 ≤ n) (h2 : n ≤ 64) (hm : m = n * n) (hr : rightB W H N = false) :
    Calls Try.prog 35 #[.agg #[.int .i64 W, .int .i64 H, .slice A N c], .int .i64 x, .int .i64 y, .int .i64 n, .slice B m d] w (NoPlane 61 w) := by
  have K := Kn.start w
  subst hm
  have hnn : n * n ≤ 4096 := Nat.mul_le_mul h2 h2
  have m1 : (0 : Int) ≤ (n : Int) * n := by have := Int.natCast_mul n n; omega
  have m2 : (n : Int) * n ≤ 4096 := by have := Int.natCast_mul n n; omega
  go_enter Try.func35, Try.ntmps35
  go_wp2_with fail
  refine (rright_any _ _ _ _ _ _).mono ?_
  rintro e w1 ⟨rfl, hb1⟩
  replace K := ((K.new w.heap.size _ _ rfl).new (w.heap.size + 1) _ _ (by simp)).below hb1
  clear hb1
  replace kc0 := Box.cells K.1
  replace kl0 := Box.lt K.1
  replace kf0 := Box.frees K.1
  replace kc1 := Box.cells K.2.1
  replace kl1 := Box.lt K.2.1
  replace L : Below _ _ _ := K.2.2.1
  go_wp2
  exact bodyPost_ret (v := .tuple #[.agg #[.int .i64 0, .int .i64 0, .slice none 0 0], .int .i64 61]) (by simp [results, Try.results35, go_sem, kc0]) rfl ⟨rfl, ((L.setCell (by simp) _).setCell (by simp) _).setCell (by simp) _⟩

set_option maxHeartbeats 2000000 in
theorem rlay_yes (W H : Nat) (A B : Option Addr) (N c m d : Nat) (g bb : Nat → Int) (x y : Int) (n : Nat) (w : World) (h1 : 1 ≤ n) (h2 : n ≤ 64) (hm : m = n * n) (hr : rightB W H N = true) (ix : I64 x) (iy : I64 y)
    (hS : Rd w A N (by8 g)) (hB : Rd w B m (by8 bb)) :
    Calls Try.prog 35 #[.agg #[.int .i64 W, .int .i64 H, .slice A N c], .int .i64 x, .int .i64 y, .int .i64 n, .slice B m d] w (GivesP ⟨W, H, none, N, 0, layP W g x y n bb⟩ 0 w) := by
  obtain ⟨r1, r2, r3, r4, r5⟩ := rightB_iff.1 hr
  obtain ⟨ix1, ix2⟩ := ix
  obtain ⟨iy1, iy2⟩ := iy
  subst hm
  have hN := rightB_le hr
  have hnn : n * n ≤ 4096 := Nat.mul_le_mul h2 h2
  have hn1 : 1 ≤ n * n := Nat.mul_le_mul h1 h1
  have m1 : (0 : Int) ≤ (n : Int) * n := by have := Int.natCast_mul n n; omega
  have m2 : (n : Int) * n ≤ 4096 := by have := Int.natCast_mul n n; omega
  obtain ⟨b, off, rfl, hb, _⟩ := hB.some_ (by omega)
  have hNW : N = W * H := by exact_mod_cast r5
  have HNW := Lib.hid hNW
  have K := ((Kn.start w).add (x := .rd (some ⟨b, off, none⟩) (n * n) (by8 bb)) hB).add (x := .rd A N (by8 g)) hS
  clear hS hB r5 hNW
  go_enter Try.func35, Try.ntmps35
  go_wp2_with fail
  refine (rright_any _ _ _ _ _ _).mono ?_
  rintro e w1 ⟨rfl, hb1⟩
  replace K := ((K.new w.heap.size _ _ rfl).new (w.heap.size + 1) _ _ (by simp)).below hb1
  clear hb1
  replace kc0 := Box.cells K.1
  replace kl0 := Box.lt K.1
  replace kc1 := Box.cells K.2.1
  replace kl1 := Box.lt K.2.1
  replace RA : Rd _ _ _ _ := K.2.2.1
  replace RB : Rd _ _ _ _ := K.2.2.2.1
  replace L : Below _ _ _ := K.2.2.2.2.1
  have l01 := kl0
  have L1 := L
  go_wp2_with fail
  refine (rcopy_any _ _ _ _ _ _ _ RA (by omega)).mono ?_
  rintro e w2 ⟨A2, c2, rfl, hO, hb2⟩
  obtain ⟨br, rfl, hbr, hrow, hcap⟩ := hO.row (rightB_pos hr)
  have hcm : c2 ≤ 9223372036854775807 := by
    rcases hO.cases with ⟨e, _⟩ | ⟨_, _, _, _, _, h⟩
    · cases e
    · unfold maxLen at h; omega
  replace K := (K.below hb2).add (x := .row br N (by8 g)) hrow
  replace kc1 := Box.cells K.2.1
  replace kl1 := Box.lt K.2.1
  replace kc2 := Box.cells K.2.2.1
  replace kl2 := Box.lt K.2.2.1
  replace L : Below _ _ _ := K.2.2.2.2.2.1
  have hl2 : br < w2.heap.size := hrow.lt
  have lb1 : b < w1.heap.size := by have := L1.size; omega
  have nb : br ≠ b := by omega
  have hlA : It.off br (.rd A N (by8 g)) := fun k o hA => by
    subst hA
    obtain ⟨k', o', e, hlt, _⟩ := RA.some_ (rightB_pos hr)
    injection e with e
    injection e with e
    omega
  go_wp2
  have HK2 := Lib.hid ((show Kn w2 [.row br N (by8 (layJ W g x y n bb 0)), _, _, _, _, _] by rw [layJ_zero]; exact K).new w2.heap.size #[.int .i64 W, .int .i64 H, .slice (some ⟨br, 0, none⟩) N c2] 29 rfl)
  clear K kc1 kc2 kl1 kl2 RA RB kc0 hrow hb2 hO L
  generalize (w2.alloc (.cells #[.int .i64 W, .int .i64 H, .slice (some ⟨br, 0, none⟩) N c2] 29)) = w3 at HK2 ⊢
  go_loopw [14] (fun i wr => ∃ j : Nat, j ≤ n ∧ i = .int .i64 j ∧ Kn wr [.box w2.heap.size #[.int .i64 W, .int .i64 H, .slice (some ⟨br, 0, none⟩) N c2], .row br N (by8 (layJ W g x y n bb j)), .box (w.heap.size + 1) #[.int .i64 0, .int .i64 0, .slice none 0 0], .box w.heap.size #[.int .i64 W, .int .i64 H, .slice A N c], .rd A N (by8 g), .rd (some ⟨b, off, none⟩) (n * n) (by8 bb), .since w]) (fun i _ => n - (intOf i).toNat)
  case atStart => exact ⟨0, Nat.zero_le _, rfl, HK2.out⟩
  case round =>
    obtain ⟨j, hj, rfl, K⟩ := hrel
    clear HK2
    by_cases hlt : j < n
    · have HK := Lib.hid K
      clear K
      go_wp2
      have HK1 := Lib.hid (show Kn wr [_, .row br N (by8 (layJI W g x y n bb j 0)), _, _, _, _, _] from ⟨HK.out.1, Row.congr HK.out.2.1 (fun k _ => by simp only [by8]; rw [layJI_zero]), HK.out.2.2⟩)
      clear HK
      obtain ⟨wo, rfl⟩ : ∃ wo : World, wo = wr := ⟨_, rfl⟩
      go_loopw [15] (fun i wr => ∃ k : Nat, k ≤ n ∧ i = .int .i64 k ∧ Kn wr [.box w2.heap.size #[.int .i64 W, .int .i64 H, .slice (some ⟨br, 0, none⟩) N c2], .row br N (by8 (layJI W g x y n bb j k)), .box (w.heap.size + 1) #[.int .i64 0, .int .i64 0, .slice none 0 0], .box w.heap.size #[.int .i64 W, .int .i64 H, .slice A N c], .rd A N (by8 g), .rd (some ⟨b, off, none⟩) (n * n) (by8 bb), .since w]) (fun i _ => n - (intOf i).toNat)
      case atStart => exact ⟨0, Nat.zero_le _, rfl, HK1.out⟩
      case round =>
        obtain ⟨i, hi, rfl, K⟩ := hrel
        clear HK1
        by_cases hil : i < n
        ·
          replace kc0 := Box.cells K.1
          replace kl0 := Box.lt K.1
          replace kc3 := Box.cells K.2.2.2.1
          replace kl3 := Box.lt K.2.2.2.1
          replace RB : Rd _ _ _ _ := K.2.2.2.2.2.1
          replace L : Below _ _ _ := K.2.2.2.2.2.2.1
          by_cases hin : 0 ≤ x + i ∧ x + i < W ∧ 0 ≤ y + j ∧ y + j < H
          · obtain ⟨i0, i1, i2, i3⟩ := hin
            obtain ⟨a, ha⟩ := Int.eq_ofNat_of_zero_le i0
            obtain ⟨cc, hc⟩ := Int.eq_ofNat_of_zero_le i2
            have e1 : shI x i = a := by unfold shI; rw [if_neg (by omega)]; exact ha
            have e2 : shI y j = cc := by unfold shI; rw [if_neg (by omega)]; exact hc
            have q0 : a < W := by omega
            have q1 : cc * W + a < N := by
              have h1 := place_lt (W := W) (H := H) (x := a) (y := cc) q0 (by omega)
              have h2 := HNW.out
              omega
            have q1i : (0 : Int) ≤ (cc : Int) * W := Int.mul_nonneg (by omega) (by omega)
            have q1j : (cc : Int) * W + a < N := by exact_mod_cast q1
            have q1k : (0 : Int) ≤ (cc : Int) * W + a := by omega
            have q2 : j * n + i < n * n := place_lt hil hlt
            have q2i : (0 : Int) ≤ (j : Int) * n := Int.mul_nonneg (by omega) (by omega)
            have q2j : (j : Int) * n + i < (n : Int) * n := by exact_mod_cast q2
            have q2k : (0 : Int) ≤ (j : Int) * n + i := by omega
            have q3 : (cc : Int) < H := by omega
            have q4 : (a : Int) < W := by omega
            have HA := Lib.hid ha
            have HC := Lib.hid hc
            have cr := Row.cell K.2.1 q1
            have fr := Row.frozen K.2.1 (cc * W + a)
            have cs := Rd.at_ RB q2
            simp only [by8] at cr cs
            clear ha hc i0 i1 i2 i3
            have HE1 := Lib.hid e1
            have HE2 := Lib.hid e2
            clear e1 e2
            have HK := Lib.hid K
            clear K
            have tokA : True := trivial
            go_wp2_with fail
            refine (shifted_any _ _ (by omega) (by omega) _).mono ?_
            rintro e w' ⟨rfl, rfl⟩
            rw [HE1.out]
            go_wp2_with fail
            refine (shifted_any _ _ (by omega) (by omega) _).mono ?_
            rintro e w' ⟨rfl, rfl⟩
            rw [HE2.out]
            go_wp2
            have t1 : ((cc : Int) * W + a).toNat = cc * W + a := by
              have : ((cc * W + a : Nat) : Int) = (cc : Int) * W + a := by simp
              omega
            have t2 : ((j : Int) * n + i).toNat = j * n + i := by
              have : ((j * n + i : Nat) : Int) = (j : Int) * n + i := by simp
              omega
            have z1 : IntKind.i64.wrap ((cc : Int) * W) = (cc : Int) * W := IntWalk.i64_in _ (by omega)
            have z2 : IntKind.i64.wrap ((cc : Int) * W + a) = (cc : Int) * W + a := IntWalk.i64_in _ (by omega)
            have z3 : IntKind.i64.wrap ((j : Int) * n) = (j : Int) * n := IntWalk.i64_in _ (by omega)
            have z4 : IntKind.i64.wrap ((j : Int) * n + i) = (j : Int) * n + i := IntWalk.i64_in _ (by omega)
            refine wp_region_ord [(0,0),(1,0),(2,0),(3,0),(4,0),(5,0),(6,0),(7,0),(8,0),(9,0),(10,0),(11,0),(12,0),(13,0),(14,0),(15,0),(16,0),(17,2)] (by kernel_rfl) (by kernel_rfl) (fun _ _ d _ _ h => by cases d <;> exact h) ?_
            repeat (refine wpOrd_still rfl (fun KK hKK => ?_); go_simp; first | (refine hKK _ ?_; clear hKK KK))
            refine wpOrd_do rfl (fun KK hKK => ?_)
            go_simp
            refine hKK _ _ ?_
            clear hKK KK
            refine wpOrd_nil ?_
            clear z1 z2 z3 z4 t1 t2
            go_wp2
            go_roundw
            case rel =>
              refine ⟨i + 1, hil, by go_num, ?_⟩
              have KK := Kn.drew HK.out
              have KS := Kn.setRow (l := [.box w2.heap.size #[.int .i64 W, .int .i64 H, .slice (some ⟨br, 0, none⟩) N c2], .box (w.heap.size + 1) #[.int .i64 0, .int .i64 0, .slice none 0 0], .box w.heap.size #[.int .i64 W, .int .i64 H, .slice A N c], .rd A N (by8 g), .rd (some ⟨b, off, none⟩) (n * n) (by8 bb), .since w]) ⟨KK.2.1, KK.1, KK.2.2⟩ (cc * W + a) (.int .u8 (bb (j * n + i))) ⟨by simp [It.off]; omega, by simp [It.off]; omega, by simp [It.off]; omega, hlA, off_rd (by omega), by simp [It.off]; omega, trivial⟩
              refine ⟨KS.2.1, Row.congr KS.1 (fun k _ => ?_), KS.2.2⟩
              have := layJI_set (g := g) (bb := bb) (n := n) (k := k) HA.out HC.out q0
              simp only [by8]
              rw [← this]
              split <;> rfl
            case measure => simp [intOf]; omega
          · have HI := Lib.hid hin
            have HK := Lib.hid K
            have hin2 : ¬ (0 ≤ shI x i ∧ shI x i < W ∧ 0 ≤ shI y j ∧ shI y j < H) := by
              unfold shI
              split <;> split <;> omega
            clear hin K
            go_wp2_with fail
            refine (shifted_any _ _ (by omega) (by omega) _).mono ?_
            rintro e w' ⟨rfl, rfl⟩
            go_wp2_with fail
            refine (shifted_any _ _ (by omega) (by omega) _).mono ?_
            rintro e w' ⟨rfl, rfl⟩
            generalize shI x i = a at hin2 ⊢
            generalize shI y j = cc at hin2 ⊢
            have hT : (decide (0 ≤ a) && decide (a < (W : Int)) && decide (0 ≤ cc) && decide (cc < (H : Int))) = false := by
              rw [Bool.eq_false_iff]
              intro h
              simp only [Bool.and_eq_true, decide_eq_true_eq, and_assoc] at h
              exact hin2 h
            go_wp2
            all_goals exact ⟨⟨i + 1, hil, by go_num, HK.out.1, Row.congr HK.out.2.1 (fun k hk => by simp only [by8]; rw [layJI_skip (by omega) (by have := HNW.out; omega) HI.out]), HK.out.2.2⟩, by simp [intOf]; omega⟩
        · have hin : i = n := by omega
          subst hin
          have HK := Lib.hid K
          clear K
          go_wp2
          exact ⟨⟨j + 1, hlt, by go_num, HK.out.1, Row.congr HK.out.2.1 (fun k _ => by simp only [by8]; rw [layJI_full]), HK.out.2.2⟩, by simp [intOf]; omega⟩
    · have hjn : j = n := by omega
      subst hjn
      replace kc0 := Box.cells K.1
      replace kl0 := Box.lt K.1
      replace kc2 := Box.cells K.2.2.1
      replace kl2 := Box.lt K.2.2.1
      replace kf2 := Box.frees K.2.2.1
      replace L : Below _ _ _ := K.2.2.2.2.2.2.1
      go_wp2
      refine bodyPost_ret (v := .tuple #[.agg #[.int .i64 W, .int .i64 H, .slice (some ⟨br, 0, none⟩) N c2], .int .i64 0]) (by simp [results, Try.results35, go_sem, kc2]) rfl ?_
      exact ⟨_, _, rfl, Row.rd (((Row.far K.2.1 (p := ⟨w.heap.size + 1, 0, none⟩) (by simp; omega) _).far (p := ⟨w.heap.size + 1, 1, none⟩) (by simp; omega) _).far (p := ⟨w.heap.size + 1, 2, none⟩) (by simp; omega) _), hcap, hcm, ((L.setCell (p := ⟨w.heap.size + 1, 0, none⟩) (by simp) _).setCell (p := ⟨w.heap.size + 1, 1, none⟩) (by simp) _).setCell (p := ⟨w.heap.size + 1, 2, none⟩) (by simp) _⟩
end Go.Proofs.Ytlkogokhcdehfaa
