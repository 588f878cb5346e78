/- DeblockFlat: a plane of one sample stays, and so does one whose columns are 0 and four times the strength by turns: proved for all sides, samples and quantisers, no condition. -/
import Derived.Test.YtlkogokhcdehfaaDw4
import Derived.Test.YtlkogokhcdehfaaDm3
import Derived.Test.YtlkogokhcdehfaaRg3
import Derived.Test.YtlkogokhcdehfaaKn4
import Derived.Test.YtlkogokhcdehfaaClose
import Derived.Deep.DeepCutAuto
namespace Go.Proofs.Ytlkogokhcdehfaa
open Go.ChangeShapes Go.WideShapes Go.ChangeAt Go.RowKit Go.Joins Go.Kin
set_option linter.unusedVariables false

namespace DeblockFlat
set_option maxRecDepth 100000 in
set_option maxHeartbeats 4000000 in
theorem walk_no (w : World) (a b v q : Int) (h : a < 1 ∨ (¬ a < 1 ∧ b < 1) ∨ (¬ a < 1 ∧ ¬ b < 1 ∧ 60 < a) ∨ (¬ a < 1 ∧ ¬ b < 1 ∧ ¬ 60 < a ∧ 60 < b) ∨ (¬ a < 1 ∧ ¬ b < 1 ∧ ¬ 60 < a ∧ ¬ 60 < b ∧ q < 0) ∨ (¬ a < 1 ∧ ¬ b < 1 ∧ ¬ 60 < a ∧ ¬ 60 < b ∧ ¬ q < 0 ∧ 31 < q)) :
    Calls Try.prog 6 #[.agg #[.int .i64 a, .int .i64 b], .int .u8 v, .int .i64 q] w fun e w' => e = .returned (.bool true) ∧ Below w.heap.size w w' := by
  have K := Kn.start w
  rcases h with h1 | ⟨h1, h2⟩ | ⟨h1, h2, h3⟩ | ⟨h1, h2, h3, h4⟩ | ⟨h1, h2, h3, h4, h5⟩ | ⟨h1, h2, h3, h4, h5, h6⟩
  all_goals go_enter Try.func6, Try.ntmps6
  all_goals go_wp2_with fail
  all_goals refine (alive11 _).mono ?_
  all_goals rintro e w1 ⟨rfl, hb1⟩
  all_goals replace K := (K.new w.heap.size _ _ rfl).below hb1
  all_goals clear hb1
  all_goals replace L : Below _ _ _ := K.2.1
  all_goals go_wp2
  all_goals go_ret
  all_goals exact ⟨rfl, L⟩

set_option maxRecDepth 100000 in
set_option maxHeartbeats 4000000 in
theorem walk_yes (w : World) (W H N : Nat) (v q : Int) (hv : 0 ≤ v ∧ v ≤ 255) (w1 : 1 ≤ (W : Int)) (w2 : (W : Int) ≤ 60) (h1 : 1 ≤ (H : Int)) (h2 : (H : Int) ≤ 60) (q0 : 0 ≤ q) (q1 : q ≤ 31) (hN : (W : Int) * H = N) :
    Calls Try.prog 6 #[.agg #[.int .i64 W, .int .i64 H], .int .u8 v, .int .i64 q] w fun e w' => e = .returned (.bool true) ∧ Below w.heap.size w w' := by
  have hs : sidesB W H = true := sidesB_iff.2 ⟨by omega, by omega, by omega, by omega⟩
  have hr : rightB W H N = true := rightB_iff.2 ⟨by omega, by omega, by omega, by omega, hN.symm⟩
  have hk : knownB q = true := by simp [knownB]; omega
  have hn1 := rightB_pos hr
  have hn2 : N ≤ 3600 := by
    have := Int.mul_le_mul w2 h2 (by omega) (by omega)
    omega
  have HN := Lib.hid hN
  clear hN
  obtain ⟨i0, hi0, hz0, hz1, hz2⟩ := parts_u8
  have HI := Lib.hid hi0
  clear hi0
  have K := Kn.start w
  go_enter Try.func6, Try.ntmps6
  go_wp2_with fail
  refine (new_yes W H v N _ hs HN.out).mono ?_
  rintro e u1 ⟨b1, rfl, hb1, hr1, hL1⟩
  replace K := ((K.new w.heap.size _ _ rfl).below hL1).add (x := .row b1 N (by8 fun _ => v)) hr1
  clear hL1 hr1
  replace R1 : Row _ _ _ _ := K.1
  replace kc1 := Box.cells K.2.1
  replace kl1 := Box.lt K.2.1
  replace L : Below _ _ _ := K.2.2.1
  go_wp2_with fail
  refine (dplane_yes W H q _ N N (fun _ => v) _ hr hk (R1.alloc _).rd (fun _ => hv)).mono ?_
  rintro e u2 ⟨b2, rfl, hb2, hr2, hL2⟩
  replace K := ((K.new u1.heap.size _ _ rfl).below hL2).add (x := .row b2 N (by8 fun _ => v)) (Row.congr hr2 (fun k _ => by rw [dbP_flat hv]))
  clear hL2 hr2
  replace kc1 := Box.cells K.2.1
  replace kl1 := Box.lt K.2.1
  replace R1 : Row _ _ _ _ := K.2.2.1
  replace kc3 := Box.cells K.2.2.2.1
  replace kl3 := Box.lt K.2.2.2.1
  replace L : Below _ _ _ := K.2.2.2.2.1
  go_wp2
  have K0 := K.new u2.heap.size #[.int .i64 W, .int .i64 H, .slice (some ⟨b2, 0, none⟩) N N] 29 rfl
  clear K kc1 kl1 kc3 kl3 R1 L
  have t0 := Box.lt K0.1
  have t1 := Row.lt K0.2.1
  have t2 := Box.lt K0.2.2.1
  have t3 := Row.lt K0.2.2.2.1
  have t4 := Box.lt K0.2.2.2.2.1
  generalize hu3 : u2.alloc (.cells #[.int .i64 W, .int .i64 H, .slice (some ⟨b2, 0, none⟩) N N] 29) = u3 at K0 t0 t1 t2 t3 t4 ⊢
  clear hu3
  go_cut [11] (fun p w' => ∃ b3 br c', p = .pointer (some ⟨b3, 0, none⟩) ∧ u3.heap.size ≤ b3 ∧ u3.heap.size ≤ br ∧ b3 ≠ br ∧ N ≤ c' ∧ Kn w' [.box b3 #[.int .i64 W, .int .i64 H, .slice (some ⟨br, 0, none⟩) N c'], .row br N (by8 fun _ => v), .box u2.heap.size #[.int .i64 W, .int .i64 H, .slice (some ⟨b2, 0, none⟩) N N], .row b2 N (by8 fun _ => v), .box u1.heap.size #[.int .i64 W, .int .i64 H, .slice (some ⟨b1, 0, none⟩) N N], .row b1 N (by8 fun _ => v), .box w.heap.size #[.int .i64 W, .int .i64 H], .since w])
  case first =>
    have KD := Kn.drew K0
    have hz : u3.drew.heap.size = u3.heap.size := rfl
    refine wp_region_ordH (fun w' => Kn w' [.box w.heap.size #[.int .i64 W, .int .i64 H], .box u1.heap.size #[.int .i64 W, .int .i64 H, .slice (some ⟨b1, 0, none⟩) N N]]) [4, 7, 9, 10] [(0, 1), (1, 1), (2, 1), (3, 1), (5, 1), (6, 1)] _ (by kernel_rfl) (by kernel_rfl) (fun _ _ d _ _ h => by cases d <;> exact h) ⟨KD.2.2.2.2.1, KD.2.2.1, trivial⟩ (fun _ _ _ h => h) ?_
    generalize u3.drew = u4 at *
    repeat (first | (refine oH_freeG rfl rfl (fun w' hS => by have s1 := Box.cells hS.1; have s2 := Box.cells hS.2.1; clear hS; go_simp; with_reducible rfl) ?_; go_simp) | (refine oH_skipG rfl rfl ?_; go_simp))
    refine oH_nil ?_
    refine wpH_fork (i := 4) (j := 9) (by kernel_rfl) (by kernel_rfl) ?_ ?_
    · refine wpOp_do rfl (fun K' hK' => ?_)
      go_simp
      have KA := KD.alloc (.cells #[] 5)
      have OA := OwnS.empty u4 5 (by8 fun _ => v) (b := u3.heap.size) (base := u3.heap.size) hz.symm (Nat.le_refl _)
      refine hK' _ _ ⟨⟨KA.2.2.2.2.1, KA.2.2.1, trivial⟩, ?_⟩
      clear hK' K'
      refine wpH_fork (i := 7) (j := 9) (by kernel_rfl) (by kernel_rfl) ?_ ?_
      · refine wpOp_do rfl (fun K' hK' => ?_)
        obtain ⟨br, c', u5, hrun, hR5, hc5, hbr, ho5⟩ := app_fresh (P := Try.prog) (ty := 27) (d := N) Try.underlying27 HI.out hz0 hz1 hz2 rfl OA (Row.rd KA.2.2.2.1) (fun _ => rfl) hn1 (by unfold maxLen; omega) (by omega) (by simp [hz])
        refine wp_app rfl rfl hrun ?_
        have K5 := KA.othS ho5 (KD.offS (Nat.le_of_eq hz))
        refine hK' _ _ ⟨⟨K5.2.2.2.2.1, K5.2.2.1, trivial⟩, ?_⟩
        clear hK' K'
        refine wpH_rest [(8, 1), (9, 2), (10, 2)] rfl (by kernel_rfl) (fun _ _ d _ _ h => by cases d <;> exact h) ⟨K5.2.2.2.2.1, K5.2.2.1, trivial⟩ ?_
        refine oH_free rfl (fun w' hS => by go_simp; with_reducible rfl) ?_
        go_simp
        refine oH_do rfl (fun K' hK' => ?_)
        go_simp
        refine hK' _ _ ⟨⟨Box.alloc K5.2.2.2.2.1 _, Box.alloc K5.2.2.1 _, trivial⟩, ?_⟩
        clear hK' K'
        refine oH_do rfl (fun K' hK' => ?_)
        go_simp
        refine hK' _ _ ⟨⟨Box.alloc K5.2.2.2.2.1 _, Box.alloc K5.2.2.1 _, trivial⟩, ?_⟩
        clear hK' K'
        refine oH_nil ?_
        go_wp2
        go_meet
        case rel =>
          have s5 := ho5.size
          have lr := hR5.lt
          simp [hz] at s5
          have hbr2 : u3.heap.size ≤ br := by rcases hbr with h | h <;> (try simp [hz] at h) <;> omega
          exact ⟨u5.heap.size, br, c', rfl, by omega, hbr2, by omega, hc5, (K5.add (x := .row br N (by8 fun _ => v)) hR5).new u5.heap.size _ _ rfl⟩
      · refine wpOp_do rfl (fun K' hK' => ?_)
        go_simp
        have KB := KA.new (u3.heap.size + 1) #[.int .i64 0, .int .i64 0, .slice none 0 0] 29 (by simp [hz])
        have OB := OA.alloc (.cells #[.int .i64 0, .int .i64 0, .slice none 0 0] 29)
        refine hK' _ _ ⟨⟨KB.2.2.2.2.2.1, KB.2.2.2.1, trivial⟩, ?_⟩
        clear hK' K'
        refine wpH_rest [(7, 2), (8, 1), (10, 2)] rfl (by kernel_rfl) (fun _ _ d _ _ h => by cases d <;> exact h) ⟨KB.2.2.2.2.2.1, KB.2.2.2.1, trivial⟩ ?_
        refine oH_do rfl (fun K' hK' => ?_)
        obtain ⟨br, c', u5, hrun, hR5, hc5, hbr, ho5⟩ := app_fresh (P := Try.prog) (ty := 27) (d := N) Try.underlying27 HI.out hz0 hz1 hz2 rfl OB (Row.rd KB.2.2.2.2.1) (fun _ => rfl) hn1 (by unfold maxLen; omega) (by omega) (by simp [hz]; try omega)
        refine wp_app rfl rfl hrun ?_
        have K5 := KB.othS ho5 ⟨by simp [It.offS], KD.offS (Nat.le_of_eq hz)⟩
        refine hK' _ _ ⟨⟨K5.2.2.2.2.2.1, K5.2.2.2.1, trivial⟩, ?_⟩
        clear hK' K'
        refine oH_free rfl (fun w' hS => by go_simp; with_reducible rfl) ?_
        go_simp
        have kc := Box.cells K5.1
        have kf := Box.frees K5.1
        have hbr2 : u3.heap.size ≤ br ∧ br ≠ u3.heap.size + 1 := by rcases hbr with h | h <;> (try simp [hz] at h) <;> omega
        refine oH_do rfl (fun K' hK' => ?_)
        go_simp
        have K6 := (K5.tuck (x := .row br N (by8 fun _ => v)) hR5).set3 0 (.int .i64 W) (.int .i64 H) (.slice (some ⟨br, 0, none⟩) N c') ⟨by simp [It.off]; omega, by simp [It.off]; omega, by simp [It.off]; omega, by simp [It.off]; omega, by simp [It.off]; omega, by simp [It.off]; omega, by simp [It.off]; omega, trivial⟩
        refine hK' _ _ ⟨⟨K6.2.2.2.2.2.2.1, K6.2.2.2.2.1, trivial⟩, ?_⟩
        clear hK' K'
        refine oH_nil ?_
        go_wp2
        go_meet
        case rel => exact ⟨u3.heap.size + 1, br, c', rfl, by omega, hbr2.1, by omega, hc5, K6⟩
    · refine wpOp_do rfl (fun K' hK' => ?_)
      go_simp
      have KA := KD.new u3.heap.size #[.int .i64 0, .int .i64 0, .slice none 0 0] 29 hz.symm
      refine hK' _ _ ⟨⟨KA.2.2.2.2.2.1, KA.2.2.2.1, trivial⟩, ?_⟩
      clear hK' K'
      refine wpH_rest [(4, 2), (7, 2), (8, 1), (10, 2)] rfl (by kernel_rfl) (fun _ _ d _ _ h => by cases d <;> exact h) ⟨KA.2.2.2.2.2.1, KA.2.2.2.1, trivial⟩ ?_
      refine oH_do rfl (fun K' hK' => ?_)
      go_simp
      have KB := KA.alloc (.cells #[] 5)
      have OB := OwnS.empty (u4.alloc (.cells #[.int .i64 0, .int .i64 0, .slice none 0 0] 29)) 5 (by8 fun _ => v) (b := u3.heap.size + 1) (base := u3.heap.size) (by simp [hz]) (by omega)
      refine hK' _ _ ⟨⟨KB.2.2.2.2.2.1, KB.2.2.2.1, trivial⟩, ?_⟩
      clear hK' K'
      refine oH_do rfl (fun K' hK' => ?_)
      obtain ⟨br, c', u5, hrun, hR5, hc5, hbr, ho5⟩ := app_fresh (P := Try.prog) (ty := 27) (d := N) Try.underlying27 HI.out hz0 hz1 hz2 rfl OB (Row.rd KB.2.2.2.2.1) (fun _ => rfl) hn1 (by unfold maxLen; omega) (by omega) (by simp [hz]; try omega)
      refine wp_app rfl rfl hrun ?_
      have K5 := KB.othS ho5 ⟨by simp [It.offS], KD.offS (by omega)⟩
      refine hK' _ _ ⟨⟨K5.2.2.2.2.2.1, K5.2.2.2.1, trivial⟩, ?_⟩
      clear hK' K'
      refine oH_free rfl (fun w' hS => by go_simp; with_reducible rfl) ?_
      go_simp
      have kc := Box.cells K5.1
      have kf := Box.frees K5.1
      have hbr2 : u3.heap.size ≤ br ∧ br ≠ u3.heap.size := by rcases hbr with h | h <;> (try simp [hz] at h) <;> omega
      refine oH_do rfl (fun K' hK' => ?_)
      go_simp
      have K6 := (K5.tuck (x := .row br N (by8 fun _ => v)) hR5).set3 0 (.int .i64 W) (.int .i64 H) (.slice (some ⟨br, 0, none⟩) N c') ⟨by simp [It.off]; omega, by simp [It.off]; omega, by simp [It.off]; omega, by simp [It.off]; omega, by simp [It.off]; omega, by simp [It.off]; omega, by simp [It.off]; omega, trivial⟩
      refine hK' _ _ ⟨⟨K6.2.2.2.2.2.2.1, K6.2.2.2.2.1, trivial⟩, ?_⟩
      clear hK' K'
      refine oH_nil ?_
      go_wp2
      go_meet
      case rel => exact ⟨u3.heap.size, br, c', rfl, Nat.le_refl _, hbr2.1, by omega, hc5, K6⟩
  case rest =>
    obtain ⟨b3, br, c', rfl, x1, x2, x3, x4, K⟩ := hcut
    have OF : OffsS br [.box u2.heap.size #[.int .i64 W, .int .i64 H, .slice (some ⟨b2, 0, none⟩) N N], .row b2 N (by8 fun _ => v), .box u1.heap.size #[.int .i64 W, .int .i64 H, .slice (some ⟨b1, 0, none⟩) N N], .row b1 N (by8 fun _ => v), .box w.heap.size #[.int .i64 W, .int .i64 H], .since w] := K0.offS x2
    clear K0
    go_wp2
    have HK := Lib.hid (show Kn wc [.row br N (by8 fun i => if i < 0 then turns W q i else v), .box b3 #[.int .i64 W, .int .i64 H, .slice (some ⟨br, 0, none⟩) N c'], .box u2.heap.size #[.int .i64 W, .int .i64 H, .slice (some ⟨b2, 0, none⟩) N N], .row b2 N (by8 fun _ => v), .box u1.heap.size #[.int .i64 W, .int .i64 H, .slice (some ⟨b1, 0, none⟩) N N], .row b1 N (by8 fun _ => v), .box w.heap.size #[.int .i64 W, .int .i64 H], .since w] from ⟨Row.congr K.2.1 (fun i _ => by simp), K.1, K.2.2⟩)
    clear K
    go_loopw [12] (fun i wr => ∃ k : Nat, k ≤ N ∧ i = .int .i64 k ∧ Kn wr [.row br N (by8 fun i => if i < k then turns W q i else v), .box b3 #[.int .i64 W, .int .i64 H, .slice (some ⟨br, 0, none⟩) N c'], .box u2.heap.size #[.int .i64 W, .int .i64 H, .slice (some ⟨b2, 0, none⟩) N N], .row b2 N (by8 fun _ => v), .box u1.heap.size #[.int .i64 W, .int .i64 H, .slice (some ⟨b1, 0, none⟩) N N], .row b1 N (by8 fun _ => v), .box w.heap.size #[.int .i64 W, .int .i64 H], .since w]) (fun i _ => N - (intOf i).toNat)
    case atStart => exact ⟨0, Nat.zero_le _, rfl, HK.out⟩
    case round =>
      obtain ⟨k, hkn, rfl, K⟩ := hrel
      clear HK
      have kc1 := Box.cells K.2.1
      by_cases hlt : k < N
      · have kc6 := Box.cells K.2.2.2.2.2.2.1
        have cr := Row.cell K.1 hlt
        have fr := Row.frozen K.1 k
        simp only [by8, Nat.lt_irrefl, if_false] at cr
        have HK := Lib.hid K
        clear K
        go_wp2
        have te : turns W q k = (k : Int) % W % 2 * 4 * (q / 2) := by simp [turns]
        have tb := turns_bd (W := W) q0 q1 k
        have HT := Lib.hid te
        rw [te] at tb
        clear te
        have mm : 0 ≤ (k : Int) % W % 2 ∧ (k : Int) % W % 2 ≤ 1 := by omega
        have mw : 0 ≤ (k : Int) % W := Int.emod_nonneg _ (by omega)
        have e0 : ((W : Int) == 0) = false := by simp; omega
        have e1 : ¬ (W : Int) = 0 := by omega
        have e2 : ¬ W = 0 := by omega
        have y1 : Int.tmod (k : Int) (W : Int) = (k : Int) % W := Int.tmod_eq_emod_of_nonneg (by omega)
        have y2 : Int.tmod ((k : Int) % W) 2 = (k : Int) % W % 2 := Int.tmod_eq_emod_of_nonneg mw
        have y3 : Int.tdiv q 2 = q / 2 := Int.tdiv_eq_ediv_of_nonneg q0
        have z1 : IntKind.i64.wrap (q / 2) = q / 2 := IntWalk.i64_in _ (by omega)
        have z2 : IntKind.i64.wrap ((k : Int) % W % 2 * 4) = (k : Int) % W % 2 * 4 := IntWalk.i64_in _ (by omega)
        have z3 : IntKind.i64.wrap ((k : Int) % W % 2 * 4 * (q / 2)) = (k : Int) % W % 2 * 4 * (q / 2) := IntWalk.i64_in _ (by omega)
        have z4 : IntKind.u8.wrap ((k : Int) % W % 2 * 4 * (q / 2)) = (k : Int) % W % 2 * 4 * (q / 2) := IntWalk.u8_in _ tb
        have z5 : IntKind.i64.wrap ((k : Int) % W) = (k : Int) % W := IntWalk.i64_in _ (by have := Int.emod_lt_of_pos (k : Int) (show (0 : Int) < W by omega); omega)
        have z6 : IntKind.i64.wrap ((k : Int) % W % 2) = (k : Int) % W % 2 := IntWalk.i64_in _ (by omega)
        refine wp_region_ord [(0,0),(1,0),(2,0),(3,0),(4,0),(5,0),(6,0),(7,0),(8,0),(9,0),(10,0),(11,0),(12,0),(13,0),(14,2)] (by kernel_rfl) (by kernel_rfl) (fun _ _ d _ _ h => by cases d <;> exact h) ?_
        repeat (refine wpOrd_still rfl (fun KK hKK => ?_); go_simp; first | (refine hKK _ ?_; clear hKK KK))
        refine wpOrd_do rfl (fun KK hKK => ?_)
        go_simp
        refine hKK _ _ ?_
        clear hKK KK
        refine wpOrd_nil ?_
        clear z1 z2 z3 z4 z5 z6 y1 y2 y3
        go_wp2
        go_roundw
        case rel =>
          refine ⟨k + 1, hlt, by go_num, (Kn.setRowS (Kn.drew HK.out) k _ ⟨x3, OF⟩).row fun i _ => ?_⟩
          simp only [by8]
          by_cases f1 : i = k
          · subst f1; simp [HT.out]
          · by_cases f2 : i < k
            · simp [f1, f2, show i < k + 1 by omega]
            · simp [f1, f2, show ¬ i < k + 1 by omega]
        case measure => simp [intOf]; omega
      · have hkN : k = N := by omega
        subst hkN
        replace RR : Row _ _ _ _ := K.1
        replace kc1 := Box.cells K.2.1
        replace kl1 := Box.lt K.2.1
        replace L : Below _ _ _ := K.2.2.2.2.2.2.2.1
        go_wp2_with fail
        refine (dplane_yes W H q _ k c' (turns W q) _ hr hk (Row.rd (Row.congr RR (fun i hi => by simp [by8, hi]))) (turns_bd q0 q1)).mono ?_
        rintro e u6 ⟨b6, rfl, hb6, hr6, hL6⟩
        replace K := (K.below hL6).add (x := .row b6 k (by8 (turns W q))) (Row.congr hr6 (fun i _ => by rw [turns_db q0 q1]))
        clear hL6 hr6
        go_wp2_with fail
        refine (alive11 _).mono ?_
        rintro e w7 ⟨rfl, hb7⟩
        replace K := (K.new u6.heap.size _ _ rfl).below hb7
        clear hb7
        replace kc0 := Box.cells K.1
        replace kl0 := Box.lt K.1
        replace R6 : Row _ _ _ _ := K.2.1
        replace RR : Row _ _ _ _ := K.2.2.1
        replace kc3 := Box.cells K.2.2.2.1
        replace kl3 := Box.lt K.2.2.2.1
        replace kc4 := Box.cells K.2.2.2.2.1
        replace kl4 := Box.lt K.2.2.2.2.1
        replace R2 : Row _ _ _ _ := K.2.2.2.2.2.1
        replace kc6 := Box.cells K.2.2.2.2.2.2.1
        replace kl6 := Box.lt K.2.2.2.2.2.2.1
        replace R1 : Row _ _ _ _ := K.2.2.2.2.2.2.2.1
        replace L : Below _ _ _ := K.2.2.2.2.2.2.2.2.2.1
        have t1 := conv_any (c := k) R2.rd
        have t2 := conv_any (c := k) R1.rd
        have t3 := conv_any (c := k) R6.rd
        have t4 := conv_any (c := c') (Row.rd (Row.congr (g := by8 (turns W q)) RR (fun i hi => by simp [by8, hi])))
        go_wp2
        go_ret
        exact ⟨rfl, L⟩

theorem walk (w : World) (a b : Int) (ia : I64 a) (ib : I64 b) (v : Int) (iv : 0 ≤ v ∧ v ≤ 255) (q : Int) (iq : I64 q) :
    Calls Try.prog 6 #[.agg #[.int .i64 a, .int .i64 b], .int .u8 v, .int .i64 q] w fun e w' => e = .returned (.bool true) ∧ Below w.heap.size w w' := by
  by_cases hc : 1 ≤ a ∧ 1 ≤ b ∧ a ≤ 60 ∧ b ≤ 60 ∧ 0 ≤ q ∧ q ≤ 31
  · obtain ⟨c1, c2, c3, c4, c5, c6⟩ := hc
    obtain ⟨W, rfl⟩ := Int.eq_ofNat_of_zero_le (show 0 ≤ a by omega)
    obtain ⟨H, rfl⟩ := Int.eq_ofNat_of_zero_le (show 0 ≤ b by omega)
    exact walk_yes w W H (W * H) v q iv c1 c3 c2 c4 c5 c6 (by simp)
  · exact walk_no w a b v q (by omega)
end DeblockFlat
namespace DeblockFlat
set_option maxRecDepth 100000 in
theorem lifted (os : Os) (started : os.Started) (H : Type) (enc : TypeId × Value → H) :
    ReturnsInHanded {} Try.checked os 6 .any (Rows.deblockFlatSpec.pre6 enc Try.prog Try.f6 Rows.deblockFlatRow.domain false) (Rows.deblockFlatSpec.post enc Try.prog Try.f6 false true false false) := by
  refine returnsInHanded_of_change (C := Try.checked) own started (by kernel_rfl) Try.func6
    (ChangeSpec.witness6 (enc := enc) (C := Try.checked) false ⟨#[], #[.agg #[.int .i64 0, .int .i64 0], .int .u8 0, .int .i64 0], []⟩ 8 (by kernel_rfl) (by kernel_rfl) (by kernel_rfl) (by kernel_rfl)) ?_
  intro W base args ds gs before hval0 hW hcnd _
  have hval : ∀ (j : Nat) t v, Try.f6.params[j]? = some t → args[j]? = some v → Value.okWide Try.prog W .any base t v := hval0
  refine law_post (tb := 4) laidOut (by kernel_rfl) rfl Try.underlying4 rfl (fun ds' h => ?_) hW ?_
  · rw [Try.params6] at h
    match ds', h with
    | [d1, d2, d3], _ => exact ⟨rfl, rfl, rfl⟩
  obtain ⟨p, q, hA0, hV, rfl, hfz, hnd⟩ := hW
  have hA : DataW.TrodAll enc Try.prog W 0 (fun _ => true) true Try.f6.params.toList args.toList ds p := hA0
  rw [Try.params6] at hA hval
  obtain ⟨v0, vs0, d0, ds0, p0, q0, hargs, rfl, rfl, h0, r0⟩ := trodAll_cons hA
  obtain ⟨v1, vs1, d1, ds1, p1, q1, rfl, rfl, rfl, h1, r1⟩ := trodAll_cons r0
  obtain ⟨v2, vs2, d2, ds2, p2, q2, rfl, rfl, rfl, h2, r2⟩ := trodAll_cons r1
  obtain ⟨rfl, rfl, rfl⟩ := trodAll_nil r2
  obtain rfl : args = #[v0, v1, v2] := by cases args; simp_all
  obtain ⟨a0, b0, rfl, w0, x0⟩ := open_arr2 Try.underlying35 Try.underlying3 (by kernel_rfl) (by kernel_rfl) (hval 0 35 v0 rfl rfl) h0
  obtain ⟨a1, rfl, rfl, rfl, w1⟩ := open_int Try.underlying5 (hval 1 5 v1 rfl rfl) h1
  obtain ⟨a2, rfl, rfl, rfl, w2⟩ := open_int Try.underlying3 (hval 2 3 v2 rfl rfl) h2
  exact walk W a0 b0 w0 x0 a1 (bounds_u8 w1) a2 (bounds_i64 w2)
theorem over : Rows.deblockFlatRow.holds Try.pinned (OpenSpec.ofChange Rows.deblockFlatSpec) :=
  OpenClaim.holds_of_wide 6 Try.f6 rfl rfl rfl rfl rfl rfl rfl ⟨rfl, rfl, rfl, rfl, rfl⟩ rfl rfl rfl rfl rfl (by kernel_rfl) Try.func6 (by kernel_rfl)
    (of_decide_eq_true (by kernel_rfl)) (by unfold Func.isWrapper; first | (rw [if_pos (by decide +kernel)]; kernel_rfl) | (rw [if_neg (by decide +kernel)]; exact ⟨rfl, rfl⟩))
    (fun os started H enc _ => lifted os started H enc)
end DeblockFlat
theorem deblockFlat_holds : Rows.DeblockFlatSaid := DeblockFlat.over

end Go.Proofs.Ytlkogokhcdehfaa
