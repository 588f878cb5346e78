/- Walks of package plane: nearest, ahead, own. -/
import Derived.Test.YtcojphdohpgjnaaRp0
import Derived.Test.YtcojphdohpgjnaaRg2
import Derived.Deep.DeepCutAuto
namespace Go.Proofs.Ytcojphdohpgjnaa
open Go.RowKit Go.Kin
set_option linter.unusedVariables false

def nearI (v lo hi : Int) : Int := min (max v lo) hi
set_option maxHeartbeats 400000 in
theorem nearest_any (v lo hi : Int) (w : World) :
    Calls Try.prog 60 #[.int .i64 v, .int .i64 lo, .int .i64 hi] w fun e w' => e = .returned (.int .i64 (nearI v lo hi)) ∧ w = w' := by
  have H := Lib.hid (show nearI v lo hi = min (max v lo) hi from rfl)
  go_enter Try.func60, Try.ntmps60
  go_wp2
  go_ret
  exact ⟨ret_int (by rw [H.out]), rfl⟩

/-- The place of a side that is nearest to v and i. -/
def aheadI (v i side : Int) : Int := if side ≤ v then side - 1 else min (max (v + i) 0) (side - 1)
theorem ahead_bd {v i side : Int} (hs : 1 ≤ side) : 0 ≤ aheadI v i side ∧ aheadI v i side < side := by unfold aheadI; split <;> omega
set_option maxHeartbeats 400000 in
theorem ahead_any (v i side : Int) (iv : -9223372036854775808 ≤ v) (hi : 0 ≤ i ∧ i ≤ 4096) (hs : 1 ≤ side ∧ side ≤ 4096) (w : World) :
    Calls Try.prog 49 #[.int .i64 v, .int .i64 i, .int .i64 side] w fun e w' => e = .returned (.int .i64 (aheadI v i side)) ∧ w = w' := by
  obtain ⟨i0, i1⟩ := hi
  obtain ⟨s0, s1⟩ := hs
  by_cases h : side ≤ v
  · have H := Lib.hid (show aheadI v i side = side - 1 by unfold aheadI; rw [if_pos h])
    go_enter Try.func49, Try.ntmps49
    go_wp2_with fail
    go_ret
    exact ⟨ret_int (by rw [H.out]), rfl⟩
  · have H := Lib.hid (show aheadI v i side = min (max (v + i) 0) (side - 1) by unfold aheadI; rw [if_neg h])
    go_enter Try.func49, Try.ntmps49
    go_wp2_with (go_at_call 60; refine (nearest_any _ _ _ _).mono ?_; rintro e w' ⟨rfl, rfl⟩)
    go_ret
    exact ⟨ret_int (by rw [H.out]; rfl), rfl⟩

/-- A plane of its own whose samples lie in a row that is known. -/
def NewPlane (a b : Int) (n : Nat) (g : Nat → Int) (w : World) (e : Ending) (w' : World) : Prop :=
  ∃ br, e = .returned (.agg #[.int .i64 a, .int .i64 b, .slice (some ⟨br, 0, none⟩) n n]) ∧ w.heap.size ≤ br ∧ Row w' br n (by8 g) ∧ Below w.heap.size w w'

set_option maxHeartbeats 1000000 in
theorem own_any (a b : Int) (A : Option Addr) (n c : Nat) (g : Nat → Int) (w : World) (hR : Rd w A n (by8 g)) (hn : n ≤ 140737488355328) :
    Calls Try.prog 56 #[.agg #[.int .i64 a, .int .i64 b, .slice A n c]] w (NewPlane a b n g w) := by
  have hmk := make_u8 n (by omega)
  go_enter Try.func56, Try.ntmps56
  go_wp2
  go_cut [3] (fun v w' => ∃ b3 br, v = .pointer (some ⟨b3, 0, none⟩) ∧ w.heap.size + 2 ≤ b3 ∧ w.heap.size + 2 ≤ br ∧ b3 ≠ br ∧ Box w' b3 #[.int .i64 a, .int .i64 b, .slice (some ⟨br, 0, none⟩) n n] ∧ Row w' br n (fun _ => .int .u8 0) ∧ Box w' w.heap.size #[.int .i64 a, .int .i64 b, .slice A n c] ∧ Box w' (w.heap.size + 1) #[.int .i64 0, .int .i64 0, .slice none 0 0] ∧ Below w.heap.size w w')
  case first =>
    have hB0 : Box ((w.alloc (.cells #[.int .i64 a, .int .i64 b, .slice A n c] 24)).alloc (.cells #[.int .i64 0, .int .i64 0, .slice none 0 0] 24)).drew w.heap.size #[.int .i64 a, .int .i64 b, .slice A n c] := ((Box.new w _ _).alloc _).drew
    have hB1 : Box ((w.alloc (.cells #[.int .i64 a, .int .i64 b, .slice A n c] 24)).alloc (.cells #[.int .i64 0, .int .i64 0, .slice none 0 0] 24)).drew (w.heap.size + 1) #[.int .i64 0, .int .i64 0, .slice none 0 0] := (Box.newAt (w.alloc _) _ _ (by simp)).drew
    have hL : Below w.heap.size w ((w.alloc (.cells #[.int .i64 a, .int .i64 b, .slice A n c] 24)).alloc (.cells #[.int .i64 0, .int .i64 0, .slice none 0 0] 24)).drew := (((Below.refl _ w).alloc (Nat.le_refl _) _).alloc (by simp) _).drew
    have hz : ((w.alloc (.cells #[.int .i64 a, .int .i64 b, .slice A n c] 24)).alloc (.cells #[.int .i64 0, .int .i64 0, .slice none 0 0] 24)).drew.heap.size = w.heap.size + 2 := by simp
    refine wp_region_ordH (fun w' => w'.cell? ⟨w.heap.size, 0, none⟩ = some (.int .i64 a) ∧ w'.cell? ⟨w.heap.size, 1, none⟩ = some (.int .i64 b) ∧ w'.cell? ⟨w.heap.size, 2, none⟩ = some (.slice A n c)) [7, 9, 10] [(0, 1), (1, 1), (2, 1), (3, 1), (4, 1), (5, 1), (6, 1)] _ (by kernel_rfl) (by kernel_rfl) (fun _ _ d _ _ h => by cases d <;> exact h) hB0.cell3 (fun _ _ _ h => h) ?_
    generalize ((w.alloc (.cells #[.int .i64 a, .int .i64 b, .slice A n c] 24)).alloc (.cells #[.int .i64 0, .int .i64 0, .slice none 0 0] 24)).drew = w0 at *
    obtain ⟨c0, c1, c2⟩ := hB0.cell3
    repeat (refine oH_free rfl (fun w' hS => by obtain ⟨s0, s1, s2⟩ := hS; go_simp; with_reducible rfl) ?_; go_simp)
    refine oH_nil ?_
    refine wpH_fork (i := 7) (j := 9) (by kernel_rfl) (by kernel_rfl) ?_ ?_
    · refine wpOp_do rfl (fun K' hK' => ?_)
      go_simp
      refine hK' _ _ ⟨(hB0.alloc _).cell3, ?_⟩
      clear hK' K'
      refine wpH_rest [(8, 1), (9, 2), (10, 2)] rfl (by kernel_rfl) (fun _ _ d _ _ h => by cases d <;> exact h) (hB0.alloc _).cell3 ?_
      refine oH_free rfl (fun w' hS => by go_simp; with_reducible rfl) ?_
      go_simp
      refine oH_do rfl (fun K' hK' => ?_)
      go_simp
      refine hK' _ _ ⟨((hB0.alloc _).alloc _).cell3, ?_⟩
      clear hK' K'
      refine oH_do rfl (fun K' hK' => ?_)
      go_simp
      refine hK' _ _ ⟨?_, ?_⟩
      · exact ((hB0.alloc _).alloc _).cell3
      clear hK' K'
      refine oH_nil ?_
      go_wp2
      go_meet
      case rel => exact ⟨_, w.heap.size + 2, rfl, by omega, by omega, by omega, Box.newAt _ _ _ (by simp [hz]), (Row.madeAt _ _ _ _ hz.symm).alloc _, (hB0.alloc _).alloc _, (hB1.alloc _).alloc _, (hL.alloc (by omega) _).alloc (by simp; omega) _⟩
    · refine wpOp_do rfl (fun K' hK' => ?_)
      go_simp
      refine hK' _ _ ⟨(hB0.alloc _).cell3, ?_⟩
      clear hK' K'
      refine wpH_rest [(7, 2), (8, 1), (10, 2)] rfl (by kernel_rfl) (fun _ _ d _ _ h => by cases d <;> exact h) (hB0.alloc _).cell3 ?_
      refine oH_do rfl (fun K' hK' => ?_)
      go_simp
      refine hK' _ _ ⟨((hB0.alloc _).alloc _).cell3, ?_⟩
      clear hK' K'
      refine oH_free rfl (fun w' hS => by go_simp; with_reducible rfl) ?_
      go_simp
      refine oH_do rfl (fun K' hK' => ?_)
      go_simp
      refine hK' _ _ ⟨?_, ?_⟩
      · exact ((hB0.alloc _).alloc _).cell3
      clear hK' K'
      refine oH_nil ?_
      go_wp2
      go_meet
      case rel => exact ⟨_, w.heap.size + 2 + 1, rfl, by omega, by omega, by omega, (Box.newAt _ _ _ hz.symm).alloc _, Row.madeAt _ _ _ _ (by simp [hz]), (hB0.alloc _).alloc _, (hB1.alloc _).alloc _, (hL.alloc (by omega) _).alloc (by simp; omega) _⟩
  case rest =>
    obtain ⟨b3, br, rfl, h1, h2, h3, hB3, hrow, hB0, hB1, hL⟩ := hcut
    obtain ⟨c0, c1, c2⟩ := hB0.cell3
    obtain ⟨d0, d1, d2⟩ := hB3.cell3
    have HS := Lib.hid (hR.below (hL.mono (Nat.le_refl _)))
    have tok : True := trivial
    go_wp2_with (have _t := tok; refine wpList_copyR rfl (.tmp 14) (.tmp 16) rfl Try.underlying22 size_u8 rfl rfl hrow HS.out (fun i => rfl) ?_ ?_; rotate_left; intro w2 hR2 ho2; have B3 := hB3.oth ho2 h3; have B0 := hB0.oth ho2 (by omega); have B1 := hB1.oth ho2 (by omega); have L2 := hL.trans (ho2.below (by omega) (by have := hB1.lt; omega)); clear tok c0 c1 c2 d0 d1 d2; obtain ⟨d0, d1, d2⟩ := B3.cell3; obtain ⟨e0, e1, e2⟩ := B1.cell3; obtain ⟨f0, f1, f2⟩ := B1.frozen3; have HR2 := Lib.hid hR2; clear hR2 ho2)
    rotate_left
    · simp
    refine bodyPost_ret (v := .agg #[.int .i64 a, .int .i64 b, .slice (some ⟨br, 0, none⟩) n n]) (by simp [results, Try.results56, go_sem, e0, e1, e2]) rfl ?_
    have hr := (((HR2.out.congr (g := by8 g) (fun i hi => by simp [hi])).far (p := ⟨w.heap.size + 1, 0, none⟩) (by simp; omega) (.int .i64 a)).far (p := ⟨w.heap.size + 1, 1, none⟩) (by simp; omega) (.int .i64 b)).far (p := ⟨w.heap.size + 1, 2, none⟩) (by simp; omega) (.slice (some ⟨br, 0, none⟩) n n)
    exact ⟨br, rfl, by omega, hr, ((L2.setCell (by simp) _).setCell (by simp) _).setCell (by simp) _⟩
end Go.Proofs.Ytcojphdohpgjnaa
