/- Walks of package plane: At and Block. -/
import Derived.Test.YtcojphdohpgjnaaPw2
import Derived.Test.YtcojphdohpgjnaaKn
import Derived.Test.YtcojphdohpgjnaaDm2
namespace Go.Kin
/-- The sample that is nearest to a place. -/
def atP (W H : Int) (g : Nat → Int) (x y : Int) : Int := g ((min (max y 0) (H - 1)) * W + min (max x 0) (W - 1)).toNat
theorem place_in {W H x y : Int} {n : Nat} (hn : (n : Int) = W * H) (hx : 0 ≤ x ∧ x < W) (hy : 0 ≤ y ∧ y < H) : 0 ≤ y * W ∧ 0 ≤ y * W + x ∧ y * W + x < n := by
  have h1 : 0 ≤ y * W := Int.mul_nonneg hy.1 (by omega)
  have h2 : y * W + W ≤ W * H := by
    have := Int.mul_le_mul_of_nonneg_right (show y + 1 ≤ H by omega) (show 0 ≤ W by omega)
    rw [Int.add_mul, Int.one_mul, Int.mul_comm H W] at this
    exact this
  omega
end Go.Kin
namespace Go.Proofs.Ytcojphdohpgjnaa
open Go.RowKit Go.Kin
set_option linter.unusedVariables false

/-- Sample k of the block of n by n from (x, y) on. -/
def blockP (W H : Int) (g : Nat → Int) (x y : Int) (n : Nat) (k : Nat) : Int := g (aheadI y ((k / n : Nat) : Int) H * W + aheadI x ((k % n : Nat) : Int) W).toNat
theorem blockP_at {W H : Int} {g : Nat → Int} {x y : Int} {n i j : Nat} (hi : i < n) : blockP W H g x y n (j * n + i) = g (aheadI y j H * W + aheadI x i W).toNat := by
  obtain ⟨e1, e2⟩ := pos_mod (y := j) hi
  unfold blockP
  rw [e1, e2]

set_option maxHeartbeats 1000000 in
theorem at_yes (W H : Int) (A : Option Addr) (n c : Nat) (g : Nat → Int) (x y : Int) (w : World) (hr : rightB W H n = true) (hS : Rd w A n (by8 g)) :
    Calls Try.prog 46 #[.agg #[.int .i64 W, .int .i64 H, .slice A n c], .int .i64 x, .int .i64 y] w fun e w' => e = .returned (.int .u8 (atP W H g x y)) ∧ Below w.heap.size w w' := by
  obtain ⟨r1, r2, r3, r4, r5⟩ := rightB_iff.1 hr
  obtain ⟨b, off, rfl, hb, hc⟩ := hS.some_ (rightB_pos hr)
  have hn := rightB_le hr
  have y0 : 0 ≤ nearI y 0 (H - 1) ∧ nearI y 0 (H - 1) < H := by unfold nearI; omega
  have x0 : 0 ≤ nearI x 0 (W - 1) ∧ nearI x 0 (W - 1) < W := by unfold nearI; omega
  obtain ⟨p1, p2, p3⟩ := place_in r5 x0 y0
  have HA := Lib.hid (show atP W H g x y = g (nearI y 0 (H - 1) * W + nearI x 0 (W - 1)).toNat from rfl)
  have K := (Kn.start w).add (x := .rd (some ⟨b, off, none⟩) n (by8 g)) hS
  have hc1 := hc (nearI y 0 (H - 1) * W + nearI x 0 (W - 1)).toNat (by omega)
  have HR5 := Lib.hid r5
  clear hS hc r5
  go_enter Try.func46, Try.ntmps46
  go_wp2_with fail
  refine (right_any _ _ _ _ _ _).mono ?_
  rintro e w1 ⟨rfl, hb1⟩
  replace K := (K.new w.heap.size _ _ rfl).below hb1
  clear hb1
  replace kc0 := Box.cells K.1
  replace kl0 := Box.lt K.1
  replace R : Rd _ _ _ _ := K.2.1
  replace L : Below _ _ _ := K.2.2.1
  have hc2 : w1.cell? ⟨b, off + (nearI y 0 (H - 1) * W + nearI x 0 (W - 1)).toNat, none⟩ = some (.int .u8 (g (nearI y 0 (H - 1) * W + nearI x 0 (W - 1)).toNat)) := (L.cell (p := ⟨b, _, none⟩) hb).trans hc1
  clear hc1
  have z1 : IntKind.i64.wrap (H - 1) = H - 1 := IntWalk.i64_in _ (by omega)
  have z2 : IntKind.i64.wrap (W - 1) = W - 1 := IntWalk.i64_in _ (by omega)
  have z3 : IntKind.i64.wrap (nearI y 0 (H - 1) * W) = nearI y 0 (H - 1) * W := IntWalk.i64_in _ (by omega)
  have z4 : IntKind.i64.wrap (nearI y 0 (H - 1) * W + nearI x 0 (W - 1)) = nearI y 0 (H - 1) * W + nearI x 0 (W - 1) := IntWalk.i64_in _ (by omega)
  go_wp2
  go_quiet ((go_at_call 60; exact quietLeft (nearest_any _ _ _ _)))
  go_wp2
  go_ret
  exact ⟨ret_int HA.out.symm, L.trans (below_drewN (Below.refl _ _) _)⟩

/-- A slice of the call's own whose bytes are known. -/
def MadeBytes (n : Nat) (g : Nat → Int) (w : World) (e : Ending) (w' : World) : Prop :=
  ∃ b, e = .returned (.slice (some ⟨b, 0, none⟩) n n) ∧ w.heap.size ≤ b ∧ Row w' b n (by8 g) ∧ Below w.heap.size w w'

set_option maxHeartbeats 1000000 in
theorem block_no (W H : Int) (A : Option Addr) (N c : Nat) (x y n : Int) (w : World) (h : rightB W H N = false ∨ (rightB W H N = true ∧ n < 1) ∨ (rightB W H N = true ∧ ¬ n < 1 ∧ 64 < n)) :
    Calls Try.prog 32 #[.agg #[.int .i64 W, .int .i64 H, .slice A N c], .int .i64 x, .int .i64 y, .int .i64 n] w fun e w' => e = .returned (.slice none 0 0) ∧ Below w.heap.size w w' := by
  have K := Kn.start w
  rcases h with h | ⟨h, h1⟩ | ⟨h, h1, h2⟩
  all_goals go_enter Try.func32, Try.ntmps32
  all_goals go_wp2_with fail
  all_goals refine (right_any _ _ _ _ _ _).mono ?_
  all_goals rintro e w1 ⟨rfl, hb1⟩
  all_goals replace K := (K.new w.heap.size _ _ rfl).below hb1
  all_goals clear hb1
  all_goals replace kc0 := Box.cells K.1
  all_goals replace kl0 := Box.lt K.1
  all_goals replace L : Below _ _ _ := K.2.1
  all_goals go_wp2
  all_goals go_ret
  all_goals exact ⟨rfl, L⟩

set_option maxHeartbeats 1000000 in
theorem block_yes (W H : Int) (A : Option Addr) (N c : Nat) (g : Nat → Int) (x y : Int) (n : Nat) (w : World) (hr : rightB W H N = true) (hS : Rd w A N (by8 g)) (h1 : 1 ≤ n) (h2 : n ≤ 64) (ix : I64 x) (iy : I64 y) :
    Calls Try.prog 32 #[.agg #[.int .i64 W, .int .i64 H, .slice A N c], .int .i64 x, .int .i64 y, .int .i64 n] w (MadeBytes (n * n) (blockP W H g x y n) w) := by
  obtain ⟨r1, r2, r3, r4, r5⟩ := rightB_iff.1 hr
  obtain ⟨ix, _⟩ := ix
  obtain ⟨iy, _⟩ := iy
  have hN := rightB_le hr
  obtain ⟨b, off, rfl, hb, _⟩ := hS.some_ (rightB_pos hr)
  have hnn : n * n ≤ 4096 := Nat.mul_le_mul h2 h2
  have hmk := make_u8 (n * n) (by omega)
  rw [Int.natCast_mul] at hmk
  have HR5 := Lib.hid r5
  have K := (Kn.start w).add (x := .rd (some ⟨b, off, none⟩) N (by8 g)) hS
  clear hS r5
  have m1 : (0 : Int) ≤ (n : Int) * n := by have := Int.natCast_mul n n; omega
  have m2 : (n : Int) * n ≤ 4096 := by have := Int.natCast_mul n n; omega
  go_enter Try.func32, Try.ntmps32
  go_wp2_with fail
  refine (right_any _ _ _ _ _ _).mono ?_
  rintro e w1 ⟨rfl, hb1⟩
  replace K := (K.new w.heap.size _ _ rfl).below hb1
  clear hb1
  replace kc0 := Box.cells K.1
  replace kl0 := Box.lt K.1
  replace R : Rd _ _ _ _ := K.2.1
  replace L : Below _ _ _ := K.2.2.1
  go_wp2
  have K2 := K.make w1.heap.size (.int .u8 0) (n * n) 5 rfl
  have HK2 := Lib.hid K2
  clear K2 kc0 
  go_loopw [29] (fun i wr => ∃ j : Nat, j ≤ n ∧ i = .int .i64 j ∧ Kn wr [.row w1.heap.size (n * n) (by8 fun k => if k < j * n then blockP W H g x y n k else 0), .box w.heap.size #[.int .i64 W, .int .i64 H, .slice (some ⟨b, off, none⟩) N c], .rd (some ⟨b, off, none⟩) N (by8 g), .since w]) (fun i _ => n - (intOf i).toNat)
  case atStart => exact ⟨0, Nat.zero_le _, rfl, ⟨HK2.out.1.congr (fun i _ => by simp [by8]), HK2.out.2⟩⟩
  case round =>
    obtain ⟨j, hj, rfl, hK⟩ := hrel
    clear HK2
    have kc := Box.cells hK.2.1
    have kl := Box.lt hK.2.1
    by_cases hlt : j < n
    · have a1 := ahead_bd (v := y) (i := j) r3
      have a2 : 0 ≤ aheadI y j H * W ∧ aheadI y j H * W ≤ 16777216 := by
        obtain ⟨p1, p2, p3⟩ := place_in HR5.out (x := 0) ⟨by omega, by omega⟩ a1
        omega
      have z1 : IntKind.i64.wrap (aheadI y j H * W) = aheadI y j H * W := IntWalk.i64_in _ (by omega)
      have HK := Lib.hid hK
      go_wp2
      go_quiet ((go_at_call 49; exact quietLeft (ahead_any _ _ _ (by omega) (by omega) (by omega) _)))
      go_wp2
      have HK1 := Lib.hid (HK.out.drewN nq)
      clear z1 kc kl hK
      generalize wr.drewN nq = wq at HK1 ⊢
      clear HK
      go_loopw [41] (fun i wr => ∃ k : Nat, k ≤ n ∧ i = .int .i64 k ∧ Kn wr [.row w1.heap.size (n * n) (by8 fun m => if m < j * n + k then blockP W H g x y n m else 0), .box w.heap.size #[.int .i64 W, .int .i64 H, .slice (some ⟨b, off, none⟩) N c], .rd (some ⟨b, off, none⟩) N (by8 g), .since w]) (fun i _ => n - (intOf i).toNat)
      case atStart => exact ⟨0, Nat.zero_le _, rfl, HK1.out⟩
      case round =>
        obtain ⟨k, hk, rfl, hK⟩ := hrel
        clear HK1
        by_cases hkl : k < n
        · have a3 := ahead_bd (v := x) (i := k) r1
          obtain ⟨p1, p2, p3⟩ := place_in HR5.out a3 a1
          have hc1 := Rd.at_ hK.2.2.1 (i := (aheadI y j H * W + aheadI x k W).toNat) (by omega)
          have pl : j * n + k < n * n := place_lt hkl hlt
          have pl2 : (j : Int) * n + k < (n : Int) * n := by
            have : ((j * n + k : Nat) : Int) < ((n * n : Nat) : Int) := by omega
            simpa using this
          have pl0 : (0 : Int) ≤ (j : Int) * n := Int.mul_nonneg (by omega) (by omega)
          have pl1 : ((j : Int) * n + k).toNat = j * n + k := by
            have : ((j * n + k : Nat) : Int) = (j : Int) * n + k := by simp
            omega
          have cr := Row.cell hK.1 pl
          have fr := Row.frozen hK.1 (j * n + k)
          have kc := Box.cells hK.2.1
          have HK := Lib.hid hK
          clear hK
          have z1 : IntKind.i64.wrap ((j : Int) * n) = (j : Int) * n := IntWalk.i64_in _ (by omega)
          have z2 : IntKind.i64.wrap ((j : Int) * n + k) = (j : Int) * n + k := IntWalk.i64_in _ (by omega)
          have z3 : IntKind.i64.wrap (aheadI y j H * W + aheadI x k W) = aheadI y j H * W + aheadI x k W := IntWalk.i64_in _ (by omega)
          have q0 : (0 : Int) ≤ (j : Int) * n + k := by omega
          simp only [by8] at cr hc1
          go_wp2
          refine wp_region_ord [(0,0),(1,0),(2,0),(3,0),(4,0),(5,0),(6,0),(7,0),(8,0),(9,0),(10,0),(11,0),(12,0),(13,0),(14,0),(15,0),(16,0),(17,0),(18,2)] (by kernel_rfl) (by kernel_rfl) (fun _ _ d _ _ h => by cases d <;> exact h) ?_
          repeat (refine wpOrd_still rfl (fun KK hKK => ?_); go_simp; first | (refine hKK _ ?_; clear hKK KK) | (refine ⟨_, Calls.flip (ahead_any _ _ _ (by omega) (by omega) (by omega) _), hKK _ ?_⟩; clear hKK KK))
          refine wpOrd_do rfl (fun KK hKK => ?_)
          go_simp
          refine hKK _ _ ?_
          clear hKK KK
          refine wpOrd_nil ?_
          go_wp2
          go_roundw
          case rel =>
            refine ⟨k + 1, hkl, by go_num, (Kn.setRow (Kn.drew HK.out) (j * n + k) _ ⟨by simp [It.off]; omega, off_rd (by omega), by simp [It.off]; omega, trivial⟩).row fun m hm => ?_⟩
            simp only [by8]
            by_cases e1 : m = j * n + k
            · rw [if_pos e1, if_pos (by omega), e1, blockP_at hkl]
            · rw [if_neg e1]
              by_cases e2 : m < j * n + k
              · rw [if_pos e2, if_pos (by omega)]
              · rw [if_neg e2, if_neg (by omega)]
          case measure => simp [intOf]; omega
        · go_wp2
          have hkn : k = n := by omega
          subst hkn
          refine ⟨⟨j + 1, hlt, by go_num, ?_⟩, by simp [intOf]; omega⟩
          have e : (j + 1) * k = j * k + k := Nat.succ_mul _ _
          rw [e]
          exact hK
    · go_wp2
      go_ret
      have hjn : j = n := by omega
      subst hjn
      refine ⟨_, rfl, L.size, Row.congr hK.1 (fun i hi => by simp [by8, hi]), hK.2.2.2.1⟩
end Go.Proofs.Ytcojphdohpgjnaa
