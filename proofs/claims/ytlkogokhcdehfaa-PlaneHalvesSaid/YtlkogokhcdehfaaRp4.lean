/- Walks of the document's answer for layer 6: near, At, Half. -/
import Derived.Test.YtlkogokhcdehfaaRp2
import Derived.Test.YtlkogokhcdehfaaPw9
import Derived.Test.YtlkogokhcdehfaaPm1
namespace Go.Kin
/-- Two, and the first k of some numbers. -/
def acc2 (f : Nat → Int) : Nat → Int
  | 0 => 2
  | k + 1 => acc2 f k + f k
theorem acc2_bd {f : Nat → Int} (h : Byt f) : ∀ k, 2 ≤ acc2 f k ∧ acc2 f k ≤ 2 + 255 * k
  | 0 => by simp [acc2]
  | k + 1 => by
    have := acc2_bd h k
    have := h k
    simp only [acc2]
    omega
end Go.Kin
namespace Go.Proofs.Ytlkogokhcdehfaa
open Go.RowKit Go.Kin
set_option linter.unusedVariables false

set_option maxHeartbeats 400000 in
theorem rnear_any (x n : Int) (hn : 1 ≤ n) (hn2 : n ≤ 4096) (w : World) :
    Calls Try.prog 64 #[.int .i64 x, .int .i64 n] w fun e w' => e = .returned (.int .i64 (nearI x 0 (n - 1))) ∧ w = w' := by
  by_cases h : x < 0
  · have H := Lib.hid (show nearI x 0 (n - 1) = 0 by unfold nearI; omega)
    go_enter Try.func64, Try.ntmps64
    go_wp2
    go_ret
    exact ⟨ret_int (by rw [H.out]), rfl⟩
  · by_cases h2 : n ≤ x
    · have H := Lib.hid (show nearI x 0 (n - 1) = n - 1 by unfold nearI; omega)
      go_enter Try.func64, Try.ntmps64
      go_wp2
      go_ret
      exact ⟨ret_int (by rw [H.out]), rfl⟩
    · have H := Lib.hid (show nearI x 0 (n - 1) = x by unfold nearI; omega)
      go_enter Try.func64, Try.ntmps64
      go_wp2
      go_ret
      exact ⟨ret_int (by rw [H.out]), rfl⟩

set_option maxHeartbeats 1000000 in
theorem rat_yes (W H : Int) (A : Option Addr) (n c : Nat) (g : Nat → Int) (x y : Int) (w : World) (hr : rightB W H n = true) (hS : Rd w A n (by8 g)) :
    Calls Try.prog 63 #[.agg #[.int .i64 W, .int .i64 H, .slice A n c], .int .i64 x, .int .i64 y] w fun e w' => e = .returned (.int .u8 (atP W H g x y)) ∧ Below w.heap.size w w' := by
  obtain ⟨r1, r2, r3, r4, r5⟩ := rightB_iff.1 hr
  obtain ⟨b, off, rfl, hb, hc⟩ := hS.some_ (rightB_pos hr)
  have hn := rightB_le hr
  have y0 : 0 ≤ nearI y 0 (H - 1) ∧ nearI y 0 (H - 1) < H := by unfold nearI; omega
  have x0 : 0 ≤ nearI x 0 (W - 1) ∧ nearI x 0 (W - 1) < W := by unfold nearI; omega
  obtain ⟨p1, p2, p3⟩ := place_in r5 x0 y0
  have HA := Lib.hid (show atP W H g x y = g (nearI y 0 (H - 1) * W + nearI x 0 (W - 1)).toNat from rfl)
  have K := (Kn.start w).add (x := .rd (some ⟨b, off, none⟩) n (by8 g)) hS
  have hc1 := hc (nearI y 0 (H - 1) * W + nearI x 0 (W - 1)).toNat (by omega)
  have HR5 := Lib.hid r5
  clear hS hc r5
  go_enter Try.func63, Try.ntmps63
  go_wp2_with fail
  refine (rright_any _ _ _ _ _ _).mono ?_
  rintro e w1 ⟨rfl, hb1⟩
  replace K := (K.new w.heap.size _ _ rfl).below hb1
  clear hb1
  replace kc0 := Box.cells K.1
  replace kl0 := Box.lt K.1
  replace R : Rd _ _ _ _ := K.2.1
  replace L : Below _ _ _ := K.2.2.1
  have hc2 : w1.cell? ⟨b, off + (nearI y 0 (H - 1) * W + nearI x 0 (W - 1)).toNat, none⟩ = some (.int .u8 (g (nearI y 0 (H - 1) * W + nearI x 0 (W - 1)).toNat)) := (L.cell (p := ⟨b, _, none⟩) hb).trans hc1
  clear hc1
  have z3 : IntKind.i64.wrap (nearI y 0 (H - 1) * W) = nearI y 0 (H - 1) * W := IntWalk.i64_in _ (by omega)
  have z4 : IntKind.i64.wrap (nearI y 0 (H - 1) * W + nearI x 0 (W - 1)) = nearI y 0 (H - 1) * W + nearI x 0 (W - 1) := IntWalk.i64_in _ (by omega)
  go_wp2
  go_quiet ((go_at_call 64; exact quietLeft (rnear_any _ _ (by omega) (by omega) _)))
  go_wp2
  go_ret
  exact ⟨ret_int HA.out.symm, L.trans (below_drewN (Below.refl _ _) _)⟩

set_option maxHeartbeats 1000000 in
theorem rhalf_no (a b : Int) (A : Option Addr) (n c : Nat) (w : World) (h : halfB a b n = false) :
    Calls Try.prog 42 #[.agg #[.int .i64 a, .int .i64 b, .slice A n c]] w (NoPlane 61 w) := by
  have K := Kn.start w
  have hc := halfB_no h
  clear h
  have hq : rightB a b n = true → 1 ≤ a ∧ 1 ≤ b := fun h => by obtain ⟨r1, r2, r3, r4, r5⟩ := rightB_iff.1 h; exact ⟨r1, r3⟩
  rcases hc with h1 | ⟨h1, h2⟩ | ⟨h1, h2, h3⟩
  rotate_left
  obtain ⟨q1, q2⟩ := hq h1
  rotate_left
  obtain ⟨q1, q2⟩ := hq h1
  all_goals clear hq
  all_goals go_enter Try.func42, Try.ntmps42
  all_goals go_wp2_with fail
  all_goals refine (rright_any _ _ _ _ _ _).mono ?_
  all_goals rintro e w1 ⟨rfl, hb1⟩
  all_goals replace K := ((K.new w.heap.size _ _ rfl).new (w.heap.size + 1) _ _ (by simp)).below hb1
  all_goals clear hb1
  all_goals replace kc0 := Box.cells K.1
  all_goals replace kl0 := Box.lt K.1
  all_goals replace kf0 := Box.frees K.1
  all_goals replace kc1 := Box.cells K.2.1
  all_goals replace kl1 := Box.lt K.2.1
  all_goals replace L : Below _ _ _ := K.2.2.1
  all_goals go_wp2
  all_goals exact bodyPost_ret (v := .tuple #[.agg #[.int .i64 0, .int .i64 0, .slice none 0 0], .int .i64 61]) (by simp [results, Try.results42, go_sem, kc0]) rfl ⟨rfl, ((L.setCell (by simp) _).setCell (by simp) _).setCell (by simp) _⟩

theorem half_acc {W H W2 H2 : Nat} {g : Nat → Int} {x y : Nat} (hW : W = 2 * W2) (hH : H = 2 * H2) (hx : x < W2) (hy : y < H2) :
    acc2 (fun k => atP W H g (2 * (x : Int) + (k : Int) % 2) (2 * (y : Int) + (k : Int) / 2)) 4 / 4 = halfP W W2 g (y * W2 + x) := by
  obtain ⟨e1, e2⟩ := pos_mod (W := W2) (y := y) hx
  unfold halfP
  rw [e1, e2]
  have a0 : atP W H g (2 * (x : Int) + ((0 : Nat) : Int) % 2) (2 * (y : Int) + ((0 : Nat) : Int) / 2) = g (2 * y * W + 2 * x) := by
    have := at_in (W := W) (H := H) (g := g) (x := 2 * x) (y := 2 * y) (by omega) (by omega)
    rw [← this]; congr 1
  have a1 : atP W H g (2 * (x : Int) + ((1 : Nat) : Int) % 2) (2 * (y : Int) + ((1 : Nat) : Int) / 2) = g (2 * y * W + 2 * x + 1) := by
    have := at_in (W := W) (H := H) (g := g) (x := 2 * x + 1) (y := 2 * y) (by omega) (by omega)
    rw [Nat.add_assoc, ← this]; congr 1
  have a2 : atP W H g (2 * (x : Int) + ((2 : Nat) : Int) % 2) (2 * (y : Int) + ((2 : Nat) : Int) / 2) = g (2 * y * W + 2 * x + W) := by
    have := at_in (W := W) (H := H) (g := g) (x := 2 * x) (y := 2 * y + 1) (by omega) (by omega)
    rw [show 2 * y * W + 2 * x + W = (2 * y + 1) * W + 2 * x by rw [Nat.add_mul]; omega, ← this]; congr 1
  have a3 : atP W H g (2 * (x : Int) + ((3 : Nat) : Int) % 2) (2 * (y : Int) + ((3 : Nat) : Int) / 2) = g (2 * y * W + 2 * x + W + 1) := by
    have := at_in (W := W) (H := H) (g := g) (x := 2 * x + 1) (y := 2 * y + 1) (by omega) (by omega)
    rw [show 2 * y * W + 2 * x + W + 1 = (2 * y + 1) * W + (2 * x + 1) by rw [Nat.add_mul]; omega, ← this]; congr 1
  simp only [acc2]
  rw [a0, a1, a2, a3]
  congr 1
  omega

set_option maxRecDepth 100000 in
set_option maxHeartbeats 2000000 in
theorem rhalf_yes (W H W2 H2 : Nat) (A : Option Addr) (N c : Nat) (g : Nat → Int) (w : World) (hr : rightB W H N = true) (hW : W = 2 * W2) (hH : H = 2 * H2) (hg : Byt g) (hS : Rd w A N (by8 g)) :
    Calls Try.prog 42 #[.agg #[.int .i64 W, .int .i64 H, .slice A N c]] w (MadePlane W2 H2 (W2 * H2) (halfP W W2 g) w) := by
  obtain ⟨r1, r2, r3, r4, r5⟩ := rightB_iff.1 hr
  have HR5 := Lib.hid r5
  have HW := Lib.hid hW
  have HH := Lib.hid hH
  have w1' : 1 ≤ W2 := by omega
  have w2' : W2 ≤ 2048 := by omega
  have h1' : 1 ≤ H2 := by omega
  have h2' : H2 ≤ 2048 := by omega
  have hM : W2 * H2 ≤ 4194304 := Nat.mul_le_mul w2' h2'
  have k1 : ((W : Int) % 2 != 0) = false := by simp; omega
  have k2 : ((H : Int) % 2 != 0) = false := by simp; omega
  have m1 : (0 : Int) ≤ (W2 : Int) * H2 := by have := Int.natCast_mul W2 H2; omega
  have m2 : (W2 : Int) * H2 ≤ 4194304 := by have := Int.natCast_mul W2 H2; omega
  have q1 : (W : Int) / 2 = W2 := by omega
  have q2 : (H : Int) / 2 = H2 := by omega
  obtain ⟨b, off, rfl, hb, _⟩ := hS.some_ (rightB_pos hr)
  have K := (Kn.start w).add (x := .rd (some ⟨b, off, none⟩) N (by8 g)) hS
  clear hS r5 hW hH
  go_enter Try.func42, Try.ntmps42
  go_wp2_with fail
  refine (rright_any _ _ _ _ _ _).mono ?_
  rintro e w1 ⟨rfl, hb1⟩
  replace K := ((K.new w.heap.size _ _ rfl).new (w.heap.size + 1) _ _ (by simp)).below hb1
  clear hb1
  replace kc0 := Box.cells K.1
  replace kl0 := Box.lt K.1
  replace kc1 := Box.cells K.2.1
  replace kl1 := Box.lt K.2.1
  replace L : Below _ _ _ := K.2.2.2.1
  have l01 := kl0
  have lb1 : b < w1.heap.size := by have := L.size; omega
  go_wp2_with fail
  refine (rnew_yes W2 H2 0 (W2 * H2) _ (sidesB_iff.2 ⟨by omega, by omega, by omega, by omega⟩) (by simp)).mono ?_
  rintro e w2 ⟨br, rfl, hbr, hrow, hL2⟩
  replace K := (K.below hL2).add (x := .row br (W2 * H2) (by8 fun _ => 0)) hrow
  have lbr := hrow.lt
  clear hL2 hrow kc0 kc1 kl0 kl1 L q1 q2
  go_wp2
  replace K := K.new w2.heap.size #[.int .i64 W2, .int .i64 H2, .slice (some ⟨br, 0, none⟩) (W2 * H2) (W2 * H2)] 29 rfl
  have HK := Lib.hid (show Kn _ [.row br (W2 * H2) (by8 fun k => if k < 0 * W2 then halfP W W2 g k else 0), .box w2.heap.size #[.int .i64 W2, .int .i64 H2, .slice (some ⟨br, 0, none⟩) (W2 * H2) (W2 * H2)], .box (w.heap.size + 1) #[.int .i64 0, .int .i64 0, .slice none 0 0], .box w.heap.size #[.int .i64 W, .int .i64 H, .slice (some ⟨b, off, none⟩) N c], .rd (some ⟨b, off, none⟩) N (by8 g), .since w] from ⟨Row.congr K.2.1 (fun i _ => by simp [by8]), K.1, K.2.2⟩)
  clear K
  generalize w2.alloc (.cells #[.int .i64 W2, .int .i64 H2, .slice (some ⟨br, 0, none⟩) (W2 * H2) (W2 * H2)] 29) = w3 at HK ⊢
  go_loopw [7] (fun i wr => ∃ y : Nat, y ≤ H2 ∧ i = .int .i64 y ∧ Kn wr [.row br (W2 * H2) (by8 fun k => if k < y * W2 then halfP W W2 g k else 0), .box w2.heap.size #[.int .i64 W2, .int .i64 H2, .slice (some ⟨br, 0, none⟩) (W2 * H2) (W2 * H2)], .box (w.heap.size + 1) #[.int .i64 0, .int .i64 0, .slice none 0 0], .box w.heap.size #[.int .i64 W, .int .i64 H, .slice (some ⟨b, off, none⟩) N c], .rd (some ⟨b, off, none⟩) N (by8 g), .since w]) (fun i _ => H2 - (intOf i).toNat)
  case atStart => exact ⟨0, Nat.zero_le _, rfl, HK.out⟩
  case round =>
    obtain ⟨y, hy, rfl, K⟩ := hrel
    clear HK
    have kc := Box.cells K.2.1
    by_cases hlt : y < H2
    · have HK := Lib.hid K
      clear K
      go_wp2
      clear kc
      obtain ⟨wo, rfl⟩ : ∃ wo : World, wo = wr := ⟨_, rfl⟩
      go_loopw [8] (fun i wr => ∃ x : Nat, x ≤ W2 ∧ i = .int .i64 x ∧ Kn wr [.row br (W2 * H2) (by8 fun k => if k < y * W2 + x then halfP W W2 g k else 0), .box w2.heap.size #[.int .i64 W2, .int .i64 H2, .slice (some ⟨br, 0, none⟩) (W2 * H2) (W2 * H2)], .box (w.heap.size + 1) #[.int .i64 0, .int .i64 0, .slice none 0 0], .box w.heap.size #[.int .i64 W, .int .i64 H, .slice (some ⟨b, off, none⟩) N c], .rd (some ⟨b, off, none⟩) N (by8 g), .since w]) (fun i _ => W2 - (intOf i).toNat)
      case atStart => exact ⟨0, Nat.zero_le _, rfl, HK.out⟩
      case round =>
        obtain ⟨x, hx, rfl, K⟩ := hrel
        clear HK
        have kc := Box.cells K.2.1
        by_cases hxl : x < W2
        · have HV := Lib.hid (half_acc (g := g) HW.out HH.out hxl hlt)
          have hBy : Byt (fun k => atP W H g (2 * (x : Int) + (k : Int) % 2) (2 * (y : Int) + (k : Int) / 2)) := fun k => hg _
          have pq : y * W2 + x < W2 * H2 := place_lt hxl hlt
          have pq0 : (0 : Int) ≤ (y : Int) * W2 := Int.mul_nonneg (by omega) (by omega)
          have pq1 : (y : Int) * W2 + x < (W2 : Int) * H2 := by exact_mod_cast pq
          have HP2 := Lib.hid (show ((y : Int) * W2 + x).toNat = y * W2 + x by
            have : ((y * W2 + x : Nat) : Int) = (y : Int) * W2 + x := by simp
            omega)
          have HK := Lib.hid K
          clear K
          go_wp2
          clear kc
          obtain ⟨wi, rfl⟩ : ∃ wi : World, wi = wr := ⟨_, rfl⟩
          go_loopw [9, 10] (fun s i wr => ∃ k : Nat, k ≤ 4 ∧ i = .int .i64 k ∧ s = .int .i64 (acc2 (fun k => atP W H g (2 * (x : Int) + (k : Int) % 2) (2 * (y : Int) + (k : Int) / 2)) k) ∧ Kn wr [.row br (W2 * H2) (by8 fun k => if k < y * W2 + x then halfP W W2 g k else 0), .box w2.heap.size #[.int .i64 W2, .int .i64 H2, .slice (some ⟨br, 0, none⟩) (W2 * H2) (W2 * H2)], .box (w.heap.size + 1) #[.int .i64 0, .int .i64 0, .slice none 0 0], .box w.heap.size #[.int .i64 W, .int .i64 H, .slice (some ⟨b, off, none⟩) N c], .rd (some ⟨b, off, none⟩) N (by8 g), .since w]) (fun _ i _ => 4 - (intOf i).toNat)
          case atStart => exact ⟨0, by omega, rfl, rfl, HK.out⟩
          case round =>
            obtain ⟨k, hk, rfl, rfl, K⟩ := hrel
            clear HK
            have ab := acc2_bd hBy k
            obtain ⟨ab0, ab1⟩ := ab
            by_cases hk4 : k < 4
            · have kc2 := Box.cells K.2.2.2.1
              have hb2 := hBy k
              dsimp only at hb2
              have HA := Lib.hid (show acc2 (fun k => atP W H g (2 * (x : Int) + (k : Int) % 2) (2 * (y : Int) + (k : Int) / 2)) (k + 1) = acc2 (fun k => atP W H g (2 * (x : Int) + (k : Int) % 2) (2 * (y : Int) + (k : Int) / 2)) k + atP W H g (2 * (x : Int) + (k : Int) % 2) (2 * (y : Int) + (k : Int) / 2) from rfl)
              generalize acc2 (fun k => atP W H g (2 * (x : Int) + (k : Int) % 2) (2 * (y : Int) + (k : Int) / 2)) k = s at *
              have RA : Rd _ _ _ _ := K.2.2.2.2.1
              have HK := Lib.hid K
              clear K
              go_wp2_with fail
              refine (rat_yes W H _ N c g _ _ _ hr RA).mono ?_
              rintro e w5 ⟨rfl, hL5⟩
              have HK5 := Lib.hid (HK.out.below hL5)
              clear hL5 HK RA kc2
              go_wp2
              go_roundw
              case rel => exact ⟨k + 1, hk4, by go_num, by rw [HA.out], HK5.out⟩
              case measure => simp [intOf]; omega
            · have hk5 : k = 4 := by omega
              subst hk5
              have kc1 := Box.cells K.2.1
              have cr := Row.cell K.1 pq
              have fr := Row.frozen K.1 (y * W2 + x)
              simp only [by8] at cr
              have HK := Lib.hid K
              clear K
              have pq2 := HP2.out
              generalize acc2 (fun k => atP W H g (2 * (x : Int) + (k : Int) % 2) (2 * (y : Int) + (k : Int) / 2)) 4 = s at *
              go_wp2
              refine ⟨⟨x + 1, hxl, by go_num, (Kn.setRow HK.out (y * W2 + x) _ ⟨by simp [It.off]; omega, by simp [It.off]; omega, by simp [It.off]; omega, off_rd (by omega), by simp [It.off]; omega, trivial⟩).row fun m hm => ?_⟩, by simp [intOf]; omega⟩
              simp only [by8]
              by_cases e1 : m = y * W2 + x
              · rw [if_pos e1, if_pos (by omega), e1, HV.out]
              · rw [if_neg e1]
                by_cases e2 : m < y * W2 + x
                · rw [if_pos e2, if_pos (by omega)]
                · rw [if_neg e2, if_neg (by omega)]
        · have hxn : x = W2 := by omega
          subst hxn
          go_wp2
          refine ⟨⟨y + 1, hlt, by go_num, ?_⟩, by simp [intOf]; omega⟩
          have e : (y + 1) * x = y * x + x := Nat.succ_mul _ _
          rw [e]
          exact K
    · have hyn : y = H2 := by omega
      subst hyn
      replace kc1 := Box.cells K.2.1
      replace kl1 := Box.lt K.2.1
      replace kc2 := Box.cells K.2.2.1
      replace kl2 := Box.lt K.2.2.1
      replace kf2 := Box.frees K.2.2.1
      replace kc3 := Box.cells K.2.2.2.1
      replace kl3 := Box.lt K.2.2.2.1
      replace L : Below _ _ _ := K.2.2.2.2.2.1
      go_wp2
      refine bodyPost_ret (v := .tuple #[.agg #[.int .i64 W2, .int .i64 y, .slice (some ⟨br, 0, none⟩) (W2 * y) (W2 * y)], .int .i64 0]) (by simp [results, Try.results42, go_sem, kc2]) rfl ?_
      refine ⟨br, rfl, by omega, ?_, ((L.setCell (p := ⟨w.heap.size + 1, 0, none⟩) (by simp) _).setCell (p := ⟨w.heap.size + 1, 1, none⟩) (by simp) _).setCell (p := ⟨w.heap.size + 1, 2, none⟩) (by simp) _⟩
      exact ((Row.far (Row.congr (g := by8 (halfP W W2 g)) K.1 (fun k hk => by simp only [by8]; rw [if_pos (by rw [Nat.mul_comm]; exact hk)])) (p := ⟨w.heap.size + 1, 0, none⟩) (by simp; omega) _).far (p := ⟨w.heap.size + 1, 1, none⟩) (by simp; omega) _).far (p := ⟨w.heap.size + 1, 2, none⟩) (by simp; omega) _
end Go.Proofs.Ytlkogokhcdehfaa
