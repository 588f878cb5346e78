/- Walks of package motion and of the document's layer 10: across, down, Sample. -/
import Derived.Test.YtcojphdohpgjnaaMo1
import Derived.Test.YtcojphdohpgjnaaRp5
namespace Go.Kin
theorem row6 {w : World} {b : Nat} {z : Value} (h : Box w b #[z, z, z, z, z, z]) : Row w b 6 (fun _ => z) := by
  obtain ⟨t, h⟩ := h
  refine ⟨_, t, h, Nat.le_refl _, fun i hi => ?_⟩
  match i, hi with
  | 0, _ => rfl
  | 1, _ => rfl
  | 2, _ => rfl
  | 3, _ => rfl
  | 4, _ => rfl
  | 5, _ => rfl
end Go.Kin
namespace Go.Proofs.Ytcojphdohpgjnaa
open Go.RowKit Go.Kin
set_option linter.unusedVariables false

set_option maxHeartbeats 2000000 in
theorem macross_any (W H : Int) (A : Option Addr) (N c : Nat) (g : Nat → Int) (x y : Int) (w : World) (hr : rightB W H N = true) (hS : Rd w A N (by8 g)) (hg : Byt g) (hx : -4611686018427387904 ≤ x ∧ x ≤ 4611686018427387904) (hy : -4611686018427387904 ≤ y ∧ y ≤ 4611686018427387904) :
    Calls Try.prog 47 #[.agg #[.int .i64 W, .int .i64 H, .slice A N c], .int .i64 x, .int .i64 y] w fun e w' => e = .returned (.int .u8 (half6 (fun i => atP W H g (x - 2 + i) y))) ∧ Below w.heap.size w w' := by
  have K := ((Kn.start w).add (x := .rd A N (by8 g)) hS).new w.heap.size #[.int .i64 W, .int .i64 H, .slice A N c] 24 rfl
  have OF := Lib.hid (K.offS (b := w.heap.size + 1) (by simp))
  have K1 := K.new (w.heap.size + 1) #[.int .u8 0, .int .u8 0, .int .u8 0, .int .u8 0, .int .u8 0, .int .u8 0] 78 (by simp)
  have HK := Lib.hid (show Kn _ (.row (w.heap.size + 1) 6 (fun _ => .int .u8 0) :: _) from ⟨row6 K1.1, K1.2⟩)
  clear hS K K1
  have HL : Hid (∀ i : Nat, (fun i : Nat => atP W H g (x - 2 + i) y) i = atP W H g (x - 2 + i) y) := Lib.hid (fun _ => rfl)
  have HLB : Hid (Byt (fun i : Nat => atP W H g (x - 2 + i) y)) := Lib.hid (fun i => hg _)
  generalize (fun i : Nat => atP W H g (x - 2 + i) y) = l at *
  go_enter Try.func47, Try.ntmps47
  go_wp2_with fail
  go_loopw [9] (fun i wr => ∃ k : Nat, k ≤ 6 ∧ i = .int .i64 k ∧ Kn wr [.row (w.heap.size + 1) 6 (fun i => .int .u8 (if i < k then l i else 0)), .box w.heap.size #[.int .i64 W, .int .i64 H, .slice A N c], .rd A N (by8 g), .since w]) (fun i _ => 6 - (intOf i).toNat)
  case atStart => exact ⟨0, by omega, rfl, HK.out.row (fun i _ => by simp)⟩
  case round =>
    obtain ⟨k, hk, rfl, K⟩ := hrel
    clear HK
    by_cases hlt : k < 6
    · have kc := Box.cells K.2.1
      have bl := HLB.out k
      go_wp2_with fail
      refine (at_yes W H A N c g _ _ _ hr K.2.2.1).mono ?_
      rintro e w3 ⟨rfl, hb3⟩
      have K3 := K.below hb3
      rw [← HL.out k]
      generalize hv : l k = v at *
      have HV := Lib.hid hv
      clear hv hb3 K kc
      have cr := Row.cell K3.1 hlt
      have fr := Row.frozen K3.1 k
      have hk6 : (k : Int) < 6 := by omega
      go_wp2
      go_roundw
      case rel =>
        refine ⟨k + 1, by omega, by go_num, (Kn.setRowS K3 k (.int .u8 v) OF.out).row fun i _ => ?_⟩
        by_cases e : i = k
        · subst e; simp [HV.out]
        · rw [if_neg e]
          by_cases e2 : i < k
          · rw [if_pos e2, if_pos (by omega)]
          · rw [if_neg e2, if_neg (by omega)]
      case measure => simp [intOf]; omega
    · obtain rfl : k = 6 := by omega
      have c0 := Row.cell K.1 (i := 0) (by omega)
      have c1 := Row.cell K.1 (i := 1) (by omega)
      have c2 := Row.cell K.1 (i := 2) (by omega)
      have c3 := Row.cell K.1 (i := 3) (by omega)
      have c4 := Row.cell K.1 (i := 4) (by omega)
      have c5 := Row.cell K.1 (i := 5) (by omega)
      simp only [show (0 : Nat) < 6 by omega, show (1 : Nat) < 6 by omega, show (2 : Nat) < 6 by omega, show (3 : Nat) < 6 by omega, show (4 : Nat) < 6 by omega, show (5 : Nat) < 6 by omega, if_true] at c0 c1 c2 c3 c4 c5
      go_wp2_with fail
      refine (half_any l _ HLB.out).mono ?_
      rintro e w4 ⟨rfl, hb4⟩
      replace K := K.below hb4
      go_wp2
      go_ret
      exact ⟨rfl, K.2.2.2.1⟩

set_option maxHeartbeats 2000000 in
theorem mdown_any (W H : Int) (A : Option Addr) (N c : Nat) (g : Nat → Int) (x y : Int) (w : World) (hr : rightB W H N = true) (hS : Rd w A N (by8 g)) (hg : Byt g) (hx : -4611686018427387904 ≤ x ∧ x ≤ 4611686018427387904) (hy : -4611686018427387904 ≤ y ∧ y ≤ 4611686018427387904) :
    Calls Try.prog 48 #[.agg #[.int .i64 W, .int .i64 H, .slice A N c], .int .i64 x, .int .i64 y] w fun e w' => e = .returned (.int .u8 (half6 (fun i => atP W H g x (y - 2 + i)))) ∧ Below w.heap.size w w' := by
  have K := ((Kn.start w).add (x := .rd A N (by8 g)) hS).new w.heap.size #[.int .i64 W, .int .i64 H, .slice A N c] 24 rfl
  have OF := Lib.hid (K.offS (b := w.heap.size + 1) (by simp))
  have K1 := K.new (w.heap.size + 1) #[.int .u8 0, .int .u8 0, .int .u8 0, .int .u8 0, .int .u8 0, .int .u8 0] 78 (by simp)
  have HK := Lib.hid (show Kn _ (.row (w.heap.size + 1) 6 (fun _ => .int .u8 0) :: _) from ⟨row6 K1.1, K1.2⟩)
  clear hS K K1
  have HL : Hid (∀ i : Nat, (fun i : Nat => atP W H g x (y - 2 + i)) i = atP W H g x (y - 2 + i)) := Lib.hid (fun _ => rfl)
  have HLB : Hid (Byt (fun i : Nat => atP W H g x (y - 2 + i))) := Lib.hid (fun i => hg _)
  generalize (fun i : Nat => atP W H g x (y - 2 + i)) = l at *
  go_enter Try.func48, Try.ntmps48
  go_wp2_with fail
  go_loopw [9] (fun i wr => ∃ k : Nat, k ≤ 6 ∧ i = .int .i64 k ∧ Kn wr [.row (w.heap.size + 1) 6 (fun i => .int .u8 (if i < k then l i else 0)), .box w.heap.size #[.int .i64 W, .int .i64 H, .slice A N c], .rd A N (by8 g), .since w]) (fun i _ => 6 - (intOf i).toNat)
  case atStart => exact ⟨0, by omega, rfl, HK.out.row (fun i _ => by simp)⟩
  case round =>
    obtain ⟨k, hk, rfl, K⟩ := hrel
    clear HK
    by_cases hlt : k < 6
    · have kc := Box.cells K.2.1
      have bl := HLB.out k
      go_wp2_with fail
      refine (at_yes W H A N c g _ _ _ hr K.2.2.1).mono ?_
      rintro e w3 ⟨rfl, hb3⟩
      have K3 := K.below hb3
      rw [← HL.out k]
      generalize hv : l k = v at *
      have HV := Lib.hid hv
      clear hv hb3 K kc
      have cr := Row.cell K3.1 hlt
      have fr := Row.frozen K3.1 k
      have hk6 : (k : Int) < 6 := by omega
      go_wp2
      go_roundw
      case rel =>
        refine ⟨k + 1, by omega, by go_num, (Kn.setRowS K3 k (.int .u8 v) OF.out).row fun i _ => ?_⟩
        by_cases e : i = k
        · subst e; simp [HV.out]
        · rw [if_neg e]
          by_cases e2 : i < k
          · rw [if_pos e2, if_pos (by omega)]
          · rw [if_neg e2, if_neg (by omega)]
      case measure => simp [intOf]; omega
    · obtain rfl : k = 6 := by omega
      have c0 := Row.cell K.1 (i := 0) (by omega)
      have c1 := Row.cell K.1 (i := 1) (by omega)
      have c2 := Row.cell K.1 (i := 2) (by omega)
      have c3 := Row.cell K.1 (i := 3) (by omega)
      have c4 := Row.cell K.1 (i := 4) (by omega)
      have c5 := Row.cell K.1 (i := 5) (by omega)
      simp only [show (0 : Nat) < 6 by omega, show (1 : Nat) < 6 by omega, show (2 : Nat) < 6 by omega, show (3 : Nat) < 6 by omega, show (4 : Nat) < 6 by omega, show (5 : Nat) < 6 by omega, if_true] at c0 c1 c2 c3 c4 c5
      go_wp2_with fail
      refine (half_any l _ HLB.out).mono ?_
      rintro e w4 ⟨rfl, hb4⟩
      replace K := K.below hb4
      go_wp2
      go_ret
      exact ⟨rfl, K.2.2.2.1⟩

set_option maxHeartbeats 2000000 in
theorem racross_any (W H : Int) (A : Option Addr) (N c : Nat) (g : Nat → Int) (x y : Int) (w : World) (hr : rightB W H N = true) (hS : Rd w A N (by8 g)) (hg : Byt g) (hx : -4611686018427387904 ≤ x ∧ x ≤ 4611686018427387904) (hy : -4611686018427387904 ≤ y ∧ y ≤ 4611686018427387904) :
    Calls Try.prog 64 #[.agg #[.int .i64 W, .int .i64 H, .slice A N c], .int .i64 x, .int .i64 y] w fun e w' => e = .returned (.int .i64 (half6 (fun i => atP W H g (x - 2 + i) y))) ∧ Below w.heap.size w w' := by
  have K := ((Kn.start w).add (x := .rd A N (by8 g)) hS).new w.heap.size #[.int .i64 W, .int .i64 H, .slice A N c] 24 rfl
  have OF := Lib.hid (K.offS (b := w.heap.size + 1) (by simp))
  have K1 := K.new (w.heap.size + 1) #[.int .i64 0, .int .i64 0, .int .i64 0, .int .i64 0, .int .i64 0, .int .i64 0] 81 (by simp)
  have HK := Lib.hid (show Kn _ (.row (w.heap.size + 1) 6 (fun _ => .int .i64 0) :: _) from ⟨row6 K1.1, K1.2⟩)
  clear hS K K1
  have HL : Hid (∀ i : Nat, (fun i : Nat => atP W H g (x - 2 + i) y) i = atP W H g (x - 2 + i) y) := Lib.hid (fun _ => rfl)
  have HLB : Hid (Byt (fun i : Nat => atP W H g (x - 2 + i) y)) := Lib.hid (fun i => hg _)
  generalize (fun i : Nat => atP W H g (x - 2 + i) y) = l at *
  go_enter Try.func64, Try.ntmps64
  go_wp2_with fail
  go_loopw [8] (fun i wr => ∃ k : Nat, k ≤ 6 ∧ i = .int .i64 k ∧ Kn wr [.row (w.heap.size + 1) 6 (fun i => .int .i64 (if i < k then l i else 0)), .box w.heap.size #[.int .i64 W, .int .i64 H, .slice A N c], .rd A N (by8 g), .since w]) (fun i _ => 6 - (intOf i).toNat)
  case atStart => exact ⟨0, by omega, rfl, HK.out.row (fun i _ => by simp)⟩
  case round =>
    obtain ⟨k, hk, rfl, K⟩ := hrel
    clear HK
    by_cases hlt : k < 6
    · have kc := Box.cells K.2.1
      have bl := HLB.out k
      go_wp2_with fail
      refine (rat_yes W H A N c g _ _ _ hr K.2.2.1).mono ?_
      rintro e w3 ⟨rfl, hb3⟩
      have K3 := K.below hb3
      rw [← HL.out k]
      generalize hv : l k = v at *
      have HV := Lib.hid hv
      clear hv hb3 K kc
      have cr := Row.cell K3.1 hlt
      have fr := Row.frozen K3.1 k
      have hk6 : (k : Int) < 6 := by omega
      go_wp2
      go_roundw
      case rel =>
        refine ⟨k + 1, by omega, by go_num, (Kn.setRowS K3 k (.int .i64 v) OF.out).row fun i _ => ?_⟩
        by_cases e : i = k
        · subst e; simp [HV.out]
        · rw [if_neg e]
          by_cases e2 : i < k
          · rw [if_pos e2, if_pos (by omega)]
          · rw [if_neg e2, if_neg (by omega)]
      case measure => simp [intOf]; omega
    · obtain rfl : k = 6 := by omega
      have c0 := Row.cell K.1 (i := 0) (by omega)
      have c1 := Row.cell K.1 (i := 1) (by omega)
      have c2 := Row.cell K.1 (i := 2) (by omega)
      have c3 := Row.cell K.1 (i := 3) (by omega)
      have c4 := Row.cell K.1 (i := 4) (by omega)
      have c5 := Row.cell K.1 (i := 5) (by omega)
      simp only [show (0 : Nat) < 6 by omega, show (1 : Nat) < 6 by omega, show (2 : Nat) < 6 by omega, show (3 : Nat) < 6 by omega, show (4 : Nat) < 6 by omega, show (5 : Nat) < 6 by omega, if_true] at c0 c1 c2 c3 c4 c5
      go_wp2_with fail
      refine (rhalf_any l _ HLB.out).mono ?_
      rintro e w4 ⟨rfl, hb4⟩
      replace K := K.below hb4
      go_wp2
      go_ret
      exact ⟨rfl, K.2.2.2.1⟩

set_option maxHeartbeats 2000000 in
theorem rdown_any (W H : Int) (A : Option Addr) (N c : Nat) (g : Nat → Int) (x y : Int) (w : World) (hr : rightB W H N = true) (hS : Rd w A N (by8 g)) (hg : Byt g) (hx : -4611686018427387904 ≤ x ∧ x ≤ 4611686018427387904) (hy : -4611686018427387904 ≤ y ∧ y ≤ 4611686018427387904) :
    Calls Try.prog 65 #[.agg #[.int .i64 W, .int .i64 H, .slice A N c], .int .i64 x, .int .i64 y] w fun e w' => e = .returned (.int .i64 (half6 (fun i => atP W H g x (y - 2 + i)))) ∧ Below w.heap.size w w' := by
  have K := ((Kn.start w).add (x := .rd A N (by8 g)) hS).new w.heap.size #[.int .i64 W, .int .i64 H, .slice A N c] 24 rfl
  have OF := Lib.hid (K.offS (b := w.heap.size + 1) (by simp))
  have K1 := K.new (w.heap.size + 1) #[.int .i64 0, .int .i64 0, .int .i64 0, .int .i64 0, .int .i64 0, .int .i64 0] 81 (by simp)
  have HK := Lib.hid (show Kn _ (.row (w.heap.size + 1) 6 (fun _ => .int .i64 0) :: _) from ⟨row6 K1.1, K1.2⟩)
  clear hS K K1
  have HL : Hid (∀ i : Nat, (fun i : Nat => atP W H g x (y - 2 + i)) i = atP W H g x (y - 2 + i)) := Lib.hid (fun _ => rfl)
  have HLB : Hid (Byt (fun i : Nat => atP W H g x (y - 2 + i))) := Lib.hid (fun i => hg _)
  generalize (fun i : Nat => atP W H g x (y - 2 + i)) = l at *
  go_enter Try.func65, Try.ntmps65
  go_wp2_with fail
  go_loopw [8] (fun i wr => ∃ k : Nat, k ≤ 6 ∧ i = .int .i64 k ∧ Kn wr [.row (w.heap.size + 1) 6 (fun i => .int .i64 (if i < k then l i else 0)), .box w.heap.size #[.int .i64 W, .int .i64 H, .slice A N c], .rd A N (by8 g), .since w]) (fun i _ => 6 - (intOf i).toNat)
  case atStart => exact ⟨0, by omega, rfl, HK.out.row (fun i _ => by simp)⟩
  case round =>
    obtain ⟨k, hk, rfl, K⟩ := hrel
    clear HK
    by_cases hlt : k < 6
    · have kc := Box.cells K.2.1
      have bl := HLB.out k
      go_wp2_with fail
      refine (rat_yes W H A N c g _ _ _ hr K.2.2.1).mono ?_
      rintro e w3 ⟨rfl, hb3⟩
      have K3 := K.below hb3
      rw [← HL.out k]
      generalize hv : l k = v at *
      have HV := Lib.hid hv
      clear hv hb3 K kc
      have cr := Row.cell K3.1 hlt
      have fr := Row.frozen K3.1 k
      have hk6 : (k : Int) < 6 := by omega
      go_wp2
      go_roundw
      case rel =>
        refine ⟨k + 1, by omega, by go_num, (Kn.setRowS K3 k (.int .i64 v) OF.out).row fun i _ => ?_⟩
        by_cases e : i = k
        · subst e; simp [HV.out]
        · rw [if_neg e]
          by_cases e2 : i < k
          · rw [if_pos e2, if_pos (by omega)]
          · rw [if_neg e2, if_neg (by omega)]
      case measure => simp [intOf]; omega
    · obtain rfl : k = 6 := by omega
      have c0 := Row.cell K.1 (i := 0) (by omega)
      have c1 := Row.cell K.1 (i := 1) (by omega)
      have c2 := Row.cell K.1 (i := 2) (by omega)
      have c3 := Row.cell K.1 (i := 3) (by omega)
      have c4 := Row.cell K.1 (i := 4) (by omega)
      have c5 := Row.cell K.1 (i := 5) (by omega)
      simp only [show (0 : Nat) < 6 by omega, show (1 : Nat) < 6 by omega, show (2 : Nat) < 6 by omega, show (3 : Nat) < 6 by omega, show (4 : Nat) < 6 by omega, show (5 : Nat) < 6 by omega, if_true] at c0 c1 c2 c3 c4 c5
      go_wp2_with fail
      refine (rhalf_any l _ HLB.out).mono ?_
      rintro e w4 ⟨rfl, hb4⟩
      replace K := K.below hb4
      go_wp2
      go_ret
      exact ⟨rfl, K.2.2.2.1⟩
end Go.Proofs.Ytcojphdohpgjnaa
