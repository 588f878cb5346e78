/- PlaneEdges: a sample outside is that of the nearest place inside, a block wholly outside a corner is this corner's sample, and one that is laid there changes nothing: proved for every plane, place and side, no condition. -/
import Derived.Test.YtlkogokhcdehfaaAl6
import Derived.Test.YtlkogokhcdehfaaPm1
import Derived.Test.YtlkogokhcdehfaaRg3
import Derived.Test.YtlkogokhcdehfaaClose
namespace Go.Proofs.Ytlkogokhcdehfaa
open Go.ChangeShapes Go.WideShapes Go.ChangeAt Go.RowKit Go.Joins Go.Kin
set_option linter.unusedVariables false

theorem at_near {W H : Int} {g : Nat → Int} {x y : Int} (hW : 1 ≤ W) (hH : 1 ≤ H) : atP W H g (min (max x 0) (W - 1)) (min (max y 0) (H - 1)) = atP W H g x y := by
  unfold atP
  rw [show min (max (min (max y 0) (H - 1)) 0) (H - 1) = min (max y 0) (H - 1) by omega, show min (max (min (max x 0) (W - 1)) 0) (W - 1) = min (max x 0) (W - 1) by omega]
theorem block_ne {W H : Nat} {g : Nat → Int} {n k : Nat} (r1 : 1 ≤ (W : Int)) (r2 : (W : Int) ≤ 4096) (r3 : 1 ≤ (H : Int)) (r4 : (H : Int) ≤ 4096) (hn : n ≤ 16) (hk : k < n * n) : blockP W H g 1099511627776 (-1099511627776) n k = atP W H g (W - 1) 0 := by
  obtain ⟨i, j, hi, hj, rfl⟩ := split_at hk
  rw [blockP_at hi]
  unfold atP aheadI
  rw [if_neg (by omega), if_pos (by omega)]
  congr 2
  rw [show min (max (-1099511627776 + (j : Int)) 0) ((H : Int) - 1) = 0 by omega, show min (max (0 : Int) 0) ((H : Int) - 1) = 0 by omega]
  omega
theorem block_sw {W H : Nat} {g : Nat → Int} {n k : Nat} (r1 : 1 ≤ (W : Int)) (r2 : (W : Int) ≤ 4096) (r3 : 1 ≤ (H : Int)) (r4 : (H : Int) ≤ 4096) (hn : n ≤ 16) (hk : k < n * n) : blockP W H g (-(n : Int)) H n k = atP W H g 0 (H - 1) := by
  obtain ⟨i, j, hi, hj, rfl⟩ := split_at hk
  rw [blockP_at hi]
  unfold atP aheadI
  rw [if_pos (by omega), if_neg (by omega)]
  congr 2
  rw [show min (max (-(n : Int) + (i : Int)) 0) ((W : Int) - 1) = 0 by omega, show min (max (0 : Int) 0) ((W : Int) - 1) = 0 by omega, show min (max ((H : Int) - 1) 0) ((H : Int) - 1) = (H : Int) - 1 by omega]

namespace PlaneEdges
set_option maxRecDepth 100000 in
set_option maxHeartbeats 4000000 in
theorem walk_no (w : World) (p : PlV) (x y n : Int) (h : fitB p.n = false ∨ (fitB p.n = true ∧ rightB p.a p.b p.n = false) ∨ (fitB p.n = true ∧ rightB p.a p.b p.n = true ∧ n < 1) ∨ (fitB p.n = true ∧ rightB p.a p.b p.n = true ∧ ¬ n < 1 ∧ 16 < n)) :
    Calls Try.prog 11 #[.agg #[.int .i64 p.a, .int .i64 p.b, .slice p.A p.n p.c], .agg #[.int .i64 x, .int .i64 y], .int .i64 n] w fun e w' => e = .returned (.bool true) ∧ Below w.heap.size w w' := by
  have K := Kn.start w
  have HRB : ∀ w1 : World, Calls Try.prog 20 #[.agg #[.int .i64 p.a, .int .i64 p.b, .slice p.A p.n p.c]] w1 fun e w' => e = .returned (.bool (rightB p.a p.b p.n)) ∧ Below w1.heap.size w1 w' := fun w1 => right_any _ _ _ _ _ _
  have HR := Lib.hid HRB
  clear HRB
  rcases h with h1 | ⟨h1, h2⟩ | ⟨h1, h2, h3⟩ | ⟨h1, h2, h3, h4⟩
  · go_enter Try.func11, Try.ntmps11
    go_wp2_with fail
    refine (fits_any _ _ _ _ _ _).mono ?_
    rintro e w1 ⟨rfl, hb1⟩
    replace K := ((K.new w.heap.size _ _ rfl).new (w.heap.size + 1) _ _ (by simp)).below hb1
    clear hb1
    replace kc0 := Box.cells K.1
    replace kl0 := Box.lt K.1
    replace kc1 := Box.cells K.2.1
    replace kl1 := Box.lt K.2.1
    replace L : Below _ _ _ := K.2.2.1
    go_wp2_with fail
    refine (alive06 _).mono ?_
    rintro e w2 ⟨rfl, hb2⟩
    replace K := K.below hb2
    clear hb2
    replace L : Below _ _ _ := K.2.2.1
    go_wp2
    go_ret
    exact ⟨rfl, L⟩
  all_goals go_enter Try.func11, Try.ntmps11
  all_goals go_wp2_with fail
  all_goals refine (fits_any _ _ _ _ _ _).mono ?_
  all_goals rintro e w1 ⟨rfl, hb1⟩
  all_goals replace K := ((K.new w.heap.size _ _ rfl).new (w.heap.size + 1) _ _ (by simp)).below hb1
  all_goals clear hb1
  all_goals replace kc0 := Box.cells K.1
  all_goals replace kl0 := Box.lt K.1
  all_goals replace kc1 := Box.cells K.2.1
  all_goals replace kl1 := Box.lt K.2.1
  all_goals replace L : Below _ _ _ := K.2.2.1
  all_goals go_wp2_with fail
  all_goals refine (HR.out _).mono ?_
  all_goals rintro e w2 ⟨rfl, hb2⟩
  all_goals replace K := K.below hb2
  all_goals clear hb2
  all_goals replace kc0 := Box.cells K.1
  all_goals replace kl0 := Box.lt K.1
  all_goals replace kc1 := Box.cells K.2.1
  all_goals replace kl1 := Box.lt K.2.1
  all_goals replace L : Below _ _ _ := K.2.2.1
  all_goals go_wp2_with fail
  all_goals refine (alive06 _).mono ?_
  all_goals rintro e w3 ⟨rfl, hb3⟩
  all_goals replace K := K.below hb3
  all_goals clear hb3
  all_goals replace L : Below _ _ _ := K.2.2.1
  all_goals go_wp2
  all_goals go_ret
  all_goals exact ⟨rfl, L⟩

set_option maxRecDepth 100000 in
set_option maxHeartbeats 4000000 in
theorem walk_yes (w : World) (W H : Nat) (A : Option Addr) (N c : Nat) (g : Nat → Int) (hg : Byt g) (hR : Rd w A N (by8 g)) (x y : Int) (ix : I64 x) (iy : I64 y) (n : Nat) (h1 : fitB N = true) (hr : rightB W H N = true) (n1 : 1 ≤ n) (n2 : n ≤ 16) :
    Calls Try.prog 11 #[.agg #[.int .i64 W, .int .i64 H, .slice A N c], .agg #[.int .i64 x, .int .i64 y], .int .i64 n] w fun e w' => e = .returned (.bool true) ∧ Below w.heap.size w w' := by
  obtain ⟨r1, r2, r3, r4, r5⟩ := rightB_iff.1 hr
  have hNW : N = W * H := by exact_mod_cast r5
  have hN := rightB_le hr
  have HNW := Lib.hid hNW
  clear r5 hNW
  have hnn : n * n ≤ 256 := Nat.mul_le_mul n2 n2
  have m1 : (0 : Int) ≤ (n : Int) * n := by have := Int.natCast_mul n n; omega
  have m2 : (n : Int) * n ≤ 256 := by have := Int.natCast_mul n n; omega
  have K := (Kn.start w).add (x := .rd A N (by8 g)) hR
  have HN := Lib.hid (at_near (g := g) (x := x) (y := y) r1 r3)
  clear hR
  go_enter Try.func11, Try.ntmps11
  go_wp2_with fail
  refine (fits_any _ _ _ _ _ _).mono ?_
  rintro e w1 ⟨rfl, hb1⟩
  replace K := ((K.new w.heap.size _ _ rfl).new (w.heap.size + 1) _ _ (by simp)).below hb1
  clear hb1
  replace kc0 := Box.cells K.1
  replace kl0 := Box.lt K.1
  replace kc1 := Box.cells K.2.1
  replace kl1 := Box.lt K.2.1
  replace L : Below _ _ _ := K.2.2.2.1
  go_wp2_with fail
  refine (right_any _ _ _ _ _ _).mono ?_
  rintro e w2 ⟨rfl, hb2⟩
  replace K := K.below hb2
  clear hb2
  replace kc0 := Box.cells K.1
  replace kl0 := Box.lt K.1
  replace kc1 := Box.cells K.2.1
  replace kl1 := Box.lt K.2.1
  replace RA : Rd _ _ _ _ := K.2.2.1
  replace L : Below _ _ _ := K.2.2.2.1
  go_wp2_with fail
  refine (block_yes W H A N c g 1099511627776 (-1099511627776) n _ hr RA n1 (by omega) ⟨by omega, by omega⟩ ⟨by omega, by omega⟩).mono ?_
  rintro e w3 ⟨b3, rfl, hb3, hr3, hL3⟩
  replace K := (K.below hL3).add (x := .row b3 (n * n) (by8 fun _ => atP W H g (W - 1) 0)) (Row.congr hr3 (fun k hk => by simp only [by8]; rw [block_ne r1 r2 r3 r4 n2 hk]))
  clear hL3 hr3
  replace kc1 := Box.cells K.2.1
  replace kl1 := Box.lt K.2.1
  replace kc2 := Box.cells K.2.2.1
  replace kl2 := Box.lt K.2.2.1
  replace RA : Rd _ _ _ _ := K.2.2.2.1
  replace L : Below _ _ _ := K.2.2.2.2.1
  go_wp2_with fail
  refine (block_yes W H A N c g (-(n : Int)) H n _ hr RA n1 (by omega) ⟨by omega, by omega⟩ ⟨by omega, by omega⟩).mono ?_
  rintro e w4 ⟨b4, rfl, hb4, hr4, hL4⟩
  replace K := (K.below hL4).add (x := .row b4 (n * n) (by8 fun _ => atP W H g 0 (H - 1))) (Row.congr hr4 (fun k hk => by simp only [by8]; rw [block_sw r1 r2 r3 r4 n2 hk]))
  clear hL4 hr4
  go_wp2
  have K2 := K
  clear K kc1 kl1 kc2 kl2 kc0 kl0 RA L
  have z0 : IntKind.i64.wrap ((n : Int) * n) = (n : Int) * n := IntWalk.i64_in _ (by omega)
  refine wp_region_allH (fun w' => Kn w' _) [5, 9] [(0,1),(1,1),(2,1),(3,1),(4,1),(6,1),(7,1),(8,1),(5,2),(9,2),(10,0),(11,0),(12,0),(13,0),(14,0),(15,0),(16,0),(17,0),(18,0),(19,0),(20,0),(21,0),(22,0),(23,0),(24,0),(25,0),(26,0)] (by kernel_rfl) (by kernel_rfl) (fun _ _ d _ _ h => by cases d <;> exact h) (Kn.drew K2) ?_
  repeat (first | (refine oH_freeG rfl rfl (fun w' hS => by have s1 := Box.cells hS.2.2.1; have s2 := Box.cells hS.2.2.2.1; clear hS; go_simp; with_reducible rfl) ?_; go_simp) | (refine oH_skipG rfl rfl ?_; go_simp))
  refine oH_doG rfl rfl (fun KK hKK => ?_)
  go_simp
  refine (at_yes W H A N c g x y _ hr (Rd.drew K2.2.2.2.2.1)).mono ?_
  rintro e w5 ⟨rfl, hL5⟩
  have K3 := (Kn.drew K2).below hL5
  refine hKK _ _ ⟨K3, ?_⟩
  clear hKK KK hL5 K2
  refine oH_doG rfl rfl (fun KK hKK => ?_)
  go_simp
  refine (at_yes W H A N c g _ _ _ hr K3.2.2.2.2.1).mono ?_
  rintro e w6 ⟨rfl, hL6⟩
  have K4 := K3.below hL6
  rw [HN.out]
  refine hKK _ _ ⟨K4, ?_⟩
  clear hKK KK hL6 K3
  repeat (refine oH_still rfl (fun KK hKK => ?_); go_simp; refine hKK _ ?_; clear hKK KK)
  refine oH_nil ?_
  clear z0
  have HK := Lib.hid K4
  clear K4
  go_wp2
  go_loopw [13] (fun i wr => ∃ k : Nat, k ≤ n * n ∧ i = .int .i64 k ∧ Kn wr [.row b4 (n * n) (by8 fun _ => atP W H g 0 (H - 1)), .row b3 (n * n) (by8 fun _ => atP W H g (W - 1) 0), .box (w.heap.size + 1) #[.int .i64 x, .int .i64 y], .box w.heap.size #[.int .i64 W, .int .i64 H, .slice A N c], .rd A N (by8 g), .since w]) (fun i _ => n * n - (intOf i).toNat)
  case atStart => exact ⟨0, Nat.zero_le _, rfl, HK.out⟩
  case round =>
    obtain ⟨k, hk, rfl, K⟩ := hrel
    clear HK
    by_cases hlt : k < n * n
    · have hlt' : (k : Int) < (n : Int) * n := by exact_mod_cast hlt
      have z1 : IntKind.i64.wrap ((H : Int) - 1) = H - 1 := IntWalk.i64_in _ (by omega)
      have z2 : IntKind.i64.wrap ((W : Int) - 1) = W - 1 := IntWalk.i64_in _ (by omega)
      have K2 := K
      clear K
      go_wp2
      refine wp_region_allH (fun w' => Kn w' _) [8, 19] [(0,1),(1,1),(2,1),(3,1),(4,1),(5,1),(6,1),(7,1),(8,2),(9,1),(10,1),(11,1),(12,1),(13,1),(14,1),(15,1),(16,1),(17,1),(18,1),(19,2),(20,0),(21,0)] (by kernel_rfl) (by kernel_rfl) (fun _ _ d _ _ h => by cases d <;> exact h) (Kn.drew K2) ?_
      repeat (first | (refine oH_freeG rfl rfl (fun w' hS => by have s1 := Box.cells hS.2.2.2.1; have s2 := Row.cell hS.2.1 hlt; simp only [by8] at s2; clear hS; go_simp; with_reducible rfl) ?_; go_simp) | (refine oH_skipG rfl rfl ?_; go_simp))
      refine oH_doG rfl rfl (fun KK hKK => ?_)
      go_simp
      refine (at_yes W H A N c g _ _ _ hr (Rd.drew K2.2.2.2.2.1)).mono ?_
      rintro e w8 ⟨rfl, hL8⟩
      have K3 := (Kn.drew K2).below hL8
      refine hKK _ _ ⟨K3, ?_⟩
      clear hKK KK hL8 K2
      repeat (first | (refine oH_freeG rfl rfl (fun w' hS => by have s1 := Box.cells hS.2.2.2.1; have s2 := Row.cell hS.1 hlt; simp only [by8] at s2; clear hS; go_simp; with_reducible rfl) ?_; go_simp) | (refine oH_skipG rfl rfl ?_; go_simp))
      refine oH_doG rfl rfl (fun KK hKK => ?_)
      go_simp
      refine (at_yes W H A N c g _ _ _ hr K3.2.2.2.2.1).mono ?_
      rintro e w9 ⟨rfl, hL9⟩
      have K4 := K3.below hL9
      refine hKK _ _ ⟨K4, ?_⟩
      clear hKK KK hL9 K3
      repeat (refine oH_still rfl (fun KK hKK => ?_); go_simp; refine hKK _ ?_; clear hKK KK)
      refine oH_nil ?_
      clear z1 z2
      have HK := Lib.hid K4
      clear K4
      go_wp2
      exact ⟨⟨k + 1, hlt, by go_num, HK.out⟩, by simp [intOf]; omega⟩
    · have hlt' : ¬ (k : Int) < (n : Int) * n := fun h => hlt (by exact_mod_cast h)
      replace R4 : Row _ _ _ _ := K.1
      replace R3 : Row _ _ _ _ := K.2.1
      replace kc2 := Box.cells K.2.2.1
      replace kl2 := Box.lt K.2.2.1
      replace kc3 := Box.cells K.2.2.2.1
      replace kl3 := Box.lt K.2.2.2.1
      replace RA : Rd _ _ _ _ := K.2.2.2.2.1
      replace L : Below _ _ _ := K.2.2.2.2.2.1
      go_wp2_with fail
      refine (lay_yes W H A _ N c (n * n) (n * n) g (fun _ => atP W H g (W - 1) 0) (-(n : Int)) 0 n _ n1 (by omega) rfl hr ⟨by omega, by omega⟩ ⟨by omega, by omega⟩ RA R3.rd (Nat.le_refl _) (by omega)).mono ?_
      rintro e w10 ⟨b10, rfl, hb10, hr10, hL10⟩
      replace K := (K.below hL10).add (x := .row b10 N (by8 g)) (Row.congr hr10 (fun k hk => by simp only [by8]; rw [layP_out (H := H) (by omega) (by have := HNW.out; omega) (.inl (by omega))]))
      clear hL10 hr10
      replace R10 : Row _ _ _ _ := K.1
      replace R4 : Row _ _ _ _ := K.2.1
      replace R3 : Row _ _ _ _ := K.2.2.1
      replace kc3 := Box.cells K.2.2.2.1
      replace kl3 := Box.lt K.2.2.2.1
      replace kc4 := Box.cells K.2.2.2.2.1
      replace kl4 := Box.lt K.2.2.2.2.1
      replace RA : Rd _ _ _ _ := K.2.2.2.2.2.1
      replace L : Below _ _ _ := K.2.2.2.2.2.2.1
      go_wp2_with fail
      refine (lay_yes W H A _ N c (n * n) (n * n) g (fun _ => atP W H g (W - 1) 0) 1099511627776 1099511627776 n _ n1 (by omega) rfl hr ⟨by omega, by omega⟩ ⟨by omega, by omega⟩ (RA.alloc _) (R3.alloc _).rd (Nat.le_refl _) (by omega)).mono ?_
      rintro e w11 ⟨b11, rfl, hb11, hr11, hL11⟩
      replace K := ((K.new w10.heap.size _ _ rfl).below hL11).add (x := .row b11 N (by8 g)) (Row.congr hr11 (fun k hk => by simp only [by8]; rw [layP_out (H := H) (by omega) (by have := HNW.out; omega) (.inr (.inl (by omega)))]))
      clear hL11 hr11
      replace kc1 := Box.cells K.2.1
      replace kl1 := Box.lt K.2.1
      replace kc5 := Box.cells K.2.2.2.2.2.1
      replace kl5 := Box.lt K.2.2.2.2.2.1
      replace kc6 := Box.cells K.2.2.2.2.2.2.1
      replace kl6 := Box.lt K.2.2.2.2.2.2.1
      replace L : Below _ _ _ := K.2.2.2.2.2.2.2.2.1
      go_wp2_with fail
      refine (alive06 _).mono ?_
      rintro e w12 ⟨rfl, hb12⟩
      replace K := ((K.add (x := .row b11 N (by8 g)) K.1).new w11.heap.size _ _ rfl).below hb12
      clear hb12
      replace kc0 := Box.cells K.1
      replace kl0 := Box.lt K.1
      replace R11 : Row _ _ _ _ := K.2.2.1
      replace kc3 := Box.cells K.2.2.2.1
      replace kl3 := Box.lt K.2.2.2.1
      replace R10 : Row _ _ _ _ := K.2.2.2.2.1
      replace kc8 := Box.cells K.2.2.2.2.2.2.2.2.1
      replace kl8 := Box.lt K.2.2.2.2.2.2.2.2.1
      replace RA : Rd _ _ _ _ := K.2.2.2.2.2.2.2.2.2.1
      replace L : Below _ _ _ := K.2.2.2.2.2.2.2.2.2.2.1
      have k1 := conv_any (c := N) R11.rd
      have k2 := conv_any (c := N) R10.rd
      have k3 := conv_any (c := c) RA
      go_wp2
      go_ret
      exact ⟨rfl, L⟩

theorem walk (w : World) (a b : Int) (A : Option Addr) (n c : Nat) (g : Nat → Int) (ia : I64 a) (ib : I64 b) (hR : Rd w A n (by8 g)) (hg : Byt g) (hnc : n ≤ c) (hc : c ≤ 9223372036854775807) (x y : Int) (ix : I64 x) (iy : I64 y) (q : Int) (iq : I64 q) :
    Calls Try.prog 11 #[.agg #[.int .i64 a, .int .i64 b, .slice A n c], .agg #[.int .i64 x, .int .i64 y], .int .i64 q] w fun e w' => e = .returned (.bool true) ∧ Below w.heap.size w w' := by
  cases h1 : fitB n with
  | false => exact walk_no w ⟨a, b, A, n, c, g⟩ x y q (.inl h1)
  | true =>
    cases h2 : rightB a b n with
    | false => exact walk_no w ⟨a, b, A, n, c, g⟩ x y q (.inr (.inl ⟨h1, h2⟩))
    | true =>
      by_cases h3 : q < 1
      · exact walk_no w ⟨a, b, A, n, c, g⟩ x y q (.inr (.inr (.inl ⟨h1, h2, h3⟩)))
      by_cases h4 : 16 < q
      · exact walk_no w ⟨a, b, A, n, c, g⟩ x y q (.inr (.inr (.inr ⟨h1, h2, h3, h4⟩)))
      obtain ⟨r1, r2, r3, r4, r5⟩ := rightB_iff.1 h2
      obtain ⟨W, rfl⟩ := Int.eq_ofNat_of_zero_le (show 0 ≤ a by omega)
      obtain ⟨H, rfl⟩ := Int.eq_ofNat_of_zero_le (show 0 ≤ b by omega)
      obtain ⟨q, rfl⟩ := Int.eq_ofNat_of_zero_le (show 0 ≤ q by omega)
      exact walk_yes w W H A n c g hg hR x y ix iy q h1 h2 (by omega) (by omega)
end PlaneEdges
namespace PlaneEdges
set_option maxRecDepth 100000 in
theorem lifted (os : Os) (started : os.Started) (H : Type) (enc : TypeId × Value → H) :
    ReturnsInHanded {} Try.checked os 11 .any (Rows.planeEdgesSpec.pre6 enc Try.prog Try.f11 Rows.planeEdgesRow.domain false) (Rows.planeEdgesSpec.post enc Try.prog Try.f11 false true false false) := by
  refine returnsInHanded_of_change (C := Try.checked) own started (by kernel_rfl) Try.func11
    (ChangeSpec.witness6 (enc := enc) (C := Try.checked) false ⟨#[], #[.agg #[.int .i64 0, .int .i64 0, .slice none 0 0], .agg #[.int .i64 0, .int .i64 0], .int .i64 0], []⟩ 8 (by kernel_rfl) (by kernel_rfl) (by kernel_rfl) (by kernel_rfl)) ?_
  intro W base args ds gs before hval0 hW hcnd _
  have hval : ∀ (j : Nat) t v, Try.f11.params[j]? = some t → args[j]? = some v → Value.okWide Try.prog W .any base t v := hval0
  refine law_post (tb := 4) laidOut (by kernel_rfl) rfl Try.underlying4 rfl (fun ds' h => ?_) hW ?_
  · rw [Try.params11] at h
    match ds', h with
    | [d1, d2, d3], _ => exact ⟨rfl, rfl, rfl⟩
  obtain ⟨p, q, hA0, hV, rfl, hfz, hnd⟩ := hW
  have hA : DataW.TrodAll enc Try.prog W 0 (fun _ => true) true Try.f11.params.toList args.toList ds p := hA0
  rw [Try.params11] at hA hval
  obtain ⟨v0, vs0, d0, ds0, p0, q0, hargs, rfl, rfl, h0, r0⟩ := trodAll_cons hA
  obtain ⟨v1, vs1, d1, ds1, p1, q1, rfl, rfl, rfl, h1, r1⟩ := trodAll_cons r0
  obtain ⟨v2, vs2, d2, ds2, p2, q2, rfl, rfl, rfl, h2, r2⟩ := trodAll_cons r1
  obtain ⟨rfl, rfl, rfl⟩ := trodAll_nil r2
  obtain rfl : args = #[v0, v1, v2] := by cases args; simp_all
  obtain ⟨a0, b0, A0, n0, c0, g0, rfl, w0, x0, rr0, t0, l0, m0⟩ := open_plane Try.underlying29 (by kernel_rfl) ⟨rfl, rfl⟩ ⟨rfl, rfl⟩ ⟨rfl, rfl⟩ Try.underlying3 Try.underlying27 Try.underlying5 (by kernel_rfl) (by kernel_rfl) (by kernel_rfl) (hval 0 29 v0 rfl rfl) h0
  obtain ⟨a1, b1, rfl, w1, x1⟩ := open_arr2 Try.underlying35 Try.underlying3 (by kernel_rfl) (by kernel_rfl) (hval 1 35 v1 rfl rfl) h1
  obtain ⟨a2, rfl, rfl, rfl, w2⟩ := open_int Try.underlying3 (hval 2 3 v2 rfl rfl) h2
  exact walk W a0 b0 A0 n0 c0 g0 w0 x0 rr0 t0 l0 m0 a1 b1 w1 x1 a2 (bounds_i64 w2)
theorem over : Rows.planeEdgesRow.holds Try.pinned (OpenSpec.ofChange Rows.planeEdgesSpec) :=
  OpenClaim.holds_of_wide 11 Try.f11 rfl rfl rfl rfl rfl rfl rfl ⟨rfl, rfl, rfl, rfl, rfl⟩ rfl rfl rfl rfl rfl (by kernel_rfl) Try.func11 (by kernel_rfl)
    (of_decide_eq_true (by kernel_rfl)) (by unfold Func.isWrapper; first | (rw [if_pos (by decide +kernel)]; kernel_rfl) | (rw [if_neg (by decide +kernel)]; exact ⟨rfl, rfl⟩))
    (fun os started H enc _ => lifted os started H enc)
end PlaneEdges
theorem planeEdges_holds : Rows.PlaneEdgesSaid := PlaneEdges.over

end Go.Proofs.Ytlkogokhcdehfaa
