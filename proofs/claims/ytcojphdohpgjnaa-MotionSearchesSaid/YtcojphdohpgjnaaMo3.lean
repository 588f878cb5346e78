/- Walks of package motion and of the document's layer 10: Sample. -/
import Derived.Test.YtcojphdohpgjnaaMo2
import Derived.Test.YtcojphdohpgjnaaRg4
namespace Go.Kin
def acrP (W H : Int) (g : Nat → Int) (a b : Int) : Int := half6 (fun i : Nat => atP W H g (a - 2 + i) b)
def dwnP (W H : Int) (g : Nat → Int) (a b : Int) : Int := half6 (fun i : Nat => atP W H g a (b - 2 + i))
/-- The sample at a place in half samples. -/
def sampP (W H : Int) (g : Nat → Int) (x y : Int) : Int :=
  if x % 2 = 0 then (if y % 2 = 0 then atP W H g (x / 2) (y / 2) else dwnP W H g (x / 2) (y / 2))
  else (if y % 2 = 0 then acrP W H g (x / 2) (y / 2) else (acrP W H g (x / 2) (y / 2) + acrP W H g (x / 2) (y / 2 + 1) + 1) / 2)
theorem sampP_byt {W H : Int} {g : Nat → Int} {x y : Int} (hg : Byt g) : 0 ≤ sampP W H g x y ∧ sampP W H g x y ≤ 255 := by
  unfold sampP
  split
  · split
    · exact hg _
    · exact half6_bd _
  · split
    · exact half6_bd _
    · have h1 := half6_bd (fun i : Nat => atP W H g (x / 2 - 2 + i) (y / 2))
      have h2 := half6_bd (fun i : Nat => atP W H g (x / 2 - 2 + i) (y / 2 + 1))
      unfold acrP
      omega
theorem tmod2_abs (x : Int) : x.tmod 2 = x % 2 ∨ x.tmod 2 = -(x % 2) := by
  rcases Int.le_total 0 x with h0 | h0
  · exact .inl (Int.tmod_eq_emod_of_nonneg h0)
  · have h1 : (-x).tmod 2 = (-x) % 2 := Int.tmod_eq_emod_of_nonneg (by omega)
    rw [Int.neg_tmod] at h1
    exact .inr (by omega)
theorem tmod2_even {x : Int} (h : x % 2 = 0) : x.tmod 2 = 0 := by rcases tmod2_abs x with h1 | h1 <;> omega
theorem tmod2_odd {x : Int} (h : ¬ x % 2 = 0) : (x.tmod 2 == 0) = false := by
  have : ¬ x.tmod 2 = 0 := by rcases tmod2_abs x with h1 | h1 <;> omega
  simpa using this
end Go.Kin
namespace Go.Proofs.Ytcojphdohpgjnaa
open Go.RowKit Go.Kin
set_option linter.unusedVariables false

set_option maxHeartbeats 2000000 in
set_option maxRecDepth 100000 in
theorem msample_yes (W H : Int) (A : Option Addr) (N c : Nat) (g : Nat → Int) (x y : Int) (w : World) (hr : rightB W H N = true) (hS : Rd w A N (by8 g)) (hg : Byt g) (hx : -2305843009213693952 ≤ x ∧ x ≤ 2305843009213693952) (hy : -2305843009213693952 ≤ y ∧ y ≤ 2305843009213693952) :
    Calls Try.prog 31 #[.agg #[.int .i64 W, .int .i64 H, .slice A N c], .int .i64 x, .int .i64 y] w fun e w' => e = .returned (.int .u8 (sampP W H g x y)) ∧ Below w.heap.size w w' := by
  have K := (Kn.start w).add (x := .rd A N (by8 g)) hS
  clear hS
  go_enter Try.func31, Try.ntmps31
  go_wp2_with fail
  refine (right_any _ _ _ _ _ _).mono ?_
  rintro e w1 ⟨rfl, hb1⟩
  replace K := (K.new w.heap.size _ _ rfl).below hb1
  clear hb1
  replace kc0 := Box.cells K.1
  replace kl0 := Box.lt K.1
  replace L : Below _ _ _ := K.2.2.1
  by_cases px : x % 2 = 0
  · have ex : bits .and .i64 x 1 = 0 := by rw [i64_and1]; omega
    by_cases py : y % 2 = 0
    · have ey : bits .and .i64 y 1 = 0 := by rw [i64_and1]; omega
      have HV := Lib.hid (show sampP W H g x y = atP W H g (x / 2) (y / 2) by unfold sampP; rw [if_pos px, if_pos py])
      clear px py
      go_wp2_with fail
      refine (at_yes W H A N c g _ _ _ hr K.2.1).mono ?_
      rintro e w3 ⟨rfl, hb3⟩
      replace K := K.below hb3
      clear hb3
      replace L : Below _ _ _ := K.2.2.1
      go_wp2
      go_ret
      exact ⟨ret_int HV.out.symm, L⟩
    · have ey : bits .and .i64 y 1 = 1 := by rw [i64_and1]; omega
      have HV := Lib.hid (show sampP W H g x y = dwnP W H g (x / 2) (y / 2) by unfold sampP; rw [if_pos px, if_neg py])
      clear px py
      have bd := half6_bd (fun i : Nat => atP W H g (x / 2) (y / 2 - 2 + i))
      go_wp2_with fail
      refine (mdown_any W H A N c g _ _ _ hr K.2.1 hg (by omega) (by omega)).mono ?_
      rintro e w3 ⟨rfl, hb3⟩
      replace K := K.below hb3
      clear hb3
      replace L : Below _ _ _ := K.2.2.1
      have HX := Lib.hid (show half6 (fun i : Nat => atP W H g (x / 2) (y / 2 - 2 + i)) = dwnP W H g (x / 2) (y / 2) from rfl)
      generalize half6 (fun i : Nat => atP W H g (x / 2) (y / 2 - 2 + i)) = v at *
      go_wp2
      go_ret
      exact ⟨ret_int (by rw [HV.out, HX.out]), L⟩
  · have ex : bits .and .i64 x 1 = 1 := by rw [i64_and1]; omega
    by_cases py : y % 2 = 0
    · have ey : bits .and .i64 y 1 = 0 := by rw [i64_and1]; omega
      have HV := Lib.hid (show sampP W H g x y = acrP W H g (x / 2) (y / 2) by unfold sampP; rw [if_neg px, if_pos py])
      clear px py
      have bd := half6_bd (fun i : Nat => atP W H g (x / 2 - 2 + i) (y / 2))
      go_wp2_with fail
      refine (macross_any W H A N c g _ _ _ hr K.2.1 hg (by omega) (by omega)).mono ?_
      rintro e w3 ⟨rfl, hb3⟩
      replace K := K.below hb3
      clear hb3
      replace L : Below _ _ _ := K.2.2.1
      have HX := Lib.hid (show half6 (fun i : Nat => atP W H g (x / 2 - 2 + i) (y / 2)) = acrP W H g (x / 2) (y / 2) from rfl)
      generalize half6 (fun i : Nat => atP W H g (x / 2 - 2 + i) (y / 2)) = v at *
      go_wp2
      go_ret
      exact ⟨ret_int (by rw [HV.out, HX.out]), L⟩
    · have ey : bits .and .i64 y 1 = 1 := by rw [i64_and1]; omega
      have HV := Lib.hid (show sampP W H g x y = (acrP W H g (x / 2) (y / 2) + acrP W H g (x / 2) (y / 2 + 1) + 1) / 2 by unfold sampP; rw [if_neg px, if_neg py])
      clear px py
      have bd1 := half6_bd (fun i : Nat => atP W H g (x / 2 - 2 + i) (y / 2))
      have bd2 := half6_bd (fun i : Nat => atP W H g (x / 2 - 2 + i) (y / 2 + 1))
      have H1 := Lib.hid (show half6 (fun i : Nat => atP W H g (x / 2 - 2 + i) (y / 2)) = acrP W H g (x / 2) (y / 2) from rfl)
      have H2 := Lib.hid (show half6 (fun i : Nat => atP W H g (x / 2 - 2 + i) (y / 2 + 1)) = acrP W H g (x / 2) (y / 2 + 1) from rfl)
      rw [H1.out] at bd1
      rw [H2.out] at bd2
      generalize acrP W H g (x / 2) (y / 2) = v1 at *
      generalize acrP W H g (x / 2) (y / 2 + 1) = v2 at *
      go_wp2
      have z1 : IntKind.i64.wrap (y / 2 + 1) = y / 2 + 1 := IntWalk.i64_in _ (by omega)
      have z2 : IntKind.i64.wrap (v1 + v2) = v1 + v2 := IntWalk.i64_in _ (by omega)
      have z3 : IntKind.i64.wrap (v1 + v2 + 1) = v1 + v2 + 1 := IntWalk.i64_in _ (by omega)
      have z4 : (v1 + v2 + 1).tdiv 2 = (v1 + v2 + 1) / 2 := Int.tdiv_eq_ediv_of_nonneg (by omega)
      have z5 : IntKind.i64.wrap ((v1 + v2 + 1) / 2) = (v1 + v2 + 1) / 2 := IntWalk.i64_in _ (by omega)
      have z6 : IntKind.u8.wrap ((v1 + v2 + 1) / 2) = (v1 + v2 + 1) / 2 := by rw [IntKind.wrap_u8]; omega
      have z7 : IntKind.i64.wrap v1 = v1 := IntWalk.i64_in _ (by omega)
      have z8 : IntKind.i64.wrap v2 = v2 := IntWalk.i64_in _ (by omega)
      replace K := Kn.drew K
      refine wp_region_allX (fun w' => Kn w' _) [3, 9] [(0,1),(1,1),(2,1),(5,1),(6,1),(7,1),(8,1),(3,2),(4,1),(9,2),(10,1),(11,1),(12,1),(13,1),(14,1),(15,0)] (by kernel_rfl) (by kernel_rfl) (fun _ _ d _ _ h => by cases d <;> exact h) (K) ?_
      generalize World.drew _ = wd at K ⊢
      repeat (first | (refine oX_freeG rfl rfl (fun w' hS => by have s1 := Box.cells hS.1; clear hS; go_simp; with_reducible rfl) ?_; go_simp) | (refine oX_skipG rfl rfl ?_; go_simp))
      refine oX_doG rfl rfl (fun KK hKK => ?_)
      go_simp
      refine (macross_any W H A N c g _ _ _ hr K.2.1 hg (by omega) (by omega)).mono ?_
      rintro e w4 ⟨rfl, hb4⟩
      replace K := K.below hb4
      refine hKK (fun w' => Kn w' _) _ _ ?hsub K ?_
      case hsub => exact fun _ h => h
      clear hKK KK hb4
      rw [H1.out]
      repeat (first | (refine oX_freeG rfl rfl (fun w' hS => by have s1 := Box.cells hS.1; clear hS; go_simp; with_reducible rfl) ?_; go_simp) | (refine oX_skipG rfl rfl ?_; go_simp))
      refine oX_doG rfl rfl (fun KK hKK => ?_)
      go_simp
      refine (macross_any W H A N c g _ _ _ hr K.2.1 hg (by omega) (by omega)).mono ?_
      rintro e w5 ⟨rfl, hb5⟩
      replace K := K.below hb5
      refine hKK (fun w' => Kn w' _) _ _ ?hsub K ?_
      case hsub => exact fun _ h => h
      clear hKK KK hb5
      rw [H2.out]
      repeat (first | (refine oX_freeG rfl rfl (fun w' hS => by skip; clear hS; go_simp; with_reducible rfl) ?_; go_simp) | (refine oX_skipG rfl rfl ?_; go_simp))
      repeat (refine oX_still rfl (fun KK hKK => ?_); go_simp; refine hKK _ ?_; clear hKK KK)
      refine oX_nil ?_
      have L : Below _ _ _ := K.2.2.1
      clear K z1 z2 z3 z4 z5 z6 z7 z8
      go_wp2
      go_ret
      exact ⟨ret_int HV.out.symm, L⟩

set_option maxHeartbeats 2000000 in
set_option maxRecDepth 100000 in
theorem rsamp_yes (W H : Int) (A : Option Addr) (N c : Nat) (g : Nat → Int) (x y : Int) (w : World) (hr : rightB W H N = true) (hS : Rd w A N (by8 g)) (hg : Byt g) (hx : -2305843009213693952 ≤ x ∧ x ≤ 2305843009213693952) (hy : -2305843009213693952 ≤ y ∧ y ≤ 2305843009213693952) :
    Calls Try.prog 59 #[.agg #[.int .i64 W, .int .i64 H, .slice A N c], .int .i64 x, .int .i64 y] w fun e w' => e = .returned (.int .u8 (sampP W H g x y)) ∧ Below w.heap.size w w' := by
  have K := (Kn.start w).add (x := .rd A N (by8 g)) hS
  clear hS
  go_enter Try.func59, Try.ntmps59
  go_wp2_with fail
  refine (rright_any _ _ _ _ _ _).mono ?_
  rintro e w1 ⟨rfl, hb1⟩
  replace K := (K.new w.heap.size _ _ rfl).below hb1
  clear hb1
  replace kc0 := Box.cells K.1
  replace kl0 := Box.lt K.1
  replace L : Below _ _ _ := K.2.2.1
  go_wp2_with fail
  refine (rfloor_any x 2 _ (by omega) (by omega) (by omega)).mono ?_
  rintro e w2 ⟨rfl, rfl⟩
  go_wp2_with fail
  refine (rfloor_any y 2 _ (by omega) (by omega) (by omega)).mono ?_
  rintro e w2 ⟨rfl, rfl⟩
  by_cases px : x % 2 = 0
  · have ex : x.tmod 2 = 0 := tmod2_even px
    by_cases py : y % 2 = 0
    · have ey : y.tmod 2 = 0 := tmod2_even py
      have HV := Lib.hid (show sampP W H g x y = atP W H g (x / 2) (y / 2) by unfold sampP; rw [if_pos px, if_pos py])
      clear px py
      go_wp2_with fail
      refine (rat_yes W H A N c g _ _ _ hr K.2.1).mono ?_
      rintro e w3 ⟨rfl, hb3⟩
      replace K := K.below hb3
      clear hb3
      replace L : Below _ _ _ := K.2.2.1
      go_wp2
      go_ret
      exact ⟨ret_int HV.out.symm, L⟩
    · have ey : (y.tmod 2 == 0) = false := tmod2_odd py
      have HV := Lib.hid (show sampP W H g x y = dwnP W H g (x / 2) (y / 2) by unfold sampP; rw [if_pos px, if_neg py])
      clear px py
      have bd := half6_bd (fun i : Nat => atP W H g (x / 2) (y / 2 - 2 + i))
      go_wp2_with fail
      refine (rdown_any W H A N c g _ _ _ hr K.2.1 hg (by omega) (by omega)).mono ?_
      rintro e w3 ⟨rfl, hb3⟩
      replace K := K.below hb3
      clear hb3
      replace L : Below _ _ _ := K.2.2.1
      have HX := Lib.hid (show half6 (fun i : Nat => atP W H g (x / 2) (y / 2 - 2 + i)) = dwnP W H g (x / 2) (y / 2) from rfl)
      generalize half6 (fun i : Nat => atP W H g (x / 2) (y / 2 - 2 + i)) = v at *
      go_wp2
      go_ret
      exact ⟨ret_int (by rw [HV.out, HX.out]), L⟩
  · have ex : (x.tmod 2 == 0) = false := tmod2_odd px
    by_cases py : y % 2 = 0
    · have ey : y.tmod 2 = 0 := tmod2_even py
      have HV := Lib.hid (show sampP W H g x y = acrP W H g (x / 2) (y / 2) by unfold sampP; rw [if_neg px, if_pos py])
      clear px py
      have bd := half6_bd (fun i : Nat => atP W H g (x / 2 - 2 + i) (y / 2))
      go_wp2_with fail
      refine (racross_any W H A N c g _ _ _ hr K.2.1 hg (by omega) (by omega)).mono ?_
      rintro e w3 ⟨rfl, hb3⟩
      replace K := K.below hb3
      clear hb3
      replace L : Below _ _ _ := K.2.2.1
      have HX := Lib.hid (show half6 (fun i : Nat => atP W H g (x / 2 - 2 + i) (y / 2)) = acrP W H g (x / 2) (y / 2) from rfl)
      generalize half6 (fun i : Nat => atP W H g (x / 2 - 2 + i) (y / 2)) = v at *
      go_wp2
      go_ret
      exact ⟨ret_int (by rw [HV.out, HX.out]), L⟩
    · have ey : (y.tmod 2 == 0) = false := tmod2_odd py
      have HV := Lib.hid (show sampP W H g x y = (acrP W H g (x / 2) (y / 2) + acrP W H g (x / 2) (y / 2 + 1) + 1) / 2 by unfold sampP; rw [if_neg px, if_neg py])
      clear px py
      have bd1 := half6_bd (fun i : Nat => atP W H g (x / 2 - 2 + i) (y / 2))
      have bd2 := half6_bd (fun i : Nat => atP W H g (x / 2 - 2 + i) (y / 2 + 1))
      have H1 := Lib.hid (show half6 (fun i : Nat => atP W H g (x / 2 - 2 + i) (y / 2)) = acrP W H g (x / 2) (y / 2) from rfl)
      have H2 := Lib.hid (show half6 (fun i : Nat => atP W H g (x / 2 - 2 + i) (y / 2 + 1)) = acrP W H g (x / 2) (y / 2 + 1) from rfl)
      rw [H1.out] at bd1
      rw [H2.out] at bd2
      generalize acrP W H g (x / 2) (y / 2) = v1 at *
      generalize acrP W H g (x / 2) (y / 2 + 1) = v2 at *
      go_wp2
      have z1 : IntKind.i64.wrap (y / 2 + 1) = y / 2 + 1 := IntWalk.i64_in _ (by omega)
      have z2 : IntKind.i64.wrap (v1 + v2) = v1 + v2 := IntWalk.i64_in _ (by omega)
      have z3 : IntKind.i64.wrap (v1 + v2 + 1) = v1 + v2 + 1 := IntWalk.i64_in _ (by omega)
      have z4 : (v1 + v2 + 1).tdiv 2 = (v1 + v2 + 1) / 2 := Int.tdiv_eq_ediv_of_nonneg (by omega)
      have z5 : IntKind.i64.wrap ((v1 + v2 + 1) / 2) = (v1 + v2 + 1) / 2 := IntWalk.i64_in _ (by omega)
      have z6 : IntKind.u8.wrap ((v1 + v2 + 1) / 2) = (v1 + v2 + 1) / 2 := by rw [IntKind.wrap_u8]; omega
      have z7 : IntKind.i64.wrap v1 = v1 := IntWalk.i64_in _ (by omega)
      have z8 : IntKind.i64.wrap v2 = v2 := IntWalk.i64_in _ (by omega)
      replace K := Kn.drew K
      refine wp_region_allX (fun w' => Kn w' _) [3, 8] [(0,1),(1,1),(2,1),(4,1),(5,1),(6,1),(7,1),(3,2),(8,2),(9,1),(10,1),(11,1),(12,1),(13,0)] (by kernel_rfl) (by kernel_rfl) (fun _ _ d _ _ h => by cases d <;> exact h) (K) ?_
      generalize World.drew _ = wd at K ⊢
      repeat (first | (refine oX_freeG rfl rfl (fun w' hS => by have s1 := Box.cells hS.1; clear hS; go_simp; with_reducible rfl) ?_; go_simp) | (refine oX_skipG rfl rfl ?_; go_simp))
      refine oX_doG rfl rfl (fun KK hKK => ?_)
      go_simp
      refine (racross_any W H A N c g _ _ _ hr K.2.1 hg (by omega) (by omega)).mono ?_
      rintro e w4 ⟨rfl, hb4⟩
      replace K := K.below hb4
      refine hKK (fun w' => Kn w' _) _ _ ?hsub K ?_
      case hsub => exact fun _ h => h
      clear hKK KK hb4
      rw [H1.out]
      repeat (first | (refine oX_freeG rfl rfl (fun w' hS => by have s1 := Box.cells hS.1; clear hS; go_simp; with_reducible rfl) ?_; go_simp) | (refine oX_skipG rfl rfl ?_; go_simp))
      refine oX_doG rfl rfl (fun KK hKK => ?_)
      go_simp
      refine (racross_any W H A N c g _ _ _ hr K.2.1 hg (by omega) (by omega)).mono ?_
      rintro e w5 ⟨rfl, hb5⟩
      replace K := K.below hb5
      refine hKK (fun w' => Kn w' _) _ _ ?hsub K ?_
      case hsub => exact fun _ h => h
      clear hKK KK hb5
      rw [H2.out]
      repeat (first | (refine oX_freeG rfl rfl (fun w' hS => by skip; clear hS; go_simp; with_reducible rfl) ?_; go_simp) | (refine oX_skipG rfl rfl ?_; go_simp))
      repeat (refine oX_still rfl (fun KK hKK => ?_); go_simp; refine hKK _ ?_; clear hKK KK)
      refine oX_nil ?_
      have L : Below _ _ _ := K.2.2.1
      clear K z1 z2 z3 z4 z5 z6 z7 z8
      go_wp2
      go_ret
      exact ⟨ret_int HV.out.symm, L⟩
end Go.Proofs.Ytcojphdohpgjnaa
