/- IntraChooses: the mode that is chosen for any block, and its block, are as the document says, or the error: proved for every plane, place, size and block, no condition. -/
import Derived.Test.YtcojphdohpgjnaaAl9
import Derived.Test.YtcojphdohpgjnaaIn15
import Derived.Test.YtcojphdohpgjnaaFt
import Derived.Test.YtcojphdohpgjnaaClose
namespace Go.Proofs.Ytcojphdohpgjnaa
open Go.ChangeShapes Go.WideShapes Go.ChangeAt Go.RowKit Go.Joins Go.Kin
set_option linter.unusedVariables false

namespace IntraChooses
set_option maxRecDepth 100000 in
set_option maxHeartbeats 2000000 in
theorem walk_no (w : World) (p : PlV) (x y n : Int) (B : Option Addr) (m d : Nat) (h : fitB p.n = false ∨ (fitB p.n = true ∧ 200 < (m : Int))) :
    Calls Try.prog 4 #[.agg #[.int .i64 p.a, .int .i64 p.b, .slice p.A p.n p.c], .agg #[.int .i64 x, .int .i64 y, .int .i64 n], .slice B m d] w fun e w' => e = .returned (.bool true) ∧ Below w.heap.size w w' := by
  have K := Kn.start w
  rcases h with h1 | ⟨h1, h2⟩
  all_goals go_enter Try.func4, Try.ntmps4
  all_goals go_wp2_with fail
  all_goals refine (fits_any _ _ _ _ _ _).mono ?_
  all_goals rintro e w1 ⟨rfl, hb1⟩
  all_goals replace K := ((K.new w.heap.size _ _ rfl).new (w.heap.size + 1) _ _ (by simp)).below hb1
  all_goals clear hb1
  all_goals replace L : Below _ _ _ := K.2.2.1
  all_goals go_wp2_with fail
  all_goals refine (alive09 _).mono ?_
  all_goals rintro e w2 ⟨rfl, hb2⟩
  all_goals replace K := K.below hb2
  all_goals clear hb2
  all_goals replace L : Below _ _ _ := K.2.2.1
  all_goals go_wp2
  all_goals go_ret
  all_goals exact ⟨rfl, L⟩
set_option maxRecDepth 100000 in
set_option maxHeartbeats 2000000 in
theorem walk_yes (w : World) (p : PlV) (x y n : Int) (B : Option Addr) (m d : Nat) (bb : Nat → Int) (hp : p.Ok w) (hB : Rd w B m (by8 bb)) (hbb : Byt bb) (h : fitB p.n = true) (h2 : ¬ 200 < (m : Int)) :
    Calls Try.prog 4 #[.agg #[.int .i64 p.a, .int .i64 p.b, .slice p.A p.n p.c], .agg #[.int .i64 x, .int .i64 y, .int .i64 n], .slice B m d] w fun e w' => e = .returned (.bool true) ∧ Below w.heap.size w w' := by
  obtain ⟨md, N, gg, k, h1, h2⟩ := choose_both p x y n B m d bb w hp hB hbb
  have HP1 := Lib.hid h1
  have HP2 := Lib.hid h2
  clear h1 h2
  have K := Kn.start w
  go_enter Try.func4, Try.ntmps4
  go_wp2_with fail
  refine (fits_any _ _ _ _ _ _).mono ?_
  rintro e w1 ⟨rfl, hb1⟩
  replace K := ((K.new w.heap.size _ _ rfl).new (w.heap.size + 1) _ _ (by simp)).below hb1
  clear hb1
  replace kc0 := Box.cells K.1
  replace kl0 := Box.lt K.1
  replace kc1 := Box.cells K.2.1
  replace kl1 := Box.lt K.2.1
  replace L : Below _ _ _ := K.2.2.1
  go_wp2_with fail
  refine (HP1.out _ L).mono ?_
  rintro e w2 ⟨A2, c2, rfl, R2, _, _, hb2⟩
  replace K := K.below hb2
  clear hb2
  replace kc0 := Box.cells K.1
  replace kl0 := Box.lt K.1
  replace kc1 := Box.cells K.2.1
  replace kl1 := Box.lt K.2.1
  replace L : Below _ _ _ := K.2.2.1
  replace K := K.add (x := .rd A2 N (by8 gg)) R2
  go_wp2_with fail
  refine (HP2.out _ L).mono ?_
  rintro e w3 ⟨A3, c3, rfl, R3, _, _, hb3⟩
  replace K := K.below hb3
  clear hb3
  replace kc1 := Box.cells K.2.1
  replace kl1 := Box.lt K.2.1
  replace kc2 := Box.cells K.2.2.1
  replace kl2 := Box.lt K.2.2.1
  replace L : Below _ _ _ := K.2.2.2.1
  replace K := K.add (x := .rd A3 N (by8 gg)) R3
  go_wp2_with fail
  refine (alive09 _).mono ?_
  rintro e w4 ⟨rfl, hb4⟩
  replace K := K.below hb4
  clear hb4
  replace R3 : Rd _ _ _ _ := K.1
  replace R2 : Rd _ _ _ _ := K.2.1
  replace L : Below _ _ _ := K.2.2.2.2.1
  have k1 := conv_any (c := c2) R2
  have k2 := conv_any (c := c3) R3
  go_wp2
  go_ret
  exact ⟨rfl, L⟩
theorem walk (w : World) (a b : Int) (A : Option Addr) (n c : Nat) (g : Nat → Int) (ia : I64 a) (ib : I64 b) (hR : Rd w A n (by8 g)) (hg : Byt g) (hnc : n ≤ c) (hc : c ≤ 9223372036854775807) (x y q : Int) (ix : I64 x) (iy : I64 y) (iq : I64 q)
    (B : Option Addr) (m d : Nat) (bb : Nat → Int) (hB : Rd w B m (by8 bb)) (hbb : Byt bb) (hd : m ≤ d) (hd2 : d ≤ 9223372036854775807) :
    Calls Try.prog 4 #[.agg #[.int .i64 a, .int .i64 b, .slice A n c], .agg #[.int .i64 x, .int .i64 y, .int .i64 q], .slice B m d] w fun e w' => e = .returned (.bool true) ∧ Below w.heap.size w w' := by
  cases h1 : fitB n with
  | false => exact walk_no w ⟨a, b, A, n, c, g⟩ x y q B m d (.inl h1)
  | true =>
    by_cases h2 : 200 < (m : Int)
    · exact walk_no w ⟨a, b, A, n, c, g⟩ x y q B m d (.inr ⟨h1, h2⟩)
    · exact walk_yes w ⟨a, b, A, n, c, g⟩ x y q B m d bb ⟨ia, ib, hR, hg, hnc, hc⟩ hB hbb h1 h2
end IntraChooses
namespace IntraChooses
set_option maxRecDepth 100000 in
theorem lifted (os : Os) (started : os.Started) (H : Type) (enc : TypeId × Value → H) :
    ReturnsInHanded {} Try.checked os 4 .any (Rows.intraChoosesSpec.pre6 enc Try.prog Try.f4 Rows.intraChoosesRow.domain false) (Rows.intraChoosesSpec.post enc Try.prog Try.f4 false true false false) := by
  refine returnsInHanded_of_change (C := Try.checked) own started (by kernel_rfl) Try.func4
    (ChangeSpec.witness6 (enc := enc) (C := Try.checked) false ⟨#[], #[.agg #[.int .i64 0, .int .i64 0, .slice none 0 0], .agg #[.int .i64 0, .int .i64 0, .int .i64 0], .slice none 0 0], []⟩ 8 (by kernel_rfl) (by kernel_rfl) (by kernel_rfl) (by kernel_rfl)) ?_
  intro W base args ds gs before hval0 hW hcnd _
  have hval : ∀ (j : Nat) t v, Try.f4.params[j]? = some t → args[j]? = some v → Value.okWide Try.prog W .any base t v := hval0
  refine law_post (tb := 4) laidOut (by kernel_rfl) rfl Try.underlying4 rfl (fun ds' h => ?_) hW ?_
  · rw [Try.params4] at h
    match ds', h with
    | [d1, d2, d3], _ => exact ⟨rfl, rfl, rfl⟩
  obtain ⟨p, q, hA0, hV, rfl, hfz, hnd⟩ := hW
  have hA : DataW.TrodAll enc Try.prog W 0 (fun _ => true) true Try.f4.params.toList args.toList ds p := hA0
  rw [Try.params4] at hA hval
  obtain ⟨v0, vs0, d0, ds0, p0, q0, hargs, rfl, rfl, h0, r0⟩ := trodAll_cons hA
  obtain ⟨v1, vs1, d1, ds1, p1, q1, rfl, rfl, rfl, h1, r1⟩ := trodAll_cons r0
  obtain ⟨v2, vs2, d2, ds2, p2, q2, rfl, rfl, rfl, h2, r2⟩ := trodAll_cons r1
  obtain ⟨rfl, rfl, rfl⟩ := trodAll_nil r2
  obtain rfl : args = #[v0, v1, v2] := by cases args; simp_all
  obtain ⟨a0, b0, A0, n0, c0, g0, rfl, w0, x0, rr0, t0, l0, m0⟩ := open_plane Try.underlying24 (by kernel_rfl) ⟨rfl, rfl⟩ ⟨rfl, rfl⟩ ⟨rfl, rfl⟩ Try.underlying3 Try.underlying22 Try.underlying5 (by kernel_rfl) (by kernel_rfl) (by kernel_rfl) (hval 0 24 v0 rfl rfl) h0
  obtain ⟨a1, b1, c1, rfl, w1, x1, y1⟩ := open_arr3 Try.underlying32 Try.underlying3 (by kernel_rfl) (by kernel_rfl) (hval 1 32 v1 rfl rfl) h1
  obtain ⟨A2, n2, c2, g2, rfl, rr2, t2, l2, m2⟩ := open_bytes Try.underlying22 Try.underlying5 (by kernel_rfl) (hval 2 22 v2 rfl rfl) h2
  exact walk W a0 b0 A0 n0 c0 g0 w0 x0 rr0 t0 l0 m0 a1 b1 c1 w1 x1 y1 A2 n2 c2 g2 rr2 t2 l2 m2
theorem over : Rows.intraChoosesRow.holds Try.pinned (OpenSpec.ofChange Rows.intraChoosesSpec) :=
  OpenClaim.holds_of_wide 4 Try.f4 rfl rfl rfl rfl rfl rfl rfl ⟨rfl, rfl, rfl, rfl, rfl⟩ rfl rfl rfl rfl rfl (by kernel_rfl) Try.func4 (by kernel_rfl)
    (of_decide_eq_true (by kernel_rfl)) (by unfold Func.isWrapper; first | (rw [if_pos (by decide +kernel)]; kernel_rfl) | (rw [if_neg (by decide +kernel)]; exact ⟨rfl, rfl⟩))
    (fun os started H enc _ => lifted os started H enc)
end IntraChooses
theorem intraChooses_holds : Rows.IntraChoosesSaid := IntraChooses.over

end Go.Proofs.Ytcojphdohpgjnaa
