/- PlaneLays: any block that is laid at any place of any plane is there as the document says, or answered with its error, and the plane that was handed in stays: proved for every plane, place and block, no condition. -/
import Derived.Test.YtlkogokhcdehfaaAl6
import Derived.Test.YtlkogokhcdehfaaRp3
import Derived.Test.YtlkogokhcdehfaaKn2
import Derived.Test.YtlkogokhcdehfaaClose
namespace Go.Proofs.Ytlkogokhcdehfaa
open Go.ChangeShapes Go.WideShapes Go.ChangeAt Go.RowKit Go.Joins Go.Kin
set_option linter.unusedVariables false

theorem lays_both (p : PlV) (x y n : Int) (B : Option Addr) (m d : Nat) (bb : Nat → Int) (w : World) (hp : p.Ok w) (ix : I64 x) (iy : I64 y) (hB : Rd w B m (by8 bb)) (hd : m ≤ d) (hd2 : d ≤ 9223372036854775807) : ∃ r k,
    (∀ w1, Below w.heap.size w w1 → Calls Try.prog 34 #[.agg #[.int .i64 p.a, .int .i64 p.b, .slice p.A p.n p.c], .int .i64 x, .int .i64 y, .int .i64 n, .slice B m d] w1 (GivesP r k w1)) ∧
    (∀ w1, Below w.heap.size w w1 → Calls Try.prog 35 #[.agg #[.int .i64 p.a, .int .i64 p.b, .slice p.A p.n p.c], .int .i64 x, .int .i64 y, .int .i64 n, .slice B m d] w1 (GivesP r k w1)) := by
  by_cases h1 : n < 1
  · exact ⟨noP, 1, fun w1 _ => (lay_no1 _ _ _ _ _ _ _ _ _ _ _ _ (.inl h1)).mono fun _ _ h => .no h, fun w1 _ => (rlay_no1 _ _ _ _ _ _ _ _ _ _ _ _ (.inl h1)).mono fun _ _ h => .no h⟩
  by_cases h2 : 64 < n
  · exact ⟨noP, 1, fun w1 _ => (lay_no1 _ _ _ _ _ _ _ _ _ _ _ _ (.inr (.inl ⟨h1, h2⟩))).mono fun _ _ h => .no h, fun w1 _ => (rlay_no1 _ _ _ _ _ _ _ _ _ _ _ _ (.inr (.inl ⟨h1, h2⟩))).mono fun _ _ h => .no h⟩
  by_cases h3 : (m : Int) = n * n
  rotate_left
  · have h4 : ((m : Int) == n * n) = false ∧ ((m : Int) != n * n) = true := ⟨by simp [h3], by simp [h3]⟩
    exact ⟨noP, 1, fun w1 _ => (lay_no1 _ _ _ _ _ _ _ _ _ _ _ _ (.inr (.inr ⟨by omega, by omega, h4.1, h4.2⟩))).mono fun _ _ h => .no h, fun w1 _ => (rlay_no1 _ _ _ _ _ _ _ _ _ _ _ _ (.inr (.inr ⟨by omega, by omega, h4.1, h4.2⟩))).mono fun _ _ h => .no h⟩
  obtain ⟨n, rfl⟩ := Int.eq_ofNat_of_zero_le (show 0 ≤ n by omega)
  have hm : m = n * n := by exact_mod_cast h3
  cases hr : rightB p.a p.b p.n with
  | false => exact ⟨noP, 61, fun w1 _ => (lay_no2 _ _ _ _ _ _ _ _ _ _ n _ (by omega) (by omega) hm hr).mono fun _ _ h => .no h, fun w1 _ => (rlay_no2 _ _ _ _ _ _ _ _ _ _ n _ (by omega) (by omega) hm hr).mono fun _ _ h => .no h⟩
  | true =>
    obtain ⟨a, b, A, N, c, g⟩ := p
    dsimp only at hr ⊢
    obtain ⟨r1, r2, r3, r4, r5⟩ := rightB_iff.1 hr
    obtain ⟨W, rfl⟩ := Int.eq_ofNat_of_zero_le (show 0 ≤ a by omega)
    obtain ⟨H, rfl⟩ := Int.eq_ofNat_of_zero_le (show 0 ≤ b by omega)
    have hN := rightB_le hr
    exact ⟨⟨W, H, none, N, 0, layP W g x y n bb⟩, 0, fun w1 hb => (lay_yes W H A B N c m d g bb x y n w1 (by omega) (by omega) hm hr ix iy (hp.rd.below hb) (hB.below hb) (by omega) hd2).mono fun _ _ h => GivesP.made (by omega) h,
      fun w1 hb => rlay_yes W H A B N c m d g bb x y n w1 (by omega) (by omega) hm hr ix iy (hp.rd.below hb) (hB.below hb)⟩

namespace PlaneLays
set_option maxRecDepth 100000 in
set_option maxHeartbeats 2000000 in
theorem walk_no (w : World) (p : PlV) (x y n : Int) (B : Option Addr) (m d : Nat) (h : fitB p.n = false ∨ (fitB p.n = true ∧ decide (10000 < (m : Int)) = true)) :
    Calls Try.prog 9 #[.agg #[.int .i64 p.a, .int .i64 p.b, .slice p.A p.n p.c], .agg #[.int .i64 x, .int .i64 y, .int .i64 n], .slice B m d] w fun e w' => e = .returned (.bool true) ∧ Below w.heap.size w w' := by
  have K := Kn.start w
  rcases h with h1 | ⟨h1, h2⟩
  all_goals go_enter Try.func9, Try.ntmps9
  all_goals go_wp2_with fail
  all_goals refine (fits_any _ _ _ _ _ _).mono ?_
  all_goals rintro e w1 ⟨rfl, hb1⟩
  all_goals replace K := ((K.new w.heap.size _ _ rfl).new (w.heap.size + 1) _ _ (by simp)).below hb1
  all_goals clear hb1
  all_goals replace L : Below _ _ _ := K.2.2.1
  all_goals go_wp2_with fail
  all_goals refine (alive06 _).mono ?_
  all_goals rintro e w2 ⟨rfl, hb2⟩
  all_goals replace K := K.below hb2
  all_goals clear hb2
  all_goals replace L : Below _ _ _ := K.2.2.1
  all_goals go_wp2
  all_goals go_ret
  all_goals exact ⟨rfl, L⟩

set_option maxRecDepth 100000 in
set_option maxHeartbeats 2000000 in
theorem walk_yes (w : World) (p : PlV) (hp : p.Ok w) (x y n : Int) (ix : I64 x) (iy : I64 y) (B : Option Addr) (m d : Nat) (bb : Nat → Int) (hB : Rd w B m (by8 bb)) (hd : m ≤ d) (hd2 : d ≤ 9223372036854775807) (h1 : fitB p.n = true) (h2 : ¬ 10000 < (m : Int)) :
    Calls Try.prog 9 #[.agg #[.int .i64 p.a, .int .i64 p.b, .slice p.A p.n p.c], .agg #[.int .i64 x, .int .i64 y, .int .i64 n], .slice B m d] w fun e w' => e = .returned (.bool true) ∧ Below w.heap.size w w' := by
  obtain ⟨r, k, hP1, hP2⟩ := lays_both p x y n B m d bb w hp ix iy hB hd hd2
  have HP1 := Lib.hid hP1
  have HP2 := Lib.hid hP2
  have f1 := fitB_le h1
  clear hP1 hP2
  obtain ⟨i0, hi0, hz0, hz1, hz2⟩ := parts_u8
  have HI := Lib.hid hi0
  clear hi0
  have K := Kn.start w
  go_enter Try.func9, Try.ntmps9
  go_wp2_with fail
  refine (fits_any _ _ _ _ _ _).mono ?_
  rintro e w1 ⟨rfl, hb1⟩
  replace K := ((K.new w.heap.size _ _ rfl).new (w.heap.size + 1) _ _ (by simp)).below hb1
  clear hb1
  replace kc0 := Box.cells K.1
  replace kl0 := Box.lt K.1
  replace kc1 := Box.cells K.2.1
  replace kl1 := Box.lt K.2.1
  replace L : Below _ _ _ := K.2.2.1
  go_wp2_with (at_builtin; refine wpList_appE rfl (.tmp 24) (.tmp 26) rfl Try.underlying27 HI.out hz0 hz1 hz2 rfl rfl rfl (hp.rd.below L) (fun j => rfl) ?_ ?_ ?_; rotate_right; intro A' c' w2 hO hb2; replace K := (K.below hb2).add (x := .rd A' p.n (by8 p.g)) hO.rd; clear hO hb2 kc0 kl0 kc1 kl1 L; have kc1 := Box.cells K.2.1; have kc2 := Box.cells K.2.2.1; have kl1 := Box.lt K.2.1; have kl2 := Box.lt K.2.2.1; have L : Below _ _ _ := K.2.2.2.1)
  rotate_left
  · unfold maxLen; omega
  · omega
  refine (HP1.out _ L).mono ?_
  rintro e w3 ⟨A3, c3, rfl, R3, _, _, hb3⟩
  replace K := (K.below hb3).add (x := .rd A3 r.n (by8 r.g)) R3
  clear hb3 R3
  replace kc2 := Box.cells K.2.2.1
  replace kl2 := Box.lt K.2.2.1
  replace kc3 := Box.cells K.2.2.2.1
  replace kl3 := Box.lt K.2.2.2.1
  replace L : Below _ _ _ := K.2.2.2.2.1
  go_wp2_with fail
  refine (HP2.out _ (L.alloc L.size _)).mono ?_
  rintro e w4 ⟨A4, c4, rfl, R4, _, _, hb4⟩
  replace K := (K.new w3.heap.size _ _ rfl).below hb4
  clear hb4
  replace kc0 := Box.cells K.1
  replace kl0 := Box.lt K.1
  replace R3 : Rd _ _ _ _ := K.2.1
  replace kc3 := Box.cells K.2.2.2.1
  replace kl3 := Box.lt K.2.2.2.1
  replace kc4 := Box.cells K.2.2.2.2.1
  replace kl4 := Box.lt K.2.2.2.2.1
  replace L : Below _ _ _ := K.2.2.2.2.2.1
  replace K := K.add (x := .rd A4 r.n (by8 r.g)) R4
  go_wp2_with fail
  refine (sameP_yes _ _ _ _ _ _ _ r.g _ (R3.alloc _) (R4.alloc _)).mono ?_
  rintro e w5 ⟨rfl, hb5⟩
  replace K := (K.new w4.heap.size _ _ rfl).below hb5
  clear hb5
  replace kc0 := Box.cells K.1
  replace kl0 := Box.lt K.1
  replace kc2 := Box.cells K.2.2.1
  replace kl2 := Box.lt K.2.2.1
  replace R2 : Rd _ _ _ _ := K.2.2.2.2.1
  replace kc5 := Box.cells K.2.2.2.2.2.1
  replace kl5 := Box.lt K.2.2.2.2.2.1
  replace kc6 := Box.cells K.2.2.2.2.2.2.1
  replace kl6 := Box.lt K.2.2.2.2.2.2.1
  replace L : Below _ _ _ := K.2.2.2.2.2.2.2.1
  go_wp2_with fail
  refine (alive06 _).mono ?_
  rintro e w6 ⟨rfl, hb6⟩
  replace K := K.below hb6
  clear hb6
  replace kc0 := Box.cells K.1
  replace kl0 := Box.lt K.1
  replace kc2 := Box.cells K.2.2.1
  replace kl2 := Box.lt K.2.2.1
  replace R2 : Rd _ _ _ _ := K.2.2.2.2.1
  replace kc5 := Box.cells K.2.2.2.2.2.1
  replace kl5 := Box.lt K.2.2.2.2.2.1
  replace kc6 := Box.cells K.2.2.2.2.2.2.1
  replace kl6 := Box.lt K.2.2.2.2.2.2.1
  replace L : Below _ _ _ := K.2.2.2.2.2.2.2.1
  have k1 := conv_any (c := p.c) (hp.rd.below L)
  have k2 := conv_any (c := c') R2
  go_wp2
  go_ret
  exact ⟨rfl, L⟩

theorem walk (w : World) (a b : Int) (A : Option Addr) (n c : Nat) (g : Nat → Int) (ia : I64 a) (ib : I64 b) (hR : Rd w A n (by8 g)) (hg : Byt g) (hnc : n ≤ c) (hc : c ≤ 9223372036854775807) (x y q : Int) (ix : I64 x) (iy : I64 y) (iq : I64 q)
    (B : Option Addr) (m d : Nat) (bb : Nat → Int) (hB : Rd w B m (by8 bb)) (hbb : Byt bb) (hd : m ≤ d) (hd2 : d ≤ 9223372036854775807) :
    Calls Try.prog 9 #[.agg #[.int .i64 a, .int .i64 b, .slice A n c], .agg #[.int .i64 x, .int .i64 y, .int .i64 q], .slice B m d] w fun e w' => e = .returned (.bool true) ∧ Below w.heap.size w w' := by
  cases h1 : fitB n with
  | false => exact walk_no w ⟨a, b, A, n, c, g⟩ x y q B m d (.inl h1)
  | true =>
    by_cases h2 : 10000 < (m : Int)
    · exact walk_no w ⟨a, b, A, n, c, g⟩ x y q B m d (.inr ⟨h1, by simpa using h2⟩)
    · exact walk_yes w ⟨a, b, A, n, c, g⟩ ⟨ia, ib, hR, hg, hnc, hc⟩ x y q ix iy B m d bb hB hd hd2 h1 h2
end PlaneLays
namespace PlaneLays
set_option maxRecDepth 100000 in
theorem lifted (os : Os) (started : os.Started) (H : Type) (enc : TypeId × Value → H) :
    ReturnsInHanded {} Try.checked os 9 .any (Rows.planeLaysSpec.pre6 enc Try.prog Try.f9 Rows.planeLaysRow.domain false) (Rows.planeLaysSpec.post enc Try.prog Try.f9 false true false false) := by
  refine returnsInHanded_of_change (C := Try.checked) own started (by kernel_rfl) Try.func9
    (ChangeSpec.witness6 (enc := enc) (C := Try.checked) false ⟨#[], #[.agg #[.int .i64 0, .int .i64 0, .slice none 0 0], .agg #[.int .i64 0, .int .i64 0, .int .i64 0], .slice none 0 0], []⟩ 8 (by kernel_rfl) (by kernel_rfl) (by kernel_rfl) (by kernel_rfl)) ?_
  intro W base args ds gs before hval0 hW hcnd _
  have hval : ∀ (j : Nat) t v, Try.f9.params[j]? = some t → args[j]? = some v → Value.okWide Try.prog W .any base t v := hval0
  refine law_post (tb := 4) laidOut (by kernel_rfl) rfl Try.underlying4 rfl (fun ds' h => ?_) hW ?_
  · rw [Try.params9] at h
    match ds', h with
    | [d1, d2, d3], _ => exact ⟨rfl, rfl, rfl⟩
  obtain ⟨p, q, hA0, hV, rfl, hfz, hnd⟩ := hW
  have hA : DataW.TrodAll enc Try.prog W 0 (fun _ => true) true Try.f9.params.toList args.toList ds p := hA0
  rw [Try.params9] at hA hval
  obtain ⟨v0, vs0, d0, ds0, p0, q0, hargs, rfl, rfl, h0, r0⟩ := trodAll_cons hA
  obtain ⟨v1, vs1, d1, ds1, p1, q1, rfl, rfl, rfl, h1, r1⟩ := trodAll_cons r0
  obtain ⟨v2, vs2, d2, ds2, p2, q2, rfl, rfl, rfl, h2, r2⟩ := trodAll_cons r1
  obtain ⟨rfl, rfl, rfl⟩ := trodAll_nil r2
  obtain rfl : args = #[v0, v1, v2] := by cases args; simp_all
  obtain ⟨a0, b0, A0, n0, c0, g0, rfl, w0, x0, rr0, t0, l0, m0⟩ := open_plane Try.underlying29 (by kernel_rfl) ⟨rfl, rfl⟩ ⟨rfl, rfl⟩ ⟨rfl, rfl⟩ Try.underlying3 Try.underlying27 Try.underlying5 (by kernel_rfl) (by kernel_rfl) (by kernel_rfl) (hval 0 29 v0 rfl rfl) h0
  obtain ⟨a1, b1, c1, rfl, w1, x1, y1⟩ := open_arr3 Try.underlying50 Try.underlying3 (by kernel_rfl) (by kernel_rfl) (hval 1 50 v1 rfl rfl) h1
  obtain ⟨A2, n2, c2, g2, rfl, rr2, t2, l2, m2⟩ := open_bytes Try.underlying27 Try.underlying5 (by kernel_rfl) (hval 2 27 v2 rfl rfl) h2
  exact walk W a0 b0 A0 n0 c0 g0 w0 x0 rr0 t0 l0 m0 a1 b1 c1 w1 x1 y1 A2 n2 c2 g2 rr2 t2 l2 m2
theorem over : Rows.planeLaysRow.holds Try.pinned (OpenSpec.ofChange Rows.planeLaysSpec) :=
  OpenClaim.holds_of_wide 9 Try.f9 rfl rfl rfl rfl rfl rfl rfl ⟨rfl, rfl, rfl, rfl, rfl⟩ rfl rfl rfl rfl rfl (by kernel_rfl) Try.func9 (by kernel_rfl)
    (of_decide_eq_true (by kernel_rfl)) (by unfold Func.isWrapper; first | (rw [if_pos (by decide +kernel)]; kernel_rfl) | (rw [if_neg (by decide +kernel)]; exact ⟨rfl, rfl⟩))
    (fun os started H enc _ => lifted os started H enc)
end PlaneLays
theorem planeLays_holds : Rows.PlaneLaysSaid := PlaneLays.over

end Go.Proofs.Ytlkogokhcdehfaa
