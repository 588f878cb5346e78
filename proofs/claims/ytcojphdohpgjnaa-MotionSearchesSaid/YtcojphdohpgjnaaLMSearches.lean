/- MotionSearches: what is found of any block is as the document says: proved for every plane, place, size, block and reach, no condition. -/
import Derived.Test.YtcojphdohpgjnaaAl10
import Derived.Test.YtcojphdohpgjnaaMo9
import Derived.Test.YtcojphdohpgjnaaFt
import Derived.Test.YtcojphdohpgjnaaClose2
namespace Go.Proofs.Ytcojphdohpgjnaa
open Go.ChangeShapes Go.WideShapes Go.ChangeAt Go.RowKit Go.Joins Go.Kin
set_option linter.unusedVariables false

theorem search_both (p : PlV) (x y n : Int) (B : Option Addr) (m d : Nat) (h : Nat → Int) (reach : Int) (w : World) (hp : p.Ok w) (hB : Rd w B m (by8 h)) (hh : Byt h) : ∃ vx vy M gg far,
    (∀ w1, Below w.heap.size w w1 → Calls Try.prog 27 #[.agg #[.int .i64 p.a, .int .i64 p.b, .slice p.A p.n p.c], .int .i64 x, .int .i64 y, .int .i64 n, .slice B m d, .int .i64 reach] w1 (GivesV vx vy M gg far w1)) ∧
    (∀ w1, Below w.heap.size w w1 → Calls Try.prog 28 #[.agg #[.int .i64 p.a, .int .i64 p.b, .slice p.A p.n p.c], .int .i64 x, .int .i64 y, .int .i64 n, .slice B m d, .int .i64 reach] w1 (GivesV vx vy M gg far w1)) := by
  obtain ⟨a, b, A, N, c, g⟩ := p
  obtain ⟨ia, ib, hR, hg, hnc, hc⟩ := hp
  dsimp only at *
  have z0 : SmB 0 := ⟨by omega, by omega⟩
  have no : ∀ (h1 : ∀ w, Calls Try.prog 29 #[.agg #[.int .i64 a, .int .i64 b, .slice A N c], .int .i64 x, .int .i64 y, .int .i64 n, .agg #[.int .i64 0, .int .i64 0]] w (NoSl w)) (h2 : ¬ (rightB a b N = true ∧ 1 ≤ n ∧ n ≤ 64 ∧ smD x = true ∧ smD y = true ∧ smD 0 = true ∧ smD 0 = true)), ∃ vx vy M gg far,
    (∀ w1, Below w.heap.size w w1 → Calls Try.prog 27 #[.agg #[.int .i64 a, .int .i64 b, .slice A N c], .int .i64 x, .int .i64 y, .int .i64 n, .slice B m d, .int .i64 reach] w1 (GivesV vx vy M gg far w1)) ∧
    (∀ w1, Below w.heap.size w w1 → Calls Try.prog 28 #[.agg #[.int .i64 a, .int .i64 b, .slice A N c], .int .i64 x, .int .i64 y, .int .i64 n, .slice B m d, .int .i64 reach] w1 (GivesV vx vy M gg far w1)) :=
    fun h1 h2 => ⟨0, 0, 0, fun _ => 0, 0, fun w1 _ => msearch_no1 a b A N c x y n B m d reach w1 h1, fun w1 _ => rsearch_no1 a b A N c x y n B m d reach w1 (fun w => rblock_no a b A N c x y n 0 0 w h2)⟩
  cases hr : rightB a b N with
  | false => exact no (fun w => mblock_no1 _ _ _ _ _ _ _ _ _ _ _ (.inl hr)) (fun h => by rw [hr] at h; cases h.1)
  | true =>
    by_cases hn1 : n < 1
    · exact no (fun w => mblock_no1 _ _ _ _ _ _ _ _ _ _ _ (.inr (.inl ⟨hr, hn1⟩))) (fun h => by omega)
    by_cases hn2 : 64 < n
    · exact no (fun w => mblock_no1 _ _ _ _ _ _ _ _ _ _ _ (.inr (.inr ⟨hr, hn1, hn2⟩))) (fun h => by omega)
    by_cases hs : SmB x ∧ SmB y
    rotate_left
    · exact no (fun w => mblock_no2 _ _ _ _ _ _ _ _ _ _ _ hr hn1 hn2 (fun h => hs ⟨h.1, h.2.1⟩)) (fun h => hs ⟨of_decide_eq_true h.2.2.2.1, of_decide_eq_true h.2.2.2.2.1⟩)
    obtain ⟨s1, s2⟩ := hs
    obtain ⟨n, rfl⟩ := Int.eq_ofNat_of_zero_le (show 0 ≤ n by omega)
    by_cases hok : m = n * n ∧ 0 ≤ reach ∧ reach ≤ 8
    · obtain ⟨hm, hr0, hr8⟩ := hok
      obtain ⟨r, rfl⟩ := Int.eq_ofNat_of_zero_le hr0
      exact ⟨_, _, m, _, _, fun w1 hw => msearch_yes a b A N c g x y n B m d h r w1 hr (hR.below hw) hg (hB.below hw) hh (by omega) (by omega) s1 s2 hm (by omega) _ (fun _ _ => rfl),
        fun w1 hw => rsearch_yes a b A N c g x y n B m d h r w1 hr (hR.below hw) hg (hB.below hw) hh (by omega) (by omega) s1 s2 hm (by omega) _ (fun _ _ => rfl)⟩
    · have hno : ¬ m = n * n ∨ (m = n * n ∧ reach < 0) ∨ (m = n * n ∧ ¬ reach < 0 ∧ 8 < reach) := by
        by_cases hm : m = n * n
        · right
          by_cases h0 : reach < 0
          · exact .inl ⟨hm, h0⟩
          · exact .inr ⟨hm, h0, by
              rcases Int.lt_or_le 8 reach with h8 | h8
              · exact h8
              · exact absurd ⟨hm, by omega, h8⟩ hok⟩
        · exact .inl hm
      exact ⟨0, 0, 0, fun _ => 0, 0, fun w1 hw => msearch_no2 a b A N c g x y n B m d reach w1 hr (hR.below hw) hg (by omega) (by omega) s1 s2 hno,
        fun w1 hw => rsearch_no2 a b A N c g x y n B m d reach w1 hr (hR.below hw) hg (by omega) (by omega) s1 s2 hno⟩

namespace MotionSearches
set_option maxRecDepth 100000 in
set_option maxHeartbeats 2000000 in
theorem walk_no (w : World) (p : PlV) (x y n reach : Int) (B : Option Addr) (m d : Nat) (h : fitB p.n = false ∨ (fitB p.n = true ∧ 100 < (m : Int)) ∨ (fitB p.n = true ∧ ¬ 100 < (m : Int) ∧ 3 < reach ∧ reach ≤ 8)) :
    Calls Try.prog 9 #[.agg #[.int .i64 p.a, .int .i64 p.b, .slice p.A p.n p.c], .agg #[.int .i64 x, .int .i64 y, .int .i64 n, .int .i64 reach], .slice B m d] w fun e w' => e = .returned (.bool true) ∧ Below w.heap.size w w' := by
  have K := Kn.start w
  rcases h with h1 | ⟨h1, h2⟩ | ⟨h1, h2, h3, h4⟩
  all_goals go_enter Try.func9, Try.ntmps9
  all_goals go_wp2_with fail
  all_goals refine (fits_any _ _ _ _ _ _).mono ?_
  all_goals rintro e w1 ⟨rfl, hb1⟩
  all_goals replace K := ((K.new w.heap.size _ _ rfl).new (w.heap.size + 1) _ _ (by simp)).below hb1
  all_goals clear hb1
  all_goals replace kc0 := Box.cells K.1
  all_goals replace kl0 := Box.lt K.1
  all_goals replace kc1 := Box.cells K.2.1
  all_goals replace kl1 := Box.lt K.2.1
  all_goals replace L : Below _ _ _ := K.2.2.1
  all_goals go_wp2_with fail
  all_goals refine (alive10 _).mono ?_
  all_goals rintro e w2 ⟨rfl, hb2⟩
  all_goals replace K := K.below hb2
  all_goals clear hb2
  all_goals replace L : Below _ _ _ := K.2.2.1
  all_goals go_wp2
  all_goals go_ret
  all_goals exact ⟨rfl, L⟩
set_option maxRecDepth 100000 in
set_option maxHeartbeats 2000000 in
theorem walk_yes (w : World) (p : PlV) (x y n reach : Int) (B : Option Addr) (m d : Nat) (bb : Nat → Int) (hp : p.Ok w) (hB : Rd w B m (by8 bb)) (hbb : Byt bb) (h : fitB p.n = true) (h2 : ¬ 100 < (m : Int)) (h3 : ¬ 3 < reach ∨ (3 < reach ∧ ¬ reach ≤ 8)) :
    Calls Try.prog 9 #[.agg #[.int .i64 p.a, .int .i64 p.b, .slice p.A p.n p.c], .agg #[.int .i64 x, .int .i64 y, .int .i64 n, .int .i64 reach], .slice B m d] w fun e w' => e = .returned (.bool true) ∧ Below w.heap.size w w' := by
  obtain ⟨vx, vy, M, gg, far, h1, h2'⟩ := search_both p x y n B m d bb reach w hp hB hbb
  have HP1 := Lib.hid h1
  have HP2 := Lib.hid h2'
  clear h1 h2'
  have K := Kn.start w
  rcases h3 with h3 | ⟨h3, h4⟩
  all_goals go_enter Try.func9, Try.ntmps9
  all_goals go_wp2_with fail
  all_goals refine (fits_any _ _ _ _ _ _).mono ?_
  all_goals rintro e w1 ⟨rfl, hb1⟩
  all_goals replace K := ((K.new w.heap.size _ _ rfl).new (w.heap.size + 1) _ _ (by simp)).below hb1
  all_goals clear hb1
  all_goals replace kc0 := Box.cells K.1
  all_goals replace kl0 := Box.lt K.1
  all_goals replace kc1 := Box.cells K.2.1
  all_goals replace kl1 := Box.lt K.2.1
  all_goals replace L : Below _ _ _ := K.2.2.1
  all_goals go_wp2_with fail
  all_goals refine (HP1.out _ L).mono ?_
  all_goals rintro e w2 ⟨A2, c2, rfl, R2, hb2⟩
  all_goals replace K := K.below hb2
  all_goals clear hb2
  all_goals replace kc0 := Box.cells K.1
  all_goals replace kl0 := Box.lt K.1
  all_goals replace kc1 := Box.cells K.2.1
  all_goals replace kl1 := Box.lt K.2.1
  all_goals replace L : Below _ _ _ := K.2.2.1
  all_goals replace K := (K.add (x := .rd A2 M (by8 gg)) R2).new w2.heap.size #[.int .i64 vx, .int .i64 vy] 48 rfl
  all_goals clear R2
  all_goals go_upto_region 5 with (fail)
  all_goals generalize w2.alloc (.cells #[.int .i64 vx, .int .i64 vy] 48) = w3 at K ⊢
  all_goals clear kc0 kl0 kc1 kl1 L
  all_goals replace kc0 := Box.cells K.1
  all_goals replace kl0 := Box.lt K.1
  all_goals replace kc2 := Box.cells K.2.2.1
  all_goals replace kl2 := Box.lt K.2.2.1
  all_goals replace kc3 := Box.cells K.2.2.2.1
  all_goals replace kl3 := Box.lt K.2.2.2.1
  all_goals replace L : Below _ _ _ := K.2.2.2.2.1
  all_goals go_wp2_with fail
  all_goals refine (HP2.out _ L).mono ?_
  all_goals rintro e w4 ⟨A4, c4, rfl, R4, hb4⟩
  all_goals replace K := K.below hb4
  all_goals clear hb4
  all_goals replace kc0 := Box.cells K.1
  all_goals replace kl0 := Box.lt K.1
  all_goals replace kc2 := Box.cells K.2.2.1
  all_goals replace kl2 := Box.lt K.2.2.1
  all_goals replace kc3 := Box.cells K.2.2.2.1
  all_goals replace kl3 := Box.lt K.2.2.2.1
  all_goals replace L : Below _ _ _ := K.2.2.2.2.1
  all_goals replace K := (K.add (x := .rd A4 M (by8 gg)) R4).new w4.heap.size #[.int .i64 vx, .int .i64 vy] 48 rfl
  all_goals clear R4
  all_goals go_upto_region 6 with (fail)
  all_goals generalize w4.alloc (.cells #[.int .i64 vx, .int .i64 vy] 48) = w5 at K ⊢
  all_goals clear kc0 kl0 kc2 kl2 kc3 kl3 L
  all_goals go_wp2_with fail
  all_goals refine (alive10 _).mono ?_
  all_goals rintro e w6 ⟨rfl, hb6⟩
  all_goals replace K := K.below hb6
  all_goals clear hb6
  all_goals replace kc0 := Box.cells K.1
  all_goals replace kl0 := Box.lt K.1
  all_goals replace R4 : Rd _ _ _ _ := K.2.1
  all_goals replace kc2 := Box.cells K.2.2.1
  all_goals replace kl2 := Box.lt K.2.2.1
  all_goals replace R2 : Rd _ _ _ _ := K.2.2.2.1
  all_goals replace L : Below _ _ _ := K.2.2.2.2.2.2.1
  all_goals have k1 := conv_any (c := c2) R2
  all_goals have k2 := conv_any (c := c4) R4
  all_goals clear K
  all_goals go_wp2
  all_goals go_ret
  all_goals exact ⟨rfl, L⟩
theorem walk (w : World) (a b : Int) (A : Option Addr) (N c : Nat) (g : Nat → Int) (ia : I64 a) (ib : I64 b) (hR : Rd w A N (by8 g)) (hg : Byt g) (hnc : N ≤ c) (hc : c ≤ 9223372036854775807) (x y n reach : Int) (ix : I64 x) (iy : I64 y) (iq : I64 n) (im : I64 reach)
    (B : Option Addr) (m d : Nat) (bb : Nat → Int) (hB : Rd w B m (by8 bb)) (hbb : Byt bb) (hd : m ≤ d) (hd2 : d ≤ 9223372036854775807) :
    Calls Try.prog 9 #[.agg #[.int .i64 a, .int .i64 b, .slice A N c], .agg #[.int .i64 x, .int .i64 y, .int .i64 n, .int .i64 reach], .slice B m d] w fun e w' => e = .returned (.bool true) ∧ Below w.heap.size w w' := by
  cases h1 : fitB N with
  | false => exact walk_no w ⟨a, b, A, N, c, g⟩ x y n reach B m d (.inl h1)
  | true =>
    by_cases h2 : 100 < (m : Int)
    · exact walk_no w ⟨a, b, A, N, c, g⟩ x y n reach B m d (.inr (.inl ⟨h1, h2⟩))
    by_cases h3 : 3 < reach ∧ reach ≤ 8
    · exact walk_no w ⟨a, b, A, N, c, g⟩ x y n reach B m d (.inr (.inr ⟨h1, h2, h3⟩))
    · exact walk_yes w ⟨a, b, A, N, c, g⟩ x y n reach B m d bb ⟨ia, ib, hR, hg, hnc, hc⟩ hB hbb h1 h2 (by omega)
end MotionSearches
namespace MotionSearches
set_option maxRecDepth 100000 in
theorem lifted (os : Os) (started : os.Started) (H : Type) (enc : TypeId × Value → H) :
    ReturnsInHanded {} Try.checked os 9 .any (Rows.motionSearchesSpec.pre6 enc Try.prog Try.f9 Rows.motionSearchesRow.domain false) (Rows.motionSearchesSpec.post enc Try.prog Try.f9 false true false false) := by
  refine returnsInHanded_of_change (C := Try.checked) own started (by kernel_rfl) Try.func9
    (ChangeSpec.witness6 (enc := enc) (C := Try.checked) false ⟨#[], #[.agg #[.int .i64 0, .int .i64 0, .slice none 0 0], .agg #[.int .i64 0, .int .i64 0, .int .i64 0, .int .i64 0], .slice none 0 0], []⟩ 8 (by kernel_rfl) (by kernel_rfl) (by kernel_rfl) (by kernel_rfl)) ?_
  intro W base args ds gs before hval0 hW hcnd _
  have hval : ∀ (j : Nat) t v, Try.f9.params[j]? = some t → args[j]? = some v → Value.okWide Try.prog W .any base t v := hval0
  refine law_post (tb := 4) laidOut (by kernel_rfl) rfl Try.underlying4 rfl (fun ds' h => ?_) hW ?_
  · rw [Try.params9] at h
    match ds', h with
    | [d1, d2, d3], _ => exact ⟨rfl, rfl, rfl⟩
  obtain ⟨p, q, hA0, hV, rfl, hfz, hnd⟩ := hW
  have hA : DataW.TrodAll enc Try.prog W 0 (fun _ => true) true Try.f9.params.toList args.toList ds p := hA0
  rw [Try.params9] at hA hval
  obtain ⟨v0, vs0, d0, ds0, p0, q0, hargs, rfl, rfl, h0, r0⟩ := trodAll_cons hA
  obtain ⟨v1, vs1, d1, ds1, p1, q1, rfl, rfl, rfl, h1, r1⟩ := trodAll_cons r0
  obtain ⟨v2, vs2, d2, ds2, p2, q2, rfl, rfl, rfl, h2, r2⟩ := trodAll_cons r1
  obtain ⟨rfl, rfl, rfl⟩ := trodAll_nil r2
  obtain rfl : args = #[v0, v1, v2] := by cases args; simp_all
  obtain ⟨a0, b0, A0, n0, c0, g0, rfl, w0, x0, rr0, t0, l0, m0⟩ := open_plane Try.underlying24 (by kernel_rfl) ⟨rfl, rfl⟩ ⟨rfl, rfl⟩ ⟨rfl, rfl⟩ Try.underlying3 Try.underlying22 Try.underlying5 (by kernel_rfl) (by kernel_rfl) (by kernel_rfl) (hval 0 24 v0 rfl rfl) h0
  obtain ⟨a1, b1, c1, d1, rfl, w1, x1, y1, z1⟩ := open_arr4 Try.underlying36 Try.underlying3 (by kernel_rfl) (by kernel_rfl) (hval 1 36 v1 rfl rfl) h1
  obtain ⟨A2, n2, c2, g2, rfl, rr2, t2, l2, m2⟩ := open_bytes Try.underlying22 Try.underlying5 (by kernel_rfl) (hval 2 22 v2 rfl rfl) h2
  exact walk W a0 b0 A0 n0 c0 g0 w0 x0 rr0 t0 l0 m0 a1 b1 c1 d1 w1 x1 y1 z1 A2 n2 c2 g2 rr2 t2 l2 m2
theorem over : Rows.motionSearchesRow.holds Try.pinned (OpenSpec.ofChange Rows.motionSearchesSpec) :=
  OpenClaim.holds_of_wide 9 Try.f9 rfl rfl rfl rfl rfl rfl rfl ⟨rfl, rfl, rfl, rfl, rfl⟩ rfl rfl rfl rfl rfl (by kernel_rfl) Try.func9 (by kernel_rfl)
    (of_decide_eq_true (by kernel_rfl)) (by unfold Func.isWrapper; first | (rw [if_pos (by decide +kernel)]; kernel_rfl) | (rw [if_neg (by decide +kernel)]; exact ⟨rfl, rfl⟩))
    (fun os started H enc _ => lifted os started H enc)
end MotionSearches
theorem motionSearches_holds : Rows.MotionSearchesSaid := MotionSearches.over

end Go.Proofs.Ytcojphdohpgjnaa
