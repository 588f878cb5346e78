/- IntraNearest: the block that is chosen is no further from the samples than that of any mode, and as far as the one of its mode: proved for every plane, place, size and block, no condition. -/
import Derived.Test.YtcojphdohpgjnaaAl9
import Derived.Test.YtcojphdohpgjnaaIn15
import Derived.Test.YtcojphdohpgjnaaFt
import Derived.Test.YtcojphdohpgjnaaClose
namespace Go.Kin
theorem bestM_min (F : Nat → Int) : ∀ n k, k < n → F (bestM F n) ≤ F k ∧ (k < bestM F n → F (bestM F n) < F k)
  | 0, k, h => absurd h (by omega)
  | n + 1, k, h => by
    rw [bestM]
    by_cases e : n = 0 ∨ F n < F (bestM F n)
    · rw [if_pos e]
      by_cases hk : k = n
      · subst hk; omega
      · have := bestM_min F n k (by omega)
        omega
    · rw [if_neg e]
      by_cases hk : k = n
      · subst hk
        have := bestM_lt F k (by omega)
        omega
      · exact bestM_min F n k (by omega)
end Go.Kin
namespace Go.Proofs.Ytcojphdohpgjnaa
open Go.ChangeShapes Go.WideShapes Go.ChangeAt Go.RowKit Go.Joins Go.Kin
set_option linter.unusedVariables false

namespace IntraNearest
set_option maxRecDepth 100000 in
set_option maxHeartbeats 2000000 in
theorem walk_no (w : World) (p : PlV) (x y n : Int) (B : Option Addr) (m d : Nat) (h : fitB p.n = false ∨ (fitB p.n = true ∧ 200 < (m : Int))) :
    Calls Try.prog 6 #[.agg #[.int .i64 p.a, .int .i64 p.b, .slice p.A p.n p.c], .agg #[.int .i64 x, .int .i64 y, .int .i64 n], .slice B m d] w fun e w' => e = .returned (.bool true) ∧ Below w.heap.size w w' := by
  have K := Kn.start w
  rcases h with h1 | ⟨h1, h2⟩
  all_goals go_enter Try.func6, Try.ntmps6
  all_goals go_wp2_with fail
  all_goals refine (fits_any _ _ _ _ _ _).mono ?_
  all_goals rintro e w1 ⟨rfl, hb1⟩
  all_goals replace K := ((K.new w.heap.size _ _ rfl).new (w.heap.size + 1) _ _ (by simp)).below hb1
  all_goals clear hb1
  all_goals replace L : Below _ _ _ := K.2.2.1
  all_goals go_wp2_with fail
  all_goals refine (alive09 _).mono ?_
  all_goals rintro e w2 ⟨rfl, hb2⟩
  all_goals replace K := K.below hb2
  all_goals clear hb2
  all_goals replace L : Below _ _ _ := K.2.2.1
  all_goals go_wp2
  all_goals go_ret
  all_goals exact ⟨rfl, L⟩
set_option maxRecDepth 100000 in
set_option maxHeartbeats 2000000 in
theorem walk_err (w : World) (p : PlV) (x y n k : Int) (B : Option Addr) (m d : Nat) (h : fitB p.n = true) (h2 : ¬ 200 < (m : Int)) (hk : (k != 0) = true)
    (hC : ∀ w1, Below w.heap.size w w1 → Calls Try.prog 17 #[.agg #[.int .i64 p.a, .int .i64 p.b, .slice p.A p.n p.c], .int .i64 x, .int .i64 y, .int .i64 n, .slice B m d] w1 (NoMode k w1)) :
    Calls Try.prog 6 #[.agg #[.int .i64 p.a, .int .i64 p.b, .slice p.A p.n p.c], .agg #[.int .i64 x, .int .i64 y, .int .i64 n], .slice B m d] w fun e w' => e = .returned (.bool true) ∧ Below w.heap.size w w' := by
  have K := Kn.start w
  have HC := Lib.hid hC
  clear hC
  go_enter Try.func6, Try.ntmps6
  go_wp2_with fail
  refine (fits_any _ _ _ _ _ _).mono ?_
  rintro e w1 ⟨rfl, hb1⟩
  replace K := ((K.new w.heap.size _ _ rfl).new (w.heap.size + 1) _ _ (by simp)).below hb1
  clear hb1
  replace kc0 := Box.cells K.1
  replace kl0 := Box.lt K.1
  replace kc1 := Box.cells K.2.1
  replace kl1 := Box.lt K.2.1
  replace L : Below _ _ _ := K.2.2.1
  go_wp2_with fail
  refine (HC.out _ L).mono ?_
  rintro e w2 ⟨rfl, hb2⟩
  replace K := K.below hb2
  clear hb2
  replace L : Below _ _ _ := K.2.2.1
  go_wp2_with fail
  refine (alive09 _).mono ?_
  rintro e w3 ⟨rfl, hb3⟩
  replace K := K.below hb3
  clear hb3
  replace L : Below _ _ _ := K.2.2.1
  go_wp2
  go_ret
  exact ⟨rfl, L⟩
set_option maxRecDepth 100000 in
set_option maxHeartbeats 4000000 in
theorem walk_yes (w : World) (W H X Y n : Nat) (bb off N c : Nat) (g : Nat → Int) (B : Option Addr) (m d : Nat) (h : Nat → Int) (hf : fitB N = true) (h2 : ¬ 200 < (m : Int)) (hr : rightB W H N = true) (hR : Rd w (some ⟨bb, off, none⟩) N (by8 g)) (hg : Byt g) (hb : bb < w.heap.size) (hnc : N ≤ c) (hc : c ≤ 9223372036854775807)
    (hn : n = 4 ∨ n = 8) (hX : X + n ≤ W) (hY : Y + n ≤ H) (hB : Rd w B m (by8 h)) (hh : Byt h) (hmn : m = n * n) :
    Calls Try.prog 6 #[.agg #[.int .i64 W, .int .i64 H, .slice (some ⟨bb, off, none⟩) N c], .agg #[.int .i64 X, .int .i64 Y, .int .i64 n], .slice B m d] w fun e w' => e = .returned (.bool true) ∧ Below w.heap.size w w' := by
  have n1 : 1 ≤ n := by omega
  have HCH := Lib.hid (fun w1 hw => choose_yes W H X Y n bb off N c g B m d h w1 hr (hR.below hw) (by have := Below.size hw; omega) hnc hc hn hX hY hg (hB.below hw) hh hmn)
  generalize hF : (fun k => sumAbs h (gsP W g X Y n k) m) = F at HCH
  have HF := Lib.hid (congrFun hF)
  have HFc : Hid (∀ k, sumAbs (gsP W g X Y n k) h m = F k) := Lib.hid (fun k => by rw [← HF.out k]; exact sumAbs_comm _ _ _)
  clear hF
  have HMIN := Lib.hid (bestM_min F 4)
  have bl := bestM_lt F 4 (by omega)
  generalize hBM : bestM F 4 = bm at *
  clear hBM
  have HN := Lib.hid hn
  have HM := Lib.hid hmn
  clear hn hmn
  have K := ((Kn.start w).add (x := .rd (some ⟨bb, off, none⟩) N (by8 g)) hR).add (x := .rd B m (by8 h)) hB
  clear hR hB
  go_enter Try.func6, Try.ntmps6
  go_wp2_with fail
  refine (fits_any _ _ _ _ _ _).mono ?_
  rintro e w1 ⟨rfl, hb1⟩
  replace K := ((K.new w.heap.size _ _ rfl).new (w.heap.size + 1) _ _ (by simp)).below hb1
  clear hb1
  replace kc0 := Box.cells K.1
  replace kl0 := Box.lt K.1
  replace kc1 := Box.cells K.2.1
  replace kl1 := Box.lt K.2.1
  replace L : Below _ _ _ := K.2.2.2.2.1
  go_wp2_with fail
  refine (HCH.out _ L).mono ?_
  rintro e w2 ⟨A2, c2, rfl, R2, _, _, hb2⟩
  replace K := K.below hb2
  clear hb2
  replace L : Below _ _ _ := K.2.2.2.2.1
  have HK := Lib.hid (K.add (x := .rd A2 m (by8 (gsP W g X Y n bm))) R2)
  clear K R2 L kc0 kc1 kl0 kl1 HCH
  go_wp2_with fail
  go_loopw [11] (fun i wr => ∃ k : Nat, k ≤ 4 ∧ i = .int .i64 k ∧ Kn wr [.rd A2 m (by8 (gsP W g X Y n bm)), .box (w.heap.size + 1) #[.int .i64 X, .int .i64 Y, .int .i64 n], .box w.heap.size #[.int .i64 W, .int .i64 H, .slice (some ⟨bb, off, none⟩) N c], .rd B m (by8 h), .rd (some ⟨bb, off, none⟩) N (by8 g), .since w]) (fun i _ => 4 - (intOf i).toNat)
  case atStart => exact ⟨0, by omega, rfl, HK.out⟩
  case round =>
    obtain ⟨k, hk, rfl, K⟩ := hrel
    clear HK
    by_cases hk4 : k < 4
    · have kc1 := Box.cells K.2.1
      have kc2 := Box.cells K.2.2.1
      have hbr : bb < wr.heap.size := by have := Below.size K.2.2.2.2.2.1; omega
      have hm2 : m ≤ 200 := by omega
      go_wp2_with fail
      refine (guess_yes W H X Y n k bb off N c g _ hr K.2.2.2.2.1 hbr hnc hc HN.out hX hY hk4 hg).mono ?_
      rintro e w3 ⟨A3, c3, rfl, R3, _, _, hb3⟩
      rw [← HM.out] at R3 ⊢
      replace K := (K.below hb3).add (x := .rd A3 m (by8 (gsP W g X Y n k))) R3
      clear hb3 R3 kc1 kc2 hbr
      go_wp2_with fail
      refine (far9_any A3 B m m c3 d (gsP W g X Y n k) h _ K.1 K.2.2.2.2.1 (gsP_byt n1 hg) hh (Nat.le_refl _) (by omega)).mono ?_
      rintro e w4 ⟨rfl, hb4⟩
      replace K := K.below hb4
      rw [HFc.out k]
      clear hb4
      go_wp2_with fail
      refine (far9_any A2 B m m c2 d (gsP W g X Y n bm) h _ K.2.1 K.2.2.2.2.1 (gsP_byt n1 hg) hh (Nat.le_refl _) (by omega)).mono ?_
      rintro e w5 ⟨rfl, hb5⟩
      replace K := K.below hb5
      rw [HFc.out bm]
      clear hb5
      obtain ⟨o1, o2⟩ := HMIN.out k hk4
      have HO2 := Lib.hid o2
      clear o2
      rcases Nat.lt_trichotomy k bm with hlt | heq | hgt
      · have o3 := HO2.out hlt
        have o4 : (F k == F bm) = false := by simp; omega
        have o5 : ((k : Int) == (bm : Int)) = false := by simp; omega
        go_wp2_with fail
        refine (far9_any A2 B m m c2 d (gsP W g X Y n bm) h _ K.2.1 K.2.2.2.2.1 (gsP_byt n1 hg) hh (Nat.le_refl _) (by omega)).mono ?_
        rintro e w6 ⟨rfl, hb6⟩
        replace K := K.below hb6
        rw [HFc.out bm]
        clear hb6
        have HK := Lib.hid K
        clear K
        go_wp2
        go_roundw
        case rel => exact ⟨k + 1, by omega, by go_num, HK.out.2⟩
        case measure => simp [intOf]; omega
      · subst heq
        have k1 := conv_any (c := c3) K.1
        have k2 := conv_any (c := c2) K.2.1
        have HK := Lib.hid K
        clear K
        go_wp2
        go_roundw
        case rel => exact ⟨k + 1, by omega, by go_num, HK.out.2⟩
        case measure => simp [intOf]; omega
      · have o5 : ((k : Int) == (bm : Int)) = false := by simp; omega
        have o6 : ¬ (k : Int) < bm := by omega
        have HK := Lib.hid K
        clear K
        go_wp2
        go_roundw
        case rel => exact ⟨k + 1, by omega, by go_num, HK.out.2⟩
        case measure => simp [intOf]; omega
    · obtain rfl : k = 4 := by omega
      go_wp2_with fail
      refine (alive09 _).mono ?_
      rintro e w3 ⟨rfl, hb3⟩
      replace K := K.below hb3
      go_wp2
      go_ret
      exact ⟨rfl, K.2.2.2.2.2.1⟩
theorem walk (w : World) (a b : Int) (A : Option Addr) (N c : Nat) (g : Nat → Int) (ia : I64 a) (ib : I64 b) (hR : Rd w A N (by8 g)) (hg : Byt g) (hnc : N ≤ c) (hc : c ≤ 9223372036854775807) (x y q : Int) (ix : I64 x) (iy : I64 y) (iq : I64 q)
    (B : Option Addr) (m d : Nat) (h : Nat → Int) (hB : Rd w B m (by8 h)) (hh : Byt h) (hd : m ≤ d) (hd2 : d ≤ 9223372036854775807) :
    Calls Try.prog 6 #[.agg #[.int .i64 a, .int .i64 b, .slice A N c], .agg #[.int .i64 x, .int .i64 y, .int .i64 q], .slice B m d] w fun e w' => e = .returned (.bool true) ∧ Below w.heap.size w w' := by
  cases h1 : fitB N with
  | false => exact walk_no w ⟨a, b, A, N, c, g⟩ x y q B m d (.inl h1)
  | true =>
    by_cases h2 : 200 < (m : Int)
    · exact walk_no w ⟨a, b, A, N, c, g⟩ x y q B m d (.inr ⟨h1, h2⟩)
    cases hr : rightB a b N with
    | false => exact walk_err w ⟨a, b, A, N, c, g⟩ x y q 61 B m d h1 h2 rfl fun w1 _ => choose_err (.int .i64 0) _ _ _ _ _ _ _ _ _ _ _ _ _ rfl fun w => guess_no _ _ _ _ _ _ _ _ _ _ hr
    | true =>
      by_cases hT : gOk a b x y q 0
      · obtain ⟨r1, r2, r3, r4, r5⟩ := rightB_iff.1 hr
        obtain ⟨X, Y, n, mode, rfl, rfl, rfl, _, hn, hX, hY, hm⟩ := gOk_nat hT
        obtain ⟨W, rfl⟩ := Int.eq_ofNat_of_zero_le (show 0 ≤ a by omega)
        obtain ⟨H, rfl⟩ := Int.eq_ofNat_of_zero_le (show 0 ≤ b by omega)
        obtain ⟨bb, off, rfl, hb, _⟩ := hR.some_ (rightB_pos hr)
        by_cases hmn : m = n * n
        · exact walk_yes w W H X Y n bb off N c g B m d h h1 h2 hr hR hg hb hnc hc hn (by omega) (by omega) hB hh hmn
        · exact walk_err w ⟨W, H, some ⟨bb, off, none⟩, N, c, g⟩ X Y n 1 B m d h1 h2 rfl fun w1 hw => choose_len W H X Y n bb off N c g B m d w1 hr (hR.below hw) (by have := hw.size; omega) hnc hc hn (by omega) (by omega) hg (neN_of hmn)
      · exact walk_err w ⟨a, b, A, N, c, g⟩ x y q 1 B m d h1 h2 rfl fun w1 _ => choose_err (.int .i64 0) _ _ _ _ _ _ _ _ _ _ _ _ _ rfl fun w => guess_arg _ _ _ _ _ _ _ _ _ _ hr hT
end IntraNearest
namespace IntraNearest
set_option maxRecDepth 100000 in
theorem lifted (os : Os) (started : os.Started) (H : Type) (enc : TypeId × Value → H) :
    ReturnsInHanded {} Try.checked os 6 .any (Rows.intraNearestSpec.pre6 enc Try.prog Try.f6 Rows.intraNearestRow.domain false) (Rows.intraNearestSpec.post enc Try.prog Try.f6 false true false false) := by
  refine returnsInHanded_of_change (C := Try.checked) own started (by kernel_rfl) Try.func6
    (ChangeSpec.witness6 (enc := enc) (C := Try.checked) false ⟨#[], #[.agg #[.int .i64 0, .int .i64 0, .slice none 0 0], .agg #[.int .i64 0, .int .i64 0, .int .i64 0], .slice none 0 0], []⟩ 8 (by kernel_rfl) (by kernel_rfl) (by kernel_rfl) (by kernel_rfl)) ?_
  intro W base args ds gs before hval0 hW hcnd _
  have hval : ∀ (j : Nat) t v, Try.f6.params[j]? = some t → args[j]? = some v → Value.okWide Try.prog W .any base t v := hval0
  refine law_post (tb := 4) laidOut (by kernel_rfl) rfl Try.underlying4 rfl (fun ds' h => ?_) hW ?_
  · rw [Try.params6] at h
    match ds', h with
    | [d1, d2, d3], _ => exact ⟨rfl, rfl, rfl⟩
  obtain ⟨p, q, hA0, hV, rfl, hfz, hnd⟩ := hW
  have hA : DataW.TrodAll enc Try.prog W 0 (fun _ => true) true Try.f6.params.toList args.toList ds p := hA0
  rw [Try.params6] at hA hval
  obtain ⟨v0, vs0, d0, ds0, p0, q0, hargs, rfl, rfl, h0, r0⟩ := trodAll_cons hA
  obtain ⟨v1, vs1, d1, ds1, p1, q1, rfl, rfl, rfl, h1, r1⟩ := trodAll_cons r0
  obtain ⟨v2, vs2, d2, ds2, p2, q2, rfl, rfl, rfl, h2, r2⟩ := trodAll_cons r1
  obtain ⟨rfl, rfl, rfl⟩ := trodAll_nil r2
  obtain rfl : args = #[v0, v1, v2] := by cases args; simp_all
  obtain ⟨a0, b0, A0, n0, c0, g0, rfl, w0, x0, rr0, t0, l0, m0⟩ := open_plane Try.underlying24 (by kernel_rfl) ⟨rfl, rfl⟩ ⟨rfl, rfl⟩ ⟨rfl, rfl⟩ Try.underlying3 Try.underlying22 Try.underlying5 (by kernel_rfl) (by kernel_rfl) (by kernel_rfl) (hval 0 24 v0 rfl rfl) h0
  obtain ⟨a1, b1, c1, rfl, w1, x1, y1⟩ := open_arr3 Try.underlying32 Try.underlying3 (by kernel_rfl) (by kernel_rfl) (hval 1 32 v1 rfl rfl) h1
  obtain ⟨A2, n2, c2, g2, rfl, rr2, t2, l2, m2⟩ := open_bytes Try.underlying22 Try.underlying5 (by kernel_rfl) (hval 2 22 v2 rfl rfl) h2
  exact walk W a0 b0 A0 n0 c0 g0 w0 x0 rr0 t0 l0 m0 a1 b1 c1 w1 x1 y1 A2 n2 c2 g2 rr2 t2 l2 m2
theorem over : Rows.intraNearestRow.holds Try.pinned (OpenSpec.ofChange Rows.intraNearestSpec) :=
  OpenClaim.holds_of_wide 6 Try.f6 rfl rfl rfl rfl rfl rfl rfl ⟨rfl, rfl, rfl, rfl, rfl⟩ rfl rfl rfl rfl rfl (by kernel_rfl) Try.func6 (by kernel_rfl)
    (of_decide_eq_true (by kernel_rfl)) (by unfold Func.isWrapper; first | (rw [if_pos (by decide +kernel)]; kernel_rfl) | (rw [if_neg (by decide +kernel)]; exact ⟨rfl, rfl⟩))
    (fun os started H enc _ => lifted os started H enc)
end IntraNearest
theorem intraNearest_holds : Rows.IntraNearestSaid := IntraNearest.over

end Go.Proofs.Ytcojphdohpgjnaa
