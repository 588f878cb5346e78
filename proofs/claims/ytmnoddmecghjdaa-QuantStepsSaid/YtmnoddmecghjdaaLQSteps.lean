/- QuantSteps: the step of any quantiser at any place, any number's level, and what it stands for, are as the document says. No condition. -/
import Derived.Test.YtmnoddmecghjdaaAl8
import Derived.Test.YtmnoddmecghjdaaQr1
import Derived.Test.YtmnoddmecghjdaaClose3
import Derived.Test.YtmnoddmecghjdaaRg3M
set_option linter.unusedVariables false
namespace Go.Proofs.Ytmnoddmecghjdaa
open Go.ChangeShapes Go.WideShapes Go.ChangeAt Go.RowKit Go.Joins Go.Kin
namespace QuantSteps
theorem quietD {P : Program} {f : FuncId} {args : Array Value} {w : World} {v : Value} (h : Calls P f args w fun e w' => e = .returned v ∧ w = w') : Calls P f args w fun e w' => e = .returned v ∧ RowKit.Below w.heap.size w w' :=
  h.mono fun _ _ ⟨he, hw⟩ => ⟨he, by subst hw; exact RowKit.Below.refl _ _⟩
/-- Both steps are the same two values. -/
theorem both (q x y : Int) : ∃ s k : Int, (∀ w, Calls Try.prog 38 #[.int .i64 q, .int .i64 x, .int .i64 y] w fun e w' => e = .returned (.tuple #[.int .i64 s, .int .i64 k]) ∧ w = w') ∧
    ∀ w, Calls Try.prog 39 #[.int .i64 q, .int .i64 x, .int .i64 y] w fun e w' => e = .returned (.tuple #[.int .i64 s, .int .i64 k]) ∧ w = w' := by
  by_cases h : stpOk q x y
  · obtain ⟨h1, h2, h3, h4, h5, h6⟩ := h
    obtain ⟨a, rfl⟩ := Int.eq_ofNat_of_zero_le h1
    obtain ⟨b, rfl⟩ := Int.eq_ofNat_of_zero_le h3
    obtain ⟨c, rfl⟩ := Int.eq_ofNat_of_zero_le h5
    exact ⟨_, _, fun w => qstep_yes a b c w (by omega) (by omega) (by omega), fun w => rqstep_yes a b c w (by omega) (by omega) (by omega)⟩
  · exact ⟨_, _, fun w => qstep_no q x y w h, fun w => rqstep_no q x y w h⟩
set_option maxRecDepth 100000 in
set_option maxHeartbeats 8000000 in
theorem walk (w : World) (q : Int) (hq : I64 q) (x y : Int) (hx : I64 x) (hy : I64 y) (v s : Int) (hv : I64 v) (hs : I64 s) :
    Calls Try.prog 12 #[.int .i64 q, .agg #[.int .i64 x, .int .i64 y], .agg #[.int .i64 v, .int .i64 s]] w fun e w' => e = .returned (.bool true) ∧ Below w.heap.size w w' := by
  obtain ⟨st, k, h1, h2⟩ := both q x y
  have H1 := Lib.hid h1
  have H2 := Lib.hid h2
  clear h1 h2
  have hs2 : -9223372036854775808 ≤ s := hs.1
  have K := ((Kn.start w).new w.heap.size #[.int .i64 x, .int .i64 y] 67 rfl).new (w.heap.size + 1) #[.int .i64 v, .int .i64 s] 67 (by simp)
  have kc1 := Box.cells K.1
  have kc2 := Box.cells K.2.1
  have HK := Lib.hid K
  clear K
  have hcase : v < -1099511627776 ∨ (¬ v < -1099511627776 ∧ 1099511627776 < v) ∨ (¬ v < -1099511627776 ∧ ¬ 1099511627776 < v ∧ 1099511627776 < s) ∨ (¬ v < -1099511627776 ∧ ¬ 1099511627776 < v ∧ ¬ 1099511627776 < s) := by omega
  have hs1 : ∃ vv : Int, Hid (∀ w, Calls Try.prog 42 #[.int .i64 v, .int .i64 s] w fun e w' => e = .returned (.int .i64 vv) ∧ Below w.heap.size w w') ∧ ((1 ≤ s ∧ vv = wrap64 (v * s)) ∨ (¬ 1 ≤ s ∧ vv = 0)) := by
    refine ⟨_, Lib.hid (fun w => quietD (val_any v s w)), ?_⟩
    by_cases h : 1 ≤ s
    · exact .inl ⟨h, if_neg (by omega)⟩
    · exact .inr ⟨h, if_pos (by omega)⟩
  obtain ⟨vv, HVA, hs1⟩ := hs1
  rcases hs1 with ⟨hs1, rfl⟩ | ⟨hs1, rfl⟩
  all_goals
    rcases hcase with c1 | ⟨c1, c2⟩ | ⟨c1, c2, c3⟩ | ⟨c1, c2, c3⟩
    · go_enter Try.func12, Try.ntmps12
      go_wp2_with (first | (go_at_call 38; refine (H1.out _).mono ?_; rintro e w' ⟨rfl, hww⟩; subst hww) | (go_at_call 39; refine (H2.out _).mono ?_; rintro e w' ⟨rfl, hww⟩; subst hww) | (go_at_call 34; refine (alive08 _).mono ?_; rintro e w5 ⟨rfl, hb⟩))
      go_ret
      exact ⟨rfl, (HK.out.below hb).2.2.1⟩
    · go_enter Try.func12, Try.ntmps12
      go_wp2_with (first | (go_at_call 38; refine (H1.out _).mono ?_; rintro e w' ⟨rfl, hww⟩; subst hww) | (go_at_call 39; refine (H2.out _).mono ?_; rintro e w' ⟨rfl, hww⟩; subst hww) | (go_at_call 34; refine (alive08 _).mono ?_; rintro e w5 ⟨rfl, hb⟩))
      go_ret
      exact ⟨rfl, (HK.out.below hb).2.2.1⟩
    · try (exfalso; omega)
      all_goals go_enter Try.func12, Try.ntmps12
      all_goals go_wp2_with (first | (go_at_call 38; refine (H1.out _).mono ?_; rintro e w' ⟨rfl, hww⟩; subst hww) | (go_at_call 39; refine (H2.out _).mono ?_; rintro e w' ⟨rfl, hww⟩; subst hww) | (go_at_call 34; refine (alive08 _).mono ?_; rintro e w5 ⟨rfl, hb⟩))
      all_goals go_ret
      all_goals exact ⟨rfl, (HK.out.below hb).2.2.1⟩
    · have HL1 := Lib.hid (fun w => quietD (lev_any v s w (by omega) (by omega)))
      have HL2 := Lib.hid (fun w => quietD (rlev_any v s w (by omega) (by omega)))
      have e1 : (levI v s == levI v s) = true := by simp
      have e2 : (wrap64 (v * s) == wrap64 (v * s)) = true := by simp
      go_enter Try.func12, Try.ntmps12
      go_wp2_with (first | (go_at_call 38; refine (H1.out _).mono ?_; rintro e w' ⟨rfl, hww⟩; subst hww) | (go_at_call 39; refine (H2.out _).mono ?_; rintro e w' ⟨rfl, hww⟩; subst hww))
      have K := Kn.drew HK.out
      refine wp_region_allX (fun w' => Kn w' _) [0, 16, 21, 29] [(0,2),(1,1),(2,1),(3,1),(4,1),(5,1),(6,1),(7,1),(8,1),(9,1),(10,1),(11,1),(12,1),(13,1),(14,1),(15,1),(17,1),(18,1),(19,1),(20,1),(16,2),(21,2),(22,1),(23,1),(24,1),(25,1),(26,1),(27,1),(28,1),(30,1),(29,2),(31,1),(32,1),(33,0)] (by kernel_rfl) (by kernel_rfl) (fun _ _ d _ _ h => by cases d <;> exact h) (K) ?_
      generalize World.drew _ = wd at K ⊢
      clear kc1 kc2
      refine oX_doG rfl rfl (fun KK hKK => ?_)
      go_simp
      refine (alive08 _).mono ?_
      rintro e w5 ⟨rfl, hb5⟩
      replace K := K.below hb5
      refine hKK (fun w' => Kn w' _) _ _ ?hsub K ?_
      case hsub => exact fun _ h => h
      clear hKK KK hb5
      repeat (first | (refine oX_freeG rfl rfl (fun w' hS => by have s1 := Box.cells hS.1; clear hS; go_simp; with_reducible rfl) ?_; go_simp) | (refine oX_skipG rfl rfl ?_; go_simp))
      refine oX_doG rfl rfl (fun KK hKK => ?_)
      go_simp
      refine (HL1.out _).mono ?_
      rintro e w6 ⟨rfl, hb6⟩
      replace K := K.below hb6
      refine hKK (fun w' => Kn w' _) _ _ ?hsub K ?_
      case hsub => exact fun _ h => h
      clear hKK KK hb6
      repeat (first | (refine oX_freeG rfl rfl (fun w' hS => by have s1 := Box.cells hS.1; clear hS; go_simp; with_reducible rfl) ?_; go_simp) | (refine oX_skipG rfl rfl ?_; go_simp))
      refine oX_doG rfl rfl (fun KK hKK => ?_)
      go_simp
      refine (HL2.out _).mono ?_
      rintro e w7 ⟨rfl, hb7⟩
      replace K := K.below hb7
      refine hKK (fun w' => Kn w' _) _ _ ?hsub K ?_
      case hsub => exact fun _ h => h
      clear hKK KK hb7
      repeat (first | (refine oX_freeG rfl rfl (fun w' hS => by have s1 := Box.cells hS.1; clear hS; go_simp; with_reducible rfl) ?_; go_simp) | (refine oX_skipG rfl rfl ?_; go_simp))
      refine oX_doG rfl rfl (fun KK hKK => ?_)
      go_simp
      refine (HVA.out _).mono ?_
      rintro e w8 ⟨rfl, hb8⟩
      replace K := K.below hb8
      refine hKK (fun w' => Kn w' _) _ _ ?hsub K ?_
      case hsub => exact fun _ h => h
      clear hKK KK hb8
      repeat (first | (refine oX_freeG rfl rfl (fun w' hS => by have s1 := Box.cells hS.1; clear hS; go_simp; with_reducible rfl) ?_; go_simp) | (refine oX_skipG rfl rfl ?_; go_simp))
      repeat (refine oX_still rfl (fun KK hKK => ?_); go_simp; refine hKK _ ?_; clear hKK KK)
      refine oX_nil ?_
      have HF := Lib.hid K
      clear K
      go_wp2
      go_ret
      exact ⟨rfl, HF.out.2.2.1⟩
end QuantSteps
namespace QuantSteps
set_option maxRecDepth 100000 in
theorem lifted (os : Os) (started : os.Started) (H : Type) (enc : TypeId × Value → H) :
    ReturnsInHanded {} Try.checked os 12 .any (Rows.quantStepsSpec.pre6 enc Try.prog Try.f12 Rows.quantStepsRow.domain false) (Rows.quantStepsSpec.post enc Try.prog Try.f12 false true false false) := by
  refine returnsInHanded_of_change (C := Try.checked) own started (by kernel_rfl) Try.func12
    (ChangeSpec.witness6 (enc := enc) (C := Try.checked) false ⟨#[], #[.int .i64 0, .agg #[.int .i64 0, .int .i64 0], .agg #[.int .i64 0, .int .i64 0]], []⟩ 8 (by kernel_rfl) (by kernel_rfl) (by kernel_rfl) (by kernel_rfl)) ?_
  intro W base args ds gs before hval0 hW hcnd _
  have hval : ∀ (j : Nat) t v, Try.f12.params[j]? = some t → args[j]? = some v → Value.okWide Try.prog W .any base t v := hval0
  refine law_post (tb := 4) laidOut (by kernel_rfl) rfl Try.underlying4 rfl (fun ds' h => ?_) hW ?_
  · rw [Try.params12] at h
    match ds', h with
    | [d1, d2, d3], _ => exact ⟨rfl, rfl, rfl⟩
  obtain ⟨p, q, hA0, hV, rfl, hfz, hnd⟩ := hW
  have hA : DataW.TrodAll enc Try.prog W 0 (fun _ => true) true Try.f12.params.toList args.toList ds p := hA0
  rw [Try.params12] at hA hval
  obtain ⟨v0, vs0, d0, ds0, p0, q0, hargs, rfl, rfl, h0, r0⟩ := trodAll_cons hA
  obtain ⟨v1, vs1, d1, ds1, p1, q1, rfl, rfl, rfl, h1, r1⟩ := trodAll_cons r0
  obtain ⟨v2, vs2, d2, ds2, p2, q2, rfl, rfl, rfl, h2, r2⟩ := trodAll_cons r1
  obtain ⟨rfl, rfl, rfl⟩ := trodAll_nil r2
  obtain rfl : args = #[v0, v1, v2] := by cases args; simp_all
  obtain ⟨a0, rfl, rfl, rfl, w0⟩ := open_int Try.underlying3 (hval 0 3 v0 rfl rfl) h0
  obtain ⟨a1, b1, rfl, w1, x1⟩ := open_arr2 Try.underlying67 Try.underlying3 (by kernel_rfl) (by kernel_rfl) (hval 1 67 v1 rfl rfl) h1
  obtain ⟨a2, b2, rfl, w2, x2⟩ := open_arr2 Try.underlying67 Try.underlying3 (by kernel_rfl) (by kernel_rfl) (hval 2 67 v2 rfl rfl) h2
  exact walk W a0 (bounds_i64 w0) a1 b1 w1 x1 a2 b2 w2 x2
theorem over : Rows.quantStepsRow.holds Try.pinned (OpenSpec.ofChange Rows.quantStepsSpec) :=
  OpenClaim.holds_of_wide 12 Try.f12 rfl rfl rfl rfl rfl rfl rfl ⟨rfl, rfl, rfl, rfl, rfl⟩ rfl rfl rfl rfl rfl (by kernel_rfl) Try.func12 (by kernel_rfl)
    (of_decide_eq_true (by kernel_rfl)) (by unfold Func.isWrapper; first | (rw [if_pos (by decide +kernel)]; kernel_rfl) | (rw [if_neg (by decide +kernel)]; exact ⟨rfl, rfl⟩))
    (fun os started H enc _ => lifted os started H enc)
end QuantSteps
theorem quantSteps_holds : Rows.QuantStepsSaid := QuantSteps.over

end Go.Proofs.Ytmnoddmecghjdaa
