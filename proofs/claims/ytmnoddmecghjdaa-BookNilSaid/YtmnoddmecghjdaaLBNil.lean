/- BookNil: no book, no encoder, no decoder: ErrArg. No condition. -/
import Derived.Test.YtmnoddmecghjdaaAl5
import Derived.Test.YtmnoddmecghjdaaNl1
import Derived.Test.YtmnoddmecghjdaaClose4
import Derived.Test.YtmnoddmecghjdaaRg4
set_option linter.unusedVariables false
namespace Go.Proofs.Ytmnoddmecghjdaa
open Go.ChangeShapes Go.WideShapes Go.ChangeAt Go.RowKit Go.Joins Go.Kin
namespace BookNil
set_option maxRecDepth 100000 in
set_option maxHeartbeats 8000000 in
theorem walk (w : World) (k t n v : Int) (hk : I64 k) (ht : I64 t) (hn : I64 n) (hv : I64 v) : Calls Try.prog 8 #[.agg #[.int .i64 k, .int .i64 t, .int .i64 n, .int .i64 v]] w fun e w' => e = .returned (.bool true) ∧ Below w.heap.size w w' := by
  have K := (Kn.start w).new w.heap.size #[.int .i64 k, .int .i64 t, .int .i64 n, .int .i64 v] 33 rfl
  go_enter Try.func8, Try.ntmps8
  go_wp2_with fail
  refine (bnew_s _).mono ?_
  rintro e w1 ⟨b, rfl, -, hb⟩
  replace K := K.below hb
  clear hb
  have kc := Box.cells K.1
  go_wp2_with fail
  refine (nget_b _ k t n v _).mono ?_
  rintro e w2 ⟨rfl, hb⟩
  replace K := K.below hb
  clear hb
  replace kc := Box.cells K.1
  go_wp2_with fail
  refine (nget_x b k t n v _).mono ?_
  rintro e w3 ⟨rfl, hb⟩
  replace K := K.below hb
  clear hb kc
  go_wp2_with fail
  replace K := Kn.drew K
  refine wp_region_allX (fun w' => Kn w' _) [0, 4, 5, 11, 32, 37, 42] [(0,2),(1,1),(2,1),(3,1),(4,2),(5,2),(6,1),(7,1),(8,1),(9,1),(10,1),(11,2),(12,1),(13,1),(14,1),(15,1),(16,1),(17,1),(18,1),(19,1),(20,1),(21,1),(22,1),(23,1),(24,1),(25,1),(26,1),(27,1),(28,1),(29,1),(30,1),(31,1),(32,2),(33,1),(34,1),(35,1),(36,1),(37,2),(38,1),(39,1),(40,1),(41,1),(42,2),(43,1),(44,1),(45,0)] (by kernel_rfl) (by kernel_rfl) (fun _ _ d _ _ h => by cases d <;> exact h) (K) ?_
  generalize World.drew _ = wd at K ⊢
  refine oX_doG rfl rfl (fun KK hKK => ?_)
  go_simp
  refine (alive05 _).mono ?_
  rintro e w1 ⟨rfl, hb1⟩
  replace K := K.below hb1
  refine hKK (fun w' => Kn w' _) _ _ ?hsub K ?_
  case hsub => exact fun _ h => h
  clear hKK KK hb1
  repeat (first | (refine oX_freeG rfl rfl (fun w' hS => by have s1 := Box.cells hS.1; clear hS; go_simp; with_reducible rfl) ?_; go_simp) | (refine oX_skipG rfl rfl ?_; go_simp))
  refine oX_doG rfl rfl (fun KK hKK => ?_)
  go_simp
  refine (cnew_s _).mono ?_
  rintro e w2 ⟨x, rfl, -, hb2⟩
  replace K := K.below hb2
  refine hKK (fun w' => Kn w' _) _ _ ?hsub K ?_
  case hsub => exact fun _ h => h
  clear hKK KK hb2
  refine oX_doG rfl rfl (fun KK hKK => ?_)
  go_simp
  refine (nput_b _ k t n v _).mono ?_
  rintro e w3 ⟨rfl, hb3⟩
  replace K := K.below hb3
  refine hKK (fun w' => Kn w' _) _ _ ?hsub K ?_
  case hsub => exact fun _ h => h
  clear hKK KK hb3
  repeat (first | (refine oX_freeG rfl rfl (fun w' hS => by have s1 := Box.cells hS.1; clear hS; go_simp; with_reducible rfl) ?_; go_simp) | (refine oX_skipG rfl rfl ?_; go_simp))
  refine oX_doG rfl rfl (fun KK hKK => ?_)
  go_simp
  refine (nput_x b k t n v _).mono ?_
  rintro e w4 ⟨rfl, hb4⟩
  replace K := K.below hb4
  refine hKK (fun w' => Kn w' _) _ _ ?hsub K ?_
  case hsub => exact fun _ h => h
  clear hKK KK hb4
  repeat (first | (refine oX_freeG rfl rfl (fun w' hS => by skip; clear hS; go_simp; with_reducible rfl) ?_; go_simp) | (refine oX_skipG rfl rfl ?_; go_simp))
  refine oX_doG rfl rfl (fun KK hKK => ?_)
  go_simp
  refine (quietB (same_nilnil _)).mono ?_
  rintro e w5 ⟨rfl, hb5⟩
  replace K := K.below hb5
  refine hKK (fun w' => Kn w' _) _ _ ?hsub K ?_
  case hsub => exact fun _ h => h
  clear hKK KK hb5
  repeat (first | (refine oX_freeG rfl rfl (fun w' hS => by skip; clear hS; go_simp; with_reducible rfl) ?_; go_simp) | (refine oX_skipG rfl rfl ?_; go_simp))
  refine oX_doG rfl rfl (fun KK hKK => ?_)
  go_simp
  refine (quietB (same_nilsome b _)).mono ?_
  rintro e w6 ⟨rfl, hb6⟩
  replace K := K.below hb6
  refine hKK (fun w' => Kn w' _) _ _ ?hsub K ?_
  case hsub => exact fun _ h => h
  clear hKK KK hb6
  repeat (first | (refine oX_freeG rfl rfl (fun w' hS => by skip; clear hS; go_simp; with_reducible rfl) ?_; go_simp) | (refine oX_skipG rfl rfl ?_; go_simp))
  refine oX_doG rfl rfl (fun KK hKK => ?_)
  go_simp
  refine (quietB (copy_nil _)).mono ?_
  rintro e w7 ⟨rfl, hb7⟩
  replace K := K.below hb7
  refine hKK (fun w' => Kn w' _) _ _ ?hsub K ?_
  case hsub => exact fun _ h => h
  clear hKK KK hb7
  repeat (first | (refine oX_freeG rfl rfl (fun w' hS => by skip; clear hS; go_simp; with_reducible rfl) ?_; go_simp) | (refine oX_skipG rfl rfl ?_; go_simp))
  repeat (refine oX_still rfl (fun KK hKK => ?_); go_simp; refine hKK _ ?_; clear hKK KK)
  refine oX_nil ?_
  have L : Below _ _ _ := K.2.1
  clear K
  go_wp2
  go_ret
  exact ⟨rfl, L⟩
end BookNil
namespace BookNil
set_option maxRecDepth 100000 in
theorem lifted (os : Os) (started : os.Started) (H : Type) (enc : TypeId × Value → H) :
    ReturnsInHanded {} Try.checked os 8 .any (Rows.bookNilSpec.pre6 enc Try.prog Try.f8 Rows.bookNilRow.domain false) (Rows.bookNilSpec.post enc Try.prog Try.f8 false true false false) := by
  refine returnsInHanded_of_change (C := Try.checked) own started (by kernel_rfl) Try.func8
    (ChangeSpec.witness6 (enc := enc) (C := Try.checked) false ⟨#[], #[.agg #[.int .i64 0, .int .i64 0, .int .i64 0, .int .i64 0]], []⟩ 8 (by kernel_rfl) (by kernel_rfl) (by kernel_rfl) (by kernel_rfl)) ?_
  intro W base args ds gs before hval0 hW hcnd _
  have hval : ∀ (j : Nat) t v, Try.f8.params[j]? = some t → args[j]? = some v → Value.okWide Try.prog W .any base t v := hval0
  refine law_post (tb := 4) laidOut (by kernel_rfl) rfl Try.underlying4 rfl (fun ds' h => ?_) hW ?_
  · rw [Try.params8] at h
    match ds', h with
    | [d1], _ => exact ⟨rfl, rfl, rfl⟩
  obtain ⟨p, q, hA0, hV, rfl, hfz, hnd⟩ := hW
  have hA : DataW.TrodAll enc Try.prog W 0 (fun _ => true) true Try.f8.params.toList args.toList ds p := hA0
  rw [Try.params8] at hA hval
  obtain ⟨v0, vs0, d0, ds0, p0, q0, hargs, rfl, rfl, h0, r0⟩ := trodAll_cons hA
  obtain ⟨rfl, rfl, rfl⟩ := trodAll_nil r0
  obtain rfl : args = #[v0] := by cases args; simp_all
  obtain ⟨a0, b0, c0, d40, rfl, w0, x0, y0, z0⟩ := open_act4 Try.underlying33 (by kernel_rfl) ⟨rfl, rfl⟩ ⟨rfl, rfl⟩ ⟨rfl, rfl⟩ ⟨rfl, rfl⟩ Try.underlying3 (by kernel_rfl) (hval 0 33 v0 rfl rfl) h0
  exact walk W a0 b0 c0 d40 w0 x0 y0 z0
theorem over : Rows.bookNilRow.holds Try.pinned (OpenSpec.ofChange Rows.bookNilSpec) :=
  OpenClaim.holds_of_wide 8 Try.f8 rfl rfl rfl rfl rfl rfl rfl ⟨rfl, rfl, rfl, rfl, rfl⟩ rfl rfl rfl rfl rfl (by kernel_rfl) Try.func8 (by kernel_rfl)
    (of_decide_eq_true (by kernel_rfl)) (by unfold Func.isWrapper; first | (rw [if_pos (by decide +kernel)]; kernel_rfl) | (rw [if_neg (by decide +kernel)]; exact ⟨rfl, rfl⟩))
    (fun os started H enc _ => lifted os started H enc)
end BookNil
theorem bookNil_holds : Rows.BookNilSaid := BookNil.over

end Go.Proofs.Ytmnoddmecghjdaa
