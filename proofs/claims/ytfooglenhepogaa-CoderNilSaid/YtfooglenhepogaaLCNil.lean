/- CoderNil: no encoder, no decoder: ErrArg, and nothing. No condition. -/
import Derived.Test.YtfooglenhepogaaAl4
import Derived.Test.YtfooglenhepogaaClose3
import Derived.Test.YtfooglenhepogaaRg4
namespace Go.Kin
theorem quietB {P : Program} {f : FuncId} {args : Array Value} {w : World} {v : Value} (h : Calls P f args w fun e w' => e = .returned v ∧ w = w') : Calls P f args w fun e w' => e = .returned v ∧ RowKit.Below w.heap.size w w' :=
  h.mono fun _ _ ⟨he, hw⟩ => ⟨he, by subst hw; exact RowKit.Below.refl _ _⟩
end Go.Kin
namespace Go.Proofs.Ytfooglenhepogaa
open Go.ChangeShapes Go.WideShapes Go.ChangeAt Go.RowKit Go.Joins Go.Kin
set_option linter.unusedVariables false
namespace CoderNil
set_option maxRecDepth 100000 in
set_option maxHeartbeats 4000000 in
theorem walk (w : World) (a b : Int) (ha : I64 a) (hb : I64 b) : Calls Try.prog 9 #[.agg #[.int .i64 a, .int .i64 b]] w fun e w' => e = .returned (.bool true) ∧ Below w.heap.size w w' := by
  have K := (Kn.start w).new w.heap.size #[.int .i64 a, .int .i64 b] 28 rfl
  go_enter Try.func9, Try.ntmps9
  go_wp2_with (first | (go_at_call 17; refine (chance_any _ _).mono ?_; rintro e w' ⟨rfl, rfl⟩) | (go_at_call 26; refine (get_nil _ _).mono ?_; rintro e w' ⟨rfl, rfl⟩))
  replace K := Kn.drew K
  refine wp_region_allX (fun w' => Kn w' _) [0, 5, 8, 13, 27] [(0,2),(1,1),(2,1),(3,1),(4,1),(6,1),(7,1),(5,2),(8,2),(9,1),(10,1),(11,1),(12,1),(13,2),(14,1),(15,1),(16,1),(17,1),(18,1),(19,1),(20,1),(21,1),(22,1),(23,1),(24,1),(25,1),(26,1),(27,2),(28,1),(29,1),(30,0)] (by kernel_rfl) (by kernel_rfl) (fun _ _ d _ _ h => by cases d <;> exact h) (K) ?_
  generalize World.drew _ = wd at K ⊢
  refine oX_doG rfl rfl (fun KK hKK => ?_)
  go_simp
  refine (alive04 _).mono ?_
  rintro e w1 ⟨rfl, hb1⟩
  replace K := K.below hb1
  refine hKK (fun w' => Kn w' _) _ _ ?hsub K ?_
  case hsub => exact fun _ h => h
  clear hKK KK hb1
  repeat (first | (refine oX_freeG rfl rfl (fun w' hS => by have s1 := Box.cells hS.1; clear hS; go_simp; with_reducible rfl) ?_; go_simp) | (refine oX_skipG rfl rfl ?_; go_simp))
  refine oX_doG rfl rfl (fun KK hKK => ?_)
  go_simp
  refine (quietB (chance_any _ _)).mono ?_
  rintro e w2 ⟨rfl, hb2⟩
  replace K := K.below hb2
  refine hKK (fun w' => Kn w' _) _ _ ?hsub K ?_
  case hsub => exact fun _ h => h
  clear hKK KK hb2
  refine oX_doG rfl rfl (fun KK hKK => ?_)
  go_simp
  refine (quietB (put_nil _ _ _)).mono ?_
  rintro e w3 ⟨rfl, hb3⟩
  replace K := K.below hb3
  refine hKK (fun w' => Kn w' _) _ _ ?hsub K ?_
  case hsub => exact fun _ h => h
  clear hKK KK hb3
  repeat (first | (refine oX_freeG rfl rfl (fun w' hS => by skip; clear hS; go_simp; with_reducible rfl) ?_; go_simp) | (refine oX_skipG rfl rfl ?_; go_simp))
  refine oX_doG rfl rfl (fun KK hKK => ?_)
  go_simp
  refine (quietB (bytes_nil _)).mono ?_
  rintro e w4 ⟨rfl, hb4⟩
  replace K := K.below hb4
  refine hKK (fun w' => Kn w' _) _ _ ?hsub K ?_
  case hsub => exact fun _ h => h
  clear hKK KK hb4
  repeat (first | (refine oX_freeG rfl rfl (fun w' hS => by skip; clear hS; go_simp; with_reducible rfl) ?_; go_simp) | (refine oX_skipG rfl rfl ?_; go_simp))
  refine oX_doG rfl rfl (fun KK hKK => ?_)
  go_simp
  refine (quietB (end_nil _)).mono ?_
  rintro e w5 ⟨rfl, hb5⟩
  replace K := K.below hb5
  refine hKK (fun w' => Kn w' _) _ _ ?hsub K ?_
  case hsub => exact fun _ h => h
  clear hKK KK hb5
  repeat (first | (refine oX_freeG rfl rfl (fun w' hS => by skip; clear hS; go_simp; with_reducible rfl) ?_; go_simp) | (refine oX_skipG rfl rfl ?_; go_simp))
  repeat (refine oX_still rfl (fun KK hKK => ?_); go_simp; refine hKK _ ?_; clear hKK KK)
  refine oX_nil ?_
  have L : Below _ _ _ := K.2.1
  clear K
  go_wp2
  go_ret
  exact ⟨rfl, L⟩
end CoderNil
namespace CoderNil
set_option maxRecDepth 100000 in
theorem lifted (os : Os) (started : os.Started) (H : Type) (enc : TypeId × Value → H) :
    ReturnsInHanded {} Try.checked os 9 .any (Rows.coderNilSpec.pre6 enc Try.prog Try.f9 Rows.coderNilRow.domain false) (Rows.coderNilSpec.post enc Try.prog Try.f9 false true false false) := by
  refine returnsInHanded_of_change (C := Try.checked) own started (by kernel_rfl) Try.func9
    (ChangeSpec.witness6 (enc := enc) (C := Try.checked) false ⟨#[], #[.agg #[.int .i64 0, .int .i64 0]], []⟩ 8 (by kernel_rfl) (by kernel_rfl) (by kernel_rfl) (by kernel_rfl)) ?_
  intro W base args ds gs before hval0 hW hcnd _
  have hval : ∀ (j : Nat) t v, Try.f9.params[j]? = some t → args[j]? = some v → Value.okWide Try.prog W .any base t v := hval0
  refine law_post (tb := 4) laidOut (by kernel_rfl) rfl Try.underlying4 rfl (fun ds' h => ?_) hW ?_
  · rw [Try.params9] at h
    match ds', h with
    | [d1], _ => exact ⟨rfl, rfl, rfl⟩
  obtain ⟨p, q, hA0, hV, rfl, hfz, hnd⟩ := hW
  have hA : DataW.TrodAll enc Try.prog W 0 (fun _ => true) true Try.f9.params.toList args.toList ds p := hA0
  rw [Try.params9] at hA hval
  obtain ⟨v0, vs0, d0, ds0, p0, q0, hargs, rfl, rfl, h0, r0⟩ := trodAll_cons hA
  obtain ⟨rfl, rfl, rfl⟩ := trodAll_nil r0
  obtain rfl : args = #[v0] := by cases args; simp_all
  obtain ⟨a0, b0, rfl, w0, x0⟩ := open_vec Try.underlying28 (by kernel_rfl) ⟨rfl, rfl⟩ ⟨rfl, rfl⟩ Try.underlying3 (by kernel_rfl) (hval 0 28 v0 rfl rfl) h0
  exact walk W a0 b0 w0 x0
theorem over : Rows.coderNilRow.holds Try.pinned (OpenSpec.ofChange Rows.coderNilSpec) :=
  OpenClaim.holds_of_wide 9 Try.f9 rfl rfl rfl rfl rfl rfl rfl ⟨rfl, rfl, rfl, rfl, rfl⟩ rfl rfl rfl rfl rfl (by kernel_rfl) Try.func9 (by kernel_rfl)
    (of_decide_eq_true (by kernel_rfl)) (by unfold Func.isWrapper; first | (rw [if_pos (by decide +kernel)]; kernel_rfl) | (rw [if_neg (by decide +kernel)]; exact ⟨rfl, rfl⟩))
    (fun os started H enc _ => lifted os started H enc)
end CoderNil
theorem coderNil_holds : Rows.CoderNilSaid := CoderNil.over

end Go.Proofs.Ytfooglenhepogaa
