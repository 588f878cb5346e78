/- QuantNil: no book, no encoder, no decoder: ErrArg. No condition. -/
import Derived.Test.YtmnoddmecghjdaaAl8
import Derived.Test.YtmnoddmecghjdaaQu6
import Derived.Test.YtmnoddmecghjdaaNl1
import Derived.Test.YtmnoddmecghjdaaClose3
set_option linter.unusedVariables false
namespace Go.Proofs.Ytmnoddmecghjdaa
open Go.ChangeShapes Go.WideShapes Go.ChangeAt Go.RowKit Go.Joins Go.Kin
namespace QuantNil
set_option maxRecDepth 100000 in
set_option maxHeartbeats 4000000 in
theorem walk (w : World) (A : Option Addr) (n c : Nat) (g : Nat → Int) (hA : Rd w A n (in64 g)) (hg : ∀ i, I64 (g i)) (hc : n ≤ c) (hc2 : c ≤ 9223372036854775807) (t : Int) (ht : I64 t) :
    Calls Try.prog 11 #[.slice A n c, .int .i64 t] w fun e w' => e = .returned (.bool true) ∧ Below w.heap.size w w' := by
  by_cases hbig : 100 < n
  · have hb' : 100 < (n : Int) := by omega
    go_enter Try.func11, Try.ntmps11
    go_wp2_with (go_at_call 34; refine (alive08 _).mono ?_; rintro e w1 ⟨rfl, hb⟩)
    go_ret
    exact ⟨rfl, hb⟩
  have b1 : ¬ 100 < (n : Int) := by omega
  have K := Lib.hid ((Kn.start w).add (x := .rd A n (in64 g)) hA)
  clear hA hg ht
  go_enter Try.func11, Try.ntmps11
  go_wp2_with fail
  refine (qget_b none t 16 _).mono ?_
  rintro e w' ⟨rfl, hww⟩
  subst hww
  go_wp2_with fail
  refine (bnew_s _).mono ?_
  rintro e w1 ⟨b, rfl, -, hb⟩
  have K := Lib.hid (K.out.below hb)
  clear hb
  go_wp2_with fail
  refine (qget_x b t 64 _).mono ?_
  rintro e w' ⟨rfl, hww⟩
  subst hww
  go_wp2_with fail
  refine (alive08 _).mono ?_
  rintro e w2 ⟨rfl, hb⟩
  have K := Lib.hid (K.out.below hb)
  clear hb
  go_wp2_with fail
  refine (cnew_s _).mono ?_
  rintro e w3 ⟨x, rfl, -, hb⟩
  have K := Lib.hid (K.out.below hb)
  clear hb
  go_wp2_with fail
  refine (qput_bad none _ t A n c g _ K.out.1 (fun t v w => nPut_b _ t v w)).mono ?_
  rintro e w4 ⟨rfl, hb⟩
  have K := Lib.hid (K.out.below hb)
  clear hb
  go_wp2_with fail
  refine (bnew_s _).mono ?_
  rintro e w5 ⟨b2, rfl, -, hb⟩
  have K := Lib.hid (K.out.below hb)
  clear hb
  go_wp2_with fail
  refine (qput_bad _ none t A n c g _ K.out.1 (fun t v w => nPut_x b2 t v w)).mono ?_
  rintro e w6 ⟨rfl, hb⟩
  have K := Lib.hid (K.out.below hb)
  clear hb
  go_wp2
  go_ret
  exact ⟨rfl, K.out.2.1⟩
end QuantNil
namespace QuantNil
set_option maxRecDepth 100000 in
theorem lifted (os : Os) (started : os.Started) (H : Type) (enc : TypeId × Value → H) :
    ReturnsInHanded {} Try.checked os 11 .any (Rows.quantNilSpec.pre6 enc Try.prog Try.f11 Rows.quantNilRow.domain false) (Rows.quantNilSpec.post enc Try.prog Try.f11 false true false false) := by
  refine returnsInHanded_of_change (C := Try.checked) own started (by kernel_rfl) Try.func11
    (ChangeSpec.witness6 (enc := enc) (C := Try.checked) false ⟨#[], #[.slice none 0 0, .int .i64 0], []⟩ 8 (by kernel_rfl) (by kernel_rfl) (by kernel_rfl) (by kernel_rfl)) ?_
  intro W base args ds gs before hval0 hW hcnd _
  have hval : ∀ (j : Nat) t v, Try.f11.params[j]? = some t → args[j]? = some v → Value.okWide Try.prog W .any base t v := hval0
  refine law_post (tb := 4) laidOut (by kernel_rfl) rfl Try.underlying4 rfl (fun ds' h => ?_) hW ?_
  · rw [Try.params11] at h
    match ds', h with
    | [d1, d2], _ => exact ⟨rfl, rfl, rfl⟩
  obtain ⟨p, q, hA0, hV, rfl, hfz, hnd⟩ := hW
  have hA : DataW.TrodAll enc Try.prog W 0 (fun _ => true) true Try.f11.params.toList args.toList ds p := hA0
  rw [Try.params11] at hA hval
  obtain ⟨v0, vs0, d0, ds0, p0, q0, hargs, rfl, rfl, h0, r0⟩ := trodAll_cons hA
  obtain ⟨v1, vs1, d1, ds1, p1, q1, rfl, rfl, rfl, h1, r1⟩ := trodAll_cons r0
  obtain ⟨rfl, rfl, rfl⟩ := trodAll_nil r1
  obtain rfl : args = #[v0, v1] := by cases args; simp_all
  obtain ⟨A0, n0, c0, g0, rfl, rr0, t0, l0, m0⟩ := open_intsl Try.underlying57 Try.underlying3 (by kernel_rfl) (hval 0 57 v0 rfl rfl) h0
  obtain ⟨a1, rfl, rfl, rfl, w1⟩ := open_int Try.underlying3 (hval 1 3 v1 rfl rfl) h1
  exact walk W A0 n0 c0 g0 rr0 t0 l0 m0 a1 (bounds_i64 w1)
theorem over : Rows.quantNilRow.holds Try.pinned (OpenSpec.ofChange Rows.quantNilSpec) :=
  OpenClaim.holds_of_wide 11 Try.f11 rfl rfl rfl rfl rfl rfl rfl ⟨rfl, rfl, rfl, rfl, rfl⟩ rfl rfl rfl rfl rfl (by kernel_rfl) Try.func11 (by kernel_rfl)
    (of_decide_eq_true (by kernel_rfl)) (by unfold Func.isWrapper; first | (rw [if_pos (by decide +kernel)]; kernel_rfl) | (rw [if_neg (by decide +kernel)]; exact ⟨rfl, rfl⟩))
    (fun os started H enc _ => lifted os started H enc)
end QuantNil
theorem quantNil_holds : Rows.QuantNilSaid := QuantNil.over

end Go.Proofs.Ytmnoddmecghjdaa
