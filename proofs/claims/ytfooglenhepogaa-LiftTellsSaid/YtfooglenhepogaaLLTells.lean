/- LiftTells: any block's transform, and what is taken back, is as the document says, or the error; what is handed in stays. No condition. -/
import Derived.Test.YtfooglenhepogaaAl7
import Derived.Test.YtfooglenhepogaaClose
namespace Go.Proofs.Ytfooglenhepogaa
open Go.ChangeShapes Go.WideShapes Go.ChangeAt Go.RowKit Go.Joins Go.Kin
set_option linter.unusedVariables false
namespace LiftTells
theorem walk_no (w : World) (A : Option Addr) (n c : Nat) (h : 100 < (n : Int)) :
    Calls Try.prog 10 #[.slice A n c] w fun e w' => e = .returned (.bool true) ∧ Below w.heap.size w w' := by
  have K := Kn.start w
  go_enter Try.func10, Try.ntmps10
  go_wp2_with fail
  refine (alive07 _).mono ?_
  rintro e w1 ⟨rfl, hb1⟩
  replace K := K.below hb1
  clear hb1
  replace L : Below _ _ _ := K.1
  go_wp2
  go_ret
  exact ⟨rfl, L⟩
set_option maxRecDepth 100000 in
set_option maxHeartbeats 4000000 in
theorem walk_yes (w : World) (A : Option Addr) (n c : Nat) (g : Nat → Int) (hA : Rd w A n (in64 g)) (hc : n ≤ c) (hc2 : c ≤ 9223372036854775807) (h : ¬ 100 < (n : Int)) :
    Calls Try.prog 10 #[.slice A n c] w fun e w' => e = .returned (.bool true) ∧ Below w.heap.size w w' := by
  obtain ⟨i0, hi0, hz0, hz1, hz2⟩ := parts_i64
  have HI := Lib.hid hi0
  clear hi0
  have hn100 : n ≤ 10000 := by omega
  have HA := Lib.hid hA
  clear hA
  have hON : ∀ b, okN b n ≤ 10000 := fun b => by unfold okN; split <;> omega
  generalize hb1 : okB 1048576 n g = b1
  generalize hb2 : okB 67108864 n g = b2
  have h1 := fun w1 (hw : Rd w1 A n (in64 g)) => lforward_any A n c g w1 hw
  have h2 := fun w1 (hw : Rd w1 A n (in64 g)) => rforward_any A n c g w1 hw hn100 hc hc2
  have h3 := fun w1 (hw : Rd w1 A n (in64 g)) => lback_any A n c g w1 hw
  have h4 := fun w1 (hw : Rd w1 A n (in64 g)) => rback_any A n c g w1 hw hn100 hc hc2
  rw [hb1] at h1 h2
  rw [hb2] at h3 h4
  have HON1 := Lib.hid (hON b1)
  have HON2 := Lib.hid (hON b2)
  clear hb1 hb2 hON
  have H1 := Lib.hid h1
  have H2 := Lib.hid h2
  have H3 := Lib.hid h3
  have H4 := Lib.hid h4
  clear h1 h2 h3 h4
  generalize okN b1 n = n1 at *
  generalize okN b2 n = n2 at *
  generalize okK b1 = k1 at *
  generalize okK b2 = k2 at *
  have e1 : (k1 == k1) = true := by simp
  have e2 : (k2 == k2) = true := by simp
  have K := (Kn.start w).add (x := .rd A n (in64 g)) HA.out
  have hA2 := HA.out
  have hNo := fun h => hA2.nil_ h
  go_enter Try.func10, Try.ntmps10
  go_wp2_with (at_builtin; refine wpList_appE rfl (.tmp 16) (.tmp 17) rfl Try.underlying55 HI.out hz0 hz1 hz2 rfl rfl rfl hA2 (fun _ => rfl) ?_ ?_ ?_; rotate_right; intro A5 c5 w5 hO5 hb5)
  rotate_left
  · unfold maxLen; omega
  · omega
  replace K := (K.below hb5).add (x := .rd A5 n (in64 g)) hO5.rd
  clear hb5 hO5 hA2 hNo
  refine (H1.out _ K.2.1).mono ?_
  rintro e w1 ⟨A1, c1, rfl, hR1, _, _, _, hb⟩
  replace K := (K.below hb).add (x := .rd A1 n1 (in64 (fwV n g))) hR1
  clear hb hR1
  go_wp2_with fail
  refine (H2.out _ K.2.2.1).mono ?_
  rintro e w2 ⟨A2, c2, rfl, hR2, _, _, _, hb⟩
  replace K := (K.below hb).add (x := .rd A2 n1 (in64 (fwV n g))) hR2
  clear hb hR2
  go_wp2_with fail
  refine (H3.out _ K.2.2.2.1).mono ?_
  rintro e w3 ⟨A3, c3, rfl, hR3, _, _, _, hb⟩
  replace K := (K.below hb).add (x := .rd A3 n2 (in64 (bkV n g))) hR3
  clear hb hR3
  go_wp2_with fail
  refine (H4.out _ K.2.2.2.2.1).mono ?_
  rintro e w4 ⟨A4, c4, rfl, hR4, _, _, _, hb⟩
  replace K := (K.below hb).add (x := .rd A4 n2 (in64 (bkV n g))) hR4
  clear hb hR4
  go_wp2_with fail
  refine (alive07 _).mono ?_
  rintro e w6 ⟨rfl, hb6⟩
  replace K := K.below hb6
  clear hb6
  go_wp2_with fail
  refine (same7_yes A1 A2 n1 c1 c2 _ _ _ K.2.2.2.1 K.2.2.1 (fun _ _ => rfl) HON1.out).mono ?_
  rintro e w7 ⟨rfl, hb7⟩
  replace K := K.below hb7
  clear hb7
  go_wp2_with fail
  refine (same7_yes A3 A4 n2 c3 c4 _ _ _ K.2.1 K.1 (fun _ _ => rfl) HON2.out).mono ?_
  rintro e w8 ⟨rfl, hb8⟩
  replace K := K.below hb8
  clear hb8
  go_wp2_with fail
  refine (same7_yes A A5 n c c5 _ _ _ K.2.2.2.2.2.1 K.2.2.2.2.1 (fun _ _ => rfl) hn100).mono ?_
  rintro e w9 ⟨rfl, hb9⟩
  replace K := K.below hb9
  clear hb9
  have L : Below _ _ _ := K.2.2.2.2.2.2.1
  clear K
  go_wp2
  go_ret
  exact ⟨rfl, L⟩
theorem walk (w : World) (A : Option Addr) (n c : Nat) (g : Nat → Int) (hA : Rd w A n (in64 g)) (hg : ∀ i, I64 (g i)) (hc : n ≤ c) (hc2 : c ≤ 9223372036854775807) :
    Calls Try.prog 10 #[.slice A n c] w fun e w' => e = .returned (.bool true) ∧ Below w.heap.size w w' := by
  by_cases h : 100 < (n : Int)
  · exact walk_no w A n c h
  · exact walk_yes w A n c g hA hc hc2 h
end LiftTells
namespace LiftTells
set_option maxRecDepth 100000 in
theorem lifted (os : Os) (started : os.Started) (H : Type) (enc : TypeId × Value → H) :
    ReturnsInHanded {} Try.checked os 10 .any (Rows.liftTellsSpec.pre6 enc Try.prog Try.f10 Rows.liftTellsRow.domain false) (Rows.liftTellsSpec.post enc Try.prog Try.f10 false true false false) := by
  refine returnsInHanded_of_change (C := Try.checked) own started (by kernel_rfl) Try.func10
    (ChangeSpec.witness6 (enc := enc) (C := Try.checked) false ⟨#[], #[.slice none 0 0], []⟩ 8 (by kernel_rfl) (by kernel_rfl) (by kernel_rfl) (by kernel_rfl)) ?_
  intro W base args ds gs before hval0 hW hcnd _
  have hval : ∀ (j : Nat) t v, Try.f10.params[j]? = some t → args[j]? = some v → Value.okWide Try.prog W .any base t v := hval0
  refine law_post (tb := 4) laidOut (by kernel_rfl) rfl Try.underlying4 rfl (fun ds' h => ?_) hW ?_
  · rw [Try.params10] at h
    match ds', h with
    | [d1], _ => exact ⟨rfl, rfl, rfl⟩
  obtain ⟨p, q, hA0, hV, rfl, hfz, hnd⟩ := hW
  have hA : DataW.TrodAll enc Try.prog W 0 (fun _ => true) true Try.f10.params.toList args.toList ds p := hA0
  rw [Try.params10] at hA hval
  obtain ⟨v0, vs0, d0, ds0, p0, q0, hargs, rfl, rfl, h0, r0⟩ := trodAll_cons hA
  obtain ⟨rfl, rfl, rfl⟩ := trodAll_nil r0
  obtain rfl : args = #[v0] := by cases args; simp_all
  obtain ⟨A0, n0, c0, g0, rfl, rr0, t0, l0, m0⟩ := open_intsl Try.underlying55 Try.underlying3 (by kernel_rfl) (hval 0 55 v0 rfl rfl) h0
  exact walk W A0 n0 c0 g0 rr0 t0 l0 m0
theorem over : Rows.liftTellsRow.holds Try.pinned (OpenSpec.ofChange Rows.liftTellsSpec) :=
  OpenClaim.holds_of_wide 10 Try.f10 rfl rfl rfl rfl rfl rfl rfl ⟨rfl, rfl, rfl, rfl, rfl⟩ rfl rfl rfl rfl rfl (by kernel_rfl) Try.func10 (by kernel_rfl)
    (of_decide_eq_true (by kernel_rfl)) (by unfold Func.isWrapper; first | (rw [if_pos (by decide +kernel)]; kernel_rfl) | (rw [if_neg (by decide +kernel)]; exact ⟨rfl, rfl⟩))
    (fun os started H enc _ => lifted os started H enc)
end LiftTells
theorem liftTells_holds : Rows.LiftTellsSaid := LiftTells.over

end Go.Proofs.Ytfooglenhepogaa
