/- QuantBlocks: any block's levels, and what any levels stand for, are as the document says, or the error. No condition. -/
import Derived.Test.YtmnoddmecghjdaaAl8
import Derived.Test.YtmnoddmecghjdaaQr1
import Derived.Test.YtmnoddmecghjdaaClose3
set_option linter.unusedVariables false
namespace Go.Kin
open Go.RowKit
theorem rem_bound {n : Nat} (hs : sideN n ≠ 0) {q i : Nat} (hq : q ≤ 31) (hi : i < n) : 1 ≤ stp q (i % sideN n) (i / sideN n) ∧ stp q (i % sideN n) (i / sideN n) ≤ 1008 := by
  have hsN : 1 ≤ sideN n ∧ sideN n ≤ 8 ∧ sideN n * sideN n = n := by rcases sideN_yes hs with h | h <;> rw [h] <;> decide
  obtain ⟨a1, a2, a3⟩ := hsN
  have h1 : i % sideN n < sideN n := Nat.mod_lt i (by omega)
  have h2 : i / sideN n < sideN n := Nat.div_lt_of_lt_mul (by rw [a3]; exact hi)
  exact stp_bd hq (by omega) (by omega)
/-- A level is never greater than its number: the second test of the levels is passed. -/
theorem chkB_lev {n : Nat} {g : Nat → Int} {q : Int} : chkB n g q levI = blkB n g q := by
  unfold chkB
  cases hb : blkB n g q
  · rfl
  · rw [Bool.true_and]
    refine decide_eq_true fun i hi => ?_
    unfold blkB at hb
    rw [Bool.and_eq_true, Bool.and_eq_true] at hb
    have hw := wiB_iff.1 hb.1.2 i hi
    exact levI_bd hw (by omega)
end Go.Kin
namespace Go.Proofs.Ytmnoddmecghjdaa
open Go.ChangeShapes Go.WideShapes Go.ChangeAt Go.RowKit Go.Joins Go.Kin
namespace QuantBlocks
set_option maxRecDepth 100000 in
set_option maxHeartbeats 4000000 in
theorem walk (w : World) (A : Option Addr) (n c : Nat) (g : Nat → Int) (hA : Rd w A n (in64 g)) (hg : ∀ i, I64 (g i)) (hc : n ≤ c) (hc2 : c ≤ 9223372036854775807) (q : Int) (hq : I64 q) :
    Calls Try.prog 14 #[.slice A n c, .int .i64 q] w fun e w' => e = .returned (.bool true) ∧ Below w.heap.size w w' := by
  by_cases hbig : 100 < n
  · have hb' : 100 < (n : Int) := by omega
    go_enter Try.func14, Try.ntmps14
    go_wp2_with (go_at_call 34; refine (alive08 _).mono ?_; rintro e w1 ⟨rfl, hb⟩)
    go_ret
    exact ⟨rfl, hb⟩
  have b1 : ¬ 100 < (n : Int) := by omega
  have HC1 := Lib.hid (fun w hR => qcoarse_any A n c q g w hR)
  have HC2 := Lib.hid (fun w hR => rcoarse_any A n c q g w hR)
  have HF1 := Lib.hid (fun w hR => qfine_any A n c q g w hR)
  have HF2 := Lib.hid (fun w hR => rfine_any A n c q g w hR)
  simp only [chkB_lev] at HC1
  unfold GivesO at HC1 HC2 HF1 HF2
  generalize hn1 : (if blkB n g q = true then n else 0) = n1 at *
  generalize hn2 : (if (chkB n g q fun v s => v * s) = true then n else 0) = n2 at *
  have hn1' : n1 ≤ 10000 := by rw [← hn1]; split <;> omega
  have hn2' : n2 ≤ 10000 := by rw [← hn2]; split <;> omega
  clear hn1 hn2
  generalize (if blkB n g q = true then (0 : Int) else 1) = k1 at *
  generalize (if (chkB n g q fun v s => v * s) = true then (0 : Int) else 1) = k2 at *
  generalize dov n q.toNat g levI = d1 at *
  generalize (dov n q.toNat g fun v s => v * s) = d2 at *
  have K := Lib.hid ((Kn.start w).add (x := .rd A n (in64 g)) hA)
  clear hA
  go_enter Try.func14, Try.ntmps14
  go_wp2_with fail
  refine (HC1.out _ K.out.1).mono ?_
  rintro e w1 ⟨B1, c1, rfl, hR1, -, -, -, hb⟩
  have K := Lib.hid ((K.out.below hb).add (x := .rd B1 n1 (in64 d1)) hR1)
  clear hR1 hb
  go_wp2_with fail
  refine (HC2.out _ K.out.2.1).mono ?_
  rintro e w2 ⟨B2, c2, rfl, hR2, -, -, -, hb⟩
  have K := Lib.hid ((K.out.below hb).add (x := .rd B2 n1 (in64 d1)) hR2)
  clear hR2 hb
  go_wp2_with fail
  refine (HF1.out _ K.out.2.2.1).mono ?_
  rintro e w3 ⟨B3, c3, rfl, hR3, -, -, -, hb⟩
  have K := Lib.hid ((K.out.below hb).add (x := .rd B3 n2 (in64 d2)) hR3)
  clear hR3 hb
  go_wp2_with fail
  refine (HF2.out _ K.out.2.2.2.1).mono ?_
  rintro e w4 ⟨B4, c4, rfl, hR4, -, -, -, hb⟩
  have K := Lib.hid ((K.out.below hb).add (x := .rd B4 n2 (in64 d2)) hR4)
  clear hR4 hb
  go_wp2_with fail
  refine (alive08 _).mono ?_
  rintro e w5 ⟨rfl, hb⟩
  have K := Lib.hid (K.out.below hb)
  clear hb
  go_wp2_with fail
  refine (same7_yes B1 B2 n1 c1 c2 d1 d1 _ K.out.2.2.2.1 K.out.2.2.1 (fun _ _ => rfl) hn1').mono ?_
  rintro e w6 ⟨rfl, hb⟩
  have K := Lib.hid (K.out.below hb)
  clear hb
  go_wp2_with fail
  refine (same7_yes B3 B4 n2 c3 c4 d2 d2 _ K.out.2.1 K.out.1 (fun _ _ => rfl) hn2').mono ?_
  rintro e w7 ⟨rfl, hb⟩
  have K := Lib.hid (K.out.below hb)
  clear hb
  go_wp2
  go_ret
  exact ⟨rfl, K.out.2.2.2.2.2.1⟩
end QuantBlocks
namespace QuantBlocks
set_option maxRecDepth 100000 in
theorem lifted (os : Os) (started : os.Started) (H : Type) (enc : TypeId × Value → H) :
    ReturnsInHanded {} Try.checked os 14 .any (Rows.quantBlocksSpec.pre6 enc Try.prog Try.f14 Rows.quantBlocksRow.domain false) (Rows.quantBlocksSpec.post enc Try.prog Try.f14 false true false false) := by
  refine returnsInHanded_of_change (C := Try.checked) own started (by kernel_rfl) Try.func14
    (ChangeSpec.witness6 (enc := enc) (C := Try.checked) false ⟨#[], #[.slice none 0 0, .int .i64 0], []⟩ 8 (by kernel_rfl) (by kernel_rfl) (by kernel_rfl) (by kernel_rfl)) ?_
  intro W base args ds gs before hval0 hW hcnd _
  have hval : ∀ (j : Nat) t v, Try.f14.params[j]? = some t → args[j]? = some v → Value.okWide Try.prog W .any base t v := hval0
  refine law_post (tb := 4) laidOut (by kernel_rfl) rfl Try.underlying4 rfl (fun ds' h => ?_) hW ?_
  · rw [Try.params14] at h
    match ds', h with
    | [d1, d2], _ => exact ⟨rfl, rfl, rfl⟩
  obtain ⟨p, q, hA0, hV, rfl, hfz, hnd⟩ := hW
  have hA : DataW.TrodAll enc Try.prog W 0 (fun _ => true) true Try.f14.params.toList args.toList ds p := hA0
  rw [Try.params14] at hA hval
  obtain ⟨v0, vs0, d0, ds0, p0, q0, hargs, rfl, rfl, h0, r0⟩ := trodAll_cons hA
  obtain ⟨v1, vs1, d1, ds1, p1, q1, rfl, rfl, rfl, h1, r1⟩ := trodAll_cons r0
  obtain ⟨rfl, rfl, rfl⟩ := trodAll_nil r1
  obtain rfl : args = #[v0, v1] := by cases args; simp_all
  obtain ⟨A0, n0, c0, g0, rfl, rr0, t0, l0, m0⟩ := open_intsl Try.underlying57 Try.underlying3 (by kernel_rfl) (hval 0 57 v0 rfl rfl) h0
  obtain ⟨a1, rfl, rfl, rfl, w1⟩ := open_int Try.underlying3 (hval 1 3 v1 rfl rfl) h1
  exact walk W A0 n0 c0 g0 rr0 t0 l0 m0 a1 (bounds_i64 w1)
theorem over : Rows.quantBlocksRow.holds Try.pinned (OpenSpec.ofChange Rows.quantBlocksSpec) :=
  OpenClaim.holds_of_wide 14 Try.f14 rfl rfl rfl rfl rfl rfl rfl ⟨rfl, rfl, rfl, rfl, rfl⟩ rfl rfl rfl rfl rfl (by kernel_rfl) Try.func14 (by kernel_rfl)
    (of_decide_eq_true (by kernel_rfl)) (by unfold Func.isWrapper; first | (rw [if_pos (by decide +kernel)]; kernel_rfl) | (rw [if_neg (by decide +kernel)]; exact ⟨rfl, rfl⟩))
    (fun os started H enc _ => lifted os started H enc)
end QuantBlocks
theorem quantBlocks_holds : Rows.QuantBlocksSaid := QuantBlocks.over

end Go.Proofs.Ytmnoddmecghjdaa
