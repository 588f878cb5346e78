/- QuantReads: of any bytes the blocks that are got are as the document says, up to the first error, and that. No condition. -/
import Derived.Test.YtmnoddmecghjdaaAl8
import Derived.Test.YtmnoddmecghjdaaQr4
import Derived.Test.YtmnoddmecghjdaaBr6
import Derived.Test.YtmnoddmecghjdaaClose3
set_option linter.unusedVariables false
namespace Go.Proofs.Ytmnoddmecghjdaa
open Go.ChangeShapes Go.WideShapes Go.ChangeAt Go.RowKit Go.Joins Go.Kin
namespace QuantReads
set_option maxRecDepth 100000 in
set_option maxHeartbeats 8000000 in
theorem walk (w : World) (A0 : Option Addr) (n0 c0 : Nat) (g : Nat → Int) (hR0 : Rd w A0 n0 (by8 g)) (hg : Byt g) (hn0 : n0 ≤ c0) (hc0 : c0 ≤ 9223372036854775807) (t : Int) (ht : I64 t) (A : Option Addr) (n cap : Nat) (f : Nat → Int) (hR : Rd w A n (in64 f)) (hf : ∀ i, I64 (f i)) (hn : n ≤ cap) (hcap : cap ≤ 9223372036854775807) :
    Calls Try.prog 10 #[.slice A0 n0 c0, .int .i64 t, .slice A n cap] w fun e w' => e = .returned (.bool true) ∧ Below w.heap.size w w' := by
  have HR0 := Lib.hid hR0
  have HR := Lib.hid hR
  have HG := Lib.hid hg
  clear hR0 hR hf hg ht
  by_cases hbig : 400 < n0
  · have hb' : 400 < (n0 : Int) := by omega
    go_enter Try.func10, Try.ntmps10
    go_wp2_with (go_at_call 34; refine (alive08 _).mono ?_; rintro e w1 ⟨rfl, hb⟩)
    go_ret
    exact ⟨rfl, hb⟩
  have b1 : ¬ 400 < (n0 : Int) := by omega
  by_cases h4 : n0 < 4
  · have h4' : (n0 : Int) < 4 := by omega
    go_enter Try.func10, Try.ntmps10
    go_wp2_with (first | (go_at_call 24; refine (open_no _ _ _ _ h4).mono ?_; rintro e w' ⟨rfl, rfl⟩) | (go_at_call 25; refine (ropen_no _ _ _ _ h4).mono ?_; rintro e w' ⟨rfl, rfl⟩) | (go_at_call 34; refine (alive08 _).mono ?_; rintro e w1 ⟨rfl, hb⟩))
    go_ret
    exact ⟨rfl, hb⟩
  have K := (Kc.start w).add (j := 0) (x := .rd A0 n0 (by8 g)) HR0.out (.inr fun k o _ => rfl)
  go_enter Try.func10, Try.ntmps10
  go_wp2_with fail
  refine (open_s A0 n0 c0 g _ HR0.out HG.out (by omega) hn0 hc0 (by omega)).mono ?_
  rintro e w1 ⟨p, rfl, hD, hb⟩
  replace hD := hD (fun _ => 0) 3
  have hkp := Kp.newc hb (fun _ => 0) 3
  replace K := hkp.kc K (by simp [Nos])
  generalize recol _ _ _ = c1 at *
  have HS := Lib.hid (And.intro hD K)
  clear hkp hb hD K
  go_wp2_with fail
  refine (ropen_s A0 n0 c0 g _ HS.out.2.1.1 HG.out (by omega)).mono ?_
  rintro e w2 ⟨q, rfl, hE, hb⟩
  replace hE := hE c1 1
  have hkp := Kp.newc hb c1 1
  have hD := DecS.kp HS.out.1 hkp (by simp)
  have K := hkp.kc HS.out.2 (by simp [Nos])
  generalize recol _ _ _ = c2 at *
  have HS2 := Lib.hid (And.intro hD (And.intro hE K))
  clear hkp hb hD hE K HS
  go_wp2_with fail
  refine (bnew_s _).mono ?_
  rintro e w3 ⟨b, rfl, hB, hb⟩
  replace hB := hB c2 4
  have hkp := Kp.newc hb c2 4
  have hD := DecS.kp HS2.out.1 hkp (by simp)
  have hE := DecRS.kp HS2.out.2.1 hkp (by simp)
  have K := hkp.kc HS2.out.2.2 (by simp [Nos])
  generalize recol _ _ _ = c3 at *
  have HS3 := Lib.hid (And.intro (show SG w3 c3 3 p n0 g 4 b (GS0 g) from ⟨hD, hB⟩) (And.intro hE K))
  clear hkp hb hD hE hB K HS2
  go_wp2_with fail
  refine (rbnew_s _).mono ?_
  rintro e w4 ⟨m, rfl, hM, hb⟩
  replace hM := hM c3 2
  have hkp := Kp.newc hb c3 2
  have hG := SG.kp HS3.out.1 hkp (by simp) (by simp)
  have hE := DecRS.kp HS3.out.2.1 hkp (by simp)
  have K := hkp.kc HS3.out.2.2 (by simp [Nos])
  generalize recol _ _ _ = c4 at *
  have HS4 := Lib.hid (And.intro hG (And.intro (show SGR w4 c4 1 q n0 g 0 A0 c0 2 m (GS0 g) from ⟨hE, hM, K.1⟩) K.2))
  clear hkp hb hG hE hM K HS3
  go_wp2_with fail
  go_loopw [13] (fun i wr => ∃ (j : Nat) (z : GS) (col : Nat → Nat), j ≤ n ∧ j ≤ 10 ∧ i = .int .i64 j ∧ z.ok n0 ∧ SG wr col 3 p n0 g 4 b z ∧ SGR wr col 1 q n0 g 0 A0 c0 2 m z ∧ Kc wr col [(0, .since w)]) (fun i _ => (10 - intOf i).toNat)
  case atStart => exact ⟨0, GS0 g, c4, by omega, by omega, rfl, GS0_ok HG.out (by omega), HS4.out.1, HS4.out.2.1, HS4.out.2.2⟩
  case round =>
    obtain ⟨j, z, col, hjn, hj1, rfl, hok, hG, hE, K⟩ := hrel
    clear HS4
    by_cases hlt : j < n ∧ j < 10
    · have l1 : (j : Int) < n := by omega
      have l2 : (j : Int) < 10 := by omega
      have hRD := HR.out.below K.sinceB
      obtain ⟨b0, off, rfl, -, -⟩ := HR.out.some_ (by omega)
      have hjlt := hlt.1
      have x1 := Rd.at_ hRD (i := j) hjlt
      dsimp only [in64] at x1
      obtain ⟨bk1, bk2⟩ := GS.blkA_ok HG.out hok t (f j)
      have HLN := Lib.hid (GS.blkA_len g n0 z t (f j))
      have HZ2 := Lib.hid bk1
      have HQ := Lib.hid (qget_all (k := 5) t (f j) hG HG.out (by omega) (by omega) hok)
      have HQ2 := Lib.hid (fun (wv : World) (cv : Nat → Nat) (hE : SGR wv cv 1 q n0 g 0 A0 c0 2 m z) => rqget_all (k := 6) t (f j) hE HG.out (by omega) (by omega) (by omega) (by omega) (by omega) (by omega) hok)
      have HS := Lib.hid (And.intro hE K)
      clear hG hE K hRD hlt hok bk1
      generalize z.blkA g n0 t (f j) = r at *
      obtain ⟨re, rh, rx⟩ := r
      dsimp only at *
      go_wp2_with fail
      refine HQ.out.mono ?_
      rintro e w6 ⟨c6, B1, cb1, n1, rfl, hn1, hcb1, hcm1, hI1, hG, hkp⟩
      dsimp only at hn1 hI1 hG ⊢
      have HN1 := Lib.hid hn1
      have hn64 : n1 ≤ 64 := by rw [hn1]; exact HLN.out
      clear hn1
      have hE := SGR.kp HS.out.1 hkp (by simp) (by simp) (by simp)
      have K := (hkp.kc HS.out.2 (by simp [Nos])).add hI1.1 hI1.2
      clear hkp HS x1 hI1 HQ
      have hRD := HR.out.below K.2.sinceB
      have x1 := Rd.at_ hRD (i := j) hjlt
      dsimp only [in64] at x1
      have HS := Lib.hid (And.intro hG (And.intro hE K))
      have hP := HQ2.out _ _ HS.out.2.1
      clear hG hE K hRD
      go_wp2_with fail
      refine hP.mono ?_
      rintro e w7 ⟨c7, B2, cb2, n2, rfl, hn2, hcb2, hcm2, hI2, hE, hkp⟩
      dsimp only at hn2 hI2 hE ⊢
      have hG := SG.kp HS.out.1 hkp (by simp) (by simp)
      have K := (hkp.kc HS.out.2.2 (by simp [Nos])).add hI2.1 hI2.2
      have hn12 : n2 = n1 := hn2.trans HN1.out.symm
      clear hn2
      subst hn12
      have HS7 := Lib.hid (And.intro hG (And.intro hE K))
      clear hkp HS x1 hI2 hP HQ2 hG hE K HN1 HLN
      have e1 : (re != re) = false := by simp
      go_wp2_with fail
      refine (same7_yes B1 B2 n2 cb1 cb2 _ _ _ HS7.out.2.2.2.1.1 HS7.out.2.2.1.1 (fun _ _ => rfl) (by omega)).mono ?_
      rintro e w8 ⟨rfl, hb⟩
      have hkp := Kp.below hb [] c7
      have HS := Lib.hid (And.intro (SG.kp HS7.out.1 hkp (by simp) (by simp)) (And.intro (SGR.kp HS7.out.2.1 hkp (by simp) (by simp) (by simp)) (hkp.kc HS7.out.2.2.2.2 (by simp))))
      clear hkp hb HS7
      rcases bk2 with rfl | rfl | rfl | rfl
      · go_wp2
        go_roundw
        case rel => exact ⟨j + 1, rx, c7, by omega, by omega, by go_num, HZ2.out, HS.out⟩
        case measure => simp [intOf]; omega
      all_goals
        go_wp2_with (go_at_call 34; refine (alive08 _).mono ?_; rintro e w9 ⟨rfl, hb⟩)
        go_ret
        exact ⟨rfl, Kin.Below.step HS.out.2.2.sinceB hb HS.out.2.2.sinceB.size⟩
    · have HS := Lib.hid K.sinceB
      have hex : (¬ (j : Int) < n) ∨ ((j : Int) < n ∧ ¬ (j : Int) < 10) := by omega
      clear hlt hG hE K hok
      rcases hex with l1 | ⟨l1, l2⟩
      all_goals
        go_wp2_with (go_at_call 34; refine (alive08 _).mono ?_; rintro e w9 ⟨rfl, hb⟩)
        go_ret
        exact ⟨rfl, Kin.Below.step HS.out hb HS.out.size⟩
end QuantReads
namespace QuantReads
set_option maxRecDepth 100000 in
theorem lifted (os : Os) (started : os.Started) (H : Type) (enc : TypeId × Value → H) :
    ReturnsInHanded {} Try.checked os 10 .any (Rows.quantReadsSpec.pre6 enc Try.prog Try.f10 Rows.quantReadsRow.domain false) (Rows.quantReadsSpec.post enc Try.prog Try.f10 false true false false) := by
  refine returnsInHanded_of_change (C := Try.checked) own started (by kernel_rfl) Try.func10
    (ChangeSpec.witness6 (enc := enc) (C := Try.checked) false ⟨#[], #[.slice none 0 0, .int .i64 0, .slice none 0 0], []⟩ 8 (by kernel_rfl) (by kernel_rfl) (by kernel_rfl) (by kernel_rfl)) ?_
  intro W base args ds gs before hval0 hW hcnd _
  have hval : ∀ (j : Nat) t v, Try.f10.params[j]? = some t → args[j]? = some v → Value.okWide Try.prog W .any base t v := hval0
  refine law_post (tb := 4) laidOut (by kernel_rfl) rfl Try.underlying4 rfl (fun ds' h => ?_) hW ?_
  · rw [Try.params10] at h
    match ds', h with
    | [d1, d2, d3], _ => exact ⟨rfl, rfl, rfl⟩
  obtain ⟨p, q, hA0, hV, rfl, hfz, hnd⟩ := hW
  have hA : DataW.TrodAll enc Try.prog W 0 (fun _ => true) true Try.f10.params.toList args.toList ds p := hA0
  rw [Try.params10] at hA hval
  obtain ⟨v0, vs0, d0, ds0, p0, q0, hargs, rfl, rfl, h0, r0⟩ := trodAll_cons hA
  obtain ⟨v1, vs1, d1, ds1, p1, q1, rfl, rfl, rfl, h1, r1⟩ := trodAll_cons r0
  obtain ⟨v2, vs2, d2, ds2, p2, q2, rfl, rfl, rfl, h2, r2⟩ := trodAll_cons r1
  obtain ⟨rfl, rfl, rfl⟩ := trodAll_nil r2
  obtain rfl : args = #[v0, v1, v2] := by cases args; simp_all
  obtain ⟨A0, n0, c0, g0, rfl, rr0, t0, l0, m0⟩ := open_bytes Try.underlying37 Try.underlying5 (by kernel_rfl) (hval 0 37 v0 rfl rfl) h0
  obtain ⟨a1, rfl, rfl, rfl, w1⟩ := open_int Try.underlying3 (hval 1 3 v1 rfl rfl) h1
  obtain ⟨A2, n2, c2, g2, rfl, rr2, t2, l2, m2⟩ := open_intsl Try.underlying57 Try.underlying3 (by kernel_rfl) (hval 2 57 v2 rfl rfl) h2
  exact walk W A0 n0 c0 g0 rr0 t0 l0 m0 a1 (bounds_i64 w1) A2 n2 c2 g2 rr2 t2 l2 m2
theorem over : Rows.quantReadsRow.holds Try.pinned (OpenSpec.ofChange Rows.quantReadsSpec) :=
  OpenClaim.holds_of_wide 10 Try.f10 rfl rfl rfl rfl rfl rfl rfl ⟨rfl, rfl, rfl, rfl, rfl⟩ rfl rfl rfl rfl rfl (by kernel_rfl) Try.func10 (by kernel_rfl)
    (of_decide_eq_true (by kernel_rfl)) (by unfold Func.isWrapper; first | (rw [if_pos (by decide +kernel)]; kernel_rfl) | (rw [if_neg (by decide +kernel)]; exact ⟨rfl, rfl⟩))
    (fun os started H enc _ => lifted os started H enc)
end QuantReads
theorem quantReads_holds : Rows.QuantReadsSaid := QuantReads.over

end Go.Proofs.Ytmnoddmecghjdaa
