/- BookReads: of any bytes the numbers that are got are as the document says, up to the first error, and that. No condition. -/
import Derived.Test.YtmnoddmecghjdaaAl5
import Derived.Test.YtmnoddmecghjdaaAc2
import Derived.Test.YtmnoddmecghjdaaBr6
import Derived.Test.YtmnoddmecghjdaaClose4
set_option linter.unusedVariables false
namespace Go.Proofs.Ytmnoddmecghjdaa
open Go.ChangeShapes Go.WideShapes Go.ChangeAt Go.RowKit Go.Joins Go.Kin
namespace BookReads
theorem actG_err {g : Nat → Int} {m : Nat} {z : GS} (hg : Byt g) (h : z.ok m) (k t n : Int) : (actG g m z k t n).e = 0 ∨ (actG g m z k t n).e = 1 ∨ (actG g m z k t n).e = 41 ∨ (actG g m z k t n).e = 51 := by
  unfold actG
  split
  · have hnum := fun b => (GS.num_ok hg h b).2.2.2
    split
    · rcases hnum (37 * t.toNat) with h | ⟨_, h⟩ | ⟨_, h⟩ <;> simp [h]
    · split
      · unfold GS.sgn
        split
        · unfold nrSgn
          split
          · exact .inl rfl
          · have := GS.get1_err g m (GS.num_ok hg h (37 * t.toNat)).1.1 (some (37 * t.toNat + 36))
            dsimp only
            omega
        · rcases hnum (37 * t.toNat) with h | ⟨_, h⟩ | ⟨_, h⟩ <;> simp [h]
      · have hl := (GS.low_ok hg h (37 * t.toNat) (Lib.bitLen (n.toNat - 1))).2.2
        unfold GS.one nrOne
        split
        · split <;> simp
        · dsimp only; omega
  · simp
set_option maxRecDepth 100000 in
set_option maxHeartbeats 8000000 in
theorem walk (w : World) (A0 : Option Addr) (n0 c0 : Nat) (g : Nat → Int) (hR0 : Rd w A0 n0 (by8 g)) (hg : Byt g) (hn0 : n0 ≤ c0) (hc0 : c0 ≤ 9223372036854775807) (A : Option Addr) (n cap : Nat) (f : Nat → Nat → Int) (hR : Rd w A (n * 4) (recs 4 f)) (hf : ∀ i r, I64 (f i r)) (hn : n ≤ cap) (hcap : cap ≤ 9223372036854775807) :
    Calls Try.prog 4 #[.slice A0 n0 c0, .slice A n cap] w fun e w' => e = .returned (.bool true) ∧ Below w.heap.size w w' := by
  have HR0 := Lib.hid hR0
  have HR := Lib.hid hR
  have HG := Lib.hid hg
  clear hR0 hR hf hg
  by_cases hbig : 300 < n0
  · have hb' : 300 < (n0 : Int) := by omega
    go_enter Try.func4, Try.ntmps4
    go_wp2_with (go_at_call 21; refine (alive05 _).mono ?_; rintro e w1 ⟨rfl, hb⟩)
    go_ret
    exact ⟨rfl, hb⟩
  have b1 : ¬ 300 < (n0 : Int) := by omega
  by_cases h4 : n0 < 4
  · have h4' : (n0 : Int) < 4 := by omega
    go_enter Try.func4, Try.ntmps4
    go_wp2_with (first | (go_at_call 24; refine (open_no _ _ _ _ h4).mono ?_; rintro e w' ⟨rfl, rfl⟩) | (go_at_call 25; refine (ropen_no _ _ _ _ h4).mono ?_; rintro e w' ⟨rfl, rfl⟩) | (go_at_call 21; refine (alive05 _).mono ?_; rintro e w1 ⟨rfl, hb⟩))
    go_ret
    exact ⟨rfl, hb⟩
  have K := (Kc.start w).add (j := 0) (x := .rd A0 n0 (by8 g)) HR0.out (.inr fun k o _ => rfl)
  go_enter Try.func4, Try.ntmps4
  go_wp2_with fail
  refine (open_s A0 n0 c0 g _ HR0.out HG.out (by omega) hn0 hc0 (by omega)).mono ?_
  rintro e w1 ⟨p, rfl, hD, hb⟩
  replace hD := hD (fun _ => 0) 3
  have hkp := Kp.newc hb (fun _ => 0) 3
  replace K := hkp.kc K (by simp [Nos])
  generalize recol _ _ _ = c1 at *
  have HS := Lib.hid (And.intro hD K)
  clear hkp hb hD K
  go_wp2_with fail
  refine (ropen_s A0 n0 c0 g _ HS.out.2.1.1 HG.out (by omega)).mono ?_
  rintro e w2 ⟨q, rfl, hE, hb⟩
  replace hE := hE c1 1
  have hkp := Kp.newc hb c1 1
  have hD := DecS.kp HS.out.1 hkp (by simp)
  have K := hkp.kc HS.out.2 (by simp [Nos])
  generalize recol _ _ _ = c2 at *
  have HS2 := Lib.hid (And.intro hD (And.intro hE K))
  clear hkp hb hD hE K HS
  go_wp2_with fail
  refine (bnew_s _).mono ?_
  rintro e w3 ⟨b, rfl, hB, hb⟩
  replace hB := hB c2 4
  have hkp := Kp.newc hb c2 4
  have hD := DecS.kp HS2.out.1 hkp (by simp)
  have hE := DecRS.kp HS2.out.2.1 hkp (by simp)
  have K := hkp.kc HS2.out.2.2 (by simp [Nos])
  generalize recol _ _ _ = c3 at *
  have HS3 := Lib.hid (And.intro (show SG w3 c3 3 p n0 g 4 b (GS0 g) from ⟨hD, hB⟩) (And.intro hE K))
  clear hkp hb hD hE hB K HS2
  go_wp2_with fail
  refine (rbnew_s _).mono ?_
  rintro e w4 ⟨m, rfl, hM, hb⟩
  replace hM := hM c3 2
  have hkp := Kp.newc hb c3 2
  have hG := SG.kp HS3.out.1 hkp (by simp) (by simp)
  have hE := DecRS.kp HS3.out.2.1 hkp (by simp)
  have K := hkp.kc HS3.out.2.2 (by simp [Nos])
  generalize recol _ _ _ = c4 at *
  have HS4 := Lib.hid (And.intro hG (And.intro (show SGR w4 c4 1 q n0 g 0 A0 c0 2 m (GS0 g) from ⟨hE, hM, K.1⟩) K.2))
  clear hkp hb hG hE hM K HS3
  go_wp2_with fail
  go_loopw [11] (fun i wr => ∃ (j : Nat) (z : GS) (col : Nat → Nat), j ≤ n ∧ j ≤ 100 ∧ i = .int .i64 j ∧ z.ok n0 ∧ SG wr col 3 p n0 g 4 b z ∧ SGR wr col 1 q n0 g 0 A0 c0 2 m z ∧ Kc wr col [(0, .since w)]) (fun i _ => (100 - intOf i).toNat)
  case atStart => exact ⟨0, GS0 g, c4, by omega, by omega, rfl, GS0_ok HG.out (by omega), HS4.out.1, HS4.out.2.1, HS4.out.2.2⟩
  case round =>
    obtain ⟨j, z, col, hjn, hj1, rfl, hok, hG, hE, K⟩ := hrel
    have HZ := Lib.hid hok
    have HZ2 := Lib.hid (actG_ok (k := f j 0) (t := f j 1) (n := f j 2) HG.out hok)
    have herr := actG_err HG.out hok (f j 0) (f j 1) (f j 2)
    clear HS4 hok
    by_cases hlt : j < n ∧ j < 100
    · have l1 : (j : Int) < n := by omega
      have l2 : (j : Int) < 100 := by omega
      have hRD := HR.out.below K.sinceB
      obtain ⟨b0, off, rfl, -, -⟩ := HR.out.some_ (by omega)
      have hjlt := hlt.1
      have x1 := recs_cell hRD (i := j) (r := 0) hjlt (by omega)
      rw [Nat.add_zero] at x1
      have x2 := recs_cell hRD (i := j) (r := 1) hjlt (by omega)
      have x3 := recs_cell hRD (i := j) (r := 2) hjlt (by omega)
      have x4 := recs_cell hRD (i := j) (r := 3) hjlt (by omega)
      have HS := Lib.hid (And.intro hG (And.intro hE K))
      clear hG hE K hRD hlt
      go_wp2_with fail
      refine (actGet_any (f j 0) (f j 1) (f j 2) (f j 3) HS.out.1 HG.out (by omega) HZ.out).mono ?_
      rintro e w6 ⟨c6, rfl, hG, hkp⟩
      have hE := SGR.kp HS.out.2.1 hkp (by simp) (by simp) (by simp)
      have K := hkp.kc HS.out.2.2 (by simp [Nos])
      clear x1 x2 x3 x4 hkp HS
      have hRD := HR.out.below K.sinceB
      have x1 := recs_cell hRD (i := j) (r := 0) hjlt (by omega)
      rw [Nat.add_zero] at x1
      have x2 := recs_cell hRD (i := j) (r := 1) hjlt (by omega)
      have x3 := recs_cell hRD (i := j) (r := 2) hjlt (by omega)
      have x4 := recs_cell hRD (i := j) (r := 3) hjlt (by omega)
      have HS := Lib.hid (And.intro hG (And.intro hE K))
      have HAR := Lib.hid (actGetR_any (f j 0) (f j 1) (f j 2) (f j 3) HS.out.2.1 HG.out (by omega) (by omega) (by omega) (by omega) HZ.out)
      clear hG hE K hRD
      generalize actG g n0 z (f j 0) (f j 1) (f j 2) = r at *
      obtain ⟨v, e, z2⟩ := r
      dsimp only at *
      go_wp2_with fail
      refine HAR.out.mono ?_
      rintro e' w7 ⟨c7, rfl, hE, hkp⟩
      have hG := SG.kp HS.out.1 hkp (by simp) (by simp)
      have K := hkp.kc HS.out.2.2 (by simp [Nos])
      clear x1 x2 x3 x4 hkp HS HAR
      have HS := Lib.hid (And.intro hG (And.intro hE K))
      clear hG hE K
      have hv : (v != v) = false := by simp
      rcases herr with rfl | rfl | rfl | rfl
      · go_wp2
        go_roundw
        case rel => exact ⟨j + 1, z2, c7, by omega, by omega, by go_num, HZ2.out, HS.out⟩
        case measure => simp [intOf]; omega
      · go_wp2
        go_roundw
        case rel => exact ⟨j + 1, z2, c7, by omega, by omega, by go_num, HZ2.out, HS.out⟩
        case measure => simp [intOf]; omega
      all_goals
        go_wp2_with (go_at_call 21; refine (alive05 _).mono ?_; rintro e w8 ⟨rfl, hb⟩)
        go_ret
        exact ⟨rfl, Kin.Below.step HS.out.2.2.sinceB hb HS.out.2.2.sinceB.size⟩
    · have HS := Lib.hid K.sinceB
      have hex : (¬ (j : Int) < n) ∨ ((j : Int) < n ∧ ¬ (j : Int) < 100) := by omega
      clear hlt hG hE K herr
      rcases hex with l1 | ⟨l1, l2⟩
      all_goals
        go_wp2_with (go_at_call 21; refine (alive05 _).mono ?_; rintro e w8 ⟨rfl, hb⟩)
        go_ret
        exact ⟨rfl, Kin.Below.step HS.out hb HS.out.size⟩
end BookReads
namespace BookReads
set_option maxRecDepth 100000 in
theorem lifted (os : Os) (started : os.Started) (H : Type) (enc : TypeId × Value → H) :
    ReturnsInHanded {} Try.checked os 4 .any (Rows.bookReadsSpec.pre6 enc Try.prog Try.f4 Rows.bookReadsRow.domain false) (Rows.bookReadsSpec.post enc Try.prog Try.f4 false true false false) := by
  refine returnsInHanded_of_change (C := Try.checked) own started (by kernel_rfl) Try.func4
    (ChangeSpec.witness6 (enc := enc) (C := Try.checked) false ⟨#[], #[.slice none 0 0, .slice none 0 0], []⟩ 8 (by kernel_rfl) (by kernel_rfl) (by kernel_rfl) (by kernel_rfl)) ?_
  intro W base args ds gs before hval0 hW hcnd _
  have hval : ∀ (j : Nat) t v, Try.f4.params[j]? = some t → args[j]? = some v → Value.okWide Try.prog W .any base t v := hval0
  refine law_post (tb := 4) laidOut (by kernel_rfl) rfl Try.underlying4 rfl (fun ds' h => ?_) hW ?_
  · rw [Try.params4] at h
    match ds', h with
    | [d1, d2], _ => exact ⟨rfl, rfl, rfl⟩
  obtain ⟨p, q, hA0, hV, rfl, hfz, hnd⟩ := hW
  have hA : DataW.TrodAll enc Try.prog W 0 (fun _ => true) true Try.f4.params.toList args.toList ds p := hA0
  rw [Try.params4] at hA hval
  obtain ⟨v0, vs0, d0, ds0, p0, q0, hargs, rfl, rfl, h0, r0⟩ := trodAll_cons hA
  obtain ⟨v1, vs1, d1, ds1, p1, q1, rfl, rfl, rfl, h1, r1⟩ := trodAll_cons r0
  obtain ⟨rfl, rfl, rfl⟩ := trodAll_nil r1
  obtain rfl : args = #[v0, v1] := by cases args; simp_all
  obtain ⟨A0, n0, c0, g0, rfl, rr0, t0, l0, m0⟩ := open_bytes Try.underlying37 Try.underlying5 (by kernel_rfl) (hval 0 37 v0 rfl rfl) h0
  obtain ⟨A1, n1, c1, g1, rfl, rr1, t1, l1, m1⟩ := open_acts4 Try.underlying22 Try.underlying33 (by kernel_rfl) ⟨rfl, rfl⟩ ⟨rfl, rfl⟩ ⟨rfl, rfl⟩ ⟨rfl, rfl⟩ Try.underlying3 (by kernel_rfl) (hval 1 22 v1 rfl rfl) h1
  exact walk W A0 n0 c0 g0 rr0 t0 l0 m0 A1 n1 c1 g1 rr1 t1 l1 m1
theorem over : Rows.bookReadsRow.holds Try.pinned (OpenSpec.ofChange Rows.bookReadsSpec) :=
  OpenClaim.holds_of_wide 4 Try.f4 rfl rfl rfl rfl rfl rfl rfl ⟨rfl, rfl, rfl, rfl, rfl⟩ rfl rfl rfl rfl rfl (by kernel_rfl) Try.func4 (by kernel_rfl)
    (of_decide_eq_true (by kernel_rfl)) (by unfold Func.isWrapper; first | (rw [if_pos (by decide +kernel)]; kernel_rfl) | (rw [if_neg (by decide +kernel)]; exact ⟨rfl, rfl⟩))
    (fun os started H enc _ => lifted os started H enc)
end BookReads
theorem bookReads_holds : Rows.BookReadsSaid := BookReads.over

end Go.Proofs.Ytmnoddmecghjdaa
