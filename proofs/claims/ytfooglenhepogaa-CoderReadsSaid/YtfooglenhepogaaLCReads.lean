/- CoderReads: of any bytes the bits that are got by any chances are as the document says, or the error; so is whether that was all. No condition. -/
import Derived.Test.YtfooglenhepogaaCe5
import Derived.Test.YtfooglenhepogaaClose3
namespace Go.Proofs.Ytfooglenhepogaa
open Go.ChangeShapes Go.WideShapes Go.ChangeAt Go.RowKit Go.Joins Go.Kin
set_option linter.unusedVariables false
namespace CoderReads
set_option maxRecDepth 100000 in
set_option maxHeartbeats 8000000 in
theorem walk (w : World) (A0 : Option Addr) (n0 c0 : Nat) (g : Nat → Int) (hR0 : Rd w A0 n0 (by8 g)) (hg : Byt g) (hn0 : n0 ≤ c0) (hc0 : c0 ≤ 9223372036854775807) (A : Option Addr) (n cap : Nat) (f : Nat → Nat → Int) (hR : Rd w A (n * 2) (recs 2 f)) (hf : ∀ i r, I64 (f i r)) (hn : n ≤ cap) (hcap : cap ≤ 9223372036854775807) : Calls Try.prog 4 #[.slice A0 n0 c0, .slice A n cap] w fun e w' => e = .returned (.bool true) ∧ Below w.heap.size w w' := by
  have HR0 := Lib.hid hR0
  have HR := Lib.hid hR
  have HG := Lib.hid hg
  clear hR0 hR hf hg
  by_cases hbig : 300 < n0
  · have hb' : 300 < (n0 : Int) := by omega
    go_enter Try.func4, Try.ntmps4
    go_wp2_with (go_at_call 23; refine (alive04 _).mono ?_; rintro e w1 ⟨rfl, hb⟩)
    go_ret
    exact ⟨rfl, hb⟩
  have b1 : ¬ 300 < (n0 : Int) := by omega
  by_cases h4 : n0 < 4
  · have h4' : (n0 : Int) < 4 := by omega
    go_enter Try.func4, Try.ntmps4
    go_wp2_with (first | (go_at_call 24; refine (open_no _ _ _ _ h4).mono ?_; rintro e w' ⟨rfl, rfl⟩) | (go_at_call 25; refine (ropen_no _ _ _ _ h4).mono ?_; rintro e w' ⟨rfl, rfl⟩) | (go_at_call 23; refine (alive04 _).mono ?_; rintro e w1 ⟨rfl, hb⟩))
    go_ret
    exact ⟨rfl, hb⟩
  have HK := Lib.hid (Kc.start w)
  go_enter Try.func4, Try.ntmps4
  go_wp2_with (go_at_call 23; fail)
  refine (open_s A0 n0 c0 g _ HR0.out HG.out (by omega) hn0 hc0 (by omega)).mono ?_
  rintro e w1 ⟨y, rfl, hD, hb⟩
  replace hD := hD (fun _ => 0) 1
  have K := HK.out.upd (i := 1) ⟨by omega, trivial⟩ (Upd.of_below hb _ _)
  generalize recol _ _ _ = c1 at *
  have HDK := Lib.hid (And.intro hD K)
  clear hb hD K HK
  go_wp2_with (go_at_call 23; fail)
  refine (ropen_s A0 n0 c0 g _ (HR0.out.below HDK.out.2.sinceB) HG.out (by omega)).mono ?_
  rintro e w2 ⟨x, rfl, hE, hb⟩
  replace hE := hE c1 2
  have hD := HDK.out.1.upd (j := 2) (by omega) (Upd.of_below hb _ _)
  have K := HDK.out.2.upd (i := 2) ⟨by omega, trivial⟩ (Upd.of_below hb _ _)
  generalize recol _ _ _ = c2 at *
  have HS := Lib.hid (And.intro hE (And.intro hD K))
  clear hb hE hD K HDK
  go_wp2_with (go_at_call 23; fail)
  go_loopw [9] (fun i wr => ∃ (j : Nat) (d : DS) (col : Nat → Nat), j ≤ n ∧ j ≤ 400 ∧ i = .int .i64 j ∧ DecRS wr col 2 x n0 A0 c0 d ∧ DecS wr col 1 y n0 g d ∧ Kc wr col [(0, .since w)]) (fun i _ => (400 - intOf i).toNat)
  case atStart => exact ⟨0, _, c2, by omega, by omega, rfl, HS.out.1, HS.out.2.1, HS.out.2.2⟩
  case round =>
    obtain ⟨j, d, col, hjn, hj4, rfl, hE, hD, K⟩ := hrel
    clear HS
    by_cases hlt : j < n ∧ j < 400
    · have l1 : (j : Int) < n := by omega
      have l2 : (j : Int) < 400 := by omega
      have HRW : Hid (Rd wr A (n * 2) (recs 2 f)) := Lib.hid (HR.out.below K.sinceB)
      obtain ⟨b, off, rfl, -, -⟩ := HR.out.some_ (by omega)
      have x1 := recs_cell HRW.out (i := j) (r := 0) hlt.1 (by omega)
      rw [Nat.add_zero] at x1
      have HS := Lib.hid (And.intro hE (And.intro hD K))
      clear hE hD K hlt
      have hand := and_65535 (f j 0)
      have hmod : f j 0 % 65536 % 65536 = f j 0 % 65536 := by omega
      generalize f j 0 % 65536 = ch at *
      have hch : 0 ≤ ch ∧ ch ≤ 65535 := by omega
      have HMOD := Lib.hid hmod
      clear hmod
      go_wp2_with (go_at_call 17; refine (chance_any _ _).mono ?_; rintro e w' ⟨rfl, rfl⟩; rw [HMOD.out])
      refine (get_s HS.out.2.1 HG.out ch hch).mono ?_
      rintro e w3 ⟨rfl, hu, hD⟩
      have hE := HS.out.1.upd (j := 1) (by omega) hu
      have K := HS.out.2.2.upd (i := 1) ⟨by omega, trivial⟩ hu
      generalize recol _ _ _ = c3 at *
      clear hu x1 HS HRW
      have HS := Lib.hid (And.intro hE (And.intro hD K))
      clear hE hD K
      have HGE : Hid (∀ v, Calls Try.prog 27 #[.pointer (some ⟨x, 0, none⟩), .int .i64 ch] w3 v → True) := Lib.hid (fun _ _ => trivial)
      clear HGE
      have HRG := Lib.hid (rget_s HS.out.1 (HR0.out.below HS.out.2.2.sinceB) HG.out (by omega) ch)
      generalize hg1 : (d.get g n0 ch).1 = gb at *
      generalize hg2 : (d.get g n0 ch).2.1 = ge at *
      generalize hg3 : (d.get g n0 ch).2.2 = d2 at *
      clear hg1 hg2 hg3
      go_wp2_with fail
      refine HRG.out.mono ?_
      rintro e w4 ⟨rfl, hu, hE⟩
      have hD := HS.out.2.1.upd (j := 2) (by omega) hu
      have K := HS.out.2.2.upd (i := 2) ⟨by omega, trivial⟩ hu
      generalize recol _ _ _ = c4 at *
      clear hu HS HRG
      have HS := Lib.hid (And.intro hE (And.intro hD K))
      clear hE hD K
      have e1 : (gb != gb) = false := by simp
      have e2 : (ge != ge) = false := by simp
      have e3 : (endK (n0 - d2.I) d2.rest != endK (n0 - d2.I) d2.rest) = false := by simp
      generalize hek : endK (n0 - d2.I) d2.rest = ek at *
      have HEK := Lib.hid hek
      clear hek
      go_wp2_with (first | (go_at_call 28; refine (end_s HS.out.2.1).mono ?_; rintro e w5 ⟨rfl, rfl⟩; rw [HEK.out]) | (go_at_call 29; refine (rend_s HS.out.1).mono ?_; rintro e w6 ⟨rfl, hb6⟩; rw [HEK.out]))
      go_roundw
      case rel => exact ⟨j + 1, d2, c4, by omega, by omega, by go_num, HS.out.1.below hb6, HS.out.2.1.below hb6, Kc.below HS.out.2.2 hb6⟩
      case measure => simp [intOf]; omega
    · have HS := Lib.hid (And.intro hE (And.intro hD K))
      clear hE hD K
      have e3 : (endK (n0 - d.I) d.rest == endK (n0 - d.I) d.rest) = true := by simp
      generalize hek : endK (n0 - d.I) d.rest = ek at *
      have HEK := Lib.hid hek
      clear hek
      have hex : (¬ (j : Int) < n) ∨ ((j : Int) < n ∧ ¬ (j : Int) < 400) := by omega
      clear hlt
      rcases hex with l1 | ⟨l1, l2⟩
      · go_wp2_with (first | (go_at_call 23; refine (alive04 _).mono ?_; rintro e w4 ⟨rfl, hb4⟩) | (go_at_call 28; refine (end_s (HS.out.2.1.below hb4)).mono ?_; rintro e w5 ⟨rfl, rfl⟩; rw [HEK.out]) | (go_at_call 29; refine (rend_s (HS.out.1.below hb4)).mono ?_; rintro e w6 ⟨rfl, hb6⟩; rw [HEK.out]))
        go_ret
        exact ⟨rfl, Kin.Below.step (Kin.Below.step HS.out.2.2.sinceB hb4 HS.out.2.2.sinceB.size) hb6 (Nat.le_trans HS.out.2.2.sinceB.size hb4.size)⟩
      · go_wp2_with (first | (go_at_call 23; refine (alive04 _).mono ?_; rintro e w4 ⟨rfl, hb4⟩) | (go_at_call 28; refine (end_s (HS.out.2.1.below hb4)).mono ?_; rintro e w5 ⟨rfl, rfl⟩; rw [HEK.out]) | (go_at_call 29; refine (rend_s (HS.out.1.below hb4)).mono ?_; rintro e w6 ⟨rfl, hb6⟩; rw [HEK.out]))
        go_ret
        exact ⟨rfl, Kin.Below.step (Kin.Below.step HS.out.2.2.sinceB hb4 HS.out.2.2.sinceB.size) hb6 (Nat.le_trans HS.out.2.2.sinceB.size hb4.size)⟩
end CoderReads
namespace CoderReads
set_option maxRecDepth 100000 in
theorem lifted (os : Os) (started : os.Started) (H : Type) (enc : TypeId × Value → H) :
    ReturnsInHanded {} Try.checked os 4 .any (Rows.coderReadsSpec.pre6 enc Try.prog Try.f4 Rows.coderReadsRow.domain false) (Rows.coderReadsSpec.post enc Try.prog Try.f4 false true false false) := by
  refine returnsInHanded_of_change (C := Try.checked) own started (by kernel_rfl) Try.func4
    (ChangeSpec.witness6 (enc := enc) (C := Try.checked) false ⟨#[], #[.slice none 0 0, .slice none 0 0], []⟩ 8 (by kernel_rfl) (by kernel_rfl) (by kernel_rfl) (by kernel_rfl)) ?_
  intro W base args ds gs before hval0 hW hcnd _
  have hval : ∀ (j : Nat) t v, Try.f4.params[j]? = some t → args[j]? = some v → Value.okWide Try.prog W .any base t v := hval0
  refine law_post (tb := 4) laidOut (by kernel_rfl) rfl Try.underlying4 rfl (fun ds' h => ?_) hW ?_
  · rw [Try.params4] at h
    match ds', h with
    | [d1, d2], _ => exact ⟨rfl, rfl, rfl⟩
  obtain ⟨p, q, hA0, hV, rfl, hfz, hnd⟩ := hW
  have hA : DataW.TrodAll enc Try.prog W 0 (fun _ => true) true Try.f4.params.toList args.toList ds p := hA0
  rw [Try.params4] at hA hval
  obtain ⟨v0, vs0, d0, ds0, p0, q0, hargs, rfl, rfl, h0, r0⟩ := trodAll_cons hA
  obtain ⟨v1, vs1, d1, ds1, p1, q1, rfl, rfl, rfl, h1, r1⟩ := trodAll_cons r0
  obtain ⟨rfl, rfl, rfl⟩ := trodAll_nil r1
  obtain rfl : args = #[v0, v1] := by cases args; simp_all
  obtain ⟨A0, n0, c0, g0, rfl, rr0, t0, l0, m0⟩ := open_bytes Try.underlying36 Try.underlying5 (by kernel_rfl) (hval 0 36 v0 rfl rfl) h0
  obtain ⟨A1, n1, c1, g1, rfl, rr1, t1, l1, m1⟩ := open_acts Try.underlying22 Try.underlying28 (by kernel_rfl) ⟨rfl, rfl⟩ ⟨rfl, rfl⟩ Try.underlying3 (by kernel_rfl) (hval 1 22 v1 rfl rfl) h1
  exact walk W A0 n0 c0 g0 rr0 t0 l0 m0 A1 n1 c1 g1 rr1 t1 l1 m1
theorem over : Rows.coderReadsRow.holds Try.pinned (OpenSpec.ofChange Rows.coderReadsSpec) :=
  OpenClaim.holds_of_wide 4 Try.f4 rfl rfl rfl rfl rfl rfl rfl ⟨rfl, rfl, rfl, rfl, rfl⟩ rfl rfl rfl rfl rfl (by kernel_rfl) Try.func4 (by kernel_rfl)
    (of_decide_eq_true (by kernel_rfl)) (by unfold Func.isWrapper; first | (rw [if_pos (by decide +kernel)]; kernel_rfl) | (rw [if_neg (by decide +kernel)]; exact ⟨rfl, rfl⟩))
    (fun os started H enc _ => lifted os started H enc)
end CoderReads
theorem coderReads_holds : Rows.CoderReadsSaid := CoderReads.over

end Go.Proofs.Ytfooglenhepogaa
