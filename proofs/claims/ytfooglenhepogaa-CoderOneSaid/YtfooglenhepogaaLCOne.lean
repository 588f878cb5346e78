/- CoderOne: bytes of which that was all, behind bits that were got by some chances, are the code of these bits. No condition. -/
import Derived.Test.YtfooglenhepogaaAl4
import Derived.Test.YtfooglenhepogaaClose3
import Derived.Test.YtfooglenhepogaaRg4
namespace Go.Kin
theorem get_err {g : Nat → Int} {n : Nat} {d : DS} {c : Int} (h : ¬ (d.get g n c).2.1 = 0) : (d.get g n c).2.2 = d := by
  unfold DS.get at h ⊢
  by_cases h1 : chB c = false
  · rw [if_pos h1]
  rw [if_neg h1] at h ⊢
  by_cases h2 : d.wide ≤ d.rest
  · rw [if_pos h2]
  rw [if_neg h2] at h ⊢
  by_cases h3 : gWide d.wide d.rest (d.wide / 2048 * c.toNat) < 16777216
  · rw [if_pos h3] at h ⊢
    by_cases h4 : n ≤ d.I
    · rw [if_pos h4]
    · rw [if_neg h4] at h; exact absurd rfl h
  · rw [if_neg h3] at h; exact absurd rfl h
theorem quietB {P : Program} {f : FuncId} {args : Array Value} {w : World} {v : Value} (h : Calls P f args w fun e w' => e = .returned v ∧ w = w') : Calls P f args w fun e w' => e = .returned v ∧ RowKit.Below w.heap.size w w' :=
  h.mono fun _ _ ⟨he, hw⟩ => ⟨he, by subst hw; exact RowKit.Below.refl _ _⟩
end Go.Kin
namespace Go.Proofs.Ytfooglenhepogaa
open Go.ChangeShapes Go.WideShapes Go.ChangeAt Go.RowKit Go.Joins Go.Kin
set_option linter.unusedVariables false
theorem putE_fair {c bit : Int} (h : Kin.Fair c bit) : putE c bit = 0 := by unfold putE; rw [if_pos (fair_iff.2 h)]
namespace CoderOne
set_option maxRecDepth 100000 in
set_option maxHeartbeats 8000000 in
theorem walk (w : World) (A0 : Option Addr) (n0 c0 : Nat) (g : Nat → Int) (hR0 : Rd w A0 n0 (by8 g)) (hg : Byt g) (hn0 : n0 ≤ c0) (hc0 : c0 ≤ 9223372036854775807) (A : Option Addr) (n cap : Nat) (f : Nat → Nat → Int) (hR : Rd w A (n * 2) (recs 2 f)) (hf : ∀ i r, I64 (f i r)) (hn : n ≤ cap) (hcap : cap ≤ 9223372036854775807) : Calls Try.prog 6 #[.slice A0 n0 c0, .slice A n cap] w fun e w' => e = .returned (.bool true) ∧ Below w.heap.size w w' := by
  have HR0 := Lib.hid hR0
  have HR := Lib.hid hR
  have HG := Lib.hid hg
  clear hR0 hR hf hg
  by_cases hbig : 300 < n0
  · have hb' : 300 < (n0 : Int) := by omega
    go_enter Try.func6, Try.ntmps6
    go_wp2_with (go_at_call 23; refine (alive04 _).mono ?_; rintro e w1 ⟨rfl, hb⟩)
    go_ret
    exact ⟨rfl, hb⟩
  have b1 : ¬ 300 < (n0 : Int) := by omega
  by_cases h4 : n0 < 4
  · have h4' : (n0 : Int) < 4 := by omega
    go_enter Try.func6, Try.ntmps6
    go_wp2_with (first | (go_at_call 24; refine (open_no _ _ _ _ h4).mono ?_; rintro e w' ⟨rfl, rfl⟩) | (go_at_call 23; refine (alive04 _).mono ?_; rintro e w1 ⟨rfl, hb⟩))
    go_ret
    exact ⟨rfl, hb⟩
  have HK := Lib.hid (Kc.start w)
  go_enter Try.func6, Try.ntmps6
  go_wp2_with (go_at_call 23; fail)
  refine (open_s A0 n0 c0 g _ HR0.out HG.out (by omega) hn0 hc0 (by omega)).mono ?_
  rintro e w1 ⟨y, rfl, hD, hb⟩
  replace hD := hD (fun _ => 0) 1
  have K := HK.out.upd (i := 1) ⟨by omega, trivial⟩ (Upd.of_below hb _ _)
  generalize recol _ _ _ = c1 at *
  have HDK := Lib.hid (And.intro hD K)
  clear hb hD K HK
  go_wp2_with (go_at_call 23; fail)
  refine (cnew_s _).mono ?_
  rintro e w2 ⟨x, rfl, hE, hb⟩
  replace hE := hE c1 2
  have hD := HDK.out.1.upd (j := 2) (by omega) (Upd.of_below hb _ _)
  have K := HDK.out.2.upd (i := 2) ⟨by omega, trivial⟩ (Upd.of_below hb _ _)
  generalize recol _ _ _ = c2 at *
  have HS := Lib.hid (And.intro hE (And.intro hD K))
  clear hb hE hD K HDK
  go_wp2_with (go_at_call 23; fail)
  go_loopw [8] (fun i wr => ∃ (j : Nat) (s : St) (d : DS) (col : Nat → Nat), j ≤ n ∧ j ≤ 400 ∧ s.L ≤ 4 + j ∧ i = .int .i64 j ∧ Kin.Twin g s d ∧ EncS wr col 2 x s ∧ DecS wr col 1 y n0 g d ∧ Kc wr col [(0, .since w)]) (fun i _ => (400 - intOf i).toNat)
  case atStart => exact ⟨0, _, _, c2, by omega, by omega, Nat.le_refl _, rfl, twin_start g, HS.out.1, HS.out.2.1, HS.out.2.2⟩
  case round =>
    obtain ⟨j, s, d, col, hjn, hj4, hL, rfl, ht, hE, hD, K⟩ := hrel
    clear HS
    by_cases hlt : j < n ∧ j < 400
    · have l1 : (j : Int) < n := by omega
      have l2 : (j : Int) < 400 := by omega
      have HRW : Hid (Rd wr A (n * 2) (recs 2 f)) := Lib.hid (HR.out.below K.sinceB)
      obtain ⟨b, off, rfl, _⟩ := HR.out.some_ (by omega)
      have x1 := recs_cell HRW.out (i := j) (r := 0) hlt.1 (by omega)
      rw [Nat.add_zero] at x1
      have HT := Lib.hid ht
      have HS := Lib.hid (And.intro hE (And.intro hD K))
      clear ht hE hD K hlt
      generalize hfj : f j 0 % 65536 = ch
      have hch : 0 ≤ ch ∧ ch ≤ 65535 := by omega
      have HFJ := Lib.hid hfj
      clear hfj
      go_wp2_with (go_at_call 17; refine (chance_any _ _).mono ?_; rintro e w' ⟨rfl, rfl⟩; rw [HFJ.out])
      refine (get_s HS.out.2.1 HG.out ch hch).mono ?_
      rintro e w3 ⟨rfl, hu, hD⟩
      have hE := HS.out.1.upd (j := 1) (by omega) hu
      have K := HS.out.2.2.upd (i := 1) ⟨by omega, trivial⟩ hu
      generalize recol _ _ _ = c3 at *
      have HRW : Hid (Rd w3 (some ⟨b, off, none⟩) (n * 2) (recs 2 f)) := Lib.hid (HR.out.below K.sinceB)
      clear hu x1
      have x1 := recs_cell HRW.out (i := j) (r := 0) (by omega) (by omega)
      rw [Nat.add_zero] at x1
      by_cases herr : (d.get g n0 ch).2.1 = 0
      · obtain ⟨hfair, ht⟩ := twin_get HT.out herr
        rw [herr]
        have HPE := Lib.hid (putE_fair hfair)
        have hL2 : (s.putI ch (d.get g n0 ch).1).L ≤ 4 + (j + 1) := by have := (putI_ok (c := ch) (bit := (d.get g n0 ch).1) hE.1).2.1; omega
        generalize (d.get g n0 ch).1 = bit at *
        generalize (d.get g n0 ch).2.2 = d2 at *
        have HS2 := Lib.hid (And.intro hE (And.intro hD K))
        have HT2 := Lib.hid ht
        clear hE hD K HS ht hfair HT herr
        go_wp2_with (go_at_call 17; refine (chance_any _ _).mono ?_; rintro e w' ⟨rfl, rfl⟩; rw [HFJ.out])
        refine (put_s HS2.out.1 (by omega) ch bit hch).mono ?_
        rintro e w4 ⟨rfl, hu, hE⟩
        have hD := HS2.out.2.1.upd (j := 2) (by omega) hu
        have K := HS2.out.2.2.upd (i := 2) ⟨by omega, trivial⟩ hu
        generalize recol _ _ _ = c4 at *
        clear hu x1
        rw [HPE.out]
        generalize s.putI ch bit = s2 at *
        have HS := Lib.hid (And.intro hE (And.intro hD K))
        clear hE hD K HS2
        go_wp2_with fail
        have KR := ((Kn.start w4).add (x := .rd A0 n0 (by8 g)) (HR0.out.below HS.out.2.2.sinceB)).drew
        have hL3 : s2.L ≤ 1000000 := by omega
        by_cases hend : n0 - d2.I = 0 ∧ d2.rest = 0
        · have hIe : n0 = d2.I := by have h5 := HS.out.2.1.2.1; have h6 := hend.1; omega
          obtain ⟨q1, q2⟩ := twin_end HG.out HT2.out hIe hend.2
          clear hIe
          have HEN := Lib.hid (show endK (n0 - d2.I) d2.rest = 0 by unfold endK; rw [if_pos hend])
          have HST : Hid (strOf s2.L (dig s2.V s2.L) = strOf n0 g) := Lib.hid ((strOf_eq (dig_byt _ _) HG.out).2 ⟨q1, fun i hi => q2 i (by omega)⟩)
          clear q1 q2 hend
          have K := KR
          clear KR
          refine wp_region_allX (fun w' => Kn w' _) [1, 5] [(0,1),(1,2),(2,1),(3,1),(4,1),(7,1),(8,1),(5,2),(6,1),(9,1),(10,0)] (by kernel_rfl) (by kernel_rfl) (fun _ _ d _ _ h => by cases d <;> exact h) (K) ?_
          generalize World.drew _ = wd at K ⊢
          repeat (first | (refine oX_freeG rfl rfl (fun w' hS => by skip; clear hS; go_simp; with_reducible rfl) ?_; go_simp) | (refine oX_skipG rfl rfl ?_; go_simp))
          refine oX_doG rfl rfl (fun KK hKK => ?_)
          go_simp
          refine (quietB (end_s (HS.out.2.1.below K.2.1))).mono ?_
          rintro e w5 ⟨rfl, hb5⟩
          replace K := K.below hb5
          rw [HEN.out]
          refine hKK (fun w' => Kn w' _) _ _ ?hsub K ?_
          case hsub => exact fun _ h => h
          clear hKK KK hb5
          repeat (first | (refine oX_freeG rfl rfl (fun w' hS => by have s1 := conv_any (c := c0) hS.1; clear hS; go_simp; with_reducible rfl) ?_; go_simp) | (refine oX_skipG rfl rfl ?_; go_simp))
          refine oX_doG rfl rfl (fun KK hKK => ?_)
          go_simp
          refine (bytes_s (HS.out.1.below K.2.1) hL3).mono ?_
          rintro e w6 ⟨A6, rfl, Q6, _, hb6⟩
          replace K := K.below hb6
          replace K := K.add (x := .rd A6 s2.L (by8 (dig s2.V s2.L))) Q6
          refine hKK (fun w' => Kn w' _) _ _ ?hsub K ?_
          case hsub => exact fun _ h => h.2
          clear hKK KK hb6
          clear Q6
          repeat (first | (refine oX_freeG rfl rfl (fun w' hS => by have s1 := conv_any (c := s2.L) hS.1; rw [HST.out] at s1; clear hS; go_simp; with_reducible rfl) ?_; go_simp) | (refine oX_skipG rfl rfl ?_; go_simp))
          repeat (refine oX_still rfl (fun KK hKK => ?_); go_simp; refine hKK _ ?_; clear hKK KK)
          refine oX_nil ?_
          have HL := Lib.hid K.2.2.1
          clear K
          go_wp2
          go_roundw
          case rel => exact ⟨j + 1, s2, d2, c4, by omega, by omega, by omega, by go_num, HT2.out, HS.out.1.below HL.out, HS.out.2.1.below HL.out, Kc.below HS.out.2.2 HL.out⟩
          case measure => simp [intOf]; omega
        · have HEN := Lib.hid (show endK (n0 - d2.I) d2.rest = 41 by unfold endK; rw [if_neg hend])
          clear hend
          have K := KR
          clear KR
          refine wp_region_allX (fun w' => Kn w' _) [1, 5] [(0,1),(1,2),(2,1),(3,1),(4,1),(7,1),(8,1),(5,2),(6,1),(9,1),(10,0)] (by kernel_rfl) (by kernel_rfl) (fun _ _ d _ _ h => by cases d <;> exact h) (K) ?_
          generalize World.drew _ = wd at K ⊢
          repeat (first | (refine oX_freeG rfl rfl (fun w' hS => by skip; clear hS; go_simp; with_reducible rfl) ?_; go_simp) | (refine oX_skipG rfl rfl ?_; go_simp))
          refine oX_doG rfl rfl (fun KK hKK => ?_)
          go_simp
          refine (quietB (end_s (HS.out.2.1.below K.2.1))).mono ?_
          rintro e w5 ⟨rfl, hb5⟩
          replace K := K.below hb5
          rw [HEN.out]
          refine hKK (fun w' => Kn w' _) _ _ ?hsub K ?_
          case hsub => exact fun _ h => h
          clear hKK KK hb5
          repeat (first | (refine oX_freeG rfl rfl (fun w' hS => by skip; clear hS; go_simp; with_reducible rfl) ?_; go_simp) | (refine oX_skipG rfl rfl ?_; go_simp))
          refine oX_passG rfl rfl K ?_
          go_simp
          repeat (first | (refine oX_freeG rfl rfl (fun w' hS => by skip; clear hS; go_simp; with_reducible rfl) ?_; go_simp) | (refine oX_skipG rfl rfl ?_; go_simp))
          repeat (refine oX_still rfl (fun KK hKK => ?_); go_simp; refine hKK _ ?_; clear hKK KK)
          refine oX_nil ?_
          have HL := Lib.hid K.2.1
          clear K
          go_wp2
          go_roundw
          case rel => exact ⟨j + 1, s2, d2, c4, by omega, by omega, by omega, by go_num, HT2.out, HS.out.1.below HL.out, HS.out.2.1.below HL.out, Kc.below HS.out.2.2 HL.out⟩
          case measure => simp [intOf]; omega
      · have hd2 := get_err herr
        have herr' : (((d.get g n0 ch).2.1) == 0) = false := by simpa using herr
        rw [hd2] at hD
        generalize (d.get g n0 ch).2.1 = ee at *
        generalize (d.get g n0 ch).1 = bit at *
        have HT2 := Lib.hid HT.out
        have hL2 : s.L ≤ 4 + (j + 1) := by omega
        clear HS HT
        have HS := Lib.hid (And.intro hE (And.intro hD K))
        clear hE hD K x1 herr hd2
        go_wp2_with fail
        have KR := ((Kn.start w3).add (x := .rd A0 n0 (by8 g)) (HR0.out.below HS.out.2.2.sinceB)).drew
        have hL3 : s.L ≤ 1000000 := by omega
        by_cases hend : n0 - d.I = 0 ∧ d.rest = 0
        · have hIe : n0 = d.I := by have h5 := HS.out.2.1.2.1; have h6 := hend.1; omega
          obtain ⟨q1, q2⟩ := twin_end HG.out HT2.out hIe hend.2
          clear hIe
          have HEN := Lib.hid (show endK (n0 - d.I) d.rest = 0 by unfold endK; rw [if_pos hend])
          have HST : Hid (strOf s.L (dig s.V s.L) = strOf n0 g) := Lib.hid ((strOf_eq (dig_byt _ _) HG.out).2 ⟨q1, fun i hi => q2 i (by omega)⟩)
          clear q1 q2 hend
          have K := KR
          clear KR
          refine wp_region_allX (fun w' => Kn w' _) [1, 5] [(0,1),(1,2),(2,1),(3,1),(4,1),(7,1),(8,1),(5,2),(6,1),(9,1),(10,0)] (by kernel_rfl) (by kernel_rfl) (fun _ _ d _ _ h => by cases d <;> exact h) (K) ?_
          generalize World.drew _ = wd at K ⊢
          repeat (first | (refine oX_freeG rfl rfl (fun w' hS => by skip; clear hS; go_simp; with_reducible rfl) ?_; go_simp) | (refine oX_skipG rfl rfl ?_; go_simp))
          refine oX_doG rfl rfl (fun KK hKK => ?_)
          go_simp
          refine (quietB (end_s (HS.out.2.1.below K.2.1))).mono ?_
          rintro e w5 ⟨rfl, hb5⟩
          replace K := K.below hb5
          rw [HEN.out]
          refine hKK (fun w' => Kn w' _) _ _ ?hsub K ?_
          case hsub => exact fun _ h => h
          clear hKK KK hb5
          repeat (first | (refine oX_freeG rfl rfl (fun w' hS => by have s1 := conv_any (c := c0) hS.1; clear hS; go_simp; with_reducible rfl) ?_; go_simp) | (refine oX_skipG rfl rfl ?_; go_simp))
          refine oX_doG rfl rfl (fun KK hKK => ?_)
          go_simp
          refine (bytes_s (HS.out.1.below K.2.1) hL3).mono ?_
          rintro e w6 ⟨A6, rfl, Q6, _, hb6⟩
          replace K := K.below hb6
          replace K := K.add (x := .rd A6 s.L (by8 (dig s.V s.L))) Q6
          refine hKK (fun w' => Kn w' _) _ _ ?hsub K ?_
          case hsub => exact fun _ h => h.2
          clear hKK KK hb6
          clear Q6
          repeat (first | (refine oX_freeG rfl rfl (fun w' hS => by have s1 := conv_any (c := s.L) hS.1; rw [HST.out] at s1; clear hS; go_simp; with_reducible rfl) ?_; go_simp) | (refine oX_skipG rfl rfl ?_; go_simp))
          repeat (refine oX_still rfl (fun KK hKK => ?_); go_simp; refine hKK _ ?_; clear hKK KK)
          refine oX_nil ?_
          have HL := Lib.hid K.2.2.1
          clear K
          go_wp2
          go_roundw
          case rel => exact ⟨j + 1, s, d, c3, by omega, by omega, by omega, by go_num, HT2.out, HS.out.1.below HL.out, HS.out.2.1.below HL.out, Kc.below HS.out.2.2 HL.out⟩
          case measure => simp [intOf]; omega
        · have HEN := Lib.hid (show endK (n0 - d.I) d.rest = 41 by unfold endK; rw [if_neg hend])
          clear hend
          have K := KR
          clear KR
          refine wp_region_allX (fun w' => Kn w' _) [1, 5] [(0,1),(1,2),(2,1),(3,1),(4,1),(7,1),(8,1),(5,2),(6,1),(9,1),(10,0)] (by kernel_rfl) (by kernel_rfl) (fun _ _ d _ _ h => by cases d <;> exact h) (K) ?_
          generalize World.drew _ = wd at K ⊢
          repeat (first | (refine oX_freeG rfl rfl (fun w' hS => by skip; clear hS; go_simp; with_reducible rfl) ?_; go_simp) | (refine oX_skipG rfl rfl ?_; go_simp))
          refine oX_doG rfl rfl (fun KK hKK => ?_)
          go_simp
          refine (quietB (end_s (HS.out.2.1.below K.2.1))).mono ?_
          rintro e w5 ⟨rfl, hb5⟩
          replace K := K.below hb5
          rw [HEN.out]
          refine hKK (fun w' => Kn w' _) _ _ ?hsub K ?_
          case hsub => exact fun _ h => h
          clear hKK KK hb5
          repeat (first | (refine oX_freeG rfl rfl (fun w' hS => by skip; clear hS; go_simp; with_reducible rfl) ?_; go_simp) | (refine oX_skipG rfl rfl ?_; go_simp))
          refine oX_passG rfl rfl K ?_
          go_simp
          repeat (first | (refine oX_freeG rfl rfl (fun w' hS => by skip; clear hS; go_simp; with_reducible rfl) ?_; go_simp) | (refine oX_skipG rfl rfl ?_; go_simp))
          repeat (refine oX_still rfl (fun KK hKK => ?_); go_simp; refine hKK _ ?_; clear hKK KK)
          refine oX_nil ?_
          have HL := Lib.hid K.2.1
          clear K
          go_wp2
          go_roundw
          case rel => exact ⟨j + 1, s, d, c3, by omega, by omega, by omega, by go_num, HT2.out, HS.out.1.below HL.out, HS.out.2.1.below HL.out, Kc.below HS.out.2.2 HL.out⟩
          case measure => simp [intOf]; omega
    · have HS := Lib.hid K.sinceB
      clear hE hD K
      by_cases l1 : j < n
      · have l1' : (j : Int) < n := by omega
        have l2' : ¬ (j : Int) < 400 := by omega
        clear hlt
        go_wp2_with (go_at_call 23; refine (alive04 _).mono ?_; rintro e w4 ⟨rfl, hb4⟩)
        go_ret
        exact ⟨rfl, Kin.Below.step HS.out hb4 HS.out.size⟩
      · have l1' : ¬ (j : Int) < n := by omega
        clear hlt
        go_wp2_with (go_at_call 23; refine (alive04 _).mono ?_; rintro e w4 ⟨rfl, hb4⟩)
        go_ret
        exact ⟨rfl, Kin.Below.step HS.out hb4 HS.out.size⟩
end CoderOne
namespace CoderOne
set_option maxRecDepth 100000 in
theorem lifted (os : Os) (started : os.Started) (H : Type) (enc : TypeId × Value → H) :
    ReturnsInHanded {} Try.checked os 6 .any (Rows.coderOneSpec.pre6 enc Try.prog Try.f6 Rows.coderOneRow.domain false) (Rows.coderOneSpec.post enc Try.prog Try.f6 false true false false) := by
  refine returnsInHanded_of_change (C := Try.checked) own started (by kernel_rfl) Try.func6
    (ChangeSpec.witness6 (enc := enc) (C := Try.checked) false ⟨#[], #[.slice none 0 0, .slice none 0 0], []⟩ 8 (by kernel_rfl) (by kernel_rfl) (by kernel_rfl) (by kernel_rfl)) ?_
  intro W base args ds gs before hval0 hW hcnd _
  have hval : ∀ (j : Nat) t v, Try.f6.params[j]? = some t → args[j]? = some v → Value.okWide Try.prog W .any base t v := hval0
  refine law_post (tb := 4) laidOut (by kernel_rfl) rfl Try.underlying4 rfl (fun ds' h => ?_) hW ?_
  · rw [Try.params6] at h
    match ds', h with
    | [d1, d2], _ => exact ⟨rfl, rfl, rfl⟩
  obtain ⟨p, q, hA0, hV, rfl, hfz, hnd⟩ := hW
  have hA : DataW.TrodAll enc Try.prog W 0 (fun _ => true) true Try.f6.params.toList args.toList ds p := hA0
  rw [Try.params6] at hA hval
  obtain ⟨v0, vs0, d0, ds0, p0, q0, hargs, rfl, rfl, h0, r0⟩ := trodAll_cons hA
  obtain ⟨v1, vs1, d1, ds1, p1, q1, rfl, rfl, rfl, h1, r1⟩ := trodAll_cons r0
  obtain ⟨rfl, rfl, rfl⟩ := trodAll_nil r1
  obtain rfl : args = #[v0, v1] := by cases args; simp_all
  obtain ⟨A0, n0, c0, g0, rfl, rr0, t0, l0, m0⟩ := open_bytes Try.underlying36 Try.underlying5 (by kernel_rfl) (hval 0 36 v0 rfl rfl) h0
  obtain ⟨A1, n1, c1, g1, rfl, rr1, t1, l1, m1⟩ := open_acts Try.underlying22 Try.underlying28 (by kernel_rfl) ⟨rfl, rfl⟩ ⟨rfl, rfl⟩ Try.underlying3 (by kernel_rfl) (hval 1 22 v1 rfl rfl) h1
  exact walk W A0 n0 c0 g0 rr0 t0 l0 m0 A1 n1 c1 g1 rr1 t1 l1 m1
theorem over : Rows.coderOneRow.holds Try.pinned (OpenSpec.ofChange Rows.coderOneSpec) :=
  OpenClaim.holds_of_wide 6 Try.f6 rfl rfl rfl rfl rfl rfl rfl ⟨rfl, rfl, rfl, rfl, rfl⟩ rfl rfl rfl rfl rfl (by kernel_rfl) Try.func6 (by kernel_rfl)
    (of_decide_eq_true (by kernel_rfl)) (by unfold Func.isWrapper; first | (rw [if_pos (by decide +kernel)]; kernel_rfl) | (rw [if_neg (by decide +kernel)]; exact ⟨rfl, rfl⟩))
    (fun os started H enc _ => lifted os started H enc)
end CoderOne
theorem coderOne_holds : Rows.CoderOneSaid := CoderOne.over

end Go.Proofs.Ytfooglenhepogaa
