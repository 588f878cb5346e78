/- QuantWrites: any blocks that are put have the code that the document says, or the error. No condition. -/
import Derived.Test.YtmnoddmecghjdaaAl8
import Derived.Test.YtmnoddmecghjdaaQr4
import Derived.Test.YtmnoddmecghjdaaBr6
import Derived.Test.YtmnoddmecghjdaaClose5
import Derived.Test.YtmnoddmecghjdaaRg3M
set_option linter.unusedVariables false
namespace Go.Proofs.Ytmnoddmecghjdaa
open Go.ChangeShapes Go.WideShapes Go.ChangeAt Go.RowKit Go.Joins Go.Kin
namespace QuantWrites
set_option maxRecDepth 100000 in
set_option maxHeartbeats 8000000 in
theorem walk (w : World) (A : Option Addr) (n cap : Nat) (B : Nat → Option Addr) (L C : Nat → Nat) (G : Nat → Nat → Int) (hR : Rd w A n (fun i => .slice (B i) (L i) (C i))) (hf : ∀ i, i < n → Rd w (B i) (L i) (in64 (G i)) ∧ L i ≤ C i ∧ C i ≤ 9223372036854775807) (hn : n ≤ cap) (hcap : cap ≤ 9223372036854775807) (t : Int) (ht : I64 t) :
    Calls Try.prog 9 #[.slice A n cap, .int .i64 t] w fun e w' => e = .returned (.bool true) ∧ Below w.heap.size w w' := by
  have HR := Lib.hid hR
  have HF := Lib.hid hf
  clear hR hf ht
  have K := Kc.start w
  go_enter Try.func9, Try.ntmps9
  go_wp2_with fail
  refine (bnew_s _).mono ?_
  rintro e w1 ⟨b, rfl, hB, hb⟩
  replace hB := hB (fun _ => 0) 2
  have hkp := Kp.newc hb (fun _ => 0) 2
  replace K := hkp.kc K (by simp [Nos])
  generalize recol _ _ _ = c1 at *
  have HS := Lib.hid (And.intro hB K)
  clear hkp hb hB K
  go_wp2_with fail
  refine (cnew_s _).mono ?_
  rintro e w2 ⟨x, rfl, hE, hb⟩
  replace hE := hE c1 1
  have hkp := Kp.newc hb c1 1
  have hB := Bk.kp HS.out.1 hkp (by simp)
  have K := hkp.kc HS.out.2 (by simp [Nos])
  generalize recol _ _ _ = c2 at *
  have HS2 := Lib.hid (And.intro (show SS w2 c2 1 x 2 b PS0 from ⟨hE, hB⟩) K)
  clear hkp hb hB K hE HS
  go_wp2_with fail
  refine (rbnew_s _).mono ?_
  rintro e w3 ⟨m, rfl, hM, hb⟩
  replace hM := hM c2 4
  have hkp := Kp.newc hb c2 4
  have hS := SS.kp HS2.out.1 hkp (by simp) (by simp)
  have K := hkp.kc HS2.out.2 (by simp [Nos])
  generalize recol _ _ _ = c3 at *
  have HS3 := Lib.hid (And.intro hS (And.intro hM K))
  clear hkp hb hS K hM HS2
  go_wp2_with fail
  refine (rnew_s _).mono ?_
  rintro e w4 ⟨y, rfl, hE, hb⟩
  replace hE := hE c3 3
  have hkp := Kp.newc hb c3 3
  have hS := SS.kp HS3.out.1 hkp (by simp) (by simp)
  have hM := BkR.kp HS3.out.2.1 hkp (by simp)
  have K := hkp.kc HS3.out.2.2 (by simp [Nos])
  generalize recol _ _ _ = c4 at *
  have HS4 := Lib.hid (And.intro hS (And.intro (show SSR w4 c4 3 y 4 m PS0 from ⟨hE, hM⟩) K))
  clear hkp hb hS K hM hE HS3
  go_wp2_with fail
  go_loopw [9] (fun i wr => ∃ (j : Nat) (Y : PS) (col : Nat → Nat), j ≤ n ∧ j ≤ 10 ∧ i = .int .i64 j ∧ Y.ok ∧ Y.s.L ≤ 4 + 2900 * j ∧ SS wr col 1 x 2 b Y ∧ SSR wr col 3 y 4 m Y ∧ Kc wr col [(0, .since w)]) (fun i _ => (10 - intOf i).toNat)
  case atStart => exact ⟨0, PS0, c4, by omega, by omega, rfl, PS0_ok, Nat.le_refl _, HS4.out.1, HS4.out.2.1, HS4.out.2.2⟩
  case round =>
    obtain ⟨j, Y, col, hjn, hj1, rfl, hok, hYL, hS, hM, K⟩ := hrel
    have HY := Lib.hid (And.intro hok hYL)
    clear HS4 hok hYL
    by_cases hlt : j < n ∧ j < 10
    · have l1 : (j : Int) < n := by omega
      have l2 : (j : Int) < 10 := by omega
      have HRE := Lib.hid (HR.out.below K.sinceB).drew
      have HIN := Lib.hid (HF.out j hlt.1)
      obtain ⟨b0, off, rfl, -, -⟩ := HR.out.some_ (by omega)
      have hjlt := hlt.1
      have hd := Kp.below (below_drew wr) [] col
      have HS := Lib.hid (And.intro (SS.kp hS hd (by simp) (by simp)) (And.intro (SSR.kp hM hd (by simp) (by simp)) (hd.kc K (by simp))))
      have HPL := Lib.hid (PS.blkA_ok (t := t) (n := L j) (g := G j) HY.out.1)
      clear hS hM K hlt hd
      by_cases hL : L j ≤ 100
      · have l3 : (L j : Int) ≤ 100 := by omega
        have hne : (blkAE t (L j) (G j) != blkAE t (L j) (G j)) = false := by simp
        have hd1 : decide (L j ≤ 100) = true := decide_eq_true hL
        have hd2 : decide ((L j : Int) ≤ 100) = true := decide_eq_true l3
        go_wp2_with fail
        refine wp_region_allH (fun w' => Rd w' (some ⟨b0, off, none⟩) n (fun i => .slice (B i) (L i) (C i))) [14, 22] [(0,1),(1,1),(2,1),(3,1),(4,1),(5,1),(6,1),(7,1),(8,1),(9,1),(10,1),(11,1),(12,1),(13,1),(15,1),(16,1),(17,1),(18,1),(19,1),(20,1),(21,1),(14,2),(22,2),(23,1),(24,0)] (by kernel_rfl) (by kernel_rfl) (fun _ _ d _ _ h => by cases d <;> exact h) (HRE.out) ?_
        generalize wr.drew = we at *
        repeat (first | (refine oH_freeG rfl rfl (fun w' hS => by have s1 := Rd.at_ hS hjlt; (try dsimp only at s1); clear hS; go_simp; with_reducible rfl) ?_; go_simp) | (refine oH_skipG rfl rfl ?_; go_simp))
        refine oH_doG rfl rfl (fun KK hKK => ?_)
        go_simp
        have hP := qput_all t (B j) (L j) (C j) (G j) HS.out.1 (by omega) HY.out.1 (by have := HY.out.2; omega) (HIN.out.1.below HS.out.2.2.sinceB)
        refine hP.mono ?_
        rintro e w6 ⟨c6, rfl, hS, hkp⟩
        have hM := SSR.kp HS.out.2.1 hkp (by simp) (by simp)
        have K := hkp.kc HS.out.2.2 (by simp [Nos])
        have HS6 := Lib.hid (And.intro hS (And.intro hM K))
        have HR6 := Lib.hid (HR.out.below K.sinceB)
        clear hS hM K hkp HS HRE hP
        refine hKK _ _ ⟨HR6.out, ?_⟩
        clear hKK KK
        refine oH_doG rfl rfl (fun KK hKK => ?_)
        go_simp
        have hP := rqput_all t (B j) (L j) (C j) (G j) HS6.out.2.1 (by omega) HY.out.1 (by have := HY.out.2; omega) (HIN.out.1.below HS6.out.2.2.sinceB)
        refine hP.mono ?_
        rintro e w7 ⟨c7, rfl, hM, hkp⟩
        have hS := SS.kp HS6.out.1 hkp (by simp) (by simp)
        have K := hkp.kc HS6.out.2.2 (by simp [Nos])
        have HS7 := Lib.hid (And.intro hS (And.intro hM K))
        have HR7 := Lib.hid (HR.out.below K.sinceB)
        clear hS hM K hkp HS6 HR6 hP
        refine hKK _ _ ⟨HR7.out, ?_⟩
        clear hKK KK HR7
        repeat (first | (refine oH_freeG rfl rfl (fun w' hS => by skip; clear hS; go_simp; with_reducible rfl) ?_; go_simp) | (refine oH_skipG rfl rfl ?_; go_simp))
        repeat (refine oH_still rfl (fun KK hKK => ?_); go_simp; refine hKK _ ?_; clear hKK KK)
        refine oH_nil ?_
        go_wp2
        go_roundw
        case rel => exact ⟨j + 1, _, c7, by omega, by omega, by go_num, HPL.out.1, by have := HPL.out.2.1; have := HY.out.2; omega, HS7.out.1, HS7.out.2.1, HS7.out.2.2⟩
        case measure => simp [intOf]; omega
      · have l3 : ¬ (L j : Int) ≤ 100 := by omega
        have hd1 : decide (L j ≤ 100) = false := decide_eq_false hL
        have hd2 : decide ((L j : Int) ≤ 100) = false := decide_eq_false l3
        have hL2 : 100 < L j := by omega
        have K : Kn wr.drew [.rd (some ⟨b0, off, none⟩) n (fun i => .slice (B i) (L i) (C i))] := ⟨HRE.out, trivial⟩
        go_wp2_with fail
        refine wp_region_allX (fun w' => Kn w' _) [14, 22] [(0,1),(1,1),(2,1),(3,1),(4,1),(5,1),(6,1),(7,1),(8,1),(9,1),(10,1),(11,1),(12,1),(13,1),(15,1),(16,1),(17,1),(18,1),(19,1),(20,1),(21,1),(14,2),(22,2),(23,1),(24,0)] (by kernel_rfl) (by kernel_rfl) (fun _ _ d _ _ h => by cases d <;> exact h) (K) ?_
        generalize wr.drew = we at *
        repeat (first | (refine oX_freeG rfl rfl (fun w' hS => by have s1 := Rd.at_ hS.1 hjlt; (try dsimp only at s1); clear hS; go_simp; with_reducible rfl) ?_; go_simp) | (refine oX_skipG rfl rfl ?_; go_simp))
        refine oX_passG rfl rfl K ?_
        go_simp
        repeat (first | (refine oX_freeG rfl rfl (fun w' hS => by skip; clear hS; go_simp; with_reducible rfl) ?_; go_simp) | (refine oX_skipG rfl rfl ?_; go_simp))
        refine oX_passG rfl rfl K ?_
        go_simp
        repeat (first | (refine oX_freeG rfl rfl (fun w' hS => by skip; clear hS; go_simp; with_reducible rfl) ?_; go_simp) | (refine oX_skipG rfl rfl ?_; go_simp))
        repeat (refine oX_still rfl (fun KK hKK => ?_); go_simp; refine hKK _ ?_; clear hKK KK)
        refine oX_nil ?_
        clear K
        go_wp2
        go_roundw
        case rel => exact ⟨j + 1, Y, col, by omega, by omega, by go_num, HY.out.1, by have := HY.out.2; omega, HS.out.1, HS.out.2.1, HS.out.2.2⟩
        case measure => simp [intOf]; omega
    · have HS := Lib.hid (And.intro hS (And.intro hM K))
      have hex : (¬ (j : Int) < n) ∨ ((j : Int) < n ∧ ¬ (j : Int) < 10) := by omega
      have hL3 : Y.s.L ≤ 1000000 := by have := HY.out.2; omega
      clear hlt hS hM K
      rcases hex with l1 | ⟨l1, l2⟩
      all_goals
        go_wp2_with fail
        have K := Kn.drew (Kn.start wr)
        refine wp_region_allX (fun w' => Kn w' _) [0, 3, 6] [(0,2),(1,1),(2,1),(5,1),(3,2),(4,1),(6,2),(7,1),(8,1),(9,1),(10,0)] (by kernel_rfl) (by kernel_rfl) (fun _ _ d _ _ h => by cases d <;> exact h) (K) ?_
        generalize World.drew _ = wd6 at K ⊢
        refine oX_doG rfl rfl (fun KK hKK => ?_)
        go_simp
        refine (alive08 _).mono ?_
        rintro e w5 ⟨rfl, hb5⟩
        replace K := K.below hb5
        refine hKK (fun w' => Kn w' _) _ _ ?hsub K ?_
        case hsub => exact fun _ h => h
        clear hKK KK hb5
        repeat (first | (refine oX_freeG rfl rfl (fun w' hS => by skip; clear hS; go_simp; with_reducible rfl) ?_; go_simp) | (refine oX_skipG rfl rfl ?_; go_simp))
        refine oX_doG rfl rfl (fun KK hKK => ?_)
        go_simp
        refine (bytes_s (HS.out.1.1.below K.1) hL3).mono ?_
        rintro e w6 ⟨A6, rfl, Q6, _, hb6⟩
        replace K := K.below hb6
        replace K := K.add (x := .rd A6 Y.s.L (by8 (dig Y.s.V Y.s.L))) Q6
        refine hKK (fun w' => Kn w' _) _ _ ?hsub K ?_
        case hsub => exact fun _ h => h.2
        clear hKK KK hb6
        clear Q6
        repeat (first | (refine oX_freeG rfl rfl (fun w' hS => by have s1 := conv_any (c := Y.s.L) hS.1; clear hS; go_simp; with_reducible rfl) ?_; go_simp) | (refine oX_skipG rfl rfl ?_; go_simp))
        refine oX_doG rfl rfl (fun KK hKK => ?_)
        go_simp
        refine (rbytes_s (HS.out.2.1.1.below K.2.1) hL3).mono ?_
        rintro e w7 ⟨A7, c7, rfl, Q7, _, hb7⟩
        replace K := K.below hb7
        replace K := K.add (x := .rd A7 Y.s.L (by8 (dig Y.s.V Y.s.L))) Q7
        refine hKK (fun w' => Kn w' _) _ _ ?hsub K ?_
        case hsub => exact fun _ h => h.2
        clear hKK KK hb7
        clear Q7
        repeat (first | (refine oX_freeG rfl rfl (fun w' hS => by have s1 := conv_any (c := c7) hS.1; clear hS; go_simp; with_reducible rfl) ?_; go_simp) | (refine oX_skipG rfl rfl ?_; go_simp))
        repeat (refine oX_still rfl (fun KK hKK => ?_); go_simp; refine hKK _ ?_; clear hKK KK)
        refine oX_nil ?_
        have HL := Lib.hid K.2.2.1
        clear K
        go_wp2
        go_ret
        exact ⟨rfl, Kin.Below.step HS.out.2.2.sinceB HL.out HS.out.2.2.sinceB.size⟩
end QuantWrites
namespace QuantWrites
set_option maxRecDepth 100000 in
theorem lifted (os : Os) (started : os.Started) (H : Type) (enc : TypeId × Value → H) :
    ReturnsInHanded {} Try.checked os 9 .any (Rows.quantWritesSpec.pre6 enc Try.prog Try.f9 Rows.quantWritesRow.domain false) (Rows.quantWritesSpec.post enc Try.prog Try.f9 false true false false) := by
  refine returnsInHanded_of_change (C := Try.checked) own started (by kernel_rfl) Try.func9
    (ChangeSpec.witness6 (enc := enc) (C := Try.checked) false ⟨#[], #[.slice none 0 0, .int .i64 0], []⟩ 8 (by kernel_rfl) (by kernel_rfl) (by kernel_rfl) (by kernel_rfl)) ?_
  intro W base args ds gs before hval0 hW hcnd _
  have hval : ∀ (j : Nat) t v, Try.f9.params[j]? = some t → args[j]? = some v → Value.okWide Try.prog W .any base t v := hval0
  refine law_post (tb := 4) laidOut (by kernel_rfl) rfl Try.underlying4 rfl (fun ds' h => ?_) hW ?_
  · rw [Try.params9] at h
    match ds', h with
    | [d1, d2], _ => exact ⟨rfl, rfl, rfl⟩
  obtain ⟨p, q, hA0, hV, rfl, hfz, hnd⟩ := hW
  have hA : DataW.TrodAll enc Try.prog W 0 (fun _ => true) true Try.f9.params.toList args.toList ds p := hA0
  rw [Try.params9] at hA hval
  obtain ⟨v0, vs0, d0, ds0, p0, q0, hargs, rfl, rfl, h0, r0⟩ := trodAll_cons hA
  obtain ⟨v1, vs1, d1, ds1, p1, q1, rfl, rfl, rfl, h1, r1⟩ := trodAll_cons r0
  obtain ⟨rfl, rfl, rfl⟩ := trodAll_nil r1
  obtain rfl : args = #[v0, v1] := by cases args; simp_all
  obtain ⟨A0, n0, c0, B0, L0, C0, G0, rfl, rr0, t0, l0, m0⟩ := open_intss Try.underlying56 Try.underlying57 (by kernel_rfl) Try.underlying3 (by kernel_rfl) (hval 0 56 v0 rfl rfl) h0
  obtain ⟨a1, rfl, rfl, rfl, w1⟩ := open_int Try.underlying3 (hval 1 3 v1 rfl rfl) h1
  exact walk W A0 n0 c0 B0 L0 C0 G0 rr0 t0 l0 m0 a1 (bounds_i64 w1)
theorem over : Rows.quantWritesRow.holds Try.pinned (OpenSpec.ofChange Rows.quantWritesSpec) :=
  OpenClaim.holds_of_wide 9 Try.f9 rfl rfl rfl rfl rfl rfl rfl ⟨rfl, rfl, rfl, rfl, rfl⟩ rfl rfl rfl rfl rfl (by kernel_rfl) Try.func9 (by kernel_rfl)
    (of_decide_eq_true (by kernel_rfl)) (by unfold Func.isWrapper; first | (rw [if_pos (by decide +kernel)]; kernel_rfl) | (rw [if_neg (by decide +kernel)]; exact ⟨rfl, rfl⟩))
    (fun os started H enc _ => lifted os started H enc)
end QuantWrites
theorem quantWrites_holds : Rows.QuantWritesSaid := QuantWrites.over

end Go.Proofs.Ytmnoddmecghjdaa
