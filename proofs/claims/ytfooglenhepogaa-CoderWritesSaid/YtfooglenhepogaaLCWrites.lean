/- CoderWrites: any bits with any chances are put as the document says, or answered with its error; behind each the code is as it says, and so is the chance behind. No condition. -/
import Derived.Test.YtfooglenhepogaaCe5
import Derived.Test.YtfooglenhepogaaClose3
import Derived.Test.YtfooglenhepogaaRg4
namespace Go.Proofs.Ytfooglenhepogaa
open Go.ChangeShapes Go.WideShapes Go.ChangeAt Go.RowKit Go.Joins Go.Kin
set_option linter.unusedVariables false
namespace CoderWrites
set_option maxRecDepth 100000 in
set_option maxHeartbeats 8000000 in
theorem walk (w : World) (A : Option Addr) (n cap : Nat) (f : Nat → Nat → Int) (hR : Rd w A (n * 2) (recs 2 f)) (hf : ∀ i r, I64 (f i r)) (hn : n ≤ cap) (hcap : cap ≤ 9223372036854775807) : Calls Try.prog 3 #[.slice A n cap] w fun e w' => e = .returned (.bool true) ∧ Below w.heap.size w w' := by
  have HR := Lib.hid hR
  clear hR hf
  have HK := Lib.hid (Kc.start w)
  go_enter Try.func3, Try.ntmps3
  go_wp2_with (go_at_call 23; fail)
  refine (cnew_s _).mono ?_
  rintro e w1 ⟨x, rfl, hE, hb⟩
  replace hE := hE (fun _ => 0) 1
  have K := HK.out.upd (i := 1) ⟨by omega, trivial⟩ (Upd.of_below hb _ _)
  generalize recol _ _ _ = c1 at *
  have HDK := Lib.hid (And.intro hE K)
  clear hb hE K HK
  go_wp2_with (go_at_call 23; fail)
  refine (rnew_s _).mono ?_
  rintro e w2 ⟨m, rfl, hM, hb⟩
  replace hM := hM c1 2
  have hE := HDK.out.1.upd (j := 2) (by omega) (Upd.of_below hb _ _)
  have K := HDK.out.2.upd (i := 2) ⟨by omega, trivial⟩ (Upd.of_below hb _ _)
  generalize recol _ _ _ = c2 at *
  have HS := Lib.hid (And.intro hE (And.intro hM K))
  clear hb hE hM K HDK
  go_wp2_with (go_at_call 23; fail)
  go_loopw [5] (fun i wr => ∃ (j : Nat) (s : St) (col : Nat → Nat), j ≤ n ∧ j ≤ 400 ∧ s.L ≤ 4 + j ∧ i = .int .i64 j ∧ EncS wr col 1 x s ∧ EncRS wr col 2 m s ∧ Kc wr col [(0, .since w)]) (fun i _ => (400 - intOf i).toNat)
  case atStart => exact ⟨0, _, c2, by omega, by omega, Nat.le_refl _, rfl, HS.out.1, HS.out.2.1, HS.out.2.2⟩
  case round =>
    obtain ⟨j, s, col, hjn, hj4, hL, rfl, hE, hM, K⟩ := hrel
    clear HS
    by_cases hlt : j < n ∧ j < 400
    · have l1 : (j : Int) < n := by omega
      have l2 : (j : Int) < 400 := by omega
      have HRW : Hid (Rd wr A (n * 2) (recs 2 f)) := Lib.hid (HR.out.below K.sinceB)
      obtain ⟨b, off, rfl, -, -⟩ := HR.out.some_ (by omega)
      have x1 := recs_cell HRW.out (i := j) (r := 0) hlt.1 (by omega)
      rw [Nat.add_zero] at x1
      have hjlt := hlt.1
      have HS := Lib.hid (And.intro (hE.below (below_drew _)) (And.intro (hM.below (below_drew _)) (Kc.below K (below_drew _))))
      have HRD := Lib.hid (HRW.out.drew)
      have HPL : Hid (∀ c b, (s.putI c b).L ≤ 4 + (j + 1)) := Lib.hid (fun c b => by have := (putI_ok (c := c) (bit := b) hE.1).2.1; omega)
      clear hE hM K hlt
      have hand := and_65535 (f j 0)
      have hmod : f j 0 % 65536 % 65536 = f j 0 % 65536 := by omega
      generalize f j 0 % 65536 = ch at *
      have hch : 0 ≤ ch ∧ ch ≤ 65535 := by omega
      have HMOD := Lib.hid hmod
      clear hmod
      go_wp2_with fail
      clear x1 hand
      have hne : (putE ch (f j 1) != putE ch (f j 1)) = false := by simp
      have hnx : (nextP ch (f j 1) != nextP ch (f j 1)) = false := by simp
      have hnb := nextP_bd ch (f j 1)
      have z1 : IntKind.i64.wrap (nextP ch (f j 1)) = nextP ch (f j 1) := by rw [IntKind.wrap_i64]; omega
      refine wp_region_allH (fun w' => Rd w' (some ⟨b, off, none⟩) (n * 2) (recs 2 f)) [2, 8, 16, 20, 26, 34] [(0,1),(1,1),(3,1),(4,1),(5,1),(6,1),(7,1),(9,1),(10,1),(11,1),(12,1),(13,1),(14,1),(15,1),(2,2),(8,2),(16,2),(17,1),(18,1),(19,1),(21,1),(22,1),(23,1),(24,1),(25,1),(28,1),(29,1),(30,1),(31,1),(32,1),(33,1),(20,2),(26,2),(27,1),(34,2),(35,1),(36,0)] (by kernel_rfl) (by kernel_rfl) (fun _ _ d _ _ h => by cases d <;> exact h) (HRD.out) ?_
      generalize wr.drew = wd at *
      repeat (first | (refine oH_freeG rfl rfl (fun w' hS => by have s1 := recs_cell hS (i := j) (r := 1) hjlt (by omega); clear hS; go_simp; with_reducible rfl) ?_; go_simp) | (refine oH_skipG rfl rfl ?_; go_simp))
      refine oH_doG rfl rfl (fun KK hKK => ?_)
      go_simp
      refine (chance_any _ _).mono ?_
      rintro e w' ⟨rfl, rfl⟩
      rw [HMOD.out]
      refine hKK _ _ ⟨HRD.out, ?_⟩
      clear hKK KK
      refine oH_doG rfl rfl (fun KK hKK => ?_)
      go_simp
      refine (put_s HS.out.1 (by omega) ch (f j 1) hch).mono ?_
      rintro e w4 ⟨rfl, hu, hE⟩
      have K := HS.out.2.2.upd (i := 1) ⟨by omega, trivial⟩ hu
      have hM := HS.out.2.1.upd (j := 1) (by omega) hu
      generalize recol _ _ _ = c4 at *
      clear HS hu HRD HRW
      have HS := Lib.hid (And.intro hE (And.intro hM K))
      have HRD : Hid (Rd w4 (some ⟨b, off, none⟩) (n * 2) (recs 2 f)) := Lib.hid (HR.out.below K.sinceB)
      clear hE hM K
      refine hKK _ _ ⟨HRD.out, ?_⟩
      clear hKK KK
      refine oH_doG rfl rfl (fun KK hKK => ?_)
      go_simp
      refine (rput_s HS.out.2.1 (by omega) ch (f j 1)).mono ?_
      rintro e w5 ⟨rfl, hu, hM⟩
      have K := HS.out.2.2.upd (i := 2) ⟨by omega, trivial⟩ hu
      have hE := HS.out.1.upd (j := 2) (by omega) hu
      generalize recol _ _ _ = c5 at *
      clear HS hu HRD
      have HS := Lib.hid (And.intro hE (And.intro hM K))
      have HRD : Hid (Rd w5 (some ⟨b, off, none⟩) (n * 2) (recs 2 f)) := Lib.hid (HR.out.below K.sinceB)
      clear hE hM K
      refine hKK _ _ ⟨HRD.out, ?_⟩
      clear hKK KK
      repeat (first | (refine oH_freeG rfl rfl (fun w' hS => by have s1 := recs_cell hS (i := j) (r := 1) hjlt (by omega); clear hS; go_simp; with_reducible rfl) ?_; go_simp) | (refine oH_skipG rfl rfl ?_; go_simp))
      refine oH_doG rfl rfl (fun KK hKK => ?_)
      go_simp
      refine (chance_any _ _).mono ?_
      rintro e w' ⟨rfl, rfl⟩
      rw [HMOD.out]
      refine hKK _ _ ⟨HRD.out, ?_⟩
      clear hKK KK
      refine oH_doG rfl rfl (fun KK hKK => ?_)
      go_simp
      refine (next_any _ _ _ hch).mono ?_
      rintro e w' ⟨rfl, rfl⟩
      refine hKK _ _ ⟨HRD.out, ?_⟩
      clear hKK KK
      repeat (first | (refine oH_freeG rfl rfl (fun w' hS => by skip; clear hS; go_simp; with_reducible rfl) ?_; go_simp) | (refine oH_skipG rfl rfl ?_; go_simp))
      refine oH_doG rfl rfl (fun KK hKK => ?_)
      go_simp
      refine (rnext_any _ _ _ hch).mono ?_
      rintro e w' ⟨rfl, rfl⟩
      refine hKK _ _ ⟨HRD.out, ?_⟩
      clear hKK KK
      repeat (first | (refine oH_freeG rfl rfl (fun w' hS => by skip; clear hS; go_simp; with_reducible rfl) ?_; go_simp) | (refine oH_skipG rfl rfl ?_; go_simp))
      repeat (refine oH_still rfl (fun KK hKK => ?_); go_simp; refine hKK _ ?_; clear hKK KK)
      refine oH_nil ?_
      clear hne hnx hnb z1
      have hL2 := HPL.out ch (f j 1)
      generalize s.putI ch (f j 1) = s2 at *
      generalize nextP ch (f j 1) = nx at *
      generalize putE ch (f j 1) = pe at *
      go_wp2_with fail
      have HK5 := Lib.hid (Kn.drew (Kn.start w5))
      have zt : (j : Int).tmod 20 = (j : Int) % 20 := Int.tmod_eq_emod_of_nonneg (by omega)
      have zs : IntKind.i64.wrap ((n : Int) - 1) = (n : Int) - 1 := by rw [IntKind.wrap_i64]; omega
      rcases (show ((j : Int) % 20 == 0) = true ∨ (((j : Int) % 20 == 0) = false ∧ ((j : Int) == (n : Int) - 1) = true) ∨ (((j : Int) % 20 == 0) = false ∧ ((j : Int) == (n : Int) - 1) = false) by
        cases h1 : ((j : Int) % 20 == 0) <;> cases h2 : ((j : Int) == (n : Int) - 1) <;> simp) with g1 | ⟨g1, g2⟩ | ⟨g1, g2⟩
      · have K := HK5.out
        refine wp_region_allX (fun w' => Kn w' _) [12, 15] [(0,1),(1,1),(2,1),(3,1),(4,1),(5,1),(6,1),(7,1),(8,1),(9,1),(10,1),(11,1),(14,1),(12,2),(13,1),(15,2),(16,1),(17,1),(18,0)] (by kernel_rfl) (by kernel_rfl) (fun _ _ d _ _ h => by cases d <;> exact h) (K) ?_
        generalize World.drew _ = wd6 at K ⊢
        repeat (first | (refine oX_freeG rfl rfl (fun w' hS => by skip; clear hS; go_simp; with_reducible rfl) ?_; go_simp) | (refine oX_skipG rfl rfl ?_; go_simp))
        refine oX_doG rfl rfl (fun KK hKK => ?_)
        go_simp
        refine (bytes_s (HS.out.1.below K.1) (by omega)).mono ?_
        rintro e w6 ⟨A6, rfl, Q6, _, hb6⟩
        replace K := K.below hb6
        replace K := K.add (x := .rd A6 s2.L (by8 (dig s2.V s2.L))) Q6
        refine hKK (fun w' => Kn w' _) _ _ ?hsub K ?_
        case hsub => exact fun _ h => h.2
        clear hKK KK hb6
        clear Q6
        repeat (first | (refine oX_freeG rfl rfl (fun w' hS => by have s1 := conv_any (c := s2.L) hS.1; clear hS; go_simp; with_reducible rfl) ?_; go_simp) | (refine oX_skipG rfl rfl ?_; go_simp))
        refine oX_doG rfl rfl (fun KK hKK => ?_)
        go_simp
        refine (rbytes_s (HS.out.2.1.below K.2.1) (by omega)).mono ?_
        rintro e w7 ⟨A7, c7, rfl, Q7, _, hb7⟩
        replace K := K.below hb7
        replace K := K.add (x := .rd A7 s2.L (by8 (dig s2.V s2.L))) Q7
        refine hKK (fun w' => Kn w' _) _ _ ?hsub K ?_
        case hsub => exact fun _ h => h.2
        clear hKK KK hb7
        clear Q7
        repeat (first | (refine oX_freeG rfl rfl (fun w' hS => by have s1 := conv_any (c := c7) hS.1; clear hS; go_simp; with_reducible rfl) ?_; go_simp) | (refine oX_skipG rfl rfl ?_; go_simp))
        repeat (refine oX_still rfl (fun KK hKK => ?_); go_simp; refine hKK _ ?_; clear hKK KK)
        refine oX_nil ?_
        have HL := Lib.hid K.2.2.1
        clear K g1 zt zs HK5
        go_wp2
        go_roundw
        case rel => exact ⟨j + 1, s2, c5, by omega, by omega, by omega, by go_num, HS.out.1.below HL.out, HS.out.2.1.below HL.out, Kc.below HS.out.2.2 HL.out⟩
        case measure => simp [intOf]; omega
      · have K := HK5.out
        refine wp_region_allX (fun w' => Kn w' _) [12, 15] [(0,1),(1,1),(2,1),(3,1),(4,1),(5,1),(6,1),(7,1),(8,1),(9,1),(10,1),(11,1),(14,1),(12,2),(13,1),(15,2),(16,1),(17,1),(18,0)] (by kernel_rfl) (by kernel_rfl) (fun _ _ d _ _ h => by cases d <;> exact h) (K) ?_
        generalize World.drew _ = wd6 at K ⊢
        repeat (first | (refine oX_freeG rfl rfl (fun w' hS => by skip; clear hS; go_simp; with_reducible rfl) ?_; go_simp) | (refine oX_skipG rfl rfl ?_; go_simp))
        refine oX_doG rfl rfl (fun KK hKK => ?_)
        go_simp
        refine (bytes_s (HS.out.1.below K.1) (by omega)).mono ?_
        rintro e w6 ⟨A6, rfl, Q6, _, hb6⟩
        replace K := K.below hb6
        replace K := K.add (x := .rd A6 s2.L (by8 (dig s2.V s2.L))) Q6
        refine hKK (fun w' => Kn w' _) _ _ ?hsub K ?_
        case hsub => exact fun _ h => h.2
        clear hKK KK hb6
        clear Q6
        repeat (first | (refine oX_freeG rfl rfl (fun w' hS => by have s1 := conv_any (c := s2.L) hS.1; clear hS; go_simp; with_reducible rfl) ?_; go_simp) | (refine oX_skipG rfl rfl ?_; go_simp))
        refine oX_doG rfl rfl (fun KK hKK => ?_)
        go_simp
        refine (rbytes_s (HS.out.2.1.below K.2.1) (by omega)).mono ?_
        rintro e w7 ⟨A7, c7, rfl, Q7, _, hb7⟩
        replace K := K.below hb7
        replace K := K.add (x := .rd A7 s2.L (by8 (dig s2.V s2.L))) Q7
        refine hKK (fun w' => Kn w' _) _ _ ?hsub K ?_
        case hsub => exact fun _ h => h.2
        clear hKK KK hb7
        clear Q7
        repeat (first | (refine oX_freeG rfl rfl (fun w' hS => by have s1 := conv_any (c := c7) hS.1; clear hS; go_simp; with_reducible rfl) ?_; go_simp) | (refine oX_skipG rfl rfl ?_; go_simp))
        repeat (refine oX_still rfl (fun KK hKK => ?_); go_simp; refine hKK _ ?_; clear hKK KK)
        refine oX_nil ?_
        have HL := Lib.hid K.2.2.1
        clear K g1 zt zs HK5
        go_wp2
        go_roundw
        case rel => exact ⟨j + 1, s2, c5, by omega, by omega, by omega, by go_num, HS.out.1.below HL.out, HS.out.2.1.below HL.out, Kc.below HS.out.2.2 HL.out⟩
        case measure => simp [intOf]; omega
      · have K := HK5.out
        refine wp_region_allX (fun w' => Kn w' _) [12, 15] [(0,1),(1,1),(2,1),(3,1),(4,1),(5,1),(6,1),(7,1),(8,1),(9,1),(10,1),(11,1),(14,1),(12,2),(13,1),(15,2),(16,1),(17,1),(18,0)] (by kernel_rfl) (by kernel_rfl) (fun _ _ d _ _ h => by cases d <;> exact h) (K) ?_
        generalize World.drew _ = wd6 at K ⊢
        repeat (first | (refine oX_freeG rfl rfl (fun w' hS => by skip; clear hS; go_simp; with_reducible rfl) ?_; go_simp) | (refine oX_skipG rfl rfl ?_; go_simp))
        refine oX_passG rfl rfl K ?_
        go_simp
        repeat (first | (refine oX_freeG rfl rfl (fun w' hS => by skip; clear hS; go_simp; with_reducible rfl) ?_; go_simp) | (refine oX_skipG rfl rfl ?_; go_simp))
        refine oX_passG rfl rfl K ?_
        go_simp
        repeat (first | (refine oX_freeG rfl rfl (fun w' hS => by skip; clear hS; go_simp; with_reducible rfl) ?_; go_simp) | (refine oX_skipG rfl rfl ?_; go_simp))
        repeat (refine oX_still rfl (fun KK hKK => ?_); go_simp; refine hKK _ ?_; clear hKK KK)
        refine oX_nil ?_
        have HL := Lib.hid K.1
        clear K g1 g2 zt zs HK5
        go_wp2
        go_roundw
        case rel => exact ⟨j + 1, s2, c5, by omega, by omega, by omega, by go_num, HS.out.1.below HL.out, HS.out.2.1.below HL.out, Kc.below HS.out.2.2 HL.out⟩
        case measure => simp [intOf]; omega
    · have HS := Lib.hid (And.intro hE (And.intro hM K))
      have hex : (¬ (j : Int) < n) ∨ ((j : Int) < n ∧ ¬ (j : Int) < 400) := by omega
      have hL3 : s.L ≤ 1000000 := by omega
      clear hlt hE hM K
      rcases hex with l1 | ⟨l1, l2⟩
      · go_wp2_with fail
        have K := Kn.drew (Kn.start wr)
        refine wp_region_allX (fun w' => Kn w' _) [0, 3, 6] [(0,2),(1,1),(2,1),(5,1),(3,2),(4,1),(6,2),(7,1),(8,1),(9,1),(10,0)] (by kernel_rfl) (by kernel_rfl) (fun _ _ d _ _ h => by cases d <;> exact h) (K) ?_
        generalize World.drew _ = wd6 at K ⊢
        refine oX_doG rfl rfl (fun KK hKK => ?_)
        go_simp
        refine (alive04 _).mono ?_
        rintro e w5 ⟨rfl, hb5⟩
        replace K := K.below hb5
        refine hKK (fun w' => Kn w' _) _ _ ?hsub K ?_
        case hsub => exact fun _ h => h
        clear hKK KK hb5
        repeat (first | (refine oX_freeG rfl rfl (fun w' hS => by skip; clear hS; go_simp; with_reducible rfl) ?_; go_simp) | (refine oX_skipG rfl rfl ?_; go_simp))
        refine oX_doG rfl rfl (fun KK hKK => ?_)
        go_simp
        refine (bytes_s (HS.out.1.below K.1) hL3).mono ?_
        rintro e w6 ⟨A6, rfl, Q6, _, hb6⟩
        replace K := K.below hb6
        replace K := K.add (x := .rd A6 s.L (by8 (dig s.V s.L))) Q6
        refine hKK (fun w' => Kn w' _) _ _ ?hsub K ?_
        case hsub => exact fun _ h => h.2
        clear hKK KK hb6
        clear Q6
        repeat (first | (refine oX_freeG rfl rfl (fun w' hS => by have s1 := conv_any (c := s.L) hS.1; clear hS; go_simp; with_reducible rfl) ?_; go_simp) | (refine oX_skipG rfl rfl ?_; go_simp))
        refine oX_doG rfl rfl (fun KK hKK => ?_)
        go_simp
        refine (rbytes_s (HS.out.2.1.below K.2.1) hL3).mono ?_
        rintro e w7 ⟨A7, c7, rfl, Q7, _, hb7⟩
        replace K := K.below hb7
        replace K := K.add (x := .rd A7 s.L (by8 (dig s.V s.L))) Q7
        refine hKK (fun w' => Kn w' _) _ _ ?hsub K ?_
        case hsub => exact fun _ h => h.2
        clear hKK KK hb7
        clear Q7
        repeat (first | (refine oX_freeG rfl rfl (fun w' hS => by have s1 := conv_any (c := c7) hS.1; clear hS; go_simp; with_reducible rfl) ?_; go_simp) | (refine oX_skipG rfl rfl ?_; go_simp))
        repeat (refine oX_still rfl (fun KK hKK => ?_); go_simp; refine hKK _ ?_; clear hKK KK)
        refine oX_nil ?_
        have HL := Lib.hid K.2.2.1
        clear K
        go_wp2
        go_ret
        exact ⟨rfl, Kin.Below.step HS.out.2.2.sinceB HL.out HS.out.2.2.sinceB.size⟩
      · go_wp2_with fail
        have K := Kn.drew (Kn.start wr)
        refine wp_region_allX (fun w' => Kn w' _) [0, 3, 6] [(0,2),(1,1),(2,1),(5,1),(3,2),(4,1),(6,2),(7,1),(8,1),(9,1),(10,0)] (by kernel_rfl) (by kernel_rfl) (fun _ _ d _ _ h => by cases d <;> exact h) (K) ?_
        generalize World.drew _ = wd6 at K ⊢
        refine oX_doG rfl rfl (fun KK hKK => ?_)
        go_simp
        refine (alive04 _).mono ?_
        rintro e w5 ⟨rfl, hb5⟩
        replace K := K.below hb5
        refine hKK (fun w' => Kn w' _) _ _ ?hsub K ?_
        case hsub => exact fun _ h => h
        clear hKK KK hb5
        repeat (first | (refine oX_freeG rfl rfl (fun w' hS => by skip; clear hS; go_simp; with_reducible rfl) ?_; go_simp) | (refine oX_skipG rfl rfl ?_; go_simp))
        refine oX_doG rfl rfl (fun KK hKK => ?_)
        go_simp
        refine (bytes_s (HS.out.1.below K.1) hL3).mono ?_
        rintro e w6 ⟨A6, rfl, Q6, _, hb6⟩
        replace K := K.below hb6
        replace K := K.add (x := .rd A6 s.L (by8 (dig s.V s.L))) Q6
        refine hKK (fun w' => Kn w' _) _ _ ?hsub K ?_
        case hsub => exact fun _ h => h.2
        clear hKK KK hb6
        clear Q6
        repeat (first | (refine oX_freeG rfl rfl (fun w' hS => by have s1 := conv_any (c := s.L) hS.1; clear hS; go_simp; with_reducible rfl) ?_; go_simp) | (refine oX_skipG rfl rfl ?_; go_simp))
        refine oX_doG rfl rfl (fun KK hKK => ?_)
        go_simp
        refine (rbytes_s (HS.out.2.1.below K.2.1) hL3).mono ?_
        rintro e w7 ⟨A7, c7, rfl, Q7, _, hb7⟩
        replace K := K.below hb7
        replace K := K.add (x := .rd A7 s.L (by8 (dig s.V s.L))) Q7
        refine hKK (fun w' => Kn w' _) _ _ ?hsub K ?_
        case hsub => exact fun _ h => h.2
        clear hKK KK hb7
        clear Q7
        repeat (first | (refine oX_freeG rfl rfl (fun w' hS => by have s1 := conv_any (c := c7) hS.1; clear hS; go_simp; with_reducible rfl) ?_; go_simp) | (refine oX_skipG rfl rfl ?_; go_simp))
        repeat (refine oX_still rfl (fun KK hKK => ?_); go_simp; refine hKK _ ?_; clear hKK KK)
        refine oX_nil ?_
        have HL := Lib.hid K.2.2.1
        clear K
        go_wp2
        go_ret
        exact ⟨rfl, Kin.Below.step HS.out.2.2.sinceB HL.out HS.out.2.2.sinceB.size⟩
end CoderWrites
namespace CoderWrites
set_option maxRecDepth 100000 in
theorem lifted (os : Os) (started : os.Started) (H : Type) (enc : TypeId × Value → H) :
    ReturnsInHanded {} Try.checked os 3 .any (Rows.coderWritesSpec.pre6 enc Try.prog Try.f3 Rows.coderWritesRow.domain false) (Rows.coderWritesSpec.post enc Try.prog Try.f3 false true false false) := by
  refine returnsInHanded_of_change (C := Try.checked) own started (by kernel_rfl) Try.func3
    (ChangeSpec.witness6 (enc := enc) (C := Try.checked) false ⟨#[], #[.slice none 0 0], []⟩ 8 (by kernel_rfl) (by kernel_rfl) (by kernel_rfl) (by kernel_rfl)) ?_
  intro W base args ds gs before hval0 hW hcnd _
  have hval : ∀ (j : Nat) t v, Try.f3.params[j]? = some t → args[j]? = some v → Value.okWide Try.prog W .any base t v := hval0
  refine law_post (tb := 4) laidOut (by kernel_rfl) rfl Try.underlying4 rfl (fun ds' h => ?_) hW ?_
  · rw [Try.params3] at h
    match ds', h with
    | [d1], _ => exact ⟨rfl, rfl, rfl⟩
  obtain ⟨p, q, hA0, hV, rfl, hfz, hnd⟩ := hW
  have hA : DataW.TrodAll enc Try.prog W 0 (fun _ => true) true Try.f3.params.toList args.toList ds p := hA0
  rw [Try.params3] at hA hval
  obtain ⟨v0, vs0, d0, ds0, p0, q0, hargs, rfl, rfl, h0, r0⟩ := trodAll_cons hA
  obtain ⟨rfl, rfl, rfl⟩ := trodAll_nil r0
  obtain rfl : args = #[v0] := by cases args; simp_all
  obtain ⟨A0, n0, c0, g0, rfl, rr0, t0, l0, m0⟩ := open_acts Try.underlying22 Try.underlying28 (by kernel_rfl) ⟨rfl, rfl⟩ ⟨rfl, rfl⟩ Try.underlying3 (by kernel_rfl) (hval 0 22 v0 rfl rfl) h0
  exact walk W A0 n0 c0 g0 rr0 t0 l0 m0
theorem over : Rows.coderWritesRow.holds Try.pinned (OpenSpec.ofChange Rows.coderWritesSpec) :=
  OpenClaim.holds_of_wide 3 Try.f3 rfl rfl rfl rfl rfl rfl rfl ⟨rfl, rfl, rfl, rfl, rfl⟩ rfl rfl rfl rfl rfl (by kernel_rfl) Try.func3 (by kernel_rfl)
    (of_decide_eq_true (by kernel_rfl)) (by unfold Func.isWrapper; first | (rw [if_pos (by decide +kernel)]; kernel_rfl) | (rw [if_neg (by decide +kernel)]; exact ⟨rfl, rfl⟩))
    (fun os started H enc _ => lifted os started H enc)
end CoderWrites
theorem coderWrites_holds : Rows.CoderWritesSaid := CoderWrites.over

end Go.Proofs.Ytfooglenhepogaa
