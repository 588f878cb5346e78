/- CoderBack: bits that were put with any chances are got by the same, and that was all; with a byte more behind it is not. No condition. -/
import Derived.Test.YtfooglenhepogaaAl4
import Derived.Test.YtfooglenhepogaaApp2
import Derived.Test.YtfooglenhepogaaRg3
import Derived.Test.YtfooglenhepogaaKn7
namespace Go.Kin
/-- The encoder behind the first k acts. -/
def runA (F : Nat → Nat → Int) : Nat → St
  | 0 => ⟨0, 4, 4294967295⟩
  | k + 1 => (runA F k).putI (F k 0 % 65536) (F k 1)
theorem runA_congr {F G : Nat → Nat → Int} : ∀ {q : Nat}, (∀ i, i < q → ∀ r, F i r = G i r) → runA F q = runA G q
  | 0, _ => rfl
  | q + 1, h => by
    simp only [runA]
    rw [runA_congr (fun i hi => h i (by omega)), h q (by omega), h q (by omega)]
theorem runA_ok (F : Nat → Nat → Int) : ∀ k, (runA F k).ok
  | 0 => by unfold runA St.ok; dsimp only; omega
  | k + 1 => (putI_ok (runA_ok F k)).1
theorem runA_within (F : Nat → Nat → Int) {k : Nat} : ∀ {q : Nat}, k ≤ q → Within (runA F k) (runA F q)
  | 0, h => by obtain rfl : k = 0 := (by omega); exact Within.refl _
  | q + 1, h => by
    rcases Nat.lt_or_ge k (q + 1) with hlt | hge
    · exact (runA_within F (by omega)).trans (putI_within (runA_ok F q))
    · obtain rfl : k = q + 1 := (by omega)
      exact Within.refl _
theorem runA_step {F : Nat → Nat → Int} {g : Nat → Int} {n k q : Nat} {d : DS} (hk : k < q) (ht : Twin g (runA F k) d) (hf : Kin.Fair (F k 0 % 65536) (F k 1)) (hn : (runA F q).L ≤ n) (hnum : ∀ k, k ≤ (runA F q).L → numOf g k = (runA F q).V / 256 ^ ((runA F q).L - k)) :
    (d.get g n (F k 0 % 65536)).2.1 = 0 ∧ (d.get g n (F k 0 % 65536)).1 = F k 1 ∧ Twin g (runA F (k + 1)) (d.get g n (F k 0 % 65536)).2.2 := by
  obtain ⟨h1, h2⟩ := twin_put (n := n) ht (runA_ok F k) hf (runA_within F (show k + 1 ≤ q by omega)) (by have := (runA_ok F q).1; omega) hn hnum
  refine ⟨h1, h2, ?_⟩
  have := (twin_get ht h1).2
  rw [h2] at this
  exact this
theorem putE_no {c bit : Int} {s : St} (h : ¬ Kin.Fair c bit) : putE c bit = 1 ∧ s.putI c bit = s := by
  have h' := fun x => h (fair_iff.1 x)
  unfold putE St.putI
  rw [if_neg h', if_neg h']
  exact ⟨rfl, rfl⟩
theorem putE_yes {c bit : Int} (h : Kin.Fair c bit) : putE c bit = 0 := by unfold putE; rw [if_pos (fair_iff.2 h)]
/-- The code, and a 0 behind. -/
def digZ (V L : Nat) (i : Nat) : Int := if i < L then dig V L i else 0
theorem digZ_byt (V L : Nat) : Byt (digZ V L) := fun i => by
  unfold digZ
  split
  · exact dig_byt V L i
  · omega
end Go.Kin
namespace Go.Proofs.Ytfooglenhepogaa
open Go.ChangeShapes Go.WideShapes Go.ChangeAt Go.RowKit Go.Joins Go.Kin
set_option linter.unusedVariables false
theorem info_act : (Try.prog.info? 28).map (fun i => (i.zero, i.size, i.bytes)) = some (some (.agg #[.int .i64 0, .int .i64 0]), 2, 16) := by kernel_rfl
theorem parts_act : ∃ i, Try.prog.info? 28 = some i ∧ i.zero = some (.agg #[.int .i64 0, .int .i64 0]) ∧ i.size = 2 ∧ i.bytes = 16 := info_parts info_act
namespace CoderBack
set_option maxRecDepth 100000 in
set_option maxHeartbeats 8000000 in
theorem walk (w : World) (A : Option Addr) (n cap : Nat) (f : Nat → Nat → Int) (hR : Rd w A (n * 2) (recs 2 f)) (hf : ∀ i r, I64 (f i r)) (hn : n ≤ cap) (hcap : cap ≤ 9223372036854775807) : Calls Try.prog 5 #[.slice A n cap] w fun e w' => e = .returned (.bool true) ∧ Below w.heap.size w w' := by
  obtain ⟨ia, hia, ha0, ha1, ha2⟩ := parts_act
  have HIA := Lib.hid hia
  obtain ⟨i0, hi0, hz0, hz1, hz2⟩ := parts_u8
  have HI := Lib.hid hi0
  have HR := Lib.hid hR
  clear hR hf hia hi0
  have HK := Lib.hid (Kc.start w)
  go_enter Try.func5, Try.ntmps5
  go_wp2_with (go_at_call 23; fail)
  refine (cnew_s _).mono ?_
  rintro e w1 ⟨x, rfl, hE, hb⟩
  replace hE := hE (fun _ => 0) 1
  have K := HK.out.upd (i := 1) ⟨by omega, trivial⟩ (Upd.of_below hb _ _)
  generalize recol _ _ _ = c1 at *
  have HS := Lib.hid (And.intro hE K)
  clear hb hE K HK
  go_wp2_with (go_at_call 23; fail)
  go_loopw [4, 5] (fun dn i wr => ∃ (j q c : Nat) (B : Option Addr) (F : Nat → Nat → Int) (col : Nat → Nat), j ≤ n ∧ j ≤ 400 ∧ q ≤ j ∧ (runA F q).L ≤ 4 + q ∧ i = .int .i64 j ∧ dn = .slice B q c ∧ (∀ i, i < q → Kin.Fair (F i 0 % 65536) (F i 1)) ∧ Recs wr col 2 28 2 B q c F ∧ EncS wr col 1 x (runA F q) ∧ Kc wr col [(0, .since w)]) (fun _ i _ => (400 - intOf i).toNat)
  case atStart => exact ⟨0, 0, 0, none, fun _ _ => 0, c1, by omega, by omega, by omega, Nat.le_refl _, rfl, rfl, fun i hi => absurd hi (by omega), ⟨OwnK.nil _ _ _ _ _, fun b o hA => by cases hA⟩, HS.out.1, HS.out.2⟩
  case round =>
    obtain ⟨j, q, c, B, F, col, hjn, hj4, hq, hL, rfl, rfl, hF, hD, hE, K⟩ := hrel
    clear HS
    have HF := Lib.hid hF
    clear hF
    by_cases hlt : j < n ∧ j < 400
    · have l1 : (j : Int) < n := by omega
      have l2 : (j : Int) < 400 := by omega
      have HRW : Hid (Rd wr A (n * 2) (recs 2 f)) := Lib.hid (HR.out.below K.sinceB)
      obtain ⟨b, off, rfl, _⟩ := HR.out.some_ (by omega)
      have HS := Lib.hid (And.intro hD (And.intro hE K))
      clear hE K hD
      have hjlt := hlt.1
      clear hlt
      go_wp2_with fail
      refine wp_region_allH (fun w' => Rd w' (some ⟨b, off, none⟩) (n * 2) (recs 2 f)) [12] [(0,1),(1,1),(2,1),(3,1),(4,1),(5,1),(7,1),(8,1),(9,1),(10,1),(11,1),(6,0),(12,2),(13,0)] (by kernel_rfl) (by kernel_rfl) (fun _ _ d _ _ h => by cases d <;> exact h) (HRW.out.drew) ?_
      repeat (first | (refine oH_freeG rfl rfl (fun w' hS => by have s1 := recs_cell hS (i := j) (r := 0) hjlt (by omega); rw [Nat.add_zero] at s1; have s2 := recs_cell hS (i := j) (r := 1) hjlt (by omega); clear hS; go_simp; with_reducible rfl) ?_; go_simp) | (refine oH_skipG rfl rfl ?_; go_simp))
      refine oH_still rfl (fun KK hKK => ?_)
      go_simp
      refine ⟨_, Calls.flip (chance_any _ _), hKK _ ?_⟩
      clear hKK KK
      refine oH_doG rfl rfl (fun KK hKK => ?_)
      go_simp
      refine (put_s (HS.out.2.1.below (below_drew _)) (by omega) (f j 0 % 65536) (f j 1) (by omega)).mono ?_
      rintro e w4 ⟨rfl, hu, hE⟩
      have K := (Kc.below HS.out.2.2 (below_drew _)).upd (i := 1) ⟨by omega, trivial⟩ hu
      have hD := (HS.out.1.below (below_drew _)).upd (j := 1) (by omega) hu
      generalize recol _ _ _ = c4 at *
      clear hu HS
      by_cases hfair : Kin.Fair (f j 0 % 65536) (f j 1)
      · rw [putE_yes hfair]
        have HF2 := Lib.hid hfair
        have HE2 : Hid (EncS w4 c4 1 x (runA (recAdd F q (f j)) (q + 1)) ∧ (runA (recAdd F q (f j)) (q + 1)).L ≤ 4 + (q + 1)) := Lib.hid (by
          have e1 : runA (recAdd F q (f j)) (q + 1) = (runA F q).putI (f j 0 % 65536) (f j 1) := by
            simp only [runA]
            rw [runA_congr (F := recAdd F q (f j)) (G := F) (fun i hi r => by unfold recAdd; rw [if_pos hi])]
            unfold recAdd
            rw [if_neg (by omega), if_neg (by omega)]
          rw [e1]
          refine ⟨hE, ?_⟩
          have := (putI_ok (c := f j 0 % 65536) (bit := f j 1) (runA_ok F q)).2.1
          omega)
        have HF3 : Hid (∀ i, i < q + 1 → Kin.Fair (recAdd F q (f j) i 0 % 65536) (recAdd F q (f j) i 1)) := Lib.hid (fun i hi => by
          unfold recAdd
          by_cases h : i < q
          · rw [if_pos h, if_pos h]; exact HF.out i h
          · rw [if_neg h, if_neg h]; exact hfair)
        clear hfair hE
        refine hKK _ _ ⟨HR.out.below K.sinceB, ?_⟩
        clear hKK KK
        repeat (refine oH_still rfl (fun KK hKK => ?_); go_simp; refine hKK _ ?_; clear hKK KK)
        refine oH_nil ?_
        have x1 := recs_cell (HR.out.below K.sinceB) (i := j) (r := 0) hjlt (by omega)
        have x2 := recs_cell (HR.out.below K.sinceB) (i := j) (r := 1) hjlt (by omega)
        rw [Nat.add_zero] at x1
        have HD := Lib.hid hD
        have HK := Lib.hid K
        have hO := OwnK.alloc hD.1 (.cells #[.int .i64 (f j 0), .int .i64 (f j 1)] 28)
        have HSR : Hid (∀ r, r < 1 * 2 → (w4.alloc (.cells #[.int .i64 (f j 0), .int .i64 (f j 1)] 28)).cell? ((⟨w4.heap.size, 0, none⟩ : Addr).add r) = some (.int .i64 (f j r))) := Lib.hid (fun r hr => by
          rw [addr_add, Nat.zero_add, (Box.new w4 _ _).cell]
          have hr' : r = 0 ∨ r = 1 := by omega
          rcases hr' with rfl | rfl <;> rfl)
        clear hD K
        go_wp2_with (at_builtin; refine wpList_appK rfl (.tmp 41) (.tmp 46) rfl Try.underlying22 HIA.out ha0 ha1 ha2 rfl (by omega) rfl rfl hO HSR.out (fun _ => rfl) ?_ ?_ ?_ ?_; rotate_right; intro A5 c5 w5 hO5 hG5 hL5)
        case refine_1 => unfold maxLen; omega
        case refine_2 => omega
        case refine_3 => omega
        have hM := Recs.more HD.out (by omega) ((Below.refl _ w4).alloc (Nat.le_refl _) _) hO5 hG5 hL5 (by simp)
        have hE5 := HE2.out.1.upd (j := 2) (by omega) hM.2
        have K5 := HK.out.upd (i := 2) ⟨by omega, trivial⟩ hM.2
        go_roundw
        case rel => exact ⟨j + 1, q + 1, c5, A5, _, _, by omega, by omega, by omega, HE2.out.2, by go_num, rfl, HF3.out, hM.1, hE5, K5⟩
        case measure => simp [intOf]; omega
      · obtain ⟨e1, e2⟩ := putE_no (s := runA F q) hfair
        rw [e2] at hE
        rw [e1]
        clear hfair e1 e2
        have HS := Lib.hid (And.intro hD (And.intro hE K))
        clear hE K hD
        refine hKK _ _ ⟨HR.out.below HS.out.2.2.sinceB, ?_⟩
        clear hKK KK
        repeat (refine oH_still rfl (fun KK hKK => ?_); go_simp; refine hKK _ ?_; clear hKK KK)
        refine oH_nil ?_
        go_wp2
        go_roundw
        case rel => exact ⟨j + 1, q, c, B, F, c4, by omega, by omega, by omega, hL, by go_num, rfl, HF.out, HS.out.1, HS.out.2.1, HS.out.2.2⟩
        case measure => simp [intOf]; omega
    · have hex : (¬ (j : Int) < n) ∨ ((j : Int) < n ∧ ¬ (j : Int) < 400) := by omega
      clear hlt
      have hok := runA_ok F q
      have hwi := runA_within F (show 0 ≤ q by omega)
      have hVL := within_lt hwi (by have := hok.1; omega)
      have HNY : Hid (∀ k, k ≤ (runA F q).L → numOf (dig (runA F q).V (runA F q).L) k = (runA F q).V / 256 ^ ((runA F q).L - k)) := Lib.hid (fun k hk => numOf_dig hVL k hk)
      have HNZ : Hid (∀ k, k ≤ (runA F q).L → numOf (digZ (runA F q).V (runA F q).L) k = (runA F q).V / 256 ^ ((runA F q).L - k)) := Lib.hid (fun k hk => by
        rw [numOf_congr (h := dig (runA F q).V (runA F q).L) (fun i hi => by unfold digZ; rw [if_pos (by omega)])]
        exact numOf_dig hVL k hk)
      have h4 := hE.2.1
      have HS := Lib.hid (And.intro hD (And.intro hE K))
      have HST : Hid (∀ k, k < q → ∀ d, Kin.Twin (dig (runA F q).V (runA F q).L) (runA F k) d → (d.get (dig (runA F q).V (runA F q).L) (runA F q).L (F k 0 % 65536)).2.1 = 0 ∧ (d.get (dig (runA F q).V (runA F q).L) (runA F q).L (F k 0 % 65536)).1 = F k 1 ∧ Kin.Twin (dig (runA F q).V (runA F q).L) (runA F (k + 1)) (d.get (dig (runA F q).V (runA F q).L) (runA F q).L (F k 0 % 65536)).2.2) := Lib.hid (fun k hk d ht => runA_step hk ht (HF.out k hk) (Nat.le_refl _) HNY.out)
      have HSZ : Hid (∀ k, k < q → ∀ d, Kin.Twin (digZ (runA F q).V (runA F q).L) (runA F k) d → (d.get (digZ (runA F q).V (runA F q).L) ((runA F q).L + 1) (F k 0 % 65536)).2.1 = 0 ∧ (d.get (digZ (runA F q).V (runA F q).L) ((runA F q).L + 1) (F k 0 % 65536)).1 = F k 1 ∧ Kin.Twin (digZ (runA F q).V (runA F q).L) (runA F (k + 1)) (d.get (digZ (runA F q).V (runA F q).L) ((runA F q).L + 1) (F k 0 % 65536)).2.2) := Lib.hid (fun k hk d ht => runA_step hk ht (HF.out k hk) (by omega) HNZ.out)
      have HEY : Hid (∀ d, Kin.Twin (dig (runA F q).V (runA F q).L) (runA F q) d → endK ((runA F q).L - d.I) d.rest = 0) := Lib.hid (fun d ht => by
        have h1 := HNY.out _ (Nat.le_refl _)
        rw [Nat.sub_self, Nat.pow_zero, Nat.div_one] at h1
        have h2 := ht.num
        have h3 := ht.I
        unfold endK
        rw [if_pos (by omega)])
      have HEZ : Hid (∀ d, Kin.Twin (digZ (runA F q).V (runA F q).L) (runA F q) d → endK ((runA F q).L + 1 - d.I) d.rest = 41) := Lib.hid (fun d ht => by
        have h3 := ht.I
        unfold endK
        rw [if_neg (by omega)])
      have hLb : (runA F q).L ≤ 404 := by omega
      clear hE hD K hok hwi hVL HF hL
      rcases hex with l1 | ⟨l1, l2⟩
      · go_wp2_with (go_at_call 23; fail)
        refine (bytes_s HS.out.2.1 (by omega)).mono ?_
        rintro e w2 ⟨A2, rfl, hR2, hA2, hb⟩
        have K := ((HS.out.2.2.upd (i := 5) ⟨by omega, trivial⟩ (Upd.of_below hb _ _)).fresh hR2 hA2)
        have hD := HS.out.1.upd (j := 5) (by omega) (Upd.of_below hb _ _)
        generalize recol _ _ _ = c2 at *
        generalize hLq : (runA F q).L = L at *
        generalize hVq : (runA F q).V = V at *
        have HS2 := Lib.hid (And.intro hD K)
        have HR2 := Lib.hid hR2
        have HQ := Lib.hid (And.intro hLq hVq)
        clear hD K HS hA2 hb hR2 hLq hVq HNY HNZ
        go_wp2_with (go_at_call 23; fail)
        refine (open_s A2 L L _ _ HR2.out (dig_byt _ _) h4 (Nat.le_refl _) (by omega) (by omega)).mono ?_
        rintro e w3 ⟨y, rfl, hY, hb⟩
        replace hY := hY c2 3
        have K := HS2.out.2.upd (i := 3) ⟨by omega, by omega, trivial⟩ (Upd.of_below hb _ _)
        have hD := HS2.out.1.upd (j := 3) (by omega) (Upd.of_below hb _ _)
        generalize recol _ _ _ = c3 at *
        have HS := Lib.hid (And.intro hD (And.intro hY K))
        have HRA := Lib.hid K.1.1
        clear hD hY K HS2 HR2 hb
        go_wp2_with (first | (go_at_call 23; fail) | (at_builtin; refine wpList_appE rfl (.tmp 56) (.tmp 57) rfl Try.underlying36 HI.out hz0 hz1 hz2 rfl rfl rfl HRA.out (fun _ => rfl) ?_ ?_ ?_; rotate_right; intro A5 c5 w5 hO5 hb5) | (at_builtin; refine wpList_app1 rfl (.tmp 58) (.tmp 59) rfl Try.underlying36 HI.out hz0 hz1 hz2 rfl rfl rfl (OwnS.alloc hO5 _) (Box.new _ _ _) rfl ?_ ?_ ?_ ?_; rotate_right; intro A6 c6 w6 bo hO6 hbo ho6))
        any_goals (first | (unfold maxLen; omega) | omega | (have := hb5.size; simp; omega))
        have hbB : Below w3.heap.size w3 w6 := (hb5.alloc hb5.size _).trans (ho6.below hbo (by have := hb5.size; simp; omega))
        have hcc : L + 1 ≤ c6 ∧ c6 ≤ 9223372036854775807 := by
          rcases hO6.cases with ⟨_, h0, _⟩ | ⟨_, _, _, _, h0, h1⟩
          · omega
          · unfold maxLen at h1; omega
        have hR6 : Rd w6 A6 (L + 1) (by8 (digZ V L)) := hO6.rd.congr (fun i hi => by
          unfold digZ
          by_cases h : i < L
          · rw [if_pos h]; simp only [by8, if_pos h]
          · rw [if_neg h]; simp only [by8, if_neg h])
        have HS2 := Lib.hid (And.intro (HS.out.1.below hbB) (And.intro (HS.out.2.1.below hbB) (Kc.below HS.out.2.2 hbB)))
        have HR6 := Lib.hid hR6
        clear hR6 hbB hO6 ho6 hbo hO5 hb5 HS HRA
        refine (open_s A6 (L + 1) c6 (digZ V L) _ HR6.out (digZ_byt _ _) (by omega) hcc.1 hcc.2 (by omega)).mono ?_
        rintro e w7 ⟨z, rfl, hZ, hb⟩
        replace hZ := hZ c3 4
        have hD := HS2.out.1.upd (j := 4) (by omega) (Upd.of_below hb _ _)
        have hY := HS2.out.2.1.upd (j := 4) (by omega) (Upd.of_below hb _ _)
        have K := HS2.out.2.2.upd (i := 4) ⟨by omega, by omega, trivial⟩ (Upd.of_below hb _ _)
        generalize recol _ _ _ = c7 at *
        have HS := Lib.hid (And.intro hD (And.intro hY (And.intro hZ K)))
        clear hD hY hZ K hb HS2 HR6
        go_wp2_with (go_at_call 23; fail)
        go_loopw [11] (fun i wr2 => ∃ (k : Nat) (dy dz : DS) (col : Nat → Nat), k ≤ q ∧ i = .int .i64 k ∧ Kin.Twin (dig V L) (runA F k) dy ∧ Kin.Twin (digZ V L) (runA F k) dz ∧ Recs wr2 col 2 28 2 B q c F ∧ DecS wr2 col 3 y L (dig V L) dy ∧ DecS wr2 col 4 z (L + 1) (digZ V L) dz ∧ Kc wr2 col [(0, .since w)]) (fun i _ => ((q : Int) - intOf i).toNat)
        case atStart => exact ⟨0, _, _, c7, by omega, rfl, twin_start _, twin_start _, HS.out.1, HS.out.2.1, HS.out.2.2.1, HS.out.2.2.2.2⟩
        case round =>
          obtain ⟨k, dy, dz, col2, hk, rfl, hty, htz, hD, hY, hZ, K⟩ := hrel
          clear HS
          by_cases hkq : k < q
          · have l3 : (k : Int) < q := by omega
            obtain ⟨y1, y2, y3⟩ := HST.out k hkq dy hty
            obtain ⟨z1, z2, z3⟩ := HSZ.out k hkq dz htz
            have hRD := hD.1.rd
            obtain ⟨b2, off2, rfl, _⟩ := hRD.some_ (by omega)
            have x1 := recs_cell hRD (i := k) (r := 0) hkq (by omega)
            rw [Nat.add_zero] at x1
            have hch : 0 ≤ F k 0 % 65536 ∧ F k 0 % 65536 ≤ 65535 := by omega
            have HS := Lib.hid (And.intro hD (And.intro hY (And.intro hZ K)))
            have HY3 := Lib.hid (And.intro y1 (And.intro y2 y3))
            have HZ3 := Lib.hid (And.intro z1 (And.intro z2 z3))
            clear hD hY hZ K hty htz hRD y1 y2 y3 z1 z2 z3 HST HSZ HEY HEZ
            go_wp2_with (go_at_call 17; refine (chance_any _ _).mono ?_; rintro e w' ⟨rfl, rfl⟩)
            refine (get_s HS.out.2.1 (dig_byt _ _) _ hch).mono ?_
            rintro e w8 ⟨rfl, hu, hY⟩
            rw [HY3.out.1, HY3.out.2.1]
            have hD := HS.out.1.upd (j := 3) (by omega) hu
            have hZ := HS.out.2.2.1.upd (j := 3) (by omega) hu
            have K := HS.out.2.2.2.upd (i := 3) ⟨by omega, trivial⟩ hu
            generalize recol _ _ _ = c8 at *
            have x1' := recs_cell hD.1.rd (i := k) (r := 0) hkq (by omega)
            rw [Nat.add_zero] at x1'
            clear HS hu x1
            have HS := Lib.hid (And.intro hD (And.intro hY (And.intro hZ K)))
            clear hD hY hZ K
            go_wp2_with (go_at_call 17; refine (chance_any _ _).mono ?_; rintro e w' ⟨rfl, rfl⟩)
            refine (get_s HS.out.2.2.1 (digZ_byt _ _) _ hch).mono ?_
            rintro e w9 ⟨rfl, hu, hZ⟩
            rw [HZ3.out.1, HZ3.out.2.1]
            have hD := HS.out.1.upd (j := 4) (by omega) hu
            have hY := HS.out.2.1.upd (j := 4) (by omega) hu
            have K := HS.out.2.2.2.upd (i := 4) ⟨by omega, trivial⟩ hu
            generalize recol _ _ _ = c9 at *
            have x1'' := recs_cell hD.1.rd (i := k) (r := 1) hkq (by omega)
            clear HS hu x1'
            have HS := Lib.hid (And.intro hD (And.intro hY (And.intro hZ K)))
            clear hD hY hZ K
            have hne : (F k 1 != F k 1) = false := by simp
            go_wp2
            go_roundw
            case rel => exact ⟨k + 1, _, _, c9, by omega, by go_num, HY3.out.2.2, HZ3.out.2.2, HS.out.1, HS.out.2.1, HS.out.2.2.1, HS.out.2.2.2⟩
            case measure => simp [intOf]; omega
          · obtain rfl : k = q := by omega
            have ey := HEY.out dy hty
            have ez := HEZ.out dz htz
            have HS := Lib.hid (And.intro hY (And.intro hZ K))
            have HYZ := Lib.hid (And.intro ey ez)
            clear hD hY hZ K hty htz ey ez HST HSZ HEY HEZ
            go_wp2_with (first | (go_at_call 23; refine (alive04 _).mono ?_; rintro e w8 ⟨rfl, hb8⟩) | (go_at_call_of 28 (Value.pointer (some ⟨y, 0, none⟩)); refine (end_s (HS.out.1.below hb8)).mono ?_; rintro e w9 ⟨rfl, rfl⟩; rw [HYZ.out.1]) | (go_at_call 28; refine (end_s (HS.out.2.1.below hb8)).mono ?_; rintro e w9 ⟨rfl, rfl⟩; rw [HYZ.out.2]))
            go_ret
            exact ⟨rfl, Kin.Below.step HS.out.2.2.sinceB hb8 HS.out.2.2.sinceB.size⟩
      · go_wp2_with (go_at_call 23; fail)
        refine (bytes_s HS.out.2.1 (by omega)).mono ?_
        rintro e w2 ⟨A2, rfl, hR2, hA2, hb⟩
        have K := ((HS.out.2.2.upd (i := 5) ⟨by omega, trivial⟩ (Upd.of_below hb _ _)).fresh hR2 hA2)
        have hD := HS.out.1.upd (j := 5) (by omega) (Upd.of_below hb _ _)
        generalize recol _ _ _ = c2 at *
        generalize hLq : (runA F q).L = L at *
        generalize hVq : (runA F q).V = V at *
        have HS2 := Lib.hid (And.intro hD K)
        have HR2 := Lib.hid hR2
        have HQ := Lib.hid (And.intro hLq hVq)
        clear hD K HS hA2 hb hR2 hLq hVq HNY HNZ
        go_wp2_with (go_at_call 23; fail)
        refine (open_s A2 L L _ _ HR2.out (dig_byt _ _) h4 (Nat.le_refl _) (by omega) (by omega)).mono ?_
        rintro e w3 ⟨y, rfl, hY, hb⟩
        replace hY := hY c2 3
        have K := HS2.out.2.upd (i := 3) ⟨by omega, by omega, trivial⟩ (Upd.of_below hb _ _)
        have hD := HS2.out.1.upd (j := 3) (by omega) (Upd.of_below hb _ _)
        generalize recol _ _ _ = c3 at *
        have HS := Lib.hid (And.intro hD (And.intro hY K))
        have HRA := Lib.hid K.1.1
        clear hD hY K HS2 HR2 hb
        go_wp2_with (first | (go_at_call 23; fail) | (at_builtin; refine wpList_appE rfl (.tmp 56) (.tmp 57) rfl Try.underlying36 HI.out hz0 hz1 hz2 rfl rfl rfl HRA.out (fun _ => rfl) ?_ ?_ ?_; rotate_right; intro A5 c5 w5 hO5 hb5) | (at_builtin; refine wpList_app1 rfl (.tmp 58) (.tmp 59) rfl Try.underlying36 HI.out hz0 hz1 hz2 rfl rfl rfl (OwnS.alloc hO5 _) (Box.new _ _ _) rfl ?_ ?_ ?_ ?_; rotate_right; intro A6 c6 w6 bo hO6 hbo ho6))
        any_goals (first | (unfold maxLen; omega) | omega | (have := hb5.size; simp; omega))
        have hbB : Below w3.heap.size w3 w6 := (hb5.alloc hb5.size _).trans (ho6.below hbo (by have := hb5.size; simp; omega))
        have hcc : L + 1 ≤ c6 ∧ c6 ≤ 9223372036854775807 := by
          rcases hO6.cases with ⟨_, h0, _⟩ | ⟨_, _, _, _, h0, h1⟩
          · omega
          · unfold maxLen at h1; omega
        have hR6 : Rd w6 A6 (L + 1) (by8 (digZ V L)) := hO6.rd.congr (fun i hi => by
          unfold digZ
          by_cases h : i < L
          · rw [if_pos h]; simp only [by8, if_pos h]
          · rw [if_neg h]; simp only [by8, if_neg h])
        have HS2 := Lib.hid (And.intro (HS.out.1.below hbB) (And.intro (HS.out.2.1.below hbB) (Kc.below HS.out.2.2 hbB)))
        have HR6 := Lib.hid hR6
        clear hR6 hbB hO6 ho6 hbo hO5 hb5 HS HRA
        refine (open_s A6 (L + 1) c6 (digZ V L) _ HR6.out (digZ_byt _ _) (by omega) hcc.1 hcc.2 (by omega)).mono ?_
        rintro e w7 ⟨z, rfl, hZ, hb⟩
        replace hZ := hZ c3 4
        have hD := HS2.out.1.upd (j := 4) (by omega) (Upd.of_below hb _ _)
        have hY := HS2.out.2.1.upd (j := 4) (by omega) (Upd.of_below hb _ _)
        have K := HS2.out.2.2.upd (i := 4) ⟨by omega, by omega, trivial⟩ (Upd.of_below hb _ _)
        generalize recol _ _ _ = c7 at *
        have HS := Lib.hid (And.intro hD (And.intro hY (And.intro hZ K)))
        clear hD hY hZ K hb HS2 HR6
        go_wp2_with (go_at_call 23; fail)
        go_loopw [11] (fun i wr2 => ∃ (k : Nat) (dy dz : DS) (col : Nat → Nat), k ≤ q ∧ i = .int .i64 k ∧ Kin.Twin (dig V L) (runA F k) dy ∧ Kin.Twin (digZ V L) (runA F k) dz ∧ Recs wr2 col 2 28 2 B q c F ∧ DecS wr2 col 3 y L (dig V L) dy ∧ DecS wr2 col 4 z (L + 1) (digZ V L) dz ∧ Kc wr2 col [(0, .since w)]) (fun i _ => ((q : Int) - intOf i).toNat)
        case atStart => exact ⟨0, _, _, c7, by omega, rfl, twin_start _, twin_start _, HS.out.1, HS.out.2.1, HS.out.2.2.1, HS.out.2.2.2.2⟩
        case round =>
          obtain ⟨k, dy, dz, col2, hk, rfl, hty, htz, hD, hY, hZ, K⟩ := hrel
          clear HS
          by_cases hkq : k < q
          · have l3 : (k : Int) < q := by omega
            obtain ⟨y1, y2, y3⟩ := HST.out k hkq dy hty
            obtain ⟨z1, z2, z3⟩ := HSZ.out k hkq dz htz
            have hRD := hD.1.rd
            obtain ⟨b2, off2, rfl, _⟩ := hRD.some_ (by omega)
            have x1 := recs_cell hRD (i := k) (r := 0) hkq (by omega)
            rw [Nat.add_zero] at x1
            have hch : 0 ≤ F k 0 % 65536 ∧ F k 0 % 65536 ≤ 65535 := by omega
            have HS := Lib.hid (And.intro hD (And.intro hY (And.intro hZ K)))
            have HY3 := Lib.hid (And.intro y1 (And.intro y2 y3))
            have HZ3 := Lib.hid (And.intro z1 (And.intro z2 z3))
            clear hD hY hZ K hty htz hRD y1 y2 y3 z1 z2 z3 HST HSZ HEY HEZ
            go_wp2_with (go_at_call 17; refine (chance_any _ _).mono ?_; rintro e w' ⟨rfl, rfl⟩)
            refine (get_s HS.out.2.1 (dig_byt _ _) _ hch).mono ?_
            rintro e w8 ⟨rfl, hu, hY⟩
            rw [HY3.out.1, HY3.out.2.1]
            have hD := HS.out.1.upd (j := 3) (by omega) hu
            have hZ := HS.out.2.2.1.upd (j := 3) (by omega) hu
            have K := HS.out.2.2.2.upd (i := 3) ⟨by omega, trivial⟩ hu
            generalize recol _ _ _ = c8 at *
            have x1' := recs_cell hD.1.rd (i := k) (r := 0) hkq (by omega)
            rw [Nat.add_zero] at x1'
            clear HS hu x1
            have HS := Lib.hid (And.intro hD (And.intro hY (And.intro hZ K)))
            clear hD hY hZ K
            go_wp2_with (go_at_call 17; refine (chance_any _ _).mono ?_; rintro e w' ⟨rfl, rfl⟩)
            refine (get_s HS.out.2.2.1 (digZ_byt _ _) _ hch).mono ?_
            rintro e w9 ⟨rfl, hu, hZ⟩
            rw [HZ3.out.1, HZ3.out.2.1]
            have hD := HS.out.1.upd (j := 4) (by omega) hu
            have hY := HS.out.2.1.upd (j := 4) (by omega) hu
            have K := HS.out.2.2.2.upd (i := 4) ⟨by omega, trivial⟩ hu
            generalize recol _ _ _ = c9 at *
            have x1'' := recs_cell hD.1.rd (i := k) (r := 1) hkq (by omega)
            clear HS hu x1'
            have HS := Lib.hid (And.intro hD (And.intro hY (And.intro hZ K)))
            clear hD hY hZ K
            have hne : (F k 1 != F k 1) = false := by simp
            go_wp2
            go_roundw
            case rel => exact ⟨k + 1, _, _, c9, by omega, by go_num, HY3.out.2.2, HZ3.out.2.2, HS.out.1, HS.out.2.1, HS.out.2.2.1, HS.out.2.2.2⟩
            case measure => simp [intOf]; omega
          · obtain rfl : k = q := by omega
            have ey := HEY.out dy hty
            have ez := HEZ.out dz htz
            have HS := Lib.hid (And.intro hY (And.intro hZ K))
            have HYZ := Lib.hid (And.intro ey ez)
            clear hD hY hZ K hty htz ey ez HST HSZ HEY HEZ
            go_wp2_with (first | (go_at_call 23; refine (alive04 _).mono ?_; rintro e w8 ⟨rfl, hb8⟩) | (go_at_call_of 28 (Value.pointer (some ⟨y, 0, none⟩)); refine (end_s (HS.out.1.below hb8)).mono ?_; rintro e w9 ⟨rfl, rfl⟩; rw [HYZ.out.1]) | (go_at_call 28; refine (end_s (HS.out.2.1.below hb8)).mono ?_; rintro e w9 ⟨rfl, rfl⟩; rw [HYZ.out.2]))
            go_ret
            exact ⟨rfl, Kin.Below.step HS.out.2.2.sinceB hb8 HS.out.2.2.sinceB.size⟩
end CoderBack
namespace CoderBack
set_option maxRecDepth 100000 in
theorem lifted (os : Os) (started : os.Started) (H : Type) (enc : TypeId × Value → H) :
    ReturnsInHanded {} Try.checked os 5 .any (Rows.coderBackSpec.pre6 enc Try.prog Try.f5 Rows.coderBackRow.domain false) (Rows.coderBackSpec.post enc Try.prog Try.f5 false true false false) := by
  refine returnsInHanded_of_change (C := Try.checked) own started (by kernel_rfl) Try.func5
    (ChangeSpec.witness6 (enc := enc) (C := Try.checked) false ⟨#[], #[.slice none 0 0], []⟩ 8 (by kernel_rfl) (by kernel_rfl) (by kernel_rfl) (by kernel_rfl)) ?_
  intro W base args ds gs before hval0 hW hcnd _
  have hval : ∀ (j : Nat) t v, Try.f5.params[j]? = some t → args[j]? = some v → Value.okWide Try.prog W .any base t v := hval0
  refine law_post (tb := 4) laidOut (by kernel_rfl) rfl Try.underlying4 rfl (fun ds' h => ?_) hW ?_
  · rw [Try.params5] at h
    match ds', h with
    | [d1], _ => exact ⟨rfl, rfl, rfl⟩
  obtain ⟨p, q, hA0, hV, rfl, hfz, hnd⟩ := hW
  have hA : DataW.TrodAll enc Try.prog W 0 (fun _ => true) true Try.f5.params.toList args.toList ds p := hA0
  rw [Try.params5] at hA hval
  obtain ⟨v0, vs0, d0, ds0, p0, q0, hargs, rfl, rfl, h0, r0⟩ := trodAll_cons hA
  obtain ⟨rfl, rfl, rfl⟩ := trodAll_nil r0
  obtain rfl : args = #[v0] := by cases args; simp_all
  obtain ⟨A0, n0, c0, g0, rfl, rr0, t0, l0, m0⟩ := open_acts Try.underlying22 Try.underlying28 (by kernel_rfl) ⟨rfl, rfl⟩ ⟨rfl, rfl⟩ Try.underlying3 (by kernel_rfl) (hval 0 22 v0 rfl rfl) h0
  exact walk W A0 n0 c0 g0 rr0 t0 l0 m0
theorem over : Rows.coderBackRow.holds Try.pinned (OpenSpec.ofChange Rows.coderBackSpec) :=
  OpenClaim.holds_of_wide 5 Try.f5 rfl rfl rfl rfl rfl rfl rfl ⟨rfl, rfl, rfl, rfl, rfl⟩ rfl rfl rfl rfl rfl (by kernel_rfl) Try.func5 (by kernel_rfl)
    (of_decide_eq_true (by kernel_rfl)) (by unfold Func.isWrapper; first | (rw [if_pos (by decide +kernel)]; kernel_rfl) | (rw [if_neg (by decide +kernel)]; exact ⟨rfl, rfl⟩))
    (fun os started H enc _ => lifted os started H enc)
end CoderBack
theorem coderBack_holds : Rows.CoderBackSaid := CoderBack.over

end Go.Proofs.Ytfooglenhepogaa
