/- PlaneHalves: half of any plane, how far any two are apart, half of any frame, and whether it is right, are as the document says, or the error: proved for every two planes and every frame, no condition. -/
import Derived.Test.YtlkogokhcdehfaaAl6
import Derived.Test.YtlkogokhcdehfaaPw8
import Derived.Test.YtlkogokhcdehfaaPw10
import Derived.Test.YtlkogokhcdehfaaRg3
import Derived.Test.YtlkogokhcdehfaaClose
namespace Go.Proofs.Ytlkogokhcdehfaa
open Go.ChangeShapes Go.WideShapes Go.ChangeAt Go.RowKit Go.Joins Go.Kin
set_option linter.unusedVariables false

theorem hN_le {p : PlV} (h : halfB p.a p.b p.n = true) : hN p ≤ 9223372036854775807 := by
  simp only [halfB, Bool.and_eq_true, beq_iff_eq] at h
  obtain ⟨⟨hr, h6⟩, h7⟩ := h
  obtain ⟨r1, r2, r3, r4, r5⟩ := rightB_iff.1 hr
  unfold hN
  have : (p.a / 2).toNat * (p.b / 2).toNat ≤ 2048 * 2048 := Nat.mul_le_mul (by omega) (by omega)
  omega
theorem halfs_both (p : PlV) (w : World) (hp : p.Ok w) : ∃ r k, (∀ w1, Below w.heap.size w w1 → Calls Try.prog 41 #[.agg #[.int .i64 p.a, .int .i64 p.b, .slice p.A p.n p.c]] w1 (GivesP r k w1)) ∧ (∀ w1, Below w.heap.size w w1 → Calls Try.prog 42 #[.agg #[.int .i64 p.a, .int .i64 p.b, .slice p.A p.n p.c]] w1 (GivesP r k w1)) := by
  cases h : halfB p.a p.b p.n with
  | false => exact ⟨noP, 61, fun w1 _ => (half_no _ _ _ _ _ w1 h).mono fun _ _ h => .no h, fun w1 _ => (rhalf_no _ _ _ _ _ w1 h).mono fun _ _ h => .no h⟩
  | true => exact ⟨_, 0, fun w1 hb => (half_pl p w1 h (hp.rd.below hb) hp.byt).mono fun _ _ hm => GivesP.made (hN_le h) hm, fun w1 hb => (rhalf_pl p w1 h (hp.rd.below hb) hp.byt).mono fun _ _ hm => GivesP.made (hN_le h) hm⟩
theorem fars_both (p q : PlV) (w : World) (hp : p.Ok w) (hq : q.Ok w) : ∃ m k : Int, (∀ w1, Below w.heap.size w w1 → Calls Try.prog 40 #[.agg #[.int .i64 p.a, .int .i64 p.b, .slice p.A p.n p.c], .agg #[.int .i64 q.a, .int .i64 q.b, .slice q.A q.n q.c]] w1 fun e w' => e = .returned (.tuple #[.int .i64 m, .int .i64 k]) ∧ Below w1.heap.size w1 w') ∧
    (∀ w1, Below w.heap.size w w1 → Calls Try.prog 43 #[.agg #[.int .i64 p.a, .int .i64 p.b, .slice p.A p.n p.c], .agg #[.int .i64 q.a, .int .i64 q.b, .slice q.A q.n q.c]] w1 fun e w' => e = .returned (.tuple #[.int .i64 m, .int .i64 k]) ∧ Below w1.heap.size w1 w') := by
  cases h : farB p q with
  | false => exact ⟨0, 61, fun w1 _ => far_no p q w1 h, fun w1 _ => rfar_no p q w1 h⟩
  | true => exact ⟨_, 0, fun w1 hb => far_yes p q w1 (hp.below hb) (hq.below hb) h, fun w1 hb => rfar_yes p q w1 (hp.below hb) (hq.below hb) h⟩
theorem downs_both (y u x : PlV) (w : World) (hy : y.Ok w) (hu : u.Ok w) (hx : x.Ok w) : ∃ r s t k, (∀ w1, Below w.heap.size w w1 → Calls Try.prog 44 #[.agg (frCells y u x)] w1 (GivesF r s t k w1)) ∧ (∀ w1, Below w.heap.size w w1 → Calls Try.prog 45 #[.agg (frCells y u x)] w1 (GivesF r s t k w1)) := by
  cases hw : wholeB y u x with
  | false => exact ⟨noP, noP, noP, 61, fun w1 _ => down_no y u x w1 (by simp [downB, hw]), fun w1 _ => rdown_no y u x w1 hw⟩
  | true =>
    cases h : downB y u x with
    | false => exact ⟨noP, noP, noP, 61, fun w1 _ => down_no y u x w1 h, fun w1 hb => rdown_any y u x w1 (hy.below hb) (hu.below hb) (hx.below hb) false h hw⟩
    | true => exact ⟨_, _, _, 0, fun w1 hb => down_yes y u x w1 (hy.below hb) (hu.below hb) (hx.below hb) h, fun w1 hb => rdown_any y u x w1 (hy.below hb) (hu.below hb) (hx.below hb) true h hw⟩

namespace PlaneHalves
set_option maxRecDepth 100000 in
set_option maxHeartbeats 2000000 in
theorem walk_no (w : World) (p q y u x : PlV) (h : fitB p.n = false ∨ (fitB p.n = true ∧ fitB q.n = false) ∨ (fitB p.n = true ∧ fitB q.n = true ∧ fitFB y u x = false)) :
    Calls Try.prog 14 #[.agg #[.int .i64 p.a, .int .i64 p.b, .slice p.A p.n p.c], .agg #[.int .i64 q.a, .int .i64 q.b, .slice q.A q.n q.c], .agg (frCells y u x)] w fun e w' => e = .returned (.bool true) ∧ Below w.heap.size w w' := by
  have K := Kn.start w
  rcases h with h1 | ⟨h1, h2⟩ | ⟨h1, h2, h3⟩
  all_goals go_enter Try.func14, Try.ntmps14
  all_goals go_wp2_with fail
  all_goals refine (fits_any _ _ _ _ _ _).mono ?_
  all_goals rintro e w1 ⟨rfl, hb1⟩
  all_goals replace K := (((K.new w.heap.size _ _ rfl).new (w.heap.size + 1) _ _ (by simp)).new (w.heap.size + 1 + 1) _ _ (by simp)).below hb1
  all_goals clear hb1
  all_goals replace kc0 := Box.cells K.1
  all_goals replace kl0 := Box.lt K.1
  all_goals replace kc1 := Box.cells K.2.1
  all_goals replace kl1 := Box.lt K.2.1
  all_goals replace kc2 := Box.cells K.2.2.1
  all_goals replace kl2 := Box.lt K.2.2.1
  all_goals replace L : Below _ _ _ := K.2.2.2.1
  all_goals go_wp2_with fail
  all_goals refine (fits_any _ _ _ _ _ _).mono ?_
  all_goals rintro e w2 ⟨rfl, hb2⟩
  all_goals replace K := K.below hb2
  all_goals clear hb2
  all_goals replace kc0 := Box.cells K.1
  all_goals replace kl0 := Box.lt K.1
  all_goals replace kc1 := Box.cells K.2.1
  all_goals replace kl1 := Box.lt K.2.1
  all_goals replace kc2 := Box.cells K.2.2.1
  all_goals replace kl2 := Box.lt K.2.2.1
  all_goals replace L : Below _ _ _ := K.2.2.2.1
  all_goals go_wp2_with fail
  all_goals refine (fitsF_any y u x _).mono ?_
  all_goals rintro e w3 ⟨rfl, hb3⟩
  all_goals replace K := K.below hb3
  all_goals clear hb3
  all_goals replace kc0 := Box.cells K.1
  all_goals replace kl0 := Box.lt K.1
  all_goals replace kc1 := Box.cells K.2.1
  all_goals replace kl1 := Box.lt K.2.1
  all_goals replace kc2 := Box.cells K.2.2.1
  all_goals replace kl2 := Box.lt K.2.2.1
  all_goals replace L : Below _ _ _ := K.2.2.2.1
  all_goals go_wp2_with fail
  all_goals refine (alive06 _).mono ?_
  all_goals rintro e w4 ⟨rfl, hb4⟩
  all_goals replace K := K.below hb4
  all_goals clear hb4
  all_goals replace L : Below _ _ _ := K.2.2.2.1
  all_goals go_wp2
  all_goals go_ret
  all_goals exact ⟨rfl, L⟩

set_option maxRecDepth 100000 in
set_option maxHeartbeats 4000000 in
theorem walk_yes (w : World) (p q y u x : PlV) (hp : p.Ok w) (hq : q.Ok w) (hy : y.Ok w) (hu : u.Ok w) (hx : x.Ok w) (h1 : fitB p.n = true) (h2 : fitB q.n = true) (h3 : fitFB y u x = true) :
    Calls Try.prog 14 #[.agg #[.int .i64 p.a, .int .i64 p.b, .slice p.A p.n p.c], .agg #[.int .i64 q.a, .int .i64 q.b, .slice q.A q.n q.c], .agg (frCells y u x)] w fun e w' => e = .returned (.bool true) ∧ Below w.heap.size w w' := by
  obtain ⟨r, k, hA1, hA2⟩ := halfs_both p w hp
  obtain ⟨m, k2, hB1, hB2⟩ := fars_both p q w hp hq
  obtain ⟨ry, ru, rx, k3, hC1, hC2⟩ := downs_both y u x w hy hu hx
  have HA1 := Lib.hid hA1
  have HA2 := Lib.hid hA2
  have HB1 := Lib.hid hB1
  have HB2 := Lib.hid hB2
  have HC1 := Lib.hid hC1
  have HC2 := Lib.hid hC2
  clear hA1 hA2 hB1 hB2 hC1 hC2
  have K := Kn.start w
  go_enter Try.func14, Try.ntmps14
  go_wp2_with fail
  refine (fits_any _ _ _ _ _ _).mono ?_
  rintro e w1 ⟨rfl, hb1⟩
  replace K := (((K.new w.heap.size _ _ rfl).new (w.heap.size + 1) _ _ (by simp)).new (w.heap.size + 1 + 1) _ _ (by simp)).below hb1
  clear hb1
  replace kc0 := Box.cells K.1
  replace kl0 := Box.lt K.1
  replace kc1 := Box.cells K.2.1
  replace kl1 := Box.lt K.2.1
  replace kc2 := Box.cells K.2.2.1
  replace kl2 := Box.lt K.2.2.1
  replace L : Below _ _ _ := K.2.2.2.1
  go_wp2_with fail
  refine (fits_any _ _ _ _ _ _).mono ?_
  rintro e w2 ⟨rfl, hb2⟩
  replace K := K.below hb2
  clear hb2
  replace kc0 := Box.cells K.1
  replace kl0 := Box.lt K.1
  replace kc1 := Box.cells K.2.1
  replace kl1 := Box.lt K.2.1
  replace kc2 := Box.cells K.2.2.1
  replace kl2 := Box.lt K.2.2.1
  replace L : Below _ _ _ := K.2.2.2.1
  go_wp2_with fail
  refine (fitsF_any y u x _).mono ?_
  rintro e w3 ⟨rfl, hb3⟩
  replace K := K.below hb3
  clear hb3
  replace kc0 := Box.cells K.1
  replace kl0 := Box.lt K.1
  replace kc1 := Box.cells K.2.1
  replace kl1 := Box.lt K.2.1
  replace kc2 := Box.cells K.2.2.1
  replace kl2 := Box.lt K.2.2.1
  replace L : Below _ _ _ := K.2.2.2.1
  go_wp2_with fail
  refine (HA1.out _ L).mono ?_
  rintro e w4 ⟨A4, c4, rfl, R4, _, _, hb4⟩
  replace K := K.below hb4
  clear hb4
  replace kc0 := Box.cells K.1
  replace kl0 := Box.lt K.1
  replace kc1 := Box.cells K.2.1
  replace kl1 := Box.lt K.2.1
  replace kc2 := Box.cells K.2.2.1
  replace kl2 := Box.lt K.2.2.1
  replace L : Below _ _ _ := K.2.2.2.1
  replace K := K.add (x := .rd A4 r.n (by8 r.g)) R4
  clear R4
  go_wp2_with fail
  refine (HA2.out _ (L.alloc L.size _)).mono ?_
  rintro e w5 ⟨A5, c5, rfl, R5, _, _, hb5⟩
  replace K := (K.new w4.heap.size _ _ rfl).below hb5
  clear hb5
  replace kc0 := Box.cells K.1
  replace kl0 := Box.lt K.1
  replace kc2 := Box.cells K.2.2.1
  replace kl2 := Box.lt K.2.2.1
  replace kc3 := Box.cells K.2.2.2.1
  replace kl3 := Box.lt K.2.2.2.1
  replace kc4 := Box.cells K.2.2.2.2.1
  replace kl4 := Box.lt K.2.2.2.2.1
  replace L : Below _ _ _ := K.2.2.2.2.2.1
  replace K := K.add (x := .rd A5 r.n (by8 r.g)) R5
  clear R5
  go_wp2_with fail
  refine (HB1.out _ (L.alloc L.size _)).mono ?_
  rintro e w6 ⟨rfl, hb6⟩
  replace K := (K.new w5.heap.size _ _ rfl).below hb6
  clear hb6
  replace kc0 := Box.cells K.1
  replace kl0 := Box.lt K.1
  replace kc2 := Box.cells K.2.2.1
  replace kl2 := Box.lt K.2.2.1
  replace kc4 := Box.cells K.2.2.2.2.1
  replace kl4 := Box.lt K.2.2.2.2.1
  replace kc5 := Box.cells K.2.2.2.2.2.1
  replace kl5 := Box.lt K.2.2.2.2.2.1
  replace kc6 := Box.cells K.2.2.2.2.2.2.1
  replace kl6 := Box.lt K.2.2.2.2.2.2.1
  replace L : Below _ _ _ := K.2.2.2.2.2.2.2.1
  go_wp2_with fail
  refine (HB2.out _ L).mono ?_
  rintro e w7 ⟨rfl, hb7⟩
  replace K := K.below hb7
  clear hb7
  replace kc0 := Box.cells K.1
  replace kl0 := Box.lt K.1
  replace kc2 := Box.cells K.2.2.1
  replace kl2 := Box.lt K.2.2.1
  replace kc4 := Box.cells K.2.2.2.2.1
  replace kl4 := Box.lt K.2.2.2.2.1
  replace kc5 := Box.cells K.2.2.2.2.2.1
  replace kl5 := Box.lt K.2.2.2.2.2.1
  replace kc6 := Box.cells K.2.2.2.2.2.2.1
  replace kl6 := Box.lt K.2.2.2.2.2.2.1
  replace L : Below _ _ _ := K.2.2.2.2.2.2.2.1
  go_wp2_with fail
  refine (HC1.out _ L).mono ?_
  rintro e w8 ⟨A8, c8, B8, d8, C8, e8, rfl, Y8, U8, X8, hb8⟩
  replace K := K.below hb8
  clear hb8
  replace kc0 := Box.cells K.1
  replace kl0 := Box.lt K.1
  replace kc2 := Box.cells K.2.2.1
  replace kl2 := Box.lt K.2.2.1
  replace kc4 := Box.cells K.2.2.2.2.1
  replace kl4 := Box.lt K.2.2.2.2.1
  replace kc5 := Box.cells K.2.2.2.2.2.1
  replace kl5 := Box.lt K.2.2.2.2.2.1
  replace kc6 := Box.cells K.2.2.2.2.2.2.1
  replace kl6 := Box.lt K.2.2.2.2.2.2.1
  replace L : Below _ _ _ := K.2.2.2.2.2.2.2.1
  replace K := ((K.add (x := .rd A8 ry.n (by8 ry.g)) Y8).add (x := .rd B8 ru.n (by8 ru.g)) U8).add (x := .rd C8 rx.n (by8 rx.g)) X8
  clear Y8 U8 X8
  go_wp2_with fail
  refine (HC2.out _ (L.alloc L.size _)).mono ?_
  rintro e w9 ⟨A9, c9, B9, d9, C9, e9, rfl, Y9, U9, X9, hb9⟩
  replace K := (K.new w8.heap.size _ _ rfl).below hb9
  clear hb9
  replace kc0 := Box.cells K.1
  replace kl0 := Box.lt K.1
  replace X8 : Rd _ _ _ _ := K.2.1
  replace U8 : Rd _ _ _ _ := K.2.2.1
  replace Y8 : Rd _ _ _ _ := K.2.2.2.1
  replace kc4 := Box.cells K.2.2.2.2.1
  replace kl4 := Box.lt K.2.2.2.2.1
  replace R5 : Rd _ _ _ _ := K.2.2.2.2.2.1
  replace kc6 := Box.cells K.2.2.2.2.2.2.1
  replace kl6 := Box.lt K.2.2.2.2.2.2.1
  replace R4 : Rd _ _ _ _ := K.2.2.2.2.2.2.2.1
  replace kc8 := Box.cells K.2.2.2.2.2.2.2.2.1
  replace kl8 := Box.lt K.2.2.2.2.2.2.2.2.1
  replace kc9 := Box.cells K.2.2.2.2.2.2.2.2.2.1
  replace kl9 := Box.lt K.2.2.2.2.2.2.2.2.2.1
  replace kc10 := Box.cells K.2.2.2.2.2.2.2.2.2.2.1
  replace kl10 := Box.lt K.2.2.2.2.2.2.2.2.2.2.1
  replace L : Below _ _ _ := K.2.2.2.2.2.2.2.2.2.2.2.1
  replace K := ((K.add (x := .rd A9 ry.n (by8 ry.g)) Y9).add (x := .rd B9 ru.n (by8 ru.g)) U9).add (x := .rd C9 rx.n (by8 rx.g)) X9
  clear Y9 U9 X9
  go_wp2_with fail
  refine (sameP_yes _ _ _ _ _ _ _ r.g _ (R4.alloc _) (R5.alloc _)).mono ?_
  rintro e w10 ⟨rfl, hb10⟩
  replace K := (K.new w9.heap.size _ _ rfl).below hb10
  clear hb10
  replace kc0 := Box.cells K.1
  replace kl0 := Box.lt K.1
  replace X9 : Rd _ _ _ _ := K.2.1
  replace U9 : Rd _ _ _ _ := K.2.2.1
  replace Y9 : Rd _ _ _ _ := K.2.2.2.1
  replace kc4 := Box.cells K.2.2.2.2.1
  replace kl4 := Box.lt K.2.2.2.2.1
  replace X8 : Rd _ _ _ _ := K.2.2.2.2.2.1
  replace U8 : Rd _ _ _ _ := K.2.2.2.2.2.2.1
  replace Y8 : Rd _ _ _ _ := K.2.2.2.2.2.2.2.1
  replace kc8 := Box.cells K.2.2.2.2.2.2.2.2.1
  replace kl8 := Box.lt K.2.2.2.2.2.2.2.2.1
  replace R5 : Rd _ _ _ _ := K.2.2.2.2.2.2.2.2.2.1
  replace kc10 := Box.cells K.2.2.2.2.2.2.2.2.2.2.1
  replace kl10 := Box.lt K.2.2.2.2.2.2.2.2.2.2.1
  replace R4 : Rd _ _ _ _ := K.2.2.2.2.2.2.2.2.2.2.2.1
  replace kc12 := Box.cells K.2.2.2.2.2.2.2.2.2.2.2.2.1
  replace kl12 := Box.lt K.2.2.2.2.2.2.2.2.2.2.2.2.1
  replace kc13 := Box.cells K.2.2.2.2.2.2.2.2.2.2.2.2.2.1
  replace kl13 := Box.lt K.2.2.2.2.2.2.2.2.2.2.2.2.2.1
  replace kc14 := Box.cells K.2.2.2.2.2.2.2.2.2.2.2.2.2.2.1
  replace kl14 := Box.lt K.2.2.2.2.2.2.2.2.2.2.2.2.2.2.1
  replace L : Below _ _ _ := K.2.2.2.2.2.2.2.2.2.2.2.2.2.2.2.1
  go_wp2_with fail
  refine (sameF_yes ry ru rx _ _ _ _ _ _ _ _ _ _ _ _ _ Y8 U8 X8 Y9 U9 X9).mono ?_
  rintro e w11 ⟨rfl, hb11⟩
  replace K := K.below hb11
  clear hb11
  replace kc0 := Box.cells K.1
  replace kl0 := Box.lt K.1
  replace kc4 := Box.cells K.2.2.2.2.1
  replace kl4 := Box.lt K.2.2.2.2.1
  replace kc8 := Box.cells K.2.2.2.2.2.2.2.2.1
  replace kl8 := Box.lt K.2.2.2.2.2.2.2.2.1
  replace kc10 := Box.cells K.2.2.2.2.2.2.2.2.2.2.1
  replace kl10 := Box.lt K.2.2.2.2.2.2.2.2.2.2.1
  replace kc12 := Box.cells K.2.2.2.2.2.2.2.2.2.2.2.2.1
  replace kl12 := Box.lt K.2.2.2.2.2.2.2.2.2.2.2.2.1
  replace kc13 := Box.cells K.2.2.2.2.2.2.2.2.2.2.2.2.2.1
  replace kl13 := Box.lt K.2.2.2.2.2.2.2.2.2.2.2.2.2.1
  replace kc14 := Box.cells K.2.2.2.2.2.2.2.2.2.2.2.2.2.2.1
  replace kl14 := Box.lt K.2.2.2.2.2.2.2.2.2.2.2.2.2.2.1
  replace L : Below _ _ _ := K.2.2.2.2.2.2.2.2.2.2.2.2.2.2.2.1
  have K2 := K
  clear K
  go_wp2
  refine wp_region_allH (fun w' => Kn w' _) [0, 29, 31] [(0,2),(1,1),(2,1),(3,1),(4,1),(5,1),(6,1),(7,1),(8,1),(9,1),(10,1),(11,1),(12,1),(13,1),(14,1),(15,1),(16,1),(17,1),(18,1),(19,1),(20,1),(21,1),(22,1),(23,1),(24,1),(25,1),(26,1),(27,1),(28,1),(30,1),(29,2),(31,2),(32,0),(33,0),(34,0)] (by kernel_rfl) (by kernel_rfl) (fun _ _ d _ _ h => by cases d <;> exact h) (Kn.drew K2) ?_
  refine oH_doG rfl rfl (fun KK hKK => ?_)
  go_simp
  refine (alive06 _).mono ?_
  rintro e w12 ⟨rfl, hL12⟩
  have K3 := (Kn.drew K2).below hL12
  refine hKK _ _ ⟨K3, ?_⟩
  clear hKK KK hL12 K2
  repeat (first | (refine oH_freeG rfl rfl (fun w' hS => by have s1 := Box.cells hS.2.2.2.2.2.2.2.2.2.2.2.2.1; clear hS; go_simp; with_reducible rfl) ?_; go_simp) | (refine oH_skipG rfl rfl ?_; go_simp))
  refine oH_doG rfl rfl (fun KK hKK => ?_)
  go_simp
  refine (whole_any y u x _).mono ?_
  rintro e w13 ⟨rfl, hL13⟩
  have K4 := K3.below hL13
  refine hKK _ _ ⟨K4, ?_⟩
  clear hKK KK hL13 K3
  refine oH_doG rfl rfl (fun KK hKK => ?_)
  go_simp
  refine (rwhole_any y u x _).mono ?_
  rintro e w14 ⟨rfl, hL14⟩
  have K5 := K4.below hL14
  refine hKK _ _ ⟨K5, ?_⟩
  clear hKK KK hL14 K4
  repeat (refine oH_still rfl (fun KK hKK => ?_); go_simp; refine hKK _ ?_; clear hKK KK)
  refine oH_nil ?_
  go_wp2
  go_ret
  exact ⟨rfl, K5.2.2.2.2.2.2.2.2.2.2.2.2.2.2.2.1⟩

theorem walk (w : World) (a b : Int) (A : Option Addr) (n c : Nat) (g : Nat → Int) (ia : I64 a) (ib : I64 b) (hR : Rd w A n (by8 g)) (hg : Byt g) (hnc : n ≤ c) (hc : c ≤ 9223372036854775807)
    (a' b' : Int) (A' : Option Addr) (n' c' : Nat) (g' : Nat → Int) (ia' : I64 a') (ib' : I64 b') (hR' : Rd w A' n' (by8 g')) (hg' : Byt g') (hnc' : n' ≤ c') (hc' : c' ≤ 9223372036854775807) (y u x : PlV) (hy : y.Ok w) (hu : u.Ok w) (hx : x.Ok w) :
    Calls Try.prog 14 #[.agg #[.int .i64 a, .int .i64 b, .slice A n c], .agg #[.int .i64 a', .int .i64 b', .slice A' n' c'], .agg (frCells y u x)] w fun e w' => e = .returned (.bool true) ∧ Below w.heap.size w w' := by
  cases h1 : fitB n with
  | false => exact walk_no w ⟨a, b, A, n, c, g⟩ ⟨a', b', A', n', c', g'⟩ y u x (.inl h1)
  | true =>
    cases h2 : fitB n' with
    | false => exact walk_no w ⟨a, b, A, n, c, g⟩ ⟨a', b', A', n', c', g'⟩ y u x (.inr (.inl ⟨h1, h2⟩))
    | true =>
      cases h3 : fitFB y u x with
      | false => exact walk_no w ⟨a, b, A, n, c, g⟩ ⟨a', b', A', n', c', g'⟩ y u x (.inr (.inr ⟨h1, h2, h3⟩))
      | true => exact walk_yes w ⟨a, b, A, n, c, g⟩ ⟨a', b', A', n', c', g'⟩ y u x ⟨ia, ib, hR, hg, hnc, hc⟩ ⟨ia', ib', hR', hg', hnc', hc'⟩ hy hu hx h1 h2 h3
end PlaneHalves
namespace PlaneHalves
set_option maxRecDepth 100000 in
theorem lifted (os : Os) (started : os.Started) (H : Type) (enc : TypeId × Value → H) :
    ReturnsInHanded {} Try.checked os 14 .any (Rows.planeHalvesSpec.pre6 enc Try.prog Try.f14 Rows.planeHalvesRow.domain false) (Rows.planeHalvesSpec.post enc Try.prog Try.f14 false true false false) := by
  refine returnsInHanded_of_change (C := Try.checked) own started (by kernel_rfl) Try.func14
    (ChangeSpec.witness6 (enc := enc) (C := Try.checked) false ⟨#[], #[.agg #[.int .i64 0, .int .i64 0, .slice none 0 0], .agg #[.int .i64 0, .int .i64 0, .slice none 0 0], .agg #[.int .i64 0, .int .i64 0, .slice none 0 0, .int .i64 0, .int .i64 0, .slice none 0 0, .int .i64 0, .int .i64 0, .slice none 0 0]], []⟩ 8 (by kernel_rfl) (by kernel_rfl) (by kernel_rfl) (by kernel_rfl)) ?_
  intro W base args ds gs before hval0 hW hcnd _
  have hval : ∀ (j : Nat) t v, Try.f14.params[j]? = some t → args[j]? = some v → Value.okWide Try.prog W .any base t v := hval0
  refine law_post (tb := 4) laidOut (by kernel_rfl) rfl Try.underlying4 rfl (fun ds' h => ?_) hW ?_
  · rw [Try.params14] at h
    match ds', h with
    | [d1, d2, d3], _ => exact ⟨rfl, rfl, rfl⟩
  obtain ⟨p, q, hA0, hV, rfl, hfz, hnd⟩ := hW
  have hA : DataW.TrodAll enc Try.prog W 0 (fun _ => true) true Try.f14.params.toList args.toList ds p := hA0
  rw [Try.params14] at hA hval
  obtain ⟨v0, vs0, d0, ds0, p0, q0, hargs, rfl, rfl, h0, r0⟩ := trodAll_cons hA
  obtain ⟨v1, vs1, d1, ds1, p1, q1, rfl, rfl, rfl, h1, r1⟩ := trodAll_cons r0
  obtain ⟨v2, vs2, d2, ds2, p2, q2, rfl, rfl, rfl, h2, r2⟩ := trodAll_cons r1
  obtain ⟨rfl, rfl, rfl⟩ := trodAll_nil r2
  obtain rfl : args = #[v0, v1, v2] := by cases args; simp_all
  obtain ⟨a0, b0, A0, n0, c0, g0, rfl, w0, x0, rr0, t0, l0, m0⟩ := open_plane Try.underlying29 (by kernel_rfl) ⟨rfl, rfl⟩ ⟨rfl, rfl⟩ ⟨rfl, rfl⟩ Try.underlying3 Try.underlying27 Try.underlying5 (by kernel_rfl) (by kernel_rfl) (by kernel_rfl) (hval 0 29 v0 rfl rfl) h0
  obtain ⟨a1, b1, A1, n1, c1, g1, rfl, w1, x1, rr1, t1, l1, m1⟩ := open_plane Try.underlying29 (by kernel_rfl) ⟨rfl, rfl⟩ ⟨rfl, rfl⟩ ⟨rfl, rfl⟩ Try.underlying3 Try.underlying27 Try.underlying5 (by kernel_rfl) (by kernel_rfl) (by kernel_rfl) (hval 1 29 v1 rfl rfl) h1
  obtain ⟨y2, u2, x2, rfl, rr2, s2, t2⟩ := open_frame Try.underlying39 (by kernel_rfl) ⟨rfl, rfl⟩ ⟨rfl, rfl⟩ ⟨rfl, rfl⟩ Try.underlying29 (by kernel_rfl) ⟨rfl, rfl⟩ ⟨rfl, rfl⟩ ⟨rfl, rfl⟩ Try.underlying3 Try.underlying27 Try.underlying5 (by kernel_rfl) (by kernel_rfl) (by kernel_rfl) (hval 2 39 v2 rfl rfl) h2
  exact walk W a0 b0 A0 n0 c0 g0 w0 x0 rr0 t0 l0 m0 a1 b1 A1 n1 c1 g1 w1 x1 rr1 t1 l1 m1 y2 u2 x2 rr2 s2 t2
theorem over : Rows.planeHalvesRow.holds Try.pinned (OpenSpec.ofChange Rows.planeHalvesSpec) :=
  OpenClaim.holds_of_wide 14 Try.f14 rfl rfl rfl rfl rfl rfl rfl ⟨rfl, rfl, rfl, rfl, rfl⟩ rfl rfl rfl rfl rfl (by kernel_rfl) Try.func14 (by kernel_rfl)
    (of_decide_eq_true (by kernel_rfl)) (by unfold Func.isWrapper; first | (rw [if_pos (by decide +kernel)]; kernel_rfl) | (rw [if_neg (by decide +kernel)]; exact ⟨rfl, rfl⟩))
    (fun os started H enc _ => lifted os started H enc)
end PlaneHalves
theorem planeHalves_holds : Rows.PlaneHalvesSaid := PlaneHalves.over

end Go.Proofs.Ytlkogokhcdehfaa
