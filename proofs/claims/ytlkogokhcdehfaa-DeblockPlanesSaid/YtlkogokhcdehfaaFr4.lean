/- Walks over frames: the document's Frame of layer 11. -/
import Derived.Test.YtlkogokhcdehfaaFr3
namespace Go.Proofs.Ytlkogokhcdehfaa
open Go.RowKit Go.Kin
set_option linter.unusedVariables false

set_option maxHeartbeats 1000000 in
theorem rframe_no1 (y u x : PlV) (q : Int) (w : World) (hw : wholeB y u x = false) :
    Calls Try.prog 27 #[.agg (frCells y u x), .int .i64 q] w (NoFrame 61 w) := by
  go_enter Try.func27, Try.ntmps27
  go_wp2_with fail
  refine (rwhole_any y u x _).mono ?_
  rintro e w1 ⟨rfl, hb1⟩
  have G1 : Box w1 (w.heap.size + 1) #[.int .i64 0, .int .i64 0, .slice none 0 0, .int .i64 0, .int .i64 0, .slice none 0 0, .int .i64 0, .int .i64 0, .slice none 0 0] := (Box.newAt (w.alloc _) _ _ (by simp)).below hb1 (by simp)
  have L1 : Below w.heap.size w w1 := (((Below.refl _ w).alloc (Nat.le_refl _) _).alloc (by simp) _).trans (hb1.mono (by simp; omega))
  clear hb1
  obtain ⟨e0, e1, e2, e3, e4, e5, e6, e7, e8⟩ := G1.cell9
  obtain ⟨f0, f1, f2, f3, f4, f5, f6, f7, f8⟩ := G1.frozen9
  go_wp2
  refine bodyPost_ret (v := .tuple #[.agg #[.int .i64 0, .int .i64 0, .slice none 0 0, .int .i64 0, .int .i64 0, .slice none 0 0, .int .i64 0, .int .i64 0, .slice none 0 0], .int .i64 61]) (by simp [results, Try.results27, go_sem, e0, e1, e2, e3, e4, e5, e6, e7, e8]) rfl ⟨rfl, ?_⟩
  exact L1.trans (Oth.below ((((((((((Oth.refl (w.heap.size + 1) w1).set 0 _).set 1 _).set 2 _).set 3 _).set 4 _).set 5 _).set 6 _).set 7 _).set 8 _) (B := w.heap.size) (by omega) L1.size)

theorem knownB_no {q : Int} (h : knownB q = false) : decide (q < 0) = true ∨ (decide (q < 0) = false ∧ decide (31 < q) = true) := by
  simp [knownB] at h
  simp
  omega

set_option maxHeartbeats 1000000 in
theorem rframe_no2 (y u x : PlV) (q : Int) (w : World) (hw : wholeB y u x = true) (hk : knownB q = false) :
    Calls Try.prog 27 #[.agg (frCells y u x), .int .i64 q] w (NoFrame 1 w) := by
  rcases knownB_no hk with h1 | ⟨h1, h2⟩
  all_goals clear hk
  all_goals go_enter Try.func27, Try.ntmps27
  all_goals go_wp2_with fail
  all_goals refine (rwhole_any y u x _).mono ?_
  all_goals rintro e w1 ⟨rfl, hb1⟩
  all_goals have G1 : Box w1 (w.heap.size + 1) #[.int .i64 0, .int .i64 0, .slice none 0 0, .int .i64 0, .int .i64 0, .slice none 0 0, .int .i64 0, .int .i64 0, .slice none 0 0] := (Box.newAt (w.alloc _) _ _ (by simp)).below hb1 (by simp)
  all_goals have L1 : Below w.heap.size w w1 := (((Below.refl _ w).alloc (Nat.le_refl _) _).alloc (by simp) _).trans (hb1.mono (by simp; omega))
  all_goals clear hb1
  all_goals obtain ⟨e0, e1, e2, e3, e4, e5, e6, e7, e8⟩ := G1.cell9
  all_goals obtain ⟨f0, f1, f2, f3, f4, f5, f6, f7, f8⟩ := G1.frozen9
  all_goals go_wp2
  all_goals refine bodyPost_ret (v := .tuple #[.agg #[.int .i64 0, .int .i64 0, .slice none 0 0, .int .i64 0, .int .i64 0, .slice none 0 0, .int .i64 0, .int .i64 0, .slice none 0 0], .int .i64 1]) (by simp [results, Try.results27, go_sem, e0, e1, e2, e3, e4, e5, e6, e7, e8]) rfl ⟨rfl, ?_⟩
  all_goals exact L1.trans (Oth.below ((((((((((Oth.refl (w.heap.size + 1) w1).set 0 _).set 1 _).set 2 _).set 3 _).set 4 _).set 5 _).set 6 _).set 7 _).set 8 _) (B := w.heap.size) (by omega) L1.size)

set_option maxHeartbeats 2000000 in
theorem rframe_yes (y u x : PlV) (q : Int) (w : World) (hw : wholeB y u x = true) (hk : knownB q = true) (hy : y.Ok w) (hu : u.Ok w) (hx : x.Ok w) :
    Calls Try.prog 27 #[.agg (frCells y u x), .int .i64 q] w (MadeFrame y u x (dbP q y.a.toNat y.b.toNat y.g) (dbP q u.a.toNat u.b.toNat u.g) (dbP q x.a.toNat x.b.toNat x.g) w) := by
  obtain ⟨q1, q2, q3⟩ := whole_rights hw
  have hqq : 0 ≤ q ∧ q ≤ 31 := by simpa [knownB] using hk
  have hqa : decide (q < 0) = false := by simp; omega
  have hqb : decide (31 < q) = false := by simp; omega
  clear hqq
  go_enter Try.func27, Try.ntmps27
  go_wp2_with fail
  refine (rwhole_any y u x _).mono ?_
  rintro e w1 ⟨rfl, hb1⟩
  have F1 : Box w1 w.heap.size (frCells y u x) := ((Box.new w _ _).alloc _).below hb1 (by simp; omega)
  have G1 : Box w1 (w.heap.size + 1) #[.int .i64 0, .int .i64 0, .slice none 0 0, .int .i64 0, .int .i64 0, .slice none 0 0, .int .i64 0, .int .i64 0, .slice none 0 0] := (Box.newAt (w.alloc _) _ _ (by simp)).below hb1 (by simp)
  have L1 : Below w.heap.size w w1 := (((Below.refl _ w).alloc (Nat.le_refl _) _).alloc (by simp) _).trans (hb1.mono (by simp; omega))
  clear hb1
  have l1 := G1.lt
  obtain ⟨c0, c1, c2, c3, c4, c5, c6, c7, c8⟩ := F1.cell9
  have m1 : w.heap.size < w1.heap.size := by omega
  go_wp2_with fail
  refine (rplane_pl y q _ q1 hk (hy.rd.below L1) hy.byt).mono ?_
  rintro e w2 ⟨b2, k2, rfl, hb2, hr2, hL2⟩
  have F2 := F1.below hL2 F1.lt
  have G2 := G1.below hL2 G1.lt
  have L2 := L1.trans (hL2.mono L1.size)
  have l2 := F2.lt
  have l2g := G2.lt
  clear hL2 c0 c1 c2 c3 c4 c5 c6 c7 c8 F1 G1 L1
  obtain ⟨c0, c1, c2, c3, c4, c5, c6, c7, c8⟩ := F2.cell9
  have P2 : ∀ X, Box (w2.alloc (.cells #[.int .i64 y.a, .int .i64 y.b, .slice (some ⟨b2, 0, none⟩) y.n k2] X)) w2.heap.size #[.int .i64 y.a, .int .i64 y.b, .slice (some ⟨b2, 0, none⟩) y.n k2] := fun X => Box.new w2 X _
  go_wp2_with fail
  clear P2
  have P2 : Box (w2.alloc (.cells #[.int .i64 y.a, .int .i64 y.b, .slice (some ⟨b2, 0, none⟩) y.n k2] 29)) w2.heap.size #[.int .i64 y.a, .int .i64 y.b, .slice (some ⟨b2, 0, none⟩) y.n k2] := Box.new w2 29 _
  have F2' := F2.alloc (.cells #[.int .i64 y.a, .int .i64 y.b, .slice (some ⟨b2, 0, none⟩) y.n k2] 29)
  have G2' := G2.alloc (.cells #[.int .i64 y.a, .int .i64 y.b, .slice (some ⟨b2, 0, none⟩) y.n k2] 29)
  have L2' := L2.alloc (by omega) (.cells #[.int .i64 y.a, .int .i64 y.b, .slice (some ⟨b2, 0, none⟩) y.n k2] 29)
  have r2' := hr2.alloc (.cells #[.int .i64 y.a, .int .i64 y.b, .slice (some ⟨b2, 0, none⟩) y.n k2] 29)
  refine (rplane_pl u q _ q2 hk (hu.rd.below L2') hu.byt).mono ?_
  rintro e w3 ⟨b3, k3, rfl, hb3, hr3, hL3⟩
  have F3 := F2'.below hL3 F2'.lt
  have G3 := G2'.below hL3 G2'.lt
  have P3_2 := P2.below hL3 P2.lt
  have r3_2 := r2'.below hL3 r2'.lt
  have L3 := L2'.trans (hL3.mono L2'.size)
  have l3 := P3_2.lt
  have l3b := F3.lt
  simp only [World.size_alloc] at hb3
  clear hL3 c0 c1 c2 c3 c4 c5 c6 c7 c8 F2 G2 L2 F2' G2' L2' r2' P2 hr2
  obtain ⟨c0, c1, c2, c3, c4, c5, c6, c7, c8⟩ := F3.cell9
  go_wp2_with fail
  have P3_3 : Box (w3.alloc (.cells #[.int .i64 u.a, .int .i64 u.b, .slice (some ⟨b3, 0, none⟩) u.n k3] 29)) w3.heap.size #[.int .i64 u.a, .int .i64 u.b, .slice (some ⟨b3, 0, none⟩) u.n k3] := Box.new w3 29 _
  have P3_2' := P3_2.alloc (.cells #[.int .i64 u.a, .int .i64 u.b, .slice (some ⟨b3, 0, none⟩) u.n k3] 29)
  have F3' := F3.alloc (.cells #[.int .i64 u.a, .int .i64 u.b, .slice (some ⟨b3, 0, none⟩) u.n k3] 29)
  have G3' := G3.alloc (.cells #[.int .i64 u.a, .int .i64 u.b, .slice (some ⟨b3, 0, none⟩) u.n k3] 29)
  have L3' := L3.alloc (by omega) (.cells #[.int .i64 u.a, .int .i64 u.b, .slice (some ⟨b3, 0, none⟩) u.n k3] 29)
  have r3_2' := r3_2.alloc (.cells #[.int .i64 u.a, .int .i64 u.b, .slice (some ⟨b3, 0, none⟩) u.n k3] 29)
  have r3_3' := hr3.alloc (.cells #[.int .i64 u.a, .int .i64 u.b, .slice (some ⟨b3, 0, none⟩) u.n k3] 29)
  refine (rplane_pl x q _ q3 hk (hx.rd.below L3') hx.byt).mono ?_
  rintro e w4 ⟨b4, k4, rfl, hb4, hr4, hL4⟩
  have G4 := G3'.below hL4 G3'.lt
  have P4_2 := P3_2'.below hL4 P3_2'.lt
  have P4_3 := P3_3.below hL4 P3_3.lt
  have r4_2 := r3_2'.below hL4 r3_2'.lt
  have r4_3 := r3_3'.below hL4 r3_3'.lt
  have L4 := L3'.trans (hL4.mono L3'.size)
  have l4 := P4_3.lt
  have l4b := P4_2.lt
  simp only [World.size_alloc] at hb4
  clear hL4 c0 c1 c2 c3 c4 c5 c6 c7 c8 F3 G3 L3 F3' G3' L3' r3_2' r3_3' P3_2 P3_2' P3_3 hr3 r3_2
  obtain ⟨c0, c1, c2⟩ := P4_2.cell3
  obtain ⟨d0, d1, d2⟩ := P4_3.cell3
  obtain ⟨g0, g1, g2, g3, g4, g5, g6, g7, g8⟩ := G4.cell9
  obtain ⟨f0, f1, f2, f3, f4, f5, f6, f7, f8⟩ := G4.frozen9
  have n2 : ¬ (w2.heap.size = w4.heap.size) := by omega
  have n3 : ¬ (w3.heap.size = w4.heap.size) := by omega
  have n4 : ¬ (w.heap.size + 1 = w4.heap.size) := by omega
  have lt4 : w.heap.size + 1 < w4.heap.size := G4.lt
  go_wp2
  refine bodyPost_ret (v := .tuple #[.agg #[.int .i64 y.a, .int .i64 y.b, .slice (some ⟨b2, 0, none⟩) y.n k2, .int .i64 u.a, .int .i64 u.b, .slice (some ⟨b3, 0, none⟩) u.n k3, .int .i64 x.a, .int .i64 x.b, .slice (some ⟨b4, 0, none⟩) x.n k4], .int .i64 0]) (by simp [results, Try.results27, go_sem, lt4, g0, g1, g2, g3, g4, g5, g6, g7, g8]) rfl ?_
  refine madeF_of (B := w.heap.size + 1) ?_ r4_2.rd (ne_some (b2 := b2) (by omega)) r4_3.rd (ne_some (b2 := b3) (by omega)) hr4.rd (ne_some (b2 := b4) (by omega)) L4 (by omega)
  exact ((((((((((Oth.refl (w.heap.size + 1) _).set 0 _).set 1 _).set 2 _).set 3 _).set 4 _).set 5 _).set 6 _).set 7 _).set 8 _).alloc _
end Go.Proofs.Ytlkogokhcdehfaa
