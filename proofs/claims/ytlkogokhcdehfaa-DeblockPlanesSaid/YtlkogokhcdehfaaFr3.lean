/- Walks over frames: deblock.Frame where there is such a frame. -/
import Derived.Test.YtlkogokhcdehfaaFr2
namespace Go.Proofs.Ytlkogokhcdehfaa
open Go.RowKit Go.Kin
set_option linter.unusedVariables false

theorem ne_some {b2 B : Nat} (hb : b2 ≠ B) : ∀ b o, (some ⟨b2, 0, none⟩ : Option Addr) = some ⟨b, o, none⟩ → b ≠ B := fun b o h => by
  injection h with h
  injection h with h
  omega

set_option maxHeartbeats 2000000 in
theorem dframe_yes (y u x : PlV) (q : Int) (w : World) (hw : wholeB y u x = true) (hk : knownB q = true) (hy : y.Ok w) (hu : u.Ok w) (hx : x.Ok w) :
    Calls Try.prog 26 #[.agg (frCells y u x), .int .i64 q] w (MadeFrame y u x (dbP q y.a.toNat y.b.toNat y.g) (dbP q u.a.toNat u.b.toNat u.g) (dbP q x.a.toNat x.b.toNat x.g) w) := by
  obtain ⟨q1, q2, q3⟩ := whole_rights hw
  go_enter Try.func26, Try.ntmps26
  go_wp2_with fail
  refine (whole_any y u x _).mono ?_
  rintro e w1 ⟨rfl, hb1⟩
  have F1 : Box w1 w.heap.size (frCells y u x) := ((Box.new w _ _).alloc _).below hb1 (by simp; omega)
  have G1 : Box w1 (w.heap.size + 1) #[.int .i64 0, .int .i64 0, .slice none 0 0, .int .i64 0, .int .i64 0, .slice none 0 0, .int .i64 0, .int .i64 0, .slice none 0 0] := (Box.newAt (w.alloc _) _ _ (by simp)).below hb1 (by simp)
  have L1 : Below w.heap.size w w1 := (((Below.refl _ w).alloc (Nat.le_refl _) _).alloc (by simp) _).trans (hb1.mono (by simp; omega))
  clear hb1
  have l1 := G1.lt
  obtain ⟨c0, c1, c2, c3, c4, c5, c6, c7, c8⟩ := F1.cell9
  have m1 : w.heap.size < w1.heap.size := by omega
  go_wp2_with (go_at_call 48; refine (known_any _ _).mono ?_; rintro e w' ⟨rfl, rfl⟩)
  refine (dplane_pl y q _ q1 hk ((hy.rd.below L1).alloc _) hy.byt).mono ?_
  rintro e w2 ⟨b2, rfl, hb2, hr2, hL2⟩
  have O2 : Box w2 w1.heap.size #[.int .i64 0, .int .i64 0, .slice none 0 0, .int .i64 0, .int .i64 0, .slice none 0 0, .int .i64 0, .int .i64 0, .slice none 0 0] := (Box.new w1 _ _).below hL2 (by simp)
  have F2 := (F1.alloc _).below hL2 (by simp; omega)
  have G2 := (G1.alloc _).below hL2 (by simp; omega)
  have L2 := (L1.alloc (by omega) _).trans (hL2.mono (by simp; omega))
  have l2 := O2.lt
  clear hL2 c0 c1 c2 c3 c4 c5 c6 c7 c8 F1 G1
  simp only [World.size_alloc] at hb2
  obtain ⟨c0, c1, c2, c3, c4, c5, c6, c7, c8⟩ := F2.cell9
  obtain ⟨d0, d1, d2, d3, d4, d5, d6, d7, d8⟩ := O2.cell9
  obtain ⟨f0, f1, f2, f3, f4, f5, f6, f7, f8⟩ := O2.frozen9
  have n1 : ¬ (w.heap.size = w1.heap.size) := by omega
  have O2' : Box (((w2.setCell ⟨w1.heap.size, 0, none⟩ (.int .i64 y.a)).setCell ⟨w1.heap.size, 1, none⟩ (.int .i64 y.b)).setCell ⟨w1.heap.size, 2, none⟩ (.slice (some ⟨b2, 0, none⟩) y.n y.n)) w1.heap.size #[.int .i64 y.a, .int .i64 y.b, .slice (some ⟨b2, 0, none⟩) y.n y.n, .int .i64 0, .int .i64 0, .slice none 0 0, .int .i64 0, .int .i64 0, .slice none 0 0] := (((O2.set 0 (.int .i64 y.a)).set 1 (.int .i64 y.b)).set 2 (.slice (some ⟨b2, 0, none⟩) y.n y.n))
  have F2' : Box (((w2.setCell ⟨w1.heap.size, 0, none⟩ (.int .i64 y.a)).setCell ⟨w1.heap.size, 1, none⟩ (.int .i64 y.b)).setCell ⟨w1.heap.size, 2, none⟩ (.slice (some ⟨b2, 0, none⟩) y.n y.n)) w.heap.size (frCells y u x) := (((F2.far (p := ⟨w1.heap.size, 0, none⟩) (by simp; omega) (.int .i64 y.a)).far (p := ⟨w1.heap.size, 1, none⟩) (by simp; omega) (.int .i64 y.b)).far (p := ⟨w1.heap.size, 2, none⟩) (by simp; omega) (.slice (some ⟨b2, 0, none⟩) y.n y.n))
  have G2' : Box (((w2.setCell ⟨w1.heap.size, 0, none⟩ (.int .i64 y.a)).setCell ⟨w1.heap.size, 1, none⟩ (.int .i64 y.b)).setCell ⟨w1.heap.size, 2, none⟩ (.slice (some ⟨b2, 0, none⟩) y.n y.n)) (w.heap.size + 1) #[.int .i64 0, .int .i64 0, .slice none 0 0, .int .i64 0, .int .i64 0, .slice none 0 0, .int .i64 0, .int .i64 0, .slice none 0 0] := (((G2.far (p := ⟨w1.heap.size, 0, none⟩) (by simp; omega) (.int .i64 y.a)).far (p := ⟨w1.heap.size, 1, none⟩) (by simp; omega) (.int .i64 y.b)).far (p := ⟨w1.heap.size, 2, none⟩) (by simp; omega) (.slice (some ⟨b2, 0, none⟩) y.n y.n))
  have r2_2' : Row (((w2.setCell ⟨w1.heap.size, 0, none⟩ (.int .i64 y.a)).setCell ⟨w1.heap.size, 1, none⟩ (.int .i64 y.b)).setCell ⟨w1.heap.size, 2, none⟩ (.slice (some ⟨b2, 0, none⟩) y.n y.n)) b2 y.n (by8 (dbP q y.a.toNat y.b.toNat y.g)) := (((hr2.far (p := ⟨w1.heap.size, 0, none⟩) (by simp; omega) (.int .i64 y.a)).far (p := ⟨w1.heap.size, 1, none⟩) (by simp; omega) (.int .i64 y.b)).far (p := ⟨w1.heap.size, 2, none⟩) (by simp; omega) (.slice (some ⟨b2, 0, none⟩) y.n y.n))
  have L2' : Below w.heap.size w (((w2.setCell ⟨w1.heap.size, 0, none⟩ (.int .i64 y.a)).setCell ⟨w1.heap.size, 1, none⟩ (.int .i64 y.b)).setCell ⟨w1.heap.size, 2, none⟩ (.slice (some ⟨b2, 0, none⟩) y.n y.n)) := (((L2.setCell (p := ⟨w1.heap.size, 0, none⟩) (by simp; omega) (.int .i64 y.a)).setCell (p := ⟨w1.heap.size, 1, none⟩) (by simp; omega) (.int .i64 y.b)).setCell (p := ⟨w1.heap.size, 2, none⟩) (by simp; omega) (.slice (some ⟨b2, 0, none⟩) y.n y.n))
  go_wp2_with fail
  clear c0 c1 c2 c3 c4 c5 c6 c7 c8 O2 F2 G2 hr2 L2
  clear d0 d1 d2 d3 d4 d5 d6 d7 d8 f0 f1 f2 f3 f4 f5 f6 f7 f8
  generalize (((w2.setCell ⟨w1.heap.size, 0, none⟩ (.int .i64 y.a)).setCell ⟨w1.heap.size, 1, none⟩ (.int .i64 y.b)).setCell ⟨w1.heap.size, 2, none⟩ (.slice (some ⟨b2, 0, none⟩) y.n y.n)) = w2' at *
  refine (dplane_pl u q _ q2 hk (hu.rd.below L2') hu.byt).mono ?_
  rintro e w3 ⟨b3, rfl, hb3, hr3, hL3⟩
  have O3 := O2'.below hL3 O2'.lt
  have F3 := F2'.below hL3 F2'.lt
  have G3 := G2'.below hL3 G2'.lt
  have r2_2 := r2_2'.below hL3 r2_2'.lt
  have L3 := L2'.trans (hL3.mono L2'.size)
  have lt3 := O2'.lt
  clear hL3 O2' F2' G2' L2' r2_2'
  obtain ⟨c0, c1, c2, c3, c4, c5, c6, c7, c8⟩ := F3.cell9
  obtain ⟨d0, d1, d2, d3, d4, d5, d6, d7, d8⟩ := O3.cell9
  obtain ⟨f0, f1, f2, f3, f4, f5, f6, f7, f8⟩ := O3.frozen9
  have O3' : Box (((w3.setCell ⟨w1.heap.size, 3, none⟩ (.int .i64 u.a)).setCell ⟨w1.heap.size, 4, none⟩ (.int .i64 u.b)).setCell ⟨w1.heap.size, 5, none⟩ (.slice (some ⟨b3, 0, none⟩) u.n u.n)) w1.heap.size #[.int .i64 y.a, .int .i64 y.b, .slice (some ⟨b2, 0, none⟩) y.n y.n, .int .i64 u.a, .int .i64 u.b, .slice (some ⟨b3, 0, none⟩) u.n u.n, .int .i64 0, .int .i64 0, .slice none 0 0] := (((O3.set 3 (.int .i64 u.a)).set 4 (.int .i64 u.b)).set 5 (.slice (some ⟨b3, 0, none⟩) u.n u.n))
  have F3' : Box (((w3.setCell ⟨w1.heap.size, 3, none⟩ (.int .i64 u.a)).setCell ⟨w1.heap.size, 4, none⟩ (.int .i64 u.b)).setCell ⟨w1.heap.size, 5, none⟩ (.slice (some ⟨b3, 0, none⟩) u.n u.n)) w.heap.size (frCells y u x) := (((F3.far (p := ⟨w1.heap.size, 3, none⟩) (by simp; omega) (.int .i64 u.a)).far (p := ⟨w1.heap.size, 4, none⟩) (by simp; omega) (.int .i64 u.b)).far (p := ⟨w1.heap.size, 5, none⟩) (by simp; omega) (.slice (some ⟨b3, 0, none⟩) u.n u.n))
  have G3' : Box (((w3.setCell ⟨w1.heap.size, 3, none⟩ (.int .i64 u.a)).setCell ⟨w1.heap.size, 4, none⟩ (.int .i64 u.b)).setCell ⟨w1.heap.size, 5, none⟩ (.slice (some ⟨b3, 0, none⟩) u.n u.n)) (w.heap.size + 1) #[.int .i64 0, .int .i64 0, .slice none 0 0, .int .i64 0, .int .i64 0, .slice none 0 0, .int .i64 0, .int .i64 0, .slice none 0 0] := (((G3.far (p := ⟨w1.heap.size, 3, none⟩) (by simp; omega) (.int .i64 u.a)).far (p := ⟨w1.heap.size, 4, none⟩) (by simp; omega) (.int .i64 u.b)).far (p := ⟨w1.heap.size, 5, none⟩) (by simp; omega) (.slice (some ⟨b3, 0, none⟩) u.n u.n))
  have r2_3' : Row (((w3.setCell ⟨w1.heap.size, 3, none⟩ (.int .i64 u.a)).setCell ⟨w1.heap.size, 4, none⟩ (.int .i64 u.b)).setCell ⟨w1.heap.size, 5, none⟩ (.slice (some ⟨b3, 0, none⟩) u.n u.n)) b2 y.n (by8 (dbP q y.a.toNat y.b.toNat y.g)) := (((r2_2.far (p := ⟨w1.heap.size, 3, none⟩) (by simp; omega) (.int .i64 u.a)).far (p := ⟨w1.heap.size, 4, none⟩) (by simp; omega) (.int .i64 u.b)).far (p := ⟨w1.heap.size, 5, none⟩) (by simp; omega) (.slice (some ⟨b3, 0, none⟩) u.n u.n))
  have r3_3' : Row (((w3.setCell ⟨w1.heap.size, 3, none⟩ (.int .i64 u.a)).setCell ⟨w1.heap.size, 4, none⟩ (.int .i64 u.b)).setCell ⟨w1.heap.size, 5, none⟩ (.slice (some ⟨b3, 0, none⟩) u.n u.n)) b3 u.n (by8 (dbP q u.a.toNat u.b.toNat u.g)) := (((hr3.far (p := ⟨w1.heap.size, 3, none⟩) (by simp; omega) (.int .i64 u.a)).far (p := ⟨w1.heap.size, 4, none⟩) (by simp; omega) (.int .i64 u.b)).far (p := ⟨w1.heap.size, 5, none⟩) (by simp; omega) (.slice (some ⟨b3, 0, none⟩) u.n u.n))
  have L3' : Below w.heap.size w (((w3.setCell ⟨w1.heap.size, 3, none⟩ (.int .i64 u.a)).setCell ⟨w1.heap.size, 4, none⟩ (.int .i64 u.b)).setCell ⟨w1.heap.size, 5, none⟩ (.slice (some ⟨b3, 0, none⟩) u.n u.n)) := (((L3.setCell (p := ⟨w1.heap.size, 3, none⟩) (by simp; omega) (.int .i64 u.a)).setCell (p := ⟨w1.heap.size, 4, none⟩) (by simp; omega) (.int .i64 u.b)).setCell (p := ⟨w1.heap.size, 5, none⟩) (by simp; omega) (.slice (some ⟨b3, 0, none⟩) u.n u.n))
  go_wp2_with fail
  clear c0 c1 c2 c3 c4 c5 c6 c7 c8 d0 d1 d2 d3 d4 d5 d6 d7 d8 f0 f1 f2 f3 f4 f5 f6 f7 f8 O3 F3 G3 hr3 L3 r2_2
  generalize (((w3.setCell ⟨w1.heap.size, 3, none⟩ (.int .i64 u.a)).setCell ⟨w1.heap.size, 4, none⟩ (.int .i64 u.b)).setCell ⟨w1.heap.size, 5, none⟩ (.slice (some ⟨b3, 0, none⟩) u.n u.n)) = w3' at *
  refine (dplane_pl x q _ q3 hk (hx.rd.below L3') hx.byt).mono ?_
  rintro e w4 ⟨b4, rfl, hb4, hr4, hL4⟩
  have O4 := O3'.below hL4 O3'.lt
  have F4 := F3'.below hL4 F3'.lt
  have G4 := G3'.below hL4 G3'.lt
  have r2_3 := r2_3'.below hL4 r2_3'.lt
  have r3_3 := r3_3'.below hL4 r3_3'.lt
  have L4 := L3'.trans (hL4.mono L3'.size)
  have lt4 := O3'.lt
  clear hL4 O3' F3' G3' L3' r2_3' r3_3'
  obtain ⟨c0, c1, c2, c3, c4, c5, c6, c7, c8⟩ := F4.cell9
  obtain ⟨d0, d1, d2, d3, d4, d5, d6, d7, d8⟩ := O4.cell9
  obtain ⟨f0, f1, f2, f3, f4, f5, f6, f7, f8⟩ := O4.frozen9
  have O4' : Box (((w4.setCell ⟨w1.heap.size, 6, none⟩ (.int .i64 x.a)).setCell ⟨w1.heap.size, 7, none⟩ (.int .i64 x.b)).setCell ⟨w1.heap.size, 8, none⟩ (.slice (some ⟨b4, 0, none⟩) x.n x.n)) w1.heap.size #[.int .i64 y.a, .int .i64 y.b, .slice (some ⟨b2, 0, none⟩) y.n y.n, .int .i64 u.a, .int .i64 u.b, .slice (some ⟨b3, 0, none⟩) u.n u.n, .int .i64 x.a, .int .i64 x.b, .slice (some ⟨b4, 0, none⟩) x.n x.n] := (((O4.set 6 (.int .i64 x.a)).set 7 (.int .i64 x.b)).set 8 (.slice (some ⟨b4, 0, none⟩) x.n x.n))
  have F4' : Box (((w4.setCell ⟨w1.heap.size, 6, none⟩ (.int .i64 x.a)).setCell ⟨w1.heap.size, 7, none⟩ (.int .i64 x.b)).setCell ⟨w1.heap.size, 8, none⟩ (.slice (some ⟨b4, 0, none⟩) x.n x.n)) w.heap.size (frCells y u x) := (((F4.far (p := ⟨w1.heap.size, 6, none⟩) (by simp; omega) (.int .i64 x.a)).far (p := ⟨w1.heap.size, 7, none⟩) (by simp; omega) (.int .i64 x.b)).far (p := ⟨w1.heap.size, 8, none⟩) (by simp; omega) (.slice (some ⟨b4, 0, none⟩) x.n x.n))
  have G4' : Box (((w4.setCell ⟨w1.heap.size, 6, none⟩ (.int .i64 x.a)).setCell ⟨w1.heap.size, 7, none⟩ (.int .i64 x.b)).setCell ⟨w1.heap.size, 8, none⟩ (.slice (some ⟨b4, 0, none⟩) x.n x.n)) (w.heap.size + 1) #[.int .i64 0, .int .i64 0, .slice none 0 0, .int .i64 0, .int .i64 0, .slice none 0 0, .int .i64 0, .int .i64 0, .slice none 0 0] := (((G4.far (p := ⟨w1.heap.size, 6, none⟩) (by simp; omega) (.int .i64 x.a)).far (p := ⟨w1.heap.size, 7, none⟩) (by simp; omega) (.int .i64 x.b)).far (p := ⟨w1.heap.size, 8, none⟩) (by simp; omega) (.slice (some ⟨b4, 0, none⟩) x.n x.n))
  have r2_4' : Row (((w4.setCell ⟨w1.heap.size, 6, none⟩ (.int .i64 x.a)).setCell ⟨w1.heap.size, 7, none⟩ (.int .i64 x.b)).setCell ⟨w1.heap.size, 8, none⟩ (.slice (some ⟨b4, 0, none⟩) x.n x.n)) b2 y.n (by8 (dbP q y.a.toNat y.b.toNat y.g)) := (((r2_3.far (p := ⟨w1.heap.size, 6, none⟩) (by simp; omega) (.int .i64 x.a)).far (p := ⟨w1.heap.size, 7, none⟩) (by simp; omega) (.int .i64 x.b)).far (p := ⟨w1.heap.size, 8, none⟩) (by simp; omega) (.slice (some ⟨b4, 0, none⟩) x.n x.n))
  have r3_4' : Row (((w4.setCell ⟨w1.heap.size, 6, none⟩ (.int .i64 x.a)).setCell ⟨w1.heap.size, 7, none⟩ (.int .i64 x.b)).setCell ⟨w1.heap.size, 8, none⟩ (.slice (some ⟨b4, 0, none⟩) x.n x.n)) b3 u.n (by8 (dbP q u.a.toNat u.b.toNat u.g)) := (((r3_3.far (p := ⟨w1.heap.size, 6, none⟩) (by simp; omega) (.int .i64 x.a)).far (p := ⟨w1.heap.size, 7, none⟩) (by simp; omega) (.int .i64 x.b)).far (p := ⟨w1.heap.size, 8, none⟩) (by simp; omega) (.slice (some ⟨b4, 0, none⟩) x.n x.n))
  have r4_4' : Row (((w4.setCell ⟨w1.heap.size, 6, none⟩ (.int .i64 x.a)).setCell ⟨w1.heap.size, 7, none⟩ (.int .i64 x.b)).setCell ⟨w1.heap.size, 8, none⟩ (.slice (some ⟨b4, 0, none⟩) x.n x.n)) b4 x.n (by8 (dbP q x.a.toNat x.b.toNat x.g)) := (((hr4.far (p := ⟨w1.heap.size, 6, none⟩) (by simp; omega) (.int .i64 x.a)).far (p := ⟨w1.heap.size, 7, none⟩) (by simp; omega) (.int .i64 x.b)).far (p := ⟨w1.heap.size, 8, none⟩) (by simp; omega) (.slice (some ⟨b4, 0, none⟩) x.n x.n))
  have L4' : Below w.heap.size w (((w4.setCell ⟨w1.heap.size, 6, none⟩ (.int .i64 x.a)).setCell ⟨w1.heap.size, 7, none⟩ (.int .i64 x.b)).setCell ⟨w1.heap.size, 8, none⟩ (.slice (some ⟨b4, 0, none⟩) x.n x.n)) := (((L4.setCell (p := ⟨w1.heap.size, 6, none⟩) (by simp; omega) (.int .i64 x.a)).setCell (p := ⟨w1.heap.size, 7, none⟩) (by simp; omega) (.int .i64 x.b)).setCell (p := ⟨w1.heap.size, 8, none⟩) (by simp; omega) (.slice (some ⟨b4, 0, none⟩) x.n x.n))
  obtain ⟨g0, g1, g2, g3, g4, g5, g6, g7, g8⟩ := G4.cell9
  obtain ⟨k0, k1, k2, k3, k4, k5, k6, k7, k8⟩ := G4.frozen9
  have n2 : ¬ (w.heap.size + 1 = w1.heap.size) := by omega
  have lt1 : w.heap.size + 1 < w1.heap.size := l1
  have h3 := lt3
  go_wp2
  refine bodyPost_ret (v := .tuple #[.agg #[.int .i64 y.a, .int .i64 y.b, .slice (some ⟨b2, 0, none⟩) y.n y.n, .int .i64 u.a, .int .i64 u.b, .slice (some ⟨b3, 0, none⟩) u.n u.n, .int .i64 x.a, .int .i64 x.b, .slice (some ⟨b4, 0, none⟩) x.n x.n], .int .i64 0]) (by simp [results, Try.results26, go_sem, g0, g1, g2, g3, g4, g5, g6, g7, g8]) rfl ?_
  have e3 : w1.heap.size ≤ b3 := by omega
  have e4 : w1.heap.size ≤ b4 := by omega
  refine madeF_of (B := w.heap.size + 1) ?_ r2_4'.rd (ne_some (b2 := b2) (by omega)) r3_4'.rd (ne_some (b2 := b3) (by omega)) r4_4'.rd (ne_some (b2 := b4) (by omega)) L4' (by omega)
  exact ((((((((((Oth.refl (w.heap.size + 1) _).set 0 _).set 1 _).set 2 _).set 3 _).set 4 _).set 5 _).set 6 _).set 7 _).set 8 _)
end Go.Proofs.Ytlkogokhcdehfaa
