/- Walks over frames: the document's CopyFrame; deblock.Frame and the document's Frame of layer 11. -/
import Derived.Test.YtlkogokhcdehfaaFr1
import Derived.Test.YtlkogokhcdehfaaRg2
import Derived.Test.YtlkogokhcdehfaaRd3
import Derived.Test.YtlkogokhcdehfaaDw4
namespace Go.Proofs.Ytlkogokhcdehfaa
open Go.RowKit Go.Kin
set_option linter.unusedVariables false

/-- A frame that reads as given ones do. -/
def ReadsFrame (y u x : PlV) (w : World) (e : Ending) (w' : World) : Prop :=
  ∃ A1 c1 A2 c2 A3 c3, e = .returned (.agg #[.int .i64 y.a, .int .i64 y.b, .slice A1 y.n c1, .int .i64 u.a, .int .i64 u.b, .slice A2 u.n c2, .int .i64 x.a, .int .i64 x.b, .slice A3 x.n c3]) ∧
    Rd w' A1 y.n (by8 y.g) ∧ Rd w' A2 u.n (by8 u.g) ∧ Rd w' A3 x.n (by8 x.g) ∧ Below w.heap.size w w'

theorem readsF_of {y u x : PlV} {w w3 w4 : World} {A1 A2 A3 : Option Addr} {c1 c2 c3 B : Nat} (ho : Oth B w3 w4) (R1 : Rd w3 A1 y.n (by8 y.g)) (N1 : ∀ b o, A1 = some ⟨b, o, none⟩ → b ≠ B) (R2 : Rd w3 A2 u.n (by8 u.g)) (N2 : ∀ b o, A2 = some ⟨b, o, none⟩ → b ≠ B)
    (R3 : Rd w3 A3 x.n (by8 x.g)) (N3 : ∀ b o, A3 = some ⟨b, o, none⟩ → b ≠ B) (L3 : Below w.heap.size w w3) (hB : w.heap.size ≤ B) :
    ReadsFrame y u x w (.returned (.agg #[.int .i64 y.a, .int .i64 y.b, .slice A1 y.n c1, .int .i64 u.a, .int .i64 u.b, .slice A2 u.n c2, .int .i64 x.a, .int .i64 x.b, .slice A3 x.n c3])) w4 :=
  ⟨A1, c1, A2, c2, A3, c3, rfl, R1.oth ho N1, R2.oth ho N2, R3.oth ho N3, L3.trans (ho.below hB L3.size)⟩

set_option maxHeartbeats 1000000 in
theorem rcopyF_any (y u x : PlV) (w : World) (hy : Rd w y.A y.n (by8 y.g)) (hu : Rd w u.A u.n (by8 u.g)) (hx : Rd w x.A x.n (by8 x.g)) (ny : y.n ≤ 10000) (nu : u.n ≤ 10000) (nx : x.n ≤ 10000) :
    Calls Try.prog 24 #[.agg (frCells y u x)] w (ReadsFrame y u x w) := by
  go_enter Try.func24, Try.ntmps24
  go_wp2
  have hB0 : ∀ Z X, Box ((w.alloc (.cells (frCells y u x) X)).alloc Z).drew w.heap.size (frCells y u x) := fun Z X => ((Box.new w X _).alloc Z).drew
  have hL : ∀ Z X, Below w.heap.size w ((w.alloc (.cells (frCells y u x) X)).alloc Z).drew := fun Z X => (((Below.refl _ w).alloc (Nat.le_refl _) _).alloc (by simp) _).drew
  have hB1 : ∀ Z X, Box ((w.alloc X).alloc (.cells #[.int .i64 0, .int .i64 0, .slice none 0 0, .int .i64 0, .int .i64 0, .slice none 0 0, .int .i64 0, .int .i64 0, .slice none 0 0] Z)).drew (w.heap.size + 1) #[.int .i64 0, .int .i64 0, .slice none 0 0, .int .i64 0, .int .i64 0, .slice none 0 0, .int .i64 0, .int .i64 0, .slice none 0 0] := fun Z X => (Box.newAt (w.alloc X) Z _ (by simp)).drew
  refine wp_region_allH (fun w' => Box w' w.heap.size (frCells y u x)) [2, 5, 8, 10] [(0, 1), (1, 1), (3, 1), (4, 1), (6, 1), (7, 1), (2, 2), (5, 2), (8, 2), (9, 1), (10, 2)] (by kernel_rfl) (by kernel_rfl) (fun _ _ d _ _ h => by cases d <;> exact h) (hB0 _ _) ?_
  have hL0 := hL (.cells #[.int .i64 0, .int .i64 0, .slice none 0 0, .int .i64 0, .int .i64 0, .slice none 0 0, .int .i64 0, .int .i64 0, .slice none 0 0] 39) 39
  have hB00 := hB0 (.cells #[.int .i64 0, .int .i64 0, .slice none 0 0, .int .i64 0, .int .i64 0, .slice none 0 0, .int .i64 0, .int .i64 0, .slice none 0 0] 39) 39
  have hB10 := hB1 39 (.cells (frCells y u x) 39)
  clear hL hB0 hB1
  generalize ((w.alloc (.cells (frCells y u x) 39)).alloc (.cells #[.int .i64 0, .int .i64 0, .slice none 0 0, .int .i64 0, .int .i64 0, .slice none 0 0, .int .i64 0, .int .i64 0, .slice none 0 0] 39)).drew = w0 at *
  repeat (refine oH_free rfl (fun w' hS => by obtain ⟨s0, s1, s2, s3, s4, s5, s6, s7, s8⟩ := hS.cell9; clear hS; go_simp; with_reducible rfl) ?_; go_simp)
  refine oH_do rfl (fun K' hK' => ?_)
  go_simp
  refine (rcopy_any _ _ _ _ _ y.g _ (hy.below hL0) (by omega)).mono ?_
  rintro e w1 ⟨A1, c1, rfl, hO1, hb1⟩
  have F1 := hB00.below hb1 hB00.lt
  have G1 := hB10.below hb1 hB10.lt
  have L1 := hL0.trans (hb1.mono hL0.size)
  have R1 := hO1.rd
  have N1 : ∀ b o, A1 = some ⟨b, o, none⟩ → b ≠ w.heap.size + 1 := fun b o h => by have := (hO1.lt h).1; have := hB10.lt; omega
  clear hO1
  refine hK' _ _ ⟨F1, ?_⟩
  clear hK' K' hB00 hB10 hL0 hb1
  refine oH_do rfl (fun K' hK' => ?_)
  go_simp
  refine (rcopy_any _ _ _ _ _ u.g _ (hu.below L1) (by omega)).mono ?_
  rintro e w2 ⟨A2, c2, rfl, hO2, hb2⟩
  have F2 := F1.below hb2 F1.lt
  have G2 := G1.below hb2 G1.lt
  have L2 := L1.trans (hb2.mono L1.size)
  have R1' := R1.below hb2
  have R2 := hO2.rd
  have N2 : ∀ b o, A2 = some ⟨b, o, none⟩ → b ≠ w.heap.size + 1 := fun b o h => by have := (hO2.lt h).1; have := G1.lt; omega
  clear hO2
  refine hK' _ _ ⟨F2, ?_⟩
  clear hK' K' F1 G1 L1 R1 hb2
  refine oH_do rfl (fun K' hK' => ?_)
  go_simp
  refine (rcopy_any _ _ _ _ _ x.g _ (hx.below L2) (by omega)).mono ?_
  rintro e w3 ⟨A3, c3, rfl, hO3, hb3⟩
  have F3 := F2.below hb3 F2.lt
  have G3 := G2.below hb3 G2.lt
  have L3 := L2.trans (hb3.mono L2.size)
  have R1'' := R1'.below hb3
  have R2' := R2.below hb3
  have R3 := hO3.rd
  have N3 : ∀ b o, A3 = some ⟨b, o, none⟩ → b ≠ w.heap.size + 1 := fun b o h => by have := (hO3.lt h).1; have := G2.lt; omega
  clear hO3
  refine hK' _ _ ⟨F3, ?_⟩
  clear hK' K' F2 G2 L2 R1' R2 hb3
  refine oH_free rfl (fun w' hS => by go_simp; with_reducible rfl) ?_
  go_simp
  obtain ⟨e0, e1, e2, e3, e4, e5, e6, e7, e8⟩ := G3.cell9
  obtain ⟨f0, f1, f2, f3, f4, f5, f6, f7, f8⟩ := G3.frozen9
  refine oH_do rfl (fun K' hK' => ?_)
  go_simp
  refine hK' _ _ ⟨?_, ?_⟩
  · exact (((((((((F3.far (p := ⟨w.heap.size + 1, 0, none⟩) (by simp) _).far (p := ⟨w.heap.size + 1, 1, none⟩) (by simp) _).far (p := ⟨w.heap.size + 1, 2, none⟩) (by simp) _).far (p := ⟨w.heap.size + 1, 3, none⟩) (by simp) _).far (p := ⟨w.heap.size + 1, 4, none⟩) (by simp) _).far (p := ⟨w.heap.size + 1, 5, none⟩) (by simp) _).far (p := ⟨w.heap.size + 1, 6, none⟩) (by simp) _).far (p := ⟨w.heap.size + 1, 7, none⟩) (by simp) _).far (p := ⟨w.heap.size + 1, 8, none⟩) (by simp) _)
  clear hK' K'
  refine oH_nil ?_
  go_wp2
  refine bodyPost_ret (v := .agg #[.int .i64 y.a, .int .i64 y.b, .slice A1 y.n c1, .int .i64 u.a, .int .i64 u.b, .slice A2 u.n c2, .int .i64 x.a, .int .i64 x.b, .slice A3 x.n c3]) (by simp [results, Try.results24, go_sem, e0, e1, e2, e3, e4, e5, e6, e7, e8]) rfl ?_
  refine readsF_of ?_ R1'' N1 R2' N2 R3 N3 L3 (by omega)
  exact ((((((((((Oth.refl (w.heap.size + 1) w3).set 0 _).set 1 _).set 2 _).set 3 _).set 4 _).set 5 _).set 6 _).set 7 _).set 8 _)

def zeroF : Array Value := #[.int .i64 0, .int .i64 0, .slice none 0 0, .int .i64 0, .int .i64 0, .slice none 0 0, .int .i64 0, .int .i64 0, .slice none 0 0]
/-- A frame's error. -/
def NoFrame (k : Int) (w : World) (e : Ending) (w' : World) : Prop :=
  e = .returned (.tuple #[.agg #[.int .i64 0, .int .i64 0, .slice none 0 0, .int .i64 0, .int .i64 0, .slice none 0 0, .int .i64 0, .int .i64 0, .slice none 0 0], .int .i64 k]) ∧ Below w.heap.size w w'
/-- A frame that was made of one's sides, its samples given. -/
def MadeFrame (y u x : PlV) (gy gu gx : Nat → Int) (w : World) (e : Ending) (w' : World) : Prop :=
  ∃ A1 c1 A2 c2 A3 c3, e = .returned (.tuple #[.agg #[.int .i64 y.a, .int .i64 y.b, .slice A1 y.n c1, .int .i64 u.a, .int .i64 u.b, .slice A2 u.n c2, .int .i64 x.a, .int .i64 x.b, .slice A3 x.n c3], .int .i64 0]) ∧
    Rd w' A1 y.n (by8 gy) ∧ Rd w' A2 u.n (by8 gu) ∧ Rd w' A3 x.n (by8 gx) ∧ Below w.heap.size w w'
theorem madeF_of {y u x : PlV} {gy gu gx : Nat → Int} {w w3 w4 : World} {A1 A2 A3 : Option Addr} {c1 c2 c3 B : Nat} (ho : Oth B w3 w4) (R1 : Rd w3 A1 y.n (by8 gy)) (N1 : ∀ b o, A1 = some ⟨b, o, none⟩ → b ≠ B) (R2 : Rd w3 A2 u.n (by8 gu)) (N2 : ∀ b o, A2 = some ⟨b, o, none⟩ → b ≠ B)
    (R3 : Rd w3 A3 x.n (by8 gx)) (N3 : ∀ b o, A3 = some ⟨b, o, none⟩ → b ≠ B) (L3 : Below w.heap.size w w3) (hB : w.heap.size ≤ B) :
    MadeFrame y u x gy gu gx w (.returned (.tuple #[.agg #[.int .i64 y.a, .int .i64 y.b, .slice A1 y.n c1, .int .i64 u.a, .int .i64 u.b, .slice A2 u.n c2, .int .i64 x.a, .int .i64 x.b, .slice A3 x.n c3], .int .i64 0])) w4 :=
  ⟨A1, c1, A2, c2, A3, c3, rfl, R1.oth ho N1, R2.oth ho N2, R3.oth ho N3, L3.trans (ho.below hB L3.size)⟩

set_option maxHeartbeats 1000000 in
theorem dframe_no1 (y u x : PlV) (q : Int) (w : World) (hw : wholeB y u x = false) :
    Calls Try.prog 26 #[.agg (frCells y u x), .int .i64 q] w (NoFrame 61 w) := by
  go_enter Try.func26, Try.ntmps26
  go_wp2_with fail
  refine (whole_any y u x _).mono ?_
  rintro e w1 ⟨rfl, hb1⟩
  have G1 : Box w1 (w.heap.size + 1) #[.int .i64 0, .int .i64 0, .slice none 0 0, .int .i64 0, .int .i64 0, .slice none 0 0, .int .i64 0, .int .i64 0, .slice none 0 0] := (Box.newAt (w.alloc _) _ _ (by simp)).below hb1 (by simp)
  have L1 : Below w.heap.size w w1 := (((Below.refl _ w).alloc (Nat.le_refl _) _).alloc (by simp) _).trans (hb1.mono (by simp; omega))
  clear hb1
  obtain ⟨e0, e1, e2, e3, e4, e5, e6, e7, e8⟩ := G1.cell9
  obtain ⟨f0, f1, f2, f3, f4, f5, f6, f7, f8⟩ := G1.frozen9
  go_wp2
  refine bodyPost_ret (v := .tuple #[.agg #[.int .i64 0, .int .i64 0, .slice none 0 0, .int .i64 0, .int .i64 0, .slice none 0 0, .int .i64 0, .int .i64 0, .slice none 0 0], .int .i64 61]) (by simp [results, Try.results26, go_sem, e0, e1, e2, e3, e4, e5, e6, e7, e8]) rfl ⟨rfl, ?_⟩
  exact L1.trans (Oth.below ((((((((((Oth.refl (w.heap.size + 1) w1).set 0 _).set 1 _).set 2 _).set 3 _).set 4 _).set 5 _).set 6 _).set 7 _).set 8 _) (B := w.heap.size) (by omega) L1.size)

set_option maxHeartbeats 1000000 in
theorem dframe_no2 (y u x : PlV) (q : Int) (w : World) (hw : wholeB y u x = true) (hk : knownB q = false) :
    Calls Try.prog 26 #[.agg (frCells y u x), .int .i64 q] w (NoFrame 1 w) := by
  go_enter Try.func26, Try.ntmps26
  go_wp2_with fail
  refine (whole_any y u x _).mono ?_
  rintro e w1 ⟨rfl, hb1⟩
  have G1 : Box w1 (w.heap.size + 1) #[.int .i64 0, .int .i64 0, .slice none 0 0, .int .i64 0, .int .i64 0, .slice none 0 0, .int .i64 0, .int .i64 0, .slice none 0 0] := (Box.newAt (w.alloc _) _ _ (by simp)).below hb1 (by simp)
  have L1 : Below w.heap.size w w1 := (((Below.refl _ w).alloc (Nat.le_refl _) _).alloc (by simp) _).trans (hb1.mono (by simp; omega))
  clear hb1
  obtain ⟨e0, e1, e2, e3, e4, e5, e6, e7, e8⟩ := G1.cell9
  obtain ⟨f0, f1, f2, f3, f4, f5, f6, f7, f8⟩ := G1.frozen9
  go_wp2_with (go_at_call 48; refine (known_any _ _).mono ?_; rintro e w' ⟨rfl, rfl⟩)
  refine bodyPost_ret (v := .tuple #[.agg #[.int .i64 0, .int .i64 0, .slice none 0 0, .int .i64 0, .int .i64 0, .slice none 0 0, .int .i64 0, .int .i64 0, .slice none 0 0], .int .i64 1]) (by simp [results, Try.results26, go_sem, e0, e1, e2, e3, e4, e5, e6, e7, e8]) rfl ⟨rfl, ?_⟩
  exact L1.trans (Oth.below ((((((((((Oth.refl (w.heap.size + 1) w1).set 0 _).set 1 _).set 2 _).set 3 _).set 4 _).set 5 _).set 6 _).set 7 _).set 8 _) (B := w.heap.size) (by omega) L1.size)

theorem whole_rights {y u x : PlV} (h : wholeB y u x = true) : rightB y.a y.b y.n = true ∧ rightB u.a u.b u.n = true ∧ rightB x.a x.b x.n = true := by
  unfold wholeB at h
  simp only [Bool.and_eq_true] at h
  exact ⟨h.1.1.1.1.1.1.1.1, h.1.1.1.1.1.1.1.2, h.1.1.1.1.1.1.2⟩

/-- What deblock.Plane makes of a right plane. -/
theorem dplane_pl (p : PlV) (q : Int) (w : World) (hr : rightB p.a p.b p.n = true) (hk : knownB q = true) (hS : Rd w p.A p.n (by8 p.g)) (hg : Byt p.g) :
    Calls Try.prog 19 #[.agg #[.int .i64 p.a, .int .i64 p.b, .slice p.A p.n p.c], .int .i64 q] w (MadePlane p.a p.b p.n (dbP q p.a.toNat p.b.toNat p.g) w) := by
  obtain ⟨a, b, A, n, c, g⟩ := p
  dsimp only at hr hS hg ⊢
  obtain ⟨r1, r2, r3, r4, r5⟩ := rightB_iff.1 hr
  obtain ⟨W, rfl⟩ := Int.eq_ofNat_of_zero_le (show 0 ≤ a by omega)
  obtain ⟨H, rfl⟩ := Int.eq_ofNat_of_zero_le (show 0 ≤ b by omega)
  exact dplane_yes W H q A n c g w hr hk hS hg
theorem rplane_pl (p : PlV) (q : Int) (w : World) (hr : rightB p.a p.b p.n = true) (hk : knownB q = true) (hS : Rd w p.A p.n (by8 p.g)) (hg : Byt p.g) :
    Calls Try.prog 25 #[.agg #[.int .i64 p.a, .int .i64 p.b, .slice p.A p.n p.c], .int .i64 q] w (MadePlaneC p.a p.b p.n (dbP q p.a.toNat p.b.toNat p.g) w) := by
  obtain ⟨a, b, A, n, c, g⟩ := p
  dsimp only at hr hS hg ⊢
  obtain ⟨r1, r2, r3, r4, r5⟩ := rightB_iff.1 hr
  obtain ⟨W, rfl⟩ := Int.eq_ofNat_of_zero_le (show 0 ≤ a by omega)
  obtain ⟨H, rfl⟩ := Int.eq_ofNat_of_zero_le (show 0 ≤ b by omega)
  exact rplane_yes W H q A n c g w hr hk hS hg

end Go.Proofs.Ytlkogokhcdehfaa
