/- DeblockPlanes: any plane and any frame is made smooth as the document says, or answered with its error, and what is handed in stays: proved for every plane, frame and quantiser, no condition. -/
import Derived.Test.YtlkogokhcdehfaaFr4
import Derived.Test.YtlkogokhcdehfaaKn
import Derived.Test.YtlkogokhcdehfaaClose
namespace Go.Proofs.Ytlkogokhcdehfaa
open Go.ChangeShapes Go.WideShapes Go.ChangeAt Go.RowKit Go.Joins Go.Kin
set_option linter.unusedVariables false

/-- A plane and an error, its samples read. -/
def GivesP (p : PlV) (k : Int) (w : World) (e : Ending) (w' : World) : Prop :=
  ∃ A c, e = .returned (.tuple #[.agg #[.int .i64 p.a, .int .i64 p.b, .slice A p.n c], .int .i64 k]) ∧ Rd w' A p.n (by8 p.g) ∧ Below w.heap.size w w'
def GivesF (y u x : PlV) (k : Int) (w : World) (e : Ending) (w' : World) : Prop :=
  ∃ A1 c1 A2 c2 A3 c3, e = .returned (.tuple #[.agg #[.int .i64 y.a, .int .i64 y.b, .slice A1 y.n c1, .int .i64 u.a, .int .i64 u.b, .slice A2 u.n c2, .int .i64 x.a, .int .i64 x.b, .slice A3 x.n c3], .int .i64 k]) ∧
    Rd w' A1 y.n (by8 y.g) ∧ Rd w' A2 u.n (by8 u.g) ∧ Rd w' A3 x.n (by8 x.g) ∧ Below w.heap.size w w'
def noP : PlV := ⟨0, 0, none, 0, 0, fun _ => 0⟩

theorem GivesP.no {k : Int} {w : World} {e : Ending} {w' : World} (h : NoPlane k w e w') : GivesP noP k w e w' := ⟨none, 0, h.1, Rd.none_ _ _ _, h.2⟩
theorem GivesF.no {k : Int} {w : World} {e : Ending} {w' : World} (h : NoFrame k w e w') : GivesF noP noP noP k w e w' := ⟨none, 0, none, 0, none, 0, h.1, Rd.none_ _ _ _, Rd.none_ _ _ _, Rd.none_ _ _ _, h.2⟩

theorem planes_both (p : PlV) (q : Int) (w : World) (hp : p.Ok w) : ∃ r k, Byt r.g ∧
    (∀ w1, Below w.heap.size w w1 → Calls Try.prog 19 #[.agg #[.int .i64 p.a, .int .i64 p.b, .slice p.A p.n p.c], .int .i64 q] w1 (GivesP r k w1)) ∧
    (∀ w1, Below w.heap.size w w1 → Calls Try.prog 25 #[.agg #[.int .i64 p.a, .int .i64 p.b, .slice p.A p.n p.c], .int .i64 q] w1 (GivesP r k w1)) := by
  cases hr : rightB p.a p.b p.n with
  | false => exact ⟨noP, 61, fun _ => by simp [noP], fun w1 _ => (dplane_no1 _ _ _ _ _ _ _ hr).mono fun _ _ h => .no h, fun w1 _ => (rplane_no1 _ _ _ _ _ _ _ hr).mono fun _ _ h => .no h⟩
  | true =>
    cases hk : knownB q with
    | false => exact ⟨noP, 1, fun _ => by simp [noP], fun w1 _ => (dplane_no2 _ _ _ _ _ _ _ hr hk).mono fun _ _ h => .no h, fun w1 _ => (rplane_no2 _ _ _ _ _ _ _ hr hk).mono fun _ _ h => .no h⟩
    | true =>
      refine ⟨⟨p.a, p.b, none, p.n, 0, dbP q p.a.toNat p.b.toNat p.g⟩, 0, colsE_byt (rowsE_byt hp.byt _) _, fun w1 hb => (dplane_pl p q w1 hr hk (hp.rd.below hb) hp.byt).mono ?_, fun w1 hb => (rplane_pl p q w1 hr hk (hp.rd.below hb) hp.byt).mono ?_⟩
      · rintro e w' ⟨b, he, _, hR, hL⟩; exact ⟨_, _, he, hR.rd, hL⟩
      · rintro e w' ⟨b, c, he, _, hR, hL⟩; exact ⟨_, _, he, hR.rd, hL⟩
theorem frames_both (y u x : PlV) (q : Int) (w : World) (hy : y.Ok w) (hu : u.Ok w) (hx : x.Ok w) : ∃ r s t k, Byt r.g ∧ Byt s.g ∧ Byt t.g ∧
    (∀ w1, Below w.heap.size w w1 → Calls Try.prog 26 #[.agg (frCells y u x), .int .i64 q] w1 (GivesF r s t k w1)) ∧
    (∀ w1, Below w.heap.size w w1 → Calls Try.prog 27 #[.agg (frCells y u x), .int .i64 q] w1 (GivesF r s t k w1)) := by
  cases hr : wholeB y u x with
  | false => exact ⟨noP, noP, noP, 61, fun _ => by simp [noP], fun _ => by simp [noP], fun _ => by simp [noP], fun w1 _ => (dframe_no1 _ _ _ _ _ hr).mono fun _ _ h => .no h, fun w1 _ => (rframe_no1 _ _ _ _ _ hr).mono fun _ _ h => .no h⟩
  | true =>
    cases hk : knownB q with
    | false => exact ⟨noP, noP, noP, 1, fun _ => by simp [noP], fun _ => by simp [noP], fun _ => by simp [noP], fun w1 _ => (dframe_no2 _ _ _ _ _ hr hk).mono fun _ _ h => .no h, fun w1 _ => (rframe_no2 _ _ _ _ _ hr hk).mono fun _ _ h => .no h⟩
    | true =>
      refine ⟨⟨y.a, y.b, none, y.n, 0, dbP q y.a.toNat y.b.toNat y.g⟩, ⟨u.a, u.b, none, u.n, 0, dbP q u.a.toNat u.b.toNat u.g⟩, ⟨x.a, x.b, none, x.n, 0, dbP q x.a.toNat x.b.toNat x.g⟩, 0, colsE_byt (rowsE_byt hy.byt _) _, colsE_byt (rowsE_byt hu.byt _) _, colsE_byt (rowsE_byt hx.byt _) _,
        fun w1 hb => (dframe_yes y u x q w1 hr hk (hy.below hb) (hu.below hb) (hx.below hb)).mono fun _ _ h => h, fun w1 hb => (rframe_yes y u x q w1 hr hk (hy.below hb) (hu.below hb) (hx.below hb)).mono fun _ _ h => h⟩

theorem samePB_refl (a b : Int) (n : Nat) (g : Nat → Int) : samePB a b n g a b n g = true := by simp [samePB]

theorem sameP_yes (a b : Int) (A A' : Option Addr) (n c d : Nat) (g : Nat → Int) (w : World) (hR : Rd w A n (by8 g)) (hR' : Rd w A' n (by8 g)) :
    Calls Try.prog 28 #[.agg #[.int .i64 a, .int .i64 b, .slice A n c], .agg #[.int .i64 a, .int .i64 b, .slice A' n d]] w fun e w' => e = .returned (.bool true) ∧ Below w.heap.size w w' :=
  (sameP_any a b a b A A' n c n d g g w hR hR').mono fun e w' ⟨he, hb⟩ => ⟨by rw [he, samePB_refl], hb⟩
theorem sameF_yes (y u x : PlV) (A B C A' B' C' : Option Addr) (c d e c' d' e' : Nat) (w : World) (h1 : Rd w A y.n (by8 y.g)) (h2 : Rd w B u.n (by8 u.g)) (h3 : Rd w C x.n (by8 x.g)) (h4 : Rd w A' y.n (by8 y.g)) (h5 : Rd w B' u.n (by8 u.g)) (h6 : Rd w C' x.n (by8 x.g)) :
    Calls Try.prog 29 #[.agg #[.int .i64 y.a, .int .i64 y.b, .slice A y.n c, .int .i64 u.a, .int .i64 u.b, .slice B u.n d, .int .i64 x.a, .int .i64 x.b, .slice C x.n e], .agg #[.int .i64 y.a, .int .i64 y.b, .slice A' y.n c', .int .i64 u.a, .int .i64 u.b, .slice B' u.n d', .int .i64 x.a, .int .i64 x.b, .slice C' x.n e']] w
      fun e w' => e = .returned (.bool true) ∧ Below w.heap.size w w' :=
  (sameF_any ⟨y.a, y.b, A, y.n, c, y.g⟩ ⟨u.a, u.b, B, u.n, d, u.g⟩ ⟨x.a, x.b, C, x.n, e, x.g⟩ ⟨y.a, y.b, A', y.n, c', y.g⟩ ⟨u.a, u.b, B', u.n, d', u.g⟩ ⟨x.a, x.b, C', x.n, e', x.g⟩ w h1 h2 h3 h4 h5 h6).mono fun e w' ⟨he, hb⟩ => ⟨by rw [he]; simp [sameFB, samePB_refl], hb⟩

namespace DeblockPlanes
set_option maxRecDepth 100000 in
set_option maxHeartbeats 2000000 in
theorem walk_no (w : World) (p y u x : PlV) (q : Int) (h : fitB p.n = false ∨ (fitB p.n = true ∧ fitFB y u x = false)) :
    Calls Try.prog 7 #[.agg #[.int .i64 p.a, .int .i64 p.b, .slice p.A p.n p.c], .agg (frCells y u x), .int .i64 q] w fun e w' => e = .returned (.bool true) ∧ Below w.heap.size w w' := by
  rcases h with h1 | ⟨h1, h2⟩
  all_goals go_enter Try.func7, Try.ntmps7
  all_goals go_wp2_with fail
  all_goals refine (fits_any _ _ _ _ _ _).mono ?_
  all_goals rintro e w1 ⟨rfl, hb1⟩
  all_goals have K := (((Kn.start w).new w.heap.size _ _ rfl).new (w.heap.size + 1) _ _ (by simp)).below hb1
  all_goals clear hb1
  all_goals have c0 := K.1.cells
  all_goals go_wp2_with fail
  all_goals refine (fitsF_any y u x _).mono ?_
  all_goals rintro e w2 ⟨rfl, hb2⟩
  all_goals have K := K.below hb2
  all_goals clear hb2 c0
  all_goals go_wp2_with fail
  all_goals refine (alive11 _).mono ?_
  all_goals rintro e w3 ⟨rfl, hb3⟩
  all_goals have K := K.below hb3
  all_goals go_wp2
  all_goals go_ret
  all_goals exact ⟨rfl, K.2.2.1⟩

set_option maxRecDepth 100000 in
set_option maxHeartbeats 4000000 in
theorem walk_yes (w : World) (p y u x : PlV) (q : Int) (hp : p.Ok w) (hy : y.Ok w) (hu : u.Ok w) (hx : x.Ok w) (h1 : fitB p.n = true) (h2 : fitFB y u x = true) :
    Calls Try.prog 7 #[.agg #[.int .i64 p.a, .int .i64 p.b, .slice p.A p.n p.c], .agg (frCells y u x), .int .i64 q] w fun e w' => e = .returned (.bool true) ∧ Below w.heap.size w w' := by
  obtain ⟨r, k, hr, hP1, hP2⟩ := planes_both p q w hp
  obtain ⟨ry, ru, rx, j, hry, hru, hrx, hF1, hF2⟩ := frames_both y u x q w hy hu hx
  have HP1 := Lib.hid hP1
  have HP2 := Lib.hid hP2
  have HF1 := Lib.hid hF1
  have HF2 := Lib.hid hF2
  clear hP1 hP2 hF1 hF2
  have f1 := fitB_le h1
  have f2 : y.n ≤ 10000 ∧ u.n ≤ 10000 ∧ x.n ≤ 10000 := by
    unfold fitFB at h2
    simp only [Bool.and_eq_true] at h2
    exact ⟨fitB_le h2.1.1, fitB_le h2.1.2, fitB_le h2.2⟩
  have K := Kn.start w
  go_enter Try.func7, Try.ntmps7
  go_wp2_with fail
  refine (fits_any _ _ _ _ _ _).mono ?_
  rintro e w1 ⟨rfl, hb1⟩
  replace K := ((K.new w.heap.size _ _ rfl).new (w.heap.size + 1) _ _ (by simp)).below hb1
  clear hb1
  replace kc0 := Box.cells K.1
  replace kl0 := Box.lt K.1
  replace kc1 := Box.cells K.2.1
  replace kl1 := Box.lt K.2.1
  replace L : Below _ _ _ := K.2.2.1
  go_wp2_with fail
  refine (fitsF_any y u x _).mono ?_
  rintro e w2 ⟨rfl, hb2⟩
  replace K := K.below hb2
  clear hb2
  replace kc0 := Box.cells K.1
  replace kl0 := Box.lt K.1
  replace kc1 := Box.cells K.2.1
  replace kl1 := Box.lt K.2.1
  replace L : Below _ _ _ := K.2.2.1
  go_wp2_with fail
  refine (rcopy_any _ _ _ _ _ p.g _ (hp.rd.below L) (by omega)).mono ?_
  rintro e w3 ⟨A3, c3, rfl, hO3, hb3⟩
  replace K := K.below hb3
  clear hb3
  replace kc0 := Box.cells K.1
  replace kl0 := Box.lt K.1
  replace kc1 := Box.cells K.2.1
  replace kl1 := Box.lt K.2.1
  replace L : Below _ _ _ := K.2.2.1
  replace K := K.add (x := .rd A3 p.n (by8 p.g)) hO3.rd
  clear hO3
  go_wp2_with fail
  refine (rcopyF_any y u x _ (hy.rd.below (L.alloc L.size _)) (hu.rd.below (L.alloc L.size _)) (hx.rd.below (L.alloc L.size _)) f2.1 f2.2.1 f2.2.2).mono ?_
  rintro e w4 ⟨A4, c4, B4, d4, C4, e4, rfl, Y4, U4, X4, hb4⟩
  replace K := (K.new w3.heap.size _ _ rfl).below hb4
  clear hb4
  replace kc0 := Box.cells K.1
  replace kl0 := Box.lt K.1
  replace kc2 := Box.cells K.2.2.1
  replace kl2 := Box.lt K.2.2.1
  replace kc3 := Box.cells K.2.2.2.1
  replace kl3 := Box.lt K.2.2.2.1
  replace L : Below _ _ _ := K.2.2.2.2.1
  replace K := ((K.add (x := .rd A4 y.n (by8 y.g)) Y4).add (x := .rd B4 u.n (by8 u.g)) U4).add (x := .rd C4 x.n (by8 x.g)) X4
  clear Y4 U4 X4
  go_wp2_with fail
  refine (HP1.out _ (L.alloc L.size _)).mono ?_
  rintro e w5 ⟨A5, c5, rfl, R5, hb5⟩
  replace K := (K.new w4.heap.size _ _ rfl).below hb5
  clear hb5
  replace kc0 := Box.cells K.1
  replace kl0 := Box.lt K.1
  replace kc4 := Box.cells K.2.2.2.2.1
  replace kl4 := Box.lt K.2.2.2.2.1
  replace kc6 := Box.cells K.2.2.2.2.2.2.1
  replace kl6 := Box.lt K.2.2.2.2.2.2.1
  replace kc7 := Box.cells K.2.2.2.2.2.2.2.1
  replace kl7 := Box.lt K.2.2.2.2.2.2.2.1
  replace L : Below _ _ _ := K.2.2.2.2.2.2.2.2.1
  replace K := K.add (x := .rd A5 r.n (by8 r.g)) R5
  clear R5
  go_wp2_with fail
  refine (HP2.out _ (L.alloc L.size _)).mono ?_
  rintro e w6 ⟨A6, c6, rfl, R6, hb6⟩
  replace K := (K.new w5.heap.size _ _ rfl).below hb6
  clear hb6
  replace kc0 := Box.cells K.1
  replace kl0 := Box.lt K.1
  replace kc2 := Box.cells K.2.2.1
  replace kl2 := Box.lt K.2.2.1
  replace kc6 := Box.cells K.2.2.2.2.2.2.1
  replace kl6 := Box.lt K.2.2.2.2.2.2.1
  replace kc8 := Box.cells K.2.2.2.2.2.2.2.2.1
  replace kl8 := Box.lt K.2.2.2.2.2.2.2.2.1
  replace kc9 := Box.cells K.2.2.2.2.2.2.2.2.2.1
  replace kl9 := Box.lt K.2.2.2.2.2.2.2.2.2.1
  replace L : Below _ _ _ := K.2.2.2.2.2.2.2.2.2.2.1
  replace K := K.add (x := .rd A6 r.n (by8 r.g)) R6
  clear R6
  go_wp2_with fail
  refine (HF1.out _ (L.alloc L.size _)).mono ?_
  rintro e w7 ⟨A7, c7, B7, d7, C7, e7, rfl, Y7, U7, X7, hb7⟩
  replace K := (K.new w6.heap.size _ _ rfl).below hb7
  clear hb7
  replace kc0 := Box.cells K.1
  replace kl0 := Box.lt K.1
  replace kc2 := Box.cells K.2.2.1
  replace kl2 := Box.lt K.2.2.1
  replace kc4 := Box.cells K.2.2.2.2.1
  replace kl4 := Box.lt K.2.2.2.2.1
  replace kc8 := Box.cells K.2.2.2.2.2.2.2.2.1
  replace kl8 := Box.lt K.2.2.2.2.2.2.2.2.1
  replace kc10 := Box.cells K.2.2.2.2.2.2.2.2.2.2.1
  replace kl10 := Box.lt K.2.2.2.2.2.2.2.2.2.2.1
  replace kc11 := Box.cells K.2.2.2.2.2.2.2.2.2.2.2.1
  replace kl11 := Box.lt K.2.2.2.2.2.2.2.2.2.2.2.1
  replace L : Below _ _ _ := K.2.2.2.2.2.2.2.2.2.2.2.2.1
  replace K := ((K.add (x := .rd A7 ry.n (by8 ry.g)) Y7).add (x := .rd B7 ru.n (by8 ru.g)) U7).add (x := .rd C7 rx.n (by8 rx.g)) X7
  clear Y7 U7 X7
  go_wp2_with fail
  refine (HF2.out _ (L.alloc L.size _)).mono ?_
  rintro e w8 ⟨A8, c8, B8, d8, C8, e8, rfl, Y8, U8, X8, hb8⟩
  replace K := (K.new w7.heap.size _ _ rfl).below hb8
  clear hb8
  replace kc0 := Box.cells K.1
  replace kl0 := Box.lt K.1
  replace X7 : Rd _ _ _ _ := K.2.1
  replace U7 : Rd _ _ _ _ := K.2.2.1
  replace Y7 : Rd _ _ _ _ := K.2.2.2.1
  replace kc4 := Box.cells K.2.2.2.2.1
  replace kl4 := Box.lt K.2.2.2.2.1
  replace R6 : Rd _ _ _ _ := K.2.2.2.2.2.1
  replace kc6 := Box.cells K.2.2.2.2.2.2.1
  replace kl6 := Box.lt K.2.2.2.2.2.2.1
  replace R5 : Rd _ _ _ _ := K.2.2.2.2.2.2.2.1
  replace kc8 := Box.cells K.2.2.2.2.2.2.2.2.1
  replace kl8 := Box.lt K.2.2.2.2.2.2.2.2.1
  replace X4 : Rd _ _ _ _ := K.2.2.2.2.2.2.2.2.2.1
  replace U4 : Rd _ _ _ _ := K.2.2.2.2.2.2.2.2.2.2.1
  replace Y4 : Rd _ _ _ _ := K.2.2.2.2.2.2.2.2.2.2.2.1
  replace kc12 := Box.cells K.2.2.2.2.2.2.2.2.2.2.2.2.1
  replace kl12 := Box.lt K.2.2.2.2.2.2.2.2.2.2.2.2.1
  replace R3 : Rd _ _ _ _ := K.2.2.2.2.2.2.2.2.2.2.2.2.2.1
  replace kc14 := Box.cells K.2.2.2.2.2.2.2.2.2.2.2.2.2.2.1
  replace kl14 := Box.lt K.2.2.2.2.2.2.2.2.2.2.2.2.2.2.1
  replace kc15 := Box.cells K.2.2.2.2.2.2.2.2.2.2.2.2.2.2.2.1
  replace kl15 := Box.lt K.2.2.2.2.2.2.2.2.2.2.2.2.2.2.2.1
  replace L : Below _ _ _ := K.2.2.2.2.2.2.2.2.2.2.2.2.2.2.2.2.1
  replace K := ((K.add (x := .rd A8 ry.n (by8 ry.g)) Y8).add (x := .rd B8 ru.n (by8 ru.g)) U8).add (x := .rd C8 rx.n (by8 rx.g)) X8
  clear Y8 U8 X8
  go_wp2_with fail
  refine (sameP_yes _ _ _ _ _ _ _ r.g _ (R5.alloc _) (R6.alloc _)).mono ?_
  rintro e w9 ⟨rfl, hb9⟩
  replace K := (K.new w8.heap.size _ _ rfl).below hb9
  clear hb9
  replace kc0 := Box.cells K.1
  replace kl0 := Box.lt K.1
  replace X8 : Rd _ _ _ _ := K.2.1
  replace U8 : Rd _ _ _ _ := K.2.2.1
  replace Y8 : Rd _ _ _ _ := K.2.2.2.1
  replace kc4 := Box.cells K.2.2.2.2.1
  replace kl4 := Box.lt K.2.2.2.2.1
  replace X7 : Rd _ _ _ _ := K.2.2.2.2.2.1
  replace U7 : Rd _ _ _ _ := K.2.2.2.2.2.2.1
  replace Y7 : Rd _ _ _ _ := K.2.2.2.2.2.2.2.1
  replace kc8 := Box.cells K.2.2.2.2.2.2.2.2.1
  replace kl8 := Box.lt K.2.2.2.2.2.2.2.2.1
  replace R6 : Rd _ _ _ _ := K.2.2.2.2.2.2.2.2.2.1
  replace kc10 := Box.cells K.2.2.2.2.2.2.2.2.2.2.1
  replace kl10 := Box.lt K.2.2.2.2.2.2.2.2.2.2.1
  replace R5 : Rd _ _ _ _ := K.2.2.2.2.2.2.2.2.2.2.2.1
  replace kc12 := Box.cells K.2.2.2.2.2.2.2.2.2.2.2.2.1
  replace kl12 := Box.lt K.2.2.2.2.2.2.2.2.2.2.2.2.1
  replace X4 : Rd _ _ _ _ := K.2.2.2.2.2.2.2.2.2.2.2.2.2.1
  replace U4 : Rd _ _ _ _ := K.2.2.2.2.2.2.2.2.2.2.2.2.2.2.1
  replace Y4 : Rd _ _ _ _ := K.2.2.2.2.2.2.2.2.2.2.2.2.2.2.2.1
  replace kc16 := Box.cells K.2.2.2.2.2.2.2.2.2.2.2.2.2.2.2.2.1
  replace kl16 := Box.lt K.2.2.2.2.2.2.2.2.2.2.2.2.2.2.2.2.1
  replace R3 : Rd _ _ _ _ := K.2.2.2.2.2.2.2.2.2.2.2.2.2.2.2.2.2.1
  replace kc18 := Box.cells K.2.2.2.2.2.2.2.2.2.2.2.2.2.2.2.2.2.2.1
  replace kl18 := Box.lt K.2.2.2.2.2.2.2.2.2.2.2.2.2.2.2.2.2.2.1
  replace kc19 := Box.cells K.2.2.2.2.2.2.2.2.2.2.2.2.2.2.2.2.2.2.2.1
  replace kl19 := Box.lt K.2.2.2.2.2.2.2.2.2.2.2.2.2.2.2.2.2.2.2.1
  replace L : Below _ _ _ := K.2.2.2.2.2.2.2.2.2.2.2.2.2.2.2.2.2.2.2.2.1
  go_wp2_with fail
  refine (sameF_yes ry ru rx _ _ _ _ _ _ _ _ _ _ _ _ _ Y7 U7 X7 Y8 U8 X8).mono ?_
  rintro e w10 ⟨rfl, hb10⟩
  replace K := K.below hb10
  clear hb10
  replace kc0 := Box.cells K.1
  replace kl0 := Box.lt K.1
  replace X8 : Rd _ _ _ _ := K.2.1
  replace U8 : Rd _ _ _ _ := K.2.2.1
  replace Y8 : Rd _ _ _ _ := K.2.2.2.1
  replace kc4 := Box.cells K.2.2.2.2.1
  replace kl4 := Box.lt K.2.2.2.2.1
  replace X7 : Rd _ _ _ _ := K.2.2.2.2.2.1
  replace U7 : Rd _ _ _ _ := K.2.2.2.2.2.2.1
  replace Y7 : Rd _ _ _ _ := K.2.2.2.2.2.2.2.1
  replace kc8 := Box.cells K.2.2.2.2.2.2.2.2.1
  replace kl8 := Box.lt K.2.2.2.2.2.2.2.2.1
  replace R6 : Rd _ _ _ _ := K.2.2.2.2.2.2.2.2.2.1
  replace kc10 := Box.cells K.2.2.2.2.2.2.2.2.2.2.1
  replace kl10 := Box.lt K.2.2.2.2.2.2.2.2.2.2.1
  replace R5 : Rd _ _ _ _ := K.2.2.2.2.2.2.2.2.2.2.2.1
  replace kc12 := Box.cells K.2.2.2.2.2.2.2.2.2.2.2.2.1
  replace kl12 := Box.lt K.2.2.2.2.2.2.2.2.2.2.2.2.1
  replace X4 : Rd _ _ _ _ := K.2.2.2.2.2.2.2.2.2.2.2.2.2.1
  replace U4 : Rd _ _ _ _ := K.2.2.2.2.2.2.2.2.2.2.2.2.2.2.1
  replace Y4 : Rd _ _ _ _ := K.2.2.2.2.2.2.2.2.2.2.2.2.2.2.2.1
  replace kc16 := Box.cells K.2.2.2.2.2.2.2.2.2.2.2.2.2.2.2.2.1
  replace kl16 := Box.lt K.2.2.2.2.2.2.2.2.2.2.2.2.2.2.2.2.1
  replace R3 : Rd _ _ _ _ := K.2.2.2.2.2.2.2.2.2.2.2.2.2.2.2.2.2.1
  replace kc18 := Box.cells K.2.2.2.2.2.2.2.2.2.2.2.2.2.2.2.2.2.2.1
  replace kl18 := Box.lt K.2.2.2.2.2.2.2.2.2.2.2.2.2.2.2.2.2.2.1
  replace kc19 := Box.cells K.2.2.2.2.2.2.2.2.2.2.2.2.2.2.2.2.2.2.2.1
  replace kl19 := Box.lt K.2.2.2.2.2.2.2.2.2.2.2.2.2.2.2.2.2.2.2.1
  replace L : Below _ _ _ := K.2.2.2.2.2.2.2.2.2.2.2.2.2.2.2.2.2.2.2.2.1
  go_wp2_with fail
  refine (alive11 _).mono ?_
  rintro e w11 ⟨rfl, hb11⟩
  replace K := K.below hb11
  clear hb11
  replace kc0 := Box.cells K.1
  replace kl0 := Box.lt K.1
  replace X8 : Rd _ _ _ _ := K.2.1
  replace U8 : Rd _ _ _ _ := K.2.2.1
  replace Y8 : Rd _ _ _ _ := K.2.2.2.1
  replace kc4 := Box.cells K.2.2.2.2.1
  replace kl4 := Box.lt K.2.2.2.2.1
  replace X7 : Rd _ _ _ _ := K.2.2.2.2.2.1
  replace U7 : Rd _ _ _ _ := K.2.2.2.2.2.2.1
  replace Y7 : Rd _ _ _ _ := K.2.2.2.2.2.2.2.1
  replace kc8 := Box.cells K.2.2.2.2.2.2.2.2.1
  replace kl8 := Box.lt K.2.2.2.2.2.2.2.2.1
  replace R6 : Rd _ _ _ _ := K.2.2.2.2.2.2.2.2.2.1
  replace kc10 := Box.cells K.2.2.2.2.2.2.2.2.2.2.1
  replace kl10 := Box.lt K.2.2.2.2.2.2.2.2.2.2.1
  replace R5 : Rd _ _ _ _ := K.2.2.2.2.2.2.2.2.2.2.2.1
  replace kc12 := Box.cells K.2.2.2.2.2.2.2.2.2.2.2.2.1
  replace kl12 := Box.lt K.2.2.2.2.2.2.2.2.2.2.2.2.1
  replace X4 : Rd _ _ _ _ := K.2.2.2.2.2.2.2.2.2.2.2.2.2.1
  replace U4 : Rd _ _ _ _ := K.2.2.2.2.2.2.2.2.2.2.2.2.2.2.1
  replace Y4 : Rd _ _ _ _ := K.2.2.2.2.2.2.2.2.2.2.2.2.2.2.2.1
  replace kc16 := Box.cells K.2.2.2.2.2.2.2.2.2.2.2.2.2.2.2.2.1
  replace kl16 := Box.lt K.2.2.2.2.2.2.2.2.2.2.2.2.2.2.2.2.1
  replace R3 : Rd _ _ _ _ := K.2.2.2.2.2.2.2.2.2.2.2.2.2.2.2.2.2.1
  replace kc18 := Box.cells K.2.2.2.2.2.2.2.2.2.2.2.2.2.2.2.2.2.2.1
  replace kl18 := Box.lt K.2.2.2.2.2.2.2.2.2.2.2.2.2.2.2.2.2.2.1
  replace kc19 := Box.cells K.2.2.2.2.2.2.2.2.2.2.2.2.2.2.2.2.2.2.2.1
  replace kl19 := Box.lt K.2.2.2.2.2.2.2.2.2.2.2.2.2.2.2.2.2.2.2.1
  replace L : Below _ _ _ := K.2.2.2.2.2.2.2.2.2.2.2.2.2.2.2.2.2.2.2.2.1
  go_wp2_with fail
  refine (sameP_yes _ _ _ _ _ _ _ p.g _ (hp.rd.below L) R3).mono ?_
  rintro e w12 ⟨rfl, hb12⟩
  replace K := K.below hb12
  clear hb12
  replace kc0 := Box.cells K.1
  replace kl0 := Box.lt K.1
  replace X8 : Rd _ _ _ _ := K.2.1
  replace U8 : Rd _ _ _ _ := K.2.2.1
  replace Y8 : Rd _ _ _ _ := K.2.2.2.1
  replace kc4 := Box.cells K.2.2.2.2.1
  replace kl4 := Box.lt K.2.2.2.2.1
  replace X7 : Rd _ _ _ _ := K.2.2.2.2.2.1
  replace U7 : Rd _ _ _ _ := K.2.2.2.2.2.2.1
  replace Y7 : Rd _ _ _ _ := K.2.2.2.2.2.2.2.1
  replace kc8 := Box.cells K.2.2.2.2.2.2.2.2.1
  replace kl8 := Box.lt K.2.2.2.2.2.2.2.2.1
  replace R6 : Rd _ _ _ _ := K.2.2.2.2.2.2.2.2.2.1
  replace kc10 := Box.cells K.2.2.2.2.2.2.2.2.2.2.1
  replace kl10 := Box.lt K.2.2.2.2.2.2.2.2.2.2.1
  replace R5 : Rd _ _ _ _ := K.2.2.2.2.2.2.2.2.2.2.2.1
  replace kc12 := Box.cells K.2.2.2.2.2.2.2.2.2.2.2.2.1
  replace kl12 := Box.lt K.2.2.2.2.2.2.2.2.2.2.2.2.1
  replace X4 : Rd _ _ _ _ := K.2.2.2.2.2.2.2.2.2.2.2.2.2.1
  replace U4 : Rd _ _ _ _ := K.2.2.2.2.2.2.2.2.2.2.2.2.2.2.1
  replace Y4 : Rd _ _ _ _ := K.2.2.2.2.2.2.2.2.2.2.2.2.2.2.2.1
  replace kc16 := Box.cells K.2.2.2.2.2.2.2.2.2.2.2.2.2.2.2.2.1
  replace kl16 := Box.lt K.2.2.2.2.2.2.2.2.2.2.2.2.2.2.2.2.1
  replace R3 : Rd _ _ _ _ := K.2.2.2.2.2.2.2.2.2.2.2.2.2.2.2.2.2.1
  replace kc18 := Box.cells K.2.2.2.2.2.2.2.2.2.2.2.2.2.2.2.2.2.2.1
  replace kl18 := Box.lt K.2.2.2.2.2.2.2.2.2.2.2.2.2.2.2.2.2.2.1
  replace kc19 := Box.cells K.2.2.2.2.2.2.2.2.2.2.2.2.2.2.2.2.2.2.2.1
  replace kl19 := Box.lt K.2.2.2.2.2.2.2.2.2.2.2.2.2.2.2.2.2.2.2.1
  replace L : Below _ _ _ := K.2.2.2.2.2.2.2.2.2.2.2.2.2.2.2.2.2.2.2.2.1
  go_wp2_with fail
  refine (sameF_yes y u x _ _ _ _ _ _ _ _ _ _ _ _ _ (hy.rd.below L) (hu.rd.below L) (hx.rd.below L) Y4 U4 X4).mono ?_
  rintro e w13 ⟨rfl, hb13⟩
  replace K := K.below hb13
  clear hb13
  replace L : Below _ _ _ := K.2.2.2.2.2.2.2.2.2.2.2.2.2.2.2.2.2.2.2.2.1
  go_wp2
  go_ret
  exact ⟨rfl, L⟩

theorem walk (w : World) (a b : Int) (A : Option Addr) (n c : Nat) (g : Nat → Int) (ia : I64 a) (ib : I64 b) (hR : Rd w A n (by8 g)) (hg : Byt g) (hnc : n ≤ c) (hc : c ≤ 9223372036854775807) (y u x : PlV) (hy : y.Ok w) (hu : u.Ok w) (hx : x.Ok w) (q : Int) (iq : I64 q) :
    Calls Try.prog 7 #[.agg #[.int .i64 a, .int .i64 b, .slice A n c], .agg (frCells y u x), .int .i64 q] w fun e w' => e = .returned (.bool true) ∧ Below w.heap.size w w' := by
  cases h1 : fitB n with
  | false => exact walk_no w ⟨a, b, A, n, c, g⟩ y u x q (.inl h1)
  | true =>
    cases h2 : fitFB y u x with
    | false => exact walk_no w ⟨a, b, A, n, c, g⟩ y u x q (.inr ⟨h1, h2⟩)
    | true => exact walk_yes w ⟨a, b, A, n, c, g⟩ y u x q ⟨ia, ib, hR, hg, hnc, hc⟩ hy hu hx h1 h2
end DeblockPlanes
namespace DeblockPlanes
set_option maxRecDepth 100000 in
theorem lifted (os : Os) (started : os.Started) (H : Type) (enc : TypeId × Value → H) :
    ReturnsInHanded {} Try.checked os 7 .any (Rows.deblockPlanesSpec.pre6 enc Try.prog Try.f7 Rows.deblockPlanesRow.domain false) (Rows.deblockPlanesSpec.post enc Try.prog Try.f7 false true false false) := by
  refine returnsInHanded_of_change (C := Try.checked) own started (by kernel_rfl) Try.func7
    (ChangeSpec.witness6 (enc := enc) (C := Try.checked) false ⟨#[], #[.agg #[.int .i64 0, .int .i64 0, .slice none 0 0], .agg #[.int .i64 0, .int .i64 0, .slice none 0 0, .int .i64 0, .int .i64 0, .slice none 0 0, .int .i64 0, .int .i64 0, .slice none 0 0], .int .i64 0], []⟩ 8 (by kernel_rfl) (by kernel_rfl) (by kernel_rfl) (by kernel_rfl)) ?_
  intro W base args ds gs before hval0 hW hcnd _
  have hval : ∀ (j : Nat) t v, Try.f7.params[j]? = some t → args[j]? = some v → Value.okWide Try.prog W .any base t v := hval0
  refine law_post (tb := 4) laidOut (by kernel_rfl) rfl Try.underlying4 rfl (fun ds' h => ?_) hW ?_
  · rw [Try.params7] at h
    match ds', h with
    | [d1, d2, d3], _ => exact ⟨rfl, rfl, rfl⟩
  obtain ⟨p, q, hA0, hV, rfl, hfz, hnd⟩ := hW
  have hA : DataW.TrodAll enc Try.prog W 0 (fun _ => true) true Try.f7.params.toList args.toList ds p := hA0
  rw [Try.params7] at hA hval
  obtain ⟨v0, vs0, d0, ds0, p0, q0, hargs, rfl, rfl, h0, r0⟩ := trodAll_cons hA
  obtain ⟨v1, vs1, d1, ds1, p1, q1, rfl, rfl, rfl, h1, r1⟩ := trodAll_cons r0
  obtain ⟨v2, vs2, d2, ds2, p2, q2, rfl, rfl, rfl, h2, r2⟩ := trodAll_cons r1
  obtain ⟨rfl, rfl, rfl⟩ := trodAll_nil r2
  obtain rfl : args = #[v0, v1, v2] := by cases args; simp_all
  obtain ⟨a0, b0, A0, n0, c0, g0, rfl, w0, x0, rr0, t0, l0, m0⟩ := open_plane Try.underlying29 (by kernel_rfl) ⟨rfl, rfl⟩ ⟨rfl, rfl⟩ ⟨rfl, rfl⟩ Try.underlying3 Try.underlying27 Try.underlying5 (by kernel_rfl) (by kernel_rfl) (by kernel_rfl) (hval 0 29 v0 rfl rfl) h0
  obtain ⟨y1, u1, x1, rfl, rr1, s1, t1⟩ := open_frame Try.underlying39 (by kernel_rfl) ⟨rfl, rfl⟩ ⟨rfl, rfl⟩ ⟨rfl, rfl⟩ Try.underlying29 (by kernel_rfl) ⟨rfl, rfl⟩ ⟨rfl, rfl⟩ ⟨rfl, rfl⟩ Try.underlying3 Try.underlying27 Try.underlying5 (by kernel_rfl) (by kernel_rfl) (by kernel_rfl) (hval 1 39 v1 rfl rfl) h1
  obtain ⟨a2, rfl, rfl, rfl, w2⟩ := open_int Try.underlying3 (hval 2 3 v2 rfl rfl) h2
  exact walk W a0 b0 A0 n0 c0 g0 w0 x0 rr0 t0 l0 m0 y1 u1 x1 rr1 s1 t1 a2 (bounds_i64 w2)
theorem over : Rows.deblockPlanesRow.holds Try.pinned (OpenSpec.ofChange Rows.deblockPlanesSpec) :=
  OpenClaim.holds_of_wide 7 Try.f7 rfl rfl rfl rfl rfl rfl rfl ⟨rfl, rfl, rfl, rfl, rfl⟩ rfl rfl rfl rfl rfl (by kernel_rfl) Try.func7 (by kernel_rfl)
    (of_decide_eq_true (by kernel_rfl)) (by unfold Func.isWrapper; first | (rw [if_pos (by decide +kernel)]; kernel_rfl) | (rw [if_neg (by decide +kernel)]; exact ⟨rfl, rfl⟩))
    (fun os started H enc _ => lifted os started H enc)
end DeblockPlanes
theorem deblockPlanes_holds : Rows.DeblockPlanesSaid := DeblockPlanes.over

end Go.Proofs.Ytlkogokhcdehfaa
