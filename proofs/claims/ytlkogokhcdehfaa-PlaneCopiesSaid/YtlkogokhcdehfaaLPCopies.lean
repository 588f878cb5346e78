/- PlaneCopies: a copy of a frame is alike, stays apart when it is written over, and frames are alike just if all three planes are: proved for every two frames, no condition. -/
import Derived.Test.YtlkogokhcdehfaaAl6
import Derived.Test.YtlkogokhcdehfaaPw7
import Derived.Test.YtlkogokhcdehfaaKn3
import Derived.Test.YtlkogokhcdehfaaFr2
import Derived.Test.YtlkogokhcdehfaaClose
namespace Go.Proofs.Ytlkogokhcdehfaa
open Go.ChangeShapes Go.WideShapes Go.ChangeAt Go.RowKit Go.Joins Go.Kin
set_option linter.unusedVariables false

theorem samePB_comm (a b : Int) (n : Nat) (g : Nat → Int) (a' b' : Int) (m : Nat) (h : Nat → Int) : samePB a b n g a' b' m h = samePB a' b' m h a b n g := by
  unfold samePB
  rw [Bool.eq_iff_iff]
  simp only [Bool.and_eq_true, beq_iff_eq]
  constructor
  · rintro ⟨⟨h1, h2⟩, h3⟩; exact ⟨⟨h1.symm, h2.symm⟩, h3.symm⟩
  · rintro ⟨⟨h1, h2⟩, h3⟩; exact ⟨⟨h1.symm, h2.symm⟩, h3.symm⟩
theorem sameFB_comm (y u x y' u' x' : PlV) : sameFB y u x y' u' x' = sameFB y' u' x' y u x := by
  unfold sameFB
  rw [samePB_comm y.a, samePB_comm u.a, samePB_comm x.a]
theorem psame_yes (y u x : PlV) (A B C A' B' C' : Option Addr) (c d e c' d' e' : Nat) (w : World) (h1 : Rd w A y.n (by8 y.g)) (h2 : Rd w B u.n (by8 u.g)) (h3 : Rd w C x.n (by8 x.g)) (h4 : Rd w A' y.n (by8 y.g)) (h5 : Rd w B' u.n (by8 u.g)) (h6 : Rd w C' x.n (by8 x.g)) :
    Calls Try.prog 39 #[.agg #[.int .i64 y.a, .int .i64 y.b, .slice A y.n c, .int .i64 u.a, .int .i64 u.b, .slice B u.n d, .int .i64 x.a, .int .i64 x.b, .slice C x.n e], .agg #[.int .i64 y.a, .int .i64 y.b, .slice A' y.n c', .int .i64 u.a, .int .i64 u.b, .slice B' u.n d', .int .i64 x.a, .int .i64 x.b, .slice C' x.n e']] w
      fun e w' => e = .returned (.bool true) ∧ Below w.heap.size w w' :=
  (psame_any ⟨y.a, y.b, A, y.n, c, y.g⟩ ⟨u.a, u.b, B, u.n, d, u.g⟩ ⟨x.a, x.b, C, x.n, e, x.g⟩ ⟨y.a, y.b, A', y.n, c', y.g⟩ ⟨u.a, u.b, B', u.n, d', u.g⟩ ⟨x.a, x.b, C', x.n, e', x.g⟩ w h1 h2 h3 h4 h5 h6).mono fun e w' ⟨he, hb⟩ => ⟨by rw [he]; simp [sameFB, samePB_refl], hb⟩
/-- A sample, one on. -/
def up1 (g : Nat → Int) (i : Nat) : Int := (g i + 1) % 256
theorem up1_byt (g : Nat → Int) : Byt (up1 g) := fun i => by unfold up1; omega
theorem psame_not (y u x : PlV) (A B C A' B' C' : Option Addr) (c d e c' d' e' : Nat) (w : World) (gx : Nat → Int) (hn : 0 < y.n) (hy : Byt y.g) (h1 : Rd w A y.n (by8 (up1 y.g))) (h2 : Rd w B u.n (by8 u.g)) (h3 : Rd w C x.n (by8 gx)) (h4 : Rd w A' y.n (by8 y.g)) (h5 : Rd w B' u.n (by8 u.g)) (h6 : Rd w C' x.n (by8 x.g)) :
    Calls Try.prog 39 #[.agg #[.int .i64 y.a, .int .i64 y.b, .slice A y.n c, .int .i64 u.a, .int .i64 u.b, .slice B u.n d, .int .i64 x.a, .int .i64 x.b, .slice C x.n e], .agg #[.int .i64 y.a, .int .i64 y.b, .slice A' y.n c', .int .i64 u.a, .int .i64 u.b, .slice B' u.n d', .int .i64 x.a, .int .i64 x.b, .slice C' x.n e']] w
      fun e w' => e = .returned (.bool false) ∧ Below w.heap.size w w' := by
  refine (psame_any ⟨y.a, y.b, A, y.n, c, up1 y.g⟩ ⟨u.a, u.b, B, u.n, d, u.g⟩ ⟨x.a, x.b, C, x.n, e, gx⟩ ⟨y.a, y.b, A', y.n, c', y.g⟩ ⟨u.a, u.b, B', u.n, d', u.g⟩ ⟨x.a, x.b, C', x.n, e', x.g⟩ w h1 h2 h3 h4 h5 h6).mono fun e w' ⟨he, hb⟩ => ⟨?_, hb⟩
  rw [he]
  have : samePB y.a y.b y.n (up1 y.g) y.a y.b y.n y.g = false := by
    rw [Bool.eq_false_iff]
    intro h
    unfold samePB at h
    simp only [Bool.and_eq_true] at h
    have := ((strEq_iff (up1_byt _) hy).1 h.2).2 0 hn
    have b := hy 0
    unfold up1 at this
    omega
  simp [sameFB, this]

namespace PlaneCopies
set_option maxRecDepth 100000 in
set_option maxHeartbeats 2000000 in
theorem walk_no (w : World) (y u x y' u' x' : PlV) (h : fitFB y u x = false ∨ (fitFB y u x = true ∧ fitFB y' u' x' = false)) :
    Calls Try.prog 12 #[.agg (frCells y u x), .agg (frCells y' u' x')] w fun e w' => e = .returned (.bool true) ∧ Below w.heap.size w w' := by
  have K := Kn.start w
  rcases h with h1 | ⟨h1, h2⟩
  all_goals go_enter Try.func12, Try.ntmps12
  all_goals go_wp2_with fail
  all_goals refine (fitsF_any y u x _).mono ?_
  all_goals rintro e w1 ⟨rfl, hb1⟩
  all_goals replace K := ((K.new w.heap.size _ _ rfl).new (w.heap.size + 1) _ _ (by simp)).below hb1
  all_goals clear hb1
  all_goals replace kc0 := Box.cells K.1
  all_goals replace kl0 := Box.lt K.1
  all_goals replace kc1 := Box.cells K.2.1
  all_goals replace kl1 := Box.lt K.2.1
  all_goals replace L : Below _ _ _ := K.2.2.1
  all_goals go_wp2_with fail
  all_goals refine (fitsF_any y' u' x' _).mono ?_
  all_goals rintro e w2 ⟨rfl, hb2⟩
  all_goals replace K := K.below hb2
  all_goals clear hb2
  all_goals replace L : Below _ _ _ := K.2.2.1
  all_goals go_wp2_with fail
  all_goals refine (alive06 _).mono ?_
  all_goals rintro e w3 ⟨rfl, hb3⟩
  all_goals replace K := K.below hb3
  all_goals clear hb3
  all_goals replace L : Below _ _ _ := K.2.2.1
  all_goals go_wp2
  all_goals go_ret
  all_goals exact ⟨rfl, L⟩

set_option maxRecDepth 100000 in
set_option maxHeartbeats 4000000 in
theorem walk_yes (w : World) (y u x y' u' x' : PlV) (hy : y.Ok w) (hu : u.Ok w) (hx : x.Ok w) (hy' : y'.Ok w) (hu' : u'.Ok w) (hx' : x'.Ok w) (h1 : fitFB y u x = true) (h2 : fitFB y' u' x' = true) :
    Calls Try.prog 12 #[.agg (frCells y u x), .agg (frCells y' u' x')] w fun e w' => e = .returned (.bool true) ∧ Below w.heap.size w w' := by
  have f2 : y.n ≤ 10000 ∧ u.n ≤ 10000 ∧ x.n ≤ 10000 := by
    unfold fitFB at h1
    simp only [Bool.and_eq_true] at h1
    exact ⟨fitB_le h1.1.1, fitB_le h1.1.2, fitB_le h1.2⟩
  obtain ⟨f3, f4, f5⟩ := f2
  have K := ((((((Kn.start w).add (x := .rd y.A y.n (by8 y.g)) hy.rd).add (x := .rd u.A u.n (by8 u.g)) hu.rd).add (x := .rd x.A x.n (by8 x.g)) hx.rd).add (x := .rd y'.A y'.n (by8 y'.g)) hy'.rd).add (x := .rd u'.A u'.n (by8 u'.g)) hu'.rd).add (x := .rd x'.A x'.n (by8 x'.g)) hx'.rd
  have hby := hy.byt
  have hbx := hx.byt
  clear hy hu hx hy' hu' hx'
  go_enter Try.func12, Try.ntmps12
  go_wp2_with fail
  refine (fitsF_any y u x _).mono ?_
  rintro e w1 ⟨rfl, hb1⟩
  replace K := ((K.new w.heap.size _ _ rfl).new (w.heap.size + 1) _ _ (by simp)).below hb1
  clear hb1
  replace kc0 := Box.cells K.1
  replace kl0 := Box.lt K.1
  replace kc1 := Box.cells K.2.1
  replace kl1 := Box.lt K.2.1
  replace L : Below _ _ _ := K.2.2.2.2.2.2.2.2.1
  go_wp2_with fail
  refine (fitsF_any y' u' x' _).mono ?_
  rintro e w2 ⟨rfl, hb2⟩
  replace K := K.below hb2
  clear hb2
  replace kc0 := Box.cells K.1
  replace kl0 := Box.lt K.1
  replace kc1 := Box.cells K.2.1
  replace kl1 := Box.lt K.2.1
  replace X' : Rd _ _ _ _ := K.2.2.1
  replace U' : Rd _ _ _ _ := K.2.2.2.1
  replace Y' : Rd _ _ _ _ := K.2.2.2.2.1
  replace X : Rd _ _ _ _ := K.2.2.2.2.2.1
  replace U : Rd _ _ _ _ := K.2.2.2.2.2.2.1
  replace Y : Rd _ _ _ _ := K.2.2.2.2.2.2.2.1
  replace L : Below _ _ _ := K.2.2.2.2.2.2.2.2.1
  go_wp2_with fail
  refine (rcopyF_any y u x _ Y U X f3 f4 f5).mono ?_
  rintro e w3 ⟨A1, c1, A2, c2, A3, c3, rfl, R1, R2, R3, hb3⟩
  replace K := K.below hb3
  clear hb3
  replace kc0 := Box.cells K.1
  replace kl0 := Box.lt K.1
  replace kc1 := Box.cells K.2.1
  replace kl1 := Box.lt K.2.1
  replace X' : Rd _ _ _ _ := K.2.2.1
  replace U' : Rd _ _ _ _ := K.2.2.2.1
  replace Y' : Rd _ _ _ _ := K.2.2.2.2.1
  replace X : Rd _ _ _ _ := K.2.2.2.2.2.1
  replace U : Rd _ _ _ _ := K.2.2.2.2.2.2.1
  replace Y : Rd _ _ _ _ := K.2.2.2.2.2.2.2.1
  replace L : Below _ _ _ := K.2.2.2.2.2.2.2.2.1
  replace K := ((K.add (x := .rd A1 y.n (by8 y.g)) R1).add (x := .rd A2 u.n (by8 u.g)) R2).add (x := .rd A3 x.n (by8 x.g)) R3
  clear R1 R2 R3
  go_wp2_with fail
  replace K := K.new w3.heap.size #[.int .i64 y.a, .int .i64 y.b, .slice A1 y.n c1, .int .i64 u.a, .int .i64 u.b, .slice A2 u.n c2, .int .i64 x.a, .int .i64 x.b, .slice A3 x.n c3] 39 rfl
  refine (pcopy_any y u x _ (Y.alloc _) (U.alloc _) (X.alloc _) f3 f4 f5).mono ?_
  rintro e w4 ⟨b1, b2, b3, rfl, hb1, hb12, hb23, hr1, hr2, hr3, hL4⟩
  have O1 := K.offS hb1
  have O3 := K.offS (b := b3) (by omega)
  have l3 := Row.lt hr3
  replace K := ((((K.below hL4).add (x := .row b2 u.n (by8 u.g)) hr2).add (x := .row b3 x.n (by8 x.g)) hr3).add (x := .row b1 y.n (by8 y.g)) hr1)
  clear hL4 hr1 hr2 hr3 kc0 kl0 kc1 kl1 X' U' Y' X U Y L hb1
  go_wp2
  have K2 := K.new w4.heap.size #[.int .i64 y.a, .int .i64 y.b, .slice (some ⟨b1, 0, none⟩) y.n y.n, .int .i64 u.a, .int .i64 u.b, .slice (some ⟨b2, 0, none⟩) u.n u.n, .int .i64 x.a, .int .i64 x.b, .slice (some ⟨b3, 0, none⟩) x.n x.n] 39 rfl
  clear K
  generalize hw5 : w4.alloc (.cells #[.int .i64 y.a, .int .i64 y.b, .slice (some ⟨b1, 0, none⟩) y.n y.n, .int .i64 u.a, .int .i64 u.b, .slice (some ⟨b2, 0, none⟩) u.n u.n, .int .i64 x.a, .int .i64 x.b, .slice (some ⟨b3, 0, none⟩) x.n x.n] 39) = w5 at K2 ⊢
  clear hw5
  have KD := Kn.drew K2
  have HC := Lib.hid (sameFB_comm y' u' x' y u x)
  refine wp_region_allH (fun w' => Kn w' _) [2, 7, 10, 16, 19] [(0,1),(1,1),(2,2),(3,1),(4,1),(5,1),(6,1),(8,1),(9,1),(7,2),(10,2),(11,1),(12,1),(13,1),(14,1),(15,1),(17,1),(18,1),(16,2),(19,2),(20,0),(21,0)] (by kernel_rfl) (by kernel_rfl) (fun _ _ d _ _ h => by cases d <;> exact h) (Kn.drew K2) ?_
  repeat (first | (refine oH_freeG rfl rfl (fun w' hS => by have s1 := Box.cells hS.1; have s2 := Box.cells hS.2.2.2.2.2.2.2.2.2.1; have s3 := Box.cells hS.2.2.2.2.2.2.2.2.1; clear hS; go_simp; with_reducible rfl) ?_; go_simp) | (refine oH_skipG rfl rfl ?_; go_simp))
  refine oH_doG rfl rfl (fun KK hKK => ?_)
  go_simp
  refine (psame_yes y u x _ _ _ _ _ _ _ _ _ _ _ _ _ (Row.rd KD.2.1) (Row.rd KD.2.2.2.1) (Row.rd KD.2.2.1) KD.2.2.2.2.2.2.2.2.2.2.2.2.2.2.2.1 KD.2.2.2.2.2.2.2.2.2.2.2.2.2.2.1 KD.2.2.2.2.2.2.2.2.2.2.2.2.2.1).mono ?_
  rintro e w6 ⟨rfl, hL6⟩
  have K3 := (Kn.drew K2).below hL6
  refine hKK _ _ ⟨K3, ?_⟩
  clear hKK KK hL6 K2 KD
  repeat (first | (refine oH_freeG rfl rfl (fun w' hS => by have s1 := Box.cells hS.1; have s2 := Box.cells hS.2.2.2.2.2.2.2.2.2.1; have s3 := Box.cells hS.2.2.2.2.2.2.2.2.1; clear hS; go_simp; with_reducible rfl) ?_; go_simp) | (refine oH_skipG rfl rfl ?_; go_simp))
  refine oH_doG rfl rfl (fun KK hKK => ?_)
  go_simp
  refine (psame_any y u x y' u' x' _ K3.2.2.2.2.2.2.2.2.2.2.2.2.2.2.2.1 K3.2.2.2.2.2.2.2.2.2.2.2.2.2.2.1 K3.2.2.2.2.2.2.2.2.2.2.2.2.2.1 K3.2.2.2.2.2.2.2.2.2.2.2.2.1 K3.2.2.2.2.2.2.2.2.2.2.2.1 K3.2.2.2.2.2.2.2.2.2.2.1).mono ?_
  rintro e w7 ⟨rfl, hL7⟩
  have K4 := K3.below hL7
  refine hKK _ _ ⟨K4, ?_⟩
  clear hKK KK hL7 K3
  refine oH_doG rfl rfl (fun KK hKK => ?_)
  go_simp
  refine (sameF_any y u x y' u' x' _ K4.2.2.2.2.2.2.2.2.2.2.2.2.2.2.2.1 K4.2.2.2.2.2.2.2.2.2.2.2.2.2.2.1 K4.2.2.2.2.2.2.2.2.2.2.2.2.2.1 K4.2.2.2.2.2.2.2.2.2.2.2.2.1 K4.2.2.2.2.2.2.2.2.2.2.2.1 K4.2.2.2.2.2.2.2.2.2.2.1).mono ?_
  rintro e w8 ⟨rfl, hL8⟩
  have K5 := K4.below hL8
  refine hKK _ _ ⟨K5, ?_⟩
  clear hKK KK hL8 K4
  repeat (first | (refine oH_freeG rfl rfl (fun w' hS => by have s1 := Box.cells hS.1; have s2 := Box.cells hS.2.2.2.2.2.2.2.2.2.1; have s3 := Box.cells hS.2.2.2.2.2.2.2.2.1; clear hS; go_simp; with_reducible rfl) ?_; go_simp) | (refine oH_skipG rfl rfl ?_; go_simp))
  refine oH_doG rfl rfl (fun KK hKK => ?_)
  go_simp
  refine (psame_any y u x y' u' x' _ K5.2.2.2.2.2.2.2.2.2.2.2.2.2.2.2.1 K5.2.2.2.2.2.2.2.2.2.2.2.2.2.2.1 K5.2.2.2.2.2.2.2.2.2.2.2.2.2.1 K5.2.2.2.2.2.2.2.2.2.2.2.2.1 K5.2.2.2.2.2.2.2.2.2.2.2.1 K5.2.2.2.2.2.2.2.2.2.2.1).mono ?_
  rintro e w9 ⟨rfl, hL9⟩
  have K6 := K5.below hL9
  refine hKK _ _ ⟨K6, ?_⟩
  clear hKK KK hL9 K5
  refine oH_doG rfl rfl (fun KK hKK => ?_)
  go_simp
  refine (psame_any y' u' x' y u x _ K6.2.2.2.2.2.2.2.2.2.2.2.2.1 K6.2.2.2.2.2.2.2.2.2.2.2.1 K6.2.2.2.2.2.2.2.2.2.2.1 K6.2.2.2.2.2.2.2.2.2.2.2.2.2.2.2.1 K6.2.2.2.2.2.2.2.2.2.2.2.2.2.2.1 K6.2.2.2.2.2.2.2.2.2.2.2.2.2.1).mono ?_
  rintro e w10 ⟨rfl, hL10⟩
  rw [HC.out]
  have K7 := K6.below hL10
  refine hKK _ _ ⟨K7, ?_⟩
  clear hKK KK hL10 K6
  repeat (refine oH_still rfl (fun KK hKK => ?_); go_simp; refine hKK _ ?_; clear hKK KK)
  refine oH_nil ?_
  have HK := Lib.hid (show Kn w10 [.row b1 y.n (by8 y.g), .box w4.heap.size #[.int .i64 y.a, .int .i64 y.b, .slice (some ⟨b1, 0, none⟩) y.n y.n, .int .i64 u.a, .int .i64 u.b, .slice (some ⟨b2, 0, none⟩) u.n u.n, .int .i64 x.a, .int .i64 x.b, .slice (some ⟨b3, 0, none⟩) x.n x.n], .row b3 x.n (by8 x.g), .row b2 u.n (by8 u.g), .box w3.heap.size #[.int .i64 y.a, .int .i64 y.b, .slice A1 y.n c1, .int .i64 u.a, .int .i64 u.b, .slice A2 u.n c2, .int .i64 x.a, .int .i64 x.b, .slice A3 x.n c3], .rd A3 x.n (by8 x.g), .rd A2 u.n (by8 u.g), .rd A1 y.n (by8 y.g), .box (w.heap.size + 1) (frCells y' u' x'), .box w.heap.size (frCells y u x), .rd x'.A x'.n (by8 x'.g), .rd u'.A u'.n (by8 u'.g), .rd y'.A y'.n (by8 y'.g), .rd x.A x.n (by8 x.g), .rd u.A u.n (by8 u.g), .rd y.A y.n (by8 y.g), .since w] from ⟨K7.2.1, K7.1, K7.2.2⟩)
  clear K7
  go_wp2
  go_loopw [9] (fun i wr => ∃ k : Nat, k ≤ y.n ∧ i = .int .i64 k ∧ Kn wr [.row b1 y.n (by8 fun j => if j < k then up1 y.g j else y.g j), .box w4.heap.size #[.int .i64 y.a, .int .i64 y.b, .slice (some ⟨b1, 0, none⟩) y.n y.n, .int .i64 u.a, .int .i64 u.b, .slice (some ⟨b2, 0, none⟩) u.n u.n, .int .i64 x.a, .int .i64 x.b, .slice (some ⟨b3, 0, none⟩) x.n x.n], .row b3 x.n (by8 x.g), .row b2 u.n (by8 u.g), .box w3.heap.size #[.int .i64 y.a, .int .i64 y.b, .slice A1 y.n c1, .int .i64 u.a, .int .i64 u.b, .slice A2 u.n c2, .int .i64 x.a, .int .i64 x.b, .slice A3 x.n c3], .rd A3 x.n (by8 x.g), .rd A2 u.n (by8 u.g), .rd A1 y.n (by8 y.g), .box (w.heap.size + 1) (frCells y' u' x'), .box w.heap.size (frCells y u x), .rd x'.A x'.n (by8 x'.g), .rd u'.A u'.n (by8 u'.g), .rd y'.A y'.n (by8 y'.g), .rd x.A x.n (by8 x.g), .rd u.A u.n (by8 u.g), .rd y.A y.n (by8 y.g), .since w]) (fun i _ => y.n - (intOf i).toNat)
  case atStart => exact ⟨0, Nat.zero_le _, rfl, HK.out⟩
  case round =>
    obtain ⟨k, hk, rfl, K⟩ := hrel
    clear HK
    have kc := Box.cells K.2.1
    by_cases hlt : k < y.n
    · have cr := Row.cell K.1 hlt
      have fr := Row.frozen K.1 k
      simp only [by8, Nat.lt_irrefl, if_false] at cr
      have b := hby k
      have HK := Lib.hid K
      clear K
      go_wp2
      have z1 : IntKind.u8.wrap (y.g k + 1) = up1 y.g k := by rw [IntKind.wrap_u8]; rfl
      refine wp_region_ord [(0,0),(1,0),(2,0),(3,0),(4,0),(5,0),(6,0),(7,0),(8,0),(9,0),(10,0),(11,0),(12,2)] (by kernel_rfl) (by kernel_rfl) (fun _ _ d _ _ h => by cases d <;> exact h) ?_
      repeat (refine wpOrd_still rfl (fun KK hKK => ?_); go_simp; first | (refine hKK _ ?_; clear hKK KK))
      refine wpOrd_do rfl (fun KK hKK => ?_)
      go_simp
      refine hKK _ _ ?_
      clear hKK KK
      refine wpOrd_nil ?_
      clear z1
      go_wp2
      go_roundw
      case rel =>
        refine ⟨k + 1, hlt, by go_num, (Kn.setRowS (Kn.drew HK.out) k _ ⟨by simp [It.offS]; omega, by simp [It.offS]; omega, by simp [It.offS]; omega, O1⟩).row fun i _ => ?_⟩
        simp only [by8]
        by_cases e1 : i = k
        · subst e1; simp
        · by_cases e2 : i < k
          · simp [e1, e2, show i < k + 1 by omega]
          · simp [e1, e2, show ¬ i < k + 1 by omega]
      case measure => simp [intOf]; omega
    · have hkn : k = y.n := by omega
      subst hkn
      have HK2 := Lib.hid (show Kn wr [.row b3 x.n (by8 x.g), .box w4.heap.size #[.int .i64 y.a, .int .i64 y.b, .slice (some ⟨b1, 0, none⟩) y.n y.n, .int .i64 u.a, .int .i64 u.b, .slice (some ⟨b2, 0, none⟩) u.n u.n, .int .i64 x.a, .int .i64 x.b, .slice (some ⟨b3, 0, none⟩) x.n x.n], .row b1 y.n (by8 (up1 y.g)), .row b2 u.n (by8 u.g), .box w3.heap.size #[.int .i64 y.a, .int .i64 y.b, .slice A1 y.n c1, .int .i64 u.a, .int .i64 u.b, .slice A2 u.n c2, .int .i64 x.a, .int .i64 x.b, .slice A3 x.n c3], .rd A3 x.n (by8 x.g), .rd A2 u.n (by8 u.g), .rd A1 y.n (by8 y.g), .box (w.heap.size + 1) (frCells y' u' x'), .box w.heap.size (frCells y u x), .rd x'.A x'.n (by8 x'.g), .rd u'.A u'.n (by8 u'.g), .rd y'.A y'.n (by8 y'.g), .rd x.A x.n (by8 x.g), .rd u.A u.n (by8 u.g), .rd y.A y.n (by8 y.g), .since w] from ⟨K.2.2.1, K.2.1, Row.congr K.1 (fun i hi => by simp [by8, hi]), K.2.2.2⟩)
      clear K
      go_wp2
      clear kc
      obtain ⟨wo, rfl⟩ : ∃ wo : World, wo = wr := ⟨_, rfl⟩
      go_loopw [10] (fun i wr => ∃ k : Nat, k ≤ x.n ∧ i = .int .i64 k ∧ Kn wr [.row b3 x.n (by8 fun j => if j < k then up1 x.g j else x.g j), .box w4.heap.size #[.int .i64 y.a, .int .i64 y.b, .slice (some ⟨b1, 0, none⟩) y.n y.n, .int .i64 u.a, .int .i64 u.b, .slice (some ⟨b2, 0, none⟩) u.n u.n, .int .i64 x.a, .int .i64 x.b, .slice (some ⟨b3, 0, none⟩) x.n x.n], .row b1 y.n (by8 (up1 y.g)), .row b2 u.n (by8 u.g), .box w3.heap.size #[.int .i64 y.a, .int .i64 y.b, .slice A1 y.n c1, .int .i64 u.a, .int .i64 u.b, .slice A2 u.n c2, .int .i64 x.a, .int .i64 x.b, .slice A3 x.n c3], .rd A3 x.n (by8 x.g), .rd A2 u.n (by8 u.g), .rd A1 y.n (by8 y.g), .box (w.heap.size + 1) (frCells y' u' x'), .box w.heap.size (frCells y u x), .rd x'.A x'.n (by8 x'.g), .rd u'.A u'.n (by8 u'.g), .rd y'.A y'.n (by8 y'.g), .rd x.A x.n (by8 x.g), .rd u.A u.n (by8 u.g), .rd y.A y.n (by8 y.g), .since w]) (fun i _ => x.n - (intOf i).toNat)
      case atStart => exact ⟨0, Nat.zero_le _, rfl, HK2.out⟩
      case round =>
        obtain ⟨k, hk, rfl, K⟩ := hrel
        clear HK2
        have kc := Box.cells K.2.1
        by_cases hlt : k < x.n
        · have cr := Row.cell K.1 hlt
          have fr := Row.frozen K.1 k
          simp only [by8, Nat.lt_irrefl, if_false] at cr
          have b := hbx k
          have HK := Lib.hid K
          clear K
          go_wp2
          have z1 : IntKind.u8.wrap (x.g k + 1) = up1 x.g k := by rw [IntKind.wrap_u8]; rfl
          refine wp_region_ord [(0,0),(1,0),(2,0),(3,0),(4,0),(5,0),(6,0),(7,0),(8,0),(9,0),(10,0),(11,0),(12,2)] (by kernel_rfl) (by kernel_rfl) (fun _ _ d _ _ h => by cases d <;> exact h) ?_
          repeat (refine wpOrd_still rfl (fun KK hKK => ?_); go_simp; first | (refine hKK _ ?_; clear hKK KK))
          refine wpOrd_do rfl (fun KK hKK => ?_)
          go_simp
          refine hKK _ _ ?_
          clear hKK KK
          refine wpOrd_nil ?_
          clear z1
          go_wp2
          go_roundw
          case rel =>
            refine ⟨k + 1, hlt, by go_num, (Kn.setRowS (Kn.drew HK.out) k _ ⟨by simp [It.offS]; omega, by simp [It.offS]; omega, by simp [It.offS]; omega, O3⟩).row fun i _ => ?_⟩
            simp only [by8]
            by_cases e1 : i = k
            · subst e1; simp
            · by_cases e2 : i < k
              · simp [e1, e2, show i < k + 1 by omega]
              · simp [e1, e2, show ¬ i < k + 1 by omega]
          case measure => simp [intOf]; omega
        ·
          go_wp2_with fail
          refine (alive06 _).mono ?_
          rintro e w11 ⟨rfl, hb11⟩
          replace K := K.below hb11
          clear hb11
          replace kc1 := Box.cells K.2.1
          replace kl1 := Box.lt K.2.1
          replace kc4 := Box.cells K.2.2.2.2.1
          replace kl4 := Box.lt K.2.2.2.2.1
          replace X1 : Rd _ _ _ _ := K.2.2.2.2.2.1
          replace U1 : Rd _ _ _ _ := K.2.2.2.2.2.2.1
          replace Y1 : Rd _ _ _ _ := K.2.2.2.2.2.2.2.1
          replace kc9 := Box.cells K.2.2.2.2.2.2.2.2.2.1
          replace kl9 := Box.lt K.2.2.2.2.2.2.2.2.2.1
          replace X : Rd _ _ _ _ := K.2.2.2.2.2.2.2.2.2.2.2.2.2.1
          replace U : Rd _ _ _ _ := K.2.2.2.2.2.2.2.2.2.2.2.2.2.2.1
          replace Y : Rd _ _ _ _ := K.2.2.2.2.2.2.2.2.2.2.2.2.2.2.2.1
          replace L : Below _ _ _ := K.2.2.2.2.2.2.2.2.2.2.2.2.2.2.2.2.1
          go_wp2_with fail
          refine (psame_yes y u x _ _ _ _ _ _ _ _ _ _ _ _ _ Y U X Y1 U1 X1).mono ?_
          rintro e w12 ⟨rfl, hb12⟩
          replace K := K.below hb12
          clear hb12
          replace RX : Row _ _ _ _ := K.1
          replace kc1 := Box.cells K.2.1
          replace kl1 := Box.lt K.2.1
          replace RY : Row _ _ _ _ := K.2.2.1
          replace RU : Row _ _ _ _ := K.2.2.2.1
          replace kc4 := Box.cells K.2.2.2.2.1
          replace kl4 := Box.lt K.2.2.2.2.1
          replace X1 : Rd _ _ _ _ := K.2.2.2.2.2.1
          replace U1 : Rd _ _ _ _ := K.2.2.2.2.2.2.1
          replace Y1 : Rd _ _ _ _ := K.2.2.2.2.2.2.2.1
          replace kc9 := Box.cells K.2.2.2.2.2.2.2.2.2.1
          replace kl9 := Box.lt K.2.2.2.2.2.2.2.2.2.1
          replace X : Rd _ _ _ _ := K.2.2.2.2.2.2.2.2.2.2.2.2.2.1
          replace U : Rd _ _ _ _ := K.2.2.2.2.2.2.2.2.2.2.2.2.2.2.1
          replace Y : Rd _ _ _ _ := K.2.2.2.2.2.2.2.2.2.2.2.2.2.2.2.1
          replace L : Below _ _ _ := K.2.2.2.2.2.2.2.2.2.2.2.2.2.2.2.2.1
          by_cases hz : y.n = 0
          · have hz1 : ((y.n : Int) == 0) = true := by simp [hz]
            clear hz
            go_wp2
            go_ret
            exact ⟨rfl, L⟩
          · have hz1 : ((y.n : Int) == 0) = false := by simp [hz]
            have hz2 : 0 < y.n := by omega
            clear hz
            go_wp2_with fail
            refine (psame_not y u x _ _ _ _ _ _ _ _ _ _ _ _ _ _ hz2 hby RY.rd RU.rd RX.rd Y U X).mono ?_
            rintro e w13 ⟨rfl, hb13⟩
            replace K := K.below hb13
            clear hb13
            replace L : Below _ _ _ := K.2.2.2.2.2.2.2.2.2.2.2.2.2.2.2.2.1
            go_wp2
            go_ret
            exact ⟨rfl, L⟩

theorem walk (w : World) (y u x : PlV) (hy : y.Ok w) (hu : u.Ok w) (hx : x.Ok w) (y' u' x' : PlV) (hy' : y'.Ok w) (hu' : u'.Ok w) (hx' : x'.Ok w) :
    Calls Try.prog 12 #[.agg (frCells y u x), .agg (frCells y' u' x')] w fun e w' => e = .returned (.bool true) ∧ Below w.heap.size w w' := by
  cases h1 : fitFB y u x with
  | false => exact walk_no w y u x y' u' x' (.inl h1)
  | true =>
    cases h2 : fitFB y' u' x' with
    | false => exact walk_no w y u x y' u' x' (.inr ⟨h1, h2⟩)
    | true => exact walk_yes w y u x y' u' x' hy hu hx hy' hu' hx' h1 h2
end PlaneCopies
namespace PlaneCopies
set_option maxRecDepth 100000 in
theorem lifted (os : Os) (started : os.Started) (H : Type) (enc : TypeId × Value → H) :
    ReturnsInHanded {} Try.checked os 12 .any (Rows.planeCopiesSpec.pre6 enc Try.prog Try.f12 Rows.planeCopiesRow.domain false) (Rows.planeCopiesSpec.post enc Try.prog Try.f12 false true false false) := by
  refine returnsInHanded_of_change (C := Try.checked) own started (by kernel_rfl) Try.func12
    (ChangeSpec.witness6 (enc := enc) (C := Try.checked) false ⟨#[], #[.agg #[.int .i64 0, .int .i64 0, .slice none 0 0, .int .i64 0, .int .i64 0, .slice none 0 0, .int .i64 0, .int .i64 0, .slice none 0 0], .agg #[.int .i64 0, .int .i64 0, .slice none 0 0, .int .i64 0, .int .i64 0, .slice none 0 0, .int .i64 0, .int .i64 0, .slice none 0 0]], []⟩ 8 (by kernel_rfl) (by kernel_rfl) (by kernel_rfl) (by kernel_rfl)) ?_
  intro W base args ds gs before hval0 hW hcnd _
  have hval : ∀ (j : Nat) t v, Try.f12.params[j]? = some t → args[j]? = some v → Value.okWide Try.prog W .any base t v := hval0
  refine law_post (tb := 4) laidOut (by kernel_rfl) rfl Try.underlying4 rfl (fun ds' h => ?_) hW ?_
  · rw [Try.params12] at h
    match ds', h with
    | [d1, d2], _ => exact ⟨rfl, rfl, rfl⟩
  obtain ⟨p, q, hA0, hV, rfl, hfz, hnd⟩ := hW
  have hA : DataW.TrodAll enc Try.prog W 0 (fun _ => true) true Try.f12.params.toList args.toList ds p := hA0
  rw [Try.params12] at hA hval
  obtain ⟨v0, vs0, d0, ds0, p0, q0, hargs, rfl, rfl, h0, r0⟩ := trodAll_cons hA
  obtain ⟨v1, vs1, d1, ds1, p1, q1, rfl, rfl, rfl, h1, r1⟩ := trodAll_cons r0
  obtain ⟨rfl, rfl, rfl⟩ := trodAll_nil r1
  obtain rfl : args = #[v0, v1] := by cases args; simp_all
  obtain ⟨y0, u0, x0, rfl, rr0, s0, t0⟩ := open_frame Try.underlying39 (by kernel_rfl) ⟨rfl, rfl⟩ ⟨rfl, rfl⟩ ⟨rfl, rfl⟩ Try.underlying29 (by kernel_rfl) ⟨rfl, rfl⟩ ⟨rfl, rfl⟩ ⟨rfl, rfl⟩ Try.underlying3 Try.underlying27 Try.underlying5 (by kernel_rfl) (by kernel_rfl) (by kernel_rfl) (hval 0 39 v0 rfl rfl) h0
  obtain ⟨y1, u1, x1, rfl, rr1, s1, t1⟩ := open_frame Try.underlying39 (by kernel_rfl) ⟨rfl, rfl⟩ ⟨rfl, rfl⟩ ⟨rfl, rfl⟩ Try.underlying29 (by kernel_rfl) ⟨rfl, rfl⟩ ⟨rfl, rfl⟩ ⟨rfl, rfl⟩ Try.underlying3 Try.underlying27 Try.underlying5 (by kernel_rfl) (by kernel_rfl) (by kernel_rfl) (hval 1 39 v1 rfl rfl) h1
  exact walk W y0 u0 x0 rr0 s0 t0 y1 u1 x1 rr1 s1 t1
theorem over : Rows.planeCopiesRow.holds Try.pinned (OpenSpec.ofChange Rows.planeCopiesSpec) :=
  OpenClaim.holds_of_wide 12 Try.f12 rfl rfl rfl rfl rfl rfl rfl ⟨rfl, rfl, rfl, rfl, rfl⟩ rfl rfl rfl rfl rfl (by kernel_rfl) Try.func12 (by kernel_rfl)
    (of_decide_eq_true (by kernel_rfl)) (by unfold Func.isWrapper; first | (rw [if_pos (by decide +kernel)]; kernel_rfl) | (rw [if_neg (by decide +kernel)]; exact ⟨rfl, rfl⟩))
    (fun os started H enc _ => lifted os started H enc)
end PlaneCopies
theorem planeCopies_holds : Rows.PlaneCopiesSaid := PlaneCopies.over

end Go.Proofs.Ytlkogokhcdehfaa
