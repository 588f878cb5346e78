/- Walks over frames: plane.Whole, the document's Whole, Same, FitsFrame, Fits. -/
import Derived.Test.YtlkogokhcdehfaaRp1
namespace Go.Kin
theorem Box.cell9 {w : World} {b : Nat} {x0 x1 x2 x3 x4 x5 x6 x7 x8 : Value} (h : Box w b #[x0, x1, x2, x3, x4, x5, x6, x7, x8]) :
    w.cell? ⟨b, 0, none⟩ = some x0 ∧ w.cell? ⟨b, 1, none⟩ = some x1 ∧ w.cell? ⟨b, 2, none⟩ = some x2 ∧ w.cell? ⟨b, 3, none⟩ = some x3 ∧ w.cell? ⟨b, 4, none⟩ = some x4 ∧ w.cell? ⟨b, 5, none⟩ = some x5 ∧ w.cell? ⟨b, 6, none⟩ = some x6 ∧ w.cell? ⟨b, 7, none⟩ = some x7 ∧ w.cell? ⟨b, 8, none⟩ = some x8 :=
  ⟨h.cell 0, h.cell 1, h.cell 2, h.cell 3, h.cell 4, h.cell 5, h.cell 6, h.cell 7, h.cell 8⟩
theorem Box.frozen9 {w : World} {b : Nat} {cs : Array Value} (h : Box w b cs) :
    w.frozen? ⟨b, 0, none⟩ = false ∧ w.frozen? ⟨b, 1, none⟩ = false ∧ w.frozen? ⟨b, 2, none⟩ = false ∧ w.frozen? ⟨b, 3, none⟩ = false ∧ w.frozen? ⟨b, 4, none⟩ = false ∧ w.frozen? ⟨b, 5, none⟩ = false ∧ w.frozen? ⟨b, 6, none⟩ = false ∧ w.frozen? ⟨b, 7, none⟩ = false ∧ w.frozen? ⟨b, 8, none⟩ = false :=
  ⟨h.frozen 0, h.frozen 1, h.frozen 2, h.frozen 3, h.frozen 4, h.frozen 5, h.frozen 6, h.frozen 7, h.frozen 8⟩
open Go.RowKit in
theorem PlV.Ok.below {w w' : World} {p : PlV} (h : p.Ok w) (hb : Below w.heap.size w w') : p.Ok w' := ⟨h.ia, h.ib, h.rd.below hb, h.byt, h.le, h.cap⟩
/-- The plane as a value. -/
def PlV.v (p : PlV) : Value := .agg #[.int .i64 p.a, .int .i64 p.b, .slice p.A p.n p.c]
/-- The cells of a frame. -/
abbrev frCells (y u x : PlV) : Array Value := #[.int .i64 y.a, .int .i64 y.b, .slice y.A y.n y.c, .int .i64 u.a, .int .i64 u.b, .slice u.A u.n u.c, .int .i64 x.a, .int .i64 x.b, .slice x.A x.n x.c]
end Go.Kin
namespace Go.Proofs.Ytlkogokhcdehfaa
open Go.RowKit Go.Kin
set_option linter.unusedVariables false

def PlV.right (p : PlV) : Bool := rightB p.a p.b p.n
def wholeB (y u x : PlV) : Bool := rightB y.a y.b y.n && rightB u.a u.b u.n && rightB x.a x.b x.n && (y.a % 16 == 0) && (y.b % 16 == 0) && (u.a == y.a / 2) && (u.b == y.b / 2) && (x.a == y.a / 2) && (x.b == y.b / 2)

set_option maxHeartbeats 1000000 in
theorem whole_any (y u x : PlV) (w : World) :
    Calls Try.prog 46 #[.agg (frCells y u x)] w fun e w' => e = .returned (.bool (wholeB y u x)) ∧ Below w.heap.size w w' := by
  have H := Lib.hid (show wholeB y u x = (rightB y.a y.b y.n && rightB u.a u.b u.n && rightB x.a x.b x.n && (y.a % 16 == 0) && (y.b % 16 == 0) && (u.a == y.a / 2) && (u.b == y.b / 2) && (x.a == y.a / 2) && (x.b == y.b / 2)) from rfl)
  go_enter Try.func46, Try.ntmps46
  simp only [List.append_eq, List.cons_append, List.nil_append]
  go_wp2_with fail
  refine (right_any _ _ _ _ _ _).mono ?_
  rintro e w1 ⟨rfl, hb1⟩
  have B1 := (Box.new w _ _).below hb1 (by simp)
  have L1 := ((Below.refl _ w).alloc (Nat.le_refl _) _).trans (hb1.mono (by simp))
  clear hb1
  cases h1 : rightB y.a y.b y.n with
  | false =>
    go_wp2_with fail
    go_ret
    exact ⟨ret_bool (by rw [H.out, h1]; simp), L1⟩
  | true =>
    obtain ⟨r1, r2, r3, r4, _⟩ := rightB_iff.1 h1
    obtain ⟨c0, c1, c2, c3, c4, c5, c6, c7, c8⟩ := B1.cell9
    go_wp2_with fail
    refine (right_any _ _ _ _ _ _).mono ?_
    rintro e w2 ⟨rfl, hb2⟩
    have B2 := B1.below hb2 B1.lt
    have L2 := L1.trans (hb2.mono L1.size)
    clear hb2 c0 c1 c2 c3 c4 c5 c6 c7 c8 B1 L1
    cases h2 : rightB u.a u.b u.n with
    | false =>
      go_wp2_with fail
      go_ret
      exact ⟨ret_bool (by rw [H.out, h1, h2]; simp), L2⟩
    | true =>
      obtain ⟨c0, c1, c2, c3, c4, c5, c6, c7, c8⟩ := B2.cell9
      go_wp2_with fail
      refine (right_any _ _ _ _ _ _).mono ?_
      rintro e w3 ⟨rfl, hb3⟩
      have B3 := B2.below hb3 B2.lt
      have L3 := L2.trans (hb3.mono L2.size)
      clear hb3 c0 c1 c2 c3 c4 c5 c6 c7 c8 B2 L2
      cases h3 : rightB x.a x.b x.n with
      | false =>
        go_wp2_with fail
        go_ret
        exact ⟨ret_bool (by rw [H.out, h1, h2, h3]; simp), L3⟩
      | true =>
        obtain ⟨c0, c1, c2, c3, c4, c5, c6, c7, c8⟩ := B3.cell9
        cases k1 : (y.a % 16 == 0)
        · go_wp2_with fail
          go_ret
          exact ⟨ret_bool (by rw [H.out, h1, h2, h3, k1]; simp), L3⟩
        cases k2 : (y.b % 16 == 0)
        · go_wp2_with fail
          go_ret
          exact ⟨ret_bool (by rw [H.out, h1, h2, h3, k1, k2]; simp), L3⟩
        cases k3 : (u.a == y.a / 2)
        · go_wp2_with fail
          go_ret
          exact ⟨ret_bool (by rw [H.out, h1, h2, h3, k1, k2, k3]; simp), L3⟩
        cases k4 : (u.b == y.b / 2)
        · go_wp2_with fail
          go_ret
          exact ⟨ret_bool (by rw [H.out, h1, h2, h3, k1, k2, k3, k4]; simp), L3⟩
        cases k5 : (x.a == y.a / 2)
        · go_wp2_with fail
          go_ret
          exact ⟨ret_bool (by rw [H.out, h1, h2, h3, k1, k2, k3, k4, k5]; simp), L3⟩
        go_wp2_with fail
        go_ret
        exact ⟨ret_bool (by rw [H.out, h1, h2, h3, k1, k2, k3, k4, k5]; simp), L3⟩

/-- What the document asks of a frame is what the program asks. -/
theorem wholeB_ref (y u x : PlV) : wholeB y u x = (rightB y.a y.b y.n && rightB u.a u.b u.n && rightB x.a x.b x.n && (y.a % 16 == 0) && (y.b % 16 == 0) && (u.a == y.a / 2) && (u.b == y.b / 2) && (x.a == u.a) && (x.b == u.b)) := by
  unfold wholeB
  cases (rightB y.a y.b y.n && rightB u.a u.b u.n && rightB x.a x.b x.n && (y.a % 16 == 0) && (y.b % 16 == 0)) with
  | false => simp
  | true =>
    by_cases h1 : u.a = y.a / 2
    · by_cases h2 : u.b = y.b / 2
      · simp [h1, h2]
      · have e : (u.b == y.b / 2) = false := by simpa using h2
        simp [e]
    · have e : (u.a == y.a / 2) = false := by simpa using h1
      simp [e]

set_option maxHeartbeats 1000000 in
theorem rwhole_any (y u x : PlV) (w : World) :
    Calls Try.prog 47 #[.agg (frCells y u x)] w fun e w' => e = .returned (.bool (wholeB y u x)) ∧ Below w.heap.size w w' := by
  have H := Lib.hid (wholeB_ref y u x)
  go_enter Try.func47, Try.ntmps47
  go_wp2_with fail
  refine (rright_any _ _ _ _ _ _).mono ?_
  rintro e w1 ⟨rfl, hb1⟩
  have B1 := (Box.new w _ _).below hb1 (by simp)
  have L1 := ((Below.refl _ w).alloc (Nat.le_refl _) _).trans (hb1.mono (by simp))
  clear hb1
  obtain ⟨c0, c1, c2, c3, c4, c5, c6, c7, c8⟩ := B1.cell9
  go_wp2_with fail
  refine (rright_any _ _ _ _ _ _).mono ?_
  rintro e w2 ⟨rfl, hb2⟩
  have B2 := B1.below hb2 B1.lt
  have L2 := L1.trans (hb2.mono L1.size)
  clear hb2 c0 c1 c2 c3 c4 c5 c6 c7 c8 B1 L1
  obtain ⟨c0, c1, c2, c3, c4, c5, c6, c7, c8⟩ := B2.cell9
  go_wp2_with fail
  refine (rright_any _ _ _ _ _ _).mono ?_
  rintro e w3 ⟨rfl, hb3⟩
  have B3 := B2.below hb3 B2.lt
  have L3 := L2.trans (hb3.mono L2.size)
  clear hb3 c0 c1 c2 c3 c4 c5 c6 c7 c8 B2 L2
  cases h1 : rightB y.a y.b y.n
  · go_wp2_with fail
    go_ret
    exact ⟨ret_bool (by rw [H.out, h1]; simp), L3⟩
  cases h2 : rightB u.a u.b u.n
  · go_wp2_with fail
    go_ret
    exact ⟨ret_bool (by rw [H.out, h1, h2]; simp), L3⟩
  cases h3 : rightB x.a x.b x.n
  · go_wp2_with fail
    go_ret
    exact ⟨ret_bool (by rw [H.out, h1, h2, h3]; simp), L3⟩
  obtain ⟨r1, r2, r3, r4, _⟩ := rightB_iff.1 h1
  obtain ⟨c0, c1, c2, c3, c4, c5, c6, c7, c8⟩ := B3.cell9
  cases k1 : (y.a % 16 == 0)
  · go_wp2_with fail
    go_ret
    exact ⟨ret_bool (by rw [H.out, h1, h2, h3, k1]; simp), L3⟩
  cases k2 : (y.b % 16 == 0)
  · go_wp2_with fail
    go_ret
    exact ⟨ret_bool (by rw [H.out, h1, h2, h3, k1, k2]; simp), L3⟩
  cases k3 : (u.a == y.a / 2)
  · go_wp2_with fail
    go_ret
    exact ⟨ret_bool (by rw [H.out, h1, h2, h3, k1, k2, k3]; simp), L3⟩
  cases k4 : (u.b == y.b / 2)
  · go_wp2_with fail
    go_ret
    exact ⟨ret_bool (by rw [H.out, h1, h2, h3, k1, k2, k3, k4]; simp), L3⟩
  cases k5 : (x.a == u.a)
  · go_wp2_with fail
    go_ret
    exact ⟨ret_bool (by rw [H.out, h1, h2, h3, k1, k2, k3, k4, k5]; simp), L3⟩
  go_wp2_with fail
  go_ret
  exact ⟨ret_bool (by rw [H.out, h1, h2, h3, k1, k2, k3, k4, k5]; simp), L3⟩

def sameFB (y u x y' u' x' : PlV) : Bool := samePB y.a y.b y.n y.g y'.a y'.b y'.n y'.g && samePB u.a u.b u.n u.g u'.a u'.b u'.n u'.g && samePB x.a x.b x.n x.g x'.a x'.b x'.n x'.g
set_option maxHeartbeats 1000000 in
theorem sameF_any (y u x y' u' x' : PlV) (w : World) (hy : Rd w y.A y.n (by8 y.g)) (hu : Rd w u.A u.n (by8 u.g)) (hx : Rd w x.A x.n (by8 x.g)) (hy' : Rd w y'.A y'.n (by8 y'.g)) (hu' : Rd w u'.A u'.n (by8 u'.g)) (hx' : Rd w x'.A x'.n (by8 x'.g)) :
    Calls Try.prog 29 #[.agg (frCells y u x), .agg (frCells y' u' x')] w fun e w' => e = .returned (.bool (sameFB y u x y' u' x')) ∧ Below w.heap.size w w' := by
  have H := Lib.hid (show sameFB y u x y' u' x' = (samePB y.a y.b y.n y.g y'.a y'.b y'.n y'.g && samePB u.a u.b u.n u.g u'.a u'.b u'.n u'.g && samePB x.a x.b x.n x.g x'.a x'.b x'.n x'.g) from rfl)
  go_enter Try.func29, Try.ntmps29
  go_wp2_with fail
  refine (sameP_any _ _ _ _ _ _ _ _ _ _ y.g y'.g _ ((hy.alloc _).alloc _) ((hy'.alloc _).alloc _)).mono ?_
  rintro e w1 ⟨rfl, hb1⟩
  have B1 := ((Box.new w _ _).alloc _).below hb1 (by simp; omega)
  have D1 := (Box.newAt (w.alloc _) _ _ (b := w.heap.size + 1) (by simp)).below hb1 (by simp)
  have L1 := (((Below.refl _ w).alloc (Nat.le_refl _) _).alloc (by simp) _).trans (hb1.mono (by simp; omega))
  clear hb1
  obtain ⟨c0, c1, c2, c3, c4, c5, c6, c7, c8⟩ := B1.cell9
  obtain ⟨d0, d1, d2, d3, d4, d5, d6, d7, d8⟩ := D1.cell9
  go_wp2_with fail
  refine (sameP_any _ _ _ _ _ _ _ _ _ _ u.g u'.g _ (hu.below L1) (hu'.below L1)).mono ?_
  rintro e w2 ⟨rfl, hb2⟩
  have B2 := B1.below hb2 B1.lt
  have D2 := D1.below hb2 D1.lt
  have L2 := L1.trans (hb2.mono L1.size)
  clear hb2 c0 c1 c2 c3 c4 c5 c6 c7 c8 d0 d1 d2 d3 d4 d5 d6 d7 d8 B1 D1 L1
  obtain ⟨c0, c1, c2, c3, c4, c5, c6, c7, c8⟩ := B2.cell9
  obtain ⟨d0, d1, d2, d3, d4, d5, d6, d7, d8⟩ := D2.cell9
  go_wp2_with fail
  refine (sameP_any _ _ _ _ _ _ _ _ _ _ x.g x'.g _ (hx.below L2) (hx'.below L2)).mono ?_
  rintro e w3 ⟨rfl, hb3⟩
  have L3 := L2.trans (hb3.mono L2.size)
  clear hb3 c0 c1 c2 c3 c4 c5 c6 c7 c8 d0 d1 d2 d3 d4 d5 d6 d7 d8 B2 D2 L2
  cases h1 : samePB y.a y.b y.n y.g y'.a y'.b y'.n y'.g
  · go_wp2_with fail
    go_ret
    exact ⟨ret_bool (by rw [H.out, h1]; simp), L3⟩
  cases h2 : samePB u.a u.b u.n u.g u'.a u'.b u'.n u'.g
  · go_wp2_with fail
    go_ret
    exact ⟨ret_bool (by rw [H.out, h1, h2]; simp), L3⟩
  go_wp2_with fail
  go_ret
  exact ⟨ret_bool (by rw [H.out, h1, h2]; simp), L3⟩

def fitB (n : Nat) : Bool := decide ((n : Int) ≤ 10000)
theorem fitB_le {n : Nat} (h : fitB n = true) : n ≤ 10000 := by simp [fitB] at h; omega
set_option maxHeartbeats 400000 in
theorem fits_any (a b : Int) (A : Option Addr) (n c : Nat) (w : World) :
    Calls Try.prog 18 #[.agg #[.int .i64 a, .int .i64 b, .slice A n c]] w fun e w' => e = .returned (.bool (fitB n)) ∧ Below w.heap.size w w' := by
  have H := Lib.hid (show fitB n = decide ((n : Int) ≤ 10000) from rfl)
  go_enter Try.func18, Try.ntmps18
  go_wp2
  go_ret
  exact ⟨ret_bool (by rw [H.out]), (Below.refl _ _).alloc (Nat.le_refl _) _⟩
def fitFB (y u x : PlV) : Bool := fitB y.n && fitB u.n && fitB x.n
set_option maxHeartbeats 400000 in
theorem fitsF_any (y u x : PlV) (w : World) :
    Calls Try.prog 22 #[.agg (frCells y u x)] w fun e w' => e = .returned (.bool (fitFB y u x)) ∧ Below w.heap.size w w' := by
  have H := Lib.hid (show fitFB y u x = (fitB y.n && fitB u.n && fitB x.n) from rfl)
  go_enter Try.func22, Try.ntmps22
  go_wp2_with fail
  refine (fits_any _ _ _ _ _ _).mono ?_
  rintro e w1 ⟨rfl, hb1⟩
  have B1 := (Box.new w _ _).below hb1 (by simp)
  have L1 := ((Below.refl _ w).alloc (Nat.le_refl _) _).trans (hb1.mono (by simp))
  clear hb1
  obtain ⟨c0, c1, c2, c3, c4, c5, c6, c7, c8⟩ := B1.cell9
  go_wp2_with fail
  refine (fits_any _ _ _ _ _ _).mono ?_
  rintro e w2 ⟨rfl, hb2⟩
  have B2 := B1.below hb2 B1.lt
  have L2 := L1.trans (hb2.mono L1.size)
  clear hb2 c0 c1 c2 c3 c4 c5 c6 c7 c8 B1 L1
  obtain ⟨c0, c1, c2, c3, c4, c5, c6, c7, c8⟩ := B2.cell9
  go_wp2_with fail
  refine (fits_any _ _ _ _ _ _).mono ?_
  rintro e w3 ⟨rfl, hb3⟩
  have L3 := L2.trans (hb3.mono L2.size)
  clear hb3 c0 c1 c2 c3 c4 c5 c6 c7 c8 B2 L2
  cases h1 : fitB y.n
  · go_wp2_with fail
    go_ret
    exact ⟨ret_bool (by rw [H.out, h1]; simp), L3⟩
  cases h2 : fitB u.n
  · go_wp2_with fail
    go_ret
    exact ⟨ret_bool (by rw [H.out, h1, h2]; simp), L3⟩
  go_wp2_with fail
  go_ret
  exact ⟨ret_bool (by rw [H.out, h1, h2]; simp), L3⟩
end Go.Proofs.Ytlkogokhcdehfaa
