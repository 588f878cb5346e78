/- Walks of package plane and of the document: Down. -/
import Derived.Test.YtlkogokhcdehfaaRp4
namespace Go.Proofs.Ytlkogokhcdehfaa
open Go.RowKit Go.Kin
set_option linter.unusedVariables false

def hN (p : PlV) : Nat := (p.a / 2).toNat * (p.b / 2).toNat
def hG (p : PlV) : Nat → Int := halfP p.a.toNat (p.a / 2).toNat p.g
/-- A plane of half the sides. -/
def hV (p : PlV) : PlV := ⟨p.a / 2, p.b / 2, none, hN p, 0, hG p⟩
theorem half_pl (p : PlV) (w : World) (h : halfB p.a p.b p.n = true) (hS : Rd w p.A p.n (by8 p.g)) (hg : Byt p.g) :
    Calls Try.prog 41 #[.agg #[.int .i64 p.a, .int .i64 p.b, .slice p.A p.n p.c]] w (MadePlane (p.a / 2) (p.b / 2) (hN p) (hG p) w) := by
  obtain ⟨a, b, A, n, c, g⟩ := p
  simp only [halfB, Bool.and_eq_true, beq_iff_eq] at h
  obtain ⟨⟨hr, h6⟩, h7⟩ := h
  obtain ⟨r1, r2, r3, r4, r5⟩ := rightB_iff.1 hr
  obtain ⟨W2, hW⟩ : ∃ W2 : Nat, a = ((2 * W2 : Nat) : Int) := ⟨(a / 2).toNat, by omega⟩
  obtain ⟨H2, hH⟩ : ∃ H2 : Nat, b = ((2 * H2 : Nat) : Int) := ⟨(b / 2).toNat, by omega⟩
  subst hW hH
  have e1 : ((2 * W2 : Nat) : Int) / 2 = W2 := by omega
  have e2 : ((2 * H2 : Nat) : Int) / 2 = H2 := by omega
  unfold hN hG
  dsimp only
  rw [e1, e2]
  exact half_yes (2 * W2) (2 * H2) W2 H2 A n c g w hr rfl rfl hg hS
theorem rhalf_pl (p : PlV) (w : World) (h : halfB p.a p.b p.n = true) (hS : Rd w p.A p.n (by8 p.g)) (hg : Byt p.g) :
    Calls Try.prog 42 #[.agg #[.int .i64 p.a, .int .i64 p.b, .slice p.A p.n p.c]] w (MadePlane (p.a / 2) (p.b / 2) (hN p) (hG p) w) := by
  obtain ⟨a, b, A, n, c, g⟩ := p
  simp only [halfB, Bool.and_eq_true, beq_iff_eq] at h
  obtain ⟨⟨hr, h6⟩, h7⟩ := h
  obtain ⟨r1, r2, r3, r4, r5⟩ := rightB_iff.1 hr
  obtain ⟨W2, hW⟩ : ∃ W2 : Nat, a = ((2 * W2 : Nat) : Int) := ⟨(a / 2).toNat, by omega⟩
  obtain ⟨H2, hH⟩ : ∃ H2 : Nat, b = ((2 * H2 : Nat) : Int) := ⟨(b / 2).toNat, by omega⟩
  subst hW hH
  have e1 : ((2 * W2 : Nat) : Int) / 2 = W2 := by omega
  have e2 : ((2 * H2 : Nat) : Int) / 2 = H2 := by omega
  unfold hN hG
  dsimp only
  rw [e1, e2]
  exact rhalf_yes (2 * W2) (2 * H2) W2 H2 A n c g w hr rfl rfl hg hS
theorem whole_facts {y u x : PlV} (h : wholeB y u x = true) : rightB y.a y.b y.n = true ∧ rightB u.a u.b u.n = true ∧ rightB x.a x.b x.n = true ∧ y.a % 16 = 0 ∧ y.b % 16 = 0 ∧ u.a = y.a / 2 ∧ u.b = y.b / 2 ∧ x.a = y.a / 2 ∧ x.b = y.b / 2 := by
  unfold wholeB at h
  simp only [Bool.and_eq_true, beq_iff_eq, and_assoc] at h
  exact h
theorem whole_halfs {y u x : PlV} (h : wholeB y u x = true) : halfB y.a y.b y.n = true ∧ halfB u.a u.b u.n = true ∧ halfB x.a x.b x.n = true := by
  obtain ⟨h1, h2, h3, h4, h5, h6, h7, h8, h9⟩ := whole_facts h
  simp only [halfB, Bool.and_eq_true, beq_iff_eq]
  refine ⟨⟨⟨h1, by omega⟩, by omega⟩, ⟨⟨h2, by omega⟩, by omega⟩, ⟨⟨h3, by omega⟩, by omega⟩⟩
theorem right_half {p : PlV} (h : rightB p.a p.b p.n = true) (ha : 2 ≤ p.a) (hb : 2 ≤ p.b) : rightB (p.a / 2) (p.b / 2) (hN p) = true := by
  obtain ⟨r1, r2, r3, r4, r5⟩ := rightB_iff.1 h
  refine rightB_iff.2 ⟨by omega, by omega, by omega, by omega, ?_⟩
  unfold hN
  rw [Int.natCast_mul, Int.toNat_of_nonneg (by omega), Int.toNat_of_nonneg (by omega)]
def downB (y u x : PlV) : Bool := wholeB y u x && (y.a % 32 == 0) && (y.b % 32 == 0)
theorem whole_half {y u x : PlV} (h : wholeB y u x = true) (A B C : Option Addr) (c d e : Nat) (f g k : Nat → Int) :
    wholeB ⟨y.a / 2, y.b / 2, A, hN y, c, f⟩ ⟨u.a / 2, u.b / 2, B, hN u, d, g⟩ ⟨x.a / 2, x.b / 2, C, hN x, e, k⟩ = ((y.a % 32 == 0) && (y.b % 32 == 0)) := by
  obtain ⟨h1, h2, h3, h4, h5, h6, h7, h8, h9⟩ := whole_facts h
  obtain ⟨r1, r2, r3, r4, r5⟩ := rightB_iff.1 h1
  unfold wholeB
  dsimp only
  rw [right_half h1 (by omega) (by omega), right_half h2 (by omega) (by omega), right_half h3 (by omega) (by omega)]
  rw [Bool.eq_iff_iff]
  simp only [Bool.true_and, Bool.and_eq_true, beq_iff_eq]
  omega

theorem mod_no {y u x : PlV} (h : downB y u x = false) : wholeB y u x = false ∨ (wholeB y u x = true ∧ (y.a % 32 != 0) = true) ∨ (wholeB y u x = true ∧ (y.a % 32 != 0) = false ∧ (y.b % 32 != 0) = true) := by
  unfold downB at h
  cases h1 : wholeB y u x
  · exact .inl rfl
  rw [h1] at h
  by_cases h3 : y.a % 32 = 0
  · by_cases h4 : y.b % 32 = 0
    · simp [h3, h4] at h
    · exact .inr (.inr ⟨rfl, by simp [h3], by simp [h4]⟩)
  · exact .inr (.inl ⟨rfl, by simp [h3]⟩)

set_option maxHeartbeats 1000000 in
theorem down_no (y u x : PlV) (w : World) (h : downB y u x = false) :
    Calls Try.prog 44 #[.agg (frCells y u x)] w (GivesF noP noP noP 61 w) := by
  have K := Kn.start w
  have hc := mod_no h
  clear h
  have hq : wholeB y u x = true → 1 ≤ y.a ∧ 1 ≤ y.b := fun h => by obtain ⟨h1, _⟩ := whole_facts h; obtain ⟨r1, r2, r3, r4, r5⟩ := rightB_iff.1 h1; exact ⟨r1, r3⟩
  rcases hc with h1 | ⟨h1, h2⟩ | ⟨h1, h2, h3⟩
  rotate_left
  obtain ⟨q1, q2⟩ := hq h1
  rotate_left
  obtain ⟨q1, q2⟩ := hq h1
  all_goals clear hq
  all_goals go_enter Try.func44, Try.ntmps44
  all_goals go_wp2_with fail
  all_goals refine (whole_any y u x _).mono ?_
  all_goals rintro e w1 ⟨rfl, hb1⟩
  all_goals replace K := ((K.new w.heap.size _ _ rfl).new (w.heap.size + 1) _ _ (by simp)).below hb1
  all_goals clear hb1
  all_goals replace kc0 := Box.cells K.1
  all_goals replace kl0 := Box.lt K.1
  all_goals replace kf0 := Box.frees K.1
  all_goals replace kc1 := Box.cells K.2.1
  all_goals replace kl1 := Box.lt K.2.1
  all_goals replace L : Below _ _ _ := K.2.2.1
  all_goals go_wp2
  all_goals refine bodyPost_ret (v := .tuple #[.agg zero9, .int .i64 61]) (by simp [results, Try.results44, go_sem, kc0]) rfl ?_
  all_goals exact GivesF.no ⟨rfl, (Kn.set9 K _ _ _ _ _ _ _ _ _ ⟨by simp [It.off], by simp [It.off], trivial⟩).2.1⟩

set_option maxRecDepth 100000 in
set_option maxHeartbeats 1000000 in
theorem down_yes (y u x : PlV) (w : World) (hy : y.Ok w) (hu : u.Ok w) (hx : x.Ok w) (h : downB y u x = true) :
    Calls Try.prog 44 #[.agg (frCells y u x)] w (GivesF (hV y) (hV u) (hV x) 0 w) := by
  simp only [downB, Bool.and_eq_true, beq_iff_eq] at h
  obtain ⟨⟨hw, m1⟩, m2⟩ := h
  obtain ⟨f1, f2, f3⟩ := whole_halfs hw
  have h1 := (whole_facts hw).1
  obtain ⟨r1, r2, r3, r4, r5⟩ := rightB_iff.1 h1
  have k1 : (y.a % 32 != 0) = false := by simp [m1]
  have k2 : (y.b % 32 != 0) = false := by simp [m2]
  clear m1 m2 r5
  have K := Kn.start w
  go_enter Try.func44, Try.ntmps44
  go_wp2_with fail
  refine (whole_any y u x _).mono ?_
  rintro e w1 ⟨rfl, hb1⟩
  replace K := ((K.new w.heap.size _ _ rfl).new (w.heap.size + 1) _ _ (by simp)).below hb1
  clear hb1
  replace kc0 := Box.cells K.1
  replace kl0 := Box.lt K.1
  replace kc1 := Box.cells K.2.1
  replace kl1 := Box.lt K.2.1
  replace L : Below _ _ _ := K.2.2.1
  have l0 := kl0
  go_wp2_with fail
  refine (half_pl y _ f1 (hy.rd.below (L.alloc L.size _)) hy.byt).mono ?_
  rintro e w2 ⟨b2, rfl, hb2, hr2, hL2⟩
  simp only [World.size_alloc] at hb2
  replace K := ((K.new w1.heap.size _ _ rfl).below hL2).tuck (x := .row b2 (hN y) (by8 (hG y))) hr2
  clear hL2 hr2
  replace kc0 := Box.cells K.1
  replace kl0 := Box.lt K.1
  replace kf0 := Box.frees K.1
  replace kc2 := Box.cells K.2.2.1
  replace kl2 := Box.lt K.2.2.1
  replace kc3 := Box.cells K.2.2.2.1
  replace kl3 := Box.lt K.2.2.2.1
  replace L : Below _ _ _ := K.2.2.2.2.1
  have l1 := kl0
  have n1 : ¬ (w.heap.size = w1.heap.size) := by omega
  have n2 : ¬ (w.heap.size + 1 = w1.heap.size) := by omega
  go_wp2_with fail
  replace K := K.set3 0 (.int .i64 (y.a / 2)) (.int .i64 (y.b / 2)) (.slice (some ⟨b2, 0, none⟩) (hN y) (hN y)) ⟨by simp [It.off]; omega, by simp [It.off]; omega, by simp [It.off]; omega, by simp [It.off]; omega, trivial⟩
  refine (half_pl u _ f2 (hu.rd.below K.2.2.2.2.1) hu.byt).mono ?_
  rintro e w3 ⟨b3, rfl, hb3, hr3, hL3⟩
  simp only [size_set] at hb3
  replace K := (K.below hL3).tuck (x := .row b3 (hN u) (by8 (hG u))) hr3
  clear hL3 hr3
  replace kc0 := Box.cells K.1
  replace kl0 := Box.lt K.1
  replace kf0 := Box.frees K.1
  replace kc3 := Box.cells K.2.2.2.1
  replace kl3 := Box.lt K.2.2.2.1
  replace kc4 := Box.cells K.2.2.2.2.1
  replace kl4 := Box.lt K.2.2.2.2.1
  replace L : Below _ _ _ := K.2.2.2.2.2.1
  have l2 := kl0
  go_wp2_with fail
  replace K := K.set3 3 (.int .i64 (u.a / 2)) (.int .i64 (u.b / 2)) (.slice (some ⟨b3, 0, none⟩) (hN u) (hN u)) ⟨by simp [It.off]; omega, by simp [It.off]; omega, by simp [It.off]; omega, by simp [It.off]; omega, by simp [It.off]; omega, trivial⟩
  refine (half_pl x _ f3 (hx.rd.below K.2.2.2.2.2.1) hx.byt).mono ?_
  rintro e w4 ⟨b4, rfl, hb4, hr4, hL4⟩
  simp only [size_set] at hb4
  replace K := (K.below hL4).tuck (x := .row b4 (hN x) (by8 (hG x))) hr4
  clear hL4 hr4
  replace kc0 := Box.cells K.1
  replace kl0 := Box.lt K.1
  replace kf0 := Box.frees K.1
  replace kc4 := Box.cells K.2.2.2.2.1
  replace kl4 := Box.lt K.2.2.2.2.1
  replace kf4 := Box.frees K.2.2.2.2.1
  replace kc5 := Box.cells K.2.2.2.2.2.1
  replace kl5 := Box.lt K.2.2.2.2.2.1
  replace L : Below _ _ _ := K.2.2.2.2.2.2.1
  go_wp2
  replace K := K.set3 6 (.int .i64 (x.a / 2)) (.int .i64 (x.b / 2)) (.slice (some ⟨b4, 0, none⟩) (hN x) (hN x)) ⟨by simp [It.off]; omega, by simp [It.off]; omega, by simp [It.off]; omega, by simp [It.off]; omega, by simp [It.off]; omega, by simp [It.off]; omega, trivial⟩
  refine bodyPost_ret (v := .tuple #[.agg #[.int .i64 (y.a / 2), .int .i64 (y.b / 2), .slice (some ⟨b2, 0, none⟩) (hN y) (hN y), .int .i64 (u.a / 2), .int .i64 (u.b / 2), .slice (some ⟨b3, 0, none⟩) (hN u) (hN u), .int .i64 (x.a / 2), .int .i64 (x.b / 2), .slice (some ⟨b4, 0, none⟩) (hN x) (hN x)], .int .i64 0]) (by simp [results, Try.results44, go_sem, kc4]) rfl ?_
  have KF := Kn.set9 (l := [.row b4 (hN x) (by8 (hG x)), .row b3 (hN u) (by8 (hG u)), .row b2 (hN y) (by8 (hG y)), .since w]) ⟨K.2.2.2.2.1, K.2.1, K.2.2.1, K.2.2.2.1, K.2.2.2.2.2.2.1, trivial⟩ (.int .i64 (y.a / 2)) (.int .i64 (y.b / 2)) (.slice (some ⟨b2, 0, none⟩) (hN y) (hN y)) (.int .i64 (u.a / 2)) (.int .i64 (u.b / 2)) (.slice (some ⟨b3, 0, none⟩) (hN u) (hN u)) (.int .i64 (x.a / 2)) (.int .i64 (x.b / 2)) (.slice (some ⟨b4, 0, none⟩) (hN x) (hN x)) ⟨by simp [It.off]; omega, by simp [It.off]; omega, by simp [It.off]; omega, by simp [It.off], trivial⟩
  exact ⟨_, _, _, _, _, _, rfl, Row.rd KF.2.2.1, Row.rd KF.2.1, Row.rd KF.1, KF.2.2.2.1⟩

set_option maxRecDepth 100000 in
set_option maxHeartbeats 1000000 in
theorem rdown_any (y u x : PlV) (w : World) (hy : y.Ok w) (hu : u.Ok w) (hx : x.Ok w) (t : Bool) (ht : downB y u x = t) (hw : wholeB y u x = true) :
    Calls Try.prog 45 #[.agg (frCells y u x)] w (if t then GivesF (hV y) (hV u) (hV x) 0 w else GivesF noP noP noP 61 w) := by
  obtain ⟨f1, f2, f3⟩ := whole_halfs hw
  have h1 := (whole_facts hw).1
  obtain ⟨r1, r2, r3, r4, r5⟩ := rightB_iff.1 h1
  clear r5
  have HB : ∀ A B C c d e f g k, wholeB ⟨y.a / 2, y.b / 2, A, hN y, c, f⟩ ⟨u.a / 2, u.b / 2, B, hN u, d, g⟩ ⟨x.a / 2, x.b / 2, C, hN x, e, k⟩ = t := fun A B C c d e f g k => by
    rw [whole_half hw, ← ht, downB, hw, Bool.true_and]
  have HBH := Lib.hid HB
  clear HB ht
  have K := Kn.start w
  go_enter Try.func45, Try.ntmps45
  go_wp2_with fail
  refine (rwhole_any y u x _).mono ?_
  rintro e w1 ⟨rfl, hb1⟩
  replace K := ((K.new w.heap.size _ _ rfl).new (w.heap.size + 1) _ _ (by simp)).below hb1
  clear hb1
  replace kc0 := Box.cells K.1
  replace kl0 := Box.lt K.1
  replace kc1 := Box.cells K.2.1
  replace kl1 := Box.lt K.2.1
  replace L : Below _ _ _ := K.2.2.1
  have l0 := kl0
  go_wp2_with fail
  refine (rhalf_pl y _ f1 (hy.rd.below L) hy.byt).mono ?_
  rintro e w2 ⟨b2, rfl, hb2, hr2, hL2⟩
  replace K := (K.below hL2).add (x := .row b2 (hN y) (by8 (hG y))) hr2
  clear hL2 hr2
  replace kc1 := Box.cells K.2.1
  replace kl1 := Box.lt K.2.1
  replace kc2 := Box.cells K.2.2.1
  replace kl2 := Box.lt K.2.2.1
  replace L : Below _ _ _ := K.2.2.2.1
  have l1 := kl1
  go_wp2_with fail
  replace K := K.new w2.heap.size #[.int .i64 (y.a / 2), .int .i64 (y.b / 2), .slice (some ⟨b2, 0, none⟩) (hN y) (hN y)] 29 rfl
  refine (rhalf_pl u _ f2 (hu.rd.below K.2.2.2.2.1) hu.byt).mono ?_
  rintro e w3 ⟨b3, rfl, hb3, hr3, hL3⟩
  simp only [World.size_alloc] at hb3
  replace K := (K.below hL3).add (x := .row b3 (hN u) (by8 (hG u))) hr3
  clear hL3 hr3
  replace kc1 := Box.cells K.2.1
  replace kl1 := Box.lt K.2.1
  replace kc3 := Box.cells K.2.2.2.1
  replace kl3 := Box.lt K.2.2.2.1
  replace kc4 := Box.cells K.2.2.2.2.1
  replace kl4 := Box.lt K.2.2.2.2.1
  replace L : Below _ _ _ := K.2.2.2.2.2.1
  have l2 := kl1
  go_wp2_with fail
  replace K := K.new w3.heap.size #[.int .i64 (u.a / 2), .int .i64 (u.b / 2), .slice (some ⟨b3, 0, none⟩) (hN u) (hN u)] 29 rfl
  refine (rhalf_pl x _ f3 (hx.rd.below K.2.2.2.2.2.2.1) hx.byt).mono ?_
  rintro e w4 ⟨b4, rfl, hb4, hr4, hL4⟩
  simp only [World.size_alloc] at hb4
  replace K := (K.below hL4).add (x := .row b4 (hN x) (by8 (hG x))) hr4
  clear hL4 hr4
  replace kc1 := Box.cells K.2.1
  replace kl1 := Box.lt K.2.1
  replace kc3 := Box.cells K.2.2.2.1
  replace kl3 := Box.lt K.2.2.2.1
  replace kc5 := Box.cells K.2.2.2.2.2.1
  replace kl5 := Box.lt K.2.2.2.2.2.1
  replace kc6 := Box.cells K.2.2.2.2.2.2.1
  replace kl6 := Box.lt K.2.2.2.2.2.2.1
  replace L : Below _ _ _ := K.2.2.2.2.2.2.2.1
  have n1 : ¬ (w2.heap.size = w4.heap.size) := by omega
  have n2 : ¬ (w3.heap.size = w4.heap.size) := by omega
  go_wp2_with fail
  refine (rwhole_any ⟨y.a / 2, y.b / 2, some ⟨b2, 0, none⟩, hN y, hN y, hG y⟩ ⟨u.a / 2, u.b / 2, some ⟨b3, 0, none⟩, hN u, hN u, hG u⟩ ⟨x.a / 2, x.b / 2, some ⟨b4, 0, none⟩, hN x, hN x, hG x⟩ _).mono ?_
  rintro e w5 ⟨rfl, hL5⟩
  rw [HBH.out]
  replace K := (((K.new w4.heap.size _ _ rfl).new (w4.heap.size + 1) _ _ (by simp)).below hL5)
  clear hL5
  replace kc0 := Box.cells K.1
  replace kl0 := Box.lt K.1
  replace kc1 := Box.cells K.2.1
  replace kl1 := Box.lt K.2.1
  replace kc3 := Box.cells K.2.2.2.1
  replace kl3 := Box.lt K.2.2.2.1
  replace kc5 := Box.cells K.2.2.2.2.2.1
  replace kl5 := Box.lt K.2.2.2.2.2.1
  replace kc7 := Box.cells K.2.2.2.2.2.2.2.1
  replace kl7 := Box.lt K.2.2.2.2.2.2.2.1
  replace kf7 := Box.frees K.2.2.2.2.2.2.2.1
  replace kc8 := Box.cells K.2.2.2.2.2.2.2.2.1
  replace kl8 := Box.lt K.2.2.2.2.2.2.2.2.1
  replace L : Below _ _ _ := K.2.2.2.2.2.2.2.2.2.1
  cases t
  · go_wp2
    refine bodyPost_ret (v := .tuple #[.agg zero9, .int .i64 61]) (by simp [results, Try.results45, go_sem, kc7]) rfl ?_
    have KF := Kn.set9 (l := [.since w]) ⟨K.2.2.2.2.2.2.2.1, K.2.2.2.2.2.2.2.2.2.1, trivial⟩ (.int .i64 0) (.int .i64 0) (.slice none 0 0) (.int .i64 0) (.int .i64 0) (.slice none 0 0) (.int .i64 0) (.int .i64 0) (.slice none 0 0) ⟨by simp [It.off], trivial⟩
    exact GivesF.no ⟨rfl, KF.1⟩
  · go_wp2
    refine bodyPost_ret (v := .tuple #[.agg #[.int .i64 (y.a / 2), .int .i64 (y.b / 2), .slice (some ⟨b2, 0, none⟩) (hN y) (hN y), .int .i64 (u.a / 2), .int .i64 (u.b / 2), .slice (some ⟨b3, 0, none⟩) (hN u) (hN u), .int .i64 (x.a / 2), .int .i64 (x.b / 2), .slice (some ⟨b4, 0, none⟩) (hN x) (hN x)], .int .i64 0]) (by simp [results, Try.results45, go_sem, kc7]) rfl ?_
    have KF := Kn.set9 (l := [.row b4 (hN x) (by8 (hG x)), .row b3 (hN u) (by8 (hG u)), .row b2 (hN y) (by8 (hG y)), .since w]) ⟨K.2.2.2.2.2.2.2.1, K.2.2.1, K.2.2.2.2.1, K.2.2.2.2.2.2.1, K.2.2.2.2.2.2.2.2.2.1, trivial⟩ (.int .i64 (y.a / 2)) (.int .i64 (y.b / 2)) (.slice (some ⟨b2, 0, none⟩) (hN y) (hN y)) (.int .i64 (u.a / 2)) (.int .i64 (u.b / 2)) (.slice (some ⟨b3, 0, none⟩) (hN u) (hN u)) (.int .i64 (x.a / 2)) (.int .i64 (x.b / 2)) (.slice (some ⟨b4, 0, none⟩) (hN x) (hN x)) ⟨by simp [It.off]; omega, by simp [It.off]; omega, by simp [It.off]; omega, by simp [It.off], trivial⟩
    exact ⟨_, _, _, _, _, _, rfl, Row.rd KF.2.2.1, Row.rd KF.2.1, Row.rd KF.1, KF.2.2.2.1⟩

set_option maxHeartbeats 1000000 in
theorem rdown_no (y u x : PlV) (w : World) (h : wholeB y u x = false) :
    Calls Try.prog 45 #[.agg (frCells y u x)] w (GivesF noP noP noP 61 w) := by
  have K := Kn.start w
  go_enter Try.func45, Try.ntmps45
  go_wp2_with fail
  refine (rwhole_any y u x _).mono ?_
  rintro e w1 ⟨rfl, hb1⟩
  replace K := ((K.new w.heap.size _ _ rfl).new (w.heap.size + 1) _ _ (by simp)).below hb1
  clear hb1
  replace kc0 := Box.cells K.1
  replace kl0 := Box.lt K.1
  replace kf0 := Box.frees K.1
  replace kc1 := Box.cells K.2.1
  replace kl1 := Box.lt K.2.1
  replace L : Below _ _ _ := K.2.2.1
  go_wp2
  refine bodyPost_ret (v := .tuple #[.agg zero9, .int .i64 61]) (by simp [results, Try.results45, go_sem, kc0]) rfl ?_
  exact GivesF.no ⟨rfl, (Kn.set9 K _ _ _ _ _ _ _ _ _ ⟨by simp [It.off], by simp [It.off], trivial⟩).2.1⟩
end Go.Proofs.Ytlkogokhcdehfaa
