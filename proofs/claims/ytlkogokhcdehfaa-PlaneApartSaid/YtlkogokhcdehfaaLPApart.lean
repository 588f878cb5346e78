/- PlaneApart: two planes are as far apart either way round, not at all just if they are alike, no further than over a third one, and halves are no further apart than a quarter and three quarters for each sample: proved for every plane and all samples, no condition. -/
import Derived.Test.YtlkogokhcdehfaaAl6
import Derived.Test.YtlkogokhcdehfaaPm2
import Derived.Test.YtlkogokhcdehfaaClose
namespace Go.Proofs.Ytlkogokhcdehfaa
open Go.ChangeShapes Go.WideShapes Go.ChangeAt Go.RowKit Go.Joins Go.Kin
set_option linter.unusedVariables false

namespace PlaneApart
/-- Two lengths that are not the same, as the tests ask it. -/
def neN (m n : Nat) : Prop := ¬ m = n ∧ (m != n) = true ∧ (m == n) = false ∧ ((m : Int) != (n : Int)) = true ∧ ((m : Int) == (n : Int)) = false
theorem neN_of {m n : Nat} (h : ¬ m = n) : neN m n := ⟨h, by simp [h], by simp [h], by simp; omega, by simp; omega⟩
set_option maxRecDepth 100000 in
set_option maxHeartbeats 4000000 in
theorem walk_no (w : World) (p : PlV) (B C : Option Addr) (m d k e : Nat) (h : fitB p.n = false ∨ (fitB p.n = true ∧ rightB p.a p.b p.n = false) ∨ (fitB p.n = true ∧ rightB p.a p.b p.n = true ∧ neN m p.n) ∨ (fitB p.n = true ∧ rightB p.a p.b p.n = true ∧ m = p.n ∧ neN k p.n)) :
    Calls Try.prog 13 #[.agg #[.int .i64 p.a, .int .i64 p.b, .slice p.A p.n p.c], .slice B m d, .slice C k e] w fun e w' => e = .returned (.bool true) ∧ Below w.heap.size w w' := by
  have K := Kn.start w
  have HRB : ∀ w1 : World, Calls Try.prog 20 #[.agg #[.int .i64 p.a, .int .i64 p.b, .slice p.A p.n p.c]] w1 fun e w' => e = .returned (.bool (rightB p.a p.b p.n)) ∧ Below w1.heap.size w1 w' := fun w1 => right_any _ _ _ _ _ _
  have HR := Lib.hid HRB
  clear HRB
  rcases h with h1 | ⟨h1, h2⟩ | ⟨h1, h2, h3, h4, h5, h6, h7⟩ | ⟨h1, h2, h8, h3, h4, h5, h6, h7⟩
  · go_enter Try.func13, Try.ntmps13
    go_wp2_with fail
    refine (fits_any _ _ _ _ _ _).mono ?_
    rintro e w1 ⟨rfl, hb1⟩
    replace K := (K.new w.heap.size _ _ rfl).below hb1
    clear hb1
    replace kc0 := Box.cells K.1
    replace kl0 := Box.lt K.1
    replace L : Below _ _ _ := K.2.1
    go_wp2_with fail
    refine (alive06 _).mono ?_
    rintro e w2 ⟨rfl, hb2⟩
    replace K := K.below hb2
    clear hb2
    replace L : Below _ _ _ := K.2.1
    go_wp2
    go_ret
    exact ⟨rfl, L⟩
  all_goals go_enter Try.func13, Try.ntmps13
  all_goals go_wp2_with fail
  all_goals refine (fits_any _ _ _ _ _ _).mono ?_
  all_goals rintro e w1 ⟨rfl, hb1⟩
  all_goals replace K := (K.new w.heap.size _ _ rfl).below hb1
  all_goals clear hb1
  all_goals replace kc0 := Box.cells K.1
  all_goals replace kl0 := Box.lt K.1
  all_goals replace L : Below _ _ _ := K.2.1
  all_goals go_wp2_with fail
  all_goals refine (HR.out _).mono ?_
  all_goals rintro e w2 ⟨rfl, hb2⟩
  all_goals replace K := K.below hb2
  all_goals clear hb2
  all_goals replace kc0 := Box.cells K.1
  all_goals replace kl0 := Box.lt K.1
  all_goals replace L : Below _ _ _ := K.2.1
  all_goals go_wp2_with fail
  all_goals refine (alive06 _).mono ?_
  all_goals rintro e w3 ⟨rfl, hb3⟩
  all_goals replace K := K.below hb3
  all_goals clear hb3
  all_goals replace L : Below _ _ _ := K.2.1
  all_goals go_wp2
  all_goals go_ret
  all_goals exact ⟨rfl, L⟩

set_option maxRecDepth 100000 in
set_option maxHeartbeats 4000000 in
theorem walk_yes (w : World) (a b : Int) (A B C : Option Addr) (n c d e : Nat) (g gb gc : Nat → Int) (hp : PlV.Ok w ⟨a, b, A, n, c, g⟩) (hq : PlV.Ok w ⟨a, b, B, n, d, gb⟩) (hs : PlV.Ok w ⟨a, b, C, n, e, gc⟩) (h1 : fitB n = true) (hr : rightB a b n = true)
    (s1 s2 : PlV) (k1 : Int) (W2 H2 : Nat) (hb1 : Byt s1.g) (hb2 : Byt s2.g) (hh1 : ∀ w1, Below w.heap.size w w1 → Calls Try.prog 41 #[.agg #[.int .i64 a, .int .i64 b, .slice A n c]] w1 (GivesP s1 k1 w1))
    (hh2 : ∀ w1, Below w.heap.size w w1 → Calls Try.prog 41 #[.agg #[.int .i64 a, .int .i64 b, .slice B n d]] w1 (GivesP s2 k1 w1))
    (hk : ((k1 != 0) = true ∧ (a % 2 == 1) = true) ∨ ((k1 != 0) = true ∧ (a % 2 == 1) = false ∧ (b % 2 == 1) = true) ∨ ((k1 != 0) = false ∧ s1.a = s2.a ∧ s1.b = s2.b ∧ s1.n = s2.n ∧ I64 s1.a ∧ I64 s1.b ∧ rightB s1.a s1.b s1.n = true ∧ 4 * farS s1.g s2.g s1.n ≤ farS g gb n + 3 * (s1.n : Int))) :
    Calls Try.prog 13 #[.agg #[.int .i64 a, .int .i64 b, .slice A n c], .slice B n d, .slice C n e] w fun e w' => e = .returned (.bool true) ∧ Below w.heap.size w w' := by
  obtain ⟨r1, r2, r3, r4, r5⟩ := rightB_iff.1 hr
  have HR5 := Lib.hid r5
  have fl := fitB_le h1
  clear r5
  have fb1 : farB ⟨a, b, A, n, c, g⟩ ⟨a, b, B, n, d, gb⟩ = true := by simp [farB, hr]
  have fb2 : farB ⟨a, b, B, n, d, gb⟩ ⟨a, b, A, n, c, g⟩ = true := by simp [farB, hr]
  have fb3 : farB ⟨a, b, A, n, c, g⟩ ⟨a, b, C, n, e, gc⟩ = true := by simp [farB, hr]
  have fb4 : farB ⟨a, b, C, n, e, gc⟩ ⟨a, b, B, n, d, gb⟩ = true := by simp [farB, hr]
  have F1 := Lib.hid (fun w1 hb => far_yes ⟨a, b, A, n, c, g⟩ ⟨a, b, B, n, d, gb⟩ w1 (hp.below hb) (hq.below hb) fb1)
  have F2 := Lib.hid (fun w1 hb => far_yes ⟨a, b, B, n, d, gb⟩ ⟨a, b, A, n, c, g⟩ w1 (hq.below hb) (hp.below hb) fb2)
  have F3 := Lib.hid (fun w1 hb => far_yes ⟨a, b, A, n, c, g⟩ ⟨a, b, C, n, e, gc⟩ w1 (hp.below hb) (hs.below hb) fb3)
  have F4 := Lib.hid (fun w1 hb => far_yes ⟨a, b, C, n, e, gc⟩ ⟨a, b, B, n, d, gb⟩ w1 (hs.below hb) (hq.below hb) fb4)
  have HC := Lib.hid (farS_comm gb g n)
  have tri := farS_tri g gb gc n
  obtain ⟨x0, x1⟩ := farS_bd hp.byt hq.byt n
  obtain ⟨y0, y1⟩ := farS_bd hp.byt hs.byt n
  obtain ⟨z0, z1⟩ := farS_bd hs.byt hq.byt n
  have HZ := Lib.hid (farS_str (n := n) hp.byt hq.byt)
  have HH1 := Lib.hid hh1
  have HH2 := Lib.hid hh2
  clear hh1 hh2 fb1 fb2 fb3 fb4
  have K := Kn.start w
  dsimp only at x0 x1 y0 y1 z0 z1
  go_enter Try.func13, Try.ntmps13
  go_wp2_with fail
  refine (fits_any _ _ _ _ _ _).mono ?_
  rintro e w1 ⟨rfl, hb1⟩
  replace K := (K.new w.heap.size _ _ rfl).below hb1
  clear hb1
  replace kc0 := Box.cells K.1
  replace kl0 := Box.lt K.1
  replace L : Below _ _ _ := K.2.1
  go_wp2_with fail
  refine (right_any _ _ _ _ _ _).mono ?_
  rintro e w2 ⟨rfl, hb2⟩
  replace K := K.below hb2
  clear hb2
  replace kc0 := Box.cells K.1
  replace kl0 := Box.lt K.1
  replace L : Below _ _ _ := K.2.1
  go_wp2_with fail
  refine (F1.out _ ((L.alloc L.size _).alloc (by simp; have := L.size; omega) _)).mono ?_
  rintro e w3 ⟨rfl, hb3⟩
  replace K := ((K.new w2.heap.size _ _ rfl).new (w2.heap.size + 1) _ _ (by simp)).below hb3
  clear hb3
  replace kc0 := Box.cells K.1
  replace kl0 := Box.lt K.1
  replace kc1 := Box.cells K.2.1
  replace kl1 := Box.lt K.2.1
  replace kc2 := Box.cells K.2.2.1
  replace kl2 := Box.lt K.2.2.1
  replace L : Below _ _ _ := K.2.2.2.1
  go_wp2_with fail
  refine (F2.out _ L).mono ?_
  rintro e w4 ⟨rfl, hb4⟩
  replace K := K.below hb4
  clear hb4
  replace kc0 := Box.cells K.1
  replace kl0 := Box.lt K.1
  replace kc1 := Box.cells K.2.1
  replace kl1 := Box.lt K.2.1
  replace kc2 := Box.cells K.2.2.1
  replace kl2 := Box.lt K.2.2.1
  replace L : Below _ _ _ := K.2.2.2.1
  simp only [HC.out]
  go_wp2_with fail
  refine (F3.out _ L).mono ?_
  rintro e w5 ⟨rfl, hb5⟩
  replace K := K.below hb5
  clear hb5
  replace kc0 := Box.cells K.1
  replace kl0 := Box.lt K.1
  replace kc1 := Box.cells K.2.1
  replace kl1 := Box.lt K.2.1
  replace kc2 := Box.cells K.2.2.1
  replace kl2 := Box.lt K.2.2.1
  replace L : Below _ _ _ := K.2.2.2.1
  go_wp2_with fail
  refine (F4.out _ L).mono ?_
  rintro e w6 ⟨rfl, hb6⟩
  replace K := K.below hb6
  clear hb6
  replace kc0 := Box.cells K.1
  replace kl0 := Box.lt K.1
  replace kc1 := Box.cells K.2.1
  replace kl1 := Box.lt K.2.1
  replace kc2 := Box.cells K.2.2.1
  replace kl2 := Box.lt K.2.2.1
  replace L : Below _ _ _ := K.2.2.2.1
  have k2 := conv_any (c := c) (hp.rd.below L)
  have k3 := conv_any (c := d) (hq.rd.below L)
  have hz := HZ.out
  dsimp only at k2 k3
  go_wp2_with fail
  refine (HH1.out _ L).mono ?_
  rintro e w7 ⟨A7, c7, rfl, R7, l7, m7, hb7⟩
  replace K := K.below hb7
  clear hb7
  replace kc0 := Box.cells K.1
  replace kl0 := Box.lt K.1
  replace kc1 := Box.cells K.2.1
  replace kl1 := Box.lt K.2.1
  replace kc2 := Box.cells K.2.2.1
  replace kl2 := Box.lt K.2.2.1
  replace L : Below _ _ _ := K.2.2.2.1
  clear k2 k3 hz
  replace K := K.add (x := .rd A7 s1.n (by8 s1.g)) R7
  clear R7
  go_wp2_with fail
  refine (HH2.out _ (L.alloc L.size _)).mono ?_
  rintro e w8 ⟨A8, c8, rfl, R8, l8, m8, hb8⟩
  replace K := (K.new w7.heap.size _ _ rfl).below hb8
  clear hb8
  replace kc0 := Box.cells K.1
  replace kl0 := Box.lt K.1
  replace kc2 := Box.cells K.2.2.1
  replace kl2 := Box.lt K.2.2.1
  replace kc3 := Box.cells K.2.2.2.1
  replace kl3 := Box.lt K.2.2.2.1
  replace kc4 := Box.cells K.2.2.2.2.1
  replace kl4 := Box.lt K.2.2.2.2.1
  replace L : Below _ _ _ := K.2.2.2.2.2.1
  replace K := K.add (x := .rd A8 s2.n (by8 s2.g)) R8
  clear R8
  rcases hk with ⟨j1, j2⟩ | ⟨j1, j2, j3⟩ | ⟨j1, j2, j3, j4, j5, j6, j7, j8⟩
  ·
    go_wp2_with fail
    refine (alive06 _).mono ?_
    rintro e w9 ⟨rfl, hb9⟩
    replace K := (K.new w8.heap.size _ _ rfl).below hb9
    clear hb9
    replace kc0 := Box.cells K.1
    replace kl0 := Box.lt K.1
    replace kc2 := Box.cells K.2.2.1
    replace kl2 := Box.lt K.2.2.1
    replace kc4 := Box.cells K.2.2.2.2.1
    replace kl4 := Box.lt K.2.2.2.2.1
    replace kc5 := Box.cells K.2.2.2.2.2.1
    replace kl5 := Box.lt K.2.2.2.2.2.1
    replace kc6 := Box.cells K.2.2.2.2.2.2.1
    replace kl6 := Box.lt K.2.2.2.2.2.2.1
    replace L : Below _ _ _ := K.2.2.2.2.2.2.2.1
    go_wp2
    go_ret
    exact ⟨rfl, L⟩
  ·
    go_wp2_with fail
    refine (alive06 _).mono ?_
    rintro e w9 ⟨rfl, hb9⟩
    replace K := (K.new w8.heap.size _ _ rfl).below hb9
    clear hb9
    replace kc0 := Box.cells K.1
    replace kl0 := Box.lt K.1
    replace kc2 := Box.cells K.2.2.1
    replace kl2 := Box.lt K.2.2.1
    replace kc4 := Box.cells K.2.2.2.2.1
    replace kl4 := Box.lt K.2.2.2.2.1
    replace kc5 := Box.cells K.2.2.2.2.2.1
    replace kl5 := Box.lt K.2.2.2.2.2.1
    replace kc6 := Box.cells K.2.2.2.2.2.2.1
    replace kl6 := Box.lt K.2.2.2.2.2.2.1
    replace L : Below _ _ _ := K.2.2.2.2.2.2.2.1
    go_wp2
    go_ret
    exact ⟨rfl, L⟩
  · obtain ⟨a2, b2, A2, n2, c2, g2⟩ := s2
    dsimp only at j2 j3 j4 hb2
    subst j2 j3 j4
    have fb : farB ⟨s1.a, s1.b, A7, s1.n, c7, s1.g⟩ ⟨s1.a, s1.b, A8, s1.n, c8, g2⟩ = true := by simp [farB, j7]
    have F5 := Lib.hid (fun w1 (o1 : PlV.Ok w1 ⟨s1.a, s1.b, A7, s1.n, c7, s1.g⟩) (o2 : PlV.Ok w1 ⟨s1.a, s1.b, A8, s1.n, c8, g2⟩) => far_yes ⟨s1.a, s1.b, A7, s1.n, c7, s1.g⟩ ⟨s1.a, s1.b, A8, s1.n, c8, g2⟩ w1 o1 o2 fb)
    have kn := rightB_le j7
    obtain ⟨v0, v1⟩ := farS_bd hb1 hb2 s1.n
    clear fb
    dsimp only at m8 l8
    go_wp2_with fail
    refine (F5.out _ ⟨j5, j6, Rd.alloc K.2.2.1 _, hb1, l7, m7⟩ ⟨j5, j6, Rd.alloc K.1 _, hb2, l8, m8⟩).mono ?_
    rintro e w9 ⟨rfl, hb9⟩
    replace K := (K.new w8.heap.size _ _ rfl).below hb9
    clear hb9
    replace kc0 := Box.cells K.1
    replace kl0 := Box.lt K.1
    replace kc2 := Box.cells K.2.2.1
    replace kl2 := Box.lt K.2.2.1
    replace kc4 := Box.cells K.2.2.2.2.1
    replace kl4 := Box.lt K.2.2.2.2.1
    replace kc5 := Box.cells K.2.2.2.2.2.1
    replace kl5 := Box.lt K.2.2.2.2.2.1
    replace kc6 := Box.cells K.2.2.2.2.2.2.1
    replace kl6 := Box.lt K.2.2.2.2.2.2.1
    replace L : Below _ _ _ := K.2.2.2.2.2.2.2.1
    go_wp2_with fail
    refine (alive06 _).mono ?_
    rintro e w10 ⟨rfl, hb10⟩
    replace K := K.below hb10
    clear hb10
    replace kc2 := Box.cells K.2.2.1
    replace kl2 := Box.lt K.2.2.1
    replace kc4 := Box.cells K.2.2.2.2.1
    replace kl4 := Box.lt K.2.2.2.2.1
    replace kc5 := Box.cells K.2.2.2.2.2.1
    replace kl5 := Box.lt K.2.2.2.2.2.1
    replace kc6 := Box.cells K.2.2.2.2.2.2.1
    replace kl6 := Box.lt K.2.2.2.2.2.2.1
    replace L : Below _ _ _ := K.2.2.2.2.2.2.2.1
    dsimp only
    go_wp2
    go_ret
    exact ⟨rfl, L⟩

theorem walk (w : World) (a b : Int) (A : Option Addr) (n c : Nat) (g : Nat → Int) (ia : I64 a) (ib : I64 b) (hR : Rd w A n (by8 g)) (hg : Byt g) (hnc : n ≤ c) (hc : c ≤ 9223372036854775807)
    (B : Option Addr) (m d : Nat) (gb : Nat → Int) (hB : Rd w B m (by8 gb)) (hgb : Byt gb) (hd : m ≤ d) (hd2 : d ≤ 9223372036854775807) (C : Option Addr) (k e : Nat) (gc : Nat → Int) (hC : Rd w C k (by8 gc)) (hgc : Byt gc) (he : k ≤ e) (he2 : e ≤ 9223372036854775807) :
    Calls Try.prog 13 #[.agg #[.int .i64 a, .int .i64 b, .slice A n c], .slice B m d, .slice C k e] w fun e w' => e = .returned (.bool true) ∧ Below w.heap.size w w' := by
  cases h1 : fitB n with
  | false => exact walk_no w ⟨a, b, A, n, c, g⟩ B C m d k e (.inl h1)
  | true =>
    cases h2 : rightB a b n with
    | false => exact walk_no w ⟨a, b, A, n, c, g⟩ B C m d k e (.inr (.inl ⟨h1, h2⟩))
    | true =>
      by_cases h3 : m = n
      rotate_left
      · exact walk_no w ⟨a, b, A, n, c, g⟩ B C m d k e (.inr (.inr (.inl ⟨h1, h2, neN_of h3⟩)))
      by_cases h4 : k = n
      rotate_left
      · exact walk_no w ⟨a, b, A, n, c, g⟩ B C m d k e (.inr (.inr (.inr ⟨h1, h2, h3, neN_of h4⟩)))
      subst h3 h4
      obtain ⟨r1, r2, r3, r4, r5⟩ := rightB_iff.1 h2
      have hp : PlV.Ok w ⟨a, b, A, k, c, g⟩ := ⟨ia, ib, hR, hg, hnc, hc⟩
      have hq : PlV.Ok w ⟨a, b, B, k, d, gb⟩ := ⟨ia, ib, hB, hgb, hd, hd2⟩
      have hs : PlV.Ok w ⟨a, b, C, k, e, gc⟩ := ⟨ia, ib, hC, hgc, he, he2⟩
      cases h5 : halfB a b k with
      | false =>
        refine walk_yes w a b A B C k c d e g gb gc hp hq hs h1 h2 noP noP 61 0 0 noP_byt noP_byt (fun w1 _ => (half_no a b A k c w1 h5).mono fun _ _ h => .no h) (fun w1 _ => (half_no a b B k d w1 h5).mono fun _ _ h => .no h) ?_
        rcases halfB_no h5 with h | ⟨_, h⟩ | ⟨_, h, h'⟩
        · rw [h2] at h; cases h
        · refine .inl ⟨by decide, ?_⟩
          simp at h ⊢
          omega
        · refine .inr (.inl ⟨by decide, ?_, ?_⟩)
          · simp at h ⊢; omega
          · simp at h' ⊢; omega
      | true =>
        simp only [halfB, Bool.and_eq_true, beq_iff_eq] at h5
        obtain ⟨⟨_, h6⟩, h7⟩ := h5
        obtain ⟨W2, hW⟩ : ∃ W2 : Nat, a = ((2 * W2 : Nat) : Int) := ⟨(a / 2).toNat, by omega⟩
        obtain ⟨H2, hH⟩ : ∃ H2 : Nat, b = ((2 * H2 : Nat) : Int) := ⟨(b / 2).toNat, by omega⟩
        subst hW hH
        have hN : k = 2 * W2 * (2 * H2) := by exact_mod_cast r5
        have hM : W2 * H2 ≤ 4194304 := Nat.mul_le_mul (show W2 ≤ 2048 by omega) (show H2 ≤ 2048 by omega)
        refine walk_yes w _ _ A B C k c d e g gb gc hp hq hs h1 h2 ⟨W2, H2, none, W2 * H2, 0, halfP (2 * W2) W2 g⟩ ⟨W2, H2, none, W2 * H2, 0, halfP (2 * W2) W2 gb⟩ 0 W2 H2 (halfP_byt hg) (halfP_byt hgb)
          (fun w1 hb => (half_yes (2 * W2) (2 * H2) W2 H2 A k c g w1 h2 rfl rfl hg (hR.below hb)).mono fun _ _ h => GivesP.made (by omega) h)
          (fun w1 hb => (half_yes (2 * W2) (2 * H2) W2 H2 B k d gb w1 h2 rfl rfl hgb (hB.below hb)).mono fun _ _ h => GivesP.made (by omega) h) (.inr (.inr ⟨by decide, rfl, rfl, rfl, ⟨by show (-9223372036854775808 : Int) ≤ (W2 : Int); omega, by show (W2 : Int) ≤ 9223372036854775807; omega⟩, ⟨by show (-9223372036854775808 : Int) ≤ (H2 : Int); omega, by show (H2 : Int) ≤ 9223372036854775807; omega⟩, ?_, ?_⟩))
        · exact rightB_iff.2 ⟨by dsimp only; omega, by dsimp only; omega, by dsimp only; omega, by dsimp only; omega, by simp⟩
        · rw [hN]
          exact farS_half W2 H2
end PlaneApart
namespace PlaneApart
set_option maxRecDepth 100000 in
theorem lifted (os : Os) (started : os.Started) (H : Type) (enc : TypeId × Value → H) :
    ReturnsInHanded {} Try.checked os 13 .any (Rows.planeApartSpec.pre6 enc Try.prog Try.f13 Rows.planeApartRow.domain false) (Rows.planeApartSpec.post enc Try.prog Try.f13 false true false false) := by
  refine returnsInHanded_of_change (C := Try.checked) own started (by kernel_rfl) Try.func13
    (ChangeSpec.witness6 (enc := enc) (C := Try.checked) false ⟨#[], #[.agg #[.int .i64 0, .int .i64 0, .slice none 0 0], .slice none 0 0, .slice none 0 0], []⟩ 8 (by kernel_rfl) (by kernel_rfl) (by kernel_rfl) (by kernel_rfl)) ?_
  intro W base args ds gs before hval0 hW hcnd _
  have hval : ∀ (j : Nat) t v, Try.f13.params[j]? = some t → args[j]? = some v → Value.okWide Try.prog W .any base t v := hval0
  refine law_post (tb := 4) laidOut (by kernel_rfl) rfl Try.underlying4 rfl (fun ds' h => ?_) hW ?_
  · rw [Try.params13] at h
    match ds', h with
    | [d1, d2, d3], _ => exact ⟨rfl, rfl, rfl⟩
  obtain ⟨p, q, hA0, hV, rfl, hfz, hnd⟩ := hW
  have hA : DataW.TrodAll enc Try.prog W 0 (fun _ => true) true Try.f13.params.toList args.toList ds p := hA0
  rw [Try.params13] at hA hval
  obtain ⟨v0, vs0, d0, ds0, p0, q0, hargs, rfl, rfl, h0, r0⟩ := trodAll_cons hA
  obtain ⟨v1, vs1, d1, ds1, p1, q1, rfl, rfl, rfl, h1, r1⟩ := trodAll_cons r0
  obtain ⟨v2, vs2, d2, ds2, p2, q2, rfl, rfl, rfl, h2, r2⟩ := trodAll_cons r1
  obtain ⟨rfl, rfl, rfl⟩ := trodAll_nil r2
  obtain rfl : args = #[v0, v1, v2] := by cases args; simp_all
  obtain ⟨a0, b0, A0, n0, c0, g0, rfl, w0, x0, rr0, t0, l0, m0⟩ := open_plane Try.underlying29 (by kernel_rfl) ⟨rfl, rfl⟩ ⟨rfl, rfl⟩ ⟨rfl, rfl⟩ Try.underlying3 Try.underlying27 Try.underlying5 (by kernel_rfl) (by kernel_rfl) (by kernel_rfl) (hval 0 29 v0 rfl rfl) h0
  obtain ⟨A1, n1, c1, g1, rfl, rr1, t1, l1, m1⟩ := open_bytes Try.underlying27 Try.underlying5 (by kernel_rfl) (hval 1 27 v1 rfl rfl) h1
  obtain ⟨A2, n2, c2, g2, rfl, rr2, t2, l2, m2⟩ := open_bytes Try.underlying27 Try.underlying5 (by kernel_rfl) (hval 2 27 v2 rfl rfl) h2
  exact walk W a0 b0 A0 n0 c0 g0 w0 x0 rr0 t0 l0 m0 A1 n1 c1 g1 rr1 t1 l1 m1 A2 n2 c2 g2 rr2 t2 l2 m2
theorem over : Rows.planeApartRow.holds Try.pinned (OpenSpec.ofChange Rows.planeApartSpec) :=
  OpenClaim.holds_of_wide 13 Try.f13 rfl rfl rfl rfl rfl rfl rfl ⟨rfl, rfl, rfl, rfl, rfl⟩ rfl rfl rfl rfl rfl (by kernel_rfl) Try.func13 (by kernel_rfl)
    (of_decide_eq_true (by kernel_rfl)) (by unfold Func.isWrapper; first | (rw [if_pos (by decide +kernel)]; kernel_rfl) | (rw [if_neg (by decide +kernel)]; exact ⟨rfl, rfl⟩))
    (fun os started H enc _ => lifted os started H enc)
end PlaneApart
theorem planeApart_holds : Rows.PlaneApartSaid := PlaneApart.over

end Go.Proofs.Ytlkogokhcdehfaa
