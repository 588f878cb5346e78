/- DeblockMost: no sample of a smooth plane is further than twice the strength from what it was, those beside no edge stay: proved for every plane and every quantiser, no condition. -/
import Derived.Test.YtlkogokhcdehfaaDw4
import Derived.Test.YtlkogokhcdehfaaDm2
import Derived.Test.YtlkogokhcdehfaaClose
namespace Go.Proofs.Ytlkogokhcdehfaa
open Go.ChangeShapes Go.WideShapes Go.ChangeAt Go.RowKit Go.Joins Go.Kin
set_option linter.unusedVariables false

def fitB (n : Nat) : Bool := decide ((n : Int) ≤ 10000)
set_option maxHeartbeats 400000 in
theorem fits_any (a b : Int) (A : Option Addr) (n c : Nat) (w : World) :
    Calls Try.prog 18 #[.agg #[.int .i64 a, .int .i64 b, .slice A n c]] w fun e w' => e = .returned (.bool (fitB n)) ∧ Below w.heap.size w w' := by
  have H := Lib.hid (show fitB n = decide ((n : Int) ≤ 10000) from rfl)
  go_enter Try.func18, Try.ntmps18
  go_wp2
  go_ret
  exact ⟨ret_bool (by rw [H.out]), (Below.refl _ _).alloc (Nat.le_refl _) _⟩

namespace DeblockMost
-- where the plane does not fit, or is answered with an error
set_option maxHeartbeats 1000000 in
theorem walk_no (w : World) (a b : Int) (A : Option Addr) (n c : Nat) (g : Nat → Int) (q : Int) (k : Int)
    (hP : Hid (∀ w1 : World, Below w.heap.size w w1 → Calls Try.prog 19 #[.agg #[.int .i64 a, .int .i64 b, .slice A n c], .int .i64 q] w1 fun e w' => (∃ x y B m d, e = .returned (.tuple #[.agg #[.int .i64 x, .int .i64 y, .slice B m d], .int .i64 k])) ∧ Below w1.heap.size w1 w'))
    (h : fitB n = false ∨ (fitB n = true ∧ (k != 0) = true ∧ rightB a b n = false) ∨ (fitB n = true ∧ (k != 0) = true ∧ rightB a b n = true ∧ q < 0) ∨ (fitB n = true ∧ (k != 0) = true ∧ rightB a b n = true ∧ ¬ q < 0 ∧ 31 < q)) :
    Calls Try.prog 4 #[.agg #[.int .i64 a, .int .i64 b, .slice A n c], .int .i64 q] w fun e w' => e = .returned (.bool true) ∧ Below w.heap.size w w' := by
  rcases h with h1 | ⟨h1, h2, h3⟩ | ⟨h1, h2, h3, h4⟩ | ⟨h1, h2, h3, h4, h5⟩
  all_goals go_enter Try.func4, Try.ntmps4
  all_goals go_wp2_with fail
  all_goals refine (fits_any _ _ _ _ _ _).mono ?_
  all_goals rintro e w1 ⟨rfl, hb1⟩
  all_goals have B1 := (Box.new w _ _).below hb1 (by simp)
  all_goals have L1 := ((Below.refl _ w).alloc (Nat.le_refl _) _).trans (hb1.mono (by simp))
  all_goals clear hb1
  all_goals obtain ⟨c0, c1, c2⟩ := B1.cell3
  all_goals go_wp2_with fail
  all_goals refine (hP.out _ L1).mono ?_
  all_goals rintro e w2 ⟨⟨x, y, B, m, d, rfl⟩, hb2⟩
  all_goals have B2 := B1.below hb2 B1.lt
  all_goals have L2 := L1.trans (hb2.mono L1.size)
  all_goals have l0 : w.heap.size < w2.heap.size := B2.lt
  all_goals clear hb2 c0 c1 c2 B1 L1
  all_goals obtain ⟨c0, c1, c2⟩ := B2.cell3
  all_goals go_wp2_with fail
  all_goals refine (alive11 _).mono ?_
  all_goals rintro e w3 ⟨rfl, hb3⟩
  all_goals have B3 := (B2.alloc _).below hb3 (by simp; omega)
  all_goals have L3 := (L2.alloc (by omega) _).trans (hb3.mono (by simp; omega))
  all_goals clear hb3 c0 c1 c2 B2 L2
  all_goals obtain ⟨c0, c1, c2⟩ := B3.cell3
  all_goals go_wp2_with (go_at_call 20; refine (right_any _ _ _ _ _ _).mono ?_; rintro e w4 ⟨rfl, hb4⟩)
  all_goals go_ret
  · exact ⟨rfl, L3⟩
  all_goals exact ⟨rfl, L3.trans (hb4.mono L3.size)⟩

/-- The loop's memory. -/
structure MI (w wr : World) (W H n c b : Nat) (A : Option Addr) (B6 : Nat) (g f : Nat → Int) : Prop where
  b2 : Box wr w.heap.size #[.int .i64 W, .int .i64 H, .slice A n c]
  b6 : Box wr B6 #[.int .i64 W, .int .i64 H, .slice (some ⟨b, 0, none⟩) n n]
  row : Row wr b n (by8 f)
  rd : Rd wr A n (by8 g)
  bel : Below w.heap.size w wr

theorem MI.drewN {w wr : World} {W H n c b : Nat} {A : Option Addr} {B6 : Nat} {g f : Nat → Int} (h : MI w wr W H n c b A B6 g f) (k : Nat) : MI w (wr.drewN k) W H n c b A B6 g f :=
  ⟨h.b2.drewN k, h.b6.drewN k, h.row.drewN k, h.rd.drewN k, below_drewN h.bel k⟩
theorem near5 {x y : Int} {W k : Nat} (h : offX W k → offY W k → x = y) :
    x = y ∨ (((k : Int) % W % 8 == 0) = true) ∨ (((k : Int) % W % 8 == 0) = false ∧ ((k : Int) % W % 8 == 7) = true) ∨ (((k : Int) / W % 8 == 0) = true) ∨ (((k : Int) / W % 8 == 0) = false ∧ ((k : Int) / W % 8 == 7) = true) := by
  have e1 : ((k : Int) % W % 8) = ((k % W % 8 : Nat) : Int) := by simp
  have e2 : ((k : Int) / W % 8) = ((k / W % 8 : Nat) : Int) := by simp
  rw [e1, e2]
  by_cases a : k % W % 8 = 0
  · right; left; simp [a]
  · by_cases b : k % W % 8 = 7
    · right; right; left; simp [b]
    · by_cases c : k / W % 8 = 0
      · right; right; right; left; simp [c]
      · by_cases d : k / W % 8 = 7
        · right; right; right; right; simp [d]
        · left; exact h ⟨a, b⟩ ⟨c, d⟩

set_option maxRecDepth 100000 in
set_option maxHeartbeats 2000000 in
theorem walk_yes (w : World) (W H : Nat) (A : Option Addr) (n c : Nat) (g : Nat → Int) (hR : Rd w A n (by8 g)) (hg : Byt g) (q : Int) (hr : rightB W H n = true) (hk : knownB q = true) (hf : fitB n = true) :
    Calls Try.prog 4 #[.agg #[.int .i64 W, .int .i64 H, .slice A n c], .int .i64 q] w fun e w' => e = .returned (.bool true) ∧ Below w.heap.size w w' := by
  obtain ⟨r1, r2, r3, r4, r5⟩ := rightB_iff.1 hr
  have hq : 0 ≤ q ∧ q ≤ 31 := by simpa [knownB] using hk
  obtain ⟨q0, q1⟩ := hq
  have hn1 := rightB_pos hr
  have hn2 := rightB_le hr
  have HNR := Lib.hid (fun i => dbP_near (H := H) q0 (show 1 ≤ W by omega) hg i)
  have HBY : Byt (dbP q W H g) := colsE_byt (rowsE_byt hg _) _
  have HP := Lib.hid (fun w1 hb1 => dplane_yes W H q A n c g w1 hr hk (hR.below hb1) hg)
  have HR := Lib.hid hR
  clear hR r5
  generalize dbP q W H g = f at *
  go_enter Try.func4, Try.ntmps4
  go_wp2_with fail
  refine (fits_any _ _ _ _ _ _).mono ?_
  rintro e w1 ⟨rfl, hb1⟩
  have B1 := (Box.new w _ _).below hb1 (by simp)
  have L1 := ((Below.refl _ w).alloc (Nat.le_refl _) _).trans (hb1.mono (by simp))
  clear hb1
  obtain ⟨c0, c1, c2⟩ := B1.cell3
  go_wp2_with fail
  refine (HP.out _ L1).mono ?_
  rintro e w2 ⟨b, rfl, hb, hrow, hb2⟩
  have B2 := B1.below hb2 B1.lt
  have L2 := L1.trans (hb2.mono L1.size)
  have l0 : w.heap.size < w2.heap.size := B2.lt
  have M0 : ∀ X, MI w (w2.alloc (.cells #[.int .i64 W, .int .i64 H, .slice (some ⟨b, 0, none⟩) n n] X)) W H n c b A w2.heap.size g f := fun X =>
    ⟨B2.alloc _, Box.new _ _ _, hrow.alloc _, ((HR.out.below L2).alloc _), L2.alloc (by omega) _⟩
  have HM0 := Lib.hid M0
  clear hb2 c0 c1 c2 B1 L1 M0 hrow L2
  obtain ⟨c0, c1, c2⟩ := B2.cell3
  go_wp2
  clear c0 c1 c2 B2
  go_loopw [9] (fun i wr => ∃ k : Nat, k ≤ n ∧ i = .int .i64 k ∧ MI w wr W H n c b A w2.heap.size g f) (fun i _ => n - (intOf i).toNat)
  case atStart => exact ⟨0, Nat.zero_le _, rfl, HM0.out _⟩
  case round =>
    obtain ⟨k, hkn, rfl, hM⟩ := hrel
    clear HM0
    obtain ⟨c0, c1, c2⟩ := hM.b2.cell3
    obtain ⟨d0, d1, d2⟩ := hM.b6.cell3
    by_cases hlt : k < n
    · have e1 := hM.row.cell hlt
      obtain ⟨bA, oA, rfl, _, hA⟩ := hM.rd.some_ (by omega)
      have e2 := hA k hlt
      simp only [by8] at e1 e2
      have HM := Lib.hid hM
      clear hM hA
      have nb : f k = g k ∨ (((k : Int) % W % 8 == 0) = true) ∨ (((k : Int) % W % 8 == 0) = false ∧ ((k : Int) % W % 8 == 7) = true) ∨ (((k : Int) / W % 8 == 0) = true) ∨ (((k : Int) / W % 8 == 0) = false ∧ ((k : Int) / W % 8 == 7) = true) := near5 (HNR.out k).2.2
      have nb1 := (HNR.out k).1
      have nb2 := (HNR.out k).2.1
      have kw0 : (0 : Int) ≤ (k : Int) / W := Int.ediv_nonneg (by omega) (by omega)
      have kw1 : (k : Int) / W ≤ 16777216 := Int.le_trans (Int.ediv_le_self _ (by omega)) (by omega)
      have fb := HBY k
      have gb := hg k
      by_cases hz : f k = g k
      · have z1 : (f k - g k != 0) = false := by simp [hz]
        clear nb hz
        go_wp2
        go_quiet (fail)
        go_wp2
        all_goals exact ⟨⟨k + 1, by omega, by go_num, HM.out.drewN _⟩, by simp [intOf]; omega⟩
      · rcases nb with nb | nb | ⟨nb, nb'⟩ | nb | ⟨nb, nb'⟩
        · exact absurd nb hz
        all_goals clear hz
        all_goals go_wp2
        all_goals go_quiet (fail)
        all_goals go_wp2
        all_goals exact ⟨⟨k + 1, by omega, by go_num, HM.out.drewN _⟩, by simp [intOf]; omega⟩
    · have HM := Lib.hid hM
      clear hM
      go_wp2_with fail
      refine (alive11 _).mono ?_
      rintro e w3 ⟨rfl, hb3⟩
      go_wp2
      go_ret
      exact ⟨rfl, HM.out.bel.trans (hb3.mono HM.out.bel.size)⟩

set_option maxHeartbeats 1000000 in
theorem walk (w : World) (a b : Int) (A : Option Addr) (n c : Nat) (g : Nat → Int) (ia : I64 a) (ib : I64 b) (hR : Rd w A n (by8 g)) (hg : Byt g) (hnc : n ≤ c) (hc : c ≤ 9223372036854775807) (q : Int) (iq : I64 q) :
    Calls Try.prog 4 #[.agg #[.int .i64 a, .int .i64 b, .slice A n c], .int .i64 q] w fun e w' => e = .returned (.bool true) ∧ Below w.heap.size w w' := by
  cases hr : rightB a b n with
  | false =>
    refine walk_no w a b A n c g q 61 (Lib.hid fun w1 _ => (dplane_no1 a b q A n c w1 hr).mono fun e w' ⟨he, hb⟩ => ⟨⟨_, _, _, _, _, he⟩, hb⟩) ?_
    cases hf : fitB n with
    | false => exact .inl rfl
    | true => exact .inr (.inl ⟨rfl, by decide, hr⟩)
  | true =>
    cases hk : knownB q with
    | false =>
      refine walk_no w a b A n c g q 1 (Lib.hid fun w1 _ => (dplane_no2 a b q A n c w1 hr hk).mono fun e w' ⟨he, hb⟩ => ⟨⟨_, _, _, _, _, he⟩, hb⟩) ?_
      cases hf : fitB n with
      | false => exact .inl rfl
      | true =>
        have : q < 0 ∨ (¬ q < 0 ∧ 31 < q) := by simp [knownB] at hk; omega
        rcases this with h | ⟨h, h'⟩
        · exact .inr (.inr (.inl ⟨rfl, by decide, hr, h⟩))
        · exact .inr (.inr (.inr ⟨rfl, by decide, hr, h, h'⟩))
    | true =>
      obtain ⟨r1, r2, r3, r4, r5⟩ := rightB_iff.1 hr
      obtain ⟨W, rfl⟩ := Int.eq_ofNat_of_zero_le (show 0 ≤ a by omega)
      obtain ⟨H, rfl⟩ := Int.eq_ofNat_of_zero_le (show 0 ≤ b by omega)
      cases hf : fitB n with
      | false =>
        exact walk_no w W H A n c g q 0 (Lib.hid fun w1 hb1 => (dplane_yes W H q A n c g w1 hr hk (hR.below hb1) hg).mono fun e w' ⟨b, he, _, _, hb⟩ => ⟨⟨_, _, _, _, _, he⟩, hb⟩) (.inl hf)
      | true => exact walk_yes w W H A n c g hR hg q hr hk hf
end DeblockMost
namespace DeblockMost
set_option maxRecDepth 100000 in
theorem lifted (os : Os) (started : os.Started) (H : Type) (enc : TypeId × Value → H) :
    ReturnsInHanded {} Try.checked os 4 .any (Rows.deblockMostSpec.pre6 enc Try.prog Try.f4 Rows.deblockMostRow.domain false) (Rows.deblockMostSpec.post enc Try.prog Try.f4 false true false false) := by
  refine returnsInHanded_of_change (C := Try.checked) own started (by kernel_rfl) Try.func4
    (ChangeSpec.witness6 (enc := enc) (C := Try.checked) false ⟨#[], #[.agg #[.int .i64 0, .int .i64 0, .slice none 0 0], .int .i64 0], []⟩ 8 (by kernel_rfl) (by kernel_rfl) (by kernel_rfl) (by kernel_rfl)) ?_
  intro W base args ds gs before hval0 hW hcnd _
  have hval : ∀ (j : Nat) t v, Try.f4.params[j]? = some t → args[j]? = some v → Value.okWide Try.prog W .any base t v := hval0
  refine law_post (tb := 4) laidOut (by kernel_rfl) rfl Try.underlying4 rfl (fun ds' h => ?_) hW ?_
  · rw [Try.params4] at h
    match ds', h with
    | [d1, d2], _ => exact ⟨rfl, rfl, rfl⟩
  obtain ⟨p, q, hA0, hV, rfl, hfz, hnd⟩ := hW
  have hA : DataW.TrodAll enc Try.prog W 0 (fun _ => true) true Try.f4.params.toList args.toList ds p := hA0
  rw [Try.params4] at hA hval
  obtain ⟨v0, vs0, d0, ds0, p0, q0, hargs, rfl, rfl, h0, r0⟩ := trodAll_cons hA
  obtain ⟨v1, vs1, d1, ds1, p1, q1, rfl, rfl, rfl, h1, r1⟩ := trodAll_cons r0
  obtain ⟨rfl, rfl, rfl⟩ := trodAll_nil r1
  obtain rfl : args = #[v0, v1] := by cases args; simp_all
  obtain ⟨a0, b0, A0, n0, c0, g0, rfl, w0, x0, rr0, t0, l0, m0⟩ := open_plane Try.underlying29 (by kernel_rfl) ⟨rfl, rfl⟩ ⟨rfl, rfl⟩ ⟨rfl, rfl⟩ Try.underlying3 Try.underlying27 Try.underlying5 (by kernel_rfl) (by kernel_rfl) (by kernel_rfl) (hval 0 29 v0 rfl rfl) h0
  obtain ⟨a1, rfl, rfl, rfl, w1⟩ := open_int Try.underlying3 (hval 1 3 v1 rfl rfl) h1
  exact walk W a0 b0 A0 n0 c0 g0 w0 x0 rr0 t0 l0 m0 a1 (bounds_i64 w1)
theorem over : Rows.deblockMostRow.holds Try.pinned (OpenSpec.ofChange Rows.deblockMostSpec) :=
  OpenClaim.holds_of_wide 4 Try.f4 rfl rfl rfl rfl rfl rfl rfl ⟨rfl, rfl, rfl, rfl, rfl⟩ rfl rfl rfl rfl rfl (by kernel_rfl) Try.func4 (by kernel_rfl)
    (of_decide_eq_true (by kernel_rfl)) (by unfold Func.isWrapper; first | (rw [if_pos (by decide +kernel)]; kernel_rfl) | (rw [if_neg (by decide +kernel)]; exact ⟨rfl, rfl⟩))
    (fun os started H enc _ => lifted os started H enc)
end DeblockMost
theorem deblockMost_holds : Rows.DeblockMostSaid := DeblockMost.over

end Go.Proofs.Ytlkogokhcdehfaa
