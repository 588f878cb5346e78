/- Both Guess, and both Choose, give the same. -/
import Derived.Test.YtcojphdohpgjnaaIn14
namespace Go.Proofs.Ytcojphdohpgjnaa
open Go.RowKit Go.Kin
set_option linter.unusedVariables false
/-- A block and an error number. -/
def GivesR (N : Nat) (g : Nat → Int) (k : Int) (w : World) (e : Ending) (w' : World) : Prop := ∃ A c, e = .returned (.tuple #[.slice A N c, .int .i64 k]) ∧ Rd w' A N (by8 g) ∧ N ≤ c ∧ c ≤ 9223372036854775807 ∧ Below w.heap.size w w'
theorem GivesR.no {k : Int} {w w' : World} {e : Ending} (h : NoBlock k w e w') : GivesR 0 (fun _ => 0) k w e w' := ⟨none, 0, h.1, Rd.none_ _ _ _, by omega, by omega, h.2⟩
theorem GivesR.yes {N : Nat} {g : Nat → Int} {w w' : World} {e : Ending} (h : GivesB N g w e w') : GivesR N g 0 w e w' := h
/-- A mode, a block and an error number. -/
def GivesQ (m : Int) (N : Nat) (g : Nat → Int) (k : Int) (w : World) (e : Ending) (w' : World) : Prop := ∃ A c, e = .returned (.tuple #[.int .i64 m, .slice A N c, .int .i64 k]) ∧ Rd w' A N (by8 g) ∧ N ≤ c ∧ c ≤ 9223372036854775807 ∧ Below w.heap.size w w'
theorem GivesQ.no {k : Int} {w w' : World} {e : Ending} (h : NoMode k w e w') : GivesQ 0 0 (fun _ => 0) k w e w' := ⟨none, 0, h.1, Rd.none_ _ _ _, by omega, by omega, h.2⟩
theorem GivesQ.yes {m N : Nat} {g : Nat → Int} {w w' : World} {e : Ending} (h : GivesM m N g w e w') : GivesQ m N g 0 w e w' := h
/-- A guess that is asked for in the right way, in numbers. -/
theorem gOk_nat {W H x y n mode : Int} (h : gOk W H x y n mode) : ∃ X Y n' mode' : Nat, x = X ∧ y = Y ∧ n = n' ∧ mode = mode' ∧ (n' = 4 ∨ n' = 8) ∧ (X : Int) + n' ≤ W ∧ (Y : Int) + n' ≤ H ∧ mode' < 4 := by
  unfold gOk at h
  exact ⟨x.toNat, y.toNat, n.toNat, mode.toNat, by omega, by omega, by omega, by omega, by omega, by omega, by omega, by omega⟩
theorem guess_both (p : PlV) (x y n mode : Int) (w : World) (hp : p.Ok w) : ∃ N gg k,
    (∀ w1, Below w.heap.size w w1 → Calls Try.prog 15 #[.agg #[.int .i64 p.a, .int .i64 p.b, .slice p.A p.n p.c], .int .i64 x, .int .i64 y, .int .i64 n, .int .i64 mode] w1 (GivesR N gg k w1)) ∧
    (∀ w1, Below w.heap.size w w1 → Calls Try.prog 16 #[.agg #[.int .i64 p.a, .int .i64 p.b, .slice p.A p.n p.c], .int .i64 x, .int .i64 y, .int .i64 n, .int .i64 mode] w1 (GivesR N gg k w1)) := by
  obtain ⟨a, b, A, N, c, g⟩ := p
  obtain ⟨ia, ib, hR, hg, hnc, hc⟩ := hp
  dsimp only at *
  cases hr : rightB a b N with
  | false => exact ⟨0, fun _ => 0, 61, fun w1 _ => (guess_no _ _ _ _ _ _ _ _ _ _ hr).mono fun _ _ h => .no h, fun w1 _ => (rguess_no _ _ _ _ _ _ _ _ _ _ hr).mono fun _ _ h => .no h⟩
  | true =>
    by_cases hT : gOk a b x y n mode
    · obtain ⟨r1, r2, r3, r4, r5⟩ := rightB_iff.1 hr
      obtain ⟨X, Y, n, mode, rfl, rfl, rfl, rfl, hn, hX, hY, hm⟩ := gOk_nat hT
      obtain ⟨W, rfl⟩ := Int.eq_ofNat_of_zero_le (show 0 ≤ a by omega)
      obtain ⟨H, rfl⟩ := Int.eq_ofNat_of_zero_le (show 0 ≤ b by omega)
      obtain ⟨bb, off, rfl, hb, _⟩ := hR.some_ (rightB_pos hr)
      exact ⟨n * n, gsP W g X Y n mode, 0, fun w1 h => (guess_yes W H X Y n mode bb off N c g w1 hr (hR.below h) (by have := h.size; omega) hnc hc hn (by omega) (by omega) hm hg).mono fun _ _ h => .yes h,
        fun w1 h => (rguess_yes W H X Y n mode _ N c g w1 hr (hR.below h) hn (by omega) (by omega) hm hg).mono fun _ _ h => .yes h⟩
    · exact ⟨0, fun _ => 0, 1, fun w1 _ => (guess_arg _ _ _ _ _ _ _ _ _ _ hr hT).mono fun _ _ h => .no h, fun w1 _ => (rguess_arg _ _ _ _ _ _ _ _ _ _ hr hT).mono fun _ _ h => .no h⟩
theorem choose_both (p : PlV) (x y n : Int) (B : Option Addr) (m d : Nat) (h : Nat → Int) (w : World) (hp : p.Ok w) (hB : Rd w B m (by8 h)) (hh : Byt h) : ∃ md N gg k,
    (∀ w1, Below w.heap.size w w1 → Calls Try.prog 17 #[.agg #[.int .i64 p.a, .int .i64 p.b, .slice p.A p.n p.c], .int .i64 x, .int .i64 y, .int .i64 n, .slice B m d] w1 (GivesQ md N gg k w1)) ∧
    (∀ w1, Below w.heap.size w w1 → Calls Try.prog 18 #[.agg #[.int .i64 p.a, .int .i64 p.b, .slice p.A p.n p.c], .int .i64 x, .int .i64 y, .int .i64 n, .slice B m d] w1 (GivesQ md N gg k w1)) := by
  obtain ⟨a, b, A, N, c, g⟩ := p
  obtain ⟨ia, ib, hR, hg, hnc, hc⟩ := hp
  dsimp only at *
  cases hr : rightB a b N with
  | false => exact ⟨0, 0, fun _ => 0, 61, fun w1 _ => (choose_err (.int .i64 0) _ _ _ _ _ _ _ _ _ _ _ _ _ rfl fun w => guess_no _ _ _ _ _ _ _ _ _ _ hr).mono fun _ _ h => .no h, fun w1 _ => (rchoose_err _ _ _ _ _ _ _ _ _ _ _ _ _ rfl fun w => rguess_no _ _ _ _ _ _ _ _ _ _ hr).mono fun _ _ h => .no h⟩
  | true =>
    by_cases hT : gOk a b x y n 0
    · obtain ⟨r1, r2, r3, r4, r5⟩ := rightB_iff.1 hr
      obtain ⟨X, Y, n, mode, rfl, rfl, rfl, _, hn, hX, hY, hm⟩ := gOk_nat hT
      obtain ⟨W, rfl⟩ := Int.eq_ofNat_of_zero_le (show 0 ≤ a by omega)
      obtain ⟨H, rfl⟩ := Int.eq_ofNat_of_zero_le (show 0 ≤ b by omega)
      obtain ⟨bb, off, rfl, hb, _⟩ := hR.some_ (rightB_pos hr)
      by_cases hmn : m = n * n
      · exact ⟨_, m, _, 0, fun w1 hw => (choose_yes W H X Y n bb off N c g B m d h w1 hr (hR.below hw) (by have := hw.size; omega) hnc hc hn (by omega) (by omega) hg (hB.below hw) hh hmn).mono fun _ _ h => .yes h,
          fun w1 hw => (rchoose_yes W H X Y n _ N c g B m d h w1 hr (hR.below hw) hn (by omega) (by omega) hg (hB.below hw) hh hmn).mono fun _ _ h => .yes h⟩
      · exact ⟨0, 0, fun _ => 0, 1, fun w1 hw => (choose_len W H X Y n bb off N c g B m d w1 hr (hR.below hw) (by have := hw.size; omega) hnc hc hn (by omega) (by omega) hg (neN_of hmn)).mono fun _ _ h => .no h,
          fun w1 hw => (rchoose_len W H X Y n _ N c g B m d w1 hr (hR.below hw) hn (by omega) (by omega) hg (neN_of hmn)).mono fun _ _ h => .no h⟩
    · exact ⟨0, 0, fun _ => 0, 1, fun w1 _ => (choose_err (.int .i64 0) _ _ _ _ _ _ _ _ _ _ _ _ _ rfl fun w => guess_arg _ _ _ _ _ _ _ _ _ _ hr hT).mono fun _ _ h => .no h, fun w1 _ => (rchoose_err _ _ _ _ _ _ _ _ _ _ _ _ _ rfl fun w => rguess_arg _ _ _ _ _ _ _ _ _ _ hr hT).mono fun _ _ h => .no h⟩
end Go.Proofs.Ytcojphdohpgjnaa
