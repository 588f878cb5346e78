/- What a call answers that gives a plane or a frame and an error: the values, and the samples read. -/
import Derived.Test.YtlkogokhcdehfaaFr1
import Derived.Test.YtlkogokhcdehfaaKn
namespace Go.Proofs.Ytlkogokhcdehfaa
open Go.RowKit Go.Kin
set_option linter.unusedVariables false

/-- A plane and an error, its samples read. -/
def GivesP (p : PlV) (k : Int) (w : World) (e : Ending) (w' : World) : Prop :=
  ∃ A c, e = .returned (.tuple #[.agg #[.int .i64 p.a, .int .i64 p.b, .slice A p.n c], .int .i64 k]) ∧ Rd w' A p.n (by8 p.g) ∧ p.n ≤ c ∧ c ≤ 9223372036854775807 ∧ Below w.heap.size w w'
/-- A frame and an error, its samples read. -/
def GivesF (y u x : PlV) (k : Int) (w : World) (e : Ending) (w' : World) : Prop :=
  ∃ A1 c1 A2 c2 A3 c3, e = .returned (.tuple #[.agg #[.int .i64 y.a, .int .i64 y.b, .slice A1 y.n c1, .int .i64 u.a, .int .i64 u.b, .slice A2 u.n c2, .int .i64 x.a, .int .i64 x.b, .slice A3 x.n c3], .int .i64 k]) ∧
    Rd w' A1 y.n (by8 y.g) ∧ Rd w' A2 u.n (by8 u.g) ∧ Rd w' A3 x.n (by8 x.g) ∧ Below w.heap.size w w'
def noP : PlV := ⟨0, 0, none, 0, 0, fun _ => 0⟩
theorem noP_byt : Byt noP.g := fun _ => by simp [noP]
theorem GivesP.no {k : Int} {w : World} {e : Ending} {w' : World} (h : NoPlane k w e w') : GivesP noP k w e w' := ⟨none, 0, h.1, Rd.none_ _ _ _, Nat.le_refl _, by omega, h.2⟩
theorem GivesP.made {a b : Int} {N : Nat} {g : Nat → Int} {w : World} {e : Ending} {w' : World} (hN : N ≤ 9223372036854775807) (h : MadePlane a b N g w e w') : GivesP ⟨a, b, none, N, 0, g⟩ 0 w e w' := by
  obtain ⟨br, he, _, hr, hb⟩ := h
  exact ⟨_, _, he, hr.rd, Nat.le_refl _, hN, hb⟩
abbrev zero9 : Array Value := #[.int .i64 0, .int .i64 0, .slice none 0 0, .int .i64 0, .int .i64 0, .slice none 0 0, .int .i64 0, .int .i64 0, .slice none 0 0]
theorem GivesF.no {k : Int} {w : World} {e : Ending} {w' : World} (h : e = .returned (.tuple #[.agg zero9, .int .i64 k]) ∧ Below w.heap.size w w') : GivesF noP noP noP k w e w' :=
  ⟨none, 0, none, 0, none, 0, h.1, Rd.none_ _ _ _, Rd.none_ _ _ _, Rd.none_ _ _ _, h.2⟩
theorem samePB_refl (a b : Int) (n : Nat) (g : Nat → Int) : samePB a b n g a b n g = true := by simp [samePB]
theorem sameP_yes (a b : Int) (A A' : Option Addr) (n c d : Nat) (g : Nat → Int) (w : World) (hR : Rd w A n (by8 g)) (hR' : Rd w A' n (by8 g)) :
    Calls Try.prog 28 #[.agg #[.int .i64 a, .int .i64 b, .slice A n c], .agg #[.int .i64 a, .int .i64 b, .slice A' n d]] w fun e w' => e = .returned (.bool true) ∧ Below w.heap.size w w' :=
  (sameP_any a b a b A A' n c n d g g w hR hR').mono fun e w' ⟨he, hb⟩ => ⟨by rw [he, samePB_refl], hb⟩
theorem sameF_yes (y u x : PlV) (A B C A' B' C' : Option Addr) (c d e c' d' e' : Nat) (w : World) (h1 : Rd w A y.n (by8 y.g)) (h2 : Rd w B u.n (by8 u.g)) (h3 : Rd w C x.n (by8 x.g)) (h4 : Rd w A' y.n (by8 y.g)) (h5 : Rd w B' u.n (by8 u.g)) (h6 : Rd w C' x.n (by8 x.g)) :
    Calls Try.prog 29 #[.agg #[.int .i64 y.a, .int .i64 y.b, .slice A y.n c, .int .i64 u.a, .int .i64 u.b, .slice B u.n d, .int .i64 x.a, .int .i64 x.b, .slice C x.n e], .agg #[.int .i64 y.a, .int .i64 y.b, .slice A' y.n c', .int .i64 u.a, .int .i64 u.b, .slice B' u.n d', .int .i64 x.a, .int .i64 x.b, .slice C' x.n e']] w
      fun e w' => e = .returned (.bool true) ∧ Below w.heap.size w w' :=
  (sameF_any ⟨y.a, y.b, A, y.n, c, y.g⟩ ⟨u.a, u.b, B, u.n, d, u.g⟩ ⟨x.a, x.b, C, x.n, e, x.g⟩ ⟨y.a, y.b, A', y.n, c', y.g⟩ ⟨u.a, u.b, B', u.n, d', u.g⟩ ⟨x.a, x.b, C', x.n, e', x.g⟩ w h1 h2 h3 h4 h5 h6).mono fun e w' ⟨he, hb⟩ => ⟨by rw [he]; simp [sameFB, samePB_refl], hb⟩
end Go.Proofs.Ytlkogokhcdehfaa
