/- The walk of the document's own line of a plane (kinoraref11.one). -/
import Derived.Test.YtlkogokhcdehfaaRd1
import Derived.Test.YtlkogokhcdehfaaRp1
namespace Go.Proofs.Ytlkogokhcdehfaa
open Go.RowKit Go.Kin
set_option linter.unusedVariables false

theorem quiet_left {P : Program} {f : FuncId} {args : Array Value} {w : World} {n : Nat} {v : Value}
    (h : Calls P f args (w.drewN n) fun e w' => e = .returned v ∧ w.drewN n = w') : Calls P f args (w.drewN n) fun e w'' => e = .returned v ∧ ∃ m, w'' = w.drewN m :=
  h.mono fun _ _ ⟨he, hm⟩ => ⟨he, n, hm.symm⟩

set_option maxHeartbeats 1000000 in
theorem one_nat (W H : Int) (t st n c : Nat) (q : Int) (b : Nat) (g : Nat → Int) (w : World)
    (hR : Row w b n (by8 g)) (hg : Byt g) (h1 : 1 ≤ st) (h3 : t + 3 * st < n) (hn : n ≤ 16777216) (wq : -9223372036854775808 ≤ q ∧ q ≤ 9223372036854775807) :
    Calls Try.prog 56 #[.agg #[.int .i64 W, .int .i64 H, .slice (some ⟨b, 0, none⟩) n c], .int .i64 t, .int .i64 st, .int .i64 q] w
      fun e w' => e = .returned (.tuple #[]) ∧ Row w' b n (by8 (sm1 q (t + 2 * st) st g)) ∧ Oth b w w' := by
  have hb := hR.lt
  have HR := Lib.hid hR
  have hR1 := hR.alloc (.cells #[.int .i64 W, .int .i64 H, .slice (some ⟨b, 0, none⟩) n c] 29)
  have hB1 := Box.new w 29 #[.int .i64 W, .int .i64 H, .slice (some ⟨b, 0, none⟩) n c]
  have ho := (Oth.refl b w).alloc (.cells #[.int .i64 W, .int .i64 H, .slice (some ⟨b, 0, none⟩) n c] 29)
  clear hR
  go_enter Try.func56, Try.ntmps56
  go_wp2
  generalize hw1 : w.alloc (.cells #[.int .i64 W, .int .i64 H, .slice (some ⟨b, 0, none⟩) n c] 29) = w1 at *
  have HO := Lib.hid ho
  have HW := Lib.hid hw1
  clear hw1 ho
  have c1 := hR1.cell (i := t) (by omega)
  have c2 := hR1.cell (i := t + st) (by omega)
  have c3 := hR1.cell (i := t + 2 * st) (by omega)
  have c4 := hR1.cell (i := t + 3 * st) (by omega)
  simp only [by8] at c1 c2 c3 c4
  have f1 := hR1.frozen (t + st)
  have f2 := hR1.frozen (t + 2 * st)
  obtain ⟨d0, d1, d2⟩ := hB1.cell3
  have b1 := hg t
  have b2 := hg (t + st)
  have b3 := hg (t + 2 * st)
  have b4 := hg (t + 3 * st)
  have i2 : (t : Int) + st < n := by omega
  have i3 : (t : Int) + 2 * st < n := by omega
  have i4 : (t : Int) + 3 * st < n := by omega
  have i1 : (t : Int) < n := by omega
  have j2 : (0 : Int) ≤ (t : Int) + st := by omega
  have j3 : (0 : Int) ≤ (t : Int) + 2 * st := by omega
  have j4 : (0 : Int) ≤ (t : Int) + 3 * st := by omega
  have e2 : ((t : Int) + st).toNat = t + st := by omega
  have e3 : ((t : Int) + 2 * st).toNat = t + 2 * st := by omega
  have e4 : ((t : Int) + 3 * st).toNat = t + 3 * st := by omega
  have n1 : ¬ (t + 2 * st = t + st) := by omega
  have n2 : ¬ (t + st = t + 2 * st) := by omega
  have n3 : ¬ (w.heap.size = b) := by omega
  have HR1 := Lib.hid hR1
  have HB1 := Lib.hid hB1
  clear hR1 hB1
  have z2 : IntKind.i64.wrap ((t : Int) + st) = t + st := IntWalk.i64_in _ (by omega)
  have z3 : IntKind.i64.wrap ((t : Int) + 2 * st) = t + 2 * st := IntWalk.i64_in _ (by omega)
  have z4 : IntKind.i64.wrap ((t : Int) + 3 * st) = t + 3 * st := IntWalk.i64_in _ (by omega)
  have z5 : IntKind.i64.wrap (2 * (st : Int)) = 2 * st := IntWalk.i64_in _ (by omega)
  have z6 : IntKind.i64.wrap (3 * (st : Int)) = 3 * st := IntWalk.i64_in _ (by omega)
  go_quiet ((go_at_call 16; exact quiet_left (rline_any _ _ _ _ _ b1 b2 b3 b4 _ wq)))
  go_wp2
  go_end0
  have q1 : t + 2 * st - 2 * st = t := by omega
  have q2 : t + 2 * st - st = t + st := by omega
  have q3 : t + 2 * st + st = t + 3 * st := by omega
  refine ⟨rfl, (((HR1.out.drewN nq).set _ _).set _ _).congr ?_, ((HO.out.drewN nq).set _ _).set _ _⟩
  intro i _
  simp only [by8, sm1, q1, q2, q3]
  by_cases x1 : i = t + 2 * st
  · rw [if_pos x1, if_pos x1]
  · rw [if_neg x1, if_neg x1]
    by_cases x2 : i = t + st
    · rw [if_pos x2, if_pos x2]
    · rw [if_neg x2, if_neg x2]

theorem one_int (W H tI sI : Int) (p st n c : Nat) (q : Int) (b : Nat) (g : Nat → Int) (w : World) (et : tI = (p : Int) - 2 * st) (es : sI = st)
    (hR : Row w b n (by8 g)) (hg : Byt g) (h1 : 1 ≤ st) (h2 : 2 * st ≤ p) (h3 : p + st < n) (hn : n ≤ 16777216) (wq : -9223372036854775808 ≤ q ∧ q ≤ 9223372036854775807) :
    Calls Try.prog 56 #[.agg #[.int .i64 W, .int .i64 H, .slice (some ⟨b, 0, none⟩) n c], .int .i64 tI, .int .i64 sI, .int .i64 q] w
      fun e w' => e = .returned (.tuple #[]) ∧ Row w' b n (by8 (sm1 q p st g)) ∧ Oth b w w' := by
  have e1 : tI = ((p - 2 * st : Nat) : Int) := by omega
  subst e1 es
  have h := one_nat W H (p - 2 * st) st n c q b g w hR hg h1 (by omega) hn wq
  rw [show p - 2 * st + 2 * st = p by omega] at h
  exact h

end Go.Proofs.Ytlkogokhcdehfaa
