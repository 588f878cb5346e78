/- Walks of package intra: what look gives, each mode at a place, and the errors of Guess. -/
import Derived.Test.YtcojphdohpgjnaaIn4a
import Derived.Test.YtcojphdohpgjnaaIn4b
import Derived.Test.YtcojphdohpgjnaaIn4c
import Derived.Test.YtcojphdohpgjnaaIn4d
namespace Go.Kin
/-- A mode's sample of what is around, at (i, j) of the block. -/
def moV (n : Nat) (ab lf : Nat → Int) (co : Int) (mode i j : Nat) : Int := if mode = 0 then flS n ab lf n / (2 * n) else if mode = 1 then ab i else if mode = 2 then lf j else clip8 (ab i + lf j - co)
theorem moV_bd {n : Nat} {ab lf : Nat → Int} {co : Int} {mode i j : Nat} (h1 : 1 ≤ n) (ha : Byt ab) (hl : Byt lf) : 0 ≤ moV n ab lf co mode i j ∧ moV n ab lf co mode i j ≤ 255 := by
  unfold moV
  split
  · obtain ⟨f0, f1⟩ := flS_bd (n := n) ha hl n
    refine ⟨Int.ediv_nonneg (by omega) (by omega), ?_⟩
    have : flS n ab lf n / (2 * (n : Int)) < 256 := Int.ediv_lt_of_lt_mul (by omega) (by omega)
    omega
  · split
    · exact ha _
    · split
      · exact hl _
      · exact clip8_bd _
/-- The samples of a guess. -/
def gsP (W : Nat) (g : Nat → Int) (X Y n mode k : Nat) : Int := moV n (abP W g X Y n) (lfP W g X Y n) (coP W g X Y) mode (k % n) (k / n)
theorem gsP_byt {W : Nat} {g : Nat → Int} {X Y n mode : Nat} (h1 : 1 ≤ n) (hg : Byt g) : Byt (gsP W g X Y n mode) := fun _ => moV_bd h1 (abP_byt hg) (lfP_byt hg)
/-- A guess is asked for in the right way. -/
def gOk (W H x y n mode : Int) : Prop := (n = 4 ∨ n = 8) ∧ 0 ≤ x ∧ x ≤ W - n ∧ 0 ≤ y ∧ y ≤ H - n ∧ 0 ≤ mode ∧ mode < 4
instance (W H x y n mode : Int) : Decidable (gOk W H x y n mode) := by unfold gOk; infer_instance
end Go.Kin
namespace Go.Proofs.Ytcojphdohpgjnaa
open Go.RowKit Go.Kin
set_option linter.unusedVariables false

theorem look_yes (W H X Y n : Nat) (b off N c : Nat) (g : Nat → Int) (w : World) (hr : rightB W H N = true) (hS : Rd w (some ⟨b, off, none⟩) N (by8 g)) (hb : b < w.heap.size) (hnc : N ≤ c) (hc : c ≤ 9223372036854775807) (n1 : 1 ≤ n) (n8 : n ≤ 8) (hX : X + n ≤ W) (hY : Y + n ≤ H) :
    Calls Try.prog 34 #[.agg #[.int .i64 W, .int .i64 H, .slice (some ⟨b, off, none⟩) N c], .int .i64 X, .int .i64 Y, .int .i64 n] w (Around n (abP W g X Y n) (lfP W g X Y n) (coP W g X Y) w) := by
  rcases Nat.eq_zero_or_pos Y with y0 | y0
  · rcases Nat.eq_zero_or_pos X with x0 | x0
    · exact look_a W H X Y n b off N c g w hr hS hb hnc hc n1 n8 hX hY y0 x0
    · exact look_b W H X Y n b off N c g w hr hS hb hnc hc n1 n8 hX hY y0 x0
  · rcases Nat.eq_zero_or_pos X with x0 | x0
    · exact look_c W H X Y n b off N c g w hr hS hb hnc hc n1 n8 hX hY y0 x0
    · exact look_d W H X Y n b off N c g w hr hS hb hnc hc n1 n8 hX hY y0 x0
/-- The function of a mode. -/
def modeF (mode : Nat) : FuncId := if mode = 0 then 50 else if mode = 1 then 51 else if mode = 2 then 52 else 53
theorem mode_any (mode n : Nat) (ab lf : Nat → Int) (co : Int) (x y : Nat) (w : World) (n1 : 1 ≤ n) (n8 : n ≤ 8) (hx : x < n) (hy : y < n) (ha : Byt ab) (hl : Byt lf) (hc : 0 ≤ co ∧ co ≤ 255) :
    Calls Try.prog (modeF mode) #[.agg (arCells n ab lf co), .int .i64 x, .int .i64 y] w fun e w' => e = .returned (.int .u8 (moV n ab lf co mode x y)) ∧ Below w.heap.size w w' := by
  unfold modeF moV
  split
  · exact flat_any n ab lf co x y w n1 n8 ha hl
  · split
    · exact down_any n ab lf co x y w (by omega)
    · split
      · exact across_any n ab lf co x y w (by omega)
      · exact slope_any n ab lf co x y w (by omega) (by omega) ha hl hc
theorem run_body {P : Program} {f : FuncId} {fn : Func} (hf : P.funcs[f]? = some fn) (hname : (fn.name == "runtime.NumGoroutine") = false) (hb : fn.body.isNone = false) (args : Array Value) (w : World) : (callFunc f args).run P w = .ok (.enter f args) w := by
  have h1 : ¬ fn.name = "runtime.NumGoroutine" := by simpa using hname
  have h2 : ¬ fn.body = none := by intro h; simp [h] at hb
  simp [callFunc, go_sem, hf, h1, h2]
theorem mode_enter (mode : Nat) (args : Array Value) (w : World) : (callFunc (modeF mode) args).run Try.prog w = .ok (.enter (modeF mode) args) w := by
  unfold modeF
  split
  · exact run_body Try.func50 (by decide +kernel) rfl args w
  · split
    · exact run_body Try.func51 (by decide +kernel) rfl args w
    · split
      · exact run_body Try.func52 (by decide +kernel) rfl args w
      · exact run_body Try.func53 (by decide +kernel) rfl args w
/-- The four functions of the modes. -/
abbrev funs4 : Array Value := #[.func (.func 50) #[] #[], .func (.func 51) #[] #[], .func (.func 52) #[] #[], .func (.func 53) #[] #[]]
theorem funs4_at {mode : Nat} (h : mode < 4) : funs4[mode]? = some (.func (.func (modeF mode)) #[] #[]) := by
  match mode, h with
  | 0, _ => rfl
  | 1, _ => rfl
  | 2, _ => rfl
  | 3, _ => rfl
/-- No block, with an error. -/
def NoBlock (k : Int) (w : World) (e : Ending) (w' : World) : Prop := e = .returned (.tuple #[.slice none 0 0, .int .i64 k]) ∧ Below w.heap.size w w'
/-- A block, and no error. -/
def GivesB (N : Nat) (g : Nat → Int) (w : World) (e : Ending) (w' : World) : Prop := ∃ A c, e = .returned (.tuple #[.slice A N c, .int .i64 0]) ∧ Rd w' A N (by8 g) ∧ N ≤ c ∧ c ≤ 9223372036854775807 ∧ Below w.heap.size w w'
set_option maxHeartbeats 1000000 in
theorem guess_no (W H : Int) (A : Option Addr) (N c : Nat) (x y n mode : Int) (w : World) (hr : rightB W H N = false) :
    Calls Try.prog 15 #[.agg #[.int .i64 W, .int .i64 H, .slice A N c], .int .i64 x, .int .i64 y, .int .i64 n, .int .i64 mode] w (NoBlock 61 w) := by
  have K := Kn.start w
  go_enter Try.func15, Try.ntmps15
  go_wp2_with fail
  refine (right_any _ _ _ _ _ _).mono ?_
  rintro e w1 ⟨rfl, hb1⟩
  replace K := (K.new w.heap.size _ _ rfl).below hb1
  clear hb1
  replace kc0 := Box.cells K.1
  replace kl0 := Box.lt K.1
  replace L : Below _ _ _ := K.2.1
  go_wp2
  go_ret2
  exact ⟨rfl, L⟩
set_option maxHeartbeats 4000000 in
theorem guess_arg (W H : Int) (A : Option Addr) (N c : Nat) (x y n mode : Int) (w : World) (hr : rightB W H N = true) (hT : ¬ gOk W H x y n mode) :
    Calls Try.prog 15 #[.agg #[.int .i64 W, .int .i64 H, .slice A N c], .int .i64 x, .int .i64 y, .int .i64 n, .int .i64 mode] w (NoBlock 1 w) := by
  obtain ⟨r1, r2, r3, r4, r5⟩ := rightB_iff.1 hr
  clear r5
  unfold gOk at hT
  have HT := Lib.hid hT
  clear hT
  have K := Kn.start w
  go_enter Try.func15, Try.ntmps15
  go_wp2_with fail
  refine (right_any _ _ _ _ _ _).mono ?_
  rintro e w1 ⟨rfl, hb1⟩
  replace K := (K.new w.heap.size _ _ rfl).below hb1
  clear hb1
  replace kc0 := Box.cells K.1
  replace kl0 := Box.lt K.1
  replace L : Below _ _ _ := K.2.1
  go_wp2_with fail
  refine (modes_any _).mono ?_
  rintro e w2 ⟨rfl, hb2⟩
  replace K := K.below hb2
  clear hb2
  replace kc0 := Box.cells K.1
  replace kl0 := Box.lt K.1
  replace L : Below _ _ _ := K.2.1
  have HK := Lib.hid (K.new w2.heap.size #[.func (.func 50) #[] #[], .func (.func 51) #[] #[], .func (.func 52) #[] #[], .func (.func 53) #[] #[]] 57 rfl)
  clear K
  go_wp2_with fail
  all_goals first
    | (go_ret2; exact ⟨rfl, HK.out.2.2.1⟩)
    | (exfalso; have hh := HT.out; omega)
    | (exfalso; have hh := HT.out; simp only [bne_iff_ne, ne_eq, beq_iff_eq, bne_eq_false_iff_eq] at *; omega)
end Go.Proofs.Ytcojphdohpgjnaa
