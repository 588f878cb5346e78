/- Coarse and Fine of package quant. -/
import Derived.Test.YtmnoddmecghjdaaQu2
set_option linter.unusedVariables false
namespace Go.Kin
open Go.RowKit
theorem chkB_no {n : Nat} {g : Nat → Int} {q : Int} (d : Int → Int → Int) (h : blkB n g q = false) : chkB n g q d = false := by unfold chkB; rw [h]; rfl
end Go.Kin
namespace Go.Proofs.Ytmnoddmecghjdaa
open Go.RowKit Go.Kin
theorem q_body {P : Program} {f : FuncId} {fn : Func} (hf : P.funcs[f]? = some fn) (hname : (fn.name == "runtime.NumGoroutine") = false) (hb : fn.body.isNone = false) (args : Array Value) (w : World) : (callFunc f args).run P w = .ok (.enter f args) w := by
  have h1 : ¬ fn.name = "runtime.NumGoroutine" := by simpa using hname
  have h2 : ¬ fn.body = none := by intro h; simp [h] at hb
  simp [callFunc, go_sem, hf, h1, h2]
theorem blkB_nat {n : Nat} {g : Nat → Int} {q : Int} (h : blkB n g q = true) : ∃ u : Nat, q = u ∧ u ≤ 31 := by
  unfold blkB at h
  rw [Bool.and_eq_true] at h
  have := of_decide_eq_true h.2
  exact ⟨q.toNat, by omega, by omega⟩
theorem qcoarse_any (A : Option Addr) (n c : Nat) (q : Int) (g : Nat → Int) (w : World) (hR : Rd w A n (in64 g)) :
    Calls Try.prog 43 #[.slice A n c, .int .i64 q] w (GivesO n (dov n q.toNat g levI) (chkB n g q levI) w) := by
  cases hb : blkB n g q
  · have HF := Lib.hid (chkB_no levI hb)
    have HE := Lib.hid (qeach_no A n c q g (.func (.func 40) #[] #[]) w hR hb)
    rw [HF.out]
    clear hb
    go_enter Try.func43, Try.ntmps43
    go_wp2_with fail
    refine HE.out.mono ?_
    rintro e w' ⟨rfl, hb⟩
    go_wp2
    go_ret2
    exact GivesO.no rfl hb
  · obtain ⟨u, rfl, hu⟩ := blkB_nat hb
    rw [Int.toNat_natCast]
    have HE := Lib.hid (qeach_yes (F := 40) (d := levI) A n c u g w hR hb (q_body Try.func40 (by decide +kernel) rfl) (fun v s w hv hs => lev_any v s w (by omega) (by omega)))
    unfold GivesO at HE ⊢
    generalize (if chkB n g u levI = true then n else 0) = mm at *
    generalize (if chkB n g u levI = true then (0 : Int) else 1) = kk at *
    go_enter Try.func43, Try.ntmps43
    go_wp2_with fail
    refine HE.out.mono ?_
    rintro e w' ⟨A', c', rfl, h1, h2, h3, h4, h5⟩
    go_wp2
    go_ret2
    exact ⟨A', c', rfl, h1, h2, h3, h4, h5⟩
theorem qfine_any (A : Option Addr) (n c : Nat) (q : Int) (g : Nat → Int) (w : World) (hR : Rd w A n (in64 g)) :
    Calls Try.prog 45 #[.slice A n c, .int .i64 q] w (GivesO n (dov n q.toNat g fun v s => v * s) (chkB n g q fun v s => v * s) w) := by
  cases hb : blkB n g q
  · have HF := Lib.hid (chkB_no (fun v s => v * s) hb)
    have HE := Lib.hid (qeach_no A n c q g (.func (.func 42) #[] #[]) w hR hb)
    rw [HF.out]
    clear hb
    go_enter Try.func45, Try.ntmps45
    go_wp2_with fail
    refine HE.out.mono ?_
    rintro e w' ⟨rfl, hb⟩
    go_wp2
    go_ret2
    exact GivesO.no rfl hb
  · obtain ⟨u, rfl, hu⟩ := blkB_nat hb
    rw [Int.toNat_natCast]
    have HE := Lib.hid (qeach_yes (F := 42) (d := fun v s => v * s) A n c u g w hR hb (q_body Try.func42 (by decide +kernel) rfl) (fun v s w hv hs => by
      have := val_any v s w
      rw [if_neg (by omega), IntWalk.wrap64_in] at this
      · exact this
      · obtain ⟨a, rfl⟩ := Int.eq_ofNat_of_zero_le (show 0 ≤ s by omega)
        have l1 : v * a ≤ 67108864 * a := Int.mul_le_mul_of_nonneg_right hv.2 (by omega)
        have l2 : -67108864 * (a : Int) ≤ v * a := Int.mul_le_mul_of_nonneg_right hv.1 (by omega)
        omega))
    unfold GivesO at HE ⊢
    generalize (if chkB n g u (fun v s => v * s) = true then n else 0) = mm at *
    generalize (if chkB n g u (fun v s => v * s) = true then (0 : Int) else 1) = kk at *
    generalize dov n u g (fun v s => v * s) = dd at *
    go_enter Try.func45, Try.ntmps45
    go_wp2_with fail
    refine HE.out.mono ?_
    rintro e w' ⟨A', c', rfl, h1, h2, h3, h4, h5⟩
    go_wp2
    go_ret2
    exact ⟨A', c', rfl, h1, h2, h3, h4, h5⟩
end Go.Proofs.Ytmnoddmecghjdaa
