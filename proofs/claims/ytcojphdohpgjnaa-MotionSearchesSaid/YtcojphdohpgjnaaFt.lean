/- law 06 Fits. -/
import Derived.Test.YtcojphdohpgjnaaRp0
namespace Go.Kin
open Go.RowKit in
theorem PlV.Ok.below {w w' : World} {p : PlV} (h : p.Ok w) (hb : Below w.heap.size w w') : p.Ok w' := ⟨h.ia, h.ib, h.rd.below hb, h.byt, h.le, h.cap⟩
end Go.Kin
namespace Go.Proofs.Ytcojphdohpgjnaa
open Go.RowKit Go.Kin

def fitB (n : Nat) : Bool := decide ((n : Int) ≤ 10000)
theorem fitB_le {n : Nat} (h : fitB n = true) : n ≤ 10000 := by simp [fitB] at h; omega
set_option maxHeartbeats 400000 in
theorem fits_any (a b : Int) (A : Option Addr) (n c : Nat) (w : World) :
    Calls Try.prog 13 #[.agg #[.int .i64 a, .int .i64 b, .slice A n c]] w fun e w' => e = .returned (.bool (fitB n)) ∧ Below w.heap.size w w' := by
  have H := Lib.hid (show fitB n = decide ((n : Int) ≤ 10000) from rfl)
  go_enter Try.func13, Try.ntmps13
  go_wp2
  go_ret
  exact ⟨ret_bool (by rw [H.out]), (Below.refl _ _).alloc (Nat.le_refl _) _⟩
end Go.Proofs.Ytcojphdohpgjnaa
