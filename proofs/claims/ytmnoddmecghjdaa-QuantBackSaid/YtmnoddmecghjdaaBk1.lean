/- Walks of package book: topic, at, put, get. -/
import Derived.Test.YtmnoddmecghjdaaBk0
import Derived.Test.YtmnoddmecghjdaaShelf
import Derived.Test.YtmnoddmecghjdaaRg3M
import Derived.Deep.DeepCutAuto
set_option linter.unusedVariables false
namespace Go.Proofs.Ytmnoddmecghjdaa
open Go.RowKit Go.Kin
/-- Whether there is such a topic. -/
def topB (t : Int) : Bool := decide (0 ≤ t ∧ t < 16)
theorem topic_nil (t : Int) (w : World) : Calls Try.prog 59 #[.pointer none, .int .i64 t] w fun e w' => e = .returned (.pointer none) ∧ w = w' := by
  go_enter Try.func59, Try.ntmps59
  go_wp2
  go_ret
  exact ⟨rfl, rfl⟩
theorem topic_no (b : Nat) (t : Int) (w : World) (h : topB t = false) : Calls Try.prog 59 #[.pointer (some ⟨b, 0, none⟩), .int .i64 t] w fun e w' => e = .returned (.pointer none) ∧ w = w' := by
  have h' : t < 0 ∨ (¬ t < 0 ∧ 16 ≤ t) := by
    unfold topB at h
    have := of_decide_eq_false h
    omega
  clear h
  rcases h' with h1 | ⟨h1, h2⟩
  · go_enter Try.func59, Try.ntmps59
    go_wp2
    go_ret
    exact ⟨rfl, rfl⟩
  · go_enter Try.func59, Try.ntmps59
    go_wp2
    go_ret
    exact ⟨rfl, rfl⟩
theorem topic_yes (b t : Nat) (w : World) (h : t < 16) : Calls Try.prog 59 #[.pointer (some ⟨b, 0, none⟩), .int .i64 t] w fun e w' => e = .returned (.pointer (some ⟨b, 37 * t, none⟩)) ∧ w = w' := by
  have l1 : ¬ (t : Int) < 0 := by omega
  have l2 : ¬ 16 ≤ (t : Int) := by omega
  have l3 : (t : Int) < 16 := by omega
  have H := Lib.hid (show t * 37 = 37 * t by omega)
  go_enter Try.func59, Try.ntmps59
  go_wp2
  go_ret
  exact ⟨by first | rfl | (rw [← H.out]; rfl), rfl⟩
theorem at_any (b base i a : Nat) (w : World) (hi : i < 4) (ha : a < 2 ^ i) : Calls Try.prog 92 #[.pointer (some ⟨b, base, none⟩), .int .i64 i, .int .i64 a] w fun e w' => e = .returned (.pointer (some ⟨b, base + 20 + (2 ^ i - 1 + a), none⟩)) ∧ Below w.heap.size w w' := by
  match i, hi with
  | 0, _ =>
    obtain rfl : a = 0 := by simpa using ha
    go_enter Try.func92, Try.ntmps92
    go_wp2
    go_quiet (fail)
    go_wp2
    go_ret
    exact ⟨rfl, below_drewN (Below.refl _ _) _⟩
  | 1, _ =>
    have a1 : (a : Int) < 2 := by omega
    have a2 : (1 : Int) + a < 16 := by omega
    have a3 : ((1 : Int) + a).toNat = 1 + a := by omega
    have a4 : (0 : Int) ≤ (1 : Int) + a := by omega
    have z1 : IntKind.i64.wrap ((1 : Int) + a) = 1 + a := IntWalk.i64_in _ (by omega)
    go_enter Try.func92, Try.ntmps92
    go_wp2
    go_quiet (fail)
    clear z1
    go_wp2
    go_ret
    exact ⟨rfl, below_drewN (Below.refl _ _) _⟩
  | 2, _ =>
    have a1 : (a : Int) < 4 := by omega
    have a2 : (3 : Int) + a < 16 := by omega
    have a3 : ((3 : Int) + a).toNat = 3 + a := by omega
    have a4 : (0 : Int) ≤ (3 : Int) + a := by omega
    have z1 : IntKind.i64.wrap ((3 : Int) + a) = 3 + a := IntWalk.i64_in _ (by omega)
    go_enter Try.func92, Try.ntmps92
    go_wp2
    go_quiet (fail)
    clear z1
    go_wp2
    go_ret
    exact ⟨rfl, below_drewN (Below.refl _ _) _⟩
  | 3, _ =>
    have a1 : (a : Int) < 8 := by omega
    have a2 : (7 : Int) + a < 16 := by omega
    have a3 : ((7 : Int) + a).toNat = 7 + a := by omega
    have a4 : (0 : Int) ≤ (7 : Int) + a := by omega
    have z1 : IntKind.i64.wrap ((7 : Int) + a) = 7 + a := IntWalk.i64_in _ (by omega)
    go_enter Try.func92, Try.ntmps92
    go_wp2
    go_quiet (fail)
    clear z1
    go_wp2
    go_ret
    exact ⟨rfl, below_drewN (Below.refl _ _) _⟩
theorem putE_ok {c bit : Int} (hc : 31 ≤ c ∧ c ≤ 2017) (hb : bit = 0 ∨ bit = 1) : putE c bit = 0 := by unfold putE; rw [if_pos ⟨chB_iff.2 hc, hb⟩]
section
variable {w : World} {col : Nat → Nat} {i x b n k : Nat} {s : St} {f : Nat → Value} {c bit : Int}
set_option maxHeartbeats 1000000 in
theorem bput_cell (hE : EncS w col i x s) (hL : s.L ≤ 900000) (hB : Box w b (mkR n f)) (hk : k < n) (hf : f k = .int .u16 c) (hcb : col b ≠ i) (hc : 31 ≤ c ∧ c ≤ 2017) (hbit : bit = 0 ∨ bit = 1) :
    Calls Try.prog 72 #[.pointer (some ⟨x, 0, none⟩), .pointer (some ⟨b, k, none⟩), .int .i64 bit] w fun e w' => ∃ w1, e = .returned (.int .i64 0) ∧ Upd col i w w1 ∧ EncS w1 (recol col w i) i x (s.putI c bit) ∧ Box w1 b (mkR n f) ∧ w' = w1.setCell ⟨b, k, none⟩ (.int .u16 (nextP c bit)) := by
  have hkc := ((Box.cell hB k).trans (mkR_at hk)).trans (congrArg some hf)
  have HE := Lib.hid (putE_ok hc hbit)
  have HB := Lib.hid hB
  have HF := Lib.hid hf
  have HBIT := Lib.hid hbit
  clear hf hbit hB
  go_enter Try.func72, Try.ntmps72
  go_wp2_with fail
  refine (put_s hE hL c bit (by omega)).mono ?_
  rintro e w1 ⟨rfl, hu, hE1⟩
  rw [HE.out]
  have hB1 : Box w1 b (mkR n f) := Box.same HB.out (hu.block b (Box.lt HB.out) hcb)
  have HU := Lib.hid hu
  have HE1 := Lib.hid hE1
  have HB1 := Lib.hid hB1
  have hk1 := ((Box.cell hB1 k).trans (mkR_at hk)).trans (congrArg some HF.out)
  have kl := Box.lt hB1
  have kf := Box.frozen hB1 k
  clear hu hE1 hB1 hkc
  go_wp2_with fail
  refine (next_any c bit _ (by omega)).mono ?_
  rintro e w' ⟨rfl, rfl⟩
  go_wp2
  go_ret
  exact ⟨w1, rfl, HU.out, HE1.out, HB1.out, rfl⟩
end
section
variable {w : World} {col : Nat → Nat} {i x b n k m : Nat} {d : DS} {g : Nat → Int} {f : Nat → Value} {c : Int}
/-- What get answers: the bit, its error; the decoder behind; the chance, if there is no error. -/
def GetC (w : World) (col : Nat → Nat) (i x m : Nat) (g : Nat → Int) (b n k : Nat) (f : Nat → Value) (c : Int) (r : Int × Int × DS) (e : Ending) (w' : World) : Prop :=
  ∃ w1, e = .returned (.tuple #[.int .i64 r.1, .int .i64 r.2.1]) ∧ Upd col i w w1 ∧ DecS w1 (recol col w i) i x m g r.2.2 ∧ Box w1 b (mkR n f) ∧ w' = (if r.2.1 = 0 then w1.setCell ⟨b, k, none⟩ (.int .u16 (nextP c r.1)) else w1)
set_option maxHeartbeats 1000000 in
theorem bget_cell (hE : DecS w col i x m g d) (hg : Byt g) (hB : Box w b (mkR n f)) (hk : k < n) (hf : f k = .int .u16 c) (hcb : col b ≠ i) (hc : 31 ≤ c ∧ c ≤ 2017) :
    Calls Try.prog 82 #[.pointer (some ⟨x, 0, none⟩), .pointer (some ⟨b, k, none⟩)] w (GetC w col i x m g b n k f c (d.get g m c)) := by
  have hkc := ((Box.cell hB k).trans (mkR_at hk)).trans (congrArg some hf)
  have herr := DS.get_err g m d hc
  have HB := Lib.hid hB
  have HF := Lib.hid hf
  clear hf hB
  go_enter Try.func82, Try.ntmps82
  go_wp2_with fail
  refine (get_s hE hg c (by omega)).mono ?_
  rintro e w1 ⟨rfl, hu, hE1⟩
  have hB1 : Box w1 b (mkR n f) := Box.same HB.out (hu.block b (Box.lt HB.out) hcb)
  have HU := Lib.hid hu
  have HE1 := Lib.hid hE1
  have HB1 := Lib.hid hB1
  have hk1 := ((Box.cell hB1 k).trans (mkR_at hk)).trans (congrArg some HF.out)
  have kl := Box.lt hB1
  have kf := Box.frozen hB1 k
  clear hu hE1 hB1 hkc
  generalize hr : d.get g m c = r at *
  obtain ⟨r1, r2, r3⟩ := r
  dsimp only at *
  clear hr
  rcases herr with rfl | rfl
  · go_wp2_with fail
    refine (next_any c r1 _ (by omega)).mono ?_
    rintro e w' ⟨rfl, rfl⟩
    go_wp2
    go_ret2
    exact ⟨w1, rfl, HU.out, HE1.out, HB1.out, rfl⟩
  · go_wp2
    go_ret2
    exact ⟨w1, rfl, HU.out, HE1.out, HB1.out, rfl⟩
end
end Go.Proofs.Ytmnoddmecghjdaa
