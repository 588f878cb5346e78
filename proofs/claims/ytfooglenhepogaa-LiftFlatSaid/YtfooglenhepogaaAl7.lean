/- Layer 7: what each function answers, for any block; the law's own live question is answered with yes. -/
import Derived.Test.YtfooglenhepogaaLf7
import Derived.Test.YtfooglenhepogaaLf11
import Derived.Test.YtfooglenhepogaaLf12
namespace Go.Kin
open Go.RowKit
def okN (b : Bool) (n : Nat) : Nat := if b then n else 0
def okK (b : Bool) : Int := if b then 0 else 1
/-- A block's transform, that of either side. -/
def fwV (n : Nat) (g : Nat → Int) : Nat → Int := if n = 16 then byCol 4 (lin false 2) (byRow 4 (lin false 2) g) else byCol 8 (lin false 3) (byRow 8 (lin false 3) g)
def bkV (n : Nat) (g : Nat → Int) : Nat → Int := if n = 16 then byRow 4 (lin true 2) (byCol 4 (lin true 2) g) else byRow 8 (lin true 3) (byCol 8 (lin true 3) g)
theorem sideN_iff {n : Nat} : sideN n ≠ 0 ↔ n = 16 ∨ n = 64 := by
  unfold sideN
  by_cases h1 : n = 16
  · simp [h1]
  · by_cases h2 : n = 64 <;> simp [h1, h2]
theorem GivesIE.no {w : World} {n : Nat} {f f' : Nat → Int} {k : Int} {e : Ending} {w' : World} (h : GivesIE 0 f k w e w') (hn : n = 0) : GivesIE n f' k w e w' := by
  obtain ⟨A, c, h1, _, h3, h4, h5, h6⟩ := h
  subst hn
  exact ⟨A, c, h1, Rd.none_ _ _ _, h3, h4, h5, h6⟩
end Go.Kin
namespace Go.Proofs.Ytfooglenhepogaa
open Go.RowKit Go.Kin
set_option linter.unusedVariables false
theorem okB_iff {M : Int} {n : Nat} {g : Nat → Int} : okB M n g = true ↔ (n = 16 ∨ n = 64) ∧ Wi M n g := by
  unfold okB
  rw [Bool.and_eq_true, decide_eq_true_iff, wiB_iff, sideN_iff]
section
variable (A : Option Addr) (n c : Nat) (g : Nat → Int) (w : World)
theorem lforward_any (hA : Rd w A n (in64 g)) : Calls Try.prog 31 #[.slice A n c] w (GivesIE (okN (okB 1048576 n g) n) (fwV n g) (okK (okB 1048576 n g)) w) := by
  cases h : okB 1048576 n g
  · exact (forward_no A n c g w hA h).mono fun _ _ h => h.no rfl
  · obtain ⟨hn, hw⟩ := okB_iff.1 h
    unfold fwV
    rcases hn with rfl | rfl
    · exact forward_4 A c g w hA hw
    · exact forward_8 A c g w hA hw
theorem lback_any (hA : Rd w A n (in64 g)) : Calls Try.prog 33 #[.slice A n c] w (GivesIE (okN (okB 67108864 n g) n) (bkV n g) (okK (okB 67108864 n g)) w) := by
  cases h : okB 67108864 n g
  · exact (back_no A n c g w hA h).mono fun _ _ h => h.no rfl
  · obtain ⟨hn, hw⟩ := okB_iff.1 h
    unfold bkV
    rcases hn with rfl | rfl
    · exact back_4 A c g w hA hw
    · exact back_8 A c g w hA hw
theorem rforward_any (hA : Rd w A n (in64 g)) (hn : n ≤ 10000) (hc : n ≤ c) (hc2 : c ≤ 9223372036854775807) : Calls Try.prog 32 #[.slice A n c] w (GivesIE (okN (okB 1048576 n g) n) (fwV n g) (okK (okB 1048576 n g)) w) := by
  cases h : okB 1048576 n g
  · exact (rforward_no A n c g w hA hn h).mono fun _ _ h => h.no rfl
  · obtain ⟨hn, hw⟩ := okB_iff.1 h
    unfold fwV
    rcases hn with rfl | rfl
    · exact rforward_4 A c g w hA hw hc hc2
    · exact rforward_8 A c g w hA hw hc hc2
theorem rback_any (hA : Rd w A n (in64 g)) (hn : n ≤ 10000) (hc : n ≤ c) (hc2 : c ≤ 9223372036854775807) : Calls Try.prog 34 #[.slice A n c] w (GivesIE (okN (okB 67108864 n g) n) (bkV n g) (okK (okB 67108864 n g)) w) := by
  cases h : okB 67108864 n g
  · exact (rback_no A n c g w hA hn h).mono fun _ _ h => h.no rfl
  · obtain ⟨hn, hw⟩ := okB_iff.1 h
    unfold bkV
    rcases hn with rfl | rfl
    · exact rback_4 A c g w hA hw hc hc2
    · exact rback_8 A c g w hA hw hc hc2
end
/-- The block of the live question. -/
def alB (i : Nat) : Int := if i = 0 then 5 else 0
theorem al_wi : Wi 1048576 16 alB := fun i _ => by unfold alB; split <;> omega
theorem al_ok : okB 1048576 16 alB = true := okB_iff.2 ⟨.inl rfl, al_wi⟩
theorem al_x : fwV 16 alB 0 = 0 ∧ fwV 16 alB 2 = 1 ∧ fwV 16 alB 10 = 5 := by decide +kernel
theorem al_w2 : ∀ i, i < 16 → -67108864 ≤ fwV 16 alB i ∧ fwV 16 alB i ≤ 67108864 := by decide +kernel
theorem al_y : ∀ i, i < 16 → bkV 16 (fwV 16 alB) i = alB i := by decide +kernel
theorem al_z : zg 4 2 = 4 := by decide +kernel
set_option maxRecDepth 100000 in
set_option maxHeartbeats 2000000 in
theorem alive07 (w : World) : Calls Try.prog 30 #[] w fun e w' => e = .returned (.bool true) ∧ Below w.heap.size w w' := by
  have hmk : ∀ w, (Instr.makeSlice 55 (.int .i64 16) (.int .i64 16)).run Try.prog w = .ok (.slice (some ⟨w.heap.size, 0, none⟩) 16 16) (w.alloc (.cells (madeCells #[.int .i64 0] 16) 3)) := make_i64 16 (by omega)
  have K := (Kn.start w).make w.heap.size (.int .i64 0) 16 3 rfl
  have ke := Row.cell K.1 (show 0 < 16 by omega)
  have kf := Row.frozen K.1 0
  have K2 := (Kn.setRow K 0 (.int .i64 5) ⟨Nat.le_refl _, trivial⟩).row (g := in64 alB) (fun i hi => by
    unfold in64 alB
    by_cases e : i = 0 <;> simp [e])
  have K := K2
  rw [World.setCell_alloc_at _ _ _ _ _ rfl] at K
  clear K2
  have k1 : okN true 16 = 16 := rfl
  have k2 : okK true = 0 := rfl
  go_enter Try.func30, Try.ntmps30
  go_wp2_with fail
  refine (lforward_any _ 16 16 alB _ (Row.rd K.1)).mono ?_
  rintro e w1 ⟨A1, c1, rfl, hR1, _, _, _, hb1⟩
  rw [al_ok, k1] at hR1
  rw [al_ok, k1, k2]
  replace K := (K.below hb1).add (x := .rd A1 16 (in64 (fwV 16 alB))) hR1
  obtain ⟨b1, o1, rfl, -, -⟩ := Rd.some_ hR1 (by omega)
  clear hb1 hR1 ke kf
  go_wp2_with fail
  refine (lback_any _ 16 c1 (fwV 16 alB) _ K.1).mono ?_
  rintro e w2 ⟨A2, c2, rfl, hR2, _, _, _, hb2⟩
  rw [okB_iff.2 ⟨.inl rfl, al_w2⟩, k1] at hR2
  rw [okB_iff.2 ⟨.inl rfl, al_w2⟩, k1, k2]
  replace K := (K.below hb2).add (x := .rd A2 16 (in64 (bkV 16 (fwV 16 alB)))) hR2
  clear hb2 hR2
  have q0 := Rd.at_ K.2.1 (i := 0) (by omega)
  have q2 := Rd.at_ K.2.1 (i := 2) (by omega)
  have q10 := Rd.at_ K.2.1 (i := 10) (by omega)
  simp only [in64, al_x.1, al_x.2.1, al_x.2.2, Nat.add_zero] at q0 q2 q10
  clear k1 k2
  go_wp2_with fail
  refine (same7_yes A2 (some ⟨w.heap.size, 0, none⟩) 16 c2 16 _ alB _ K.1 (Row.rd K.2.2.1) al_y (by omega)).mono ?_
  rintro e w3 ⟨rfl, hb3⟩
  replace K := K.below hb3
  clear hb3 q0 q2 q10
  have q0 := Rd.at_ K.2.1 (i := 0) (by omega)
  have q2 := Rd.at_ K.2.1 (i := 2) (by omega)
  have q10 := Rd.at_ K.2.1 (i := 10) (by omega)
  simp only [in64, al_x.1, al_x.2.1, al_x.2.2, Nat.add_zero] at q0 q2 q10
  go_wp2_with fail
  refine (order_8 _).mono ?_
  rintro e w4 ⟨A4, c4, rfl, hR4, _, _, _, hb4⟩
  replace K := K.below hb4
  clear hb4 hR4 q0 q2 q10
  go_wp2_with fail
  refine (order_4 _).mono ?_
  rintro e w5 ⟨A5, c5, rfl, hR5, _, _, _, hb5⟩
  replace K := K.below hb5
  obtain ⟨b5, o5, rfl, -, -⟩ := Rd.some_ hR5 (by omega)
  have q := (Rd.at_ hR5 (i := 2) (by omega)).trans (show _ = some (Value.int .i64 4) by simp only [in64, al_z]; rfl)
  have L : Below _ _ _ := K.2.2.2.1
  clear hb5 hR5 K
  go_wp2
  go_ret
  exact ⟨rfl, L⟩
end Go.Proofs.Ytfooglenhepogaa
