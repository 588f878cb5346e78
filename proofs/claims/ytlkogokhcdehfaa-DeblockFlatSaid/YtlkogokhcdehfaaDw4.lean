/- deblock.Plane's errors, and the live question of the statements of layer 11. -/
import Derived.Test.YtlkogokhcdehfaaDw3
import Derived.Test.YtlkogokhcdehfaaRp1
namespace Go.Proofs.Ytlkogokhcdehfaa
open Go.RowKit Go.Kin
set_option linter.unusedVariables false

set_option maxHeartbeats 400000 in
theorem dplane_no1 (a b : Int) (q : Int) (A : Option Addr) (n c : Nat) (w : World) (hr : rightB a b n = false) :
    Calls Try.prog 19 #[.agg #[.int .i64 a, .int .i64 b, .slice A n c], .int .i64 q] w (NoPlane 61 w) := by
  go_enter Try.func19, Try.ntmps19
  go_wp2_with fail
  refine (right_any _ _ _ _ _ _).mono ?_
  rintro e w1 ⟨rfl, hb1⟩
  have B2 : Box w1 (w.heap.size + 1 + 1) #[.int .i64 0, .int .i64 0, .slice none 0 0] := (Box.newAt ((w.alloc _).alloc _) _ _ (by simp)).below hb1 (by simp)
  have hbel : Below w.heap.size w w1 := ((((Below.refl _ w).alloc (Nat.le_refl _) _).alloc (by simp) _).alloc (by simp; omega) _).trans (hb1.mono (by simp; omega))
  clear hb1
  obtain ⟨d0, d1, d2⟩ := B2.cell3
  obtain ⟨f0, f1, f2⟩ := B2.frozen3
  go_wp2
  refine bodyPost_ret (v := .tuple #[.agg #[.int .i64 0, .int .i64 0, .slice none 0 0], .int .i64 61]) (by simp [results, Try.results19, go_sem, d0, d1, d2]) rfl ⟨rfl, ?_⟩
  exact ((hbel.setCell (by simp; omega) _).setCell (by simp; omega) _).setCell (by simp; omega) _

set_option maxHeartbeats 400000 in
theorem dplane_no2 (a b : Int) (q : Int) (A : Option Addr) (n c : Nat) (w : World) (hr : rightB a b n = true) (hq : knownB q = false) :
    Calls Try.prog 19 #[.agg #[.int .i64 a, .int .i64 b, .slice A n c], .int .i64 q] w (NoPlane 1 w) := by
  go_enter Try.func19, Try.ntmps19
  go_wp2_with fail
  refine (right_any _ _ _ _ _ _).mono ?_
  rintro e w1 ⟨rfl, hb1⟩
  have B1 : Box w1 (w.heap.size + 1) #[.int .i64 q] := ((Box.newAt (w.alloc _) _ _ (by simp)).alloc _).below hb1 (by simp)
  have B2 : Box w1 (w.heap.size + 1 + 1) #[.int .i64 0, .int .i64 0, .slice none 0 0] := (Box.newAt ((w.alloc _).alloc _) _ _ (by simp)).below hb1 (by simp)
  have hbel : Below w.heap.size w w1 := ((((Below.refl _ w).alloc (Nat.le_refl _) _).alloc (by simp) _).alloc (by simp; omega) _).trans (hb1.mono (by simp; omega))
  clear hb1
  have c3 := B1.cell1
  obtain ⟨d0, d1, d2⟩ := B2.cell3
  obtain ⟨f0, f1, f2⟩ := B2.frozen3
  go_wp2_with (go_at_call 48; refine (known_any _ _).mono ?_; rintro e w' ⟨rfl, rfl⟩)
  refine bodyPost_ret (v := .tuple #[.agg #[.int .i64 0, .int .i64 0, .slice none 0 0], .int .i64 1]) (by simp [results, Try.results19, go_sem, d0, d1, d2]) rfl ⟨rfl, ?_⟩
  exact ((hbel.setCell (by simp; omega) _).setCell (by simp; omega) _).setCell (by simp; omega) _

set_option maxHeartbeats 400000 in
theorem alive11 (w : World) : Calls Try.prog 17 #[] w fun e w' => e = .returned (.bool true) ∧ Below w.heap.size w w' := by
  go_enter Try.func17, Try.ntmps17
  go_wp2_with fail
  refine (line_any 10 10 20 20 20 (by decide) (by decide) (by decide) (by decide) _).mono ?_
  rintro e w' ⟨rfl, rfl⟩
  rw [show ln1 10 10 20 20 20 = 14 from by decide, show ln2 10 10 20 20 20 = 16 from by decide]
  go_wp2_with fail
  refine (new_yes 16 16 5 256 _ (by decide) (by decide)).mono ?_
  rintro e w1 ⟨b, rfl, hb, hR, hbel⟩
  have HR := Lib.hid hR
  have HB := Lib.hid hbel
  clear hR hbel
  go_wp2_with fail
  refine (dplane_yes 16 16 31 _ 256 256 (fun _ => 5) _ (by decide) (by decide) (HR.out.alloc _).rd (fun _ => by show (0 : Int) ≤ 5 ∧ (5 : Int) ≤ 255; omega)).mono ?_
  rintro e w2 ⟨b2, rfl, hb2, hR2, hbel2⟩
  rw [dbP_flat (by decide)] at hR2
  have HB2 := Lib.hid hbel2
  have hk1 := fun X => conv_any (c := 256) (hR2.alloc X).rd
  have hk2 := fun X => conv_any (c := 256) (((HR.out.alloc _).below hbel2 (by have := HR.out.lt; simp; omega)).alloc X).rd
  have hP := (Box.new w1 29 #[.int .i64 16, .int .i64 16, .slice (some ⟨b, 0, none⟩) 256 256]).below hbel2 (by simp)
  obtain ⟨c0, c1, c2⟩ := hP.cell3
  have l0 : w1.heap.size < w2.heap.size := hP.lt
  clear hbel2 hR2
  go_wp2
  go_ret
  exact ⟨rfl, ((HB.out.alloc (by have := HB.out.size; omega) _).trans (HB2.out.mono (by have := HB.out.size; simp; omega))).alloc (by have := HB.out.size; omega) _⟩
end Go.Proofs.Ytlkogokhcdehfaa
