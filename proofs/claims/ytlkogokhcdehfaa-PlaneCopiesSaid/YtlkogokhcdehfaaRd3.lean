/- The walk of the document's own Plane (kinoraref11.Plane): what it answers for every plane and quantiser. -/
import Derived.Test.YtlkogokhcdehfaaRd2
namespace Go.Proofs.Ytlkogokhcdehfaa
open Go.RowKit Go.Kin
set_option linter.unusedVariables false

/-- The blocks of a call of the document's Plane. -/
structure DbR (w wr : World) (B b bo : Nat) (W H n c c' : Nat) (A : Option Addr) (g : Nat → Int) : Prop where
  b0 : Box wr B #[.int .i64 W, .int .i64 H, .slice A n c]
  b1 : Box wr (B + 1) #[.int .i64 0, .int .i64 0, .slice none 0 0]
  row : Row wr b n (by8 g)
  bp : Box wr bo #[.int .i64 W, .int .i64 H, .slice (some ⟨b, 0, none⟩) n c']
  bel : Below B w wr
  lt : B + 2 ≤ b
  lo : B + 2 ≤ bo
  ne : bo ≠ b
theorem DbR.smooth {w wr w' : World} {B b bo W H n c c' : Nat} {A : Option Addr} {g g' : Nat → Int} (h : DbR w wr B b bo W H n c c' A g) (hR : Row w' b n (by8 g')) (ho : Oth b wr w') : DbR w w' B b bo W H n c c' A g' := by
  have hl := h.lt
  have hb := h.row.lt
  exact ⟨h.b0.oth ho (by omega), h.b1.oth ho (by omega), hR, h.bp.oth ho h.ne, h.bel.trans (ho.below (by omega) (by omega)), h.lt, h.lo, h.ne⟩

/-- What the document's Plane answers: the samples lie in a row of its own. -/
def MadePlaneC (W H : Int) (N : Nat) (g : Nat → Int) (w : World) (e : Ending) (w' : World) : Prop :=
  ∃ b c, e = .returned (.tuple #[.agg #[.int .i64 W, .int .i64 H, .slice (some ⟨b, 0, none⟩) N c], .int .i64 0]) ∧ w.heap.size ≤ b ∧ Row w' b N (by8 g) ∧ Below w.heap.size w w'

set_option maxHeartbeats 1000000 in
theorem rplane_yes (W H : Nat) (q : Int) (A : Option Addr) (n c : Nat) (g : Nat → Int) (w : World) (hr : rightB W H n = true) (hq : knownB q = true) (hS : Rd w A n (by8 g)) (hg : Byt g) :
    Calls Try.prog 25 #[.agg #[.int .i64 W, .int .i64 H, .slice A n c], .int .i64 q] w (MadePlaneC W H n (dbP q W H g) w) := by
  have hrr := rightB_iff.1 hr
  obtain ⟨r1, r2, r3, r4, r5⟩ := hrr
  have hn : n ≤ 16777216 := rightB_le hr
  have hn1 : 1 ≤ n := rightB_pos hr
  have hqq : 0 ≤ q ∧ q ≤ 31 := by simpa [knownB] using hq
  obtain ⟨q0, q1⟩ := hqq
  have wq : -9223372036854775808 ≤ q ∧ q ≤ 9223372036854775807 := ⟨by omega, by omega⟩
  have hqa : decide (q < 0) = false := by simp; omega
  have hqb : decide (31 < q) = false := by simp; omega
  have HS := Lib.hid hS
  have HN := Lib.hid r5
  clear hS r5
  go_enter Try.func25, Try.ntmps25
  go_wp2_with fail
  refine (rright_any _ _ _ _ _ _).mono ?_
  rintro e w1 ⟨rfl, hb1⟩
  have B0 : Box w1 w.heap.size #[.int .i64 W, .int .i64 H, .slice A n c] := ((Box.new w _ _).alloc _).below hb1 (by simp; omega)
  have B1 : Box w1 (w.heap.size + 1) #[.int .i64 0, .int .i64 0, .slice none 0 0] := (Box.newAt (w.alloc _) _ _ (by simp)).below hb1 (by simp)
  have L1 : Below w.heap.size w w1 := (((Below.refl _ w).alloc (Nat.le_refl _) _).alloc (by simp) _).trans (hb1.mono (by simp; omega))
  have l1 : w.heap.size + 2 ≤ w1.heap.size := by have := hb1.size; simp at this; omega
  clear hb1
  obtain ⟨c0, c1, c2⟩ := B0.cell3
  go_wp2_with fail
  refine (rcopy_any _ _ _ _ _ g _ (HS.out.below L1) (by omega)).mono ?_
  rintro e w2 ⟨A', c', rfl, hO, hb2⟩
  obtain ⟨b, rfl, hbb, hrow, hnc⟩ := hO.row (by omega)
  have B0' := B0.below hb2 (by omega)
  have B1' := B1.below hb2 (by omega)
  have L2 := L1.trans (hb2.mono (by omega))
  have l2 : w1.heap.size ≤ w2.heap.size := hb2.size
  have l3 : b < w2.heap.size := hrow.lt
  have D0 : ∀ X, DbR w (w2.alloc (.cells #[.int .i64 W, .int .i64 H, .slice (some ⟨b, 0, none⟩) n c'] X)) w.heap.size b w2.heap.size W H n c c' A (rowsE q W 0 g) := fun X =>
    ⟨B0'.alloc _, B1'.alloc _, hrow.alloc _, Box.new _ _ _, L2.alloc (by omega) _, by omega, by omega, by omega⟩
  have HD0 := Lib.hid D0
  clear D0 B0 B1 B0' B1' L1 L2 hO hrow hb2 c0 c1 c2
  go_wp2
  go_loopw [8] (fun i wr => ∃ y : Nat, y ≤ H ∧ i = .int .i64 y ∧ DbR w wr w.heap.size b w2.heap.size W H n c c' A (rowsE q W y g)) (fun i _ => H - (intOf i).toNat)
  case atStart => exact ⟨0, Nat.zero_le _, rfl, HD0.out _⟩
  case round =>
    obtain ⟨y, hy, rfl, hD⟩ := hrel
    clear HD0
    obtain ⟨c0, c1, c2⟩ := hD.b0.cell3
    have HD := Lib.hid hD
    clear hD
    by_cases hlt : y < H
    · go_wp2
      obtain ⟨wo, rfl⟩ : ∃ wo : World, wo = wr := ⟨_, rfl⟩
      have m0 : (0 : Int) ≤ (y : Int) * W := Int.mul_nonneg (by omega) (by omega)
      have m1 : (y : Int) * W ≤ 16777216 := by
        have := Int.mul_le_mul (show (y : Int) ≤ 4096 by omega) r2 (by omega) (by omega)
        omega
      clear c0 c1 c2
      go_loopw [9] (fun i wr => ∃ k : Nat, k ≤ edges W ∧ i = .int .i64 (8 * ((k : Int) + 1)) ∧ DbR w wr w.heap.size b w2.heap.size W H n c c' A (rowE q W y k (rowsE q W y g))) (fun i _ => W - (intOf i).toNat)
      case atStart => exact ⟨0, Nat.zero_le _, rfl, HD.out⟩
      case round =>
        obtain ⟨k, hk, rfl, hI⟩ := hrel
        obtain ⟨c0, c1, c2⟩ := hI.b0.cell3
        obtain ⟨d0, d1, d2⟩ := hI.bp.cell3
        have hE := edges_lt (W := W) (k := k)
        by_cases hke : k < edges W
        · have hx := hE.1 hke
          have hxx : 8 * ((k : Int) + 1) + 1 < W := by omega
          clear hE HD
          have hpl : y * W + (8 * (k + 1) + 1) < n := by
            have h1 := place_lt (x := 8 * (k + 1) + 1) hx hlt
            have h2 : n = W * H := by have := HN.out; exact_mod_cast this
            omega
          go_wp2_with fail
          refine (one_int _ _ _ _ (y * W + 8 * (k + 1)) 1 n _ q b _ _ (by simp) rfl hI.row (rowE_byt (rowsE_byt hg _) _) (by omega) (by omega) (by omega) hn wq).mono ?_
          rintro e w3 ⟨rfl, hR3, ho3⟩
          have HI := Lib.hid (hI.smooth hR3 ho3)
          clear hI hR3 ho3 c0 c1 c2 d0 d1 d2
          go_wp2
          go_roundw
          case rel => exact ⟨k + 1, hke, by go_num, HI.out⟩
          case measure => simp [intOf]; omega
        · have hd : decide (8 * ((k : Int) + 1) + 1 < (W : Int)) = false := by simp; omega
          have hkb : k ≤ 4096 := by have := hk; unfold edges at this; omega
          have hkE : k = edges W := by omega
          have HK := Lib.hid hkE
          have HI := Lib.hid hI
          clear hE HD hkE hI hke hk
          go_wp2
          refine ⟨⟨y + 1, hlt, by go_num, ?_⟩, by simp [intOf]; omega⟩
          have := HI.out
          rw [HK.out] at this
          exact this
    · have hyE : y = H := by omega
      have HY := Lib.hid hyE
      clear hyE
      go_wp2
      have D1 : DbR w wr w.heap.size b w2.heap.size W H n c c' A (colsE q W H 0 (rowsE q W H g)) := by
        have := HD.out
        rw [HY.out] at this
        exact this
      have HD1 := Lib.hid D1
      clear D1 HD HY c0 c1 c2 hlt hy
      obtain ⟨wz, rfl⟩ : ∃ wz : World, wz = wr := ⟨_, rfl⟩
      go_loopw [10] (fun i wr => ∃ x : Nat, x ≤ W ∧ i = .int .i64 x ∧ DbR w wr w.heap.size b w2.heap.size W H n c c' A (colsE q W H x (rowsE q W H g))) (fun i _ => W - (intOf i).toNat)
      case atStart => exact ⟨0, Nat.zero_le _, rfl, HD1.out⟩
      case round =>
        obtain ⟨x, hxW, rfl, hD⟩ := hrel
        clear HD1
        obtain ⟨c0, c1, c2⟩ := hD.b0.cell3
        have HD := Lib.hid hD
        clear hD
        by_cases hlt : x < W
        · go_wp2
          obtain ⟨wo, rfl⟩ : ∃ wo : World, wo = wr := ⟨_, rfl⟩
          clear c0 c1 c2
          go_loopw [11] (fun i wr => ∃ k : Nat, k ≤ edges H ∧ i = .int .i64 (8 * ((k : Int) + 1)) ∧ DbR w wr w.heap.size b w2.heap.size W H n c c' A (colE q W x k (colsE q W H x (rowsE q W H g)))) (fun i _ => H - (intOf i).toNat)
          case atStart => exact ⟨0, Nat.zero_le _, rfl, HD.out⟩
          case round =>
            obtain ⟨k, hk, rfl, hI⟩ := hrel
            obtain ⟨c0, c1, c2⟩ := hI.b0.cell3
            obtain ⟨d0, d1, d2⟩ := hI.bp.cell3
            have hE := edges_lt (W := H) (k := k)
            have hkb : k ≤ 4096 := by have := hk; unfold edges at this; omega
            by_cases hke : k < edges H
            · have hx := hE.1 hke
              have hxx : 8 * ((k : Int) + 1) + 1 < H := by omega
              have m0 : (0 : Int) ≤ (8 * ((k : Int) + 1) - 2) * W := Int.mul_nonneg (by omega) (by omega)
              have m1 : (8 * ((k : Int) + 1) - 2) * W ≤ 16777216 := by
                have := Int.mul_le_mul (show 8 * ((k : Int) + 1) - 2 ≤ 4096 by omega) r2 (by omega) (by omega)
                omega
              clear hE HD
              have hpl : (8 * (k + 1) + 1) * W + x < n := by
                have h1 := place_lt (W := W) (H := H) (y := 8 * (k + 1) + 1) hlt hx
                have h2 : n = W * H := by have := HN.out; exact_mod_cast this
                omega
              have hpl2 : 8 * (k + 1) * W + x + W < n := by rw [Nat.add_mul] at hpl; omega
              have hpl3 : 2 * W ≤ 8 * (k + 1) * W + x := by
                have := Nat.mul_le_mul_right W (show 2 ≤ 8 * (k + 1) by omega)
                omega
              clear hpl
              go_wp2_with fail
              refine (one_int _ _ _ _ (8 * (k + 1) * W + x) W n _ q b _ _ (by push_cast; rw [Int.sub_mul]; omega) rfl hI.row (colE_byt (colsE_byt (rowsE_byt hg _) _) _) (by omega) hpl3 hpl2 hn wq).mono ?_
              rintro e w3 ⟨rfl, hR3, ho3⟩
              have HI := Lib.hid (hI.smooth hR3 ho3)
              clear hI hR3 ho3 c0 c1 c2 d0 d1 d2
              go_wp2
              go_roundw
              case rel => exact ⟨k + 1, hke, by go_num, HI.out⟩
              case measure => simp [intOf]; omega
            · have hd : decide (8 * ((k : Int) + 1) + 1 < (H : Int)) = false := by simp; omega
              have hkE : k = edges H := by omega
              have HK := Lib.hid hkE
              have HI := Lib.hid hI
              clear hE HD hkE hI hke hk
              go_wp2
              refine ⟨⟨x + 1, hlt, by go_num, ?_⟩, by simp [intOf]; omega⟩
              have := HI.out
              rw [HK.out] at this
              exact this
        · have hxE : x = W := by omega
          have HX := Lib.hid hxE
          clear hxE
          obtain ⟨e0, e1, e2⟩ := HD.out.bp.cell3
          obtain ⟨d0, d1, d2⟩ := HD.out.b1.cell3
          obtain ⟨f0, f1, f2⟩ := HD.out.b1.frozen3
          go_wp2
          refine bodyPost_ret (v := .tuple #[.agg #[.int .i64 W, .int .i64 H, .slice (some ⟨b, 0, none⟩) n c'], .int .i64 0]) (by simp [results, Try.results25, go_sem, d0, d1, d2]) rfl ?_
          have hD := HD.out
          rw [HX.out] at hD
          refine ⟨_, _, rfl, by omega, ?_, ?_⟩
          · exact ((hD.row.far (by simp; omega) _).far (by simp; omega) _).far (by simp; omega) _
          · exact ((hD.bel.setCell (by simp) _).setCell (by simp) _).setCell (by simp) _

set_option maxHeartbeats 400000 in
theorem rplane_no1 (a b : Int) (q : Int) (A : Option Addr) (n c : Nat) (w : World) (hr : rightB a b n = false) :
    Calls Try.prog 25 #[.agg #[.int .i64 a, .int .i64 b, .slice A n c], .int .i64 q] w (NoPlane 61 w) := by
  go_enter Try.func25, Try.ntmps25
  go_wp2_with fail
  refine (rright_any _ _ _ _ _ _).mono ?_
  rintro e w1 ⟨rfl, hb1⟩
  have B2 : Box w1 (w.heap.size + 1) #[.int .i64 0, .int .i64 0, .slice none 0 0] := (Box.newAt (w.alloc _) _ _ (by simp)).below hb1 (by simp)
  have hbel : Below w.heap.size w w1 := (((Below.refl _ w).alloc (Nat.le_refl _) _).alloc (by simp) _).trans (hb1.mono (by simp; omega))
  clear hb1
  obtain ⟨d0, d1, d2⟩ := B2.cell3
  obtain ⟨f0, f1, f2⟩ := B2.frozen3
  go_wp2
  refine bodyPost_ret (v := .tuple #[.agg #[.int .i64 0, .int .i64 0, .slice none 0 0], .int .i64 61]) (by simp [results, Try.results25, go_sem, d0, d1, d2]) rfl ⟨rfl, ?_⟩
  exact ((hbel.setCell (by simp) _).setCell (by simp) _).setCell (by simp) _

set_option maxHeartbeats 400000 in
theorem rplane_no2 (a b : Int) (q : Int) (A : Option Addr) (n c : Nat) (w : World) (hr : rightB a b n = true) (hq : knownB q = false) :
    Calls Try.prog 25 #[.agg #[.int .i64 a, .int .i64 b, .slice A n c], .int .i64 q] w (NoPlane 1 w) := by
  have h3 : q < 0 ∨ (¬ q < 0 ∧ 31 < q) := by simp [knownB] at hq; omega
  rcases h3 with h3 | ⟨h3, h4⟩
  all_goals go_enter Try.func25, Try.ntmps25
  all_goals go_wp2_with fail
  all_goals refine (rright_any _ _ _ _ _ _).mono ?_
  all_goals rintro e w1 ⟨rfl, hb1⟩
  all_goals have B2 : Box w1 (w.heap.size + 1) #[.int .i64 0, .int .i64 0, .slice none 0 0] := (Box.newAt (w.alloc _) _ _ (by simp)).below hb1 (by simp)
  all_goals have hbel : Below w.heap.size w w1 := (((Below.refl _ w).alloc (Nat.le_refl _) _).alloc (by simp) _).trans (hb1.mono (by simp; omega))
  all_goals clear hb1
  all_goals obtain ⟨d0, d1, d2⟩ := B2.cell3
  all_goals obtain ⟨f0, f1, f2⟩ := B2.frozen3
  all_goals go_wp2
  all_goals refine bodyPost_ret (v := .tuple #[.agg #[.int .i64 0, .int .i64 0, .slice none 0 0], .int .i64 1]) (by simp [results, Try.results25, go_sem, d0, d1, d2]) rfl ⟨rfl, ?_⟩
  all_goals exact ((hbel.setCell (by simp) _).setCell (by simp) _).setCell (by simp) _
end Go.Proofs.Ytlkogokhcdehfaa
