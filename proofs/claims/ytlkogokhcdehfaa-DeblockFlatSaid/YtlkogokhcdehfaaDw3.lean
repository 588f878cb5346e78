/- The walk of deblock.Plane: what it answers for every plane and quantiser. -/
import Derived.Test.YtlkogokhcdehfaaDw2
import Derived.Deep.DeepMust
namespace Go.Proofs.Ytlkogokhcdehfaa
open Go.RowKit Go.Kin
set_option linter.unusedVariables false

/-- The blocks of a call of deblock.Plane. -/
structure DbI (w wr : World) (B b : Nat) (W H n c : Nat) (q : Int) (A : Option Addr) (g : Nat → Int) : Prop where
  b0 : Box wr B #[.int .i64 W, .int .i64 H, .slice A n c]
  b1 : Box wr (B + 1) #[.int .i64 q]
  b2 : Box wr (B + 1 + 1) #[.int .i64 0, .int .i64 0, .slice none 0 0]
  row : Row wr b n (by8 g)
  bp : Box wr (b + 1) #[.slice (some ⟨b, 0, none⟩) n n]
  bel : Below B w wr
  lt : B + 3 ≤ b

theorem DbI.smooth {w wr w' : World} {B b W H n c : Nat} {q : Int} {A : Option Addr} {g g' : Nat → Int} (h : DbI w wr B b W H n c q A g) (hR : Row w' b n (by8 g')) (ho : Oth b wr w') : DbI w w' B b W H n c q A g' := by
  have hl := h.lt
  have hb := h.row.lt
  exact ⟨h.b0.oth ho (by omega), h.b1.oth ho (by omega), h.b2.oth ho (by omega), hR, h.bp.oth ho (by omega), h.bel.trans (ho.below (by omega) (by omega)), h.lt⟩

set_option maxHeartbeats 1000000 in
theorem dplane_yes (W H : Nat) (q : Int) (A : Option Addr) (n c : Nat) (g : Nat → Int) (w : World) (hr : rightB W H n = true) (hq : knownB q = true) (hS : Rd w A n (by8 g)) (hg : Byt g) :
    Calls Try.prog 19 #[.agg #[.int .i64 W, .int .i64 H, .slice A n c], .int .i64 q] w (MadePlane W H n (dbP q W H g) w) := by
  have hrr := rightB_iff.1 hr
  obtain ⟨r1, r2, r3, r4, r5⟩ := hrr
  have hn : n ≤ 16777216 := rightB_le hr
  have hmk := make_u8 n (by omega)
  have HS := Lib.hid hS
  have HN := Lib.hid r5
  clear hS r5
  go_enter Try.func19, Try.ntmps19
  go_wp2_with fail
  refine (right_any _ _ _ _ _ _).mono ?_
  rintro e w1 ⟨rfl, hb1⟩
  have B0 : Box w1 w.heap.size #[.int .i64 W, .int .i64 H, .slice A n c] := (((Box.new w _ _).alloc _).alloc _).below hb1 (by simp; omega)
  have B1 : Box w1 (w.heap.size + 1) #[.int .i64 q] := ((Box.newAt (w.alloc _) _ _ (by simp)).alloc _).below hb1 (by simp)
  have B2 : Box w1 (w.heap.size + 1 + 1) #[.int .i64 0, .int .i64 0, .slice none 0 0] := (Box.newAt ((w.alloc _).alloc _) _ _ (by simp)).below hb1 (by simp)
  have hbel : Below w.heap.size w w1 := ((((Below.refl _ w).alloc (Nat.le_refl _) _).alloc (by simp) _).alloc (by simp; omega) _).trans (hb1.mono (by simp; omega))
  have hsz : w.heap.size + 3 ≤ w1.heap.size := by have := hb1.size; simp at this; omega
  clear hb1
  obtain ⟨c0, c1, c2⟩ := B0.cell3
  have c3 := B1.cell1
  have HS1 := Lib.hid (HS.out.below hbel)
  clear HS
  have l0 : w.heap.size < w1.heap.size := by omega
  have l1 : w.heap.size < w1.heap.size + 1 := by omega
  have l2 : w.heap.size + 1 < w1.heap.size := by omega
  have l3 : w.heap.size + 1 < w1.heap.size + 1 := by omega
  have tok : True := trivial
  go_wp2_with (first | (go_at_call 48; refine (known_any _ _).mono ?_; rintro e w' ⟨rfl, rfl⟩) | (have _t := tok; refine wpList_copyR rfl (.tmp 24) (.tmp 26) rfl Try.underlying27 size_u8 rfl rfl ((Row.made w1 _ n _).alloc _) ((HS1.out.alloc _).alloc _) (fun i => rfl) ?_ ?_; rotate_left; intro w2 hR2 ho2; have HR := Lib.hid hR2; have HO := Lib.hid ho2; go_must (have B0' := ((B0.alloc _).alloc _).oth ho2 (by omega)); go_must (have B1' := ((B1.alloc _).alloc _).oth ho2 (by omega)); go_must (have B2' := ((B2.alloc _).alloc _).oth ho2 (by omega)); go_must (have BP : Box w2 (w1.heap.size + 1) _ := (Box.newAt (w1.alloc _) _ _ (by simp)).oth ho2 (by omega)); go_must (have HB := Lib.hid (((hbel.alloc (by omega) _).alloc (by simp; omega) _).trans (ho2.below (by omega) (by simp; omega)))); clear hR2 ho2 tok c0 c1 c2 c3 l1 l3; go_must (obtain ⟨c0, c1, c2⟩ := B0'.cell3); have c3 := B1'.cell1; have c4 := BP.cell1))
  rotate_left
  · simp
  have D0 : DbI w w2 w.heap.size w1.heap.size W H n c q A (rowsE q W 0 g) := ⟨B0', B1', B2', HR.out.congr (fun i hi => by simp [hi, by8, rowsE]), BP, HB.out, by omega⟩
  have HD0 := Lib.hid D0
  clear D0 B0' B1' B2' BP HR HB HO c0 c1 c2 c3 c4
  go_loopw [31] (fun i wr => ∃ y : Nat, y ≤ H ∧ i = .int .i64 y ∧ DbI w wr w.heap.size w1.heap.size W H n c q A (rowsE q W y g)) (fun i _ => H - (intOf i).toNat)
  case atStart => exact ⟨0, Nat.zero_le _, rfl, HD0.out⟩
  case round =>
    obtain ⟨y, hy, rfl, hD⟩ := hrel
    clear HD0
    obtain ⟨c0, c1, c2⟩ := hD.b0.cell3
    have HD := Lib.hid hD
    clear hD
    by_cases hlt : y < H
    · go_wp2
      obtain ⟨wo, rfl⟩ : ∃ wo : World, wo = wr := ⟨_, rfl⟩
      have m0 : (0 : Int) ≤ (y : Int) * W := Int.mul_nonneg (by omega) (by omega)
      have m1 : (y : Int) * W ≤ 16777216 := by
        have := Int.mul_le_mul (show (y : Int) ≤ 4096 by omega) r2 (by omega) (by omega)
        omega
      clear c0 c1 c2
      go_loopw [9] (fun i wr => ∃ k : Nat, k ≤ edges W ∧ i = .int .i64 (8 * ((k : Int) + 1)) ∧ DbI w wr w.heap.size w1.heap.size W H n c q A (rowE q W y k (rowsE q W y g))) (fun i _ => W - (intOf i).toNat)
      case atStart => exact ⟨0, Nat.zero_le _, rfl, HD.out⟩
      case round =>
        obtain ⟨k, hk, rfl, hI⟩ := hrel
        obtain ⟨c0, c1, c2⟩ := hI.b0.cell3
        have hE := edges_lt (W := W) (k := k)
        by_cases hke : k < edges W
        · have hx := hE.1 hke
          have hxx : 8 * ((k : Int) + 1) + 1 < W := by omega
          clear hE HD
          have hpl : y * W + (8 * (k + 1) + 1) < n := by
            have h1 := place_lt (x := 8 * (k + 1) + 1) hx hlt
            have h2 : n = W * H := by have := HN.out; exact_mod_cast this
            omega
          go_wp2_with fail
          refine (smooth_int _ _ (y * W + 8 * (k + 1)) 1 n q w1.heap.size _ _ _ _ (by simp) rfl hI.bp hI.b1 hI.row (rowE_byt (rowsE_byt hg _) _) (by omega) (by omega) (by omega) hn).mono ?_
          rintro e w3 ⟨rfl, hR3, ho3⟩
          have HI := Lib.hid (hI.smooth hR3 ho3)
          clear hI hR3 ho3 c0 c1 c2
          go_wp2
          go_roundw
          case rel => exact ⟨k + 1, hke, by go_num, HI.out⟩
          case measure => simp [intOf]; omega
        · have hd : decide (8 * ((k : Int) + 1) + 1 < (W : Int)) = false := by simp; omega
          have hkb : k ≤ 4096 := by have := hk; unfold edges at this; omega
          have hkE : k = edges W := by omega
          have HK := Lib.hid hkE
          have HI := Lib.hid hI
          clear hE HD hkE hI hke hk
          go_wp2
          refine ⟨⟨y + 1, hlt, by go_num, ?_⟩, by simp [intOf]; omega⟩
          have := HI.out
          rw [HK.out] at this
          exact this
    · have hyE : y = H := by omega
      have HY := Lib.hid hyE
      clear hyE
      go_wp2
      have D1 : DbI w wr w.heap.size w1.heap.size W H n c q A (colsE q W H 0 (rowsE q W H g)) := by
        have := HD.out
        rw [HY.out] at this
        exact this
      have HD1 := Lib.hid D1
      clear D1 HD HY c0 c1 c2 hlt hy
      obtain ⟨wz, rfl⟩ : ∃ wz : World, wz = wr := ⟨_, rfl⟩
      go_loopw [52] (fun i wr => ∃ x : Nat, x ≤ W ∧ i = .int .i64 x ∧ DbI w wr w.heap.size w1.heap.size W H n c q A (colsE q W H x (rowsE q W H g))) (fun i _ => W - (intOf i).toNat)
      case atStart => exact ⟨0, Nat.zero_le _, rfl, HD1.out⟩
      case round =>
        obtain ⟨x, hxW, rfl, hD⟩ := hrel
        clear HD1
        obtain ⟨c0, c1, c2⟩ := hD.b0.cell3
        have HD := Lib.hid hD
        clear hD
        by_cases hlt : x < W
        · go_wp2
          obtain ⟨wo, rfl⟩ : ∃ wo : World, wo = wr := ⟨_, rfl⟩
          clear c0 c1 c2
          go_loopw [11] (fun i wr => ∃ k : Nat, k ≤ edges H ∧ i = .int .i64 (8 * ((k : Int) + 1)) ∧ DbI w wr w.heap.size w1.heap.size W H n c q A (colE q W x k (colsE q W H x (rowsE q W H g)))) (fun i _ => H - (intOf i).toNat)
          case atStart => exact ⟨0, Nat.zero_le _, rfl, HD.out⟩
          case round =>
            obtain ⟨k, hk, rfl, hI⟩ := hrel
            obtain ⟨c0, c1, c2⟩ := hI.b0.cell3
            have hE := edges_lt (W := H) (k := k)
            have hkb : k ≤ 4096 := by have := hk; unfold edges at this; omega
            by_cases hke : k < edges H
            · have hx := hE.1 hke
              have hxx : 8 * ((k : Int) + 1) + 1 < H := by omega
              have m0 : (0 : Int) ≤ (8 * ((k : Int) + 1)) * W := Int.mul_nonneg (by omega) (by omega)
              have m1 : (8 * ((k : Int) + 1)) * W ≤ 16777216 := by
                have := Int.mul_le_mul (show 8 * ((k : Int) + 1) ≤ 4096 by omega) r2 (by omega) (by omega)
                omega
              clear hE HD
              have hpl : (8 * (k + 1) + 1) * W + x < n := by
                have h1 := place_lt (W := W) (H := H) (y := 8 * (k + 1) + 1) hlt hx
                have h2 : n = W * H := by have := HN.out; exact_mod_cast this
                omega
              have hpl2 : 8 * (k + 1) * W + x + W < n := by rw [Nat.add_mul] at hpl; omega
              have hpl3 : 2 * W ≤ 8 * (k + 1) * W + x := by
                have := Nat.mul_le_mul_right W (show 2 ≤ 8 * (k + 1) by omega)
                omega
              clear hpl
              go_wp2_with fail
              refine (smooth_int _ _ (8 * (k + 1) * W + x) W n q w1.heap.size _ _ _ _ (by simp) rfl hI.bp hI.b1 hI.row (colE_byt (colsE_byt (rowsE_byt hg _) _) _) (by omega) hpl3 hpl2 hn).mono ?_
              rintro e w3 ⟨rfl, hR3, ho3⟩
              have HI := Lib.hid (hI.smooth hR3 ho3)
              clear hI hR3 ho3 c0 c1 c2
              go_wp2
              go_roundw
              case rel => exact ⟨k + 1, hke, by go_num, HI.out⟩
              case measure => simp [intOf]; omega
            · have hd : decide (8 * ((k : Int) + 1) + 1 < (H : Int)) = false := by simp; omega
              have hkE : k = edges H := by omega
              have HK := Lib.hid hkE
              have HI := Lib.hid hI
              clear hE HD hkE hI hke hk
              go_wp2
              refine ⟨⟨x + 1, hlt, by go_num, ?_⟩, by simp [intOf]; omega⟩
              have := HI.out
              rw [HK.out] at this
              exact this
        · have hxE : x = W := by omega
          have HX := Lib.hid hxE
          clear hxE
          have c4 := HD.out.bp.cell1
          obtain ⟨d0, d1, d2⟩ := HD.out.b2.cell3
          obtain ⟨f0, f1, f2⟩ := HD.out.b2.frozen3
          go_wp2
          refine bodyPost_ret (v := .tuple #[.agg #[.int .i64 W, .int .i64 H, .slice (some ⟨w1.heap.size, 0, none⟩) n n], .int .i64 0]) (by simp [results, Try.results19, go_sem, d0, d1, d2]) rfl ?_
          have hD := HD.out
          rw [HX.out] at hD
          refine ⟨_, rfl, by omega, ?_, ?_⟩
          · exact ((hD.row.far (by simp; omega) _).far (by simp; omega) _).far (by simp; omega) _
          · exact ((hD.bel.setCell (by simp; omega) _).setCell (by simp; omega) _).setCell (by simp; omega) _
end Go.Proofs.Ytlkogokhcdehfaa
