/- PlaneThere: a block that was laid inside a plane is told there, all samples outside stay, and laid again what was there it is as it was: proved for every plane, place and block, no condition. -/
import Derived.Test.YtlkogokhcdehfaaTh0
import Derived.BigGuardPart
import Derived.Deep.Light
namespace Go.Proofs.Ytlkogokhcdehfaa
open Go.ChangeShapes Go.WideShapes Go.ChangeAt Go.RowKit Go.Joins Go.Kin
set_option linter.unusedVariables false

namespace PlaneThere
def inB (X Y n x y : Int) : Bool := decide (X ≤ x) && decide (x < X + n) && decide (Y ≤ y) && decide (y < Y + n)
set_option maxRecDepth 100000 in
set_option maxHeartbeats 4000000 in
theorem walk_yes (w : World) (W H : Nat) (A : Option Addr) (N c : Nat) (g : Nat → Int) (hg : Byt g) (hR : Rd w A N (by8 g)) (X Y n : Nat) (B : Option Addr) (m d : Nat) (bb : Nat → Int) (hbb : Byt bb) (hB : Rd w B m (by8 bb)) (hd : m ≤ d) (hd2 : d ≤ 9223372036854775807)
    (h1 : fitB N = true) (hr : rightB W H N = true) (n1 : 1 ≤ n) (n2 : n ≤ 64) (hm : m = n * n) (hX : X + n ≤ W) (hY : Y + n ≤ H) :
    Calls Try.prog 10 #[.agg #[.int .i64 W, .int .i64 H, .slice A N c], .agg #[.int .i64 X, .int .i64 Y, .int .i64 n], .slice B m d] w fun e w' => e = .returned (.bool true) ∧ Below w.heap.size w w' := by
  obtain ⟨r1, r2, r3, r4, r5⟩ := rightB_iff.1 hr
  have hNW : N = W * H := by exact_mod_cast r5
  have HNW := Lib.hid hNW
  clear r5 hNW
  subst hm
  have hnn : n * n ≤ 4096 := Nat.mul_le_mul n2 n2
  have m1 : (0 : Int) ≤ (n : Int) * n := by have := Int.natCast_mul n n; omega
  have m2 : (n : Int) * n ≤ 4096 := by have := Int.natCast_mul n n; omega
  have hX' : (X : Int) + n ≤ W := by omega
  have hY' : (Y : Int) + n ≤ H := by omega
  have K := ((Kn.start w).add (x := .rd A N (by8 g)) hR).add (x := .rd B (n * n) (by8 bb)) hB
  clear hR hB
  go_enter Try.func10, Try.ntmps10
  go_wp2_with fail
  refine (fits_any _ _ _ _ _ _).mono ?_
  rintro e w1 ⟨rfl, hb1⟩
  replace K := ((K.new w.heap.size _ _ rfl).new (w.heap.size + 1) _ _ (by simp)).below hb1
  clear hb1
  replace kc0 := Box.cells K.1
  replace kl0 := Box.lt K.1
  replace kc1 := Box.cells K.2.1
  replace kl1 := Box.lt K.2.1
  replace L : Below _ _ _ := K.2.2.2.2.1
  go_wp2_with fail
  refine (right_any _ _ _ _ _ _).mono ?_
  rintro e w2 ⟨rfl, hb2⟩
  replace K := K.below hb2
  clear hb2
  replace kc0 := Box.cells K.1
  replace kl0 := Box.lt K.1
  replace kc1 := Box.cells K.2.1
  replace kl1 := Box.lt K.2.1
  replace RB : Rd _ _ _ _ := K.2.2.1
  replace RA : Rd _ _ _ _ := K.2.2.2.1
  replace L : Below _ _ _ := K.2.2.2.2.1
  go_wp2_with fail
  refine (block_yes W H A N c g X Y n _ hr RA n1 n2 ⟨by omega, by omega⟩ ⟨by omega, by omega⟩).mono ?_
  rintro e w3 ⟨b3, rfl, hb3, hr3, hL3⟩
  replace K := (K.below hL3).add (x := .row b3 (n * n) (by8 (blockP W H g X Y n))) hr3
  clear hL3 hr3
  replace kc1 := Box.cells K.2.1
  replace kl1 := Box.lt K.2.1
  replace kc2 := Box.cells K.2.2.1
  replace kl2 := Box.lt K.2.2.1
  replace RB : Rd _ _ _ _ := K.2.2.2.1
  replace RA : Rd _ _ _ _ := K.2.2.2.2.1
  replace L : Below _ _ _ := K.2.2.2.2.2.1
  go_wp2_with fail
  refine (lay_yes W H A B N c (n * n) d g bb X Y n _ n1 n2 rfl hr ⟨by omega, by omega⟩ ⟨by omega, by omega⟩ RA RB hd hd2).mono ?_
  rintro e w4 ⟨b4, rfl, hb4, hr4, hL4⟩
  replace K := (K.below hL4).add (x := .row b4 N (by8 (layP W g X Y n bb))) hr4
  clear hL4 hr4
  replace R4 : Row _ _ _ _ := K.1
  replace R3 : Row _ _ _ _ := K.2.1
  replace kc2 := Box.cells K.2.2.1
  replace kl2 := Box.lt K.2.2.1
  replace kc3 := Box.cells K.2.2.2.1
  replace kl3 := Box.lt K.2.2.2.1
  replace RB : Rd _ _ _ _ := K.2.2.2.2.1
  replace RA : Rd _ _ _ _ := K.2.2.2.2.2.1
  replace L : Below _ _ _ := K.2.2.2.2.2.2.1
  have l4 := kl2
  go_wp2_with fail
  refine (lay_yes W H _ _ N N (n * n) (n * n) (layP W g X Y n bb) (blockP W H g X Y n) X Y n _ n1 n2 rfl hr ⟨by omega, by omega⟩ ⟨by omega, by omega⟩ (R4.alloc _).rd (R3.alloc _).rd (Nat.le_refl _) (by omega)).mono ?_
  rintro e w5 ⟨b5, rfl, hb5, hr5, hL5⟩
  replace K := ((K.new w4.heap.size #[.int .i64 W, .int .i64 H, .slice (some ⟨b4, 0, none⟩) N N] 29 rfl).below hL5).add (x := .row b5 N (by8 g)) (Row.congr hr5 (fun k hk => by simp only [by8]; rw [lay_back hX hY (by have := HNW.out; omega)]))
  clear hL5 hr5
  replace R5 : Row _ _ _ _ := K.1
  replace kc1 := Box.cells K.2.1
  replace kl1 := Box.lt K.2.1
  replace R4 : Row _ _ _ _ := K.2.2.1
  replace R3 : Row _ _ _ _ := K.2.2.2.1
  replace kc4 := Box.cells K.2.2.2.2.1
  replace kl4 := Box.lt K.2.2.2.2.1
  replace kc5 := Box.cells K.2.2.2.2.2.1
  replace kl5 := Box.lt K.2.2.2.2.2.1
  replace RB : Rd _ _ _ _ := K.2.2.2.2.2.2.1
  replace RA : Rd _ _ _ _ := K.2.2.2.2.2.2.2.1
  replace L : Below _ _ _ := K.2.2.2.2.2.2.2.2.1
  go_wp2
  have K2 := K.new w5.heap.size #[.int .i64 W, .int .i64 H, .slice (some ⟨b5, 0, none⟩) N N] 29 rfl
  clear kc1 kl1 kc4 kl4 kc5 kl5 K R5 R4 R3 RB RA L
  generalize hw6 : w5.alloc (.cells #[.int .i64 W, .int .i64 H, .slice (some ⟨b5, 0, none⟩) N N] 29) = w6 at K2 ⊢
  clear hw6
  refine wp_region_allH (fun w' => Kn w' _) [13] [(0,1),(1,1),(2,1),(3,1),(4,1),(5,1),(6,1),(7,1),(8,1),(9,1),(10,1),(11,1),(12,1),(15,1),(16,1),(13,2),(14,0),(17,0),(18,0),(19,0),(20,0),(21,0),(22,0),(23,0),(24,0),(25,0),(26,0),(27,0)] (by kernel_rfl) (by kernel_rfl) (fun _ _ d _ _ h => by cases d <;> exact h) (Kn.drew K2) ?_
  repeat (first | (refine oH_freeG rfl rfl (fun w' hS => by have s1 := Box.cells hS.2.2.1; have s2 := Box.cells hS.2.2.2.2.2.1; have s3 := Box.cells hS.2.2.2.2.2.2.1; have s4 := conv_any (c := d) hS.2.2.2.2.2.2.2.1; clear hS; go_simp; with_reducible rfl) ?_; go_simp) | (refine oH_skipG rfl rfl ?_; go_simp))
  refine oH_doG rfl rfl (fun KK hKK => ?_)
  go_simp
  refine (block_yes W H _ N N (layP W g X Y n bb) X Y n _ hr (Row.rd (Row.drew K2.2.2.2.1)) n1 n2 ⟨by omega, by omega⟩ ⟨by omega, by omega⟩).mono ?_
  rintro e w7 ⟨b7, rfl, hb7, hr7, hL7⟩
  have K3 := (Kn.drew K2).below hL7
  have R7 : Row w7 b7 (n * n) (by8 bb) := Row.congr hr7 (fun k hk => by simp only [by8]; rw [block_lay hX hY hk])
  refine hKK _ _ ⟨K3, ?_⟩
  clear hKK KK hL7 hr7 K2
  have k1 := conv_any (c := n * n) R7.rd
  have k2 := conv_any (c := N) (Row.rd K3.2.1)
  have k3 := conv_any (c := c) K3.2.2.2.2.2.2.2.2.1
  have s0 := Box.cells K3.1
  have s3 := Box.cells K3.2.2.2.2.2.2.1
  repeat (refine oH_still rfl (fun KK hKK => ?_); go_simp; refine hKK _ ?_; clear hKK KK)
  refine oH_nil ?_
  clear k1 k2 k3 s0 s3
  go_wp2
  have HK := Lib.hid (show Kn w7 [.box w4.heap.size #[.int .i64 W, .int .i64 H, .slice (some ⟨b4, 0, none⟩) N N], .row b4 N (by8 (layP W g X Y n bb)), .box (w.heap.size + 1) #[.int .i64 X, .int .i64 Y, .int .i64 n], .box w.heap.size #[.int .i64 W, .int .i64 H, .slice A N c], .rd A N (by8 g), .since w] from ⟨K3.2.2.1, K3.2.2.2.1, K3.2.2.2.2.2.1, K3.2.2.2.2.2.2.1, K3.2.2.2.2.2.2.2.2.1, K3.2.2.2.2.2.2.2.2.2.1, trivial⟩)
  clear K3 R7
  go_loopw [14] (fun i wr => ∃ k : Nat, k ≤ H ∧ i = .int .i64 k ∧ Kn wr [.box w4.heap.size #[.int .i64 W, .int .i64 H, .slice (some ⟨b4, 0, none⟩) N N], .row b4 N (by8 (layP W g X Y n bb)), .box (w.heap.size + 1) #[.int .i64 X, .int .i64 Y, .int .i64 n], .box w.heap.size #[.int .i64 W, .int .i64 H, .slice A N c], .rd A N (by8 g), .since w]) (fun i _ => H - (intOf i).toNat)
  case atStart => exact ⟨0, Nat.zero_le _, rfl, HK.out⟩
  case round =>
    obtain ⟨y, hy, rfl, K⟩ := hrel
    clear HK
    replace kc0 := Box.cells K.1
    replace kl0 := Box.lt K.1
    replace kc2 := Box.cells K.2.2.1
    replace kl2 := Box.lt K.2.2.1
    replace kc3 := Box.cells K.2.2.2.1
    replace kl3 := Box.lt K.2.2.2.1
    replace L : Below _ _ _ := K.2.2.2.2.2.1
    by_cases hlt : y < H
    · go_wp2
      clear kc0 kl0 kc2 kl2 kc3 kl3 L
      have HK := Lib.hid K
      clear K
      obtain ⟨wo, rfl⟩ : ∃ wo : World, wo = wr := ⟨_, rfl⟩
      go_loopw [15] (fun i wr => ∃ k : Nat, k ≤ W ∧ i = .int .i64 k ∧ Kn wr [.box w4.heap.size #[.int .i64 W, .int .i64 H, .slice (some ⟨b4, 0, none⟩) N N], .row b4 N (by8 (layP W g X Y n bb)), .box (w.heap.size + 1) #[.int .i64 X, .int .i64 Y, .int .i64 n], .box w.heap.size #[.int .i64 W, .int .i64 H, .slice A N c], .rd A N (by8 g), .since w]) (fun i _ => W - (intOf i).toNat)
      case atStart => exact ⟨0, Nat.zero_le _, rfl, HK.out⟩
      case round =>
        obtain ⟨x, hx, rfl, K⟩ := hrel
        clear HK
        replace kc0 := Box.cells K.1
        replace kl0 := Box.lt K.1
        replace kc2 := Box.cells K.2.2.1
        replace kl2 := Box.lt K.2.2.1
        replace kc3 := Box.cells K.2.2.2.1
        replace kl3 := Box.lt K.2.2.2.1
        replace L : Below _ _ _ := K.2.2.2.2.2.1
        by_cases hxl : x < W
        · go_upto_region 16 with (fail)
          go_cut [16] (fun v w' => wr = w' ∧ v = .bool (inB X Y n x y))
          case first =>
            go_wp2
            all_goals go_meet
            all_goals refine ⟨rfl, ?_⟩
            all_goals go_light
            all_goals first | (simp [inB, *]; done) | (simp [inB, *]; omega)
          case rest =>
            obtain ⟨rfl, rfl⟩ := hcut
            cases hin : inB X Y n x y
            · have hn : ¬ ((X : Int) ≤ x ∧ (x : Int) < X + n ∧ (Y : Int) ≤ y ∧ (y : Int) < Y + n) := by
                intro hh
                have : inB X Y n x y = true := by simp only [inB, Bool.and_eq_true, decide_eq_true_eq, and_assoc]; exact hh
                rw [hin] at this
                cases this
              have hv : atP W H (layP W g X Y n bb) x y = atP W H g x y := by rw [at_in hxl hlt, at_in hxl hlt, lay_off hxl hn]
              have HV := Lib.hid hv
              clear hv hn
              have K2 := K
              clear K kc0 kl0 kc2 kl2 kc3 kl3 L
              go_wp2
              refine wp_region_allH (fun w' => Kn w' _) [6, 10] [(0,1),(1,1),(2,1),(3,1),(4,1),(5,1),(7,1),(8,1),(9,1),(6,2),(10,2),(11,0),(12,0)] (by kernel_rfl) (by kernel_rfl) (fun _ _ d _ _ h => by cases d <;> exact h) (Kn.drew K2) ?_
              repeat (first | (refine oH_freeG rfl rfl (fun w' hS => by have s1 := Box.cells hS.1; have s2 := Box.cells hS.2.2.2.1; clear hS; go_simp; with_reducible rfl) ?_; go_simp) | (refine oH_skipG rfl rfl ?_; go_simp))
              refine oH_doG rfl rfl (fun KK hKK => ?_)
              go_simp
              refine (at_yes W H _ N N (layP W g X Y n bb) x y _ hr (Row.rd (Row.drew K2.2.1))).mono ?_
              rintro e w8 ⟨rfl, hL8⟩
              have K3 := (Kn.drew K2).below hL8
              refine hKK _ _ ⟨K3, ?_⟩
              clear hKK KK hL8 K2
              refine oH_doG rfl rfl (fun KK hKK => ?_)
              go_simp
              refine (at_yes W H A N c g x y _ hr K3.2.2.2.2.1).mono ?_
              rintro e w9 ⟨rfl, hL9⟩
              have K4 := K3.below hL9
              rw [HV.out]
              refine hKK _ _ ⟨K4, ?_⟩
              clear hKK KK hL9 K3
              repeat (refine oH_still rfl (fun KK hKK => ?_); go_simp; refine hKK _ ?_; clear hKK KK)
              refine oH_nil ?_
              have HK := Lib.hid K4
              clear K4
              go_wp2
              exact ⟨⟨x + 1, hxl, by go_num, HK.out⟩, by simp [intOf]; omega⟩
            · have K2 := K
              clear K kc0 kl0 kc2 kl2 kc3 kl3 L
              go_wp2
              refine wp_region_allH (fun w' => Kn w' _) [] [(0,1),(1,1),(2,1),(3,1),(4,1),(5,1),(6,1),(7,1),(8,1),(9,1),(10,1),(11,1),(12,1)] (by kernel_rfl) (by kernel_rfl) (fun _ _ d _ _ h => by cases d <;> exact h) (Kn.drew K2) ?_
              repeat (first | (refine oH_freeG rfl rfl (fun w' hS => by have s1 := Box.cells hS.1; have s2 := Box.cells hS.2.2.2.1; clear hS; go_simp; with_reducible rfl) ?_; go_simp) | (refine oH_skipG rfl rfl ?_; go_simp))
              refine oH_nil ?_
              have HK := Lib.hid (Kn.drew K2)
              clear K2
              go_wp2
              exact ⟨⟨x + 1, hxl, by go_num, HK.out⟩, by simp [intOf]; omega⟩
        · have HK := Lib.hid K
          clear K
          go_wp2
          exact ⟨⟨y + 1, hlt, by go_num, HK.out⟩, by simp [intOf]; omega⟩
    ·
      go_wp2_with fail
      refine (alive06 _).mono ?_
      rintro e w8 ⟨rfl, hb8⟩
      replace K := K.below hb8
      clear hb8
      replace L : Below _ _ _ := K.2.2.2.2.2.1
      go_wp2
      go_ret
      exact ⟨rfl, L⟩
theorem walk (w : World) (a b : Int) (A : Option Addr) (n c : Nat) (g : Nat → Int) (ia : I64 a) (ib : I64 b) (hR : Rd w A n (by8 g)) (hg : Byt g) (hnc : n ≤ c) (hc : c ≤ 9223372036854775807) (x y q : Int) (ix : I64 x) (iy : I64 y) (iq : I64 q)
    (B : Option Addr) (m d : Nat) (bb : Nat → Int) (hB : Rd w B m (by8 bb)) (hbb : Byt bb) (hd : m ≤ d) (hd2 : d ≤ 9223372036854775807) :
    Calls Try.prog 10 #[.agg #[.int .i64 a, .int .i64 b, .slice A n c], .agg #[.int .i64 x, .int .i64 y, .int .i64 q], .slice B m d] w fun e w' => e = .returned (.bool true) ∧ Below w.heap.size w w' := by
  by_cases he : early a b n m x y q
  · exact walk_no w ⟨a, b, A, n, c, g⟩ x y q B m d he
  · obtain ⟨h1, h2, h3, h4, h5, h6, h7, h8, h9⟩ := early_not he
    obtain ⟨r1, r2, r3, r4, r5⟩ := rightB_iff.1 h2
    obtain ⟨W, rfl⟩ := Int.eq_ofNat_of_zero_le (show 0 ≤ a by omega)
    obtain ⟨H, rfl⟩ := Int.eq_ofNat_of_zero_le (show 0 ≤ b by omega)
    obtain ⟨X, rfl⟩ := Int.eq_ofNat_of_zero_le h6
    obtain ⟨Y, rfl⟩ := Int.eq_ofNat_of_zero_le h7
    obtain ⟨q, rfl⟩ := Int.eq_ofNat_of_zero_le (show 0 ≤ q by omega)
    have hm : m = q * q := by exact_mod_cast h5
    exact walk_yes w W H A n c g hg hR X Y q B m d bb hbb hB hd hd2 h1 h2 (by omega) (by omega) hm (by omega) (by omega)
end PlaneThere
namespace PlaneThere
set_option maxRecDepth 100000 in
theorem lifted (os : Os) (started : os.Started) (H : Type) (enc : TypeId × Value → H) :
    ReturnsInHanded {} Try.checked os 10 .any (Rows.planeThereSpec.pre6 enc Try.prog Try.f10 Rows.planeThereRow.domain false) (Rows.planeThereSpec.post enc Try.prog Try.f10 false true false false) := by
  refine returnsInHanded_of_change (C := Try.checked) own started (by kernel_rfl) Try.func10
    (ChangeSpec.witness6 (enc := enc) (C := Try.checked) false ⟨#[], #[.agg #[.int .i64 0, .int .i64 0, .slice none 0 0], .agg #[.int .i64 0, .int .i64 0, .int .i64 0], .slice none 0 0], []⟩ 8 (by kernel_rfl) (by kernel_rfl) (by kernel_rfl) (by kernel_rfl)) ?_
  intro W base args ds gs before hval0 hW hcnd _
  have hval : ∀ (j : Nat) t v, Try.f10.params[j]? = some t → args[j]? = some v → Value.okWide Try.prog W .any base t v := hval0
  refine law_post (tb := 4) laidOut (by kernel_rfl) rfl Try.underlying4 rfl (fun ds' h => ?_) hW ?_
  · rw [Try.params10] at h
    match ds', h with
    | [d1, d2, d3], _ => exact ⟨rfl, rfl, rfl⟩
  obtain ⟨p, q, hA0, hV, rfl, hfz, hnd⟩ := hW
  have hA : DataW.TrodAll enc Try.prog W 0 (fun _ => true) true Try.f10.params.toList args.toList ds p := hA0
  rw [Try.params10] at hA hval
  obtain ⟨v0, vs0, d0, ds0, p0, q0, hargs, rfl, rfl, h0, r0⟩ := trodAll_cons hA
  obtain ⟨v1, vs1, d1, ds1, p1, q1, rfl, rfl, rfl, h1, r1⟩ := trodAll_cons r0
  obtain ⟨v2, vs2, d2, ds2, p2, q2, rfl, rfl, rfl, h2, r2⟩ := trodAll_cons r1
  obtain ⟨rfl, rfl, rfl⟩ := trodAll_nil r2
  obtain rfl : args = #[v0, v1, v2] := by cases args; simp_all
  obtain ⟨a0, b0, A0, n0, c0, g0, rfl, w0, x0, rr0, t0, l0, m0⟩ := open_plane Try.underlying29 (by kernel_rfl) ⟨rfl, rfl⟩ ⟨rfl, rfl⟩ ⟨rfl, rfl⟩ Try.underlying3 Try.underlying27 Try.underlying5 (by kernel_rfl) (by kernel_rfl) (by kernel_rfl) (hval 0 29 v0 rfl rfl) h0
  obtain ⟨a1, b1, c1, rfl, w1, x1, y1⟩ := open_arr3 Try.underlying50 Try.underlying3 (by kernel_rfl) (by kernel_rfl) (hval 1 50 v1 rfl rfl) h1
  obtain ⟨A2, n2, c2, g2, rfl, rr2, t2, l2, m2⟩ := open_bytes Try.underlying27 Try.underlying5 (by kernel_rfl) (hval 2 27 v2 rfl rfl) h2
  exact walk W a0 b0 A0 n0 c0 g0 w0 x0 rr0 t0 l0 m0 a1 b1 c1 w1 x1 y1 A2 n2 c2 g2 rr2 t2 l2 m2
theorem over : Rows.planeThereRow.holds Try.pinned (OpenSpec.ofChange Rows.planeThereSpec) :=
  OpenClaim.holds_of_wide 10 Try.f10 rfl rfl rfl rfl rfl rfl rfl ⟨rfl, rfl, rfl, rfl, rfl⟩ rfl rfl rfl rfl rfl (by kernel_rfl) Try.func10 (by kernel_rfl)
    (of_decide_eq_true (by kernel_rfl)) (by unfold Func.isWrapper; first | (rw [if_pos (by decide +kernel)]; kernel_rfl) | (rw [if_neg (by decide +kernel)]; exact ⟨rfl, rfl⟩))
    (fun os started H enc _ => lifted os started H enc)
end PlaneThere
theorem planeThere_holds : Rows.PlaneThereSaid := PlaneThere.over

end Go.Proofs.Ytlkogokhcdehfaa
