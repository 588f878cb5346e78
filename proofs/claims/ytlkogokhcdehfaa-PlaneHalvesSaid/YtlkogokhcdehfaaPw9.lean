/- Walks of package plane: Half. -/
import Derived.Test.YtlkogokhcdehfaaGiv
import Derived.Test.YtlkogokhcdehfaaRg3
import Derived.Test.YtlkogokhcdehfaaPw3
import Derived.Test.YtlkogokhcdehfaaKn3
import Derived.Deep.DeepCutAuto
namespace Go.Kin
/-- Sample k of a plane of half the sides. -/
def halfP (W W2 : Nat) (g : Nat → Int) (k : Nat) : Int :=
  (g (2 * (k / W2) * W + 2 * (k % W2)) + g (2 * (k / W2) * W + 2 * (k % W2) + 1) + g (2 * (k / W2) * W + 2 * (k % W2) + W) + g (2 * (k / W2) * W + 2 * (k % W2) + W + 1) + 2) / 4
theorem halfP_byt {W W2 : Nat} {g : Nat → Int} (hg : Byt g) : Byt (halfP W W2 g) := fun k => by
  unfold halfP
  have h1 := hg (2 * (k / W2) * W + 2 * (k % W2))
  have h2 := hg (2 * (k / W2) * W + 2 * (k % W2) + 1)
  have h3 := hg (2 * (k / W2) * W + 2 * (k % W2) + W)
  have h4 := hg (2 * (k / W2) * W + 2 * (k % W2) + W + 1)
  omega
end Go.Kin
namespace Go.Proofs.Ytlkogokhcdehfaa
open Go.RowKit Go.Kin
set_option linter.unusedVariables false

/-- The tests of Half. -/
def halfB (a b : Int) (n : Nat) : Bool := rightB a b n && (a % 2 == 0) && (b % 2 == 0)
theorem halfB_no {a b : Int} {n : Nat} (h : halfB a b n = false) : rightB a b n = false ∨ (rightB a b n = true ∧ (a % 2 != 0) = true) ∨ (rightB a b n = true ∧ (a % 2 != 0) = false ∧ (b % 2 != 0) = true) := by
  unfold halfB at h
  cases h1 : rightB a b n
  · exact .inl rfl
  rw [h1] at h
  by_cases h3 : a % 2 = 0
  · by_cases h4 : b % 2 = 0
    · simp [h3, h4] at h
    · exact .inr (.inr ⟨rfl, by simp [h3], by simp [h4]⟩)
  · exact .inr (.inl ⟨rfl, by simp [h3]⟩)

set_option maxHeartbeats 1000000 in
theorem half_no (a b : Int) (A : Option Addr) (n c : Nat) (w : World) (h : halfB a b n = false) :
    Calls Try.prog 41 #[.agg #[.int .i64 a, .int .i64 b, .slice A n c]] w (NoPlane 61 w) := by
  have K := Kn.start w
  have hc := halfB_no h
  clear h
  have hq : rightB a b n = true → 1 ≤ a ∧ 1 ≤ b := fun h => by obtain ⟨r1, r2, r3, r4, r5⟩ := rightB_iff.1 h; exact ⟨r1, r3⟩
  rcases hc with h1 | ⟨h1, h2⟩ | ⟨h1, h2, h3⟩
  rotate_left
  obtain ⟨q1, q2⟩ := hq h1
  rotate_left
  obtain ⟨q1, q2⟩ := hq h1
  all_goals clear hq
  all_goals go_enter Try.func41, Try.ntmps41
  all_goals go_wp2_with fail
  all_goals refine (right_any _ _ _ _ _ _).mono ?_
  all_goals rintro e w1 ⟨rfl, hb1⟩
  all_goals replace K := ((K.new w.heap.size _ _ rfl).new (w.heap.size + 1) _ _ (by simp)).below hb1
  all_goals clear hb1
  all_goals replace kc0 := Box.cells K.1
  all_goals replace kl0 := Box.lt K.1
  all_goals replace kf0 := Box.frees K.1
  all_goals replace kc1 := Box.cells K.2.1
  all_goals replace kl1 := Box.lt K.2.1
  all_goals replace L : Below _ _ _ := K.2.2.1
  all_goals go_wp2
  all_goals exact bodyPost_ret (v := .tuple #[.agg #[.int .i64 0, .int .i64 0, .slice none 0 0], .int .i64 61]) (by simp [results, Try.results41, go_sem, kc0]) rfl ⟨rfl, ((L.setCell (by simp) _).setCell (by simp) _).setCell (by simp) _⟩

set_option maxRecDepth 100000 in
set_option maxHeartbeats 2000000 in
theorem half_yes (W H W2 H2 : Nat) (A : Option Addr) (N c : Nat) (g : Nat → Int) (w : World) (hr : rightB W H N = true) (hW : W = 2 * W2) (hH : H = 2 * H2) (hg : Byt g) (hS : Rd w A N (by8 g)) :
    Calls Try.prog 41 #[.agg #[.int .i64 W, .int .i64 H, .slice A N c]] w (MadePlane W2 H2 (W2 * H2) (halfP W W2 g) w) := by
  obtain ⟨r1, r2, r3, r4, r5⟩ := rightB_iff.1 hr
  have hNW : N = W * H := by exact_mod_cast r5
  have HNW := Lib.hid hNW
  have hN := rightB_le hr
  have HW := Lib.hid hW
  have HH := Lib.hid hH
  have w1' : 1 ≤ W2 := by omega
  have w2' : W2 ≤ 2048 := by omega
  have h1' : 1 ≤ H2 := by omega
  have h2' : H2 ≤ 2048 := by omega
  have hM : W2 * H2 ≤ 4194304 := Nat.mul_le_mul w2' h2'
  have k1 : ((W : Int) % 2 != 0) = false := by simp; omega
  have k2 : ((H : Int) % 2 != 0) = false := by simp; omega
  obtain ⟨b, off, rfl, hb, _⟩ := hS.some_ (rightB_pos hr)
  have hmk := make_u8 (W2 * H2) (by omega)
  rw [Int.natCast_mul] at hmk
  have m1 : (0 : Int) ≤ (W2 : Int) * H2 := by have := Int.natCast_mul W2 H2; omega
  have m2 : (W2 : Int) * H2 ≤ 4194304 := by have := Int.natCast_mul W2 H2; omega
  have q1 : (W : Int) / 2 = W2 := by omega
  have q2 : (H : Int) / 2 = H2 := by omega
  have HQ1 := Lib.hid q1
  have HQ2 := Lib.hid q2
  have K := (Kn.start w).add (x := .rd (some ⟨b, off, none⟩) N (by8 g)) hS
  clear hS r5 hNW hW hH q1 q2
  go_enter Try.func41, Try.ntmps41
  go_wp2_with fail
  refine (right_any _ _ _ _ _ _).mono ?_
  rintro e w1 ⟨rfl, hb1⟩
  replace K := ((K.new w.heap.size _ _ rfl).new (w.heap.size + 1) _ _ (by simp)).below hb1
  clear hb1
  replace kc0 := Box.cells K.1
  replace kl0 := Box.lt K.1
  replace kc1 := Box.cells K.2.1
  replace kl1 := Box.lt K.2.1
  replace L : Below _ _ _ := K.2.2.2.1
  have l01 := kl0
  have lb1 : b < w1.heap.size := by have := L.size; omega
  go_wp2
  clear kc0 kl0 kc1 kl1 L
  go_cut [4] (fun v w' => ∃ b3 br, v = .pointer (some ⟨b3, 0, none⟩) ∧ w1.heap.size ≤ b3 ∧ w1.heap.size ≤ br ∧ b3 ≠ br ∧ Kn w' [.box b3 #[.int .i64 W2, .int .i64 H2, .slice (some ⟨br, 0, none⟩) (W2 * H2) (W2 * H2)], .row br (W2 * H2) (fun _ => .int .u8 0), .box (w.heap.size + 1) #[.int .i64 0, .int .i64 0, .slice none 0 0], .box w.heap.size #[.int .i64 W, .int .i64 H, .slice (some ⟨b, off, none⟩) N c], .rd (some ⟨b, off, none⟩) N (by8 g), .since w])
  case first =>
    have K0 := Kn.drew K
    have hz : w1.drew.heap.size = w1.heap.size := rfl
    have z1 : IntKind.i64.wrap ((W : Int) / 2) = W2 := by rw [HQ1.out]; exact IntWalk.i64_in _ (by omega)
    have z2 : IntKind.i64.wrap ((H : Int) / 2) = H2 := by rw [HQ2.out]; exact IntWalk.i64_in _ (by omega)
    have z3 : IntKind.i64.wrap ((W2 : Int) * H2) = (W2 : Int) * H2 := IntWalk.i64_in _ (by omega)
    refine wp_region_ordH (fun w' => Box w' w.heap.size #[.int .i64 W, .int .i64 H, .slice (some ⟨b, off, none⟩) N c]) [13, 15, 16] [(0, 1), (1, 1), (2, 1), (3, 1), (4, 1), (5, 1), (6, 1), (7, 1), (8, 1), (9, 1), (10, 1), (11, 1), (12, 1)] _ (by kernel_rfl) (by kernel_rfl) (fun _ _ d _ _ h => by cases d <;> exact h) K0.2.1 (fun _ _ _ h => h) ?_
    generalize w1.drew = w0 at *
    repeat (first | (refine oH_freeG rfl rfl (fun w' hS => by have s1 := Box.cells hS; clear hS; go_simp; with_reducible rfl) ?_; go_simp) | (refine oH_skipG rfl rfl ?_; go_simp))
    refine oH_nil ?_
    refine wpH_fork (i := 13) (j := 15) (by kernel_rfl) (by kernel_rfl) ?_ ?_
    · refine wpOp_do rfl (fun K' hK' => ?_)
      go_simp
      have K1 := K0.make w1.heap.size (.int .u8 0) (W2 * H2) 5 hz.symm
      refine hK' _ _ ⟨K1.2.2.1, ?_⟩
      clear hK' K'
      refine wpH_rest [(14, 1), (15, 2), (16, 2)] rfl (by kernel_rfl) (fun _ _ d _ _ h => by cases d <;> exact h) K1.2.2.1 ?_
      refine oH_free rfl (fun w' hS => by go_simp; with_reducible rfl) ?_
      go_simp
      refine oH_do rfl (fun K' hK' => ?_)
      go_simp
      refine hK' _ _ ⟨Box.alloc K1.2.2.1 _, ?_⟩
      clear hK' K'
      refine oH_do rfl (fun K' hK' => ?_)
      go_simp
      refine hK' _ _ ⟨Box.alloc K1.2.2.1 _, ?_⟩
      clear hK' K'
      refine oH_nil ?_
      go_wp2
      go_meet
      case rel => exact ⟨w1.heap.size + 1, w1.heap.size, rfl, by omega, by omega, by omega, K1.new (w1.heap.size + 1) _ _ (by simp [hz])⟩
    · refine wpOp_do rfl (fun K' hK' => ?_)
      go_simp
      refine hK' _ _ ⟨Box.alloc K0.2.1 _, ?_⟩
      clear hK' K'
      refine wpH_rest [(13, 2), (14, 1), (16, 2)] rfl (by kernel_rfl) (fun _ _ d _ _ h => by cases d <;> exact h) (Box.alloc K0.2.1 _) ?_
      refine oH_do rfl (fun K' hK' => ?_)
      go_simp
      refine hK' _ _ ⟨Box.alloc (Box.alloc K0.2.1 _) _, ?_⟩
      clear hK' K'
      refine oH_free rfl (fun w' hS => by go_simp; with_reducible rfl) ?_
      go_simp
      refine oH_do rfl (fun K' hK' => ?_)
      go_simp
      refine hK' _ _ ⟨Box.alloc (Box.alloc K0.2.1 _) _, ?_⟩
      clear hK' K'
      refine oH_nil ?_
      go_wp2
      go_meet
      case rel =>
        refine ⟨w1.heap.size, w1.heap.size + 1, rfl, by omega, by omega, by omega, ?_⟩
        have KB := ((K0.new w1.heap.size #[.int .i64 W2, .int .i64 H2, .slice (some ⟨w1.heap.size + 1, 0, none⟩) (W2 * H2) (W2 * H2)] 29 hz.symm).make (w1.heap.size + 1) (.int .u8 0) (W2 * H2) 5 (by simp [hz]))
        exact ⟨KB.2.1, KB.1, KB.2.2⟩
  case rest =>
    obtain ⟨b3, br, rfl, h3, h4, h5, K⟩ := hcut
    have kc := Box.cells K.1
    go_wp2
    have HK := Lib.hid (show Kn wc [.row br (W2 * H2) (by8 fun k => if k < 0 * W2 then halfP W W2 g k else 0), .box b3 #[.int .i64 W2, .int .i64 H2, .slice (some ⟨br, 0, none⟩) (W2 * H2) (W2 * H2)], .box (w.heap.size + 1) #[.int .i64 0, .int .i64 0, .slice none 0 0], .box w.heap.size #[.int .i64 W, .int .i64 H, .slice (some ⟨b, off, none⟩) N c], .rd (some ⟨b, off, none⟩) N (by8 g), .since w] from ⟨Row.congr K.2.1 (fun i _ => by simp [by8]), K.1, K.2.2⟩)
    clear K kc hmk
    go_loopw [42] (fun i wr => ∃ y : Nat, y ≤ H2 ∧ i = .int .i64 y ∧ Kn wr [.row br (W2 * H2) (by8 fun k => if k < y * W2 then halfP W W2 g k else 0), .box b3 #[.int .i64 W2, .int .i64 H2, .slice (some ⟨br, 0, none⟩) (W2 * H2) (W2 * H2)], .box (w.heap.size + 1) #[.int .i64 0, .int .i64 0, .slice none 0 0], .box w.heap.size #[.int .i64 W, .int .i64 H, .slice (some ⟨b, off, none⟩) N c], .rd (some ⟨b, off, none⟩) N (by8 g), .since w]) (fun i _ => H2 - (intOf i).toNat)
    case atStart => exact ⟨0, Nat.zero_le _, rfl, HK.out⟩
    case round =>
      obtain ⟨y, hy, rfl, K⟩ := hrel
      clear HK
      by_cases hlt : y < H2
      · have kc := Box.cells K.2.1
        have HK := Lib.hid K
        clear K
        go_wp2
        clear kc
        obtain ⟨wo, rfl⟩ : ∃ wo : World, wo = wr := ⟨_, rfl⟩
        go_loopw [47] (fun i wr => ∃ x : Nat, x ≤ W2 ∧ i = .int .i64 x ∧ Kn wr [.row br (W2 * H2) (by8 fun k => if k < y * W2 + x then halfP W W2 g k else 0), .box b3 #[.int .i64 W2, .int .i64 H2, .slice (some ⟨br, 0, none⟩) (W2 * H2) (W2 * H2)], .box (w.heap.size + 1) #[.int .i64 0, .int .i64 0, .slice none 0 0], .box w.heap.size #[.int .i64 W, .int .i64 H, .slice (some ⟨b, off, none⟩) N c], .rd (some ⟨b, off, none⟩) N (by8 g), .since w]) (fun i _ => W2 - (intOf i).toNat)
        case atStart => exact ⟨0, Nat.zero_le _, rfl, HK.out⟩
        case round =>
          obtain ⟨x, hx, rfl, K⟩ := hrel
          clear HK
          by_cases hxl : x < W2
          · have pl : (2 * y + 1) * W + (2 * x + 1) < N := by
              have h1 := place_lt (W := W) (H := H) (x := 2 * x + 1) (y := 2 * y + 1) (by have := HW.out; omega) (by have := HH.out; omega)
              have h2 := HNW.out
              omega
            have pl1 : 2 * y * W + 2 * x + W + 1 < N := by rw [Nat.add_mul, Nat.one_mul] at pl; omega
            have pi0 : (0 : Int) ≤ 2 * (y : Int) * W := Int.mul_nonneg (by omega) (by omega)
            have pi1 : 2 * (y : Int) * W + 2 * x + W + 1 < N := by exact_mod_cast pl1
            have pq : y * W2 + x < W2 * H2 := place_lt hxl hlt
            have pq0 : (0 : Int) ≤ (y : Int) * W2 := Int.mul_nonneg (by omega) (by omega)
            have pq1 : (y : Int) * W2 + x < (W2 : Int) * H2 := by exact_mod_cast pq
            have pq2 : ((y : Int) * W2 + x).toNat = y * W2 + x := by
              have : ((y * W2 + x : Nat) : Int) = (y : Int) * W2 + x := by simp
              omega
            have HP2 := Lib.hid pq2
            have HV : Hid (halfP W W2 g (y * W2 + x) = (g (2 * y * W + 2 * x) + g (2 * y * W + 2 * x + 1) + g (2 * y * W + 2 * x + W) + g (2 * y * W + 2 * x + W + 1) + 2) / 4) := Lib.hid (by
              obtain ⟨e1, e2⟩ := pos_mod (W := W2) (y := y) hxl
              unfold halfP
              rw [e1, e2])
            obtain ⟨P, hP⟩ : ∃ P : Nat, P = 2 * y * W + 2 * x := ⟨_, rfl⟩
            have hPi : 2 * (y : Int) * W + 2 * x = P := by rw [hP]; simp
            rw [← hP] at HV pl1
            have HPP := Lib.hid hP
            clear hP pq2 pl
            have kc1 := Box.cells K.2.1
            have kc2 := Box.cells K.2.2.2.1
            have c0 := Rd.at_ K.2.2.2.2.1 (i := P) (by omega)
            have c1 := Rd.at_ K.2.2.2.2.1 (i := P + 1) (by omega)
            have c2 := Rd.at_ K.2.2.2.2.1 (i := P + W) (by omega)
            have c3 := Rd.at_ K.2.2.2.2.1 (i := P + W + 1) (by omega)
            have cr := Row.cell K.1 pq
            have fr := Row.frozen K.1 (y * W2 + x)
            simp only [by8] at c0 c1 c2 c3 cr
            have g0 := hg P
            have g1 := hg (P + 1)
            have g2 := hg (P + W)
            have g3 := hg (P + W + 1)
            have HK := Lib.hid K
            clear K
            go_wp2
            have t1 : ((P : Int) + 1).toNat = P + 1 := by omega
            have t2 : ((P : Int) + W).toNat = P + W := by omega
            have t3 : ((P : Int) + W + 1).toNat = P + W + 1 := by omega
            have u1 : (P : Int) < N := by omega
            have u2 : (P : Int) + 1 < N := by omega
            have u3 : (P : Int) + W < N := by omega
            have u4 : (P : Int) + W + 1 < N := by omega
            have v2 : (0 : Int) ≤ (P : Int) + 1 := by omega
            have v3 : (0 : Int) ≤ (P : Int) + W := by omega
            have v4 : (0 : Int) ≤ (P : Int) + W + 1 := by omega
            have z1 : IntKind.i64.wrap ((P : Int) + 1) = P + 1 := IntWalk.i64_in _ (by omega)
            have z2 : IntKind.i64.wrap ((P : Int) + W) = P + W := IntWalk.i64_in _ (by omega)
            have z3 : IntKind.i64.wrap ((P : Int) + W + 1) = P + W + 1 := IntWalk.i64_in _ (by omega)
            have z4 : IntKind.i64.wrap (g P + g (P + 1)) = g P + g (P + 1) := IntWalk.i64_in _ (by omega)
            have z5 : IntKind.i64.wrap (g P + g (P + 1) + g (P + W)) = g P + g (P + 1) + g (P + W) := IntWalk.i64_in _ (by omega)
            have z6 : IntKind.i64.wrap (g P + g (P + 1) + g (P + W) + g (P + W + 1)) = g P + g (P + 1) + g (P + W) + g (P + W + 1) := IntWalk.i64_in _ (by omega)
            go_quiet (fail)
            clear z1 z2 z3 z4 z5 z6 t1 t2 t3 c0 c1 c2 c3
            have pq2 := HP2.out
            go_wp2
            go_roundw
            case rel =>
              refine ⟨x + 1, hxl, by go_num, (Kn.setRow (Kn.drewN HK.out _) (y * W2 + x) _ ⟨by simp [It.off]; omega, by simp [It.off]; omega, by simp [It.off]; omega, off_rd (by omega), by simp [It.off]; omega, trivial⟩).row fun m hm => ?_⟩
              simp only [by8]
              by_cases e1 : m = y * W2 + x
              · rw [if_pos e1, if_pos (by omega), e1, HV.out]
              · rw [if_neg e1]
                by_cases e2 : m < y * W2 + x
                · rw [if_pos e2, if_pos (by omega)]
                · rw [if_neg e2, if_neg (by omega)]
            case measure => simp [intOf]; omega
          · have hxn : x = W2 := by omega
            subst hxn
            go_wp2
            refine ⟨⟨y + 1, hlt, by go_num, ?_⟩, by simp [intOf]; omega⟩
            have e : (y + 1) * x = y * x + x := Nat.succ_mul _ _
            rw [e]
            exact K
      · have hyn : y = H2 := by omega
        subst hyn
        replace kc1 := Box.cells K.2.1
        replace kl1 := Box.lt K.2.1
        replace kc2 := Box.cells K.2.2.1
        replace kl2 := Box.lt K.2.2.1
        replace kf2 := Box.frees K.2.2.1
        replace kc3 := Box.cells K.2.2.2.1
        replace kl3 := Box.lt K.2.2.2.1
        replace L : Below _ _ _ := K.2.2.2.2.2.1
        go_wp2
        refine bodyPost_ret (v := .tuple #[.agg #[.int .i64 W2, .int .i64 y, .slice (some ⟨br, 0, none⟩) (W2 * y) (W2 * y)], .int .i64 0]) (by simp [results, Try.results41, go_sem, kc2]) rfl ?_
        refine ⟨br, rfl, by omega, ?_, ((L.setCell (p := ⟨w.heap.size + 1, 0, none⟩) (by simp) _).setCell (p := ⟨w.heap.size + 1, 1, none⟩) (by simp) _).setCell (p := ⟨w.heap.size + 1, 2, none⟩) (by simp) _⟩
        exact ((Row.far (Row.congr (g := by8 (halfP W W2 g)) K.1 (fun k hk => by simp only [by8]; rw [if_pos (by rw [Nat.mul_comm]; exact hk)])) (p := ⟨w.heap.size + 1, 0, none⟩) (by simp; omega) _).far (p := ⟨w.heap.size + 1, 1, none⟩) (by simp; omega) _).far (p := ⟨w.heap.size + 1, 2, none⟩) (by simp; omega) _
end Go.Proofs.Ytlkogokhcdehfaa
