/- Walks of package plane: Lay where the block lies inside, in part at least. -/
import Derived.Test.YtcojphdohpgjnaaPw4
namespace Go.Kin
/-- One row more is laid. -/
theorem layJ_row {W : Nat} {g : Nat → Int} {x y : Int} {n : Nat} {bb : Nat → Int} {j r s f t k : Nat} (hW : 1 ≤ W) (hr : y + (j : Int) = r) (hf : max x 0 = (f : Int)) (ht : min (x + n) W = (t : Int)) (hs : (f : Int) - x = s) (hft : f < t) :
    (if r * W + f ≤ k ∧ k < r * W + f + (t - f) then bb (j * n + s + (k - (r * W + f))) else layJ W g x y n bb j k) = layJ W g x y n bb (j + 1) k := by
  have hm : k % W < W := Nat.mod_lt _ (by omega)
  have hk : k = k / W * W + k % W := by rw [Nat.mul_comm]; exact (Nat.div_add_mod k W).symm
  have key : (r * W + f ≤ k ∧ k < r * W + f + (t - f)) ↔ (k / W = r ∧ f ≤ k % W ∧ k % W < t) := by
    generalize k / W = q at *
    generalize k % W = m at *
    constructor
    · rintro ⟨h1, h2⟩
      have hq : q = r := by
        rcases Nat.lt_trichotomy q r with h | h | h
        · have := Nat.mul_le_mul_right W (show q + 1 ≤ r by omega)
          rw [Nat.succ_mul] at this
          omega
        · exact h
        · have := Nat.mul_le_mul_right W (show r + 1 ≤ q by omega)
          rw [Nat.succ_mul] at this
          omega
      subst hq
      omega
    · rintro ⟨rfl, h1, h2⟩
      omega
  by_cases hc : r * W + f ≤ k ∧ k < r * W + f + (t - f)
  · obtain ⟨h1, h2, h3⟩ := key.1 hc
    rw [if_pos hc]
    unfold layJ
    have e : k - (r * W + f) = k % W - f := by rw [h1] at hk; omega
    rw [h1, e, if_pos (by omega)]
    have e2 : (r : Int) - y = j := by omega
    rw [e2]
    congr 1
    have e3 : (j : Int) * n = ((j * n : Nat) : Int) := by simp
    rw [e3]
    omega
  · rw [if_neg hc]
    have hn : ¬ (k / W = r ∧ f ≤ k % W ∧ k % W < t) := fun h => hc (key.2 h)
    unfold layJ
    generalize k / W = q at *
    generalize k % W = m at *
    by_cases hh : x ≤ (m : Int) ∧ (m : Int) < x + n ∧ y ≤ (q : Int) ∧ (q : Int) < y + j
    · rw [if_pos hh, if_pos (by omega)]
    · rw [if_neg hh, if_neg (by omega)]
end Go.Kin
namespace Go.Proofs.Ytcojphdohpgjnaa
open Go.RowKit Go.Kin
set_option linter.unusedVariables false

set_option maxHeartbeats 2000000 in
theorem lay_in (W H : Nat) (A B : Option Addr) (N c m d : Nat) (g bb : Nat → Int) (x y : Int) (n : Nat) (w : World) (h1 : 1 ≤ n) (h2 : n ≤ 64) (hm : m = n * n) (hr : rightB W H N = true) (ix : I64 x) (iy : I64 y)
    (hS : Rd w A N (by8 g)) (hB : Rd w B m (by8 bb)) (hd : n * n ≤ d) (hd2 : d ≤ 9223372036854775807) (o1 : ¬ x ≤ -n) (o2 : ¬ (W : Int) ≤ x) (o3 : ¬ y ≤ -n) (o4 : ¬ (H : Int) ≤ y) :
    Calls Try.prog 40 #[.agg #[.int .i64 W, .int .i64 H, .slice A N c], .int .i64 x, .int .i64 y, .int .i64 n, .slice B m d] w (MadePlane W H N (layP W g x y n bb) w) := by
  obtain ⟨r1, r2, r3, r4, r5⟩ := rightB_iff.1 hr
  obtain ⟨ix1, ix2⟩ := ix
  obtain ⟨iy1, iy2⟩ := iy
  subst hm
  have hN := rightB_le hr
  have hnn : n * n ≤ 4096 := Nat.mul_le_mul h2 h2
  have hn1 : 1 ≤ n * n := Nat.mul_le_mul h1 h1
  have m1 : (0 : Int) ≤ (n : Int) * n := by have := Int.natCast_mul n n; omega
  have m2 : (n : Int) * n ≤ 4096 := by have := Int.natCast_mul n n; omega
  obtain ⟨b, off, rfl, hb, _⟩ := hB.some_ (by omega)
  have hlA : ∀ k o, A = some ⟨k, o, none⟩ → k < w.heap.size := fun k o hA => by
    obtain ⟨k', o', e, hlt, _⟩ := hS.some_ (rightB_pos hr)
    rw [hA] at e
    injection e with e
    injection e with e
    omega
  have HR5 := Lib.hid r5
  have K := ((Kn.start w).add (x := .rd (some ⟨b, off, none⟩) (n * n) (by8 bb)) hB).add (x := .rd A N (by8 g)) hS
  clear hS hB r5
  go_enter Try.func40, Try.ntmps40
  go_wp2_with fail
  refine (right_any _ _ _ _ _ _).mono ?_
  rintro e w1 ⟨rfl, hb1⟩
  replace K := ((K.new w.heap.size _ _ rfl).new (w.heap.size + 1) _ _ (by simp)).below hb1
  clear hb1
  replace kc0 := Box.cells K.1
  replace kl0 := Box.lt K.1
  replace kc1 := Box.cells K.2.1
  replace kl1 := Box.lt K.2.1
  replace RA : Rd _ _ _ _ := K.2.2.1
  replace RB : Rd _ _ _ _ := K.2.2.2.1
  replace L : Below _ _ _ := K.2.2.2.2.1
  have L1 := L
  go_wp2_with fail
  refine (own_any _ _ _ _ _ _ _ RA (by omega)).mono ?_
  rintro e w2 ⟨br, rfl, hbr, hrow, hb2⟩
  replace K := (K.below hb2).add (x := .row br N (by8 g)) hrow
  replace kc1 := Box.cells K.2.1
  replace kl1 := Box.lt K.2.1
  replace kf1 := Box.frees K.2.1
  replace kc2 := Box.cells K.2.2.1
  replace kl2 := Box.lt K.2.2.1
  replace RA : Rd _ _ _ _ := K.2.2.2.1
  replace RB : Rd _ _ _ _ := K.2.2.2.2.1
  replace L : Below _ _ _ := K.2.2.2.2.2.1
  have n12 : ¬ (w.heap.size + 1 = w2.heap.size) := by omega
  have lb1 : b < w1.heap.size := by have := L1.size; omega
  have nb : br ≠ b := by omega
  have hAb : It.off br (.rd A N (by8 g)) := fun k o hA => by
    subst hA
    have := hlA k o rfl
    omega
  obtain ⟨f, hf⟩ := Int.eq_ofNat_of_zero_le (show 0 ≤ max x 0 by omega)
  obtain ⟨t, ht⟩ := Int.eq_ofNat_of_zero_le (show 0 ≤ min (x + n) W by omega)
  have hft : f < t := by omega
  have htW : t ≤ W := by omega
  have fx : x ≤ f := by omega
  have fx0 : (f : Int) - x < n := by omega
  have tx : (t : Int) ≤ x + n := by omega
  have z1 : IntKind.i64.wrap (x + n) = x + n := IntWalk.i64_in _ (by omega)
  go_wp2
  go_quiet (fail)
  clear z1
  go_wp2
  have HK2 := Lib.hid ((show Kn w2 [.row br N (by8 (layJ W g x y n bb 0)), _, _, _, _, _] by rw [layJ_zero]; exact K).new w2.heap.size #[.int .i64 W, .int .i64 H, .slice (some ⟨br, 0, none⟩) N N] 24 rfl |>.drewN nq)
  have hl2 : br < w2.heap.size := Row.lt K.1
  have l01 := kl0
  clear kl0
  clear K kc1 kf1 kc2 kl1 kl2 RA RB kc0 hrow hb2
  generalize (w2.alloc (.cells #[.int .i64 W, .int .i64 H, .slice (some ⟨br, 0, none⟩) N N] 24)).drewN nq = w3 at HK2 ⊢
  go_loopw [70] (fun i wr => ∃ j : Nat, j ≤ n ∧ i = .int .i64 j ∧ Kn wr [.box w2.heap.size #[.int .i64 W, .int .i64 H, .slice (some ⟨br, 0, none⟩) N N], .row br N (by8 (layJ W g x y n bb j)), .box (w.heap.size + 1) #[.int .i64 0, .int .i64 0, .slice none 0 0], .box w.heap.size #[.int .i64 W, .int .i64 H, .slice A N c], .rd A N (by8 g), .rd (some ⟨b, off, none⟩) (n * n) (by8 bb), .since w]) (fun i _ => n - (intOf i).toNat)
  case atStart => exact ⟨0, Nat.zero_le _, rfl, HK2.out⟩
  case round =>
    obtain ⟨j, hj, rfl, K⟩ := hrel
    clear HK2
    replace kc0 := Box.cells K.1
    replace kl0 := Box.lt K.1
    replace kc2 := Box.cells K.2.2.1
    replace kl2 := Box.lt K.2.2.1
    replace kf2 := Box.frees K.2.2.1
    replace kc3 := Box.cells K.2.2.2.1
    replace kl3 := Box.lt K.2.2.2.1
    replace RB : Rd _ _ _ _ := K.2.2.2.2.2.1
    replace L : Below _ _ _ := K.2.2.2.2.2.2.1
    by_cases hlt : j < n
    · by_cases hin : y + j < 0 ∨ (H : Int) ≤ y + j
      · have hT : (decide (y + (j : Int) < 0) || decide ((H : Int) ≤ y + (j : Int))) = true := by
          simp only [Bool.or_eq_true, decide_eq_true_eq]
          exact hin
        have HI := Lib.hid hin
        clear hin
        go_wp2
        all_goals refine ⟨⟨j + 1, hlt, by go_num, K.1, Row.congr K.2.1 (fun k hk => ?_), K.2.2⟩, by simp [intOf]; omega⟩
        all_goals simp only [by8]
        all_goals rw [layJ_skip (H := H) (by have := HR5.out; have : N = W * H := (by exact_mod_cast this); omega) HI.out]
      · obtain ⟨r, hyr⟩ := Int.eq_ofNat_of_zero_le (show 0 ≤ y + (j : Int) by omega)
        obtain ⟨s, hs⟩ := Int.eq_ofNat_of_zero_le (show 0 ≤ (f : Int) - x by omega)
        have hrH : r < H := by omega
        clear hin
        have q1 : r * W + W ≤ N := by
          have h1 := Nat.mul_le_mul_right W (show r + 1 ≤ H by omega)
          rw [Nat.succ_mul, Nat.mul_comm H W] at h1
          have h2 : N = W * H := by have := HR5.out; exact_mod_cast this
          omega
        have q2 : j * n + n ≤ n * n := by
          have h1 := Nat.mul_le_mul_right n (show j + 1 ≤ n by omega)
          rw [Nat.succ_mul] at h1
          exact h1
        have q1i : (0 : Int) ≤ (r : Int) * W := Int.mul_nonneg (by omega) (by omega)
        have q1j : (r : Int) * W + W ≤ N := by exact_mod_cast q1
        have q2i : (0 : Int) ≤ (j : Int) * n := Int.mul_nonneg (by omega) (by omega)
        have q2j : (j : Int) * n + n ≤ (n : Int) * n := by exact_mod_cast q2
        have g1 : (0 : Int) ≤ (r : Int) * W + t := by omega
        have g2 : (r : Int) * W + t ≤ N := by omega
        have g3 : (0 : Int) ≤ (r : Int) * W + f := by omega
        have g4 : (r : Int) * W + f ≤ max ((r : Int) * W + t) 0 := by omega
        have g5 : ¬ (N = r * W + f) := by omega
        have g6 : x ≤ (j : Int) * n + t := by omega
        have g7 : (j : Int) * n + t - x ≤ d := by omega
        have g8 : x ≤ (j : Int) * n + f := by omega
        have g9 : (j : Int) * n + f - x ≤ max ((j : Int) * n + t - x) 0 := by omega
        have g10 : ¬ (d = j * n + s) := by omega
        have g11 : (0 : Int) ≤ (j : Int) * n + t - x := by omega
        have g12 : (0 : Int) ≤ (j : Int) * n + f - x := by omega
        have HD := Lib.hid q1
        have HD2 := Lib.hid q2
        clear q1 q2
        have HS := Lib.hid hs
        clear hs
        go_wp2
        have hs := HS.out
        have hft' : f ≤ t := by omega
        have e1 : ((r : Int) * W + f).toNat = r * W + f := by
          have : ((r * W + f : Nat) : Int) = (r : Int) * W + f := by simp
          omega
        have e2 : ((j : Int) * n + f - x).toNat = j * n + s := by
          have : ((j * n + s : Nat) : Int) = (j : Int) * n + s := by simp
          omega
        have e3 : ((r : Int) * W + t).toNat = r * W + t := by
          have : ((r * W + t : Nat) : Int) = (r : Int) * W + t := by simp
          omega
        have e4 : ((j : Int) * n + t - x).toNat = j * n + s + (t - f) := by
          have : ((j * n + s : Nat) : Int) = (j : Int) * n + s := by simp
          omega
        have d1 : r * W + t - (r * W + f) = t - f := by omega
        have d2 : j * n + s + (t - f) - (j * n + s) = t - f := by omega
        have z1 : IntKind.i64.wrap ((r : Int) * W + f) = (r : Int) * W + f := IntWalk.i64_in _ (by omega)
        have z2 : IntKind.i64.wrap ((r : Int) * W + t) = (r : Int) * W + t := IntWalk.i64_in _ (by omega)
        have z3 : IntKind.i64.wrap ((j : Int) * n) = (j : Int) * n := IntWalk.i64_in _ (by omega)
        have z4 : IntKind.i64.wrap ((j : Int) * n + f) = (j : Int) * n + f := IntWalk.i64_in _ (by omega)
        have z5 : IntKind.i64.wrap ((j : Int) * n + t) = (j : Int) * n + t := IntWalk.i64_in _ (by omega)
        have z6 : IntKind.i64.wrap ((j : Int) * n + f - x) = (j : Int) * n + f - x := IntWalk.i64_in _ (by omega)
        have z7 : IntKind.i64.wrap ((j : Int) * n + t - x) = (j : Int) * n + t - x := IntWalk.i64_in _ (by omega)
        clear hs
        refine wp_region_allH (fun w' => Box w' w2.heap.size #[.int .i64 W, .int .i64 H, .slice (some ⟨br, 0, none⟩) N N]) [25] [(0,1),(1,1),(2,1),(3,1),(4,1),(5,1),(6,1),(7,1),(8,1),(9,1),(10,1),(11,1),(12,1),(13,1),(14,1),(15,1),(16,1),(17,1),(18,1),(19,1),(20,1),(21,1),(22,1),(23,1),(24,1),(25,2)] (by kernel_rfl) (by kernel_rfl) (fun _ _ d _ _ h => by cases d <;> exact h) (Box.drew K.1) ?_
        repeat (refine oH_free rfl (fun w' hS => by have kS := Box.cells hS; clear hS; go_simp; with_reducible rfl) ?_; go_simp)
        refine oH_do rfl (fun KK hKK => ?_)
        have hsrc : Rd wr.drew (some ⟨b, off + (j * n + s), none⟩) (t - f) (by8 fun i => bb (j * n + s + i)) := fun _ => ⟨b, off + (j * n + s), rfl, fun i hi => by
          have := Rd.at_ (Rd.drew RB) (i := j * n + s + i) (by have := HD2.out; have := HS.out; omega)
          rw [← Nat.add_assoc] at this
          rw [this]
          rfl⟩
        obtain ⟨w', hrun, hR', ho'⟩ := run_copyR (P := Try.prog) (w := wr.drew) (dT := 22) (sT := 22) (ty := 3) (elem := 5) (dCap := N - (r * W + f)) (sCap := d - (j * n + s)) (dLen := t - f) Try.underlying22 size_u8 (Row.drew K.2.1) hsrc (fun _ => rfl) (off := r * W + f) (by have := HD.out; omega)
        rw [Nat.min_self] at hR' hrun
        go_simp
        refine hKK _ _ ⟨Box.oth (Box.drew K.1) ho' (by omega), ?_⟩
        clear hKK KK
        refine oH_nil ?_
        go_wp2
        refine ⟨⟨j + 1, hlt, by go_num, Box.oth (Box.drew K.1) ho' (by omega), Row.congr hR' (fun k hk => ?_), Kn.oth (Kn.drew K.2.2) ho' ⟨by simp [It.off]; omega, by simp [It.off]; omega, hAb, off_rd (by omega), by simp [It.off]; omega, trivial⟩⟩, by simp [intOf]; omega⟩
        have := layJ_row (g := g) (bb := bb) (k := k) (show 1 ≤ W by omega) hyr hf ht HS.out hft
        simp only [by8]
        rw [← this]
        split <;> rfl
    · have hjn : j = n := by omega
      subst hjn
      go_wp2
      refine bodyPost_ret (v := .tuple #[.agg #[.int .i64 W, .int .i64 H, .slice (some ⟨br, 0, none⟩) N N], .int .i64 0]) (by simp [results, Try.results40, go_sem, kc2]) rfl ?_
      refine ⟨br, rfl, by omega, ?_, ((L.setCell (p := ⟨w.heap.size + 1, 0, none⟩) (by simp) _).setCell (p := ⟨w.heap.size + 1, 1, none⟩) (by simp) _).setCell (p := ⟨w.heap.size + 1, 2, none⟩) (by simp) _⟩
      exact ((Row.far K.2.1 (p := ⟨w.heap.size + 1, 0, none⟩) (by simp; omega) _).far (p := ⟨w.heap.size + 1, 1, none⟩) (by simp; omega) _).far (p := ⟨w.heap.size + 1, 2, none⟩) (by simp; omega) _

theorem lay_yes (W H : Nat) (A B : Option Addr) (N c m d : Nat) (g bb : Nat → Int) (x y : Int) (n : Nat) (w : World) (h1 : 1 ≤ n) (h2 : n ≤ 64) (hm : m = n * n) (hr : rightB W H N = true) (ix : I64 x) (iy : I64 y)
    (hS : Rd w A N (by8 g)) (hB : Rd w B m (by8 bb)) (hd : n * n ≤ d) (hd2 : d ≤ 9223372036854775807) :
    Calls Try.prog 40 #[.agg #[.int .i64 W, .int .i64 H, .slice A N c], .int .i64 x, .int .i64 y, .int .i64 n, .slice B m d] w (MadePlane W H N (layP W g x y n bb) w) := by
  by_cases ho : x ≤ -n ∨ (W : Int) ≤ x ∨ y ≤ -n ∨ (H : Int) ≤ y
  · exact lay_out W H A B N c m d g bb x y n w h1 h2 hm hr ix iy hS hB hd hd2 ho
  · exact lay_in W H A B N c m d g bb x y n w h1 h2 hm hr ix iy hS hB hd hd2 (by omega) (by omega) (by omega) (by omega)
end Go.Proofs.Ytcojphdohpgjnaa
