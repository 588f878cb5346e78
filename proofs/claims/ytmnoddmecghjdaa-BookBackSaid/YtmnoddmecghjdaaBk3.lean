/- Walks of package book: getLow; a number put, a number got. -/
import Derived.Test.YtmnoddmecghjdaaBk2
set_option linter.unusedVariables false
namespace Go.Kin
theorem GS.low_stop {g : Nat → Int} {m : Nat} {z : GS} {base k : Nat} (h : (z.low g m base k).e ≠ 0) : ∀ {n : Nat}, k ≤ n → z.low g m base n = z.low g m base k := by
  intro n hn
  induction n with
  | zero => rw [Nat.le_zero.1 hn]
  | succ n ih =>
    rcases Nat.eq_or_lt_of_le hn with h1 | h1
    · rw [h1]
    · have := ih (by omega)
      show (if (z.low g m base n).e = 0 then _ else z.low g m base n) = _
      rw [this, if_neg h]
theorem GS.len_stop {g : Nat → Int} {m : Nat} {z : GS} {base k : Nat} (h : (z.len g m base k).go = false) : ∀ {n : Nat}, k ≤ n → z.len g m base n = z.len g m base k := by
  intro n hn
  induction n with
  | zero => rw [Nat.le_zero.1 hn]
  | succ n ih =>
    rcases Nat.eq_or_lt_of_le hn with h1 | h1
    · rw [h1]
    · have := ih (by omega)
      show (if (z.len g m base n).go = true then _ else z.len g m base n) = _
      rw [this, if_neg (by rw [h]; simp)]
end Go.Kin
namespace Go.Proofs.Ytmnoddmecghjdaa
open Go.RowKit Go.Kin
def LowR (w : World) (col : Nat → Nat) (i x m : Nat) (g : Nat → Int) (j b : Nat) (r : LR) (e : Ending) (w' : World) : Prop := ∃ col', e = .returned (.tuple #[.int .i64 r.a, .int .i64 r.e]) ∧ SG w' col' i x m g j b r.x ∧ Kp [i, j] w col w' col'
def NumR (w : World) (col : Nat → Nat) (i x m : Nat) (g : Nat → Int) (j b : Nat) (r : NR) (e : Ending) (w' : World) : Prop := ∃ col', e = .returned (.tuple #[.int .i64 r.v, .int .i64 r.e]) ∧ SG w' col' i x m g j b r.x ∧ Kp [i, j] w col w' col'
set_option maxRecDepth 100000 in
set_option maxHeartbeats 4000000 in
theorem getLow_any {w : World} {col : Nat → Nat} {i x j b m : Nat} {g : Nat → Int} {z : GS} (base n : Nat) (h : SG w col i x m g j b z) (hg : Byt g) (hij : i ≠ j) (hok : z.ok m) (hb : base + 37 ≤ 592) (hn : n ≤ 30) :
    Calls Try.prog 83 #[.pointer (some ⟨b, base, none⟩), .pointer (some ⟨x, 0, none⟩), .int .i64 n] w (LowR w col i x m g j b (z.low g m base n)) := by
  have H := Lib.hid h
  have HOK := Lib.hid (fun k => GS.low_ok hg hok base k)
  have HG := Lib.hid hg
  clear h hok hg
  go_enter Try.func83, Try.ntmps83
  go_wp2
  go_loopw [8, 15] (fun a q wr => ∃ (k : Nat) (col' : Nat → Nat), k ≤ n ∧ (z.low g m base k).e = 0 ∧ q = .int .i64 k ∧ a = .int .i64 (z.low g m base k).a ∧ SG wr col' i x m g j b (z.low g m base k).x ∧ Kp [i, j] w col wr col') (fun _ q _ => n - (intOf q).toNat)
  case atStart => exact ⟨0, col, by omega, rfl, rfl, rfl, H.out, Kp.refl _ _ _⟩
  case round =>
    obtain ⟨k, col', hk, he0, rfl, rfl, hS, hK⟩ := hrel
    obtain ⟨ok1, la, ok3⟩ := HOK.out k
    by_cases hlt : k < n
    · have hp30 : 2 ^ k ≤ 2 ^ 30 := Nat.pow_le_pow_right (by omega) (by omega)
      have hlb := Box.lt hS.2.1
      have HS : Hid (SG (wr.alloc (.cells #[.int .u16 1024] 73)) (recol col' wr j) i x m g j b (z.low g m base k).x ∧ Kp [i, j] w col (wr.alloc (.cells #[.int .u16 1024] 73)) (recol col' wr j)) := Lib.hid (by
        have hu := Upd.alloc col' j wr (.cells #[.int .u16 1024] 73)
        exact ⟨⟨DecS.upd hS.1 hij hu, Box.alloc hS.2.1 _, by rw [recol_lt hlb]; exact hS.2.2⟩, hK.trans ((Kp.upd hu).mono mem2r)⟩)
      have HT : Hid (Box (wr.alloc (.cells #[.int .u16 1024] 73)) wr.heap.size #[.int .u16 1024] ∧ recol col' wr j wr.heap.size = j ∧ wr.heap.size ≠ b) := Lib.hid ⟨Box.new _ _ _, recol_ge (Nat.le_refl _), by omega⟩
      have HO := Lib.hid ok1
      have HNX : Hid (z.low g m base (k + 1) = lrNext ((z.low g m base k).x.get1 g m (loJ base k (z.low g m base k).a)) (z.low g m base k).a) := Lib.hid (by
        show (if (z.low g m base k).e = 0 then _ else _) = _
        rw [if_pos he0])
      have HST := Lib.hid (fun (h : (z.low g m base (k + 1)).e ≠ 0) => GS.low_stop h (n := n) (by omega))
      clear hS hK ok1 ok3 he0
      generalize z.low g m base k = r at *
      obtain ⟨r1, a, r3⟩ := r
      dsimp only at *
      by_cases h4 : k < 4
      · have h4' : (k : Int) < 4 := by omega
        have HJ := Lib.hid (show loJ base k a = some (base + 20 + (2 ^ k - 1 + a)) by unfold loJ; rw [if_pos h4])
        go_wp2_with fail
        refine (at_any b base k a _ h4 la).mono ?_
        rintro e w4 ⟨rfl, hb4⟩
        have hS4 := SG.kp HS.out.1 (Kp.below hb4 [] _) (by simp) (by simp)
        have HK4 := Lib.hid (HS.out.2.trans (Kp.below hb4 [i, j] _))
        clear hb4
        go_wp2_with fail
        refine (bget1_book hS4 HG.out hij HO.out (loJ_lt hb h4 la)).mono ?_
        rintro e w5 ⟨c5, rfl, hS5, hK5⟩
        have hbit := GS.get1_bit g m r3 (some (base + 20 + (2 ^ k - 1 + a)))
        have herr := GS.get1_err g m HO.out.1 (some (base + 20 + (2 ^ k - 1 + a)))
        have HQ : Hid (z.low g m base (k + 1) = lrNext (r3.get1 g m (some (base + 20 + (2 ^ k - 1 + a)))) a) := Lib.hid (by rw [← HJ.out]; exact HNX.out)
        have HS5 := Lib.hid (And.intro hS5 (HK4.out.trans hK5))
        clear hS4 hS5 hK5
        generalize r3.get1 g m (some (base + 20 + (2 ^ k - 1 + a))) = q at *
        obtain ⟨q1, q2, q3⟩ := q
        dsimp only at *
        have hor := or_bit a q1 (by omega) (by omega) hbit
        rcases herr with rfl | rfl
        · have HQ2 : Hid (z.low g m base (k + 1) = ⟨0, 2 * a + q1.toNat, q3⟩) := Lib.hid HQ.out
          go_wp2
          go_roundw
          case rel =>
            refine ⟨k + 1, c5, by omega, by rw [HQ2.out], by go_num, ?_, by rw [HQ2.out]; exact HS5.out.1, HS5.out.2⟩
            rw [HQ2.out]
            exact congrArg (Value.int .i64) (by dsimp only; omega)
          case measure => simp [intOf]; omega
        · have HQ2 : Hid (z.low g m base (k + 1) = ⟨41, 0, q3⟩) := Lib.hid HQ.out
          have HST2 : Hid (z.low g m base n = ⟨41, 0, q3⟩) := Lib.hid ((HST.out (by rw [HQ2.out]; simp)).trans HQ2.out)
          go_wp2
          go_ret2
          rw [HST2.out]
          exact ⟨c5, rfl, HS5.out.1, HS5.out.2⟩
      · have h4' : ¬ (k : Int) < 4 := by omega
        have HJ := Lib.hid (show loJ base k a = none by unfold loJ; rw [if_neg h4])
        go_wp2_with fail
        refine (bget1_even HS.out.1 HT.out.1 HT.out.2.1 HT.out.2.2 HG.out hij).mono ?_
        rintro e w5 ⟨c5, rfl, hS5, hK5⟩
        have hbit := GS.get1_bit g m r3 none
        have herr := GS.get1_err g m HO.out.1 none
        have HQ : Hid (z.low g m base (k + 1) = lrNext (r3.get1 g m none) a) := Lib.hid (by rw [← HJ.out]; exact HNX.out)
        have HS5 := Lib.hid (And.intro hS5 (HS.out.2.trans hK5))
        clear hS5 hK5
        generalize r3.get1 g m none = q at *
        obtain ⟨q1, q2, q3⟩ := q
        dsimp only at *
        have hor := or_bit a q1 (by omega) (by omega) hbit
        rcases herr with rfl | rfl
        · have HQ2 : Hid (z.low g m base (k + 1) = ⟨0, 2 * a + q1.toNat, q3⟩) := Lib.hid HQ.out
          go_wp2
          go_roundw
          case rel =>
            refine ⟨k + 1, c5, by omega, by rw [HQ2.out], by go_num, ?_, by rw [HQ2.out]; exact HS5.out.1, HS5.out.2⟩
            rw [HQ2.out]
            exact congrArg (Value.int .i64) (by dsimp only; omega)
          case measure => simp [intOf]; omega
        · have HQ2 : Hid (z.low g m base (k + 1) = ⟨41, 0, q3⟩) := Lib.hid HQ.out
          have HST2 : Hid (z.low g m base n = ⟨41, 0, q3⟩) := Lib.hid ((HST.out (by rw [HQ2.out]; simp)).trans HQ2.out)
          go_wp2
          go_ret2
          rw [HST2.out]
          exact ⟨c5, rfl, HS5.out.1, HS5.out.2⟩
    · obtain rfl : k = n := by omega
      have HS := Lib.hid (And.intro hS hK)
      have HE := Lib.hid he0
      clear hS hK he0
      go_wp2
      go_ret2
      exact ⟨col', by rw [HE.out]; rfl, HS.out.1, HS.out.2⟩
set_option maxRecDepth 100000 in
set_option maxHeartbeats 4000000 in
theorem putNum_any {w : World} {col : Nat → Nat} {i x j b : Nat} {y : PS} (base v : Nat) (h : SS w col i x j b y) (hij : i ≠ j) (hok : y.ok) (hL : y.s.L ≤ 700000) (hb : base + 37 ≤ 592) (hv : v ≤ 1048576) :
    Calls Try.prog 60 #[.pointer (some ⟨b, base, none⟩), .pointer (some ⟨x, 0, none⟩), .int .i64 v] w (PutR w col i x j b (y.num base v)) := by
  have H := Lib.hid h
  have HOK := Lib.hid (fun k => PS.ones_ok hok base k)
  obtain ⟨n1, n2⟩ := num_len hv
  have HN : Hid (y.num base v = (y.lens base (Lib.bitLen (v + 1))).low base (v + 1) (Lib.bitLen (v + 1) - 1) (Lib.bitLen (v + 1) - 1)) := Lib.hid rfl
  have HLN := Lib.hid (PS.lens_ok hok base (Lib.bitLen (v + 1)))
  have HLEN := Try.bits_Len ((v : Int) + 1)
  rw [show ((v : Int) + 1).toNat = v + 1 by omega] at HLEN
  have HLEN := Lib.hid HLEN
  generalize Lib.bitLen (v + 1) = N at *
  have HLD : Hid (y.lens base N = if N < 21 then (y.ones base (N - 1)).put1 (some (base + (N - 1))) 0 else y.ones base (N - 1)) := Lib.hid rfl
  clear h hok
  have hz1 : (N : Int) - 1 = ((N - 1 : Nat) : Int) := by omega
  go_enter Try.func60, Try.ntmps60
  go_wp2_with fail
  refine (HLEN.out _ (by omega) (by omega)).mono ?_
  rintro e w' ⟨rfl, hww⟩
  subst hww
  go_wp2_with fail
  go_loopw [17] (fun q wr => ∃ (k : Nat) (col' : Nat → Nat), k ≤ N - 1 ∧ q = .int .i64 k ∧ SS wr col' i x j b (y.ones base k) ∧ Kp [i, j] w' col wr col') (fun q _ => N - 1 - (intOf q).toNat)
  case atStart => exact ⟨0, col, by omega, rfl, H.out, Kp.refl _ _ _⟩
  case round =>
    obtain ⟨k, col', hk, rfl, hS, hK⟩ := hrel
    obtain ⟨ok1, ok2, ok3⟩ := HOK.out k
    have HS := Lib.hid (And.intro hS hK)
    clear hS hK
    by_cases hlt : k < N - 1
    · have l1 : (k : Int) < 20 := by omega
      have l2 : (k : Int) < ((N - 1 : Nat) : Int) := by omega
      go_wp2_with fail
      refine (bput1_book HS.out.1 hij ok1 (by omega) (by omega) (.inr rfl)).mono ?_
      rintro e w5 ⟨c5, rfl, hS5, hK5⟩
      have HS5 := Lib.hid (And.intro hS5 (HS.out.2.trans hK5))
      clear hS5 hK5
      go_wp2
      go_roundw
      case rel => exact ⟨k + 1, c5, by omega, by go_num, HS5.out.1, HS5.out.2⟩
      case measure => simp [intOf]; omega
    · obtain rfl : k = N - 1 := by omega
      have HO := Lib.hid ok1
      clear ok1
      by_cases h21 : N < 21
      · have l1 : (N : Int) < 21 := by omega
        have l2 : ((N - 1 : Nat) : Int) < 20 := by omega
        go_wp2_with fail
        refine (bput1_book HS.out.1 hij HO.out (by omega) (by omega) (.inl rfl)).mono ?_
        rintro e w5 ⟨c5, rfl, hS5, hK5⟩
        have hL5 := HLN.out
        rw [HLD.out, if_pos h21] at hL5
        have HS5 := Lib.hid (HS.out.2.trans hK5)
        clear hK5
        go_wp2_with fail
        refine (putLow_any base (v + 1) (N - 1) hS5 hij hL5.1 (by omega) hb (by omega) (by omega)).mono ?_
        rintro e w6 ⟨c6, rfl, hS6, hK6⟩
        have HS6 := Lib.hid (And.intro hS6 (HS5.out.trans hK6))
        clear hS5 hS6 hK6 hL5
        go_wp2
        go_ret
        refine ⟨c6, rfl, ?_, HS6.out.2⟩
        rw [HN.out, HLD.out, if_pos h21]
        exact HS6.out.1
      · have l1 : ¬ (N : Int) < 21 := by omega
        have hL5 := HLN.out
        rw [HLD.out, if_neg h21] at hL5
        go_wp2_with fail
        refine (putLow_any base (v + 1) (N - 1) HS.out.1 hij hL5.1 (by omega) hb (by omega) (by omega)).mono ?_
        rintro e w6 ⟨c6, rfl, hS6, hK6⟩
        have HS6 := Lib.hid (And.intro hS6 (HS.out.2.trans hK6))
        clear hS6 hK6 hL5
        go_wp2
        go_ret
        refine ⟨c6, rfl, ?_, HS6.out.2⟩
        rw [HN.out, HLD.out, if_neg h21]
        exact HS6.out.1
end Go.Proofs.Ytmnoddmecghjdaa
