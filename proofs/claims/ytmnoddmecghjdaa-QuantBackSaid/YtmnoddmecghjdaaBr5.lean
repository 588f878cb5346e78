/- The document's book: a number with a sign put; a number got, with a sign, a choice got. -/
import Derived.Test.YtmnoddmecghjdaaBr4
set_option linter.unusedVariables false
namespace Go.Proofs.Ytmnoddmecghjdaa
open Go.RowKit Go.Kin
def NumRR (w : World) (col : Nat → Nat) (i x m : Nat) (g : Nat → Int) (r : Nat) (A : Option Addr) (c j b : Nat) (q : NR) (e : Ending) (w' : World) : Prop := ∃ col', e = .returned (.tuple #[.int .i64 q.v, .int .i64 q.e]) ∧ SGR w' col' i x m g r A c j b q.x ∧ Kp [i, j] w col w' col'
section
variable {w : World} {col : Nat → Nat} {i j x b t : Nat} {y : PS}
theorem rPutS_no (b x : Nat) (t v : Int) (w : World) (h : topB t = false ∨ v < -1048576 ∨ 1048576 < v) :
    Calls Try.prog 51 #[.pointer (some ⟨b, 0, none⟩), .pointer (some ⟨x, 0, none⟩), .int .i64 t, .int .i64 v] w fun e w' => e = .returned (.int .i64 1) ∧ w = w' := by
  have h' : v < -1048576 ∨ (¬ v < -1048576 ∧ 1048576 < v) ∨ (¬ v < -1048576 ∧ ¬ 1048576 < v) := by omega
  rcases h' with h1 | ⟨h1, h2⟩ | ⟨h1, h2⟩
  · go_enter Try.func51, Try.ntmps51
    go_wp2
    go_ret
    exact ⟨rfl, rfl⟩
  · clear h
    go_enter Try.func51, Try.ntmps51
    go_wp2
    go_ret
    exact ⟨rfl, rfl⟩
  · have HT : Hid (topB t = false) := Lib.hid (h.elim id (fun h => by omega))
    have zn : IntKind.i64.wrap (-v) = -v := by rw [IntKind.wrap_i64]; omega
    clear h
    go_enter Try.func51, Try.ntmps51
    go_wp2_with (go_at_call 50; refine (rPut_no b x t _ _ (.inl HT.out)).mono ?_; rintro e w' ⟨rfl, rfl⟩)
    go_ret
    exact ⟨rfl, rfl⟩
set_option maxHeartbeats 1000000 in
theorem rPutS_yes (t : Nat) (v : Int) (h : SSR w col i x j b y) (hij : i ≠ j) (hok : y.ok) (hL : y.s.L ≤ 600000) (ht : t < 16) (hv : -1048576 ≤ v ∧ v ≤ 1048576) :
    Calls Try.prog 51 #[.pointer (some ⟨b, 0, none⟩), .pointer (some ⟨x, 0, none⟩), .int .i64 t, .int .i64 v] w (PutRI w col i x j b (y.sgn (37 * t) v)) := by
  have l1 : ¬ v < -1048576 := by omega
  have l2 : ¬ (1048576 : Int) < v := by omega
  have hn := PS.num_ok hok (37 * t) (v := v.natAbs) (by omega)
  rcases (show (∃ u : Nat, v = -(u : Int) ∧ 0 < u) ∨ (v = 0 ∨ ∃ u : Nat, v = u ∧ 0 < u) by
    rcases Int.lt_trichotomy v 0 with h | h | h
    · exact .inl ⟨v.natAbs, by omega, by omega⟩
    · exact .inr (.inl h)
    · exact .inr (.inr ⟨v.natAbs, by omega, by omega⟩)) with ⟨u, rfl, hu⟩ | rfl | ⟨u, rfl, hu⟩
  · have l0 : -(u : Int) < 0 := by omega
    have l3 : ¬ (0 : Int) < -(u : Int) := by omega
    have hm : max (-(u : Int)) (u : Int) = u := Int.max_eq_right (by omega)
    have HF : Hid (y.sgn (37 * t) (-(u : Int)) = (y.num (37 * t) u).put1 (some (37 * t + 36)) 1) := Lib.hid (by unfold PS.sgn; rw [if_neg (by omega), if_pos l0, show (-(u : Int)).natAbs = u by omega])
    rw [show (-(u : Int)).natAbs = u by omega] at hn
    have HN := Lib.hid hn
    clear hn
    go_enter Try.func51, Try.ntmps51
    go_wp2_with fail
    try rw [hm]
    refine (rPut_yes t u h hij hok (by omega) ht (by omega)).mono ?_
    rintro e w' ⟨c', rfl, hS, hK⟩
    have HK := Lib.hid hK
    clear hK
    go_wp2_with fail
    refine (rput1_book (bit := 1) hS hij HN.out.1 (by have := HN.out; omega) ht (k := 36) (by omega) (.inr rfl)).mono ?_
    rintro e w5 ⟨c5, rfl, hS5, hK5⟩
    have HS5 : Hid (SSR w5 c5 i x j b (y.sgn (37 * t) (-(u : Int))) ∧ Kp [i, j] w col w5 c5) := Lib.hid ⟨by rw [HF.out]; exact hS5, HK.out.trans hK5⟩
    clear hS5 hK5 hS
    go_wp2
    go_ret
    exact ⟨c5, rfl, HS5.out.1, HS5.out.2⟩
  · have HF : Hid (y.sgn (37 * t) 0 = y.num (37 * t) 0) := Lib.hid (by unfold PS.sgn; rw [if_pos rfl])
    go_enter Try.func51, Try.ntmps51
    go_wp2_with fail
    refine (rPut_yes t 0 h hij hok (by omega) ht (by omega)).mono ?_
    rintro e w' ⟨c', rfl, hS, hK⟩
    rw [← HF.out] at hS
    go_wp2
    go_ret
    exact ⟨c', rfl, hS, hK⟩
  · have l0 : ¬ (u : Int) < 0 := by omega
    have l3 : (0 : Int) < (u : Int) := by omega
    have zn : IntKind.i64.wrap (-(u : Int)) = -(u : Int) := by rw [IntKind.wrap_i64]; omega
    have hm : max (u : Int) (-(u : Int)) = u := Int.max_eq_left (by omega)
    have HF : Hid (y.sgn (37 * t) (u : Int) = (y.num (37 * t) u).put1 (some (37 * t + 36)) 0) := Lib.hid (by unfold PS.sgn; rw [if_neg (by omega), if_neg l0, show ((u : Int)).natAbs = u by omega])
    rw [show ((u : Int)).natAbs = u by omega] at hn
    have HN := Lib.hid hn
    clear hn
    go_enter Try.func51, Try.ntmps51
    go_wp2_with fail
    try rw [hm]
    refine (rPut_yes t u h hij hok (by omega) ht (by omega)).mono ?_
    rintro e w' ⟨c', rfl, hS, hK⟩
    have HK := Lib.hid hK
    clear hK
    go_wp2_with fail
    refine (rput1_book (bit := 0) hS hij HN.out.1 (by have := HN.out; omega) ht (k := 36) (by omega) (.inl rfl)).mono ?_
    rintro e w5 ⟨c5, rfl, hS5, hK5⟩
    have HS5 : Hid (SSR w5 c5 i x j b (y.sgn (37 * t) (u : Int)) ∧ Kp [i, j] w col w5 c5) := Lib.hid ⟨by rw [HF.out]; exact hS5, HK.out.trans hK5⟩
    clear hS5 hK5 hS
    go_wp2
    go_ret
    exact ⟨c5, rfl, HS5.out.1, HS5.out.2⟩
end
section
variable {w : World} {col : Nat → Nat} {i j x b m t r c : Nat} {A : Option Addr} {z : GS} {g : Nat → Int}
theorem rget1_pl (h : SGR w col i x m g r A c j b z) (hij : i ≠ j) (hr : r ≠ i) (hrj : r ≠ j) (hg : Byt g) (hm : m ≤ 1000000) (hok : BkOk z.C) (ht : t < 16) (q a : Nat) (ha : a < 2 ^ q) :
    Calls Try.prog 84 #[.pointer (some ⟨b, 0, none⟩), .pointer (some ⟨x, 0, none⟩), .int .i64 t, .int .i64 (plJ q a)] w (GetRR w col i x m g r A c j b (z.get1 g m (loJ (37 * t) q a))) := by
  unfold plJ loJ
  by_cases h4 : q < 4
  · rw [if_pos h4, if_pos h4]
    have hq : 2 ^ q ≤ 2 ^ 3 := Nat.pow_le_pow_right (by omega) (by omega)
    have := rget1_book h hij hr hrj hg hm hok ht (k := 20 + (2 ^ q - 1 + a)) (by omega)
    rw [show 37 * t + (20 + (2 ^ q - 1 + a)) = 37 * t + 20 + (2 ^ q - 1 + a) from (Nat.add_assoc _ _ _).symm] at this
    exact this
  · rw [if_neg h4, if_neg h4]
    exact rget1_even h hij hr hg hm
theorem rGet_no (b x : Nat) (t : Int) (w : World) (ht : topB t = false) :
    Calls Try.prog 56 #[.pointer (some ⟨b, 0, none⟩), .pointer (some ⟨x, 0, none⟩), .int .i64 t] w fun e w' => e = .returned (.tuple #[.int .i64 0, .int .i64 1]) ∧ w = w' := by
  go_enter Try.func56, Try.ntmps56
  go_wp2_with (go_at_call 75; refine (rtopic_any _ _).mono ?_; rintro e w' ⟨rfl, rfl⟩; rw [ht])
  go_ret2
  exact ⟨rfl, rfl⟩
set_option maxRecDepth 100000 in
set_option maxHeartbeats 8000000 in
theorem rGet_yes (t : Nat) (h : SGR w col i x m g r A c j b z) (hg : Byt g) (hij : i ≠ j) (hr : r ≠ i) (hrj : r ≠ j) (hm : m ≤ 1000000) (hok : z.ok m) (ht : t < 16) :
    Calls Try.prog 56 #[.pointer (some ⟨b, 0, none⟩), .pointer (some ⟨x, 0, none⟩), .int .i64 t] w (NumRR w col i x m g r A c j b (z.num g m (37 * t))) := by
  have H := Lib.hid h
  have HT := Lib.hid (topB_nat ht)
  have HOK := Lib.hid (fun k => GS.len_ok hg hok (37 * t) k)
  have HG := Lib.hid hg
  have HNUM : Hid (z.num g m (37 * t) = nrLen g m (37 * t) (z.len g m (37 * t) 20)) := Lib.hid rfl
  clear h hok hg
  go_enter Try.func56, Try.ntmps56
  go_wp2_with fail
  refine (rtopic_any _ _).mono ?_
  rintro e w' ⟨rfl, hww⟩
  subst hww
  rw [HT.out]
  go_wp2_with fail
  go_loopw [9] (fun q wr => ∃ (k : Nat) (y : GS) (col' : Nat → Nat), k ≤ 20 ∧ z.len g m (37 * t) k = ⟨true, k + 1, 0, y⟩ ∧ q = .int .i64 ((k : Int) + 1) ∧ SGR wr col' i x m g r A c j b y ∧ Kp [i, j] w col wr col') (fun q _ => 22 - (intOf q).toNat)
  case atStart => exact ⟨0, z, col, by omega, rfl, rfl, H.out, Kp.refl _ _ _⟩
  case round =>
    obtain ⟨k, y, col', hk, hl, rfl, hS, hK⟩ := hrel
    have hok := (HOK.out k).1
    rw [hl] at hok
    have HS := Lib.hid (And.intro hS hK)
    have HY : Hid (y.ok m) := Lib.hid hok
    clear hS hK hok
    by_cases hlt : k < 20
    · have HNX : Hid (z.len g m (37 * t) (k + 1) = qrNext (y.get1 g m (some (37 * t + k))) (k + 1)) := Lib.hid (by
        show (if (z.len g m (37 * t) k).go = true then _ else _) = _
        rw [hl, if_pos rfl]
        rfl)
      have HST := Lib.hid (fun (h : (z.len g m (37 * t) (k + 1)).go = false) => GS.len_stop h (n := 20) (by omega))
      clear hl
      have l1 : (k : Int) + 1 < 21 := by omega
      have l2 : (k : Int) < 20 := by omega
      go_wp2_with fail
      refine (rget1_book HS.out.1 hij hr hrj HG.out hm HY.out.1 ht (k := k) (by omega)).mono ?_
      rintro e w5 ⟨c5, rfl, hS5, hK5⟩
      have hbit := GS.get1_bit g m y (some (37 * t + k))
      have herr := GS.get1_err g m HY.out.1 (some (37 * t + k))
      have hok5 := GS.get1_ok HG.out HY.out (some (37 * t + k))
      have HS5 := Lib.hid (And.intro hS5 (HS.out.2.trans hK5))
      clear hS5 hK5
      generalize y.get1 g m (some (37 * t + k)) = q at *
      obtain ⟨q1, q2, q3⟩ := q
      dsimp only at *
      have HY5 := Lib.hid hok5
      clear hok5
      rcases herr with rfl | rfl
      · rcases hbit with rfl | rfl
        · have HQ : Hid (z.len g m (37 * t) 20 = ⟨false, k + 1, 0, q3⟩) := Lib.hid ((HST.out (by rw [HNX.out]; rfl)).trans HNX.out)
          have HW := HS5
          have HZ := HY5
          clear HS HY HS5 HY5 HNX HST
          have HR : Hid (z.num g m (37 * t) = nrLow (q3.low g m (37 * t) k) k) := Lib.hid (by rw [HNUM.out, HQ.out]; rfl)
          have HOK2 := Lib.hid (fun q => GS.low_ok HG.out HZ.out (37 * t) q)
          have hN1 : (k : Int) + 1 - 1 = k := by omega
          go_wp2_with fail
          go_loopw [12, 13] (fun vv iv wr => ∃ (q : Nat) (col' : Nat → Nat), q ≤ k ∧ (q3.low g m (37 * t) q).e = 0 ∧ iv = .int .i64 q ∧ vv = .int .i64 (((2 ^ q : Nat) : Int) + (q3.low g m (37 * t) q).a) ∧ SGR wr col' i x m g r A c j b (q3.low g m (37 * t) q).x ∧ Kp [i, j] w col wr col') (fun _ iv _ => k - (intOf iv).toNat)
          case atStart => exact ⟨0, c5, by omega, rfl, rfl, rfl, HW.out.1, HW.out.2⟩
          case round =>
            clear HW
            obtain ⟨q, c6, hq, he0, rfl, rfl, hS, hK⟩ := hrel
            obtain ⟨ok1, la, le⟩ := HOK2.out q
            have HS := Lib.hid (And.intro hS hK)
            have hp20 : 2 ^ q ≤ 2 ^ 20 := Nat.pow_le_pow_right (by omega) (by omega)
            have hp0 : 0 < 2 ^ q := Nat.pow_pos (by omega)
            have hpc : (2 : Int) ^ q = ((2 ^ q : Nat) : Int) := by push_cast; rfl
            by_cases hlt : q < k
            · have HNX : Hid (q3.low g m (37 * t) (q + 1) = lrNext ((q3.low g m (37 * t) q).x.get1 g m (loJ (37 * t) q (q3.low g m (37 * t) q).a)) (q3.low g m (37 * t) q).a) := Lib.hid (by
                show (if (q3.low g m (37 * t) q).e = 0 then _ else _) = _
                rw [if_pos he0])
              have HSTP := Lib.hid (fun (h : (q3.low g m (37 * t) (q + 1)).e ≠ 0) => GS.low_stop h (n := k) (by omega))
              have HO := Lib.hid ok1
              clear hS hK ok1 le he0
              generalize q3.low g m (37 * t) q = rr at *
              obtain ⟨re, a, ry⟩ := rr
              dsimp only at *
              have HPS : Hid (((2 ^ (q + 1) : Nat) : Int) = 2 * ((2 ^ q : Nat) : Int)) := Lib.hid (by rw [Nat.pow_succ]; omega)
              have HGT := Lib.hid (rget1_pl HS.out.1 hij hr hrj HG.out hm HO.out.1 ht q a la)
              generalize 2 ^ q = P at *
              have hsub : (P : Int) + (a : Int) - (P : Int) = a := by omega
              have l3 : (q : Int) < (k : Int) := by omega
              go_wp2_with fail
              refine (rplace_any q a _ (by omega) (by omega)).mono ?_
              rintro e w' ⟨rfl, hww⟩
              subst hww
              go_wp2_with fail
              refine HGT.out.mono ?_
              rintro e w6 ⟨c7, rfl, hS5, hK5⟩
              have hbit := GS.get1_bit g m ry (loJ (37 * t) q a)
              have herr := GS.get1_err g m HO.out.1 (loJ (37 * t) q a)
              have HS5 := Lib.hid (And.intro hS5 (HS.out.2.trans hK5))
              clear hS5 hK5
              generalize ry.get1 g m (loJ (37 * t) q a) = u at *
              obtain ⟨q1, q2, q4⟩ := u
              dsimp only at *
              rcases herr with rfl | rfl
              · have HQ2 : Hid (q3.low g m (37 * t) (q + 1) = ⟨0, 2 * a + q1.toNat, q4⟩) := Lib.hid HNX.out
                go_wp2
                go_roundw
                case rel =>
                  refine ⟨q + 1, c7, by omega, by rw [HQ2.out], by go_num, ?_, by rw [HQ2.out]; exact HS5.out.1, HS5.out.2⟩
                  rw [HQ2.out, HPS.out]
                  exact congrArg (Value.int .i64) (by dsimp only; omega)
                case measure => simp [intOf]; omega
              · have HQ2 : Hid (q3.low g m (37 * t) (q + 1) = ⟨41, 0, q4⟩) := Lib.hid HNX.out
                have HST2 : Hid (q3.low g m (37 * t) k = ⟨41, 0, q4⟩) := Lib.hid ((HSTP.out (by rw [HQ2.out]; simp)).trans HQ2.out)
                go_wp2
                go_ret2
                rw [HR.out, HST2.out]
                exact ⟨c7, rfl, HS5.out.1, HS5.out.2⟩
            · obtain rfl : q = k := by omega
              have l3 : ¬ (q : Int) < (q : Int) := by omega
              clear hS hK ok1 le
              generalize q3.low g m (37 * t) q = rr at *
              obtain ⟨re, a, ry⟩ := rr
              dsimp only at *
              subst he0
              have HPP : Hid (∃ P, 2 ^ q = P) := Lib.hid ⟨_, rfl⟩
              by_cases hbig : 2 ^ q + a - 1 > 1048576
              · have HF : Hid (z.num g m (37 * t) = ⟨0, 51, ry⟩) := Lib.hid (by rw [HR.out]; unfold nrLow; rw [if_pos rfl, if_pos hbig])
                generalize 2 ^ q = P at *
                have hbig' : (1048576 : Int) < (P : Int) + a - 1 := by omega
                clear hbig
                go_wp2
                go_ret2
                rw [HF.out]
                exact ⟨c6, rfl, HS.out.1, HS.out.2⟩
              · have HF : Hid (z.num g m (37 * t) = ⟨(2 ^ q + a - 1 : Nat), 0, ry⟩) := Lib.hid (by rw [HR.out]; unfold nrLow; rw [if_pos rfl, if_neg hbig])
                generalize hP : 2 ^ q = P at *
                have HP := Lib.hid hP
                clear hP
                have hbig' : ¬ (1048576 : Int) < (P : Int) + a - 1 := by omega
                have HV := Lib.hid (show (((P + a - 1 : Nat)) : Int) = (P : Int) + a - 1 by omega)
                clear hbig
                go_wp2
                go_ret2
                rw [HF.out]
                refine ⟨c6, ?_, HS.out.1, HS.out.2⟩
                dsimp only
                rw [HV.out]
                rfl
        · have HQ : Hid (z.len g m (37 * t) (k + 1) = ⟨true, k + 1 + 1, 0, q3⟩) := Lib.hid HNX.out
          go_wp2
          go_roundw
          case rel => exact ⟨k + 1, q3, c5, by omega, HQ.out, by go_num, HS5.out.1, HS5.out.2⟩
          case measure => simp [intOf]; omega
      · have HQ : Hid (z.len g m (37 * t) 20 = ⟨false, k + 1, 41, q3⟩) := Lib.hid ((HST.out (by rw [HNX.out]; rfl)).trans HNX.out)
        go_wp2
        go_ret2
        rw [HNUM.out, HQ.out]
        exact ⟨c5, rfl, HS5.out.1, HS5.out.2⟩
    · have HQ : Hid (z.len g m (37 * t) 20 = ⟨true, k + 1, 0, y⟩) := Lib.hid (by rw [show 20 = k by omega]; exact hl)
      have HW := HS
      have HZ := HY
      have l1 : ¬ (k : Int) + 1 < 21 := by omega
      have l2 : ¬ (k : Int) < 20 := by omega
      clear HS HY hl hlt
      have HR : Hid (z.num g m (37 * t) = nrLow (y.low g m (37 * t) k) k) := Lib.hid (by rw [HNUM.out, HQ.out]; rfl)
      have HOK2 := Lib.hid (fun q => GS.low_ok HG.out HZ.out (37 * t) q)
      have hN1 : (k : Int) + 1 - 1 = k := by omega
      obtain ⟨w5, rfl⟩ : ∃ w5 : World, w5 = wr := ⟨_, rfl⟩
      go_wp2_with fail
      go_loopw [12, 13] (fun vv iv wr => ∃ (q : Nat) (col' : Nat → Nat), q ≤ k ∧ (y.low g m (37 * t) q).e = 0 ∧ iv = .int .i64 q ∧ vv = .int .i64 (((2 ^ q : Nat) : Int) + (y.low g m (37 * t) q).a) ∧ SGR wr col' i x m g r A c j b (y.low g m (37 * t) q).x ∧ Kp [i, j] w col wr col') (fun _ iv _ => k - (intOf iv).toNat)
      case atStart => exact ⟨0, col', by omega, rfl, rfl, rfl, HW.out.1, HW.out.2⟩
      case round =>
        clear HW
        obtain ⟨q, c6, hq, he0, rfl, rfl, hS, hK⟩ := hrel
        obtain ⟨ok1, la, le⟩ := HOK2.out q
        have HS := Lib.hid (And.intro hS hK)
        have hp20 : 2 ^ q ≤ 2 ^ 20 := Nat.pow_le_pow_right (by omega) (by omega)
        have hp0 : 0 < 2 ^ q := Nat.pow_pos (by omega)
        have hpc : (2 : Int) ^ q = ((2 ^ q : Nat) : Int) := by push_cast; rfl
        by_cases hlt : q < k
        · have HNX : Hid (y.low g m (37 * t) (q + 1) = lrNext ((y.low g m (37 * t) q).x.get1 g m (loJ (37 * t) q (y.low g m (37 * t) q).a)) (y.low g m (37 * t) q).a) := Lib.hid (by
            show (if (y.low g m (37 * t) q).e = 0 then _ else _) = _
            rw [if_pos he0])
          have HSTP := Lib.hid (fun (h : (y.low g m (37 * t) (q + 1)).e ≠ 0) => GS.low_stop h (n := k) (by omega))
          have HO := Lib.hid ok1
          clear hS hK ok1 le he0
          generalize y.low g m (37 * t) q = rr at *
          obtain ⟨re, a, ry⟩ := rr
          dsimp only at *
          have HPS : Hid (((2 ^ (q + 1) : Nat) : Int) = 2 * ((2 ^ q : Nat) : Int)) := Lib.hid (by rw [Nat.pow_succ]; omega)
          have HGT := Lib.hid (rget1_pl HS.out.1 hij hr hrj HG.out hm HO.out.1 ht q a la)
          generalize 2 ^ q = P at *
          have hsub : (P : Int) + (a : Int) - (P : Int) = a := by omega
          have l3 : (q : Int) < (k : Int) := by omega
          go_wp2_with fail
          refine (rplace_any q a _ (by omega) (by omega)).mono ?_
          rintro e w' ⟨rfl, hww⟩
          subst hww
          go_wp2_with fail
          refine HGT.out.mono ?_
          rintro e w6 ⟨c7, rfl, hS5, hK5⟩
          have hbit := GS.get1_bit g m ry (loJ (37 * t) q a)
          have herr := GS.get1_err g m HO.out.1 (loJ (37 * t) q a)
          have HS5 := Lib.hid (And.intro hS5 (HS.out.2.trans hK5))
          clear hS5 hK5
          generalize ry.get1 g m (loJ (37 * t) q a) = u at *
          obtain ⟨q1, q2, q4⟩ := u
          dsimp only at *
          rcases herr with rfl | rfl
          · have HQ2 : Hid (y.low g m (37 * t) (q + 1) = ⟨0, 2 * a + q1.toNat, q4⟩) := Lib.hid HNX.out
            go_wp2
            go_roundw
            case rel =>
              refine ⟨q + 1, c7, by omega, by rw [HQ2.out], by go_num, ?_, by rw [HQ2.out]; exact HS5.out.1, HS5.out.2⟩
              rw [HQ2.out, HPS.out]
              exact congrArg (Value.int .i64) (by dsimp only; omega)
            case measure => simp [intOf]; omega
          · have HQ2 : Hid (y.low g m (37 * t) (q + 1) = ⟨41, 0, q4⟩) := Lib.hid HNX.out
            have HST2 : Hid (y.low g m (37 * t) k = ⟨41, 0, q4⟩) := Lib.hid ((HSTP.out (by rw [HQ2.out]; simp)).trans HQ2.out)
            go_wp2
            go_ret2
            rw [HR.out, HST2.out]
            exact ⟨c7, rfl, HS5.out.1, HS5.out.2⟩
        · obtain rfl : q = k := by omega
          have l3 : ¬ (q : Int) < (q : Int) := by omega
          clear hS hK ok1 le
          generalize y.low g m (37 * t) q = rr at *
          obtain ⟨re, a, ry⟩ := rr
          dsimp only at *
          subst he0
          have HPP : Hid (∃ P, 2 ^ q = P) := Lib.hid ⟨_, rfl⟩
          by_cases hbig : 2 ^ q + a - 1 > 1048576
          · have HF : Hid (z.num g m (37 * t) = ⟨0, 51, ry⟩) := Lib.hid (by rw [HR.out]; unfold nrLow; rw [if_pos rfl, if_pos hbig])
            generalize 2 ^ q = P at *
            have hbig' : (1048576 : Int) < (P : Int) + a - 1 := by omega
            clear hbig
            go_wp2
            go_ret2
            rw [HF.out]
            exact ⟨c6, rfl, HS.out.1, HS.out.2⟩
          · have HF : Hid (z.num g m (37 * t) = ⟨(2 ^ q + a - 1 : Nat), 0, ry⟩) := Lib.hid (by rw [HR.out]; unfold nrLow; rw [if_pos rfl, if_neg hbig])
            generalize hP : 2 ^ q = P at *
            have HP := Lib.hid hP
            clear hP
            have hbig' : ¬ (1048576 : Int) < (P : Int) + a - 1 := by omega
            have HV := Lib.hid (show (((P + a - 1 : Nat)) : Int) = (P : Int) + a - 1 by omega)
            clear hbig
            go_wp2
            go_ret2
            rw [HF.out]
            refine ⟨c6, ?_, HS.out.1, HS.out.2⟩
            dsimp only
            rw [HV.out]
            rfl
theorem rGetS_no (b x : Nat) (t : Int) (w : World) (ht : topB t = false) :
    Calls Try.prog 57 #[.pointer (some ⟨b, 0, none⟩), .pointer (some ⟨x, 0, none⟩), .int .i64 t] w fun e w' => e = .returned (.tuple #[.int .i64 0, .int .i64 1]) ∧ w = w' := by
  go_enter Try.func57, Try.ntmps57
  go_wp2_with (go_at_call 56; refine (rGet_no _ _ _ _ ht).mono ?_; rintro e w' ⟨rfl, rfl⟩)
  go_ret2
  exact ⟨rfl, rfl⟩
set_option maxHeartbeats 1000000 in
theorem rGetS_yes (t : Nat) (h : SGR w col i x m g r A c j b z) (hg : Byt g) (hij : i ≠ j) (hr : r ≠ i) (hrj : r ≠ j) (hm : m ≤ 1000000) (hok : z.ok m) (ht : t < 16) :
    Calls Try.prog 57 #[.pointer (some ⟨b, 0, none⟩), .pointer (some ⟨x, 0, none⟩), .int .i64 t] w (NumRR w col i x m g r A c j b (z.sgn g m (37 * t))) := by
  have hn := GS.num_ok hg hok (37 * t)
  have HSG : Hid (z.sgn g m (37 * t) = if (z.num g m (37 * t)).e = 0 ∧ (z.num g m (37 * t)).v ≠ 0 then nrSgn ((z.num g m (37 * t)).x.get1 g m (some (37 * t + 36))) (z.num g m (37 * t)).v else ⟨0, (z.num g m (37 * t)).e, (z.num g m (37 * t)).x⟩) := Lib.hid rfl
  have HG := Lib.hid hg
  clear hg
  go_enter Try.func57, Try.ntmps57
  go_wp2_with fail
  refine (rGet_yes t h HG.out hij hr hrj hm hok ht).mono ?_
  rintro e w' ⟨c', rfl, hS, hK⟩
  generalize z.num g m (37 * t) = r0 at *
  obtain ⟨v, e, y⟩ := r0
  dsimp only at *
  obtain ⟨n1, n2, n3, n4⟩ := hn
  have HY := Lib.hid n1
  have HS := Lib.hid (And.intro hS hK)
  clear n1 hS hK h
  rcases n4 with rfl | ⟨rfl, rfl⟩ | ⟨rfl, rfl⟩
  · by_cases hv : v = 0
    · have HF : Hid (z.sgn g m (37 * t) = ⟨0, 0, y⟩) := Lib.hid (by rw [HSG.out, if_neg (fun h => h.2 hv)])
      subst hv
      go_wp2
      go_ret2
      rw [HF.out]
      exact ⟨c', rfl, HS.out.1, HS.out.2⟩
    · have HF : Hid (z.sgn g m (37 * t) = nrSgn (y.get1 g m (some (37 * t + 36))) v) := Lib.hid (by rw [HSG.out, if_pos ⟨rfl, hv⟩])
      have l3 : (v == 0) = false := by simp [hv]
      clear hv
      go_wp2_with fail
      refine (rget1_book HS.out.1 hij hr hrj HG.out hm HY.out.1 ht (k := 36) (by omega)).mono ?_
      rintro e w5 ⟨c5, rfl, hS5, hK5⟩
      have hbit := GS.get1_bit g m y (some (37 * t + 36))
      have herr := GS.get1_err g m HY.out.1 (some (37 * t + 36))
      have HS5 := Lib.hid (And.intro hS5 (HS.out.2.trans hK5))
      clear hS5 hK5
      generalize y.get1 g m (some (37 * t + 36)) = q at *
      obtain ⟨q1, q2, q3⟩ := q
      dsimp only at *
      rcases herr with rfl | rfl
      · rcases hbit with rfl | rfl
        · have HF2 : Hid (z.sgn g m (37 * t) = ⟨v, 0, q3⟩) := Lib.hid HF.out
          go_wp2
          go_ret2
          rw [HF2.out]
          exact ⟨c5, rfl, HS5.out.1, HS5.out.2⟩
        · have HF2 : Hid (z.sgn g m (37 * t) = ⟨-v, 0, q3⟩) := Lib.hid HF.out
          go_wp2
          go_ret2
          rw [HF2.out]
          exact ⟨c5, rfl, HS5.out.1, HS5.out.2⟩
      · have HF2 : Hid (z.sgn g m (37 * t) = ⟨0, 41, q3⟩) := Lib.hid HF.out
        go_wp2
        go_ret2
        rw [HF2.out]
        exact ⟨c5, rfl, HS5.out.1, HS5.out.2⟩
  · have HF : Hid (z.sgn g m (37 * t) = ⟨0, 41, y⟩) := Lib.hid (by rw [HSG.out, if_neg (fun h => h.2 rfl)])
    go_wp2
    go_ret2
    rw [HF.out]
    exact ⟨c', rfl, HS.out.1, HS.out.2⟩
  · have HF : Hid (z.sgn g m (37 * t) = ⟨0, 51, y⟩) := Lib.hid (by rw [HSG.out, if_neg (fun h => h.2 rfl)])
    go_wp2
    go_ret2
    rw [HF.out]
    exact ⟨c', rfl, HS.out.1, HS.out.2⟩
theorem rGetO_no (b x : Nat) (t n : Int) (w : World) (h : topB t = false ∨ n < 1 ∨ 16 < n) :
    Calls Try.prog 58 #[.pointer (some ⟨b, 0, none⟩), .pointer (some ⟨x, 0, none⟩), .int .i64 t, .int .i64 n] w fun e w' => e = .returned (.tuple #[.int .i64 0, .int .i64 1]) ∧ w = w' := by
  cases ht : topB t
  · go_enter Try.func58, Try.ntmps58
    go_wp2_with (go_at_call 75; refine (rtopic_any _ _).mono ?_; rintro e w' ⟨rfl, rfl⟩; rw [ht])
    go_ret2
    exact ⟨rfl, rfl⟩
  · have h' : n < 1 ∨ (¬ n < 1 ∧ 16 < n) := by
      rcases h with h | h
      · rw [ht] at h; cases h
      · omega
    clear h
    rcases h' with h1 | ⟨h1, h2⟩
    all_goals
      go_enter Try.func58, Try.ntmps58
      go_wp2_with (go_at_call 75; refine (rtopic_any _ _).mono ?_; rintro e w' ⟨rfl, rfl⟩; rw [ht])
      go_ret2
      exact ⟨rfl, rfl⟩
set_option maxRecDepth 100000 in
set_option maxHeartbeats 8000000 in
theorem rGetO_yes (t n : Nat) (h : SGR w col i x m g r A c j b z) (hg : Byt g) (hij : i ≠ j) (hr : r ≠ i) (hrj : r ≠ j) (hm : m ≤ 1000000) (hok : z.ok m) (ht : t < 16) (h1 : 1 ≤ n) (h16 : n ≤ 16) :
    Calls Try.prog 58 #[.pointer (some ⟨b, 0, none⟩), .pointer (some ⟨x, 0, none⟩), .int .i64 t, .int .i64 n] w (NumRR w col i x m g r A c j b (z.one g m (37 * t) n)) := by
  have HW : Hid (SGR w col i x m g r A c j b z ∧ Kp [i, j] w col w col) := Lib.hid ⟨h, Kp.refl _ _ _⟩
  have HT := Lib.hid (topB_nat ht)
  have HG := Lib.hid hg
  have hb4 := bitLen_le (n := 4) (x := n - 1) (by omega) (by omega)
  have HWD := Lib.hid (fun w => rwidth_any n w h1 h16)
  have HR : Hid (z.one g m (37 * t) n = nrOne (z.low g m (37 * t) (Lib.bitLen (n - 1))) n) := Lib.hid rfl
  have HOK2 := Lib.hid (fun q => GS.low_ok hg hok (37 * t) q)
  generalize Lib.bitLen (n - 1) = N at *
  clear h hok hg
  have l1 : ¬ (n : Int) < 1 := by omega
  have l2 : ¬ (16 : Int) < n := by omega
  go_enter Try.func58, Try.ntmps58
  go_wp2_with fail
  refine (rtopic_any _ _).mono ?_
  rintro e w' ⟨rfl, hww⟩
  subst hww
  rw [HT.out]
  go_wp2_with fail
  refine (HWD.out _).mono ?_
  rintro e w' ⟨rfl, hww⟩
  subst hww
  go_wp2_with fail
  go_loopw [11, 13] (fun vv iv wr => ∃ (q : Nat) (col' : Nat → Nat), q ≤ N ∧ (z.low g m (37 * t) q).e = 0 ∧ iv = .int .i64 q ∧ vv = .int .i64 (z.low g m (37 * t) q).a ∧ SGR wr col' i x m g r A c j b (z.low g m (37 * t) q).x ∧ Kp [i, j] w col wr col') (fun _ iv _ => N - (intOf iv).toNat)
  case atStart => exact ⟨0, col, by omega, rfl, rfl, rfl, HW.out.1, HW.out.2⟩
  case round =>
    clear HW
    obtain ⟨q, c6, hq, he0, rfl, rfl, hS, hK⟩ := hrel
    obtain ⟨ok1, la, le⟩ := HOK2.out q
    have HS := Lib.hid (And.intro hS hK)
    have hp20 : 2 ^ q ≤ 2 ^ 4 := Nat.pow_le_pow_right (by omega) (by omega)
    by_cases hlt : q < N
    · have HNX : Hid (z.low g m (37 * t) (q + 1) = lrNext ((z.low g m (37 * t) q).x.get1 g m (loJ (37 * t) q (z.low g m (37 * t) q).a)) (z.low g m (37 * t) q).a) := Lib.hid (by
        show (if (z.low g m (37 * t) q).e = 0 then _ else _) = _
        rw [if_pos he0])
      have HSTP := Lib.hid (fun (h : (z.low g m (37 * t) (q + 1)).e ≠ 0) => GS.low_stop h (n := N) (by omega))
      have HO := Lib.hid ok1
      clear hS hK ok1 le he0
      generalize z.low g m (37 * t) q = rr at *
      obtain ⟨re, a, ry⟩ := rr
      dsimp only at *
      have l3 : (q : Int) < (N : Int) := by omega
      have HLA := Lib.hid la
      have ha16 : a < 16 := by omega
      clear la hp20
      go_wp2_with fail
      refine (rplace_any q a _ (by omega) (by omega)).mono ?_
      rintro e w' ⟨rfl, hww⟩
      subst hww
      go_wp2_with fail
      refine (rget1_pl HS.out.1 hij hr hrj HG.out hm HO.out.1 ht q a HLA.out).mono ?_
      rintro e w5 ⟨c5, rfl, hS5, hK5⟩
      have hbit := GS.get1_bit g m ry (loJ (37 * t) q a)
      have herr := GS.get1_err g m HO.out.1 (loJ (37 * t) q a)
      have HS5 := Lib.hid (And.intro hS5 (HS.out.2.trans hK5))
      clear hS5 hK5
      generalize ry.get1 g m (loJ (37 * t) q a) = u at *
      obtain ⟨q1, q2, q3⟩ := u
      dsimp only at *
      rcases herr with rfl | rfl
      · have HQ2 : Hid (z.low g m (37 * t) (q + 1) = ⟨0, 2 * a + q1.toNat, q3⟩) := Lib.hid HNX.out
        go_wp2
        go_roundw
        case rel =>
          refine ⟨q + 1, c5, by omega, by rw [HQ2.out], by go_num, ?_, by rw [HQ2.out]; exact HS5.out.1, HS5.out.2⟩
          rw [HQ2.out]
          exact congrArg (Value.int .i64) (by dsimp only; omega)
        case measure => simp [intOf]; omega
      · have HQ2 : Hid (z.low g m (37 * t) (q + 1) = ⟨41, 0, q3⟩) := Lib.hid HNX.out
        have HST2 : Hid (z.low g m (37 * t) N = ⟨41, 0, q3⟩) := Lib.hid ((HSTP.out (by rw [HQ2.out]; simp)).trans HQ2.out)
        go_wp2
        go_ret2
        rw [HR.out, HST2.out]
        exact ⟨c5, rfl, HS5.out.1, HS5.out.2⟩
    · obtain rfl : q = N := by omega
      have l3 : ¬ (q : Int) < (q : Int) := by omega
      clear hS hK ok1 le
      generalize z.low g m (37 * t) q = rr at *
      obtain ⟨re, a, ry⟩ := rr
      dsimp only at *
      subst he0
      by_cases hna : n ≤ a
      · have HF : Hid (z.one g m (37 * t) n = ⟨0, 51, ry⟩) := Lib.hid (by rw [HR.out]; unfold nrOne; rw [if_pos rfl, if_pos hna])
        have l5 : (n : Int) ≤ a := by omega
        clear hna
        go_wp2
        go_ret2
        rw [HF.out]
        exact ⟨c6, rfl, HS.out.1, HS.out.2⟩
      · have HF : Hid (z.one g m (37 * t) n = ⟨(a : Nat), 0, ry⟩) := Lib.hid (by rw [HR.out]; unfold nrOne; rw [if_pos rfl, if_neg hna])
        have l5 : ¬ (n : Int) ≤ a := by omega
        clear hna
        go_wp2
        go_ret2
        rw [HF.out]
        exact ⟨c6, rfl, HS.out.1, HS.out.2⟩
end
end Go.Proofs.Ytmnoddmecghjdaa
