/- Walks of package book: a number got. -/
import Derived.Test.YtmnoddmecghjdaaBk3
set_option linter.unusedVariables false
namespace Go.Proofs.Ytmnoddmecghjdaa
open Go.RowKit Go.Kin
set_option maxRecDepth 100000 in
set_option maxHeartbeats 4000000 in
theorem getNum_any {w : World} {col : Nat → Nat} {i x j b m : Nat} {g : Nat → Int} {z : GS} (base : Nat) (h : SG w col i x m g j b z) (hg : Byt g) (hij : i ≠ j) (hok : z.ok m) (hb : base + 37 ≤ 592) :
    Calls Try.prog 81 #[.pointer (some ⟨b, base, none⟩), .pointer (some ⟨x, 0, none⟩)] w (NumR w col i x m g j b (z.num g m base)) := by
  have H := Lib.hid h
  have HOK := Lib.hid (fun k => GS.len_ok hg hok base k)
  have HG := Lib.hid hg
  have HNUM : Hid (z.num g m base = nrLen g m base (z.len g m base 20)) := Lib.hid rfl
  clear h hok hg
  go_enter Try.func81, Try.ntmps81
  go_wp2
  go_loopw [6] (fun q wr => ∃ (k : Nat) (y : GS) (col' : Nat → Nat), k ≤ 20 ∧ z.len g m base k = ⟨true, k + 1, 0, y⟩ ∧ q = .int .i64 ((k : Int) + 1) ∧ SG wr col' i x m g j b y ∧ Kp [i, j] w col wr col') (fun q _ => 22 - (intOf q).toNat)
  case atStart => exact ⟨0, z, col, by omega, rfl, rfl, H.out, Kp.refl _ _ _⟩
  case round =>
    obtain ⟨k, y, col', hk, hl, rfl, hS, hK⟩ := hrel
    have hok := (HOK.out k).1
    rw [hl] at hok
    have HS := Lib.hid (And.intro hS hK)
    have HY : Hid (y.ok m) := Lib.hid hok
    clear hS hK hok
    by_cases hlt : k < 20
    · have HNX : Hid (z.len g m base (k + 1) = qrNext (y.get1 g m (some (base + k))) (k + 1)) := Lib.hid (by
        show (if (z.len g m base k).go = true then _ else _) = _
        rw [hl, if_pos rfl]
        rfl)
      have HST := Lib.hid (fun (h : (z.len g m base (k + 1)).go = false) => GS.len_stop h (n := 20) (by omega))
      clear hl
      have l1 : (k : Int) + 1 < 21 := by omega
      have l2 : (k : Int) < 20 := by omega
      go_wp2_with fail
      refine (bget1_book HS.out.1 HG.out hij HY.out (show base + k < 592 by omega)).mono ?_
      rintro e w5 ⟨c5, rfl, hS5, hK5⟩
      have hbit := GS.get1_bit g m y (some (base + k))
      have herr := GS.get1_err g m HY.out.1 (some (base + k))
      have hok5 := GS.get1_ok HG.out HY.out (some (base + k))
      have HS5 := Lib.hid (And.intro hS5 (HS.out.2.trans hK5))
      clear hS5 hK5
      generalize y.get1 g m (some (base + k)) = q at *
      obtain ⟨q1, q2, q3⟩ := q
      dsimp only at *
      have HY5 := Lib.hid hok5
      clear hok5
      rcases herr with rfl | rfl
      · rcases hbit with rfl | rfl
        · have HQ : Hid (z.len g m base 20 = ⟨false, k + 1, 0, q3⟩) := Lib.hid ((HST.out (by rw [HNX.out]; rfl)).trans HNX.out)
          have HW := HS5
          have HZ := HY5
          have hN : k + 1 ≤ 21 := by omega
          clear HS HY HS5 HY5 HNX HST
          have hN1 : ((k : Nat) : Int) + 1 - 1 = ((k : Nat) : Int) := by omega
          obtain ⟨lok, la, le⟩ := GS.low_ok HG.out HZ.out base k
          have hp20 : 2 ^ k ≤ 2 ^ 20 := Nat.pow_le_pow_right (by omega) (by omega)
          have hp0 : 0 < 2 ^ k := Nat.pow_pos (by omega)
          have hpc : (2 : Int) ^ k = ((2 ^ k : Nat) : Int) := by push_cast; rfl
          have HR : Hid (z.num g m base = nrLow (q3.low g m base k) k) := Lib.hid (by rw [HNUM.out, HQ.out]; rfl)
          go_wp2_with fail
          refine (getLow_any base k HW.out.1 HG.out hij HZ.out hb (by omega)).mono ?_
          rintro e w6 ⟨c6, rfl, hS6, hK6⟩
          have HS6 := Lib.hid (And.intro hS6 (HW.out.2.trans hK6))
          clear hS6 hK6 lok
          generalize q3.low g m base k = q at *
          obtain ⟨r1, a, r3⟩ := q
          dsimp only at *
          generalize hP : 2 ^ k = P at *
          have HP := Lib.hid hP
          have HPC := Lib.hid hpc
          clear hP
          rcases le with rfl | rfl
          · by_cases hbig : 2 ^ k + a - 1 > 1048576
            · have HF : Hid (z.num g m base = ⟨0, 51, r3⟩) := Lib.hid (by rw [HR.out]; unfold nrLow; rw [if_pos rfl, if_pos hbig])
              rw [HP.out] at hbig
              have hbig' : (1048576 : Int) < (P : Int) + a - 1 := by omega
              go_wp2
              go_ret2
              rw [HF.out]
              exact ⟨c6, rfl, HS6.out.1, HS6.out.2⟩
            · have HF : Hid (z.num g m base = ⟨(2 ^ k + a - 1 : Nat), 0, r3⟩) := Lib.hid (by rw [HR.out]; unfold nrLow; rw [if_pos rfl, if_neg hbig])
              rw [HP.out] at hbig
              have hbig' : ¬ (1048576 : Int) < (P : Int) + a - 1 := by omega
              have HV := Lib.hid (show (((P + a - 1 : Nat)) : Int) = (P : Int) + a - 1 by omega)
              go_wp2
              go_ret2
              rw [HF.out]
              refine ⟨c6, ?_, HS6.out.1, HS6.out.2⟩
              dsimp only
              rw [HP.out, HV.out]
              rfl
          · have HF : Hid (z.num g m base = ⟨0, 41, r3⟩) := Lib.hid (by rw [HR.out]; rfl)
            go_wp2
            go_ret2
            rw [HF.out]
            exact ⟨c6, rfl, HS6.out.1, HS6.out.2⟩
        · have HQ : Hid (z.len g m base (k + 1) = ⟨true, k + 1 + 1, 0, q3⟩) := Lib.hid HNX.out
          go_wp2
          go_roundw
          case rel => exact ⟨k + 1, q3, c5, by omega, HQ.out, by go_num, HS5.out.1, HS5.out.2⟩
          case measure => simp [intOf]; omega
      · have HQ : Hid (z.len g m base 20 = ⟨false, k + 1, 41, q3⟩) := Lib.hid ((HST.out (by rw [HNX.out]; rfl)).trans HNX.out)
        go_wp2
        go_ret2
        rw [HNUM.out, HQ.out]
        exact ⟨c5, rfl, HS5.out.1, HS5.out.2⟩
    · have HQ : Hid (z.len g m base 20 = ⟨true, k + 1, 0, y⟩) := Lib.hid (by rw [show 20 = k by omega]; exact hl)
      have HW := HS
      have HZ := HY
      have hN : k + 1 ≤ 21 := by omega
      have l1 : ¬ (k : Int) + 1 < 21 := by omega
      have l2 : ¬ (k : Int) < 20 := by omega
      clear HS HY hl hlt
      have hN1 : ((k : Nat) : Int) + 1 - 1 = ((k : Nat) : Int) := by omega
      obtain ⟨lok, la, le⟩ := GS.low_ok HG.out HZ.out base k
      have hp20 : 2 ^ k ≤ 2 ^ 20 := Nat.pow_le_pow_right (by omega) (by omega)
      have hp0 : 0 < 2 ^ k := Nat.pow_pos (by omega)
      have hpc : (2 : Int) ^ k = ((2 ^ k : Nat) : Int) := by push_cast; rfl
      have HR : Hid (z.num g m base = nrLow (y.low g m base k) k) := Lib.hid (by rw [HNUM.out, HQ.out]; rfl)
      go_wp2_with fail
      refine (getLow_any base k HW.out.1 HG.out hij HZ.out hb (by omega)).mono ?_
      rintro e w6 ⟨c6, rfl, hS6, hK6⟩
      have HS6 := Lib.hid (And.intro hS6 (HW.out.2.trans hK6))
      clear hS6 hK6 lok
      generalize y.low g m base k = q at *
      obtain ⟨r1, a, r3⟩ := q
      dsimp only at *
      generalize hP : 2 ^ k = P at *
      have HP := Lib.hid hP
      have HPC := Lib.hid hpc
      clear hP
      rcases le with rfl | rfl
      · by_cases hbig : 2 ^ k + a - 1 > 1048576
        · have HF : Hid (z.num g m base = ⟨0, 51, r3⟩) := Lib.hid (by rw [HR.out]; unfold nrLow; rw [if_pos rfl, if_pos hbig])
          rw [HP.out] at hbig
          have hbig' : (1048576 : Int) < (P : Int) + a - 1 := by omega
          go_wp2
          go_ret2
          rw [HF.out]
          exact ⟨c6, rfl, HS6.out.1, HS6.out.2⟩
        · have HF : Hid (z.num g m base = ⟨(2 ^ k + a - 1 : Nat), 0, r3⟩) := Lib.hid (by rw [HR.out]; unfold nrLow; rw [if_pos rfl, if_neg hbig])
          rw [HP.out] at hbig
          have hbig' : ¬ (1048576 : Int) < (P : Int) + a - 1 := by omega
          have HV := Lib.hid (show (((P + a - 1 : Nat)) : Int) = (P : Int) + a - 1 by omega)
          go_wp2
          go_ret2
          rw [HF.out]
          refine ⟨c6, ?_, HS6.out.1, HS6.out.2⟩
          dsimp only
          rw [HP.out, HV.out]
          rfl
      · have HF : Hid (z.num g m base = ⟨0, 41, r3⟩) := Lib.hid (by rw [HR.out]; rfl)
        go_wp2
        go_ret2
        rw [HF.out]
        exact ⟨c6, rfl, HS6.out.1, HS6.out.2⟩
end Go.Proofs.Ytmnoddmecghjdaa
