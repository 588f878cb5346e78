/- Walks of the document's answer for layer 6: New, Blank. -/
import Derived.Test.YtlkogokhcdehfaaGiv
import Derived.Test.YtlkogokhcdehfaaPw6
namespace Go.Proofs.Ytlkogokhcdehfaa
open Go.RowKit Go.Kin
set_option linter.unusedVariables false

theorem sides_part {a b : Int} (h : sidesB a b = false) : sideB a = false ∨ (sideB a = true ∧ sideB b = false) := by
  rw [← sidesB_side] at h
  cases h1 : sideB a
  · exact .inl rfl
  · rw [h1] at h
    exact .inr ⟨rfl, by simpa using h⟩
theorem sides_both {a b : Int} (h : sidesB a b = true) : sideB a = true ∧ sideB b = true := by
  rw [← sidesB_side] at h
  simpa using h

set_option maxHeartbeats 400000 in
theorem rnew_no (a b v : Int) (w : World) (h : sidesB a b = false) :
    Calls Try.prog 31 #[.int .i64 a, .int .i64 b, .int .u8 v] w (NoPlane 61 w) := by
  rcases sides_part h with h1 | ⟨h1, h2⟩
  all_goals clear h
  all_goals go_enter Try.func31, Try.ntmps31
  all_goals go_wp2_with (go_at_call 57; refine (rside_any _ _).mono ?_; rintro e w' ⟨rfl, rfl⟩)
  all_goals exact bodyPost_ret (v := .tuple #[.agg #[.int .i64 0, .int .i64 0, .slice none 0 0], .int .i64 61]) (by simp [results, Try.results31, go_sem]) rfl ⟨rfl, (Below.refl _ _).alloc (Nat.le_refl _) _⟩

set_option maxHeartbeats 400000 in
theorem rnew_yes (a b v : Int) (N : Nat) (w : World) (h : sidesB a b = true) (hN : a * b = (N : Int)) :
    Calls Try.prog 31 #[.int .i64 a, .int .i64 b, .int .u8 v] w (MadePlane a b N (fun _ => v) w) := by
  obtain ⟨h1, h2, h3, h4⟩ := sidesB_iff.1 h
  obtain ⟨k1, k2⟩ := sides_both h
  have hm1 : 0 ≤ a * b := Int.mul_nonneg (by omega) (by omega)
  have hm2 : a * b ≤ 16777216 := by
    have := Int.mul_le_mul h2 h4 (by omega) (by omega)
    omega
  rw [hN] at hm1 hm2
  have hmk := make_u8 N (by omega)
  clear h
  go_enter Try.func31, Try.ntmps31
  go_wp2_with (go_at_call 57; refine (rside_any _ _).mono ?_; rintro e w' ⟨rfl, rfl⟩)
  have HN := Lib.hid hN
  clear hN
  go_loopw [11] (fun i wr => ∃ k : Nat, k ≤ N ∧ i = .int .i64 k ∧ Box wr w.heap.size #[.int .i64 0, .int .i64 0, .slice none 0 0] ∧ Row wr (w.heap.size + 1) N (by8 fun j => if j < k then v else 0)
      ∧ Box wr (w.heap.size + 1 + 1) #[.int .i64 a, .int .i64 b, .slice (some ⟨w.heap.size + 1, 0, none⟩) N N] ∧ Below w.heap.size w wr) (fun i _ => N - (intOf i).toNat)
  case atStart =>
    refine ⟨0, Nat.zero_le _, rfl, ((Box.new _ _ _).alloc _).alloc _, ?_, ?_, ?_⟩
    · exact ((Row.madeAt _ (.int .u8 0) N _ (by simp)).congr (by intro i _; simp [by8])).alloc _
    · exact Box.newAt _ _ _ (by simp)
    · exact (((Below.refl _ _).alloc (Nat.le_refl _) _).alloc (by simp) _).alloc (by simp; omega) _
  case round =>
    obtain ⟨k, hk, rfl, hB0, hR, hB2, hbel⟩ := hrel
    obtain ⟨c0, c1, c2⟩ := hB2.cell3
    by_cases hlt : k < N
    · have cr := hR.cell hlt
      have fr := hR.frozen k
      simp only [by8] at cr
      have HR := Lib.hid hR
      clear hR
      go_wp2
      go_roundw
      case rel =>
        refine ⟨k + 1, by omega, by go_num, hB0.far (by simp) _, (HR.out.set k _).congr ?_, hB2.far (by simp) _, hbel.setCell (by simp) _⟩
        intro i hi
        simp only [by8]
        by_cases h1 : i = k
        · subst h1; simp
        · by_cases h2 : i < k
          · simp [h1, h2, show i < k + 1 by omega]
          · simp [h1, h2, show ¬ i < k + 1 by omega]
      case measure => simp [intOf]; omega
    · obtain ⟨d0, d1, d2⟩ := hB0.cell3
      obtain ⟨f0, f1, f2⟩ := hB0.frozen3
      go_wp2
      have hkN : k = N := by omega
      subst hkN
      refine bodyPost_ret (v := .tuple #[.agg #[.int .i64 a, .int .i64 b, .slice (some ⟨w.heap.size + 1, 0, none⟩) k k], .int .i64 0]) (by simp [results, Try.results31, go_sem, d0, d1, d2]) rfl ?_
      refine ⟨_, rfl, by omega, ?_, ?_⟩
      · exact ((((hR.congr (by intro i hi; simp [by8, hi])).far (by simp) _).far (by simp) _).far (by simp) _)
      · exact ((hbel.setCell (by simp) _).setCell (by simp) _).setCell (by simp) _

theorem tmod16 (a : Int) : a.tmod 16 = 0 ↔ a % 16 = 0 := by rw [← Int.dvd_iff_tmod_eq_zero, Int.dvd_iff_emod_eq_zero]
set_option maxHeartbeats 1000000 in
theorem rblank_no (a b v : Int) (w : World) (h : blankB a b = false) (ia : I64 a) (ib : I64 b) :
    Calls Try.prog 33 #[.int .i64 a, .int .i64 b, .int .u8 v] w (GivesF noP noP noP 61 w) := by
  by_cases hq : a % 16 = 0 ∧ b % 16 = 0
  · obtain ⟨q1, q2⟩ := hq
    have hs : sidesB a b = false := by
      cases hs : sidesB a b with
      | false => rfl
      | true => simp [blankB, hs, q1, q2] at h
    have k1 : (Int.tmod a 16 != 0) = false := by simp [tmod16, q1]
    have k2 : (Int.tmod b 16 != 0) = false := by simp [tmod16, q2]
    clear h q1 q2
    go_enter Try.func33, Try.ntmps33
    go_wp2_with fail
    refine (rnew_no a b v _ hs).mono ?_
    rintro e w1 ⟨rfl, hb1⟩
    have K := ((Kn.start w).new w.heap.size _ _ rfl).below hb1
    replace kc0 := Box.cells K.1
    replace kl0 := Box.lt K.1
    replace kf0 := Box.frees K.1
    replace L : Below _ _ _ := K.2.1
    go_wp2
    refine bodyPost_ret (v := .tuple #[.agg zero9, .int .i64 61]) (by simp [results, Try.results33, go_sem, kc0, kl0]) rfl ?_
    exact GivesF.no ⟨rfl, ((Kn.set9 K _ _ _ _ _ _ _ _ _ ⟨by simp [It.off], trivial⟩).1.alloc (by simp; omega) _)⟩
  · have hc : (Int.tmod a 16 != 0) = true ∨ ((Int.tmod a 16 != 0) = false ∧ (Int.tmod b 16 != 0) = true) := by simp only [bne_iff_ne, ne_eq, bne_eq_false_iff_eq, tmod16]; omega
    clear hq h
    rcases hc with h1 | ⟨h1, h2⟩
    all_goals go_enter Try.func33, Try.ntmps33
    all_goals go_wp2
    all_goals refine bodyPost_ret (v := .tuple #[.agg zero9, .int .i64 61]) (by simp [results, Try.results33, go_sem]) rfl ?_
    all_goals exact GivesF.no ⟨rfl, (Below.refl _ _).alloc (Nat.le_refl _) _⟩

set_option maxHeartbeats 1000000 in
theorem rblank_yes (a b v : Int) (N M : Nat) (w : World) (h : blankB a b = true) (hN : a * b = (N : Int)) (hM : (a / 2) * (b / 2) = (M : Int)) :
    Calls Try.prog 33 #[.int .i64 a, .int .i64 b, .int .u8 v] w (GivesF ⟨a, b, none, N, 0, fun _ => v⟩ ⟨a / 2, b / 2, none, M, 0, fun _ => v⟩ ⟨a / 2, b / 2, none, M, 0, fun _ => v⟩ 0 w) := by
  obtain ⟨⟨s1, s2, s3, s4⟩, s5, s6⟩ := blankB_iff.1 h
  have k1 : (a % 16 != 0) = false := by simp [s5]
  have k2 : (b % 16 != 0) = false := by simp [s6]
  have t1 : sidesB a b = true := sidesB_iff.2 ⟨s1, s2, s3, s4⟩
  have t2 : sidesB (a / 2) (b / 2) = true := sidesB_iff.2 (by omega)
  have HN := Lib.hid hN
  have HM := Lib.hid hM
  clear hN hM s5 s6 h
  have K := Kn.start w
  go_enter Try.func33, Try.ntmps33
  go_wp2_with fail
  refine (rnew_yes a b v N _ t1 HN.out).mono ?_
  rintro e w1 ⟨b1, rfl, hb1, hr1, hL1⟩
  simp only [World.size_alloc] at hb1
  replace K := ((K.new w.heap.size _ _ rfl).below hL1).add (x := .row b1 N (by8 fun _ => v)) hr1
  clear hL1 hr1
  replace kc1 := Box.cells K.2.1
  replace kl1 := Box.lt K.2.1
  replace L : Below _ _ _ := K.2.2.1
  have l1 := kl1
  go_wp2_with fail
  refine (rnew_yes (a / 2) (b / 2) v M _ t2 HM.out).mono ?_
  rintro e w2 ⟨b2, rfl, hb2, hr2, hL2⟩
  simp only [World.size_alloc] at hb2
  replace K := ((K.new w1.heap.size _ _ rfl).below hL2).add (x := .row b2 M (by8 fun _ => v)) hr2
  clear hL2 hr2
  replace kc1 := Box.cells K.2.1
  replace kl1 := Box.lt K.2.1
  replace kc3 := Box.cells K.2.2.2.1
  replace kl3 := Box.lt K.2.2.2.1
  replace L : Below _ _ _ := K.2.2.2.2.1
  have l2 := kl1
  go_wp2_with fail
  refine (rnew_yes (a / 2) (b / 2) v M _ t2 HM.out).mono ?_
  rintro e w3 ⟨b3, rfl, hb3, hr3, hL3⟩
  simp only [World.size_alloc] at hb3
  replace K := ((K.new w2.heap.size _ _ rfl).below hL3).add (x := .row b3 M (by8 fun _ => v)) hr3
  clear hL3 hr3
  replace kc1 := Box.cells K.2.1
  replace kl1 := Box.lt K.2.1
  replace kc3 := Box.cells K.2.2.2.1
  replace kl3 := Box.lt K.2.2.2.1
  replace kc5 := Box.cells K.2.2.2.2.2.1
  replace kl5 := Box.lt K.2.2.2.2.2.1
  replace kf5 := Box.frees K.2.2.2.2.2.1
  replace L : Below _ _ _ := K.2.2.2.2.2.2.1
  have l3 : ¬ (w.heap.size = w3.heap.size) := by omega
  have l4 : ¬ (w1.heap.size = w3.heap.size) := by omega
  have l5 : ¬ (w2.heap.size = w3.heap.size) := by omega
  go_wp2
  refine bodyPost_ret (v := .tuple #[.agg #[.int .i64 a, .int .i64 b, .slice (some ⟨b1, 0, none⟩) N N, .int .i64 (a / 2), .int .i64 (b / 2), .slice (some ⟨b2, 0, none⟩) M M, .int .i64 (a / 2), .int .i64 (b / 2), .slice (some ⟨b3, 0, none⟩) M M], .int .i64 0]) (by simp [results, Try.results33, go_sem, kc5, kl5]) rfl ?_
  have KF := Kn.set9 (l := [.row b3 M (by8 fun _ => v), .row b2 M (by8 fun _ => v), .row b1 N (by8 fun _ => v), .since w]) ⟨K.2.2.2.2.2.1, K.1, K.2.2.1, K.2.2.2.2.1, K.2.2.2.2.2.2.1, trivial⟩ (.int .i64 a) (.int .i64 b) (.slice (some ⟨b1, 0, none⟩) N N) (.int .i64 (a / 2)) (.int .i64 (b / 2)) (.slice (some ⟨b2, 0, none⟩) M M) (.int .i64 (a / 2)) (.int .i64 (b / 2)) (.slice (some ⟨b3, 0, none⟩) M M) ⟨by simp [It.off]; omega, by simp [It.off]; omega, by simp [It.off]; omega, by simp [It.off], trivial⟩
  have KG := KF.alloc (.cells #[.int .i64 (a / 2), .int .i64 (b / 2), .slice (some ⟨b3, 0, none⟩) M M] 29)
  exact ⟨_, _, _, _, _, _, rfl, Row.rd KG.2.2.1, Row.rd KG.2.1, Row.rd KG.1, KG.2.2.2.1⟩
end Go.Proofs.Ytlkogokhcdehfaa
