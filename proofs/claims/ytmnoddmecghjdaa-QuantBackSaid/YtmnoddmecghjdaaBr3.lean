/- The document's digits of a number. -/
import Derived.Test.YtmnoddmecghjdaaBr0
import Derived.Test.YtmnoddmecghjdaaKn2M
set_option linter.unusedVariables false
namespace Go.Proofs.Ytmnoddmecghjdaa
open Go.RowKit Go.Kin
theorem digit_step {v n d : Nat} (h : d + 1 ≤ n) : v / 2 ^ d % 2 = loB v n (n - 1 - d) ∧ v / 2 ^ d / 2 = v / 2 ^ (d + 1) := by
  unfold loB
  rw [show n - 1 - (n - 1 - d) = d by omega, Nat.div_div_eq_div_mul, Nat.pow_succ]
  exact ⟨rfl, rfl⟩
theorem make_u8b (n : Nat) (h : n ≤ 64) (w : World) :
    (Instr.makeSlice 37 (.int .i64 (n : Int)) (.int .i64 (n : Int))).run Try.prog w = .ok (.slice (some ⟨w.heap.size, 0, none⟩) n n) (w.alloc (.cells (madeCells #[.int .u8 0] n) 5)) :=
  run_make_row' 37 5 (.int .u8 0) 1 Try.underlying37 (by kernel_rfl) rfl .i64 .i64 n (by omega) (by omega) w
set_option maxHeartbeats 1000000 in
theorem rdigits_any (v n : Nat) (w : World) (hv : v < 2 ^ 30) (hn : n ≤ 30) : Calls Try.prog 77 #[.int .u64 v, .int .i64 n] w fun e w' =>
    ∃ b, e = .returned (.slice (some ⟨b, 0, none⟩) n n) ∧ w.heap.size ≤ b ∧ Row w' b n (by8 fun i => (loB v n i : Nat)) ∧ Below w.heap.size w w' := by
  have hmk := make_u8b n (by omega)
  have K := Kn.start w
  have HD : Hid (∀ d, d + 1 ≤ n → v / 2 ^ d % 2 = loB v n (n - 1 - d) ∧ v / 2 ^ d / 2 = v / 2 ^ (d + 1)) := Lib.hid (fun d h => digit_step h)
  have HV : Hid (∀ d, v / 2 ^ d < 2 ^ 30) := Lib.hid (fun d => Nat.lt_of_le_of_lt (Nat.div_le_self _ _) hv)
  have HB : Hid (∀ i, loB v n i = 0 ∨ loB v n i = 1) := Lib.hid (loB_bd v n)
  have z0 : IntKind.i64.wrap ((n : Int) - 1) = (n : Int) - 1 := by rw [IntKind.wrap_i64]; omega
  go_enter Try.func77, Try.ntmps77
  go_wp2
  have HK := Lib.hid (K.make w.heap.size (.int .u8 0) n 5 rfl)
  clear K
  go_loopw [0, 6] (fun vv i wr => ∃ d q : Nat, d ≤ n ∧ q = v / 2 ^ d ∧ vv = .int .u64 q ∧ i = .int .i64 ((n : Int) - 1 - d) ∧ Kn wr [.row w.heap.size n (by8 fun j => if n ≤ j + d then ((loB v n j : Nat) : Int) else 0), .since w]) (fun _ i _ => (intOf i + 1).toNat)
  case atStart => exact ⟨0, v, by omega, by simp, rfl, by go_num, HK.out.row (fun i hi => by simp only [by8]; rw [if_neg (by omega)])⟩
  case round =>
    obtain ⟨d, q, hd, hq, rfl, rfl, K⟩ := hrel
    clear HK
    have hqb := HV.out d
    rw [← hq] at hqb
    by_cases hlt : d < n
    · obtain ⟨k, hk⟩ : ∃ k : Nat, k + 1 + d = n := ⟨n - 1 - d, by omega⟩
      have HI : Hid ((n : Int) - 1 - d = k) := Lib.hid (by omega)
      rw [HI.out]
      have l1 : ¬ (k : Int) < 0 := by omega
      have l2 : (0 : Int) ≤ k := by omega
      have l3 : (k : Int) < n := by omega
      have hkn : k < n := by omega
      have st := HD.out d (by omega)
      rw [← hq, show n - 1 - d = k by omega] at st
      have HST := Lib.hid st
      have cr := Row.cell K.1 hkn
      have fr := Row.frozen K.1 k
      simp only [by8] at cr
      have zm : (q : Int).tmod 2 = ((q % 2 : Nat) : Int) := by rw [Int.tmod_eq_emod_of_nonneg (by omega)]; omega
      have zd : (q : Int).tdiv 2 = ((q / 2 : Nat) : Int) := by rw [Int.tdiv_eq_ediv_of_nonneg (by omega)]; omega
      have zc : IntKind.u8.wrap ((q % 2 : Nat) : Int) = ((q % 2 : Nat) : Int) := by rw [IntKind.wrap_u8]; omega
      have K2 := (Kn.setRow K k (.int .u8 ((q % 2 : Nat) : Int)) ⟨Nat.le_refl _, trivial⟩).row (g := by8 fun j => if n ≤ j + (d + 1) then ((loB v n j : Nat) : Int) else 0) (fun i hi => by
        unfold by8
        dsimp only
        by_cases h : i = k
        · subst h
          rw [if_pos rfl, if_pos (by omega), HST.out.1]
        · rw [if_neg h]
          by_cases h2 : n ≤ i + d
          · rw [if_pos h2, if_pos (by omega)]
          · rw [if_neg h2, if_neg (by omega)])
      have HK2 := Lib.hid K2
      clear K K2 st hq
      go_wp2
      go_roundw
      case rel => exact ⟨d + 1, q / 2, by omega, HST.out.2, by go_num, by go_num, HK2.out⟩
      case measure => simp [intOf]
    · obtain rfl : d = n := by omega
      have l1 : ¬ (0 : Int) ≤ (d : Int) - 1 - d := by omega
      have HK2 := Lib.hid K
      clear K
      go_wp2
      go_ret
      exact ⟨w.heap.size, rfl, Nat.le_refl _, Row.congr HK2.out.1 (fun i hi => by unfold by8; dsimp only; rw [if_pos (by omega)]), HK2.out.2.1⟩
end Go.Proofs.Ytmnoddmecghjdaa
