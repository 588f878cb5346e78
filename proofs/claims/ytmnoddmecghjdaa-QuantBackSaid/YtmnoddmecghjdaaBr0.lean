/- The document's book: which topics there are, places, how many bits, the number of some bits. -/
import Derived.Test.YtmnoddmecghjdaaAc1
import Derived.Test.YtmnoddmecghjdaaCe4M
set_option linter.unusedVariables false
namespace Go.Proofs.Ytmnoddmecghjdaa
open Go.RowKit Go.Kin
theorem rtopic_any (t : Int) (w : World) : Calls Try.prog 75 #[.int .i64 t] w fun e w' => e = .returned (.bool (topB t)) ∧ w = w' := by
  by_cases h1 : 0 ≤ t
  · by_cases h2 : t < 16
    · have HT : Hid (topB t = true) := Lib.hid (by unfold topB; simp; omega)
      rw [HT.out]
      go_enter Try.func75, Try.ntmps75
      go_wp2
      go_ret
      exact ⟨rfl, rfl⟩
    · have HT : Hid (topB t = false) := Lib.hid (by unfold topB; simp; omega)
      rw [HT.out]
      go_enter Try.func75, Try.ntmps75
      go_wp2
      go_ret
      exact ⟨rfl, rfl⟩
  · have HT : Hid (topB t = false) := Lib.hid (by unfold topB; simp; omega)
    rw [HT.out]
    go_enter Try.func75, Try.ntmps75
    go_wp2
    go_ret
    exact ⟨rfl, rfl⟩
/-- The place of a chance within its topic, or below 0. -/
def plJ (i a : Nat) : Int := if i < 4 then ((20 + (2 ^ i - 1 + a) : Nat) : Int) else -1
theorem rplace_any (i a : Nat) (w : World) (hi : i ≤ 63) (ha : a < 2 ^ 21) : Calls Try.prog 78 #[.int .i64 i, .int .i64 a] w fun e w' => e = .returned (.int .i64 (plJ i a)) ∧ w = w' := by
  by_cases h4 : i < 4
  · have HP : Hid (plJ i a = ((20 + (2 ^ i - 1 + a) : Nat) : Int)) := Lib.hid (by unfold plJ; rw [if_pos h4])
    rw [HP.out]
    rcases (show i = 0 ∨ i = 1 ∨ i = 2 ∨ i = 3 by omega) with rfl | rfl | rfl | rfl
    all_goals
      go_enter Try.func78, Try.ntmps78
      go_wp2
      go_ret
      exact ⟨by first | (show Ending.returned (.int .i64 (20 + (a : Int))) = _; congr 2; omega) | (show Ending.returned (.int .i64 (21 + (a : Int))) = _; congr 2; omega) | (show Ending.returned (.int .i64 (23 + (a : Int))) = _; congr 2; omega) | (show Ending.returned (.int .i64 (27 + (a : Int))) = _; congr 2; omega), rfl⟩
  · have HP : Hid (plJ i a = -1) := Lib.hid (by unfold plJ; rw [if_neg h4])
    rw [HP.out]
    have l1 : (4 : Int) ≤ i := by omega
    go_enter Try.func78, Try.ntmps78
    go_wp2
    go_ret
    exact ⟨rfl, rfl⟩
theorem rwidth_any (n : Nat) (w : World) (h1 : 1 ≤ n) (h2 : n ≤ 16) : Calls Try.prog 80 #[.int .i64 n] w fun e w' => e = .returned (.int .i64 (Lib.bitLen (n - 1) : Nat)) ∧ w = w' := by
  have hL := bitLen_le (n := 4) (x := n - 1) (by omega) (by omega)
  have HE : Hid (∀ q, 0 < q → q ≤ 15 → Lib.bitLen q = Lib.bitLen (q / 2) + 1) := Lib.hid (fun q a b => by have := Lib.bitLen_half q (by omega) (by omega); omega)
  have HZ : Hid (Lib.bitLen 0 = 0) := Lib.hid (by decide)
  generalize hB : Lib.bitLen (n - 1) = B at *
  have HB := Lib.hid hB
  clear hB
  have z1 : IntKind.i64.wrap ((n : Int) - 1) = (n : Int) - 1 := by rw [IntKind.wrap_i64]; omega
  go_enter Try.func80, Try.ntmps80
  go_wp2_with fail
  go_loopw [3, 4] (fun wv kv wr => ∃ (c q : Nat), wv = .int .i64 c ∧ kv = .int .i64 q ∧ q ≤ 15 ∧ c + Lib.bitLen q = B ∧ wr = w) (fun _ kv _ => (intOf kv).toNat)
  case atStart => exact ⟨0, n - 1, rfl, by go_num, by omega, by have := HB.out; omega, by trivial⟩
  case round =>
    obtain ⟨c, q, rfl, rfl, hq, hc, rfl⟩ := hrel
    by_cases h0 : 0 < q
    · have l1 : (0 : Int) < q := by omega
      have hh := HE.out q h0 hq
      have HC : Hid (c + 1 + Lib.bitLen (q / 2) = B) := Lib.hid (by omega)
      clear hh hc
      have hcb : c ≤ B := by have := HC.out; omega
      have zd : (q : Int).tdiv 2 = (q : Int) / 2 := Int.tdiv_eq_ediv_of_nonneg (by omega)
      go_wp2
      go_roundw
      case rel => exact ⟨c + 1, q / 2, by go_num, by go_num, by omega, HC.out, by trivial⟩
      case measure => simp [intOf]; omega
    · have HC : Hid (c = B) := Lib.hid (by
        have e : q = 0 := by omega
        rw [e] at hc
        have := HZ.out
        omega)
      have l0 : ¬ (0 : Int) < (q : Int) := by omega
      clear hc
      go_wp2
      go_ret
      have e := HC.out
      subst e
      exact ⟨rfl, rfl⟩
theorem rnumber_any (b off n c : Nat) (v m : Nat) (w : World) (hR : Rd w (some ⟨b, off, none⟩) n (by8 fun i => (loB v m i : Nat))) (hn : n ≤ m) (hm : m ≤ 30) (hnc : n ≤ c) :
    Calls Try.prog 79 #[.slice (some ⟨b, off, none⟩) n c] w fun e w' => e = .returned (.int .u64 (loA v m n : Nat)) ∧ w = w' := by
  have HR := Lib.hid hR
  clear hR
  have HS : Hid (∀ i, i < m → loA v m (i + 1) = 2 * loA v m i + loB v m i) := Lib.hid (fun i hi => loA_succ hi)
  have HL : Hid (∀ i, i ≤ m → loA v m i < 2 ^ 30) := Lib.hid (fun i hi => Nat.lt_of_lt_of_le (loA_lt v m i) (Nat.pow_le_pow_right (by omega) (by omega)))
  have H0 : Hid (loA v m 0 = 0) := Lib.hid (loA_zero v m)
  have HB : Hid (∀ i, loB v m i = 0 ∨ loB v m i = 1) := Lib.hid (loB_bd v m)
  go_enter Try.func79, Try.ntmps79
  go_wp2_with fail
  go_loopw [3, 4] (fun vv iv wr => ∃ (k a : Nat), k ≤ n ∧ iv = .int .i64 k ∧ a = loA v m k ∧ vv = .int .u64 a ∧ wr = w) (fun _ iv _ => ((n : Int) - intOf iv).toNat)
  case atStart => exact ⟨0, 0, by omega, rfl, H0.out.symm, rfl, by trivial⟩
  case round =>
    obtain ⟨k, a, hk, rfl, ha, rfl, rfl⟩ := hrel
    have HA := Lib.hid ha
    have hab : a < 2 ^ 30 := by rw [ha]; exact HL.out k (by omega)
    clear ha
    by_cases hlt : k < n
    · have l1 : (k : Int) < n := by omega
      have x1 := HR.out.at_ hlt
      have hbb := HB.out k
      have HN : Hid (2 * a + loB v m k = loA v m (k + 1)) := Lib.hid (by rw [HS.out k (by omega), HA.out])
      replace x1 : wr.cell? ⟨b, off + k, none⟩ = some (.int .u8 (loB v m k : Nat)) := x1
      generalize loB v m k = bb at *
      have z2 : IntKind.u64.wrap (bb : Int) = (bb : Int) := by rw [IntKind.wrap_u64]; omega
      have z3 : IntKind.u64.wrap (2 * (a : Int)) = 2 * (a : Int) := by rw [IntKind.wrap_u64]; omega
      have z4 : IntKind.u64.wrap (2 * (a : Int) + bb) = 2 * (a : Int) + bb := by rw [IntKind.wrap_u64]; omega
      go_wp2
      go_roundw
      case rel => exact ⟨k + 1, 2 * a + bb, by omega, by go_num, HN.out, by go_num, by trivial⟩
      case measure => simp [intOf]; omega
    · obtain rfl : k = n := by omega
      have l1 : ¬ (k : Int) < k := by omega
      go_wp2
      go_ret
      have e := HA.out
      subst e
      exact ⟨rfl, rfl⟩
end Go.Proofs.Ytmnoddmecghjdaa
