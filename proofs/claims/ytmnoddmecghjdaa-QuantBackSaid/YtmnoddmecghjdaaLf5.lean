/- Layer 7: numbers as kind int in memory; side, Same; the order of a block's places in plain numbers. -/
import Derived.Test.YtmnoddmecghjdaaLf0
import Derived.Test.YtmnoddmecghjdaaKn6
import Derived.Test.YtmnoddmecghjdaaKn2M
import Derived.Test.YtmnoddmecghjdaaRg3M
set_option linter.unusedVariables false
namespace Go.Kin
open Go.RowKit
/-- The places of one diagonal, up to y. -/
def zrow (n s y : Nat) : List Nat := (List.range y).filterMap fun y => if y ≤ s ∧ s < y + n then some (y * n + (s - y)) else none
/-- The places ahead of (s, y). -/
def zpre (n s y : Nat) : List Nat := (List.range s).flatMap (fun s => zrow n s n) ++ zrow n s y
theorem zpre_yes {n s y : Nat} (h : y ≤ s ∧ s < y + n) : zpre n s (y + 1) = zpre n s y ++ [y * n + (s - y)] := by
  unfold zpre zrow
  rw [List.range_succ, List.filterMap_append, List.append_assoc]
  simp [h]
theorem zpre_no {n s y : Nat} (h : ¬ (y ≤ s ∧ s < y + n)) : zpre n s (y + 1) = zpre n s y := by
  unfold zpre zrow
  rw [List.range_succ, List.filterMap_append]
  simp only [List.filterMap_cons, List.filterMap_nil, if_neg h, List.append_nil]
theorem zpre_up {n s : Nat} : zpre n (s + 1) 0 = zpre n s n := by
  unfold zpre
  rw [List.range_succ, List.flatMap_append]
  simp [zrow]
theorem zrow_len (n s y : Nat) : (zrow n s y).length ≤ y := by
  have := List.length_filterMap_le (fun y => if y ≤ s ∧ s < y + n then some (y * n + (s - y)) else none) (List.range y)
  rw [List.length_range] at this
  exact this
theorem zpre_len (n s y : Nat) : (zpre n s y).length ≤ s * n + y := by
  unfold zpre
  rw [List.length_append]
  have h1 := zrow_len n s y
  have h2 : ∀ s, ((List.range s).flatMap (fun s => zrow n s n)).length ≤ s * n := by
    intro s
    induction s with
    | zero => simp
    | succ s ih =>
      rw [List.range_succ, List.flatMap_append, List.length_append, Nat.add_mul, Nat.one_mul]
      have := zrow_len n s n
      simp only [List.flatMap_cons, List.flatMap_nil, List.append_nil]
      omega
  have := h2 s
  omega
/-- The i-th place of a block of side n; of place j which it is. -/
def zg (n i : Nat) : Nat := (zpre n (2 * n - 1) 0).getD i 0
def zi (n j : Nat) : Nat := (zpre n (2 * n - 1) 0).idxOf j
theorem zlen4 : (zpre 4 7 0).length = 16 := by decide +kernel
theorem zlen8 : (zpre 8 15 0).length = 64 := by decide +kernel
theorem zg4_lt : ∀ i, i < 16 → zg 4 i < 16 := by decide +kernel
theorem zg8_lt : ∀ i, i < 64 → zg 8 i < 64 := by decide +kernel
theorem zi4_lt : ∀ i, i < 16 → zi 4 i < 16 := by decide +kernel
theorem zi8_lt : ∀ i, i < 64 → zi 8 i < 64 := by decide +kernel
theorem zi4_zg : ∀ i, i < 16 → zi 4 (zg 4 i) = i := by decide +kernel
theorem zi8_zg : ∀ i, i < 64 → zi 8 (zg 8 i) = i := by decide +kernel
theorem zg4_zi : ∀ i, i < 16 → zg 4 (zi 4 i) = i := by decide +kernel
theorem zg8_zi : ∀ i, i < 64 → zg 8 (zi 8 i) = i := by decide +kernel
/-- Whether all numbers are from -M to M. -/
def wiB (M : Int) (n : Nat) (g : Nat → Int) : Bool := decide (∀ i, i < n → -M ≤ g i ∧ g i ≤ M)
theorem wiB_iff {M : Int} {n : Nat} {g : Nat → Int} : wiB M n g = true ↔ Wi M n g := by unfold wiB Wi; exact decide_eq_true_iff
theorem wiB_no {M : Int} {n : Nat} {g : Nat → Int} : wiB M n g = false ↔ ¬ Wi M n g := by rw [← wiB_iff]; cases wiB M n g <;> simp
/-- The side of a block of n numbers; 0: none. -/
def sideN (n : Nat) : Nat := if n = 16 then 4 else if n = 64 then 8 else 0
/-- Two lists of numbers, held against each other. -/
def sameB (n m : Nat) (g h : Nat → Int) : Bool := (n == m) && (List.range n).all fun i => g i == h i
theorem sameB_yes {n : Nat} {g h : Nat → Int} (e : ∀ i, i < n → g i = h i) : sameB n n g h = true := by
  simp only [sameB, beq_self_eq_true, Bool.true_and, List.all_eq_true, List.mem_range, beq_iff_eq]
  exact e
/-- Numbers that a call gives. -/
def GivesI (n : Nat) (f : Nat → Int) (w : World) (e : Ending) (w' : World) : Prop := ∃ A c, e = .returned (.slice A n c) ∧ Rd w' A n (in64 f) ∧ n ≤ c ∧ c ≤ 9223372036854775807 ∧ (∀ k o, A = some ⟨k, o, none⟩ → w.heap.size ≤ k) ∧ Below w.heap.size w w'
/-- Numbers, and an error. -/
def GivesIE (n : Nat) (f : Nat → Int) (k : Int) (w : World) (e : Ending) (w' : World) : Prop := ∃ A c, e = .returned (.tuple #[.slice A n c, .int .i64 k]) ∧ Rd w' A n (in64 f) ∧ n ≤ c ∧ c ≤ 9223372036854775807 ∧ (∀ k o, A = some ⟨k, o, none⟩ → w.heap.size ≤ k) ∧ Below w.heap.size w w'
theorem OwnS.cap {w : World} {base n c : Nat} {e : TypeId} {A : Option Addr} {f : Nat → Value} (h : OwnS w base e A n c f) : n ≤ c ∧ c ≤ 9223372036854775807 := by
  rcases OwnS.cases h with ⟨_, rfl, rfl⟩ | ⟨_, _, _, _, h1, h2⟩
  · omega
  · unfold maxLen at h2; omega
end Go.Kin
namespace Go.Proofs.Ytmnoddmecghjdaa
open Go.RowKit Go.Kin
theorem info_i64 : (Try.prog.info? 3).map (fun i => (i.zero, i.size, i.bytes)) = some (some (.int .i64 0), 1, 8) := by kernel_rfl
theorem parts_i64 : ∃ i, Try.prog.info? 3 = some i ∧ i.zero = some (.int .i64 0) ∧ i.size = 1 ∧ i.bytes = 8 := info_parts info_i64
theorem make_i64 (n : Nat) (h : n ≤ 17592186044416) (w : World) :
    (Instr.makeSlice 57 (.int .i64 (n : Int)) (.int .i64 (n : Int))).run Try.prog w = .ok (.slice (some ⟨w.heap.size, 0, none⟩) n n) (w.alloc (.cells (madeCells #[.int .i64 0] n) 3)) :=
  run_make_row' 57 3 (.int .i64 0) 8 Try.underlying57 info_i64 rfl .i64 .i64 n (by omega) (by omega) w
theorem lside_any (n : Nat) (w : World) : Calls Try.prog 86 #[.int .i64 n] w fun e w' => e = .returned (.int .i64 (sideN n)) ∧ w = w' := by
  unfold sideN
  by_cases h1 : n = 16
  · rw [if_pos h1]
    subst h1
    go_enter Try.func86, Try.ntmps86
    go_wp2
    go_ret
    exact ⟨rfl, rfl⟩
  · rw [if_neg h1]
    have e1 : ((n : Int) == 16) = false := by simp; omega
    clear h1
    by_cases h2 : n = 64
    · rw [if_pos h2]
      subst h2
      go_enter Try.func86, Try.ntmps86
      go_wp2
      go_ret
      exact ⟨rfl, rfl⟩
    · rw [if_neg h2]
      have e2 : ((n : Int) == 64) = false := by simp; omega
      clear h2
      go_enter Try.func86, Try.ntmps86
      go_wp2
      go_ret
      exact ⟨rfl, rfl⟩
theorem rside_any (n : Nat) (w : World) : Calls Try.prog 89 #[.int .i64 n] w fun e w' => e = .returned (.int .i64 (sideN n)) ∧ w = w' := by
  unfold sideN
  by_cases h1 : n = 16
  · rw [if_pos h1]
    subst h1
    go_enter Try.func89, Try.ntmps89
    go_wp2
    go_ret
    exact ⟨rfl, rfl⟩
  · rw [if_neg h1]
    have e1 : ((n : Int) == 16) = false := by simp; omega
    clear h1
    by_cases h2 : n = 64
    · rw [if_pos h2]
      subst h2
      go_enter Try.func89, Try.ntmps89
      go_wp2
      go_ret
      exact ⟨rfl, rfl⟩
    · rw [if_neg h2]
      have e2 : ((n : Int) == 64) = false := by simp; omega
      clear h2
      go_enter Try.func89, Try.ntmps89
      go_wp2
      go_ret
      exact ⟨rfl, rfl⟩
set_option maxHeartbeats 1000000 in
theorem same7_yes (A B : Option Addr) (n c d : Nat) (g h : Nat → Int) (w : World) (hA : Rd w A n (in64 g)) (hB : Rd w B n (in64 h)) (he : ∀ i, i < n → g i = h i) (hn2 : n ≤ 10000) :
    Calls Try.prog 37 #[.slice A n c, .slice B n d] w fun e w' => e = .returned (.bool true) ∧ Below w.heap.size w w' := by
  have hB' : Rd w B n (in64 g) := hB.congr (fun i hi => by simp only [in64]; rw [he i hi])
  have K := ((Kn.start w).add (x := .rd A n (in64 g)) hA).add (x := .rd B n (in64 g)) hB'
  clear hA hB hB' he
  go_enter Try.func37, Try.ntmps37
  go_wp2
  have HK := Lib.hid K
  clear K
  go_loopw [5] (fun i wr => ∃ k : Nat, k ≤ n ∧ i = .int .i64 k ∧ Kn wr [.rd B n (in64 g), .rd A n (in64 g), .since w]) (fun i _ => n - (intOf i).toNat)
  case atStart => exact ⟨0, Nat.zero_le _, rfl, HK.out⟩
  case round =>
    obtain ⟨k, hk, rfl, K⟩ := hrel
    clear HK
    by_cases hlt : k < n
    · obtain ⟨bA, oA, rfl, _, hcA⟩ := Rd.some_ K.2.1 (by omega)
      obtain ⟨bB, oB, rfl, _, hcB⟩ := Rd.some_ K.1 (by omega)
      have c1 := hcA k hlt
      have c2 := hcB k hlt
      simp only [in64] at c1 c2
      have HK := Lib.hid K
      clear K hcA hcB
      have lm' : (k : Int) < n := by omega
      go_wp2
      go_quiet (fail)
      go_wp2
      exact ⟨⟨k + 1, hlt, by go_num, Kn.drewN HK.out _⟩, by simp [intOf]; omega⟩
    · have L : Below _ _ _ := K.2.2.1
      go_wp2
      go_ret
      exact ⟨rfl, L⟩
end Go.Proofs.Ytmnoddmecghjdaa
