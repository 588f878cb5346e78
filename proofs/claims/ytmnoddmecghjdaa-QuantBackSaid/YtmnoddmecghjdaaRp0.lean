/- Bytes: what a slice of them is made of, and its text. -/
import Derived.Test.YtmnoddmecghjdaaProg
import Derived.Test.YtmnoddmecghjdaaApp
namespace Go.Kin
theorem strEq_iff {n m : Nat} {g h : Nat → Int} (hg : Byt g) (hh : Byt h) : ((strOf n g).toList == (strOf m h).toList) = true ↔ (n = m ∧ ∀ i, i < n → g i = h i) := by
  rw [beq_iff_eq, ← strOf_eq hg hh]
  constructor
  · intro e
    rw [ByteArray.toList_eq, ByteArray.toList_eq] at e
    exact ByteArray.ext (Array.ext' e)
  · intro e; rw [e]
theorem strEq_rfl {n : Nat} {g : Nat → Int} : ((strOf n g).toList == (strOf n g).toList) = true := by rw [beq_iff_eq]
theorem Rd.nil_ {w : World} {A : Option Addr} {n : Nat} {f : Nat → Value} (h : Rd w A n f) (hA : A = none) : n = 0 := by
  rcases Nat.eq_zero_or_pos n with h0 | h0
  · exact h0
  · obtain ⟨b, off, e, _⟩ := h h0
    rw [hA] at e; cases e
end Go.Kin
namespace Go.Proofs.Ytmnoddmecghjdaa
open Go.RowKit Go.Kin
set_option linter.unusedVariables false
theorem info_u8 : (Try.prog.info? 5).map (fun i => (i.zero, i.size, i.bytes)) = some (some (.int .u8 0), 1, 1) := by kernel_rfl
theorem size_u8 : (Try.prog.info? 5).map (·.size) = some 1 := by kernel_rfl
theorem make_u8 (n : Nat) (h : n ≤ 281474976710656) (w : World) :
    (Instr.makeSlice 37 (.int .i64 (n : Int)) (.int .i64 (n : Int))).run Try.prog w = .ok (.slice (some ⟨w.heap.size, 0, none⟩) n n) (w.alloc (.cells (madeCells #[.int .u8 0] n) 5)) :=
  run_make_row' 37 5 (.int .u8 0) 1 Try.underlying37 info_u8 rfl .i64 .i64 n (by omega) (by omega) w
theorem parts_u8 : ∃ i, Try.prog.info? 5 = some i ∧ i.zero = some (.int .u8 0) ∧ i.size = 1 ∧ i.bytes = 1 := info_parts info_u8
theorem conv_any {w : World} {A : Option Addr} {n c : Nat} {g : Nat → Int} (h : Rd w A n (by8 g)) : (convert 37 9 (.slice A n c)).run Try.prog w = .ok (.string (strOf n g)) w :=
  conv_u8 Try.underlying37 Try.underlying5 Try.underlying9 h
end Go.Proofs.Ytmnoddmecghjdaa
