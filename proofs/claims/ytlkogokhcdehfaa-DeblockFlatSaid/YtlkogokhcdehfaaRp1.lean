/- Walks of the document's answer for layer 6: side, Right, Copy, SamePlane. -/
import Derived.Test.YtlkogokhcdehfaaPw1
import Derived.Test.YtlkogokhcdehfaaApp
namespace Go.Kin
theorem strEq_iff {n m : Nat} {g h : Nat → Int} (hg : Byt g) (hh : Byt h) : ((strOf n g).toList == (strOf m h).toList) = true ↔ (n = m ∧ ∀ i, i < n → g i = h i) := by
  rw [beq_iff_eq, ← strOf_eq hg hh]
  constructor
  · intro e
    rw [ByteArray.toList_eq, ByteArray.toList_eq] at e
    exact ByteArray.ext (Array.ext' e)
  · intro e; rw [e]
theorem strEq_rfl {n : Nat} {g : Nat → Int} : ((strOf n g).toList == (strOf n g).toList) = true := by rw [beq_iff_eq]
theorem Rd.nil_ {w : World} {A : Option Addr} {n : Nat} {f : Nat → Value} (h : Rd w A n f) (hA : A = none) : n = 0 := by
  rcases Nat.eq_zero_or_pos n with h0 | h0
  · exact h0
  · obtain ⟨b, off, e, _⟩ := h h0
    rw [hA] at e; cases e
end Go.Kin
namespace Go.Proofs.Ytlkogokhcdehfaa
open Go.RowKit Go.Kin
set_option linter.unusedVariables false

def sideB (a : Int) : Bool := decide (1 ≤ a ∧ a ≤ 4096)
theorem sidesB_side (a b : Int) : (sideB a && sideB b) = sidesB a b := by
  unfold sideB sidesB
  rw [Bool.eq_iff_iff]; simp; omega
set_option maxHeartbeats 400000 in
theorem rside_any (a : Int) (w : World) :
    Calls Try.prog 57 #[.int .i64 a] w fun e w' => e = .returned (.bool (sideB a)) ∧ w = w' := by
  have H := Lib.hid (show sideB a = decide (1 ≤ a ∧ a ≤ 4096) from rfl)
  by_cases h1 : 1 ≤ a
  all_goals by_cases h2 : a ≤ 4096
  all_goals go_enter Try.func57, Try.ntmps57
  all_goals go_wp2
  all_goals go_ret
  all_goals exact ⟨ret_bool (by rw [H.out]; simp [*]), rfl⟩

set_option maxHeartbeats 400000 in
theorem rright_any (a b : Int) (A : Option Addr) (n c : Nat) (w : World) :
    Calls Try.prog 55 #[.agg #[.int .i64 a, .int .i64 b, .slice A n c]] w fun e w' => e = .returned (.bool (rightB a b n)) ∧ Below w.heap.size w w' := by
  have H := Lib.hid (show rightB a b n = ((sideB a && sideB b) && ((n : Int) == a * b)) from by rw [sidesB_side]; rfl)
  cases h1 : sideB a with
  | false =>
    go_enter Try.func55, Try.ntmps55
    go_wp2_with (go_at_call 57; refine (rside_any _ _).mono ?_; rintro e w' ⟨rfl, rfl⟩)
    go_ret
    exact ⟨ret_bool (by rw [H.out, h1]; simp), (Below.refl _ _).alloc (Nat.le_refl _) _⟩
  | true =>
    cases h2 : sideB b with
    | false =>
      go_enter Try.func55, Try.ntmps55
      go_wp2_with (go_at_call 57; refine (rside_any _ _).mono ?_; rintro e w' ⟨rfl, rfl⟩)
      go_ret
      exact ⟨ret_bool (by rw [H.out, h1, h2]; simp), (Below.refl _ _).alloc (Nat.le_refl _) _⟩
    | true =>
      have g1 : 1 ≤ a ∧ a ≤ 4096 := by simpa [sideB] using h1
      have g2 : 1 ≤ b ∧ b ≤ 4096 := by simpa [sideB] using h2
      have hm1 : 0 ≤ a * b := Int.mul_nonneg (by omega) (by omega)
      have hm2 : a * b ≤ 16777216 := by
        have := Int.mul_le_mul g1.2 g2.2 (by omega) (by omega)
        omega
      clear g1 g2
      go_enter Try.func55, Try.ntmps55
      go_wp2_with (go_at_call 57; refine (rside_any _ _).mono ?_; rintro e w' ⟨rfl, rfl⟩)
      go_ret
      exact ⟨ret_bool (by rw [H.out, h1, h2]; simp), (Below.refl _ _).alloc (Nat.le_refl _) _⟩

theorem parts_u8 : ∃ i, Try.prog.info? 5 = some i ∧ i.zero = some (.int .u8 0) ∧ i.size = 1 ∧ i.bytes = 1 := info_parts info_u8

/-- A plane of its own: the sides as they were, the samples in new memory. -/
def OwnPlane (a b : Int) (n : Nat) (g : Nat → Int) (w : World) (e : Ending) (w' : World) : Prop :=
  ∃ A c, e = .returned (.agg #[.int .i64 a, .int .i64 b, .slice A n c]) ∧ OwnS w' w.heap.size 5 A n c (by8 g) ∧ Below w.heap.size w w'

set_option maxHeartbeats 400000 in
theorem rcopy_any (a b : Int) (A : Option Addr) (n c : Nat) (g : Nat → Int) (w : World) (hR : Rd w A n (by8 g)) (hn : n ≤ 140737488355328) :
    Calls Try.prog 23 #[.agg #[.int .i64 a, .int .i64 b, .slice A n c]] w (OwnPlane a b n g w) := by
  obtain ⟨i0, hi0, hz0, hz1, hz2⟩ := parts_u8
  go_enter Try.func23, Try.ntmps23
  go_wp2_with (at_builtin; refine wpList_appS rfl (.tmp 3) (.tmp 5) rfl Try.underlying27 hi0 hz0 hz1 hz2 rfl rfl rfl (OwnS.empty ((w.alloc _).alloc _) _ (by8 g) (by simp) (base := w.heap.size + 1 + 1) (by omega)) (((hR.alloc _).alloc _).alloc _) hR.nil_ (fun j => rfl) ?_ ?_ ?_ ?_; rotate_right; intro A' c' w1 hO hG hL; have B0 : Box w1 w.heap.size #[.int .i64 a, .int .i64 b, .slice A n c] := (((Box.new w _ _).alloc _).alloc _).same (hG.block _ (by simp; omega) (by simp [Value.ownBlock]; omega)); have B1 : Box w1 (w.heap.size + 1) #[.int .i64 0, .int .i64 0, .slice none 0 0] := ((Box.newAt (w.alloc _) _ _ (by simp)).alloc _).same (hG.block _ (by simp) (by simp [Value.ownBlock])); obtain ⟨c0, c1, c2⟩ := B0.cell3; obtain ⟨d0, d1, d2⟩ := B1.cell3; obtain ⟨f0, f1, f2⟩ := B0.frozen3; obtain ⟨g0, g1, g2⟩ := B1.frozen3; have HO := Lib.hid hO; have HG := Lib.hid hG; clear hO hG hL)
  rotate_left
  · unfold maxLen; omega
  · omega
  · simp
  refine bodyPost_ret (v := .agg #[.int .i64 a, .int .i64 b, .slice A' n c']) (by simp [results, Try.results23, go_sem, d0, d1, d2]) rfl ?_
  have hO : OwnS w1 w.heap.size 5 A' n c' (by8 g) := by
    have h := HO.out
    rw [Nat.zero_add] at h
    have h' := h.congr (g := by8 g) (fun j _ => by simp)
    refine ⟨h'.1, ?_⟩
    rcases h'.2 with h | ⟨b, cap, cur, hv, hb, r⟩
    · exact .inl h
    · exact .inr ⟨b, cap, cur, hv, by omega, r⟩
  have hne : ∀ b o, A' = some ⟨b, o, none⟩ → w.heap.size + 1 + 1 ≤ b := fun b o hA' => by
    have h := HO.out
    rw [Nat.zero_add] at h
    exact (h.lt hA').1
  refine ⟨A', c', rfl, ?_, ?_⟩
  · exact ((((hO.far (fun b o h => by have := hne b o h; simp; omega) _).far (fun b o h => by have := hne b o h; simp; omega) _).far (fun b o h => by have := hne b o h; simp; omega) _).far (fun b o h => by have := hne b o h; simp; omega) _)
  · have hb : Below w.heap.size w w1 := ((((Below.refl _ w).alloc (Nat.le_refl _) _).alloc (by simp) _).alloc (by simp; omega) _).grown HG.out (by simp; omega) (fun k hk => by simp [Value.ownBlock] at hk; omega)
    exact (((hb.setCell (by simp) _).setCell (by simp) _).setCell (by simp) _).setCell (by simp) _

theorem conv_any {w : World} {A : Option Addr} {n c : Nat} {g : Nat → Int} (h : Rd w A n (by8 g)) : (convert 27 9 (.slice A n c)).run Try.prog w = .ok (.string (strOf n g)) w :=
  conv_u8 Try.underlying27 Try.underlying5 Try.underlying9 h

def samePB (a b : Int) (n : Nat) (g : Nat → Int) (a' b' : Int) (m : Nat) (h : Nat → Int) : Bool := (a == a') && (b == b') && ((strOf n g).toList == (strOf m h).toList)
set_option maxHeartbeats 400000 in
theorem sameP_any (a b a' b' : Int) (A A' : Option Addr) (n c m d : Nat) (g h : Nat → Int) (w : World) (hR : Rd w A n (by8 g)) (hR' : Rd w A' m (by8 h)) :
    Calls Try.prog 28 #[.agg #[.int .i64 a, .int .i64 b, .slice A n c], .agg #[.int .i64 a', .int .i64 b', .slice A' m d]] w fun e w' => e = .returned (.bool (samePB a b n g a' b' m h)) ∧ Below w.heap.size w w' := by
  have H := Lib.hid (show samePB a b n g a' b' m h = ((a == a') && (b == b') && ((strOf n g).toList == (strOf m h).toList)) from rfl)
  have k1 := fun X Y => conv_any (c := c) ((hR.alloc X).alloc Y)
  have k2 := fun X Y => conv_any (c := d) ((hR'.alloc X).alloc Y)
  cases h1 : (a == a')
  all_goals cases h2 : (b == b')
  all_goals go_enter Try.func28, Try.ntmps28
  all_goals go_wp2
  all_goals go_ret
  all_goals refine ⟨ret_bool (by rw [H.out, h1, h2]; simp), ((Below.refl _ _).alloc (Nat.le_refl _) _).alloc (by simp) _⟩
end Go.Proofs.Ytlkogokhcdehfaa
