/- Walks of package plane: sides, Right, New: what each call answers and what it leaves. -/
import Derived.Test.YtcojphdohpgjnaaRows
import Derived.Test.YtcojphdohpgjnaaCom
namespace Go.Proofs.Ytcojphdohpgjnaa
open Go.RowKit Go.Kin

def sidesB (a b : Int) : Bool := decide (1 ≤ a ∧ a ≤ 4096 ∧ 1 ≤ b ∧ b ≤ 4096)
theorem sidesB_iff {a b : Int} : sidesB a b = true ↔ (1 ≤ a ∧ a ≤ 4096 ∧ 1 ≤ b ∧ b ≤ 4096) := by simp [sidesB]
def rightB (a b : Int) (n : Nat) : Bool := sidesB a b && ((n : Int) == a * b)

theorem rightB_iff {a b : Int} {n : Nat} : rightB a b n = true ↔ (1 ≤ a ∧ a ≤ 4096 ∧ 1 ≤ b ∧ b ≤ 4096 ∧ (n : Int) = a * b) := by
  simp only [rightB, Bool.and_eq_true, sidesB_iff, beq_iff_eq]
  constructor
  · rintro ⟨⟨h1, h2, h3, h4⟩, h5⟩; exact ⟨h1, h2, h3, h4, h5⟩
  · rintro ⟨h1, h2, h3, h4, h5⟩; exact ⟨⟨h1, h2, h3, h4⟩, h5⟩
theorem rightB_le {a b : Int} {n : Nat} (h : rightB a b n = true) : n ≤ 16777216 := by
  obtain ⟨h1, h2, h3, h4, h5⟩ := rightB_iff.1 h
  have := Int.mul_le_mul h2 h4 (by omega) (by omega)
  omega
theorem rightB_pos {a b : Int} {n : Nat} (h : rightB a b n = true) : 1 ≤ n := by
  obtain ⟨h1, h2, h3, h4, h5⟩ := rightB_iff.1 h
  have := Int.mul_le_mul h1 h3 (by omega) (by omega)
  omega

set_option maxHeartbeats 400000 in
theorem sides_any (a b : Int) (w : World) :
    Calls Try.prog 39 #[.int .i64 a, .int .i64 b] w fun e w' => e = .returned (.bool (sidesB a b)) ∧ w = w' := by
  have H := Lib.hid (show sidesB a b = decide (1 ≤ a ∧ a ≤ 4096 ∧ 1 ≤ b ∧ b ≤ 4096) from rfl)
  by_cases h1 : 1 ≤ a
  all_goals by_cases h2 : a ≤ 4096
  all_goals by_cases h3 : 1 ≤ b
  all_goals by_cases h4 : b ≤ 4096
  all_goals go_enter Try.func39, Try.ntmps39
  all_goals go_wp2
  all_goals go_ret
  all_goals exact ⟨ret_bool (by rw [H.out]; simp [*]), rfl⟩

set_option maxHeartbeats 400000 in
theorem right_any (a b : Int) (A : Option Addr) (n c : Nat) (w : World) :
    Calls Try.prog 30 #[.agg #[.int .i64 a, .int .i64 b, .slice A n c]] w fun e w' => e = .returned (.bool (rightB a b n)) ∧ Below w.heap.size w w' := by
  have H := Lib.hid (show rightB a b n = (sidesB a b && ((n : Int) == a * b)) from rfl)
  by_cases h : sidesB a b = true
  · have hb := sidesB_iff.1 h
    obtain ⟨h1, h2, h3, h4⟩ := hb
    have hm1 : 0 ≤ a * b := Int.mul_nonneg (by omega) (by omega)
    have hm2 : a * b ≤ 16777216 := by
      have := Int.mul_le_mul h2 h4 (by omega) (by omega)
      omega
    go_enter Try.func30, Try.ntmps30
    go_wp2_with (go_at_call 39; refine (sides_any _ _ _).mono ?_; rintro e w' ⟨rfl, rfl⟩)
    go_ret
    exact ⟨ret_bool (by rw [H.out, h]; simp), (Below.refl _ _).alloc (Nat.le_refl _) _⟩
  · have h' : sidesB a b = false := by simpa using h
    clear h
    go_enter Try.func30, Try.ntmps30
    go_wp2_with (go_at_call 39; refine (sides_any _ _ _).mono ?_; rintro e w' ⟨rfl, rfl⟩)
    go_ret
    exact ⟨ret_bool (by rw [H.out, h']; simp), (Below.refl _ _).alloc (Nat.le_refl _) _⟩

theorem info_u8 : (Try.prog.info? 5).map (fun i => (i.zero, i.size, i.bytes)) = some (some (.int .u8 0), 1, 1) := by kernel_rfl
theorem size_u8 : (Try.prog.info? 5).map (·.size) = some 1 := by kernel_rfl
theorem make_u8 (n : Nat) (h : n ≤ 281474976710656) (w : World) :
    (Instr.makeSlice 22 (.int .i64 (n : Int)) (.int .i64 (n : Int))).run Try.prog w = .ok (.slice (some ⟨w.heap.size, 0, none⟩) n n) (w.alloc (.cells (madeCells #[.int .u8 0] n) 5)) :=
  run_make_row' 22 5 (.int .u8 0) 1 Try.underlying22 info_u8 rfl .i64 .i64 n (by omega) (by omega) w

/-- What New answers, where there are such planes. -/
def MadePlane (W H : Int) (N : Nat) (g : Nat → Int) (w : World) (e : Ending) (w' : World) : Prop :=
  ∃ b, e = .returned (.tuple #[.agg #[.int .i64 W, .int .i64 H, .slice (some ⟨b, 0, none⟩) N N], .int .i64 0]) ∧ w.heap.size ≤ b ∧ Row w' b N (by8 g) ∧ Below w.heap.size w w'
/-- A plane's error. -/
def NoPlane (k : Int) (w : World) (e : Ending) (w' : World) : Prop :=
  e = .returned (.tuple #[.agg #[.int .i64 0, .int .i64 0, .slice none 0 0], .int .i64 k]) ∧ Below w.heap.size w w'

set_option maxHeartbeats 400000 in
theorem new_no (a b v : Int) (w : World) (h : sidesB a b = false) :
    Calls Try.prog 25 #[.int .i64 a, .int .i64 b, .int .u8 v] w (NoPlane 61 w) := by
  go_enter Try.func25, Try.ntmps25
  go_wp2_with (go_at_call 39; refine (sides_any _ _ _).mono ?_; rintro e w' ⟨rfl, rfl⟩)
  exact bodyPost_ret (v := .tuple #[.agg #[.int .i64 0, .int .i64 0, .slice none 0 0], .int .i64 61]) (by simp [results, Try.results25, go_sem]) rfl ⟨rfl, (Below.refl _ _).alloc (Nat.le_refl _) _⟩

set_option maxHeartbeats 400000 in
theorem new_yes (a b v : Int) (N : Nat) (w : World) (h : sidesB a b = true) (hN : a * b = (N : Int)) :
    Calls Try.prog 25 #[.int .i64 a, .int .i64 b, .int .u8 v] w (MadePlane a b N (fun _ => v) w) := by
  have hb := sidesB_iff.1 h
  obtain ⟨h1, h2, h3, h4⟩ := hb
  have hm1 : 0 ≤ a * b := Int.mul_nonneg (by omega) (by omega)
  have hm2 : a * b ≤ 16777216 := by
    have := Int.mul_le_mul h2 h4 (by omega) (by omega)
    omega
  rw [hN] at hm1 hm2
  have hmk := make_u8 N (by omega)
  go_enter Try.func25, Try.ntmps25
  go_wp2_with (go_at_call 39; refine (sides_any _ _ _).mono ?_; rintro e w' ⟨rfl, rfl⟩)
  go_loopw [25] (fun i wr => ∃ k : Nat, k ≤ N ∧ i = .int .i64 k ∧ Box wr w.heap.size #[.int .i64 0, .int .i64 0, .slice none 0 0] ∧ Row wr (w.heap.size + 1) N (by8 fun j => if j < k then v else 0)
      ∧ Box wr (w.heap.size + 1 + 1) #[.int .i64 a, .int .i64 b, .slice (some ⟨w.heap.size + 1, 0, none⟩) N N] ∧ Below w.heap.size w wr) (fun i _ => N - (intOf i).toNat)
  case atStart =>
    refine ⟨0, Nat.zero_le _, rfl, ((Box.new _ _ _).alloc _).alloc _, ?_, ?_, ?_⟩
    · exact ((Row.madeAt _ (.int .u8 0) N _ (by simp)).congr (by intro i _; simp [by8])).alloc _
    · exact Box.newAt _ _ _ (by simp)
    · exact (((Below.refl _ _).alloc (Nat.le_refl _) _).alloc (by simp) _).alloc (by simp; omega) _
  case round =>
    obtain ⟨k, hk, rfl, hB0, hR, hB2, hbel⟩ := hrel
    obtain ⟨c0, c1, c2⟩ := hB2.cell3
    by_cases hlt : k < N
    · have cr := hR.cell hlt
      have fr := hR.frozen k
      simp only [by8] at cr
      have HR := Lib.hid hR
      clear hR
      go_wp2
      go_roundw
      case rel =>
        refine ⟨k + 1, by omega, by go_num, hB0.far (by simp) _, (HR.out.set k _).congr ?_, hB2.far (by simp) _, hbel.setCell (by simp) _⟩
        intro i hi
        simp only [by8]
        by_cases h1 : i = k
        · subst h1; simp
        · by_cases h2 : i < k
          · simp [h1, h2, show i < k + 1 by omega]
          · simp [h1, h2, show ¬ i < k + 1 by omega]
      case measure => simp [intOf]; omega
    · obtain ⟨d0, d1, d2⟩ := hB0.cell3
      obtain ⟨f0, f1, f2⟩ := hB0.frozen3
      go_wp2
      have hkN : k = N := by omega
      subst hkN
      refine bodyPost_ret (v := .tuple #[.agg #[.int .i64 a, .int .i64 b, .slice (some ⟨w.heap.size + 1, 0, none⟩) k k], .int .i64 0]) (by simp [results, Try.results25, go_sem, d0, d1, d2]) rfl ?_
      refine ⟨_, rfl, by omega, ?_, ?_⟩
      · exact ((((hR.congr (by intro i hi; simp [by8, hi])).far (by simp) _).far (by simp) _).far (by simp) _)
      · exact ((hbel.setCell (by simp) _).setCell (by simp) _).setCell (by simp) _
end Go.Proofs.Ytcojphdohpgjnaa
