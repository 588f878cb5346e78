/- Walks of package intra and of the document's layer 9: clip, Rest, Clip, Far; Same of layer 7. -/
import Derived.Test.YtcojphdohpgjnaaKn5
import Derived.Test.YtcojphdohpgjnaaRg3
import Derived.Test.YtcojphdohpgjnaaPw3
namespace Go.Kin
def clip8 (v : Int) : Int := min (max v 0) 255
theorem clip8_bd (v : Int) : 0 ≤ clip8 v ∧ clip8 v ≤ 255 := by unfold clip8; omega
end Go.Kin
namespace Go.Proofs.Ytcojphdohpgjnaa
open Go.RowKit Go.Kin
set_option linter.unusedVariables false

theorem info_i64 : (Try.prog.info? 3).map (fun i => (i.zero, i.size, i.bytes)) = some (some (.int .i64 0), 1, 8) := by kernel_rfl
theorem parts_i64 : ∃ i, Try.prog.info? 3 = some i ∧ i.zero = some (.int .i64 0) ∧ i.size = 1 ∧ i.bytes = 8 := info_parts info_i64
theorem make_i64 (n : Nat) (h : n ≤ 17592186044416) (w : World) :
    (Instr.makeSlice 39 (.int .i64 (n : Int)) (.int .i64 (n : Int))).run Try.prog w = .ok (.slice (some ⟨w.heap.size, 0, none⟩) n n) (w.alloc (.cells (madeCells #[.int .i64 0] n) 3)) :=
  run_make_row' 39 3 (.int .i64 0) 8 Try.underlying39 info_i64 rfl .i64 .i64 n (by omega) (by omega) w

set_option maxHeartbeats 400000 in
theorem iclip_any (v : Int) (w : World) :
    Calls Try.prog 37 #[.int .i64 v] w fun e w' => e = .returned (.int .u8 (clip8 v)) ∧ w = w' := by
  have H := Lib.hid (show clip8 v = min (max v 0) 255 from rfl)
  have b0 : 0 ≤ min (max v 0) 255 := by omega
  have b1 : min (max v 0) 255 ≤ 255 := by omega
  go_enter Try.func37, Try.ntmps37
  go_wp2
  go_ret
  exact ⟨ret_int (by rw [H.out]), rfl⟩

set_option maxHeartbeats 400000 in
theorem rclip_any (v : Int) (w : World) :
    Calls Try.prog 38 #[.int .i64 v] w fun e w' => e = .returned (.int .u8 (clip8 v)) ∧ w = w' := by
  by_cases h : v < 0
  · have H := Lib.hid (show clip8 v = 0 by unfold clip8; omega)
    go_enter Try.func38, Try.ntmps38
    go_wp2
    go_ret
    exact ⟨ret_int (by rw [H.out]), rfl⟩
  · by_cases h2 : 255 < v
    · have H := Lib.hid (show clip8 v = 255 by unfold clip8; omega)
      go_enter Try.func38, Try.ntmps38
      go_wp2
      go_ret
      exact ⟨ret_int (by rw [H.out]), rfl⟩
    · have H := Lib.hid (show clip8 v = v by unfold clip8; omega)
      go_enter Try.func38, Try.ntmps38
      go_wp2
      go_ret
      exact ⟨ret_int (by rw [H.out]), rfl⟩

/-- Two lengths that are not the same, as the tests ask it. -/
def neN (m n : Nat) : Prop := ¬ m = n ∧ (m != n) = true ∧ (m == n) = false ∧ ((m : Int) != (n : Int)) = true ∧ ((m : Int) == (n : Int)) = false
theorem neN_of {m n : Nat} (h : ¬ m = n) : neN m n := ⟨h, by simp [h], by simp [h], by simp; omega, by simp; omega⟩

/-- A slice of the call's own. -/
def MadeInts (n : Nat) (g : Nat → Int) (w : World) (e : Ending) (w' : World) : Prop :=
  ∃ b, e = .returned (.slice (some ⟨b, 0, none⟩) n n) ∧ w.heap.size ≤ b ∧ Row w' b n (in64 g) ∧ Below w.heap.size w w'

set_option maxHeartbeats 1000000 in
theorem irest_no (A B : Option Addr) (n c m d : Nat) (w : World) (h : neN n m) :
    Calls Try.prog 20 #[.slice A n c, .slice B m d] w fun e w' => e = .returned (.slice none 0 0) ∧ w = w' := by
  obtain ⟨h1, h2, h3, h4, h5⟩ := h
  go_enter Try.func20, Try.ntmps20
  go_wp2
  go_ret
  exact ⟨rfl, rfl⟩
set_option maxHeartbeats 1000000 in
theorem iclips_no (A B : Option Addr) (n c m d : Nat) (w : World) (h : neN n m) :
    Calls Try.prog 22 #[.slice A n c, .slice B m d] w fun e w' => e = .returned (.slice none 0 0) ∧ w = w' := by
  obtain ⟨h1, h2, h3, h4, h5⟩ := h
  go_enter Try.func22, Try.ntmps22
  go_wp2
  go_ret
  exact ⟨rfl, rfl⟩
set_option maxHeartbeats 1000000 in
theorem rrest_no (A B : Option Addr) (n c m d : Nat) (w : World) (h : neN n m) :
    Calls Try.prog 21 #[.slice A n c, .slice B m d] w fun e w' => e = .returned (.slice none 0 0) ∧ w = w' := by
  obtain ⟨h1, h2, h3, h4, h5⟩ := h
  go_enter Try.func21, Try.ntmps21
  go_wp2
  go_ret
  exact ⟨rfl, rfl⟩
set_option maxHeartbeats 1000000 in
theorem rclips_no (A B : Option Addr) (n c m d : Nat) (w : World) (h : neN n m) :
    Calls Try.prog 24 #[.slice A n c, .slice B m d] w fun e w' => e = .returned (.slice none 0 0) ∧ w = w' := by
  obtain ⟨h1, h2, h3, h4, h5⟩ := h
  go_enter Try.func24, Try.ntmps24
  go_wp2
  go_ret
  exact ⟨rfl, rfl⟩

set_option maxHeartbeats 1000000 in
theorem irest_yes (A B : Option Addr) (n c d : Nat) (g h : Nat → Int) (w : World) (hA : Rd w A n (by8 g)) (hB : Rd w B n (by8 h)) (hg : Byt g) (hh : Byt h) (hn : n ≤ 10000) :
    Calls Try.prog 20 #[.slice A n c, .slice B n d] w (MadeInts n (fun i => g i - h i) w) := by
  have hmk := make_i64 n (by omega)
  have K := ((Kn.start w).add (x := .rd A n (by8 g)) hA).add (x := .rd B n (by8 h)) hB
  have OF := fun b hb => K.offS (b := b) hb
  have HOF := Lib.hid OF
  clear hA hB OF
  go_enter Try.func20, Try.ntmps20
  go_wp2
  have HK := Lib.hid (K.make w.heap.size (.int .i64 0) n 3 rfl)
  clear K
  go_loopw [18] (fun i wr => ∃ k : Nat, k ≤ n ∧ i = .int .i64 k ∧ Kn wr [.row w.heap.size n (in64 fun j => if j < k then g j - h j else 0), .rd B n (by8 h), .rd A n (by8 g), .since w]) (fun i _ => n - (intOf i).toNat)
  case atStart => exact ⟨0, Nat.zero_le _, rfl, HK.out.row (fun i _ => by simp [in64])⟩
  case round =>
    obtain ⟨k, hk, rfl, K⟩ := hrel
    clear HK
    by_cases hlt : k < n
    · obtain ⟨bA, oA, rfl, _, hcA⟩ := Rd.some_ K.2.2.1 (by omega)
      obtain ⟨bB, oB, rfl, _, hcB⟩ := Rd.some_ K.2.1 (by omega)
      have c1 := hcA k hlt
      have c2 := hcB k hlt
      have cr := Row.cell K.1 hlt
      have fr := Row.frozen K.1 k
      simp only [by8, in64] at c1 c2 cr
      have b1 := hg k
      have b2 := hh k
      have HK := Lib.hid K
      clear K hcA hcB
      go_wp2
      go_roundw
      case rel =>
        refine ⟨k + 1, hlt, by go_num, (Kn.setRowS HK.out k _ (HOF.out _ (Nat.le_refl _))).row fun i _ => ?_⟩
        simp only [in64]
        by_cases e1 : i = k
        · subst e1; simp
        · by_cases e2 : i < k
          · simp [e1, e2, show i < k + 1 by omega]
          · simp [e1, e2, show ¬ i < k + 1 by omega]
      case measure => simp [intOf]; omega
    · have hkn : k = n := by omega
      subst hkn
      go_wp2
      go_ret
      exact ⟨_, rfl, Nat.le_refl _, Row.congr K.1 (fun i hi => by simp [in64, hi]), K.2.2.2.1⟩
end Go.Proofs.Ytcojphdohpgjnaa
