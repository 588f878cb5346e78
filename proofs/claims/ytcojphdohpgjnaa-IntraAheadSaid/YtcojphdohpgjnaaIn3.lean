/- Walks of package intra: what is around a block, and the modes. -/
import Derived.Test.YtcojphdohpgjnaaIn2
import Derived.Laws.EntriesVeiled
namespace Go.Kin
/-- The cells of what is around a block. -/
abbrev arCells (n : Int) (ab lf : Nat → Int) (co : Int) : Array Value := #[.int .i64 n, .int .u8 (ab 0), .int .u8 (ab 1), .int .u8 (ab 2), .int .u8 (ab 3), .int .u8 (ab 4), .int .u8 (ab 5), .int .u8 (ab 6), .int .u8 (ab 7), .int .u8 (lf 0), .int .u8 (lf 1), .int .u8 (lf 2), .int .u8 (lf 3), .int .u8 (lf 4), .int .u8 (lf 5), .int .u8 (lf 6), .int .u8 (lf 7), .int .u8 co]
theorem ar_ab {n : Int} {ab lf : Nat → Int} {co : Int} {x : Nat} (hx : x < 8) : (arCells n ab lf co)[1 + x]? = some (.int .u8 (ab x)) := by
  match x, hx with
  | 0, _ => rfl
  | 1, _ => rfl
  | 2, _ => rfl
  | 3, _ => rfl
  | 4, _ => rfl
  | 5, _ => rfl
  | 6, _ => rfl
  | 7, _ => rfl
theorem ar_lf {n : Int} {ab lf : Nat → Int} {co : Int} {x : Nat} (hx : x < 8) : (arCells n ab lf co)[9 + x]? = some (.int .u8 (lf x)) := by
  match x, hx with
  | 0, _ => rfl
  | 1, _ => rfl
  | 2, _ => rfl
  | 3, _ => rfl
  | 4, _ => rfl
  | 5, _ => rfl
  | 6, _ => rfl
  | 7, _ => rfl
/-- n, and the sum of the first k above and left. -/
def flS (n : Int) (ab lf : Nat → Int) : Nat → Int
  | 0 => n
  | k + 1 => flS n ab lf k + (ab k + lf k)
theorem flS_bd {n : Int} {ab lf : Nat → Int} (ha : Byt ab) (hl : Byt lf) : ∀ k, n ≤ flS n ab lf k ∧ flS n ab lf k ≤ n + 510 * k
  | 0 => by simp [flS]
  | k + 1 => by
    have := flS_bd (n := n) ha hl k
    have := ha k
    have := hl k
    simp only [flS]
    omega
end Go.Kin
namespace Go.Proofs.Ytcojphdohpgjnaa
open Go.RowKit Go.Kin
set_option linter.unusedVariables false

set_option maxHeartbeats 1000000 in
theorem down_any (n : Int) (ab lf : Nat → Int) (co : Int) (x y : Nat) (w : World) (hx : x < 8) :
    Calls Try.prog 51 #[.agg (arCells n ab lf co), .int .i64 x, .int .i64 y] w fun e w' => e = .returned (.int .u8 (ab x)) ∧ Below w.heap.size w w' := by
  have hB := Box.new w 61 (arCells n ab lf co)
  have c := (hB.cell (1 + x)).trans (ar_ab hx)
  clear hB
  have hx' : (x : Int) < 8 := by omega
  go_enter Try.func51, Try.ntmps51
  go_wp2
  go_ret
  exact ⟨rfl, (Below.refl _ _).alloc (Nat.le_refl _) _⟩
set_option maxHeartbeats 1000000 in
theorem across_any (n : Int) (ab lf : Nat → Int) (co : Int) (x y : Nat) (w : World) (hy : y < 8) :
    Calls Try.prog 52 #[.agg (arCells n ab lf co), .int .i64 x, .int .i64 y] w fun e w' => e = .returned (.int .u8 (lf y)) ∧ Below w.heap.size w w' := by
  have hB := Box.new w 61 (arCells n ab lf co)
  have c := (hB.cell (9 + y)).trans (ar_lf hy)
  clear hB
  have hy' : (y : Int) < 8 := by omega
  go_enter Try.func52, Try.ntmps52
  go_wp2
  go_ret
  exact ⟨rfl, (Below.refl _ _).alloc (Nat.le_refl _) _⟩
set_option maxHeartbeats 1000000 in
theorem slope_any (n : Int) (ab lf : Nat → Int) (co : Int) (x y : Nat) (w : World) (hx : x < 8) (hy : y < 8) (ha : Byt ab) (hl : Byt lf) (hc : 0 ≤ co ∧ co ≤ 255) :
    Calls Try.prog 53 #[.agg (arCells n ab lf co), .int .i64 x, .int .i64 y] w fun e w' => e = .returned (.int .u8 (clip8 (ab x + lf y - co))) ∧ Below w.heap.size w w' := by
  have hB := Box.new w 61 (arCells n ab lf co)
  have K := (Kn.start w).new w.heap.size (arCells n ab lf co) 61 rfl
  have b1 := ha x
  have b2 := hl y
  have hx' : (x : Int) < 8 := by omega
  have hy' : (y : Int) < 8 := by omega
  go_enter Try.func53, Try.ntmps53
  go_wp2
  generalize w.alloc (.cells (arCells n ab lf co) 61) = w1 at K ⊢
  clear hB
  have c1 := (Box.cell K.1 (1 + x)).trans (ar_ab hx)
  have c2 := (Box.cell K.1 (9 + y)).trans (ar_lf hy)
  have c3 : w1.cell? ⟨w.heap.size, 17, none⟩ = some (.int .u8 co) := Box.cell K.1 17
  have z1 : IntKind.i64.wrap (ab x + lf y) = ab x + lf y := IntWalk.i64_in _ (by omega)
  have z2 : IntKind.i64.wrap (ab x + lf y - co) = ab x + lf y - co := IntWalk.i64_in _ (by omega)
  go_quiet ((go_at_call 37; exact quietLeft (iclip_any _ _)))
  go_wp2
  go_ret
  exact ⟨rfl, below_drewN K.2.1 _⟩
set_option maxHeartbeats 1000000 in
theorem flat_any (n : Nat) (ab lf : Nat → Int) (co : Int) (x y : Int) (w : World) (h1 : 1 ≤ n) (h8 : n ≤ 8) (ha : Byt ab) (hl : Byt lf) :
    Calls Try.prog 50 #[.agg (arCells n ab lf co), .int .i64 x, .int .i64 y] w fun e w' => e = .returned (.int .u8 (flS n ab lf n / (2 * n))) ∧ Below w.heap.size w w' := by
  have K := (Kn.start w).new w.heap.size (arCells n ab lf co) 61 rfl
  go_enter Try.func50, Try.ntmps50
  go_wp2
  have HK := Lib.hid K
  clear K
  generalize w.alloc (.cells (arCells n ab lf co) 61) = w1 at HK ⊢
  go_loopw [7, 13] (fun s i wr => ∃ k : Nat, k ≤ n ∧ i = .int .i64 k ∧ s = .int .i64 (flS n ab lf k) ∧ Kn wr [.box w.heap.size (arCells n ab lf co), .since w]) (fun _ i _ => n - (intOf i).toNat)
  case atStart => exact ⟨0, Nat.zero_le _, rfl, rfl, HK.out⟩
  case round =>
    obtain ⟨k, hk, rfl, rfl, K⟩ := hrel
    clear HK
    obtain ⟨f0, f1⟩ := flS_bd (n := n) ha hl k
    by_cases hlt : k < n
    · have b1 := ha k
      have b2 := hl k
      have c1 := (Box.cell K.1 (1 + k)).trans (ar_ab (by omega))
      have c2 := (Box.cell K.1 (9 + k)).trans (ar_lf (by omega))
      have hk8 : (k : Int) < 8 := by omega
      have hk9 : k < 8 := by omega
      have HD := Lib.hid (show flS n ab lf (k + 1) = flS n ab lf k + (ab k + lf k) from rfl)
      generalize flS n ab lf k = s at *
      have HK := Lib.hid K
      clear K
      go_wp2
      have z1 : IntKind.i64.wrap (ab k + lf k) = ab k + lf k := IntWalk.i64_in _ (by omega)
      have z2 : IntKind.i64.wrap (s + (ab k + lf k)) = s + (ab k + lf k) := IntWalk.i64_in _ (by omega)
      go_quiet (fail)
      clear z1 z2
      go_wp2
      go_roundw
      case rel => exact ⟨k + 1, hlt, by go_num, by rw [HD.out], Kn.drewN HK.out _⟩
      case measure => simp [intOf]; omega
    · have hkn : k = n := by omega
      subst hkn
      have L : Below _ _ _ := K.2.1
      have kc := Box.cells K.1
      have q0 : 0 ≤ flS k ab lf k / (2 * (k : Int)) := Int.ediv_nonneg (by omega) (by omega)
      have q1 : flS k ab lf k / (2 * (k : Int)) ≤ 255 := by
        have : flS k ab lf k / (2 * (k : Int)) < 256 := Int.ediv_lt_of_lt_mul (by omega) (by omega)
        omega
      generalize hs : flS k ab lf k = s at *
      have HS := Lib.hid hs
      clear hs
      go_wp2
      go_ret
      exact ⟨ret_int (by rw [HS.out]), L⟩
set_option maxHeartbeats 1000000 in
theorem modes_any (w : World) :
    Calls Try.prog 33 #[] w fun e w' => e = .returned (.agg #[.func (.func 50) #[] #[], .func (.func 51) #[] #[], .func (.func 52) #[] #[], .func (.func 53) #[] #[]]) ∧ Below w.heap.size w w' := by
  go_enter Try.func33, Try.ntmps33
  go_wp2
  exact bodyPost_ret (v := .agg #[.func (.func 50) #[] #[], .func (.func 51) #[] #[], .func (.func 52) #[] #[], .func (.func 53) #[] #[]]) (by simp [results, Try.results33, go_sem]) rfl ⟨rfl, (Below.refl _ _).alloc (Nat.le_refl _) _⟩
end Go.Proofs.Ytcojphdohpgjnaa
