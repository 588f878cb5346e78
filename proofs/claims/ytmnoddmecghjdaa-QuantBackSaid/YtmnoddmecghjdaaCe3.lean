/- The document's coder: Bytes, Open, End. -/
import Derived.Test.YtmnoddmecghjdaaCe1M
import Derived.Test.YtmnoddmecghjdaaRg6
import Derived.Test.YtmnoddmecghjdaaKn2M
namespace Go.Proofs.Ytmnoddmecghjdaa
open Go.RowKit Go.Kin
set_option linter.unusedVariables false
set_option maxRecDepth 100000 in
set_option maxHeartbeats 2000000 in
theorem rbytes_any (p V L : Nat) (A : Option Addr) (cap : Nat) (x : Value) (w : World) (hB : Box w p #[.slice A L cap, x]) (hO : Rd w A L (in64 (dig V L))) (hL2 : L ≤ 1000000) :
    Calls Try.prog 23 #[.pointer (some ⟨p, 0, none⟩)] w fun e w' => ∃ A' c', e = .returned (.slice A' L c') ∧ Rd w' A' L (by8 (dig V L)) ∧ (∀ k o, A' = some ⟨k, o, none⟩ → w.heap.size ≤ k) ∧ Below w.heap.size w w' := by
  obtain ⟨i0, hi0, hz0, hz1, hz2⟩ := parts_u8
  have HI := Lib.hid hi0
  have HB := Lib.hid hB
  have HR := Lib.hid hO
  clear hi0 hB hO
  go_enter Try.func23, Try.ntmps23
  go_wp2_with fail
  go_loopw [3, 4] (fun o i wr => ∃ (k c : Nat) (B : Option Addr), k ≤ L ∧ i = .int .i64 k ∧ o = .slice B k c ∧ OwnS wr w.heap.size 5 B k c (by8 (dig V L)) ∧ Below w.heap.size w wr) (fun _ i _ => ((L : Int) - intOf i).toNat)
  case atStart => exact ⟨0, 0, none, by omega, rfl, rfl, OwnS.nil _ _ _ _, Below.refl _ _⟩
  case round =>
    obtain ⟨k, c, B, hk, rfl, rfl, hO, hL⟩ := hrel
    have hB := HB.out.below hL (Box.lt HB.out)
    have kc := Box.cells hB
    have hsz := hL.size
    by_cases hlt : k < L
    · have l1 : (k : Int) < L := by omega
      have hR := HR.out.below hL
      obtain ⟨b, off, rfl, -, -⟩ := hR.some_ (by omega)
      have c1 := Rd.at_ hR (i := k) hlt
      unfold in64 at c1
      have hd := dig_byt V L k
      have HDG := Lib.hid (show by8 (dig V L) k = .int .u8 (dig V L k) from rfl)
      generalize dig V L k = dk at *
      have z : IntKind.u8.wrap dk = dk := by rw [IntKind.wrap_u8]; omega
      have HL := Lib.hid hL
      have hOa := OwnS.alloc hO (.cells #[.int .u8 dk] 5)
      have hBn : Box (wr.alloc (.cells #[.int .u8 dk] 5)) wr.heap.size #[.int .u8 dk] := Box.new _ _ _
      clear hL hR hB hO
      go_wp2_with (at_builtin; refine wpList_app1 rfl (.tmp 14) (.tmp 23) rfl Try.underlying37 HI.out hz0 hz1 hz2 rfl rfl rfl hOa hBn rfl ?_ ?_ ?_ ?_; rotate_right; intro A6 c6 w6 bo hO6 hbo ho6)
      try (any_goals (first | (unfold maxLen; omega) | omega | (simp; omega)))
      have hb6 : Below w.heap.size w w6 := (HL.out.alloc hsz _).trans (ho6.below hbo (by simp; omega))
      go_roundw
      case rel => exact ⟨k + 1, c6, A6, by omega, by go_num, rfl, hO6.congr (fun j hj => by
        by_cases h : j < k
        · rw [if_pos h]
        · rw [if_neg h, show j = k by omega]; exact HDG.out.symm), hb6⟩
      case measure => simp [intOf]; omega
    · obtain rfl : k = L := by omega
      have l1 : ¬ (k : Int) < k := by omega
      have HL := Lib.hid hL
      have HO := Lib.hid hO
      clear hL hO hB
      go_wp2
      go_ret
      exact ⟨B, ⟨c, rfl⟩, HO.out.rd, fun k o e => (OwnS.lt HO.out e).1, HL.out⟩
theorem ropen_no (A : Option Addr) (n c : Nat) (w : World) (h : n < 4) : Calls Try.prog 25 #[.slice A n c] w fun e w' => e = .returned (.tuple #[.pointer none, .int .i64 41]) ∧ w = w' := by
  have h' : (n : Int) < 4 := by omega
  go_enter Try.func25, Try.ntmps25
  go_wp2
  go_ret2
  exact ⟨rfl, rfl⟩
set_option maxRecDepth 100000 in
set_option maxHeartbeats 2000000 in
theorem ropen_yes (A : Option Addr) (n c : Nat) (g : Nat → Int) (w : World) (hS : Rd w A n (by8 g)) (hg : Byt g) (h4 : 4 ≤ n) :
    Calls Try.prog 25 #[.slice A n c] w fun e w' => ∃ p, e = .returned (.tuple #[.pointer (some ⟨p, 0, none⟩), .int .i64 0]) ∧ w.heap.size ≤ p ∧ Box w' p #[.slice A n c, .int .i64 4, .int .i64 (numOf g 4), .int .i64 4294967295] ∧ Below w.heap.size w w' := by
  obtain ⟨b, off, rfl, -, -⟩ := hS.some_ (by omega)
  have n1 : ¬ (n : Int) < 4 := by omega
  have HG := Lib.hid hg
  have K0 := (Kn.start w).add (x := .rd (some ⟨b, off, none⟩) n (by8 g)) hS
  have OF := Lib.hid (K0.offS (b := w.heap.size) (Nat.le_refl _))
  have HK := Lib.hid (K0.new w.heap.size #[.slice (some ⟨b, off, none⟩) n c, .int .i64 4, .int .i64 0, .int .i64 4294967295] 99 rfl)
  clear hS K0 hg
  go_enter Try.func25, Try.ntmps25
  go_wp2_with fail
  go_loopw [5] (fun i wr => ∃ k : Nat, k ≤ 4 ∧ i = .int .i64 k ∧ Kn wr [.box w.heap.size #[.slice (some ⟨b, off, none⟩) n c, .int .i64 4, .int .i64 (numOf g k), .int .i64 4294967295], .rd (some ⟨b, off, none⟩) n (by8 g), .since w]) (fun i _ => (4 - intOf i).toNat)
  case atStart => exact ⟨0, by omega, rfl, HK.out⟩
  case round =>
    obtain ⟨k, hk, rfl, K⟩ := hrel
    clear HK
    by_cases hlt : k < 4
    · have l1 : (k : Int) < 4 := by omega
      have l2 : (k : Int) < n := by omega
      have c1 := Rd.at_ K.2.1 (i := k) (by omega)
      rw [by8_at] at c1
      have kc := Box.cells K.1
      have kf := Box.frees K.1
      have bk := HG.out k
      have hm := numOf_lt HG.out k
      have hm3 : 256 ^ k ≤ 256 ^ 3 := Nat.pow_le_pow_right (by omega) (by omega)
      have HNX := Lib.hid (show numOf g (k + 1) = numOf g k * 256 + (g k).toNat from rfl)
      generalize numOf g k = m at *
      have hm2 : m < 16777216 := by omega
      have HK := Lib.hid K
      clear K hm hm3
      go_wp2_with fail
      have z1 : IntKind.i64.wrap (256 * (m : Int)) = 256 * (m : Int) := by rw [IntKind.wrap_i64]; omega
      have z2 : IntKind.i64.wrap (256 * (m : Int) + g k) = 256 * (m : Int) + g k := by rw [IntKind.wrap_i64]; omega
      have z3 : IntKind.i64.wrap (g k) = g k := by rw [IntKind.wrap_i64]; omega
      refine wp_region_ordT [(0,0),(1,0),(2,0),(3,0),(4,0),(5,0),(6,0),(7,0),(8,0),(9,0),(10,0),(11,0),(12,0),(13,0),(14,2)] (by kernel_rfl) (by kernel_rfl) (fun _ _ d _ _ h => by cases d <;> exact h) ?_
      repeat (refine wpOrd_still rfl (fun KK hKK => ?_); go_simp; first | (refine hKK _ ?_; clear hKK KK))
      refine wpOrd_doG rfl rfl (fun KK hKK => ?_)
      go_simp
      refine hKK _ _ ?_
      clear hKK KK
      repeat (refine wpOrd_still rfl (fun KK hKK => ?_); go_simp; first | (refine hKK _ ?_; clear hKK KK))
      refine wpOrd_nil ?_
      clear z1 z2 z3
      go_wp2
      go_roundw
      case rel =>
        refine ⟨k + 1, by omega, by go_num, ?_⟩
        have KF := (Kn.drew HK.out).setBoxS 2 (.int .i64 (256 * (m : Int) + g k)) OF.out
        rw [HNX.out, show ((m * 256 + (g k).toNat : Nat) : Int) = 256 * (m : Int) + g k by omega]
        exact KF
      case measure => simp [intOf]; omega
    · obtain rfl : k = 4 := by omega
      have HK := Lib.hid K
      clear K
      go_wp2
      go_ret2
      exact ⟨w.heap.size, rfl, Nat.le_refl _, HK.out.1, HK.out.2.2.1⟩
end Go.Proofs.Ytmnoddmecghjdaa
