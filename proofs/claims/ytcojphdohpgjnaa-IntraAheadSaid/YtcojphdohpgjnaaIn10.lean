/- Walks of package intra: Choose. -/
import Derived.Test.YtcojphdohpgjnaaIn9a
import Derived.Test.YtcojphdohpgjnaaIn9b
namespace Go.Kin
/-- The first of the nearest among the first k. -/
def bestM (F : Nat → Int) : Nat → Nat
  | 0 => 0
  | k + 1 => if k = 0 ∨ F k < F (bestM F k) then k else bestM F k
theorem bestM_lt (F : Nat → Int) : ∀ k, 0 < k → bestM F k < k
  | 0, h => absurd h (by omega)
  | k + 1, _ => by
    unfold bestM
    split
    · omega
    · rename_i hn
      have := bestM_lt F k (by omega)
      omega
theorem sumAbs_comm (g h : Nat → Int) : ∀ k, sumAbs g h k = sumAbs h g k
  | 0 => rfl
  | k + 1 => by
    simp only [sumAbs]
    rw [sumAbs_comm g h k]
    omega
end Go.Kin
namespace Go.Proofs.Ytcojphdohpgjnaa
open Go.RowKit Go.Kin
set_option linter.unusedVariables false

theorem guess_yes (W H X Y n mode : Nat) (b off N c : Nat) (g : Nat → Int) (w : World) (hr : rightB W H N = true) (hS : Rd w (some ⟨b, off, none⟩) N (by8 g)) (hb : b < w.heap.size) (hnc : N ≤ c) (hc : c ≤ 9223372036854775807) (hn : n = 4 ∨ n = 8) (hX : X + n ≤ W) (hY : Y + n ≤ H) (hm : mode < 4) (hg : Byt g) :
    Calls Try.prog 15 #[.agg #[.int .i64 W, .int .i64 H, .slice (some ⟨b, off, none⟩) N c], .int .i64 X, .int .i64 Y, .int .i64 n, .int .i64 mode] w (GivesB (n * n) (gsP W g X Y n mode) w) := by
  rcases hn with h | h
  · exact guess_4 W H X Y n mode b off N c g w hr hS hb hnc hc h hX hY hm hg
  · exact guess_8 W H X Y n mode b off N c g w hr hS hb hnc hc h hX hY hm hg
/-- No mode and no block, with an error. -/
def NoMode (k : Int) (w : World) (e : Ending) (w' : World) : Prop := e = .returned (.tuple #[.int .i64 0, .slice none 0 0, .int .i64 k]) ∧ Below w.heap.size w w'
/-- A mode and its block. -/
def GivesM (m N : Nat) (g : Nat → Int) (w : World) (e : Ending) (w' : World) : Prop := ∃ A c, e = .returned (.tuple #[.int .i64 m, .slice A N c, .int .i64 0]) ∧ Rd w' A N (by8 g) ∧ N ≤ c ∧ c ≤ 9223372036854775807 ∧ Below w.heap.size w w'
/-- An error of Guess is one of Choose. -/
theorem choose_err (p : Value) (W H : Int) (A : Option Addr) (N c : Nat) (x y n k : Int) (B : Option Addr) (m d : Nat) (w : World) (hk : (k != 0) = true)
    (h : ∀ w, Calls Try.prog 15 #[.agg #[.int .i64 W, .int .i64 H, .slice A N c], .int .i64 x, .int .i64 y, .int .i64 n, .int .i64 0] w (NoBlock k w)) :
    Calls Try.prog 17 #[.agg #[.int .i64 W, .int .i64 H, .slice A N c], .int .i64 x, .int .i64 y, .int .i64 n, .slice B m d] w (NoMode k w) := by
  have K := Kn.start w
  go_enter Try.func17, Try.ntmps17
  go_wp2_with fail
  refine (modes_any _).mono ?_
  rintro e w1 ⟨rfl, hb1⟩
  replace K := (K.new w.heap.size _ _ rfl).below hb1
  clear hb1
  replace kc0 := Box.cells K.1
  replace kl0 := Box.lt K.1
  replace L : Below _ _ _ := K.2.1
  have HK := Lib.hid K
  clear K kc0 kl0
  go_wp2_with fail
  go_loopw [24] (fun i wr => i = .int .i64 0 ∧ Kn wr [.box w.heap.size #[.int .i64 W, .int .i64 H, .slice A N c], .since w]) (fun _ _ => 0)
  case atStart => exact ⟨rfl, HK.out⟩
  case round =>
    obtain ⟨rfl, K⟩ := hrel
    clear HK
    have kc := Box.cells K.1
    go_wp2_with fail
    refine (h _).mono ?_
    rintro e w2 ⟨rfl, hb2⟩
    have K2 := K.below hb2
    go_wp2
    go_ret3
    exact ⟨rfl, K2.2.1⟩
set_option maxHeartbeats 1000000 in
/-- A block of another size. -/
theorem choose_len (W H X Y n : Nat) (b off N c : Nat) (g : Nat → Int) (B : Option Addr) (m d : Nat) (w : World) (hr : rightB W H N = true) (hS : Rd w (some ⟨b, off, none⟩) N (by8 g)) (hb : b < w.heap.size) (hnc : N ≤ c) (hc : c ≤ 9223372036854775807) (hn : n = 4 ∨ n = 8) (hX : X + n ≤ W) (hY : Y + n ≤ H) (hg : Byt g) (hm : neN m (n * n)) :
    Calls Try.prog 17 #[.agg #[.int .i64 W, .int .i64 H, .slice (some ⟨b, off, none⟩) N c], .int .i64 X, .int .i64 Y, .int .i64 n, .slice B m d] w (NoMode 1 w) := by
  obtain ⟨m1, m2, m3, m4, m5⟩ := hm
  rw [Int.natCast_mul] at m4 m5
  have K := (Kn.start w).add (x := .rd (some ⟨b, off, none⟩) N (by8 g)) hS
  clear hS
  go_enter Try.func17, Try.ntmps17
  go_wp2_with fail
  refine (modes_any _).mono ?_
  rintro e w1 ⟨rfl, hb1⟩
  replace K := (K.new w.heap.size _ _ rfl).below hb1
  clear hb1
  replace kc0 := Box.cells K.1
  replace kl0 := Box.lt K.1
  replace R : Rd _ _ _ _ := K.2.1
  replace L : Below _ _ _ := K.2.2.1
  have HK := Lib.hid K
  clear K kc0 kl0 R
  go_wp2_with fail
  go_loopw [24] (fun i wr => i = .int .i64 0 ∧ Kn wr [.box w.heap.size #[.int .i64 W, .int .i64 H, .slice (some ⟨b, off, none⟩) N c], .rd (some ⟨b, off, none⟩) N (by8 g), .since w]) (fun _ _ => 0)
  case atStart => exact ⟨rfl, HK.out⟩
  case round =>
    obtain ⟨rfl, K⟩ := hrel
    clear HK
    have kc := Box.cells K.1
    have hbr : b < wr.heap.size := by have := Below.size K.2.2.1; omega
    go_wp2_with fail
    refine (guess_yes W H X Y n 0 b off N c g _ hr K.2.1 hbr hnc hc hn hX hY (by omega) hg).mono ?_
    rintro e w2 ⟨A2, c2, rfl, hR2, _, _, hb2⟩
    have K2 := K.below hb2
    clear hb2 hR2 hn
    go_wp2
    go_ret3
    exact ⟨rfl, K2.2.2.1⟩
set_option maxHeartbeats 2000000 in
set_option maxRecDepth 100000 in
theorem choose_yes (W H X Y n : Nat) (b off N c : Nat) (g : Nat → Int) (B : Option Addr) (m d : Nat) (h : Nat → Int) (w : World) (hr : rightB W H N = true) (hS : Rd w (some ⟨b, off, none⟩) N (by8 g)) (hb : b < w.heap.size) (hnc : N ≤ c) (hc : c ≤ 9223372036854775807) (hn : n = 4 ∨ n = 8) (hX : X + n ≤ W) (hY : Y + n ≤ H) (hg : Byt g) (hB : Rd w B m (by8 h)) (hh : Byt h) (hm : m = n * n) :
    Calls Try.prog 17 #[.agg #[.int .i64 W, .int .i64 H, .slice (some ⟨b, off, none⟩) N c], .int .i64 X, .int .i64 Y, .int .i64 n, .slice B m d] w
      (GivesM (bestM (fun k => sumAbs h (gsP W g X Y n k) m) 4) m (gsP W g X Y n (bestM (fun k => sumAbs h (gsP W g X Y n k) m) 4)) w) := by
  have hm64 : m ≤ 64 := by rcases hn with rfl | rfl <;> omega
  have hm1 : 1 ≤ m := by rcases hn with rfl | rfl <;> omega
  have n1 : 1 ≤ n := by omega
  have HN := Lib.hid hn
  have HM := Lib.hid hm
  clear hn hm
  have K := ((Kn.start w).add (x := .rd (some ⟨b, off, none⟩) N (by8 g)) hS).add (x := .rd B m (by8 h)) hB
  clear hS hB
  generalize hF : (fun k => sumAbs h (gsP W g X Y n k) m) = F
  have HF := Lib.hid (congrFun hF)
  have HFb : Hid (∀ k, 0 ≤ F k ∧ F k ≤ 255 * m) := Lib.hid (fun k => by rw [← HF.out k]; exact sumAbs_bd hh (gsP_byt n1 hg) m)
  clear hF
  go_enter Try.func17, Try.ntmps17
  go_wp2_with fail
  refine (modes_any _).mono ?_
  rintro e w1 ⟨rfl, hb1⟩
  replace K := (K.new w.heap.size _ _ rfl).below hb1
  clear hb1
  replace kc0 := Box.cells K.1
  replace kl0 := Box.lt K.1
  replace L : Below _ _ _ := K.2.2.2.1
  have HK := Lib.hid K
  clear K kc0 kl0
  go_wp2_with fail
  go_loopw [13, 14, 15, 24] (fun mo fa bl i wr => ∃ k : Nat, k ≤ 4 ∧ i = .int .i64 k ∧ mo = .int .i64 (bestM F k) ∧ (∃ f : Int, fa = .int .i64 f ∧ 0 ≤ f ∧ f ≤ 255 * m ∧ (0 < k → f = F (bestM F k))) ∧ ∃ A' L' c', bl = .slice A' L' c' ∧ L' ≤ c' ∧ c' ≤ 9223372036854775807 ∧ (0 < k → L' = m) ∧ Kn wr [.rd A' L' (by8 (gsP W g X Y n (bestM F k))), .box w.heap.size #[.int .i64 W, .int .i64 H, .slice (some ⟨b, off, none⟩) N c], .rd B m (by8 h), .rd (some ⟨b, off, none⟩) N (by8 g), .since w]) (fun _ _ _ i _ => 4 - (intOf i).toNat)
  case atStart => exact ⟨0, by omega, rfl, rfl, ⟨0, rfl, by omega, by omega, fun h => absurd h (by omega)⟩, none, 0, 0, rfl, by omega, by omega, fun h => absurd h (by omega), HK.out.add (Rd.none_ _ _ _)⟩
  case round =>
    obtain ⟨k, hk, rfl, rfl, ⟨f, rfl, f0, f1, hf⟩, A', L', c', rfl, hL1, hL2, hL3, K⟩ := hrel
    clear HK
    have HFF := Lib.hid hf
    have HL3 := Lib.hid hL3
    clear hf hL3
    by_cases hk4 : k < 4
    · have kc := Box.cells K.2.1
      have hbr : b < wr.heap.size := by have := Below.size K.2.2.2.2.1; omega
      go_wp2_with fail
      refine (guess_yes W H X Y n k b off N c g _ hr K.2.2.2.1 hbr hnc hc HN.out hX hY hk4 hg).mono ?_
      rintro e w2 ⟨A2, c2, rfl, hR2, hc1, hc2, hb2⟩
      rw [← HM.out] at hR2 hc1 ⊢
      have K2 := (K.below hb2).add (x := .rd A2 m (by8 (gsP W g X Y n k))) hR2
      clear hb2 hR2 K kc hbr
      go_wp2_with fail
      refine (irest_yes B A2 m d c2 h (gsP W g X Y n k) _ K2.2.2.2.1 K2.1 hh (gsP_byt n1 hg) (by omega)).mono ?_
      rintro e w3 ⟨br, rfl, hbr, hrow, hb3⟩
      have HK3 := Lib.hid ((K2.below hb3).add (x := .row br m (in64 fun i => h i - gsP W g X Y n k i)) hrow)
      clear K2 hrow hb3
      go_wp2_with fail
      go_loopw [19, 48] (fun s i wr => ∃ j : Nat, j ≤ m ∧ i = .int .i64 j ∧ s = .int .i64 (sumAbs h (gsP W g X Y n k) j) ∧ Kn wr [.row br m (in64 fun i => h i - gsP W g X Y n k i), .rd A2 m (by8 (gsP W g X Y n k)), .rd A' L' (by8 (gsP W g X Y n (bestM F k))), .box w.heap.size #[.int .i64 W, .int .i64 H, .slice (some ⟨b, off, none⟩) N c], .rd B m (by8 h), .rd (some ⟨b, off, none⟩) N (by8 g), .since w]) (fun _ i _ => m - (intOf i).toNat)
      case atStart => exact ⟨0, by omega, rfl, rfl, HK3.out⟩
      case round =>
        obtain ⟨j, hj, rfl, rfl, K⟩ := hrel
        clear HK3
        obtain ⟨s0, s1⟩ := sumAbs_bd hh (gsP_byt (W := W) (g := g) (X := X) (Y := Y) (mode := k) n1 hg) j
        by_cases hjm : j < m
        · have cr := Row.cell K.1 hjm
          simp only [in64] at cr
          have b1 := hh j
          have b2 := gsP_byt (W := W) (g := g) (X := X) (Y := Y) (mode := k) n1 hg j
          have HA := Lib.hid (show sumAbs h (gsP W g X Y n k) (j + 1) = sumAbs h (gsP W g X Y n k) j + max (h j - gsP W g X Y n k j) (-(h j - gsP W g X Y n k j)) from rfl)
          generalize sumAbs h (gsP W g X Y n k) j = s at *
          generalize gsP W g X Y n k j = gk at *
          have HK := Lib.hid K
          clear K
          go_wp2
          go_roundw
          case rel => exact ⟨j + 1, hjm, by go_num, by rw [HA.out], HK.out⟩
          case measure => simp [intOf]; omega
        · have hjm' : j = m := by omega
          subst hjm'
          have e0 : sumAbs h (gsP W g X Y n k) j = F k := HF.out k
          rw [e0]
          have e1 := HFb.out k
          generalize hFk : F k = s at *
          have HFk := Lib.hid hFk
          clear hFk e0 s0 s1
          have HK := Lib.hid K
          clear K
          by_cases hk0 : k = 0
          · have HB := Lib.hid (show bestM F (k + 1) = k by unfold bestM; rw [if_pos (.inl hk0)])
            subst hk0
            go_wp2
            exact ⟨⟨1, by omega, rfl, by rw [HB.out], ⟨s, rfl, e1.1, e1.2, fun _ => by rw [HB.out, HFk.out]⟩, A2, j, c2, rfl, hc1, hc2, fun _ => rfl, ⟨by rw [HB.out]; exact HK.out.2.1, HK.out.2.2.2⟩⟩, by simp [intOf]⟩
          · have hkz : ((k : Int) == 0) = false := by simp; omega
            have hff := HFF.out (by omega)
            by_cases hd : s < f
            · have HB := Lib.hid (show bestM F (k + 1) = k by unfold bestM; rw [if_pos (.inr (by rw [HFk.out, ← hff]; exact hd))])
              have HFF2 := Lib.hid hff
              clear hff
              go_wp2
              exact ⟨⟨k + 1, by omega, by go_num, by rw [HB.out], ⟨s, rfl, e1.1, e1.2, fun _ => by rw [HB.out, HFk.out]⟩, A2, j, c2, rfl, hc1, hc2, fun _ => rfl, ⟨by rw [HB.out]; exact HK.out.2.1, HK.out.2.2.2⟩⟩, by simp [intOf]; omega⟩
            · have HB := Lib.hid (show bestM F (k + 1) = bestM F k by rw [bestM]; rw [if_neg (by rw [HFk.out, ← hff]; omega)])
              have HFF2 := Lib.hid hff
              clear hff
              go_wp2
              exact ⟨⟨k + 1, by omega, by go_num, by rw [HB.out], ⟨f, rfl, f0, f1, fun _ => by rw [HB.out]; exact HFF2.out⟩, A', L', c', rfl, hL1, hL2, fun _ => HL3.out (by omega), ⟨by rw [HB.out]; exact HK.out.2.2.1, HK.out.2.2.2⟩⟩, by simp [intOf]; omega⟩
    · obtain rfl : k = 4 := by omega
      go_wp2
      go_ret3
      have e := HL3.out (by omega)
      subst e
      exact ⟨A', c', rfl, K.1, hL1, hL2, K.2.2.2.2.1⟩
end Go.Proofs.Ytcojphdohpgjnaa
