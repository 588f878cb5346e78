/- Walks of the document's layer 9: Choose. -/
import Derived.Test.YtcojphdohpgjnaaIn13
import Derived.Test.YtcojphdohpgjnaaIn10
namespace Go.Proofs.Ytcojphdohpgjnaa
open Go.RowKit Go.Kin
set_option linter.unusedVariables false

/-- An error of Guess is one of Choose. -/
theorem rchoose_err (W H : Int) (A : Option Addr) (N c : Nat) (x y n k : Int) (B : Option Addr) (m d : Nat) (w : World) (hk : (k != 0) = true)
    (h : ∀ w, Calls Try.prog 16 #[.agg #[.int .i64 W, .int .i64 H, .slice A N c], .int .i64 x, .int .i64 y, .int .i64 n, .int .i64 0] w (NoBlock k w)) :
    Calls Try.prog 18 #[.agg #[.int .i64 W, .int .i64 H, .slice A N c], .int .i64 x, .int .i64 y, .int .i64 n, .slice B m d] w (NoMode k w) := by
  have K := Kn.start w
  go_enter Try.func18, Try.ntmps18
  go_wp2_with fail
  refine (h _).mono ?_
  rintro e w1 ⟨rfl, hb1⟩
  replace K := (K.new w.heap.size _ _ rfl).below hb1
  clear hb1
  replace kc0 := Box.cells K.1
  replace kl0 := Box.lt K.1
  replace L : Below _ _ _ := K.2.1
  go_wp2
  go_ret3
  exact ⟨rfl, L⟩
set_option maxHeartbeats 1000000 in
/-- A block of another size. -/
theorem rchoose_len (W H X Y n : Nat) (A : Option Addr) (N c : Nat) (g : Nat → Int) (B : Option Addr) (m d : Nat) (w : World) (hr : rightB W H N = true) (hS : Rd w A N (by8 g)) (hn : n = 4 ∨ n = 8) (hX : X + n ≤ W) (hY : Y + n ≤ H) (hg : Byt g) (hm : neN m (n * n)) :
    Calls Try.prog 18 #[.agg #[.int .i64 W, .int .i64 H, .slice A N c], .int .i64 X, .int .i64 Y, .int .i64 n, .slice B m d] w (NoMode 1 w) := by
  obtain ⟨m1, m2, m3, m4, m5⟩ := hm
  rw [Int.natCast_mul] at m4 m5
  have hnn : n * n ≤ 64 := by rcases hn with rfl | rfl <;> omega
  have m6 : (0 : Int) ≤ (n : Int) * n := by have := Int.natCast_mul n n; omega
  have m7 : (n : Int) * n ≤ 64 := by have := Int.natCast_mul n n; omega
  have K := (Kn.start w).add (x := .rd A N (by8 g)) hS
  clear hS
  go_enter Try.func18, Try.ntmps18
  go_wp2_with fail
  have K1 := K.new w.heap.size #[.int .i64 W, .int .i64 H, .slice A N c] 24 rfl
  refine (rguess_yes W H X Y n 0 A N c g _ hr K1.2.1 hn hX hY (by omega) hg).mono ?_
  rintro e w2 ⟨A2, c2, rfl, hR2, _, _, hb2⟩
  have K2 := K1.below hb2
  clear hb2 hR2 hn K K1
  go_wp2
  go_ret3
  exact ⟨rfl, K2.2.2.1⟩
set_option maxHeartbeats 2000000 in
set_option maxRecDepth 100000 in
theorem rchoose_yes (W H X Y n : Nat) (A : Option Addr) (N c : Nat) (g : Nat → Int) (B : Option Addr) (m d : Nat) (h : Nat → Int) (w : World) (hr : rightB W H N = true) (hS : Rd w A N (by8 g)) (hn : n = 4 ∨ n = 8) (hX : X + n ≤ W) (hY : Y + n ≤ H) (hg : Byt g) (hB : Rd w B m (by8 h)) (hh : Byt h) (hm : m = n * n) :
    Calls Try.prog 18 #[.agg #[.int .i64 W, .int .i64 H, .slice A N c], .int .i64 X, .int .i64 Y, .int .i64 n, .slice B m d] w
      (GivesM (bestM (fun k => sumAbs h (gsP W g X Y n k) m) 4) m (gsP W g X Y n (bestM (fun k => sumAbs h (gsP W g X Y n k) m) 4)) w) := by
  have hm64 : m ≤ 64 := by rcases hn with rfl | rfl <;> omega
  have hm1 : 1 ≤ m := by rcases hn with rfl | rfl <;> omega
  have n1 : 1 ≤ n := by omega
  have hmi : (m : Int) = (n : Int) * n := by rw [hm, Int.natCast_mul]
  have HN := Lib.hid hn
  have HM := Lib.hid hm
  clear hn hm
  have K := ((Kn.start w).add (x := .rd A N (by8 g)) hS).add (x := .rd B m (by8 h)) hB
  clear hS hB
  generalize hF : (fun k => sumAbs h (gsP W g X Y n k) m) = F
  have HF := Lib.hid (congrFun hF)
  have HFb : Hid (∀ k, 0 ≤ F k ∧ F k ≤ 255 * m) := Lib.hid (fun k => by rw [← HF.out k]; exact sumAbs_bd hh (gsP_byt n1 hg) m)
  have HFc : Hid (∀ k, sumAbs (gsP W g X Y n k) h m = F k) := Lib.hid (fun k => by rw [← HF.out k]; exact sumAbs_comm _ _ _)
  clear hF
  have m6 : (0 : Int) ≤ (n : Int) * n := by omega
  have m7 : (n : Int) * n ≤ 64 := by omega
  have hne : ((m : Int) != (n : Int) * n) = false := by simp [hmi]
  have HMI := Lib.hid hmi
  clear hmi
  go_enter Try.func18, Try.ntmps18
  go_wp2_with fail
  have K1 := K.new w.heap.size #[.int .i64 W, .int .i64 H, .slice A N c] 24 rfl
  refine (rguess_yes W H X Y n 0 A N c g _ hr K1.2.2.1 HN.out hX hY (by omega) hg).mono ?_
  rintro e w1 ⟨A1, c1, rfl, _, _, _, hb1⟩
  rw [← HM.out]
  have HK := Lib.hid (K1.below hb1)
  clear hb1 K K1
  go_wp2_with fail
  clear hne m6 m7
  go_loopw [15, 16, 17] (fun mo bl i wr => ∃ k : Nat, k ≤ 4 ∧ i = .int .i64 k ∧ mo = .int .i64 (bestM F k) ∧ ∃ A' L' c', bl = .slice A' L' c' ∧ L' ≤ c' ∧ c' ≤ 9223372036854775807 ∧ (0 < k → L' = m) ∧ Kn wr [.rd A' L' (by8 (gsP W g X Y n (bestM F k))), .box w.heap.size #[.int .i64 W, .int .i64 H, .slice A N c], .rd B m (by8 h), .rd A N (by8 g), .since w]) (fun _ _ i _ => 4 - (intOf i).toNat)
  case atStart => exact ⟨0, by omega, rfl, rfl, none, 0, 0, rfl, by omega, by omega, fun h => absurd h (by omega), HK.out.add (Rd.none_ _ _ _)⟩
  case round =>
    obtain ⟨k, hk, rfl, rfl, A', L', c', rfl, hL1, hL2, hL3, K⟩ := hrel
    clear HK
    have HL3 := Lib.hid hL3
    clear hL3
    by_cases hk4 : k < 4
    · have kc := Box.cells K.2.1
      go_wp2_with fail
      refine (rguess_yes W H X Y n k A N c g _ hr K.2.2.2.1 HN.out hX hY hk4 hg).mono ?_
      rintro e w2 ⟨A2, c2, rfl, hR2, hc1, hc2, hb2⟩
      rw [← HM.out] at hR2 hc1 ⊢
      have K2 := (K.below hb2).add (x := .rd A2 m (by8 (gsP W g X Y n k))) hR2
      clear hb2 hR2 K kc
      by_cases hk0 : k = 0
      · have HB := Lib.hid (show bestM F (k + 1) = k by unfold bestM; rw [if_pos (.inl hk0)])
        subst hk0
        have HK := Lib.hid K2
        clear K2
        go_wp2
        go_roundw
        case rel => exact ⟨1, by omega, rfl, by rw [HB.out]; rfl, A2, m, c2, rfl, hc1, hc2, fun _ => rfl, ⟨by rw [HB.out]; exact HK.out.1, HK.out.2.2⟩⟩
        case measure => simp [intOf]
      · have hkz : ((k : Int) == 0) = false := by simp; omega
        obtain rfl : L' = m := HL3.out (by omega)
        go_wp2_with fail
        refine (far9_any A2 B L' L' c2 d (gsP W g X Y n k) h _ K2.1 K2.2.2.2.1 (gsP_byt n1 hg) hh (Nat.le_refl _) (by omega)).mono ?_
        rintro e w3 ⟨rfl, hb3⟩
        have K3 := K2.below hb3
        rw [HFc.out k]
        clear hb3 K2
        go_wp2_with fail
        refine (far9_any A' B L' L' c' d (gsP W g X Y n (bestM F k)) h _ K3.2.1 K3.2.2.2.1 (gsP_byt n1 hg) hh (Nat.le_refl _) (by omega)).mono ?_
        rintro e w4 ⟨rfl, hb4⟩
        have HK := Lib.hid (K3.below hb4)
        rw [HFc.out (bestM F k)]
        clear hb4 K3
        by_cases hd : F k < F (bestM F k)
        · have HB := Lib.hid (show bestM F (k + 1) = k by unfold bestM; rw [if_pos (.inr hd)])
          go_wp2
          go_roundw
          case rel => exact ⟨k + 1, by omega, by go_num, by rw [HB.out], A2, L', c2, rfl, hc1, hc2, fun _ => rfl, ⟨by rw [HB.out]; exact HK.out.1, HK.out.2.2⟩⟩
          case measure => simp [intOf]; omega
        · have HB := Lib.hid (show bestM F (k + 1) = bestM F k by rw [bestM]; rw [if_neg (by omega)])
          go_wp2
          go_roundw
          case rel => exact ⟨k + 1, by omega, by go_num, by rw [HB.out], A', L', c', rfl, hL1, hL2, fun _ => rfl, ⟨by rw [HB.out]; exact HK.out.2.1, HK.out.2.2⟩⟩
          case measure => simp [intOf]; omega
    · obtain rfl : k = 4 := by omega
      go_wp2
      go_ret3
      have e := HL3.out (by omega)
      subst e
      exact ⟨A', c', rfl, K.1, hL1, hL2, K.2.2.2.2.1⟩
end Go.Proofs.Ytcojphdohpgjnaa
