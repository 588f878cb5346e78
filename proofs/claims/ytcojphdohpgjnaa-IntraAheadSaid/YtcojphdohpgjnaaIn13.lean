/- Walks of the document's layer 9: Guess. (Printed by tools/gen13.py.) -/
import Derived.Test.YtcojphdohpgjnaaIn12
import Derived.Test.YtcojphdohpgjnaaKn7
namespace Go.Proofs.Ytcojphdohpgjnaa
open Go.RowKit Go.Kin
set_option linter.unusedVariables false

set_option maxHeartbeats 1000000 in
theorem rguess_no (W H : Int) (A : Option Addr) (N c : Nat) (x y n mode : Int) (w : World) (hr : rightB W H N = false) :
    Calls Try.prog 16 #[.agg #[.int .i64 W, .int .i64 H, .slice A N c], .int .i64 x, .int .i64 y, .int .i64 n, .int .i64 mode] w (NoBlock 61 w) := by
  have K := Kn.start w
  go_enter Try.func16, Try.ntmps16
  go_wp2_with fail
  refine (rright_any _ _ _ _ _ _).mono ?_
  rintro e w1 ⟨rfl, hb1⟩
  replace K := (K.new w.heap.size _ _ rfl).below hb1
  clear hb1
  replace kc0 := Box.cells K.1
  replace kl0 := Box.lt K.1
  replace L : Below _ _ _ := K.2.1
  go_wp2
  go_ret2
  exact ⟨rfl, L⟩
set_option maxHeartbeats 4000000 in
theorem rguess_arg (W H : Int) (A : Option Addr) (N c : Nat) (x y n mode : Int) (w : World) (hr : rightB W H N = true) (hT : ¬ gOk W H x y n mode) :
    Calls Try.prog 16 #[.agg #[.int .i64 W, .int .i64 H, .slice A N c], .int .i64 x, .int .i64 y, .int .i64 n, .int .i64 mode] w (NoBlock 1 w) := by
  obtain ⟨r1, r2, r3, r4, r5⟩ := rightB_iff.1 hr
  clear r5
  unfold gOk at hT
  have HT := Lib.hid hT
  clear hT
  have K := Kn.start w
  go_enter Try.func16, Try.ntmps16
  go_wp2_with fail
  refine (rright_any _ _ _ _ _ _).mono ?_
  rintro e w1 ⟨rfl, hb1⟩
  replace K := (K.new w.heap.size _ _ rfl).below hb1
  clear hb1
  replace kc0 := Box.cells K.1
  replace kl0 := Box.lt K.1
  replace L : Below _ _ _ := K.2.1
  have HK := Lib.hid K
  clear K
  go_wp2_with fail
  all_goals first
    | (go_ret2; exact ⟨rfl, HK.out.2.1⟩)
    | (exfalso; have hh := HT.out; omega)
    | (exfalso; have hh := HT.out; simp only [bne_iff_ne, ne_eq, beq_iff_eq, bne_eq_false_iff_eq] at *; omega)
set_option maxRecDepth 100000 in
set_option maxHeartbeats 4000000 in
theorem rguess_4 (W H X Y n mode : Nat) (A : Option Addr) (N c : Nat) (g : Nat → Int) (w : World) (hr : rightB W H N = true) (hS : Rd w A N (by8 g)) (hn : n = 4) (hX : X + n ≤ W) (hY : Y + n ≤ H) (hm : mode < 4) (hg : Byt g) :
    Calls Try.prog 16 #[.agg #[.int .i64 W, .int .i64 H, .slice A N c], .int .i64 X, .int .i64 Y, .int .i64 n, .int .i64 mode] w (GivesB (n * n) (gsP W g X Y n mode) w) := by
  obtain ⟨r1, r2, r3, r4, r5⟩ := rightB_iff.1 hr
  clear r5
  obtain ⟨i0, hi0, hz0, hz1, hz2⟩ := parts_u8
  have HI := Lib.hid hi0
  clear hi0
  have q4 : ((n : Int) != 4) = false := by subst hn; rfl
  have q8 : ((n : Int) != 8) = true := by subst hn; rfl
  have x0 : ¬ (X : Int) < 0 := by omega
  have x1 : ¬ (W : Int) - n < X := by omega
  have y0 : ¬ (Y : Int) < 0 := by omega
  have y1 : ¬ (H : Int) - n < Y := by omega
  have o0 : ¬ (mode : Int) < 0 := by omega
  have o1 : ¬ (3 : Int) < mode := by omega
  have n1 : 1 ≤ n := by omega
  have n8 : n ≤ 8 := by omega
  clear hn
  have K := (Kn.start w).add (x := .rd A N (by8 g)) hS
  have HOF := Lib.hid (fun b hb => (K.offS (b := b) hb))
  clear hS
  go_enter Try.func16, Try.ntmps16
  go_wp2_with fail
  refine (rright_any _ _ _ _ _ _).mono ?_
  rintro e w1 ⟨rfl, hb1⟩
  replace K := (K.new w.heap.size _ _ rfl).below hb1
  clear hb1
  replace kc0 := Box.cells K.1
  replace kl0 := Box.lt K.1
  replace L : Below _ _ _ := K.2.2.1
  have HK := Lib.hid K
  clear K
  go_wp2_with fail
  have sw : ∀ b, w.heap.size + 1 ≤ b → OffsS b [.box w.heap.size #[.int .i64 W, .int .i64 H, .slice A N c], .rd A N (by8 g), .since w] := fun b hb => ⟨by show w.heap.size ≠ b; omega, HOF.out b (by omega)⟩
  have HSW := Lib.hid sw
  clear sw
  have HB1 := Lib.hid (show w.heap.size + 1 ≤ w1.heap.size by omega)
  go_loopw [13, 14] (fun v i wr => ∃ q : Nat, q ≤ n ∧ i = .int .i64 q ∧ ∃ A' c', v = .slice A' (q * n) c' ∧ Kn wr [.own (w.heap.size + 1) 5 A' (q * n) c' (by8 (gsP W g X Y n mode)), .box w.heap.size #[.int .i64 W, .int .i64 H, .slice A N c], .rd A N (by8 g), .since w]) (fun _ i _ => n - (intOf i).toNat)
  case atStart => exact ⟨0, Nat.zero_le _, rfl, none, 0, by rw [Nat.zero_mul], HK.out.add (by rw [Nat.zero_mul]; exact OwnS.nil _ _ _ _)⟩
  case round =>
    obtain ⟨q, hq, rfl, A1, c1, rfl, K⟩ := hrel
    clear HK
    by_cases hlt : q < n
    · have HK := Lib.hid K
      clear K
      go_wp2_with fail
      go_loopw [13, 15] (fun v i wr => ∃ p : Nat, p ≤ n ∧ i = .int .i64 p ∧ ∃ A' c', v = .slice A' (q * n + p) c' ∧ Kn wr [.own (w.heap.size + 1) 5 A' (q * n + p) c' (by8 (gsP W g X Y n mode)), .box w.heap.size #[.int .i64 W, .int .i64 H, .slice A N c], .rd A N (by8 g), .since w]) (fun _ i _ => n - (intOf i).toNat)
      case atStart => exact ⟨0, Nat.zero_le _, rfl, A1, c1, rfl, HK.out⟩
      case round =>
        obtain ⟨p, hp, rfl, A2, c2, rfl, K⟩ := hrel
        clear HK
        by_cases hlp : p < n
        · have hqn : q * n + p + 1 ≤ n * n := by
            have := Nat.mul_le_mul_right n (show q + 1 ≤ n by omega)
            rw [Nat.add_mul, Nat.one_mul] at this
            omega
          have hnn : n * n ≤ 8 * 8 := Nat.mul_le_mul n8 n8
          have kc := Box.cells K.2.1
          have hG : gsP W g X Y n mode (q * n + p) = moV n (abP W g X Y n) (lfP W g X Y n) (coP W g X Y) mode p q := by
            obtain ⟨e1, e2⟩ := pos_mod (y := q) hlp
            unfold gsP
            rw [e1, e2]
          have HG := Lib.hid hG
          clear hG
          go_wp2_with fail
          refine (rsample_any W H X Y n mode p q A N c g _ hr K.2.2.1 hg n1 n8 hX hY hm hlp hlt).mono ?_
          rintro e w3 ⟨rfl, hb3⟩
          have K3 := K.below hb3
          rw [← HG.out]
          have b1 := gsP_byt (W := W) (g := g) (X := X) (Y := Y) (mode := mode) n1 hg (q * n + p)
          generalize hv : gsP W g X Y n mode (q * n + p) = v at *
          have HV := Lib.hid hv
          have sz3 : w.heap.size + 1 ≤ w3.heap.size := by have := Box.lt K3.2.1; omega
          clear hv HG hb3 K kc
          go_wp2_with (at_builtin; refine wpList_app1 rfl (.tmp 68) (.tmp 77) rfl Try.underlying22 HI.out hz0 hz1 hz2 rfl rfl rfl (OwnS.alloc K3.1 _) (Box.new w3 _ _) rfl ?_ ?_ ?_ ?_; rotate_right; intro A4 c4 w4 bo hO4 hbo ho4)
          rotate_left
          · unfold maxLen; omega
          · omega
          · simp; omega
          have HK4 := Lib.hid ((Kn.othS (K3.2.alloc _) ho4 (HSW.out bo hbo)).add (x := .own (w.heap.size + 1) 5 A4 (q * n + p + 1) c4 (by8 (gsP W g X Y n mode))) (hO4.congr fun j hj => by
            by_cases e : j < q * n + p
            · simp [e]
            · obtain rfl : j = q * n + p := by omega
              simp [by8, HV.out]))
          clear K3 hO4 ho4
          go_wp2
          exact ⟨⟨p + 1, hlp, by go_num, A4, c4, rfl, HK4.out⟩, by simp [intOf]; omega⟩
        · obtain rfl : p = n := by omega
          have HK := Lib.hid K
          clear K
          go_wp2
          exact ⟨⟨q + 1, hlt, by go_num, A2, c2, by rw [Nat.add_mul, Nat.one_mul], by rw [Nat.add_mul, Nat.one_mul]; exact HK.out⟩, by simp [intOf]; omega⟩
    · obtain rfl : q = n := by omega
      have HK := Lib.hid K
      clear K
      go_wp2
      go_ret2
      have hO := HK.out.1
      refine ⟨A1, c1, rfl, OwnS.rd hO, ?_, ?_, HK.out.2.2.2.1⟩
      · rcases OwnS.cases hO with ⟨_, h, _⟩ | ⟨_, _, _, _, h, _⟩ <;> omega
      · rcases OwnS.cases hO with ⟨_, _, h⟩ | ⟨_, _, _, _, _, h⟩
        · omega
        · unfold maxLen at h; exact h
set_option maxRecDepth 100000 in
set_option maxHeartbeats 4000000 in
theorem rguess_8 (W H X Y n mode : Nat) (A : Option Addr) (N c : Nat) (g : Nat → Int) (w : World) (hr : rightB W H N = true) (hS : Rd w A N (by8 g)) (hn : n = 8) (hX : X + n ≤ W) (hY : Y + n ≤ H) (hm : mode < 4) (hg : Byt g) :
    Calls Try.prog 16 #[.agg #[.int .i64 W, .int .i64 H, .slice A N c], .int .i64 X, .int .i64 Y, .int .i64 n, .int .i64 mode] w (GivesB (n * n) (gsP W g X Y n mode) w) := by
  obtain ⟨r1, r2, r3, r4, r5⟩ := rightB_iff.1 hr
  clear r5
  obtain ⟨i0, hi0, hz0, hz1, hz2⟩ := parts_u8
  have HI := Lib.hid hi0
  clear hi0
  have q4 : ((n : Int) != 4) = true := by subst hn; rfl
  have q8 : ((n : Int) != 8) = false := by subst hn; rfl
  have x0 : ¬ (X : Int) < 0 := by omega
  have x1 : ¬ (W : Int) - n < X := by omega
  have y0 : ¬ (Y : Int) < 0 := by omega
  have y1 : ¬ (H : Int) - n < Y := by omega
  have o0 : ¬ (mode : Int) < 0 := by omega
  have o1 : ¬ (3 : Int) < mode := by omega
  have n1 : 1 ≤ n := by omega
  have n8 : n ≤ 8 := by omega
  clear hn
  have K := (Kn.start w).add (x := .rd A N (by8 g)) hS
  have HOF := Lib.hid (fun b hb => (K.offS (b := b) hb))
  clear hS
  go_enter Try.func16, Try.ntmps16
  go_wp2_with fail
  refine (rright_any _ _ _ _ _ _).mono ?_
  rintro e w1 ⟨rfl, hb1⟩
  replace K := (K.new w.heap.size _ _ rfl).below hb1
  clear hb1
  replace kc0 := Box.cells K.1
  replace kl0 := Box.lt K.1
  replace L : Below _ _ _ := K.2.2.1
  have HK := Lib.hid K
  clear K
  go_wp2_with fail
  have sw : ∀ b, w.heap.size + 1 ≤ b → OffsS b [.box w.heap.size #[.int .i64 W, .int .i64 H, .slice A N c], .rd A N (by8 g), .since w] := fun b hb => ⟨by show w.heap.size ≠ b; omega, HOF.out b (by omega)⟩
  have HSW := Lib.hid sw
  clear sw
  have HB1 := Lib.hid (show w.heap.size + 1 ≤ w1.heap.size by omega)
  go_loopw [13, 14] (fun v i wr => ∃ q : Nat, q ≤ n ∧ i = .int .i64 q ∧ ∃ A' c', v = .slice A' (q * n) c' ∧ Kn wr [.own (w.heap.size + 1) 5 A' (q * n) c' (by8 (gsP W g X Y n mode)), .box w.heap.size #[.int .i64 W, .int .i64 H, .slice A N c], .rd A N (by8 g), .since w]) (fun _ i _ => n - (intOf i).toNat)
  case atStart => exact ⟨0, Nat.zero_le _, rfl, none, 0, by rw [Nat.zero_mul], HK.out.add (by rw [Nat.zero_mul]; exact OwnS.nil _ _ _ _)⟩
  case round =>
    obtain ⟨q, hq, rfl, A1, c1, rfl, K⟩ := hrel
    clear HK
    by_cases hlt : q < n
    · have HK := Lib.hid K
      clear K
      go_wp2_with fail
      go_loopw [13, 15] (fun v i wr => ∃ p : Nat, p ≤ n ∧ i = .int .i64 p ∧ ∃ A' c', v = .slice A' (q * n + p) c' ∧ Kn wr [.own (w.heap.size + 1) 5 A' (q * n + p) c' (by8 (gsP W g X Y n mode)), .box w.heap.size #[.int .i64 W, .int .i64 H, .slice A N c], .rd A N (by8 g), .since w]) (fun _ i _ => n - (intOf i).toNat)
      case atStart => exact ⟨0, Nat.zero_le _, rfl, A1, c1, rfl, HK.out⟩
      case round =>
        obtain ⟨p, hp, rfl, A2, c2, rfl, K⟩ := hrel
        clear HK
        by_cases hlp : p < n
        · have hqn : q * n + p + 1 ≤ n * n := by
            have := Nat.mul_le_mul_right n (show q + 1 ≤ n by omega)
            rw [Nat.add_mul, Nat.one_mul] at this
            omega
          have hnn : n * n ≤ 8 * 8 := Nat.mul_le_mul n8 n8
          have kc := Box.cells K.2.1
          have hG : gsP W g X Y n mode (q * n + p) = moV n (abP W g X Y n) (lfP W g X Y n) (coP W g X Y) mode p q := by
            obtain ⟨e1, e2⟩ := pos_mod (y := q) hlp
            unfold gsP
            rw [e1, e2]
          have HG := Lib.hid hG
          clear hG
          go_wp2_with fail
          refine (rsample_any W H X Y n mode p q A N c g _ hr K.2.2.1 hg n1 n8 hX hY hm hlp hlt).mono ?_
          rintro e w3 ⟨rfl, hb3⟩
          have K3 := K.below hb3
          rw [← HG.out]
          have b1 := gsP_byt (W := W) (g := g) (X := X) (Y := Y) (mode := mode) n1 hg (q * n + p)
          generalize hv : gsP W g X Y n mode (q * n + p) = v at *
          have HV := Lib.hid hv
          have sz3 : w.heap.size + 1 ≤ w3.heap.size := by have := Box.lt K3.2.1; omega
          clear hv HG hb3 K kc
          go_wp2_with (at_builtin; refine wpList_app1 rfl (.tmp 68) (.tmp 77) rfl Try.underlying22 HI.out hz0 hz1 hz2 rfl rfl rfl (OwnS.alloc K3.1 _) (Box.new w3 _ _) rfl ?_ ?_ ?_ ?_; rotate_right; intro A4 c4 w4 bo hO4 hbo ho4)
          rotate_left
          · unfold maxLen; omega
          · omega
          · simp; omega
          have HK4 := Lib.hid ((Kn.othS (K3.2.alloc _) ho4 (HSW.out bo hbo)).add (x := .own (w.heap.size + 1) 5 A4 (q * n + p + 1) c4 (by8 (gsP W g X Y n mode))) (hO4.congr fun j hj => by
            by_cases e : j < q * n + p
            · simp [e]
            · obtain rfl : j = q * n + p := by omega
              simp [by8, HV.out]))
          clear K3 hO4 ho4
          go_wp2
          exact ⟨⟨p + 1, hlp, by go_num, A4, c4, rfl, HK4.out⟩, by simp [intOf]; omega⟩
        · obtain rfl : p = n := by omega
          have HK := Lib.hid K
          clear K
          go_wp2
          exact ⟨⟨q + 1, hlt, by go_num, A2, c2, by rw [Nat.add_mul, Nat.one_mul], by rw [Nat.add_mul, Nat.one_mul]; exact HK.out⟩, by simp [intOf]; omega⟩
    · obtain rfl : q = n := by omega
      have HK := Lib.hid K
      clear K
      go_wp2
      go_ret2
      have hO := HK.out.1
      refine ⟨A1, c1, rfl, OwnS.rd hO, ?_, ?_, HK.out.2.2.2.1⟩
      · rcases OwnS.cases hO with ⟨_, h, _⟩ | ⟨_, _, _, _, h, _⟩ <;> omega
      · rcases OwnS.cases hO with ⟨_, _, h⟩ | ⟨_, _, _, _, _, h⟩
        · omega
        · unfold maxLen at h; exact h
theorem rguess_yes (W H X Y n mode : Nat) (A : Option Addr) (N c : Nat) (g : Nat → Int) (w : World) (hr : rightB W H N = true) (hS : Rd w A N (by8 g)) (hn : n = 4 ∨ n = 8) (hX : X + n ≤ W) (hY : Y + n ≤ H) (hm : mode < 4) (hg : Byt g) :
    Calls Try.prog 16 #[.agg #[.int .i64 W, .int .i64 H, .slice A N c], .int .i64 X, .int .i64 Y, .int .i64 n, .int .i64 mode] w (GivesB (n * n) (gsP W g X Y n mode) w) := by
  rcases hn with h | h
  · exact rguess_4 W H X Y n mode A N c g w hr hS h hX hY hm hg
  · exact rguess_8 W H X Y n mode A N c g w hr hS h hX hY hm hg
end Go.Proofs.Ytcojphdohpgjnaa
