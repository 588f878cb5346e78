/- Walks of the document's layer 10: Block. -/
import Derived.Test.YtcojphdohpgjnaaMo4
namespace Go.Proofs.Ytcojphdohpgjnaa
open Go.RowKit Go.Kin
set_option linter.unusedVariables false

set_option maxHeartbeats 4000000 in
set_option maxRecDepth 100000 in
theorem rblock_yes (W H : Int) (A : Option Addr) (N c : Nat) (g : Nat → Int) (x y : Int) (n : Nat) (vx vy : Int) (w : World) (hr : rightB W H N = true) (hS : Rd w A N (by8 g)) (hg : Byt g) (h1 : 1 ≤ n) (h2 : n ≤ 64) (s1 : SmB x) (s2 : SmB y) (s3 : SmB vx) (s4 : SmB vy) :
    Calls Try.prog 44 #[.agg #[.int .i64 W, .int .i64 H, .slice A N c], .int .i64 x, .int .i64 y, .int .i64 n, .agg #[.int .i64 vx, .int .i64 vy]] w (GivesSl (n * n) (bmP W H g x y n vx vy) w) := by
  obtain ⟨i0, hi0, hz0, hz1, hz2⟩ := parts_u8
  have HI := Lib.hid hi0
  clear hi0
  have hnn : n * n ≤ 64 * 64 := Nat.mul_le_mul h2 h2
  have H1 := Lib.hid (fun w => rsmall_any x w)
  have H2 := Lib.hid (fun w => rsmall_any y w)
  have H3 := Lib.hid (fun w => rsmall_any vx w)
  have H4 := Lib.hid (fun w => rsmall_any vy w)
  rw [show smD x = true by unfold smD; simp [s1]] at H1
  rw [show smD y = true by unfold smD; simp [s2]] at H2
  rw [show smD vx = true by unfold smD; simp [s3]] at H3
  rw [show smD vy = true by unfold smD; simp [s4]] at H4
  unfold SmB at s1 s2 s3 s4
  have n1 : ¬ (n : Int) < 1 := by omega
  have n2 : ¬ 64 < (n : Int) := by omega
  have K := (Kn.start w).add (x := .rd A N (by8 g)) hS
  have HOF := Lib.hid (fun b hb => (K.offS (b := b) hb))
  clear hS
  go_enter Try.func44, Try.ntmps44
  go_wp2_with fail
  refine (rright_any _ _ _ _ _ _).mono ?_
  rintro e w1 ⟨rfl, hb1⟩
  replace K := ((K.new w.heap.size _ _ rfl).new (w.heap.size + 1) _ _ (by simp)).below hb1
  clear hb1
  replace kc0 := Box.cells K.1
  replace kl0 := Box.lt K.1
  replace kc1 := Box.cells K.2.1
  replace kl1 := Box.lt K.2.1
  replace L : Below _ _ _ := K.2.2.2.1
  have HK := Lib.hid K
  clear K
  go_wp2_with (go_at_call 58; first | (refine (H1.out _).mono ?_; rintro e w' ⟨rfl, rfl⟩) | (refine (H2.out _).mono ?_; rintro e w' ⟨rfl, rfl⟩) | (refine (H3.out _).mono ?_; rintro e w' ⟨rfl, rfl⟩) | (refine (H4.out _).mono ?_; rintro e w' ⟨rfl, rfl⟩))
  have HSW : Hid (∀ b, w.heap.size + 2 ≤ b → OffsS b [.box (w.heap.size + 1) #[.int .i64 vx, .int .i64 vy], .box w.heap.size #[.int .i64 W, .int .i64 H, .slice A N c], .rd A N (by8 g), .since w]) := Lib.hid (fun b hb => ⟨by show w.heap.size + 1 ≠ b; omega, by show w.heap.size ≠ b; omega, HOF.out b (by omega)⟩)
  clear kc0 kl0 kc1 kl1 H1 H2 H3 H4 n1 n2
  go_loopw [14, 15] (fun v i wr => ∃ q : Nat, q ≤ n ∧ i = .int .i64 q ∧ ∃ A' c', v = .slice A' (q * n) c' ∧ Kn wr [.own (w.heap.size + 2) 5 A' (q * n) c' (by8 (bmP W H g x y n vx vy)), .box (w.heap.size + 1) #[.int .i64 vx, .int .i64 vy], .box w.heap.size #[.int .i64 W, .int .i64 H, .slice A N c], .rd A N (by8 g), .since w]) (fun _ i _ => n - (intOf i).toNat)
  case atStart => exact ⟨0, Nat.zero_le _, rfl, none, 0, by rw [Nat.zero_mul], HK.out.add (by rw [Nat.zero_mul]; exact OwnS.nil _ _ _ _)⟩
  case round =>
    obtain ⟨q, hq, rfl, A1, c1, rfl, K⟩ := hrel
    clear HK
    by_cases hlt : q < n
    · have HK := Lib.hid K
      clear K
      go_wp2_with fail
      go_loopw [14, 16] (fun v i wr => ∃ p : Nat, p ≤ n ∧ i = .int .i64 p ∧ ∃ A' c', v = .slice A' (q * n + p) c' ∧ Kn wr [.own (w.heap.size + 2) 5 A' (q * n + p) c' (by8 (bmP W H g x y n vx vy)), .box (w.heap.size + 1) #[.int .i64 vx, .int .i64 vy], .box w.heap.size #[.int .i64 W, .int .i64 H, .slice A N c], .rd A N (by8 g), .since w]) (fun _ i _ => n - (intOf i).toNat)
      case atStart => exact ⟨0, Nat.zero_le _, rfl, A1, c1, rfl, HK.out⟩
      case round =>
        obtain ⟨p, hp, rfl, A2, c2, rfl, K⟩ := hrel
        clear HK
        by_cases hlp : p < n
        · have hqn : q * n + p + 1 ≤ n * n := by
            have := Nat.mul_le_mul_right n (show q + 1 ≤ n by omega)
            rw [Nat.add_mul, Nat.one_mul] at this
            omega
          have kc1 := Box.cells K.2.1
          have kc2 := Box.cells K.2.2.1
          have HG := Lib.hid (bmP_at (W := W) (H := H) (g := g) (x := x) (y := y) (j := q) (vx := vx) (vy := vy) hlp)
          go_wp2_with fail
          refine (rsamp_yes W H A N c g _ _ _ hr K.2.2.2.1 hg (by omega) (by omega)).mono ?_
          rintro e w3 ⟨rfl, hb3⟩
          have K3 := K.below hb3
          rw [← HG.out]
          have b1 := bmP_byt (W := W) (H := H) (x := x) (y := y) (n := n) (vx := vx) (vy := vy) hg (q * n + p)
          generalize hv : bmP W H g x y n vx vy (q * n + p) = v at *
          have HV := Lib.hid hv
          have sz3 : w.heap.size + 2 ≤ w3.heap.size := by have := Box.lt K3.2.1; omega
          clear hv HG hb3 K kc1 kc2
          go_wp2_with (at_builtin; refine wpList_app1 rfl (.tmp 61) (.tmp 78) rfl Try.underlying22 HI.out hz0 hz1 hz2 rfl rfl rfl (OwnS.alloc K3.1 _) (Box.new w3 _ _) rfl ?_ ?_ ?_ ?_; rotate_right; intro A4 c4 w4 bo hO4 hbo ho4)
          rotate_left
          · unfold maxLen; omega
          · omega
          · simp; omega
          have HK4 := Lib.hid ((Kn.othS (K3.2.alloc _) ho4 (HSW.out bo hbo)).add (x := .own (w.heap.size + 2) 5 A4 (q * n + p + 1) c4 (by8 (bmP W H g x y n vx vy))) (hO4.congr fun j hj => by
            by_cases e : j < q * n + p
            · simp [e]
            · obtain rfl : j = q * n + p := by omega
              simp [by8, HV.out]))
          clear K3 hO4 ho4
          go_wp2
          exact ⟨⟨p + 1, hlp, by go_num, A4, c4, rfl, HK4.out⟩, by simp [intOf]; omega⟩
        · obtain rfl : p = n := by omega
          have HK := Lib.hid K
          clear K
          go_wp2
          exact ⟨⟨q + 1, hlt, by go_num, A2, c2, by rw [Nat.add_mul, Nat.one_mul], by rw [Nat.add_mul, Nat.one_mul]; exact HK.out⟩, by simp [intOf]; omega⟩
    · obtain rfl : q = n := by omega
      have HK := Lib.hid K
      clear K
      go_wp2
      go_ret
      exact ⟨A1, c1, rfl, OwnS.rd HK.out.1, HK.out.2.2.2.2.1⟩
end Go.Proofs.Ytcojphdohpgjnaa
