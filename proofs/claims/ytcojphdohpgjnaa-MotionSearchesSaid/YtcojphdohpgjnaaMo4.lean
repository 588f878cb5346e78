/- Walks of package motion and of the document's layer 10: Block. -/
import Derived.Test.YtcojphdohpgjnaaMo3
import Derived.Test.YtcojphdohpgjnaaKn7
namespace Go.Kin
/-- Sample k of the block of n by n at a vector. -/
def bmP (W H : Int) (g : Nat → Int) (x y : Int) (n : Nat) (vx vy : Int) (k : Nat) : Int := sampP W H g (2 * (x + ((k % n : Nat) : Int)) + vx) (2 * (y + ((k / n : Nat) : Int)) + vy)
theorem bmP_byt {W H : Int} {g : Nat → Int} {x y : Int} {n : Nat} {vx vy : Int} (hg : Byt g) : Byt (bmP W H g x y n vx vy) := fun _ => sampP_byt hg
theorem bmP_at {W H : Int} {g : Nat → Int} {x y : Int} {n i j : Nat} {vx vy : Int} (hi : i < n) : bmP W H g x y n vx vy (j * n + i) = sampP W H g (2 * (x + i) + vx) (2 * (y + j) + vy) := by
  obtain ⟨e1, e2⟩ := pos_mod (y := j) hi
  unfold bmP
  rw [e1, e2]
/-- A number within 2^20. -/
def SmB (v : Int) : Prop := -1048576 ≤ v ∧ v ≤ 1048576
instance (v : Int) : Decidable (SmB v) := by unfold SmB; infer_instance
def num4 (x y vx vy : Int) (k : Nat) : Int := if k = 0 then x else if k = 1 then y else if k = 2 then vx else vy
end Go.Kin
namespace Go.Proofs.Ytcojphdohpgjnaa
open Go.RowKit Go.Kin
set_option linter.unusedVariables false

/-- A slice of bytes. -/
def GivesSl (N : Nat) (g : Nat → Int) (w : World) (e : Ending) (w' : World) : Prop := ∃ A c, e = .returned (.slice A N c) ∧ Rd w' A N (by8 g) ∧ Below w.heap.size w w'
def NoSl (w : World) (e : Ending) (w' : World) : Prop := e = .returned (.slice none 0 0) ∧ Below w.heap.size w w'
theorem ix4_0 (x y vx vy : Int) (w : World) : (Instr.index 36 (.agg #[.int .i64 x, .int .i64 y, .int .i64 vx, .int .i64 vy]) (.int .i64 0)).run Try.prog w = .ok (.int .i64 x) w := by kernel_rfl
theorem ix4_1 (x y vx vy : Int) (w : World) : (Instr.index 36 (.agg #[.int .i64 x, .int .i64 y, .int .i64 vx, .int .i64 vy]) (.int .i64 1)).run Try.prog w = .ok (.int .i64 y) w := by kernel_rfl
theorem ix4_2 (x y vx vy : Int) (w : World) : (Instr.index 36 (.agg #[.int .i64 x, .int .i64 y, .int .i64 vx, .int .i64 vy]) (.int .i64 2)).run Try.prog w = .ok (.int .i64 vx) w := by kernel_rfl
theorem ix4_3 (x y vx vy : Int) (w : World) : (Instr.index 36 (.agg #[.int .i64 x, .int .i64 y, .int .i64 vx, .int .i64 vy]) (.int .i64 3)).run Try.prog w = .ok (.int .i64 vy) w := by kernel_rfl
theorem ix4 (x y vx vy : Int) (k : Nat) (hk : k < 4) (w : World) : (Instr.index 36 (.agg #[.int .i64 x, .int .i64 y, .int .i64 vx, .int .i64 vy]) (.int .i64 (k : Int))).run Try.prog w = .ok (.int .i64 (num4 x y vx vy k)) w := by
  match k, hk with
  | 0, _ => exact ix4_0 x y vx vy w
  | 1, _ => exact ix4_1 x y vx vy w
  | 2, _ => exact ix4_2 x y vx vy w
  | 3, _ => exact ix4_3 x y vx vy w

set_option maxHeartbeats 1000000 in
theorem mblock_no1 (W H : Int) (A : Option Addr) (N c : Nat) (x y n vx vy : Int) (w : World) (h : rightB W H N = false ∨ (rightB W H N = true ∧ n < 1) ∨ (rightB W H N = true ∧ ¬ n < 1 ∧ 64 < n)) :
    Calls Try.prog 29 #[.agg #[.int .i64 W, .int .i64 H, .slice A N c], .int .i64 x, .int .i64 y, .int .i64 n, .agg #[.int .i64 vx, .int .i64 vy]] w (NoSl w) := by
  have K := Kn.start w
  rcases h with h | ⟨h, h2⟩ | ⟨h, h2, h3⟩
  all_goals go_enter Try.func29, Try.ntmps29
  all_goals go_wp2_with fail
  all_goals refine (right_any _ _ _ _ _ _).mono ?_
  all_goals rintro e w1 ⟨rfl, hb1⟩
  all_goals replace K := ((K.new w.heap.size _ _ rfl).new (w.heap.size + 1) _ _ (by simp)).below hb1
  all_goals clear hb1
  all_goals replace L : Below _ _ _ := K.2.2.1
  all_goals go_wp2
  all_goals go_ret
  all_goals exact ⟨rfl, L⟩
set_option maxHeartbeats 1000000 in
theorem mblock_no2 (W H : Int) (A : Option Addr) (N c : Nat) (x y n vx vy : Int) (w : World) (hr : rightB W H N = true) (h1 : ¬ n < 1) (h2 : ¬ 64 < n) (h : ¬ (SmB x ∧ SmB y ∧ SmB vx ∧ SmB vy)) :
    Calls Try.prog 29 #[.agg #[.int .i64 W, .int .i64 H, .slice A N c], .int .i64 x, .int .i64 y, .int .i64 n, .agg #[.int .i64 vx, .int .i64 vy]] w (NoSl w) := by
  have K := Kn.start w
  have HH := Lib.hid h
  clear h
  go_enter Try.func29, Try.ntmps29
  go_wp2_with fail
  refine (right_any _ _ _ _ _ _).mono ?_
  rintro e w1 ⟨rfl, hb1⟩
  replace K := ((K.new w.heap.size _ _ rfl).new (w.heap.size + 1) _ _ (by simp)).below hb1
  clear hb1
  replace kc1 := Box.cells K.2.1
  replace kl1 := Box.lt K.2.1
  replace L : Below _ _ _ := K.2.2.1
  replace kc0 := Box.cells K.1
  replace kl0 := Box.lt K.1
  replace kc1 := Box.cells K.2.1
  replace kl1 := Box.lt K.2.1
  replace L : Below _ _ _ := K.2.2.1
  have HK := Lib.hid K
  clear K
  go_wp2_with fail
  go_loop [34] (fun i => ∃ k : Nat, k ≤ 4 ∧ i = .int .i64 k ∧ ∀ j, j < k → SmB (num4 x y vx vy j)) (fun i => 4 - (intOf i).toNat)
  case atStart => exact ⟨0, by omega, rfl, fun j hj => absurd hj (by omega)⟩
  case round =>
    obtain ⟨k, hk, rfl, hs⟩ := hrel
    by_cases hlt : k < 4
    · have ix := ix4 x y vx vy k hlt
      by_cases hsm : SmB (num4 x y vx vy k)
      · have HS : Hid (∀ j, j < k + 1 → SmB (num4 x y vx vy j)) := Lib.hid (fun j hj => by
          rcases Nat.lt_or_ge j k with h | h
          · exact hs j h
          · obtain rfl : j = k := by omega
            exact hsm)
        obtain ⟨s1, s2⟩ := hsm
        clear hs
        have s3 : ¬ num4 x y vx vy k < -1048576 := by omega
        have s4 : ¬ 1048576 < num4 x y vx vy k := by omega
        go_wp2
        go_round
        case rel => exact ⟨k + 1, hlt, by go_num, HS.out⟩
        case measure => simp [intOf]; omega
      · clear hs
        by_cases s3 : num4 x y vx vy k < -1048576
        · go_wp2
          go_ret
          exact ⟨rfl, HK.out.2.2.1⟩
        · have s4 : 1048576 < num4 x y vx vy k := by unfold SmB at hsm; omega
          clear hsm
          go_wp2
          go_ret
          exact ⟨rfl, HK.out.2.2.1⟩
    · exact absurd ⟨hs 0 (by omega), hs 1 (by omega), hs 2 (by omega), hs 3 (by omega)⟩ HH.out

set_option maxHeartbeats 4000000 in
set_option maxRecDepth 100000 in
theorem mblock_yes (W H : Int) (A : Option Addr) (N c : Nat) (g : Nat → Int) (x y : Int) (n : Nat) (vx vy : Int) (w : World) (hr : rightB W H N = true) (hS : Rd w A N (by8 g)) (hg : Byt g) (h1 : 1 ≤ n) (h2 : n ≤ 64) (s1 : SmB x) (s2 : SmB y) (s3 : SmB vx) (s4 : SmB vy) :
    Calls Try.prog 29 #[.agg #[.int .i64 W, .int .i64 H, .slice A N c], .int .i64 x, .int .i64 y, .int .i64 n, .agg #[.int .i64 vx, .int .i64 vy]] w (GivesSl (n * n) (bmP W H g x y n vx vy) w) := by
  have hnn : n * n ≤ 64 * 64 := Nat.mul_le_mul h2 h2
  have hmk := make_u8 (n * n) (by omega)
  rw [Int.natCast_mul] at hmk
  have m1 : (0 : Int) ≤ (n : Int) * n := by have := Int.natCast_mul n n; omega
  have m2 : (n : Int) * n ≤ 4096 := by have := Int.natCast_mul n n; omega
  have HSM : Hid (∀ k, SmB (num4 x y vx vy k)) := Lib.hid (fun k => by unfold num4; split; exact s1; split; exact s2; split; exact s3; exact s4)
  unfold SmB at s1 s2 s3 s4
  have K := (Kn.start w).add (x := .rd A N (by8 g)) hS
  clear hS
  go_enter Try.func29, Try.ntmps29
  go_wp2_with fail
  refine (right_any _ _ _ _ _ _).mono ?_
  rintro e w1 ⟨rfl, hb1⟩
  replace K := ((K.new w.heap.size _ _ rfl).new (w.heap.size + 1) _ _ (by simp)).below hb1
  clear hb1
  replace kc0 := Box.cells K.1
  replace kl0 := Box.lt K.1
  replace kc1 := Box.cells K.2.1
  replace kl1 := Box.lt K.2.1
  replace L : Below _ _ _ := K.2.2.2.1
  have HKX := Lib.hid K
  clear K
  go_wp2_with fail
  clear kc0 kc1 kl0 kl1
  go_loop [34] (fun i => ∃ k : Nat, k ≤ 4 ∧ i = .int .i64 k) (fun i => 4 - (intOf i).toNat)
  case atStart => exact ⟨0, by omega, rfl⟩
  case round =>
    obtain ⟨k, hk, rfl⟩ := hrel
    by_cases hlt : k < 4
    · have ix := ix4 x y vx vy k hlt
      obtain ⟨s5, s6⟩ := HSM.out k
      have s7 : ¬ num4 x y vx vy k < -1048576 := by omega
      have s8 : ¬ 1048576 < num4 x y vx vy k := by omega
      clear hmk
      go_wp2
      go_round
      case rel => exact ⟨k + 1, hlt, by go_num⟩
      case measure => simp [intOf]; omega
    · obtain rfl : k = 4 := by omega
      have K1 := HKX.out
      have OF := Lib.hid (K1.offS (b := w1.heap.size) (Nat.le_refl _))
      have HK := Lib.hid (K1.make w1.heap.size (.int .u8 0) (n * n) 5 rfl)
      clear K1 HKX
      go_wp2_with fail
      clear hmk
      go_loopw [49] (fun i wr => ∃ j : Nat, j ≤ n ∧ i = .int .i64 j ∧ Kn wr [.row w1.heap.size (n * n) (by8 fun q => if q < j * n then bmP W H g x y n vx vy q else 0), .box (w.heap.size + 1) #[.int .i64 vx, .int .i64 vy], .box w.heap.size #[.int .i64 W, .int .i64 H, .slice A N c], .rd A N (by8 g), .since w]) (fun i _ => n - (intOf i).toNat)
      case atStart => exact ⟨0, by omega, rfl, HK.out.row (fun i _ => by simp [by8])⟩
      case round =>
        obtain ⟨j, hj, rfl, K⟩ := hrel
        clear HK
        by_cases hlj : j < n
        · have HK := Lib.hid K
          clear K
          go_wp2_with fail
          go_loopw [53] (fun i wr => ∃ p : Nat, p ≤ n ∧ i = .int .i64 p ∧ Kn wr [.row w1.heap.size (n * n) (by8 fun q => if q < j * n + p then bmP W H g x y n vx vy q else 0), .box (w.heap.size + 1) #[.int .i64 vx, .int .i64 vy], .box w.heap.size #[.int .i64 W, .int .i64 H, .slice A N c], .rd A N (by8 g), .since w]) (fun i _ => n - (intOf i).toNat)
          case atStart => exact ⟨0, by omega, rfl, HK.out⟩
          case round =>
            obtain ⟨p, hp, rfl, K⟩ := hrel
            clear HK
            by_cases hlp : p < n
            · have kc1 := Box.cells K.2.1
              have kc2 := Box.cells K.2.2.1
              have hin : j * n + p < n * n := by
                have := Nat.mul_le_mul_right n (show j + 1 ≤ n by omega)
                rw [Nat.add_mul, Nat.one_mul] at this
                omega
              have hini : (j : Int) * n + p < (n : Int) * n := by exact_mod_cast hin
              have h00 : (0 : Int) ≤ (j : Int) * n := Int.mul_nonneg (by omega) (by omega)
              have HBM := Lib.hid (bmP_at (W := W) (H := H) (g := g) (x := x) (y := y) (j := j) (vx := vx) (vy := vy) hlp)
              have z3 : ((j : Int) * n + p).toNat = j * n + p := by rw [show (j : Int) * n + p = ((j * n + p : Nat) : Int) by push_cast; rfl, Int.toNat_natCast]
              go_wp2_with fail
              refine (msample_yes W H A N c g _ _ _ hr K.2.2.2.1 hg (by omega) (by omega)).mono ?_
              rintro e w3 ⟨rfl, hb3⟩
              have K3 := K.below hb3
              rw [← HBM.out]
              have bv := bmP_byt (W := W) (H := H) (x := x) (y := y) (n := n) (vx := vx) (vy := vy) hg (j * n + p)
              generalize hv : bmP W H g x y n vx vy (j * n + p) = v at *
              have HV := Lib.hid hv
              clear hv hb3 K kc1 kc2
              have cr := Row.cell K3.1 hin
              have fr := Row.frozen K3.1 (j * n + p)
              simp only [by8] at cr
              go_wp2
              go_roundw
              case rel =>
                refine ⟨p + 1, by omega, by go_num, (Kn.setRowS K3 (j * n + p) (.int .u8 v) OF.out).row fun i _ => ?_⟩
                simp only [by8]
                by_cases e : i = j * n + p
                · subst e; rw [if_pos rfl, if_pos (by omega), HV.out]
                · rw [if_neg e]
                  by_cases e2 : i < j * n + p
                  · rw [if_pos e2, if_pos (by omega)]
                  · rw [if_neg e2, if_neg (by omega)]
              case measure => simp [intOf]; omega
            · obtain rfl : p = n := by omega
              have HK := Lib.hid K
              clear K
              go_wp2
              go_roundw
              case rel => exact ⟨j + 1, by omega, by go_num, by rw [Nat.add_mul, Nat.one_mul]; exact HK.out⟩
              case measure => simp [intOf]; omega
        · obtain rfl : j = n := by omega
          have HK := Lib.hid K
          clear K
          go_wp2
          go_ret
          exact ⟨_, _, rfl, (Row.rd HK.out.1).congr (fun i hi => by simp only [by8]; rw [if_pos hi]), HK.out.2.2.2.2.1⟩

def smD (v : Int) : Bool := decide (SmB v)
theorem smD_eq (v : Int) : smD v = (decide (-1048576 ≤ v) && decide (v ≤ 1048576)) := by
  unfold smD
  by_cases h1 : -1048576 ≤ v <;> by_cases h2 : v ≤ 1048576 <;> simp [SmB, h1, h2]
theorem rsmall_any (v : Int) (w : World) : Calls Try.prog 58 #[.int .i64 v] w fun e w' => e = .returned (.bool (smD v)) ∧ w = w' := by
  have H := Lib.hid (smD_eq v)
  by_cases h : -1048576 ≤ v
  · have HE : Hid (decide (-1048576 ≤ v) = true) := Lib.hid (by simp [h])
    go_enter Try.func58, Try.ntmps58
    go_wp2
    go_ret
    exact ⟨ret_bool (by rw [H.out, HE.out, Bool.true_and]), rfl⟩
  · have HE : Hid (decide (-1048576 ≤ v) = false) := Lib.hid (by simp [h])
    go_enter Try.func58, Try.ntmps58
    go_wp2
    go_ret
    exact ⟨ret_bool (by rw [H.out, HE.out, Bool.false_and]), rfl⟩
set_option maxHeartbeats 4000000 in
theorem rblock_no (W H : Int) (A : Option Addr) (N c : Nat) (x y n vx vy : Int) (w : World) (h : ¬ (rightB W H N = true ∧ 1 ≤ n ∧ n ≤ 64 ∧ smD x = true ∧ smD y = true ∧ smD vx = true ∧ smD vy = true)) :
    Calls Try.prog 44 #[.agg #[.int .i64 W, .int .i64 H, .slice A N c], .int .i64 x, .int .i64 y, .int .i64 n, .agg #[.int .i64 vx, .int .i64 vy]] w (NoSl w) := by
  have K := Kn.start w
  have HH := Lib.hid h
  clear h
  go_enter Try.func44, Try.ntmps44
  go_wp2_with fail
  refine (rright_any _ _ _ _ _ _).mono ?_
  rintro e w1 ⟨rfl, hb1⟩
  replace K := ((K.new w.heap.size _ _ rfl).new (w.heap.size + 1) _ _ (by simp)).below hb1
  clear hb1
  replace kc1 := Box.cells K.2.1
  replace kl1 := Box.lt K.2.1
  replace L : Below _ _ _ := K.2.2.1
  replace kc0 := Box.cells K.1
  replace kl0 := Box.lt K.1
  replace kc1 := Box.cells K.2.1
  replace kl1 := Box.lt K.2.1
  replace L : Below _ _ _ := K.2.2.1
  have HX := rsmall_any x
  have HY := rsmall_any y
  have HVX := rsmall_any vx
  have HVY := rsmall_any vy
  have H1 := Lib.hid HX
  have H2 := Lib.hid HY
  have H3 := Lib.hid HVX
  have H4 := Lib.hid HVY
  clear HX HY HVX HVY
  generalize rightB W H N = r0 at *
  generalize smD x = sx at *
  generalize smD y = sy at *
  generalize smD vx = tx at *
  generalize smD vy = ty at *
  go_upto_region 2 with (fail)
  go_cut [12] (fun b w' => b = .bool (sx && sy) ∧ w' = w1)
  case first =>
    cases sx
    · go_wp2_with (go_at_call 58; refine (H1.out _).mono ?_; rintro e w' ⟨rfl, rfl⟩)
      go_meet
      case rel => exact ⟨rfl, rfl⟩
    · go_wp2_with (go_at_call 58; first | (refine (H1.out _).mono ?_; rintro e w' ⟨rfl, rfl⟩) | (refine (H2.out _).mono ?_; rintro e w' ⟨rfl, rfl⟩))
      go_meet
      case rel => exact ⟨by simp, rfl⟩
  case rest =>
    obtain ⟨rfl, rfl⟩ := hcut
    go_upto_region 3 with (fail)
    go_cut [13] (fun b w' => b = .bool (tx && ty) ∧ w' = wc)
    case first =>
      cases tx
      · go_wp2_with (go_at_call 58; refine (H3.out _).mono ?_; rintro e w' ⟨rfl, rfl⟩)
        go_meet
        case rel => exact ⟨rfl, rfl⟩
      · go_wp2_with (go_at_call 58; first | (refine (H3.out _).mono ?_; rintro e w' ⟨rfl, rfl⟩) | (refine (H4.out _).mono ?_; rintro e w' ⟨rfl, rfl⟩))
        go_meet
        case rel => exact ⟨by simp, rfl⟩
    case rest =>
      obtain ⟨rfl, rfl⟩ := hcut
      have HO : Hid (¬ (r0 = true ∧ 1 ≤ n ∧ n ≤ 64 ∧ (sx && sy) = true ∧ (tx && ty) = true)) := Lib.hid (fun ⟨a, b, c, d, e⟩ => HH.out ⟨a, b, c, by cases sx <;> simp_all, by cases sy <;> simp_all, by cases tx <;> simp_all, by cases ty <;> simp_all⟩)
      generalize (sx && sy) = o1 at *
      generalize (tx && ty) = o2 at *
      have HK := Lib.hid K
      clear K kc0 kc1
      have hn : n < 1 ∨ (¬ n < 1 ∧ 64 < n) ∨ (¬ n < 1 ∧ ¬ 64 < n) := by omega
      rcases hn with hn | ⟨hn, hn2⟩ | ⟨hn, hn2⟩ <;> cases r0 <;> cases o1 <;> cases o2
      all_goals first
        | (exact absurd ⟨rfl, by omega, by omega, rfl, rfl⟩ HO.out)
        | (clear HO; go_wp2_with fail; go_ret; exact ⟨rfl, HK.out.2.2.1⟩)
end Go.Proofs.Ytcojphdohpgjnaa
