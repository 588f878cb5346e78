/- Layer 7: Order, Sort, Unsort of a block of side 4, of the code and of the document. -/
import Derived.Test.YtmnoddmecghjdaaLf5
namespace Go.Proofs.Ytmnoddmecghjdaa
open Go.RowKit Go.Kin
theorem order_no (n : Int) (w : World) (h4 : n ≠ 4) (h8 : n ≠ 8) : Calls Try.prog 87 #[.int .i64 n] w fun e w' => e = .returned (.slice none 0 0) ∧ w = w' := by
  have e1 : (n != 4) = true := by simp [h4]
  have e2 : (n != 8) = true := by simp [h8]
  go_enter Try.func87, Try.ntmps87
  go_wp2
  go_ret
  exact ⟨rfl, rfl⟩
theorem rorder_no (n : Int) (w : World) (h4 : n ≠ 4) (h8 : n ≠ 8) : Calls Try.prog 88 #[.int .i64 n] w fun e w' => e = .returned (.slice none 0 0) ∧ w = w' := by
  have e1 : (n == 4) = false := by simp [h4]
  have e2 : (n == 8) = false := by simp [h8]
  clear h4 h8
  go_enter Try.func88, Try.ntmps88
  go_wp2_with fail
  refine wp_loop_rounds 1 ?_
  rw [rounds_succ]
  go_wp2
  all_goals (go_ret; exact ⟨rfl, rfl⟩)
theorem sort_no (A : Option Addr) (n c : Nat) (w : World) (h : sideN n = 0) : Calls Try.prog 63 #[.slice A n c] w fun e w' => e = .returned (.slice none 0 0) ∧ w = w' := by
  have H := Lib.hid h
  clear h
  go_enter Try.func63, Try.ntmps63
  go_wp2_with (go_at_call 86; refine (lside_any _ _).mono ?_; rintro e w' ⟨rfl, rfl⟩; rw [H.out])
  go_ret
  exact ⟨rfl, rfl⟩
theorem unsort_no (A : Option Addr) (n c : Nat) (w : World) (h : sideN n = 0) : Calls Try.prog 67 #[.slice A n c] w fun e w' => e = .returned (.slice none 0 0) ∧ w = w' := by
  have H := Lib.hid h
  clear h
  go_enter Try.func67, Try.ntmps67
  go_wp2_with (go_at_call 86; refine (lside_any _ _).mono ?_; rintro e w' ⟨rfl, rfl⟩; rw [H.out])
  go_ret
  exact ⟨rfl, rfl⟩
theorem rsort_no (A : Option Addr) (n c : Nat) (w : World) (h : sideN n = 0) : Calls Try.prog 65 #[.slice A n c] w fun e w' => e = .returned (.slice none 0 0) ∧ w = w' := by
  have H := Lib.hid h
  clear h
  go_enter Try.func65, Try.ntmps65
  go_wp2_with (first | (go_at_call 89; refine (rside_any _ _).mono ?_; rintro e w' ⟨rfl, rfl⟩; rw [H.out]) | (go_at_call 88; refine (rorder_no _ _ (by decide) (by decide)).mono ?_; rintro e w' ⟨rfl, rfl⟩))
  refine wp_loop_rounds 1 ?_
  rw [rounds_succ]
  go_wp2
  go_ret
  exact ⟨rfl, rfl⟩
theorem runsort_no (A : Option Addr) (n c : Nat) (w : World) (h : sideN n = 0) : Calls Try.prog 68 #[.slice A n c] w (GivesI 0 (fun _ => 0) w) := by
  have H := Lib.hid h
  clear h
  have hmk : ∀ w, (Instr.makeSlice 57 (.int .i64 0) (.int .i64 0)).run Try.prog w = .ok (.slice (some ⟨w.heap.size, 0, none⟩) 0 0) (w.alloc (.cells (madeCells #[.int .i64 0] 0) 3)) := make_i64 0 (by omega)
  go_enter Try.func68, Try.ntmps68
  go_wp2_with (first | (go_at_call 89; refine (rside_any _ _).mono ?_; rintro e w' ⟨rfl, rfl⟩; rw [H.out]) | (go_at_call 88; refine (rorder_no _ _ (by decide) (by decide)).mono ?_; rintro e w' ⟨rfl, rfl⟩))
  refine wp_loop_rounds 1 ?_
  rw [rounds_succ]
  go_wp2
  go_ret
  exact ⟨_, _, rfl, Rd.none_ _ _ _, Nat.le_refl _, by omega, fun k o e => (by injection e with e; injection e with e1 e2; omega), (Below.refl _ w).alloc (Nat.le_refl _) _⟩
end Go.Proofs.Ytmnoddmecghjdaa

namespace Go.Proofs.Ytmnoddmecghjdaa
open Go.RowKit Go.Kin
set_option linter.unusedVariables false
set_option maxRecDepth 100000 in
set_option maxHeartbeats 4000000 in
theorem order_4 (w : World) : Calls Try.prog 87 #[.int .i64 4] w (GivesI 16 (fun i => (zg 4 i : Nat)) w) := by
  obtain ⟨i0, hi0, hz0, hz1, hz2⟩ := parts_i64
  have HI := Lib.hid hi0
  clear hi0
  have hmk : ∀ w, (Instr.makeSlice 57 (.int .i64 0) (.int .i64 16)).run Try.prog w = .ok (.slice (some ⟨w.heap.size, 0, none⟩) 0 16) (w.alloc (.cells (mkR 16 (in64 fun _ => 0)) 3)) := fun _ => by kernel_rfl
  have HO0 : Hid (OwnS (w.alloc (.cells (mkR 16 (in64 fun _ => 0)) 3)) w.heap.size 3 (some ⟨w.heap.size, 0, none⟩) 0 16 (in64 fun i => ((zpre 4 0 0).getD i 0 : Nat))) := Lib.hid ⟨by simp, .inr ⟨w.heap.size, 16, mkR 16 (in64 fun _ => 0), rfl, Nat.le_refl _, heap_alloc_new w _, by omega, by unfold maxLen; omega, by rw [mkR_size], by simp⟩⟩
  have HK := Lib.hid (((Kn.start w).alloc (.cells (mkR 16 (in64 fun _ => 0)) 3)).add (x := .own w.heap.size 3 (some ⟨w.heap.size, 0, none⟩) 0 16 (in64 fun i => ((zpre 4 0 0).getD i 0 : Nat))) HO0.out)
  go_enter Try.func87, Try.ntmps87
  go_wp2_with fail
  go_loopw [3, 20] (fun v s wr => ∃ (q : Nat) (A : Option Addr) (c : Nat), q ≤ 2 * 4 - 1 ∧ s = .int .i64 q ∧ v = .slice A (zpre 4 q 0).length c ∧ Kn wr [.own w.heap.size 3 A (zpre 4 q 0).length c (in64 fun i => ((zpre 4 q 0).getD i 0 : Nat)), .since w]) (fun _ s _ => (2 * 4 - 1 - intOf s).toNat)
  case atStart => exact ⟨0, _, _, by omega, rfl, rfl, HK.out⟩
  case round =>
    obtain ⟨q, A, c, hq, rfl, rfl, K⟩ := hrel
    clear HK HO0
    obtain ⟨wo, rfl⟩ : ∃ wo : World, wo = wr := ⟨_, rfl⟩
    have HK := Lib.hid K
    clear K
    by_cases hlt : q < 2 * 4 - 1
    · have l1 : (q : Int) ≤ 6 := by omega
      have l2 : (q : Int) < 7 := by omega
      go_wp2_with fail
      go_loopw [3, 24] (fun v y wr => ∃ (p : Nat) (A : Option Addr) (c : Nat), p ≤ 4 ∧ y = .int .i64 p ∧ v = .slice A (zpre 4 q p).length c ∧ Kn wr [.own w.heap.size 3 A (zpre 4 q p).length c (in64 fun i => ((zpre 4 q p).getD i 0 : Nat)), .since w]) (fun _ y _ => (4 - intOf y).toNat)
      case atStart => exact ⟨0, _, _, by omega, rfl, rfl, HK.out⟩
      case round =>
        obtain ⟨p, A, c, hp, rfl, rfl, K⟩ := hrel
        clear HK
        have HK := Lib.hid K
        clear K
        by_cases hlp : p < 4
        · have hl := zpre_len 4 q p
          by_cases h1 : p ≤ q
          · by_cases h2 : q < p + 4
            · have HE := Lib.hid (zpre_yes (n := 4) (s := q) (y := p) ⟨h1, h2⟩)
              have HV := Lib.hid (show (((p * 4 + (q - p) : Nat)) : Int) = (p : Int) * 4 + ((q : Int) - p) by omega)
              generalize hZ : zpre 4 q p = Z at *
              clear hZ
              have k1 : (0 : Int) ≤ (q : Int) - p := by omega
              have k2 : (q : Int) - p < 4 := by omega
              have hsz : w.heap.size ≤ wr.heap.size := Below.size HK.out.2.1
              have HSW := Lib.hid (fun b (hb : w.heap.size ≤ b) => (Kn.start w).offS (b := b) hb)
              go_wp2_with (at_builtin; refine wpList_app1 rfl (.tmp 37) (.tmp 43) rfl Try.underlying57 HI.out hz0 hz1 hz2 rfl rfl rfl (OwnS.alloc HK.out.1 _) (Box.new wr _ _) rfl ?_ ?_ ?_ ?_; rotate_right; intro A4 c4 w4 bo hO4 hbo ho4)
              rotate_left
              · unfold maxLen; omega
              · omega
              · simp; omega
              have HK4 := Lib.hid ((Kn.othS (HK.out.2.alloc _) ho4 ⟨hbo, trivial⟩).add (x := .own w.heap.size 3 A4 (Z.length + 1) c4 (in64 fun i => ((Z ++ [p * 4 + (q - p)]).getD i 0 : Nat))) (hO4.congr fun j hj => by
                by_cases e : j < Z.length
                · simp [in64, e, List.getElem?_append_left e]
                · obtain rfl : j = Z.length := by omega
                  simp only [in64, if_neg e]
                  rw [← HV.out]
                  simp))
              clear hO4 ho4 HK
              go_wp2
              go_roundw
              case rel => exact ⟨p + 1, A4, c4, by omega, by go_num, by rw [HE.out, List.length_append]; rfl, by rw [HE.out, List.length_append]; exact HK4.out⟩
              case measure => simp [intOf]; omega
            · have HE := Lib.hid (zpre_no (n := 4) (s := q) (y := p) (by omega))
              have k1 : (0 : Int) ≤ (q : Int) - p := by omega
              have k2 : ¬ (q : Int) - p < 4 := by omega
              go_wp2
              go_roundw
              case rel => exact ⟨p + 1, A, c, by omega, by go_num, by rw [HE.out], by rw [HE.out]; exact HK.out⟩
              case measure => simp [intOf]; omega
          · have HE := Lib.hid (zpre_no (n := 4) (s := q) (y := p) (by omega))
            have k1 : ¬ (0 : Int) ≤ (q : Int) - p := by omega
            go_wp2
            go_roundw
            case rel => exact ⟨p + 1, A, c, by omega, by go_num, by rw [HE.out], by rw [HE.out]; exact HK.out⟩
            case measure => simp [intOf]; omega
        · obtain rfl : p = 4 := by omega
          go_wp2
          go_roundw
          case rel => exact ⟨q + 1, A, c, by omega, by go_num, by rw [zpre_up], by rw [zpre_up]; exact HK.out⟩
          case measure => simp [intOf]; omega
    · obtain rfl : q = 2 * 4 - 1 := by omega
      have l1 : ¬ (((2 * 4 - 1 : Nat)) : Int) ≤ 2 * 4 - 2 := by omega
      have hl : (zpre 4 (2 * 4 - 1) 0).length = 16 := zlen4
      rw [hl] at HK ⊢
      clear hl
      go_wp2
      go_ret
      exact ⟨_, _, rfl, HK.out.1.rd, HK.out.1.cap.1, HK.out.1.cap.2, fun k o e => (OwnS.lt HK.out.1 e).1, HK.out.2.1⟩
set_option maxRecDepth 100000 in
set_option maxHeartbeats 4000000 in
theorem rorder_4 (w : World) : Calls Try.prog 88 #[.int .i64 4] w (GivesI 16 (fun i => (zg 4 i : Nat)) w) := by
  obtain ⟨i0, hi0, hz0, hz1, hz2⟩ := parts_i64
  have HI := Lib.hid hi0
  clear hi0
  have HK := Lib.hid ((Kn.start w).add (x := .own w.heap.size 3 none 0 0 (in64 fun i => ((zpre 4 0 0).getD i 0 : Nat))) (OwnS.nil _ _ _ _))
  go_enter Try.func88, Try.ntmps88
  go_wp2_with fail
  go_loopw [3, 4] (fun v s wr => ∃ (q : Nat) (A : Option Addr) (c : Nat), q ≤ 2 * 4 - 1 ∧ s = .int .i64 q ∧ v = .slice A (zpre 4 q 0).length c ∧ Kn wr [.own w.heap.size 3 A (zpre 4 q 0).length c (in64 fun i => ((zpre 4 q 0).getD i 0 : Nat)), .since w]) (fun _ s _ => (2 * 4 - 1 - intOf s).toNat)
  case atStart => exact ⟨0, _, _, by omega, rfl, rfl, HK.out⟩
  case round =>
    obtain ⟨q, A, c, hq, rfl, rfl, K⟩ := hrel
    clear HK
    obtain ⟨wo, rfl⟩ : ∃ wo : World, wo = wr := ⟨_, rfl⟩
    have HK := Lib.hid K
    clear K
    by_cases hlt : q < 2 * 4 - 1
    · have l1 : (q : Int) ≤ 6 := by omega
      have l2 : (q : Int) < 7 := by omega
      go_wp2_with fail
      go_loopw [3, 5] (fun v y wr => ∃ (p : Nat) (A : Option Addr) (c : Nat), p ≤ 4 ∧ y = .int .i64 p ∧ v = .slice A (zpre 4 q p).length c ∧ Kn wr [.own w.heap.size 3 A (zpre 4 q p).length c (in64 fun i => ((zpre 4 q p).getD i 0 : Nat)), .since w]) (fun _ y _ => (4 - intOf y).toNat)
      case atStart => exact ⟨0, _, _, by omega, rfl, rfl, HK.out⟩
      case round =>
        obtain ⟨p, A, c, hp, rfl, rfl, K⟩ := hrel
        clear HK
        have HK := Lib.hid K
        clear K
        by_cases hlp : p < 4
        · have hl := zpre_len 4 q p
          by_cases h1 : p ≤ q
          · by_cases h2 : q < p + 4
            · have HE := Lib.hid (zpre_yes (n := 4) (s := q) (y := p) ⟨h1, h2⟩)
              have HV := Lib.hid (show (((p * 4 + (q - p) : Nat)) : Int) = (p : Int) * 4 + ((q : Int) - p) by omega)
              generalize hZ : zpre 4 q p = Z at *
              clear hZ
              have k1 : (0 : Int) ≤ (q : Int) - p := by omega
              have k2 : (q : Int) - p < 4 := by omega
              have hsz : w.heap.size ≤ wr.heap.size := Below.size HK.out.2.1
              have HSW := Lib.hid (fun b (hb : w.heap.size ≤ b) => (Kn.start w).offS (b := b) hb)
              go_wp2_with (at_builtin; refine wpList_app1 rfl (.tmp 37) (.tmp 43) rfl Try.underlying57 HI.out hz0 hz1 hz2 rfl rfl rfl (OwnS.alloc HK.out.1 _) (Box.new wr _ _) rfl ?_ ?_ ?_ ?_; rotate_right; intro A4 c4 w4 bo hO4 hbo ho4)
              rotate_left
              · unfold maxLen; omega
              · omega
              · simp; omega
              have HK4 := Lib.hid ((Kn.othS (HK.out.2.alloc _) ho4 ⟨hbo, trivial⟩).add (x := .own w.heap.size 3 A4 (Z.length + 1) c4 (in64 fun i => ((Z ++ [p * 4 + (q - p)]).getD i 0 : Nat))) (hO4.congr fun j hj => by
                by_cases e : j < Z.length
                · simp [in64, e, List.getElem?_append_left e]
                · obtain rfl : j = Z.length := by omega
                  simp only [in64, if_neg e]
                  rw [← HV.out]
                  simp))
              clear hO4 ho4 HK
              go_wp2
              go_roundw
              case rel => exact ⟨p + 1, A4, c4, by omega, by go_num, by rw [HE.out, List.length_append]; rfl, by rw [HE.out, List.length_append]; exact HK4.out⟩
              case measure => simp [intOf]; omega
            · have HE := Lib.hid (zpre_no (n := 4) (s := q) (y := p) (by omega))
              have k1 : (0 : Int) ≤ (q : Int) - p := by omega
              have k2 : ¬ (q : Int) - p < 4 := by omega
              go_wp2
              go_roundw
              case rel => exact ⟨p + 1, A, c, by omega, by go_num, by rw [HE.out], by rw [HE.out]; exact HK.out⟩
              case measure => simp [intOf]; omega
          · have HE := Lib.hid (zpre_no (n := 4) (s := q) (y := p) (by omega))
            have k1 : ¬ (0 : Int) ≤ (q : Int) - p := by omega
            go_wp2
            go_roundw
            case rel => exact ⟨p + 1, A, c, by omega, by go_num, by rw [HE.out], by rw [HE.out]; exact HK.out⟩
            case measure => simp [intOf]; omega
        · obtain rfl : p = 4 := by omega
          go_wp2
          go_roundw
          case rel => exact ⟨q + 1, A, c, by omega, by go_num, by rw [zpre_up], by rw [zpre_up]; exact HK.out⟩
          case measure => simp [intOf]; omega
    · obtain rfl : q = 2 * 4 - 1 := by omega
      have l1 : ¬ (((2 * 4 - 1 : Nat)) : Int) ≤ 2 * 4 - 2 := by omega
      have hl : (zpre 4 (2 * 4 - 1) 0).length = 16 := zlen4
      rw [hl] at HK ⊢
      clear hl
      go_wp2
      go_ret
      exact ⟨_, _, rfl, HK.out.1.rd, HK.out.1.cap.1, HK.out.1.cap.2, fun k o e => (OwnS.lt HK.out.1 e).1, HK.out.2.1⟩
set_option maxRecDepth 100000 in
set_option maxHeartbeats 4000000 in
theorem sort_4 (A : Option Addr) (c : Nat) (g : Nat → Int) (w : World) (hA : Rd w A 16 (in64 g)) : Calls Try.prog 63 #[.slice A 16 c] w (GivesI 16 (fun i => g (zg 4 i)) w) := by
  have hmk : ∀ w, (Instr.makeSlice 57 (.int .i64 16) (.int .i64 16)).run Try.prog w = .ok (.slice (some ⟨w.heap.size, 0, none⟩) 16 16) (w.alloc (.cells (madeCells #[.int .i64 0] 16) 3)) := make_i64 16 (by omega)
  have K := (Kn.start w).add (x := .rd A 16 (in64 g)) hA
  have hs16 : sideN 16 = 4 := rfl
  clear hA
  go_enter Try.func63, Try.ntmps63
  go_wp2_with fail
  refine (lside_any 16 _).mono ?_
  rintro e w' ⟨rfl, rfl⟩
  rw [hs16]
  have OFA := K.offS (b := w.heap.size) (Nat.le_refl _)
  have K := K.make w.heap.size (.int .i64 0) 16 3 rfl
  go_wp2_with fail
  refine (order_4 _).mono ?_
  rintro e w2 ⟨AO, cO, rfl, hO, _, _, hfr, hb⟩
  have K := ((K.below hb).add (x := .rd AO 16 (in64 fun i => (zg 4 i : Nat))) hO)
  clear hb hO
  obtain ⟨bO, oO, rfl, _, _⟩ := Rd.some_ K.1 (by omega)
  have hfo := hfr _ _ rfl
  have HOF : Hid (OffsS w.heap.size [.rd (some ⟨bO, oO, none⟩) 16 (in64 fun i => (zg 4 i : Nat)), .rd A 16 (in64 g), .since w]) := Lib.hid ⟨.inr fun k o e => (by injection e with e; injection e with e1 e2; simp at hfo; omega), OFA.1, OFA.2.1, trivial⟩
  have HK := Lib.hid K.swap
  clear K OFA hfr hfo
  go_wp2_with fail
  go_loopw [18] (fun i wr => ∃ k : Nat, k ≤ 16 ∧ i = .int .i64 k ∧ Kn wr [.row w.heap.size 16 (in64 fun i => if i < k then g (zg 4 i) else 0), .rd (some ⟨bO, oO, none⟩) 16 (in64 fun i => (zg 4 i : Nat)), .rd A 16 (in64 g), .since w]) (fun i _ => 16 - (intOf i).toNat)
  case atStart => exact ⟨0, by omega, rfl, HK.out.row (fun i hi => by simp [in64])⟩
  case round =>
    obtain ⟨k, hk, rfl, K⟩ := hrel
    clear HK
    by_cases hlt : k < 16
    · obtain ⟨bA, oA, rfl, _, hcA⟩ := Rd.some_ K.2.2.1 (by omega)
      have hz := zg4_lt k hlt
      have c1 := Rd.at_ K.2.1 hlt
      have c2 := hcA _ hz
      have hzi := zi4_zg k hlt
      have HI2 := Lib.hid (fun j (hj : j < 16) (h : zi 4 j = k) => show j = zg 4 k by rw [← h]; exact (zg4_zi j hj).symm)
      simp only [in64] at c1 c2
      have HZI := Lib.hid hzi
      clear hzi
      generalize hgz : zg 4 k = z at *
      have HGZ := Lib.hid hgz
      clear hgz
      have ke := Row.cell K.1 hlt
      have kf := Row.frozen K.1 k
      have zz : (z : Int) < 16 := by omega
      have HK := Lib.hid K
      clear K hcA
      go_wp2
      go_roundw
      case rel =>
        refine ⟨k + 1, by omega, by go_num, (Kn.setRowS HK.out k (.int .i64 (g z)) HOF.out).row fun i hi => ?_⟩
        simp only [in64]
        by_cases e1 : i = k
        · subst e1; simp [HGZ.out]
        · by_cases e2 : i < k
          · simp [e1, e2, show i < k + 1 by omega]
          · simp [e1, e2, show ¬ i < k + 1 by omega]
      case measure => simp [intOf]; omega
    · obtain rfl : k = 16 := by omega
      have L : Below _ _ _ := K.2.2.2.1
      have HR := Lib.hid ((Row.rd K.1).congr (g := in64 (fun i => g (zg 4 i))) (fun i hi => by simp only [in64]; rw [if_pos hi]))
      clear K
      go_wp2
      go_ret
      exact ⟨_, _, rfl, HR.out, by omega, by omega, fun k o e => (by injection e with e; injection e with e1 e2; omega), L⟩
set_option maxRecDepth 100000 in
set_option maxHeartbeats 4000000 in
theorem unsort_4 (A : Option Addr) (c : Nat) (g : Nat → Int) (w : World) (hA : Rd w A 16 (in64 g)) : Calls Try.prog 67 #[.slice A 16 c] w (GivesI 16 (fun j => g (zi 4 j)) w) := by
  have hmk : ∀ w, (Instr.makeSlice 57 (.int .i64 16) (.int .i64 16)).run Try.prog w = .ok (.slice (some ⟨w.heap.size, 0, none⟩) 16 16) (w.alloc (.cells (madeCells #[.int .i64 0] 16) 3)) := make_i64 16 (by omega)
  have K := (Kn.start w).add (x := .rd A 16 (in64 g)) hA
  have hs16 : sideN 16 = 4 := rfl
  clear hA
  go_enter Try.func67, Try.ntmps67
  go_wp2_with fail
  refine (lside_any 16 _).mono ?_
  rintro e w' ⟨rfl, rfl⟩
  rw [hs16]
  have OFA := K.offS (b := w.heap.size) (Nat.le_refl _)
  have K := K.make w.heap.size (.int .i64 0) 16 3 rfl
  go_wp2_with fail
  refine (order_4 _).mono ?_
  rintro e w2 ⟨AO, cO, rfl, hO, _, _, hfr, hb⟩
  have K := ((K.below hb).add (x := .rd AO 16 (in64 fun i => (zg 4 i : Nat))) hO)
  clear hb hO
  obtain ⟨bO, oO, rfl, _, _⟩ := Rd.some_ K.1 (by omega)
  have hfo := hfr _ _ rfl
  have HOF : Hid (OffsS w.heap.size [.rd (some ⟨bO, oO, none⟩) 16 (in64 fun i => (zg 4 i : Nat)), .rd A 16 (in64 g), .since w]) := Lib.hid ⟨.inr fun k o e => (by injection e with e; injection e with e1 e2; simp at hfo; omega), OFA.1, OFA.2.1, trivial⟩
  have HK := Lib.hid K.swap
  clear K OFA hfr hfo
  go_wp2_with fail
  go_loopw [18] (fun i wr => ∃ k : Nat, k ≤ 16 ∧ i = .int .i64 k ∧ Kn wr [.row w.heap.size 16 (in64 fun j => if zi 4 j < k then g (zi 4 j) else 0), .rd (some ⟨bO, oO, none⟩) 16 (in64 fun i => (zg 4 i : Nat)), .rd A 16 (in64 g), .since w]) (fun i _ => 16 - (intOf i).toNat)
  case atStart => exact ⟨0, by omega, rfl, HK.out.row (fun i hi => by simp [in64])⟩
  case round =>
    obtain ⟨k, hk, rfl, K⟩ := hrel
    clear HK
    by_cases hlt : k < 16
    · obtain ⟨bA, oA, rfl, _, hcA⟩ := Rd.some_ K.2.2.1 (by omega)
      have hz := zg4_lt k hlt
      have c1 := Rd.at_ K.2.1 hlt
      have c2 := hcA k hlt
      have hzi := zi4_zg k hlt
      have HI2 := Lib.hid (fun j (hj : j < 16) (h : zi 4 j = k) => show j = zg 4 k by rw [← h]; exact (zg4_zi j hj).symm)
      simp only [in64] at c1 c2
      have HZI := Lib.hid hzi
      clear hzi
      generalize hgz : zg 4 k = z at *
      have HGZ := Lib.hid hgz
      clear hgz
      have ke := Row.cell K.1 hz
      have kf := Row.frozen K.1 z
      have zz : (z : Int) < 16 := by omega
      have HK := Lib.hid K
      clear K hcA
      go_wp2
      go_roundw
      case rel =>
        refine ⟨k + 1, by omega, by go_num, (Kn.setRowS HK.out z (.int .i64 (g k)) HOF.out).row fun i hi => ?_⟩
        simp only [in64]
        by_cases e1 : i = z
        · subst e1; simp [HZI.out]
        · by_cases e2 : zi 4 i < k
          · simp [e1, e2, show zi 4 i < k + 1 by omega]
          · have : zi 4 i ≠ k := fun h => e1 (HI2.out i hi h)
            simp [e1, e2, show ¬ zi 4 i < k + 1 by omega]
      case measure => simp [intOf]; omega
    · obtain rfl : k = 16 := by omega
      have L : Below _ _ _ := K.2.2.2.1
      have HR := Lib.hid ((Row.rd K.1).congr (g := in64 (fun j => g (zi 4 j))) (fun i hi => by simp only [in64]; rw [if_pos (zi4_lt i hi)]))
      clear K
      go_wp2
      go_ret
      exact ⟨_, _, rfl, HR.out, by omega, by omega, fun k o e => (by injection e with e; injection e with e1 e2; omega), L⟩
set_option maxRecDepth 100000 in
set_option maxHeartbeats 4000000 in
theorem runsort_4 (A : Option Addr) (c : Nat) (g : Nat → Int) (w : World) (hA : Rd w A 16 (in64 g)) : Calls Try.prog 68 #[.slice A 16 c] w (GivesI 16 (fun j => g (zi 4 j)) w) := by
  have hmk : ∀ w, (Instr.makeSlice 57 (.int .i64 16) (.int .i64 16)).run Try.prog w = .ok (.slice (some ⟨w.heap.size, 0, none⟩) 16 16) (w.alloc (.cells (madeCells #[.int .i64 0] 16) 3)) := make_i64 16 (by omega)
  have K := (Kn.start w).add (x := .rd A 16 (in64 g)) hA
  have hs16 : sideN 16 = 4 := rfl
  clear hA
  go_enter Try.func68, Try.ntmps68
  go_wp2_with fail
  refine (rside_any 16 _).mono ?_
  rintro e w' ⟨rfl, rfl⟩
  rw [hs16]
  go_wp2_with fail
  refine (rorder_4 _).mono ?_
  rintro e w2 ⟨AO, cO, rfl, hO, _, _, hfr, hb⟩
  have K := (K.below hb).add (x := .rd AO 16 (in64 fun i => (zg 4 i : Nat))) hO
  clear hb hO hfr
  obtain ⟨bO, oO, rfl, _, _⟩ := Rd.some_ K.1 (by omega)
  have HL2 := Lib.hid (Below.size K.2.2.1)
  have HOF := Lib.hid (K.offS (b := w2.heap.size) (Nat.le_refl _))
  have HK := Lib.hid (K.make w2.heap.size (.int .i64 0) 16 3 rfl)
  clear K
  go_wp2_with fail
  go_loopw [5] (fun i wr => ∃ k : Nat, k ≤ 16 ∧ i = .int .i64 k ∧ Kn wr [.row w2.heap.size 16 (in64 fun j => if zi 4 j < k then g (zi 4 j) else 0), .rd (some ⟨bO, oO, none⟩) 16 (in64 fun i => (zg 4 i : Nat)), .rd A 16 (in64 g), .since w]) (fun i _ => 16 - (intOf i).toNat)
  case atStart => exact ⟨0, by omega, rfl, HK.out.row (fun i hi => by simp [in64])⟩
  case round =>
    obtain ⟨k, hk, rfl, K⟩ := hrel
    clear HK
    by_cases hlt : k < 16
    · obtain ⟨bA, oA, rfl, _, hcA⟩ := Rd.some_ K.2.2.1 (by omega)
      have hz := zg4_lt k hlt
      have c1 := Rd.at_ K.2.1 hlt
      have c2 := hcA k hlt
      have hzi := zi4_zg k hlt
      have HI2 := Lib.hid (fun j (hj : j < 16) (h : zi 4 j = k) => show j = zg 4 k by rw [← h]; exact (zg4_zi j hj).symm)
      simp only [in64] at c1 c2
      have HZI := Lib.hid hzi
      clear hzi
      generalize hgz : zg 4 k = z at *
      have HGZ := Lib.hid hgz
      clear hgz
      have ke := Row.cell K.1 hz
      have kf := Row.frozen K.1 z
      have zz : (z : Int) < 16 := by omega
      have HK := Lib.hid K
      clear K hcA
      go_wp2
      have KD := HK.out.drew
      clear ke kf c1 c2
      refine wp_region_allH (fun w' => Kn w' [.rd (some ⟨bO, oO, none⟩) 16 (in64 fun i => (zg 4 i : Nat)), .rd (some ⟨bA, oA, none⟩) 16 (in64 g)]) [10] [(0,1),(1,1),(2,1),(3,1),(4,1),(5,1),(6,1),(7,1),(8,1),(9,1),(10,2)] (by kernel_rfl) (by kernel_rfl) (fun _ _ d _ _ h => by cases d <;> exact h) (⟨KD.2.1, KD.2.2.1, trivial⟩) ?_
      generalize wr.drew = wd at KD ⊢
      repeat (first | (refine oH_freeG rfl rfl (fun w' hS => by have c1 := Rd.at_ hS.1 hlt; have c2 := Rd.at_ hS.2.1 hlt; simp only [in64, HGZ.out] at c1 c2; clear hS; go_simp; with_reducible rfl) ?_; go_simp) | (refine oH_skipG rfl rfl ?_; go_simp))
      have ke := Row.cell KD.1 hz
      have kf := Row.frozen KD.1 z
      refine oH_doG rfl rfl (fun KK hKK => ?_)
      go_simp
      have K2 := Kn.setRowS KD z (.int .i64 (g k)) HOF.out
      refine hKK _ _ ⟨⟨K2.2.1, K2.2.2.1, trivial⟩, ?_⟩
      clear hKK KK ke kf KD
      refine oH_nil ?_
      have HK2 := Lib.hid K2
      clear K2 HK
      go_wp2
      go_roundw
      case rel =>
        refine ⟨k + 1, by omega, by go_num, HK2.out.row fun i hi => ?_⟩
        simp only [in64]
        by_cases e1 : i = z
        · subst e1; simp [HZI.out]
        · by_cases e2 : zi 4 i < k
          · simp [e1, e2, show zi 4 i < k + 1 by omega]
          · have : zi 4 i ≠ k := fun h => e1 (HI2.out i hi h)
            simp [e1, e2, show ¬ zi 4 i < k + 1 by omega]
      case measure => simp [intOf]; omega
    · obtain rfl : k = 16 := by omega
      have L : Below _ _ _ := K.2.2.2.1
      have HR := Lib.hid ((Row.rd K.1).congr (g := in64 (fun j => g (zi 4 j))) (fun i hi => by simp only [in64]; rw [if_pos (zi4_lt i hi)]))
      clear K
      go_wp2
      go_ret
      exact ⟨_, _, rfl, HR.out, by omega, by omega, fun k o e => (by injection e with e; injection e with e1 e2; have := HL2.out; omega), L⟩
set_option maxRecDepth 100000 in
set_option maxHeartbeats 4000000 in
theorem rsort_4 (A : Option Addr) (c : Nat) (g : Nat → Int) (w : World) (hA : Rd w A 16 (in64 g)) : Calls Try.prog 65 #[.slice A 16 c] w (GivesI 16 (fun i => g (zg 4 i)) w) := by
  obtain ⟨i0, hi0, hz0, hz1, hz2⟩ := parts_i64
  have HI := Lib.hid hi0
  clear hi0
  have K := (Kn.start w).add (x := .rd A 16 (in64 g)) hA
  have hs16 : sideN 16 = 4 := rfl
  clear hA
  go_enter Try.func65, Try.ntmps65
  go_wp2_with fail
  refine (rside_any 16 _).mono ?_
  rintro e w' ⟨rfl, rfl⟩
  rw [hs16]
  go_wp2_with fail
  refine (rorder_4 _).mono ?_
  rintro e w2 ⟨AO, cO, rfl, hO, _, _, hfr, hb⟩
  have K := (K.below hb).add (x := .rd AO 16 (in64 fun i => (zg 4 i : Nat))) hO
  clear hb hO hfr
  obtain ⟨bO, oO, rfl, _, _⟩ := Rd.some_ K.1 (by omega)
  have HL2 : Hid (Below w.heap.size w w2) := Lib.hid K.2.2.1
  have K : Kn w2 [.rd (some ⟨bO, oO, none⟩) 16 (in64 fun i => (zg 4 i : Nat)), .rd A 16 (in64 g), .since w2] := ⟨K.1, K.2.1, Below.refl _ _, trivial⟩
  have HOF := Lib.hid (fun b (hb : w2.heap.size ≤ b) => K.offS (b := b) hb)
  have HK := Lib.hid (K.add (x := .own w2.heap.size 3 none 0 0 (in64 fun i => g (zg 4 i))) (OwnS.nil _ _ _ _))
  clear K
  go_wp2_with fail
  go_loopw [4, 5] (fun v i wr => ∃ (k : Nat) (A5 : Option Addr) (c5 : Nat), k ≤ 16 ∧ i = .int .i64 k ∧ v = .slice A5 k c5 ∧ Kn wr [.own w2.heap.size 3 A5 k c5 (in64 fun i => g (zg 4 i)), .rd (some ⟨bO, oO, none⟩) 16 (in64 fun i => (zg 4 i : Nat)), .rd A 16 (in64 g), .since w2]) (fun _ i _ => 16 - (intOf i).toNat)
  case atStart => exact ⟨0, none, 0, by omega, rfl, rfl, HK.out⟩
  case round =>
    obtain ⟨k, A5, c5, hk, rfl, rfl, K⟩ := hrel
    clear HK
    by_cases hlt : k < 16
    · obtain ⟨bA, oA, rfl, _, hcA⟩ := Rd.some_ K.2.2.1 (by omega)
      have hz := zg4_lt k hlt
      have c1 := Rd.at_ K.2.1 hlt
      have c2 := hcA _ hz
      simp only [in64] at c1 c2
      generalize hgz : zg 4 k = z at *
      have HGZ := Lib.hid hgz
      clear hgz
      have zz : (z : Int) < 16 := by omega
      have hsz : w2.heap.size ≤ wr.heap.size := Below.size K.2.2.2.1
      have HK := Lib.hid K
      clear K hcA
      go_wp2_with (at_builtin; refine wpList_app1 rfl (.tmp 16) (.tmp 24) rfl Try.underlying57 HI.out hz0 hz1 hz2 rfl rfl rfl (OwnS.alloc HK.out.1 _) (Box.new wr _ _) rfl ?_ ?_ ?_ ?_; rotate_right; intro A4 c4 w4 bo hO4 hbo ho4)
      rotate_left
      · unfold maxLen; omega
      · omega
      · simp; omega
      have HK4 := Lib.hid ((Kn.othS (HK.out.2.alloc _) ho4 (HOF.out _ hbo)).add (x := .own w2.heap.size 3 A4 (k + 1) c4 (in64 fun i => g (zg 4 i))) (hO4.congr fun j hj => by
        by_cases e : j < k
        · simp [e]
        · obtain rfl : j = k := by omega
          simp [in64, HGZ.out]))
      clear hO4 ho4 HK
      go_wp2
      go_roundw
      case rel => exact ⟨k + 1, A4, c4, by omega, by go_num, rfl, HK4.out⟩
      case measure => simp [intOf]; omega
    · obtain rfl : k = 16 := by omega
      have HK := Lib.hid K
      clear K
      go_wp2
      go_ret
      refine ⟨_, _, rfl, HK.out.1.rd, HK.out.1.cap.1, HK.out.1.cap.2, fun k o e => ?_, Below.trans HL2.out (HK.out.2.2.2.1.mono HL2.out.size)⟩
      have := OwnS.lt HK.out.1 e
      have := HL2.out.size
      omega
end Go.Proofs.Ytmnoddmecghjdaa
/- Layer 7: Order, Sort, Unsort of a block of side 8, of the code and of the document. -/

namespace Go.Proofs.Ytmnoddmecghjdaa
open Go.RowKit Go.Kin
set_option linter.unusedVariables false
set_option maxRecDepth 100000 in
set_option maxHeartbeats 4000000 in
theorem order_8 (w : World) : Calls Try.prog 87 #[.int .i64 8] w (GivesI 64 (fun i => (zg 8 i : Nat)) w) := by
  obtain ⟨i0, hi0, hz0, hz1, hz2⟩ := parts_i64
  have HI := Lib.hid hi0
  clear hi0
  have hmk : ∀ w, (Instr.makeSlice 57 (.int .i64 0) (.int .i64 64)).run Try.prog w = .ok (.slice (some ⟨w.heap.size, 0, none⟩) 0 64) (w.alloc (.cells (mkR 64 (in64 fun _ => 0)) 3)) := fun _ => by kernel_rfl
  have HO0 : Hid (OwnS (w.alloc (.cells (mkR 64 (in64 fun _ => 0)) 3)) w.heap.size 3 (some ⟨w.heap.size, 0, none⟩) 0 64 (in64 fun i => ((zpre 8 0 0).getD i 0 : Nat))) := Lib.hid ⟨by simp, .inr ⟨w.heap.size, 64, mkR 64 (in64 fun _ => 0), rfl, Nat.le_refl _, heap_alloc_new w _, by omega, by unfold maxLen; omega, by rw [mkR_size], by simp⟩⟩
  have HK := Lib.hid (((Kn.start w).alloc (.cells (mkR 64 (in64 fun _ => 0)) 3)).add (x := .own w.heap.size 3 (some ⟨w.heap.size, 0, none⟩) 0 64 (in64 fun i => ((zpre 8 0 0).getD i 0 : Nat))) HO0.out)
  go_enter Try.func87, Try.ntmps87
  go_wp2_with fail
  go_loopw [3, 20] (fun v s wr => ∃ (q : Nat) (A : Option Addr) (c : Nat), q ≤ 2 * 8 - 1 ∧ s = .int .i64 q ∧ v = .slice A (zpre 8 q 0).length c ∧ Kn wr [.own w.heap.size 3 A (zpre 8 q 0).length c (in64 fun i => ((zpre 8 q 0).getD i 0 : Nat)), .since w]) (fun _ s _ => (2 * 8 - 1 - intOf s).toNat)
  case atStart => exact ⟨0, _, _, by omega, rfl, rfl, HK.out⟩
  case round =>
    obtain ⟨q, A, c, hq, rfl, rfl, K⟩ := hrel
    clear HK HO0
    obtain ⟨wo, rfl⟩ : ∃ wo : World, wo = wr := ⟨_, rfl⟩
    have HK := Lib.hid K
    clear K
    by_cases hlt : q < 2 * 8 - 1
    · have l1 : (q : Int) ≤ 14 := by omega
      have l2 : (q : Int) < 15 := by omega
      go_wp2_with fail
      go_loopw [3, 24] (fun v y wr => ∃ (p : Nat) (A : Option Addr) (c : Nat), p ≤ 8 ∧ y = .int .i64 p ∧ v = .slice A (zpre 8 q p).length c ∧ Kn wr [.own w.heap.size 3 A (zpre 8 q p).length c (in64 fun i => ((zpre 8 q p).getD i 0 : Nat)), .since w]) (fun _ y _ => (8 - intOf y).toNat)
      case atStart => exact ⟨0, _, _, by omega, rfl, rfl, HK.out⟩
      case round =>
        obtain ⟨p, A, c, hp, rfl, rfl, K⟩ := hrel
        clear HK
        have HK := Lib.hid K
        clear K
        by_cases hlp : p < 8
        · have hl := zpre_len 8 q p
          by_cases h1 : p ≤ q
          · by_cases h2 : q < p + 8
            · have HE := Lib.hid (zpre_yes (n := 8) (s := q) (y := p) ⟨h1, h2⟩)
              have HV := Lib.hid (show (((p * 8 + (q - p) : Nat)) : Int) = (p : Int) * 8 + ((q : Int) - p) by omega)
              generalize hZ : zpre 8 q p = Z at *
              clear hZ
              have k1 : (0 : Int) ≤ (q : Int) - p := by omega
              have k2 : (q : Int) - p < 8 := by omega
              have hsz : w.heap.size ≤ wr.heap.size := Below.size HK.out.2.1
              have HSW := Lib.hid (fun b (hb : w.heap.size ≤ b) => (Kn.start w).offS (b := b) hb)
              go_wp2_with (at_builtin; refine wpList_app1 rfl (.tmp 37) (.tmp 43) rfl Try.underlying57 HI.out hz0 hz1 hz2 rfl rfl rfl (OwnS.alloc HK.out.1 _) (Box.new wr _ _) rfl ?_ ?_ ?_ ?_; rotate_right; intro A4 c4 w4 bo hO4 hbo ho4)
              rotate_left
              · unfold maxLen; omega
              · omega
              · simp; omega
              have HK4 := Lib.hid ((Kn.othS (HK.out.2.alloc _) ho4 ⟨hbo, trivial⟩).add (x := .own w.heap.size 3 A4 (Z.length + 1) c4 (in64 fun i => ((Z ++ [p * 8 + (q - p)]).getD i 0 : Nat))) (hO4.congr fun j hj => by
                by_cases e : j < Z.length
                · simp [in64, e, List.getElem?_append_left e]
                · obtain rfl : j = Z.length := by omega
                  simp only [in64, if_neg e]
                  rw [← HV.out]
                  simp))
              clear hO4 ho4 HK
              go_wp2
              go_roundw
              case rel => exact ⟨p + 1, A4, c4, by omega, by go_num, by rw [HE.out, List.length_append]; rfl, by rw [HE.out, List.length_append]; exact HK4.out⟩
              case measure => simp [intOf]; omega
            · have HE := Lib.hid (zpre_no (n := 8) (s := q) (y := p) (by omega))
              have k1 : (0 : Int) ≤ (q : Int) - p := by omega
              have k2 : ¬ (q : Int) - p < 8 := by omega
              go_wp2
              go_roundw
              case rel => exact ⟨p + 1, A, c, by omega, by go_num, by rw [HE.out], by rw [HE.out]; exact HK.out⟩
              case measure => simp [intOf]; omega
          · have HE := Lib.hid (zpre_no (n := 8) (s := q) (y := p) (by omega))
            have k1 : ¬ (0 : Int) ≤ (q : Int) - p := by omega
            go_wp2
            go_roundw
            case rel => exact ⟨p + 1, A, c, by omega, by go_num, by rw [HE.out], by rw [HE.out]; exact HK.out⟩
            case measure => simp [intOf]; omega
        · obtain rfl : p = 8 := by omega
          go_wp2
          go_roundw
          case rel => exact ⟨q + 1, A, c, by omega, by go_num, by rw [zpre_up], by rw [zpre_up]; exact HK.out⟩
          case measure => simp [intOf]; omega
    · obtain rfl : q = 2 * 8 - 1 := by omega
      have l1 : ¬ (((2 * 8 - 1 : Nat)) : Int) ≤ 2 * 8 - 2 := by omega
      have hl : (zpre 8 (2 * 8 - 1) 0).length = 64 := zlen8
      rw [hl] at HK ⊢
      clear hl
      go_wp2
      go_ret
      exact ⟨_, _, rfl, HK.out.1.rd, HK.out.1.cap.1, HK.out.1.cap.2, fun k o e => (OwnS.lt HK.out.1 e).1, HK.out.2.1⟩
set_option maxRecDepth 100000 in
set_option maxHeartbeats 4000000 in
theorem rorder_8 (w : World) : Calls Try.prog 88 #[.int .i64 8] w (GivesI 64 (fun i => (zg 8 i : Nat)) w) := by
  obtain ⟨i0, hi0, hz0, hz1, hz2⟩ := parts_i64
  have HI := Lib.hid hi0
  clear hi0
  have HK := Lib.hid ((Kn.start w).add (x := .own w.heap.size 3 none 0 0 (in64 fun i => ((zpre 8 0 0).getD i 0 : Nat))) (OwnS.nil _ _ _ _))
  go_enter Try.func88, Try.ntmps88
  go_wp2_with fail
  go_loopw [3, 4] (fun v s wr => ∃ (q : Nat) (A : Option Addr) (c : Nat), q ≤ 2 * 8 - 1 ∧ s = .int .i64 q ∧ v = .slice A (zpre 8 q 0).length c ∧ Kn wr [.own w.heap.size 3 A (zpre 8 q 0).length c (in64 fun i => ((zpre 8 q 0).getD i 0 : Nat)), .since w]) (fun _ s _ => (2 * 8 - 1 - intOf s).toNat)
  case atStart => exact ⟨0, _, _, by omega, rfl, rfl, HK.out⟩
  case round =>
    obtain ⟨q, A, c, hq, rfl, rfl, K⟩ := hrel
    clear HK
    obtain ⟨wo, rfl⟩ : ∃ wo : World, wo = wr := ⟨_, rfl⟩
    have HK := Lib.hid K
    clear K
    by_cases hlt : q < 2 * 8 - 1
    · have l1 : (q : Int) ≤ 14 := by omega
      have l2 : (q : Int) < 15 := by omega
      go_wp2_with fail
      go_loopw [3, 5] (fun v y wr => ∃ (p : Nat) (A : Option Addr) (c : Nat), p ≤ 8 ∧ y = .int .i64 p ∧ v = .slice A (zpre 8 q p).length c ∧ Kn wr [.own w.heap.size 3 A (zpre 8 q p).length c (in64 fun i => ((zpre 8 q p).getD i 0 : Nat)), .since w]) (fun _ y _ => (8 - intOf y).toNat)
      case atStart => exact ⟨0, _, _, by omega, rfl, rfl, HK.out⟩
      case round =>
        obtain ⟨p, A, c, hp, rfl, rfl, K⟩ := hrel
        clear HK
        have HK := Lib.hid K
        clear K
        by_cases hlp : p < 8
        · have hl := zpre_len 8 q p
          by_cases h1 : p ≤ q
          · by_cases h2 : q < p + 8
            · have HE := Lib.hid (zpre_yes (n := 8) (s := q) (y := p) ⟨h1, h2⟩)
              have HV := Lib.hid (show (((p * 8 + (q - p) : Nat)) : Int) = (p : Int) * 8 + ((q : Int) - p) by omega)
              generalize hZ : zpre 8 q p = Z at *
              clear hZ
              have k1 : (0 : Int) ≤ (q : Int) - p := by omega
              have k2 : (q : Int) - p < 8 := by omega
              have hsz : w.heap.size ≤ wr.heap.size := Below.size HK.out.2.1
              have HSW := Lib.hid (fun b (hb : w.heap.size ≤ b) => (Kn.start w).offS (b := b) hb)
              go_wp2_with (at_builtin; refine wpList_app1 rfl (.tmp 37) (.tmp 43) rfl Try.underlying57 HI.out hz0 hz1 hz2 rfl rfl rfl (OwnS.alloc HK.out.1 _) (Box.new wr _ _) rfl ?_ ?_ ?_ ?_; rotate_right; intro A4 c4 w4 bo hO4 hbo ho4)
              rotate_left
              · unfold maxLen; omega
              · omega
              · simp; omega
              have HK4 := Lib.hid ((Kn.othS (HK.out.2.alloc _) ho4 ⟨hbo, trivial⟩).add (x := .own w.heap.size 3 A4 (Z.length + 1) c4 (in64 fun i => ((Z ++ [p * 8 + (q - p)]).getD i 0 : Nat))) (hO4.congr fun j hj => by
                by_cases e : j < Z.length
                · simp [in64, e, List.getElem?_append_left e]
                · obtain rfl : j = Z.length := by omega
                  simp only [in64, if_neg e]
                  rw [← HV.out]
                  simp))
              clear hO4 ho4 HK
              go_wp2
              go_roundw
              case rel => exact ⟨p + 1, A4, c4, by omega, by go_num, by rw [HE.out, List.length_append]; rfl, by rw [HE.out, List.length_append]; exact HK4.out⟩
              case measure => simp [intOf]; omega
            · have HE := Lib.hid (zpre_no (n := 8) (s := q) (y := p) (by omega))
              have k1 : (0 : Int) ≤ (q : Int) - p := by omega
              have k2 : ¬ (q : Int) - p < 8 := by omega
              go_wp2
              go_roundw
              case rel => exact ⟨p + 1, A, c, by omega, by go_num, by rw [HE.out], by rw [HE.out]; exact HK.out⟩
              case measure => simp [intOf]; omega
          · have HE := Lib.hid (zpre_no (n := 8) (s := q) (y := p) (by omega))
            have k1 : ¬ (0 : Int) ≤ (q : Int) - p := by omega
            go_wp2
            go_roundw
            case rel => exact ⟨p + 1, A, c, by omega, by go_num, by rw [HE.out], by rw [HE.out]; exact HK.out⟩
            case measure => simp [intOf]; omega
        · obtain rfl : p = 8 := by omega
          go_wp2
          go_roundw
          case rel => exact ⟨q + 1, A, c, by omega, by go_num, by rw [zpre_up], by rw [zpre_up]; exact HK.out⟩
          case measure => simp [intOf]; omega
    · obtain rfl : q = 2 * 8 - 1 := by omega
      have l1 : ¬ (((2 * 8 - 1 : Nat)) : Int) ≤ 2 * 8 - 2 := by omega
      have hl : (zpre 8 (2 * 8 - 1) 0).length = 64 := zlen8
      rw [hl] at HK ⊢
      clear hl
      go_wp2
      go_ret
      exact ⟨_, _, rfl, HK.out.1.rd, HK.out.1.cap.1, HK.out.1.cap.2, fun k o e => (OwnS.lt HK.out.1 e).1, HK.out.2.1⟩
set_option maxRecDepth 100000 in
set_option maxHeartbeats 4000000 in
theorem sort_8 (A : Option Addr) (c : Nat) (g : Nat → Int) (w : World) (hA : Rd w A 64 (in64 g)) : Calls Try.prog 63 #[.slice A 64 c] w (GivesI 64 (fun i => g (zg 8 i)) w) := by
  have hmk : ∀ w, (Instr.makeSlice 57 (.int .i64 64) (.int .i64 64)).run Try.prog w = .ok (.slice (some ⟨w.heap.size, 0, none⟩) 64 64) (w.alloc (.cells (madeCells #[.int .i64 0] 64) 3)) := make_i64 64 (by omega)
  have K := (Kn.start w).add (x := .rd A 64 (in64 g)) hA
  have hs16 : sideN 64 = 8 := rfl
  clear hA
  go_enter Try.func63, Try.ntmps63
  go_wp2_with fail
  refine (lside_any 64 _).mono ?_
  rintro e w' ⟨rfl, rfl⟩
  rw [hs16]
  have OFA := K.offS (b := w.heap.size) (Nat.le_refl _)
  have K := K.make w.heap.size (.int .i64 0) 64 3 rfl
  go_wp2_with fail
  refine (order_8 _).mono ?_
  rintro e w2 ⟨AO, cO, rfl, hO, _, _, hfr, hb⟩
  have K := ((K.below hb).add (x := .rd AO 64 (in64 fun i => (zg 8 i : Nat))) hO)
  clear hb hO
  obtain ⟨bO, oO, rfl, _, _⟩ := Rd.some_ K.1 (by omega)
  have hfo := hfr _ _ rfl
  have HOF : Hid (OffsS w.heap.size [.rd (some ⟨bO, oO, none⟩) 64 (in64 fun i => (zg 8 i : Nat)), .rd A 64 (in64 g), .since w]) := Lib.hid ⟨.inr fun k o e => (by injection e with e; injection e with e1 e2; simp at hfo; omega), OFA.1, OFA.2.1, trivial⟩
  have HK := Lib.hid K.swap
  clear K OFA hfr hfo
  go_wp2_with fail
  go_loopw [18] (fun i wr => ∃ k : Nat, k ≤ 64 ∧ i = .int .i64 k ∧ Kn wr [.row w.heap.size 64 (in64 fun i => if i < k then g (zg 8 i) else 0), .rd (some ⟨bO, oO, none⟩) 64 (in64 fun i => (zg 8 i : Nat)), .rd A 64 (in64 g), .since w]) (fun i _ => 64 - (intOf i).toNat)
  case atStart => exact ⟨0, by omega, rfl, HK.out.row (fun i hi => by simp [in64])⟩
  case round =>
    obtain ⟨k, hk, rfl, K⟩ := hrel
    clear HK
    by_cases hlt : k < 64
    · obtain ⟨bA, oA, rfl, _, hcA⟩ := Rd.some_ K.2.2.1 (by omega)
      have hz := zg8_lt k hlt
      have c1 := Rd.at_ K.2.1 hlt
      have c2 := hcA _ hz
      have hzi := zi8_zg k hlt
      have HI2 := Lib.hid (fun j (hj : j < 64) (h : zi 8 j = k) => show j = zg 8 k by rw [← h]; exact (zg8_zi j hj).symm)
      simp only [in64] at c1 c2
      have HZI := Lib.hid hzi
      clear hzi
      generalize hgz : zg 8 k = z at *
      have HGZ := Lib.hid hgz
      clear hgz
      have ke := Row.cell K.1 hlt
      have kf := Row.frozen K.1 k
      have zz : (z : Int) < 64 := by omega
      have HK := Lib.hid K
      clear K hcA
      go_wp2
      go_roundw
      case rel =>
        refine ⟨k + 1, by omega, by go_num, (Kn.setRowS HK.out k (.int .i64 (g z)) HOF.out).row fun i hi => ?_⟩
        simp only [in64]
        by_cases e1 : i = k
        · subst e1; simp [HGZ.out]
        · by_cases e2 : i < k
          · simp [e1, e2, show i < k + 1 by omega]
          · simp [e1, e2, show ¬ i < k + 1 by omega]
      case measure => simp [intOf]; omega
    · obtain rfl : k = 64 := by omega
      have L : Below _ _ _ := K.2.2.2.1
      have HR := Lib.hid ((Row.rd K.1).congr (g := in64 (fun i => g (zg 8 i))) (fun i hi => by simp only [in64]; rw [if_pos hi]))
      clear K
      go_wp2
      go_ret
      exact ⟨_, _, rfl, HR.out, by omega, by omega, fun k o e => (by injection e with e; injection e with e1 e2; omega), L⟩
set_option maxRecDepth 100000 in
set_option maxHeartbeats 4000000 in
theorem unsort_8 (A : Option Addr) (c : Nat) (g : Nat → Int) (w : World) (hA : Rd w A 64 (in64 g)) : Calls Try.prog 67 #[.slice A 64 c] w (GivesI 64 (fun j => g (zi 8 j)) w) := by
  have hmk : ∀ w, (Instr.makeSlice 57 (.int .i64 64) (.int .i64 64)).run Try.prog w = .ok (.slice (some ⟨w.heap.size, 0, none⟩) 64 64) (w.alloc (.cells (madeCells #[.int .i64 0] 64) 3)) := make_i64 64 (by omega)
  have K := (Kn.start w).add (x := .rd A 64 (in64 g)) hA
  have hs16 : sideN 64 = 8 := rfl
  clear hA
  go_enter Try.func67, Try.ntmps67
  go_wp2_with fail
  refine (lside_any 64 _).mono ?_
  rintro e w' ⟨rfl, rfl⟩
  rw [hs16]
  have OFA := K.offS (b := w.heap.size) (Nat.le_refl _)
  have K := K.make w.heap.size (.int .i64 0) 64 3 rfl
  go_wp2_with fail
  refine (order_8 _).mono ?_
  rintro e w2 ⟨AO, cO, rfl, hO, _, _, hfr, hb⟩
  have K := ((K.below hb).add (x := .rd AO 64 (in64 fun i => (zg 8 i : Nat))) hO)
  clear hb hO
  obtain ⟨bO, oO, rfl, _, _⟩ := Rd.some_ K.1 (by omega)
  have hfo := hfr _ _ rfl
  have HOF : Hid (OffsS w.heap.size [.rd (some ⟨bO, oO, none⟩) 64 (in64 fun i => (zg 8 i : Nat)), .rd A 64 (in64 g), .since w]) := Lib.hid ⟨.inr fun k o e => (by injection e with e; injection e with e1 e2; simp at hfo; omega), OFA.1, OFA.2.1, trivial⟩
  have HK := Lib.hid K.swap
  clear K OFA hfr hfo
  go_wp2_with fail
  go_loopw [18] (fun i wr => ∃ k : Nat, k ≤ 64 ∧ i = .int .i64 k ∧ Kn wr [.row w.heap.size 64 (in64 fun j => if zi 8 j < k then g (zi 8 j) else 0), .rd (some ⟨bO, oO, none⟩) 64 (in64 fun i => (zg 8 i : Nat)), .rd A 64 (in64 g), .since w]) (fun i _ => 64 - (intOf i).toNat)
  case atStart => exact ⟨0, by omega, rfl, HK.out.row (fun i hi => by simp [in64])⟩
  case round =>
    obtain ⟨k, hk, rfl, K⟩ := hrel
    clear HK
    by_cases hlt : k < 64
    · obtain ⟨bA, oA, rfl, _, hcA⟩ := Rd.some_ K.2.2.1 (by omega)
      have hz := zg8_lt k hlt
      have c1 := Rd.at_ K.2.1 hlt
      have c2 := hcA k hlt
      have hzi := zi8_zg k hlt
      have HI2 := Lib.hid (fun j (hj : j < 64) (h : zi 8 j = k) => show j = zg 8 k by rw [← h]; exact (zg8_zi j hj).symm)
      simp only [in64] at c1 c2
      have HZI := Lib.hid hzi
      clear hzi
      generalize hgz : zg 8 k = z at *
      have HGZ := Lib.hid hgz
      clear hgz
      have ke := Row.cell K.1 hz
      have kf := Row.frozen K.1 z
      have zz : (z : Int) < 64 := by omega
      have HK := Lib.hid K
      clear K hcA
      go_wp2
      go_roundw
      case rel =>
        refine ⟨k + 1, by omega, by go_num, (Kn.setRowS HK.out z (.int .i64 (g k)) HOF.out).row fun i hi => ?_⟩
        simp only [in64]
        by_cases e1 : i = z
        · subst e1; simp [HZI.out]
        · by_cases e2 : zi 8 i < k
          · simp [e1, e2, show zi 8 i < k + 1 by omega]
          · have : zi 8 i ≠ k := fun h => e1 (HI2.out i hi h)
            simp [e1, e2, show ¬ zi 8 i < k + 1 by omega]
      case measure => simp [intOf]; omega
    · obtain rfl : k = 64 := by omega
      have L : Below _ _ _ := K.2.2.2.1
      have HR := Lib.hid ((Row.rd K.1).congr (g := in64 (fun j => g (zi 8 j))) (fun i hi => by simp only [in64]; rw [if_pos (zi8_lt i hi)]))
      clear K
      go_wp2
      go_ret
      exact ⟨_, _, rfl, HR.out, by omega, by omega, fun k o e => (by injection e with e; injection e with e1 e2; omega), L⟩
set_option maxRecDepth 100000 in
set_option maxHeartbeats 4000000 in
theorem runsort_8 (A : Option Addr) (c : Nat) (g : Nat → Int) (w : World) (hA : Rd w A 64 (in64 g)) : Calls Try.prog 68 #[.slice A 64 c] w (GivesI 64 (fun j => g (zi 8 j)) w) := by
  have hmk : ∀ w, (Instr.makeSlice 57 (.int .i64 64) (.int .i64 64)).run Try.prog w = .ok (.slice (some ⟨w.heap.size, 0, none⟩) 64 64) (w.alloc (.cells (madeCells #[.int .i64 0] 64) 3)) := make_i64 64 (by omega)
  have K := (Kn.start w).add (x := .rd A 64 (in64 g)) hA
  have hs16 : sideN 64 = 8 := rfl
  clear hA
  go_enter Try.func68, Try.ntmps68
  go_wp2_with fail
  refine (rside_any 64 _).mono ?_
  rintro e w' ⟨rfl, rfl⟩
  rw [hs16]
  go_wp2_with fail
  refine (rorder_8 _).mono ?_
  rintro e w2 ⟨AO, cO, rfl, hO, _, _, hfr, hb⟩
  have K := (K.below hb).add (x := .rd AO 64 (in64 fun i => (zg 8 i : Nat))) hO
  clear hb hO hfr
  obtain ⟨bO, oO, rfl, _, _⟩ := Rd.some_ K.1 (by omega)
  have HL2 := Lib.hid (Below.size K.2.2.1)
  have HOF := Lib.hid (K.offS (b := w2.heap.size) (Nat.le_refl _))
  have HK := Lib.hid (K.make w2.heap.size (.int .i64 0) 64 3 rfl)
  clear K
  go_wp2_with fail
  go_loopw [5] (fun i wr => ∃ k : Nat, k ≤ 64 ∧ i = .int .i64 k ∧ Kn wr [.row w2.heap.size 64 (in64 fun j => if zi 8 j < k then g (zi 8 j) else 0), .rd (some ⟨bO, oO, none⟩) 64 (in64 fun i => (zg 8 i : Nat)), .rd A 64 (in64 g), .since w]) (fun i _ => 64 - (intOf i).toNat)
  case atStart => exact ⟨0, by omega, rfl, HK.out.row (fun i hi => by simp [in64])⟩
  case round =>
    obtain ⟨k, hk, rfl, K⟩ := hrel
    clear HK
    by_cases hlt : k < 64
    · obtain ⟨bA, oA, rfl, _, hcA⟩ := Rd.some_ K.2.2.1 (by omega)
      have hz := zg8_lt k hlt
      have c1 := Rd.at_ K.2.1 hlt
      have c2 := hcA k hlt
      have hzi := zi8_zg k hlt
      have HI2 := Lib.hid (fun j (hj : j < 64) (h : zi 8 j = k) => show j = zg 8 k by rw [← h]; exact (zg8_zi j hj).symm)
      simp only [in64] at c1 c2
      have HZI := Lib.hid hzi
      clear hzi
      generalize hgz : zg 8 k = z at *
      have HGZ := Lib.hid hgz
      clear hgz
      have ke := Row.cell K.1 hz
      have kf := Row.frozen K.1 z
      have zz : (z : Int) < 64 := by omega
      have HK := Lib.hid K
      clear K hcA
      go_wp2
      have KD := HK.out.drew
      clear ke kf c1 c2
      refine wp_region_allH (fun w' => Kn w' [.rd (some ⟨bO, oO, none⟩) 64 (in64 fun i => (zg 8 i : Nat)), .rd (some ⟨bA, oA, none⟩) 64 (in64 g)]) [10] [(0,1),(1,1),(2,1),(3,1),(4,1),(5,1),(6,1),(7,1),(8,1),(9,1),(10,2)] (by kernel_rfl) (by kernel_rfl) (fun _ _ d _ _ h => by cases d <;> exact h) (⟨KD.2.1, KD.2.2.1, trivial⟩) ?_
      generalize wr.drew = wd at KD ⊢
      repeat (first | (refine oH_freeG rfl rfl (fun w' hS => by have c1 := Rd.at_ hS.1 hlt; have c2 := Rd.at_ hS.2.1 hlt; simp only [in64, HGZ.out] at c1 c2; clear hS; go_simp; with_reducible rfl) ?_; go_simp) | (refine oH_skipG rfl rfl ?_; go_simp))
      have ke := Row.cell KD.1 hz
      have kf := Row.frozen KD.1 z
      refine oH_doG rfl rfl (fun KK hKK => ?_)
      go_simp
      have K2 := Kn.setRowS KD z (.int .i64 (g k)) HOF.out
      refine hKK _ _ ⟨⟨K2.2.1, K2.2.2.1, trivial⟩, ?_⟩
      clear hKK KK ke kf KD
      refine oH_nil ?_
      have HK2 := Lib.hid K2
      clear K2 HK
      go_wp2
      go_roundw
      case rel =>
        refine ⟨k + 1, by omega, by go_num, HK2.out.row fun i hi => ?_⟩
        simp only [in64]
        by_cases e1 : i = z
        · subst e1; simp [HZI.out]
        · by_cases e2 : zi 8 i < k
          · simp [e1, e2, show zi 8 i < k + 1 by omega]
          · have : zi 8 i ≠ k := fun h => e1 (HI2.out i hi h)
            simp [e1, e2, show ¬ zi 8 i < k + 1 by omega]
      case measure => simp [intOf]; omega
    · obtain rfl : k = 64 := by omega
      have L : Below _ _ _ := K.2.2.2.1
      have HR := Lib.hid ((Row.rd K.1).congr (g := in64 (fun j => g (zi 8 j))) (fun i hi => by simp only [in64]; rw [if_pos (zi8_lt i hi)]))
      clear K
      go_wp2
      go_ret
      exact ⟨_, _, rfl, HR.out, by omega, by omega, fun k o e => (by injection e with e; injection e with e1 e2; have := HL2.out; omega), L⟩
set_option maxRecDepth 100000 in
set_option maxHeartbeats 4000000 in
theorem rsort_8 (A : Option Addr) (c : Nat) (g : Nat → Int) (w : World) (hA : Rd w A 64 (in64 g)) : Calls Try.prog 65 #[.slice A 64 c] w (GivesI 64 (fun i => g (zg 8 i)) w) := by
  obtain ⟨i0, hi0, hz0, hz1, hz2⟩ := parts_i64
  have HI := Lib.hid hi0
  clear hi0
  have K := (Kn.start w).add (x := .rd A 64 (in64 g)) hA
  have hs16 : sideN 64 = 8 := rfl
  clear hA
  go_enter Try.func65, Try.ntmps65
  go_wp2_with fail
  refine (rside_any 64 _).mono ?_
  rintro e w' ⟨rfl, rfl⟩
  rw [hs16]
  go_wp2_with fail
  refine (rorder_8 _).mono ?_
  rintro e w2 ⟨AO, cO, rfl, hO, _, _, hfr, hb⟩
  have K := (K.below hb).add (x := .rd AO 64 (in64 fun i => (zg 8 i : Nat))) hO
  clear hb hO hfr
  obtain ⟨bO, oO, rfl, _, _⟩ := Rd.some_ K.1 (by omega)
  have HL2 : Hid (Below w.heap.size w w2) := Lib.hid K.2.2.1
  have K : Kn w2 [.rd (some ⟨bO, oO, none⟩) 64 (in64 fun i => (zg 8 i : Nat)), .rd A 64 (in64 g), .since w2] := ⟨K.1, K.2.1, Below.refl _ _, trivial⟩
  have HOF := Lib.hid (fun b (hb : w2.heap.size ≤ b) => K.offS (b := b) hb)
  have HK := Lib.hid (K.add (x := .own w2.heap.size 3 none 0 0 (in64 fun i => g (zg 8 i))) (OwnS.nil _ _ _ _))
  clear K
  go_wp2_with fail
  go_loopw [4, 5] (fun v i wr => ∃ (k : Nat) (A5 : Option Addr) (c5 : Nat), k ≤ 64 ∧ i = .int .i64 k ∧ v = .slice A5 k c5 ∧ Kn wr [.own w2.heap.size 3 A5 k c5 (in64 fun i => g (zg 8 i)), .rd (some ⟨bO, oO, none⟩) 64 (in64 fun i => (zg 8 i : Nat)), .rd A 64 (in64 g), .since w2]) (fun _ i _ => 64 - (intOf i).toNat)
  case atStart => exact ⟨0, none, 0, by omega, rfl, rfl, HK.out⟩
  case round =>
    obtain ⟨k, A5, c5, hk, rfl, rfl, K⟩ := hrel
    clear HK
    by_cases hlt : k < 64
    · obtain ⟨bA, oA, rfl, _, hcA⟩ := Rd.some_ K.2.2.1 (by omega)
      have hz := zg8_lt k hlt
      have c1 := Rd.at_ K.2.1 hlt
      have c2 := hcA _ hz
      simp only [in64] at c1 c2
      generalize hgz : zg 8 k = z at *
      have HGZ := Lib.hid hgz
      clear hgz
      have zz : (z : Int) < 64 := by omega
      have hsz : w2.heap.size ≤ wr.heap.size := Below.size K.2.2.2.1
      have HK := Lib.hid K
      clear K hcA
      go_wp2_with (at_builtin; refine wpList_app1 rfl (.tmp 16) (.tmp 24) rfl Try.underlying57 HI.out hz0 hz1 hz2 rfl rfl rfl (OwnS.alloc HK.out.1 _) (Box.new wr _ _) rfl ?_ ?_ ?_ ?_; rotate_right; intro A4 c4 w4 bo hO4 hbo ho4)
      rotate_left
      · unfold maxLen; omega
      · omega
      · simp; omega
      have HK4 := Lib.hid ((Kn.othS (HK.out.2.alloc _) ho4 (HOF.out _ hbo)).add (x := .own w2.heap.size 3 A4 (k + 1) c4 (in64 fun i => g (zg 8 i))) (hO4.congr fun j hj => by
        by_cases e : j < k
        · simp [e]
        · obtain rfl : j = k := by omega
          simp [in64, HGZ.out]))
      clear hO4 ho4 HK
      go_wp2
      go_roundw
      case rel => exact ⟨k + 1, A4, c4, by omega, by go_num, rfl, HK4.out⟩
      case measure => simp [intOf]; omega
    · obtain rfl : k = 64 := by omega
      have HK := Lib.hid K
      clear K
      go_wp2
      go_ret
      refine ⟨_, _, rfl, HK.out.1.rd, HK.out.1.cap.1, HK.out.1.cap.2, fun k o e => ?_, Below.trans HL2.out (HK.out.2.2.2.1.mono HL2.out.size)⟩
      have := OwnS.lt HK.out.1 e
      have := HL2.out.size
      omega
end Go.Proofs.Ytmnoddmecghjdaa
