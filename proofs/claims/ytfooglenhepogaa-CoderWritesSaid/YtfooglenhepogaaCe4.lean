/- The document's coder: Get. -/
import Derived.Test.YtfooglenhepogaaCe3
namespace Go.Proofs.Ytfooglenhepogaa
open Go.RowKit Go.Kin
set_option linter.unusedVariables false
theorem rget_arg (p : Nat) (c : Int) (w : World) (h : chB c = false) : Calls Try.prog 27 #[.pointer (some ⟨p, 0, none⟩), .int .i64 c] w fun e w' => e = .returned (.tuple #[.int .i64 0, .int .i64 1]) ∧ w = w' := by
  go_enter Try.func27, Try.ntmps27
  go_wp2_with (go_at_call 45; refine (rright_any _ _).mono ?_; rintro e w' ⟨rfl, rfl⟩; rw [h])
  go_ret2
  exact ⟨rfl, rfl⟩
set_option maxRecDepth 100000 in
set_option maxHeartbeats 1000000 in
theorem rget_over (p I n c rest wide ch : Nat) (A : Option Addr) (w : World) (hB : Box w p #[.slice A n c, .int .i64 I, .int .i64 rest, .int .i64 wide]) (hch : chB ch = true) (h : wide ≤ rest) :
    Calls Try.prog 27 #[.pointer (some ⟨p, 0, none⟩), .int .i64 ch] w fun e w' => e = .returned (.tuple #[.int .i64 0, .int .i64 41]) ∧ Below w.heap.size w w' := by
  have kc := Box.cells hB
  have h' : (wide : Int) ≤ rest := by omega
  clear hB
  go_enter Try.func27, Try.ntmps27
  go_wp2_with (go_at_call 45; refine (rright_any _ _).mono ?_; rintro e w' ⟨rfl, rfl⟩; rw [hch])
  go_quiet (fail)
  go_wp2
  go_ret2
  exact ⟨rfl, below_drewN (Below.refl _ _) _⟩
/-- What Get gives, when the rest is less than the range. -/
def RGet (p I n c rest wide bd : Nat) (A : Option Addr) (g : Nat → Int) (w : World) (e : Ending) (w' : World) : Prop :=
      (gWide wide rest bd < 16777216 ∧ n ≤ I ∧ e = .returned (.tuple #[.int .i64 0, .int .i64 41]) ∧ Below w.heap.size w w') ∨
      (¬ gWide wide rest bd < 16777216 ∧ e = .returned (.tuple #[.int .i64 (gBit rest bd), .int .i64 0]) ∧ Oth p w w' ∧ Box w' p #[.slice A n c, .int .i64 I, .int .i64 (gRest rest bd), .int .i64 (gWide wide rest bd)]) ∨
      (gWide wide rest bd < 16777216 ∧ I < n ∧ e = .returned (.tuple #[.int .i64 (gBit rest bd), .int .i64 0]) ∧ Oth p w w' ∧ Box w' p #[.slice A n c, .int .i64 ((I + 1 : Nat) : Int), .int .i64 ((gRest rest bd * 256 + (g I).toNat : Nat) : Int), .int .i64 ((gWide wide rest bd * 256 : Nat) : Int)])
set_option maxRecDepth 100000 in
set_option maxHeartbeats 8000000 in
/-- Get of a chance, when the rest is less than the range. -/
theorem rget_go (p I n c rest wide bd ch : Nat) (A : Option Addr) (g : Nat → Int) (w : World) (hB : Box w p #[.slice A n c, .int .i64 I, .int .i64 rest, .int .i64 wide]) (hR : Rd w A n (by8 g)) (hg : Byt g) (h1 : 31 ≤ ch) (h2 : ch ≤ 2017) (q1 : 16777216 ≤ wide) (q2 : wide ≤ 4294967295) (h : rest < wide) (hbd : bd = wide / 2048 * ch) (hI : I ≤ n) (hn : n ≤ 1000000) :
    Calls Try.prog 27 #[.pointer (some ⟨p, 0, none⟩), .int .i64 ch] w fun e w' => RGet p I n c rest wide bd A g w e w' := by
  have hch : chB ch = true := by unfold chB; exact decide_eq_true ⟨by omega, by omega⟩
  obtain ⟨bd1, bd2⟩ := St.bd_bd (s := ⟨0, 0, wide⟩) ⟨q1, q2⟩ h1 h2
  have hbdv : (wide : Int) / 2048 * ch = bd := by
    have e : ((wide / 2048 : Nat) : Int) = (wide : Int) / 2048 := by omega
    rw [hbd, Int.natCast_mul, e]
  have e2 : (⟨0, 0, wide⟩ : St).bd ch = bd := by unfold St.bd; exact hbd.symm
  rw [e2] at bd1 bd2
  dsimp only at bd2
  clear e2 hbd
  have kc := Box.cells hB
  have zq : (wide : Int).tdiv 2048 = (wide : Int) / 2048 := Int.tdiv_eq_ediv_of_nonneg (by omega)
  have l0 : 0 ≤ (wide : Int) / 2048 := by omega
  have l1 : (wide : Int) / 2048 ≤ 2097152 := by omega
  have hlt : ¬ (wide : Int) ≤ rest := by omega
  have HB := Lib.hid hB
  have HR := Lib.hid hR
  have HG := Lib.hid hg
  have hpl := Box.lt hB
  clear hB hR hg
  go_enter Try.func27, Try.ntmps27
  go_wp2_with (go_at_call 45; refine (rright_any _ _).mono ?_; rintro e w' ⟨rfl, rfl⟩; rw [hch])
  go_quiet (fail)
  rename_i nq
  have K0 : Kn (w.drewN nq) [.since w] := ⟨below_drewN (Below.refl _ _) _, trivial⟩
  have K1 := K0.new w.heap.size #[.slice none 0 0, .int .i64 0, .int .i64 0, .int .i64 0] 76 rfl
  have OF := Lib.hid (K0.offS (b := w.heap.size) (Nat.le_refl _))
  have K := (((K1.setBoxS 0 (.slice A n c) OF.out).setBoxS 1 (.int .i64 I) OF.out).setBoxS 2 (.int .i64 rest) OF.out).setBoxS 3 (.int .i64 wide) OF.out
  have kc1 := Box.cells K1.1
  have kf1 := Box.frees K1.1
  clear K0 K1
  go_upto_region 7 with (fail)
  generalize World.setCell _ ⟨w.heap.size, 3, none⟩ (.int .i64 (wide : Int)) = w1 at K ⊢
  clear kc1 kf1 kc
  have kc := Box.cells K.1
  have kf := Box.frees K.1
  have HK := Lib.hid K
  clear K
  by_cases hr : rest < bd
  · have HGW := Lib.hid (show gWide wide rest bd = bd by unfold gWide; rw [if_pos hr])
    have HGR := Lib.hid (show gRest rest bd = rest by unfold gRest; rw [if_pos hr])
    have HGB := Lib.hid (show gBit rest bd = 0 by unfold gBit; rw [if_pos hr])
    have b1 : bd ≤ 4294967295 ∧ 253952 ≤ bd ∧ rest < bd := by omega
    have hr' : (rest : Int) < bd := by omega
    go_wp2_with fail
    have HK2 := Lib.hid (HK.out.setBoxS 3 (.int .i64 (bd : Int)) OF.out)
    clear HK kc kf
    have hdec : decide (wide ≤ rest) = false := by simp; omega
    try simp only [hdec]
    clear hdec
    go_loopw [] (fun wr => Kn wr [.box w.heap.size #[.slice A n c, .int .i64 I, .int .i64 (rest : Int), .int .i64 (bd : Int)], .since w] ∨ (bd < 16777216 ∧ I < n ∧ Kn wr [.box w.heap.size #[.slice A n c, .int .i64 ((I : Int) + 1), .int .i64 (256 * (rest : Int) + g I), .int .i64 (256 * (bd : Int))], .since w])) (fun wr => (4294967296 - intOf ((wr.cell? ⟨w.heap.size, 3, none⟩).getD (.int .i64 0))).toNat)
    case atStart => exact .inl HK2.out
    case round =>
      clear HK2
      rcases hrel with K | ⟨hW1, hIn, K⟩
      · have kc := Box.cells K.1
        have kf := Box.frees K.1
        have hsz : w.heap.size ≤ wr.heap.size := Below.size K.2.1
        by_cases hn1 : bd < 16777216
        · have hn1' : (bd : Int) < 16777216 := by omega
          by_cases h0 : n ≤ I
          · have h0' : (n : Int) ≤ I := by omega
            have HX := Lib.hid (And.intro hn1 (And.intro h0 K.2.1))
            clear K hn1 h0
            go_wp2
            go_ret2
            exact .inl ⟨by rw [HGW.out]; exact HX.out.1, HX.out.2.1, rfl, HX.out.2.2⟩
          · have h0' : ¬ (n : Int) ≤ I := by omega
            have HK := Lib.hid K
            have HX := Lib.hid (And.intro hn1 h0)
            clear K hn1 h0
            go_upto_region 18 with (fail)
            have K := HK.out.setBoxS 3 (.int .i64 (256 * (bd : Int))) OF.out
            have HSZ3 : Hid ((wr.setCell ⟨w.heap.size, 3, none⟩ (.int .i64 (256 * (bd : Int)))).heap.size = wr.heap.size) := Lib.hid (size_set _ _ _)
            have HC0 := Lib.hid (HK.out.1.cell 3)
            clear HK kc kf
            generalize World.setCell _ ⟨w.heap.size, 3, none⟩ (.int .i64 (256 * (bd : Int))) = w5 at *
            have kc := Box.cells K.1
            have kf := Box.frees K.1
            have hR5 := HR.out.below (show Below w.heap.size w w5 from K.2.1)
            obtain ⟨b, off, rfl, -, -⟩ := hR5.some_ (by omega)
            have c1 := Rd.at_ hR5 (i := I) (by omega)
            rw [by8_at] at c1
            have bk := HG.out I
            have l5 : (I : Int) < n := by omega
            have HK := Lib.hid K
            clear K hR5
            have z1 : IntKind.i64.wrap (256 * (rest : Int)) = 256 * (rest : Int) := by rw [IntKind.wrap_i64]; omega
            have z2 : IntKind.i64.wrap (256 * (rest : Int) + g I) = 256 * (rest : Int) + g I := by rw [IntKind.wrap_i64]; omega
            have z3 : IntKind.i64.wrap (g I) = g I := by rw [IntKind.wrap_i64]; omega
            refine wp_region_ordT [(0,0),(1,0),(2,0),(3,0),(4,0),(5,0),(6,0),(7,0),(8,0),(9,0),(10,0),(11,0),(12,2)] (by kernel_rfl) (by kernel_rfl) (fun _ _ d _ _ h => by cases d <;> exact h) ?_
            repeat (refine wpOrd_still rfl (fun KK hKK => ?_); go_simp; first | (refine hKK _ ?_; clear hKK KK))
            refine wpOrd_doG rfl rfl (fun KK hKK => ?_)
            go_simp
            refine hKK _ _ ?_
            clear hKK KK
            repeat (refine wpOrd_still rfl (fun KK hKK => ?_); go_simp; first | (refine hKK _ ?_; clear hKK KK))
            refine wpOrd_nil ?_
            clear z1 z2 z3
            have K := Kn.drew (HK.out.setBoxS 2 (.int .i64 (256 * (rest : Int) + g I)) OF.out)
            generalize World.drew (World.setCell _ ⟨w.heap.size, 2, none⟩ (.int .i64 (256 * (rest : Int) + g I))) = w6 at *
            clear kc kf HK c1
            have kc := Box.cells K.1
            have kf := Box.frees K.1
            have HK := Lib.hid K
            clear K bk h0' hn1'
            go_wp2
            have KF := HK.out.setBoxS 1 (.int .i64 ((I : Int) + 1)) OF.out
            refine ⟨.inr ⟨HX.out.1, by have := HX.out.2; omega, KF⟩, ?_⟩
            rw [KF.1.cell, HC0.out]
            have := HX.out.1
            simp [intOf]
            omega
        · have hn1' : ¬ (bd : Int) < 16777216 := by omega
          have hBp := HB.out.below (show Below w.heap.size w wr from K.2.1) hpl
          have pc := Box.cells hBp
          have pf := Box.frees hBp
          have HF := Lib.hid (And.intro hBp (show Below w.heap.size w wr from K.2.1))
          have HN := Lib.hid hn1
          clear K hn1 hBp
          go_wp2
          go_ret2
          refine .inr (.inl ⟨by rw [HGW.out]; exact HN.out, by rw [HGB.out]; rfl, ((((Oth.of_below HF.out.2 p).set 0 _).set 1 _).set 2 _).set 3 _, ?_⟩)
          rw [HGR.out, HGW.out]
          exact (((HF.out.1.set 0 _).set 1 _).set 2 _).set 3 _
      · have kc := Box.cells K.1
        have hn1' : ¬ 256 * (bd : Int) < 16777216 := by omega
        have hBp := HB.out.below (show Below w.heap.size w wr from K.2.1) hpl
        have pc := Box.cells hBp
        have pf := Box.frees hBp
        have HF := Lib.hid (And.intro hBp (And.intro (show Below w.heap.size w wr from K.2.1) (And.intro hW1 hIn)))
        have bk := HG.out I
        clear K hBp hW1 hIn
        go_wp2
        go_ret2
        refine .inr (.inr ⟨by rw [HGW.out]; exact HF.out.2.2.1, HF.out.2.2.2, by rw [HGB.out]; rfl, ((((Oth.of_below HF.out.2.1 p).set 0 _).set 1 _).set 2 _).set 3 _, ?_⟩)
        rw [HGR.out, HGW.out, show ((bd * 256 : Nat) : Int) = 256 * (bd : Int) by omega, show ((rest * 256 + (g I).toNat : Nat) : Int) = 256 * (rest : Int) + g I by omega, show ((I + 1 : Nat) : Int) = (I : Int) + 1 by omega]
        exact (((HF.out.1.set 0 _).set 1 _).set 2 _).set 3 _
  · have HGW := Lib.hid (show gWide wide rest bd = wide - bd by unfold gWide; rw [if_neg hr])
    have HGR := Lib.hid (show gRest rest bd = rest - bd by unfold gRest; rw [if_neg hr])
    have HGB := Lib.hid (show gBit rest bd = 1 by unfold gBit; rw [if_neg hr])
    have hr' : ¬ (rest : Int) < bd := by omega
    have b1 : wide - bd ≤ 4294967295 ∧ 253952 ≤ wide - bd ∧ rest - bd < wide - bd := by omega
    have HR1 : Hid (((rest - bd : Nat) : Int) = (rest : Int) - bd) := Lib.hid (by omega)
    have HW1 : Hid (((wide - bd : Nat) : Int) = (wide : Int) - bd) := Lib.hid (by omega)
    generalize rest - bd = r1 at *
    generalize wide - bd = w1' at *
    clear hr
    go_wp2_with fail
    have HK2 := Lib.hid ((HK.out.setBoxS 2 (.int .i64 ((rest : Int) - bd)) OF.out).setBoxS 3 (.int .i64 ((wide : Int) - bd)) OF.out)
    rw [← HR1.out, ← HW1.out] at HK2 ⊢
    clear HK kc kf HR1 HW1
    go_loopw [] (fun wr => Kn wr [.box w.heap.size #[.slice A n c, .int .i64 I, .int .i64 (r1 : Int), .int .i64 (w1' : Int)], .since w] ∨ (w1' < 16777216 ∧ I < n ∧ Kn wr [.box w.heap.size #[.slice A n c, .int .i64 ((I : Int) + 1), .int .i64 (256 * (r1 : Int) + g I), .int .i64 (256 * (w1' : Int))], .since w])) (fun wr => (4294967296 - intOf ((wr.cell? ⟨w.heap.size, 3, none⟩).getD (.int .i64 0))).toNat)
    case atStart => exact .inl HK2.out
    case round =>
      clear HK2
      rcases hrel with K | ⟨hW1, hIn, K⟩
      · have kc := Box.cells K.1
        have kf := Box.frees K.1
        have hsz : w.heap.size ≤ wr.heap.size := Below.size K.2.1
        by_cases hn1 : w1' < 16777216
        · have hn1' : (w1' : Int) < 16777216 := by omega
          by_cases h0 : n ≤ I
          · have h0' : (n : Int) ≤ I := by omega
            have HX := Lib.hid (And.intro hn1 (And.intro h0 K.2.1))
            clear K hn1 h0
            go_wp2
            go_ret2
            exact .inl ⟨by rw [HGW.out]; exact HX.out.1, HX.out.2.1, rfl, HX.out.2.2⟩
          · have h0' : ¬ (n : Int) ≤ I := by omega
            have HK := Lib.hid K
            have HX := Lib.hid (And.intro hn1 h0)
            clear K hn1 h0
            go_upto_region 18 with (fail)
            have K := HK.out.setBoxS 3 (.int .i64 (256 * (w1' : Int))) OF.out
            have HSZ3 : Hid ((wr.setCell ⟨w.heap.size, 3, none⟩ (.int .i64 (256 * (w1' : Int)))).heap.size = wr.heap.size) := Lib.hid (size_set _ _ _)
            have HC0 := Lib.hid (HK.out.1.cell 3)
            clear HK kc kf
            generalize World.setCell _ ⟨w.heap.size, 3, none⟩ (.int .i64 (256 * (w1' : Int))) = w5 at *
            have kc := Box.cells K.1
            have kf := Box.frees K.1
            have hR5 := HR.out.below (show Below w.heap.size w w5 from K.2.1)
            obtain ⟨b, off, rfl, -, -⟩ := hR5.some_ (by omega)
            have c1 := Rd.at_ hR5 (i := I) (by omega)
            rw [by8_at] at c1
            have bk := HG.out I
            have l5 : (I : Int) < n := by omega
            have HK := Lib.hid K
            clear K hR5
            have z1 : IntKind.i64.wrap (256 * (r1 : Int)) = 256 * (r1 : Int) := by rw [IntKind.wrap_i64]; omega
            have z2 : IntKind.i64.wrap (256 * (r1 : Int) + g I) = 256 * (r1 : Int) + g I := by rw [IntKind.wrap_i64]; omega
            have z3 : IntKind.i64.wrap (g I) = g I := by rw [IntKind.wrap_i64]; omega
            refine wp_region_ordT [(0,0),(1,0),(2,0),(3,0),(4,0),(5,0),(6,0),(7,0),(8,0),(9,0),(10,0),(11,0),(12,2)] (by kernel_rfl) (by kernel_rfl) (fun _ _ d _ _ h => by cases d <;> exact h) ?_
            repeat (refine wpOrd_still rfl (fun KK hKK => ?_); go_simp; first | (refine hKK _ ?_; clear hKK KK))
            refine wpOrd_doG rfl rfl (fun KK hKK => ?_)
            go_simp
            refine hKK _ _ ?_
            clear hKK KK
            repeat (refine wpOrd_still rfl (fun KK hKK => ?_); go_simp; first | (refine hKK _ ?_; clear hKK KK))
            refine wpOrd_nil ?_
            clear z1 z2 z3
            have K := Kn.drew (HK.out.setBoxS 2 (.int .i64 (256 * (r1 : Int) + g I)) OF.out)
            generalize World.drew (World.setCell _ ⟨w.heap.size, 2, none⟩ (.int .i64 (256 * (r1 : Int) + g I))) = w6 at *
            clear kc kf HK c1
            have kc := Box.cells K.1
            have kf := Box.frees K.1
            have HK := Lib.hid K
            clear K bk h0' hn1'
            go_wp2
            have KF := HK.out.setBoxS 1 (.int .i64 ((I : Int) + 1)) OF.out
            refine ⟨.inr ⟨HX.out.1, by have := HX.out.2; omega, KF⟩, ?_⟩
            rw [KF.1.cell, HC0.out]
            have := HX.out.1
            simp [intOf]
            omega
        · have hn1' : ¬ (w1' : Int) < 16777216 := by omega
          have hBp := HB.out.below (show Below w.heap.size w wr from K.2.1) hpl
          have pc := Box.cells hBp
          have pf := Box.frees hBp
          have HF := Lib.hid (And.intro hBp (show Below w.heap.size w wr from K.2.1))
          have HN := Lib.hid hn1
          clear K hn1 hBp
          go_wp2
          go_ret2
          refine .inr (.inl ⟨by rw [HGW.out]; exact HN.out, by rw [HGB.out]; rfl, ((((Oth.of_below HF.out.2 p).set 0 _).set 1 _).set 2 _).set 3 _, ?_⟩)
          rw [HGR.out, HGW.out]
          exact (((HF.out.1.set 0 _).set 1 _).set 2 _).set 3 _
      · have kc := Box.cells K.1
        have hn1' : ¬ 256 * (w1' : Int) < 16777216 := by omega
        have hBp := HB.out.below (show Below w.heap.size w wr from K.2.1) hpl
        have pc := Box.cells hBp
        have pf := Box.frees hBp
        have HF := Lib.hid (And.intro hBp (And.intro (show Below w.heap.size w wr from K.2.1) (And.intro hW1 hIn)))
        have bk := HG.out I
        clear K hBp hW1 hIn
        go_wp2
        go_ret2
        refine .inr (.inr ⟨by rw [HGW.out]; exact HF.out.2.2.1, HF.out.2.2.2, by rw [HGB.out]; rfl, ((((Oth.of_below HF.out.2.1 p).set 0 _).set 1 _).set 2 _).set 3 _, ?_⟩)
        rw [HGR.out, HGW.out, show ((w1' * 256 : Nat) : Int) = 256 * (w1' : Int) by omega, show ((r1 * 256 + (g I).toNat : Nat) : Int) = 256 * (r1 : Int) + g I by omega, show ((I + 1 : Nat) : Int) = (I : Int) + 1 by omega]
        exact (((HF.out.1.set 0 _).set 1 _).set 2 _).set 3 _
end Go.Proofs.Ytfooglenhepogaa
