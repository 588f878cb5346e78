/- The document's coder: Get. -/
import Derived.Test.YtmnoddmecghjdaaCe3
namespace Go.Proofs.Ytmnoddmecghjdaa
open Go.RowKit Go.Kin
set_option linter.unusedVariables false
theorem rget_arg (p : Nat) (c : Int) (w : World) (h : chB c = false) : Calls Try.prog 98 #[.pointer (some ⟨p, 0, none⟩), .int .i64 c] w fun e w' => e = .returned (.tuple #[.int .i64 0, .int .i64 1]) ∧ w = w' := by
  go_enter Try.func98, Try.ntmps98
  go_wp2_with (go_at_call 101; refine (rright_any _ _).mono ?_; rintro e w' ⟨rfl, rfl⟩; rw [h])
  go_ret2
  exact ⟨rfl, rfl⟩
set_option maxRecDepth 100000 in
set_option maxHeartbeats 1000000 in
theorem rget_over (p I n c rest wide ch : Nat) (A : Option Addr) (w : World) (hB : Box w p #[.slice A n c, .int .i64 I, .int .i64 rest, .int .i64 wide]) (hch : chB ch = true) (h : wide ≤ rest) :
    Calls Try.prog 98 #[.pointer (some ⟨p, 0, none⟩), .int .i64 ch] w fun e w' => e = .returned (.tuple #[.int .i64 0, .int .i64 41]) ∧ Below w.heap.size w w' := by
  have kc := Box.cells hB
  have h' : (wide : Int) ≤ rest := by omega
  clear hB
  go_enter Try.func98, Try.ntmps98
  go_wp2_with (go_at_call 101; refine (rright_any _ _).mono ?_; rintro e w' ⟨rfl, rfl⟩; rw [hch])
  go_quiet (fail)
  go_wp2
  go_ret2
  exact ⟨rfl, below_drewN (Below.refl _ _) _⟩
/-- What Get gives, when the rest is less than the range. -/
def RGet (p I n c rest wide bd : Nat) (A : Option Addr) (g : Nat → Int) (w : World) (e : Ending) (w' : World) : Prop :=
      (gWide wide rest bd < 16777216 ∧ n ≤ I ∧ e = .returned (.tuple #[.int .i64 0, .int .i64 41]) ∧ Below w.heap.size w w') ∨
      (¬ gWide wide rest bd < 16777216 ∧ e = .returned (.tuple #[.int .i64 (gBit rest bd), .int .i64 0]) ∧ Oth p w w' ∧ Box w' p #[.slice A n c, .int .i64 I, .int .i64 (gRest rest bd), .int .i64 (gWide wide rest bd)]) ∨
      (gWide wide rest bd < 16777216 ∧ I < n ∧ e = .returned (.tuple #[.int .i64 (gBit rest bd), .int .i64 0]) ∧ Oth p w w' ∧ Box w' p #[.slice A n c, .int .i64 ((I + 1 : Nat) : Int), .int .i64 ((gRest rest bd * 256 + (g I).toNat : Nat) : Int), .int .i64 ((gWide wide rest bd * 256 : Nat) : Int)])
set_option maxRecDepth 100000 in
set_option maxHeartbeats 8000000 in
/-- Get of a chance, when the rest is less than the range. -/
theorem rget_go (p I n c rest wide bd ch : Nat) (A : Option Addr) (g : Nat → Int) (w : World) (hB : Box w p #[.slice A n c, .int .i64 I, .int .i64 rest, .int .i64 wide]) (hR : Rd w A n (by8 g)) (hg : Byt g) (h1 : 31 ≤ ch) (h2 : ch ≤ 2017) (q1 : 16777216 ≤ wide) (q2 : wide ≤ 4294967295) (h : rest < wide) (hbd : bd = wide / 2048 * ch) (hI : I ≤ n) (hn : n ≤ 1000000) :
    Calls Try.prog 98 #[.pointer (some ⟨p, 0, none⟩), .int .i64 ch] w fun e w' => RGet p I n c rest wide bd A g w e w' := by
  have hch : chB ch = true := by unfold chB; exact decide_eq_true ⟨by omega, by omega⟩
  obtain ⟨bd1, bd2⟩ := St.bd_bd (s := ⟨0, 0, wide⟩) ⟨q1, q2⟩ h1 h2
  have hbdv : (wide : Int) / 2048 * ch = bd := by
    have e : ((wide / 2048 : Nat) : Int) = (wide : Int) / 2048 := by omega
    rw [hbd, Int.natCast_mul, e]
  have e2 : (⟨0, 0, wide⟩ : St).bd ch = bd := by unfold St.bd; exact hbd.symm
  rw [e2] at bd1 bd2
  dsimp only at bd2
  clear e2 hbd
  have kc := Box.cells hB
  have zq : (wide : Int).tdiv 2048 = (wide : Int) / 2048 := Int.tdiv_eq_ediv_of_nonneg (by omega)
  have l0 : 0 ≤ (wide : Int) / 2048 := by omega
  have l1 : (wide : Int) / 2048 ≤ 2097152 := by omega
  have hlt : ¬ (wide : Int) ≤ rest := by omega
  have HB := Lib.hid hB
  have HR := Lib.hid hR
  have HG := Lib.hid hg
  have hpl := Box.lt hB
  clear hB hR hg
  go_enter Try.func98, Try.ntmps98
  go_wp2_with (go_at_call 101; refine (rright_any _ _).mono ?_; rintro e w' ⟨rfl, rfl⟩; rw [hch])
  go_quiet (fail)
  rename_i nq
  have K0 : Kn (w.drewN nq) [.since w] := ⟨below_drewN (Below.refl _ _) _, trivial⟩
  have K1 := K0.new w.heap.size #[.slice none 0 0, .int .i64 0, .int .i64 0, .int .i64 0] 99 rfl
  have OF := Lib.hid (K0.offS (b := w.heap.size) (Nat.le_refl _))
  have K := (((K1.setBoxS 0 (.slice A n c) OF.out).setBoxS 1 (.int .i64 I) OF.out).setBoxS 2 (.int .i64 rest) OF.out).setBoxS 3 (.int .i64 wide) OF.out
  have kc1 := Box.cells K1.1
  have kf1 := Box.frees K1.1
  clear K0 K1
  go_upto_region 7 with (fail)
  generalize World.setCell _ ⟨w.heap.size, 3, none⟩ (.int .i64 (wide : Int)) = w1 at K ⊢
  clear kc1 kf1 kc
  have kc := Box.cells K.1
  have kf := Box.frees K.1
  have HK := Lib.hid K
  clear K
  by_cases hr : rest < bd
  · have HGW := Lib.hid (show gWide wide rest bd = bd by unfold gWide; rw [if_pos hr])
    have HGR := Lib.hid (show gRest rest bd = rest by unfold gRest; rw [if_pos hr])
    have HGB := Lib.hid (show gBit rest bd = 0 by unfold gBit; rw [if_pos hr])
    have b1 : bd ≤ 4294967295 ∧ 253952 ≤ bd ∧ rest < bd := by omega
    have hr' : (rest : Int) < bd := by omega
    go_wp2_with fail
    have HK2 := Lib.hid (HK.out.setBoxS 3 (.int .i64 (bd : Int)) OF.out)
    clear HK kc kf
    have hdec : decide (wide ≤ rest) = false := by simp; omega
    try simp only [hdec]
    clear hdec
    go_loopw [] (fun wr => Kn wr [.box w.heap.size #[.slice A n c, .int .i64 I, .int .i64 (rest : Int), .int .i64 (bd : Int)], .since w] ∨ (bd < 16777216 ∧ I < n ∧ Kn wr [.box w.heap.size #[.slice A n c, .int .i64 ((I : Int) + 1), .int .i64 (256 * (rest : Int) + g I), .int .i64 (256 * (bd : Int))], .since w])) (fun wr => (4294967296 - intOf ((wr.cell? ⟨w.heap.size, 3, none⟩).getD (.int .i64 0))).toNat)
    case atStart => exact .inl HK2.out
    case round =>
      clear HK2
      rcases hrel with K | ⟨hW1, hIn, K⟩
      · have kc := Box.cells K.1
        have kf := Box.frees K.1
        have hsz : w.heap.size ≤ wr.heap.size := Below.size K.2.1
        by_cases hn1 : bd < 16777216
        · have hn1' : (bd : Int) < 16777216 := by omega
          by_cases h0 : n ≤ I
          · have h0' : (n : Int) ≤ I := by omega
            have HX := Lib.hid (And.intro hn1 (And.intro h0 K.2.1))
            clear K hn1 h0
            go_wp2
            go_ret2
            exact .inl ⟨by rw [HGW.out]; exact HX.out.1, HX.out.2.1, rfl, HX.out.2.2⟩
          · have h0' : ¬ (n : Int) ≤ I := by omega
            have HK := Lib.hid K
            have HX := Lib.hid (And.intro hn1 h0)
            clear K hn1 h0
            go_upto_region 18 with (fail)
            have K := HK.out.setBoxS 3 (.int .i64 (256 * (bd : Int))) OF.out
            have HSZ3 : Hid ((wr.setCell ⟨w.heap.size, 3, none⟩ (.int .i64 (256 * (bd : Int)))).heap.size = wr.heap.size) := Lib.hid (size_set _ _ _)
            have HC0 := Lib.hid (HK.out.1.cell 3)
            clear HK kc kf
            generalize World.setCell _ ⟨w.heap.size, 3, none⟩ (.int .i64 (256 * (bd : Int))) = w5 at *
            have kc := Box.cells K.1
            have kf := Box.frees K.1
            have hR5 := HR.out.below (show Below w.heap.size w w5 from K.2.1)
            obtain ⟨b, off, rfl, -, -⟩ := hR5.some_ (by omega)
            have c1 := Rd.at_ hR5 (i := I) (by omega)
            rw [by8_at] at c1
            have bk := HG.out I
            have l5 : (I : Int) < n := by omega
            have HK := Lib.hid K
            clear K hR5
            have z1 : IntKind.i64.wrap (256 * (rest : Int)) = 256 * (rest : Int) := by rw [IntKind.wrap_i64]; omega
            have z2 : IntKind.i64.wrap (256 * (rest : Int) + g I) = 256 * (rest : Int) + g I := by rw [IntKind.wrap_i64]; omega
            have z3 : IntKind.i64.wrap (g I) = g I := by rw [IntKind.wrap_i64]; omega
            refine wp_region_ordT [(0,0),(1,0),(2,0),(3,0),(4,0),(5,0),(6,0),(7,0),(8,0),(9,0),(10,0),(11,0),(12,2)] (by kernel_rfl) (by kernel_rfl) (fun _ _ d _ _ h => by cases d <;> exact h) ?_
            repeat (refine wpOrd_still rfl (fun KK hKK => ?_); go_simp; first | (refine hKK _ ?_; clear hKK KK))
            refine wpOrd_doG rfl rfl (fun KK hKK => ?_)
            go_simp
            refine hKK _ _ ?_
            clear hKK KK
            repeat (refine wpOrd_still rfl (fun KK hKK => ?_); go_simp; first | (refine hKK _ ?_; clear hKK KK))
            refine wpOrd_nil ?_
            clear z1 z2 z3
            have K := Kn.drew (HK.out.setBoxS 2 (.int .i64 (256 * (rest : Int) + g I)) OF.out)
            generalize World.drew (World.setCell _ ⟨w.heap.size, 2, none⟩ (.int .i64 (256 * (rest : Int) + g I))) = w6 at *
            clear kc kf HK c1
            have kc := Box.cells K.1
            have kf := Box.frees K.1
            have HK := Lib.hid K
            clear K bk h0' hn1'
            go_wp2
            have KF := HK.out.setBoxS 1 (.int .i64 ((I : Int) + 1)) OF.out
            refine ⟨.inr ⟨HX.out.1, by have := HX.out.2; omega, KF⟩, ?_⟩
            rw [KF.1.cell, HC0.out]
            have := HX.out.1
            simp [intOf]
            omega
        · have hn1' : ¬ (bd : Int) < 16777216 := by omega
          have hBp := HB.out.below (show Below w.heap.size w wr from K.2.1) hpl
          have pc := Box.cells hBp
          have pf := Box.frees hBp
          have HF := Lib.hid (And.intro hBp (show Below w.heap.size w wr from K.2.1))
          have HN := Lib.hid hn1
          clear K hn1 hBp
          go_wp2
          go_ret2
          refine .inr (.inl ⟨by rw [HGW.out]; exact HN.out, by rw [HGB.out]; rfl, ((((Oth.of_below HF.out.2 p).set 0 _).set 1 _).set 2 _).set 3 _, ?_⟩)
          rw [HGR.out, HGW.out]
          exact (((HF.out.1.set 0 _).set 1 _).set 2 _).set 3 _
      · have kc := Box.cells K.1
        have hn1' : ¬ 256 * (bd : Int) < 16777216 := by omega
        have hBp := HB.out.below (show Below w.heap.size w wr from K.2.1) hpl
        have pc := Box.cells hBp
        have pf := Box.frees hBp
        have HF := Lib.hid (And.intro hBp (And.intro (show Below w.heap.size w wr from K.2.1) (And.intro hW1 hIn)))
        have bk := HG.out I
        clear K hBp hW1 hIn
        go_wp2
        go_ret2
        refine .inr (.inr ⟨by rw [HGW.out]; exact HF.out.2.2.1, HF.out.2.2.2, by rw [HGB.out]; rfl, ((((Oth.of_below HF.out.2.1 p).set 0 _).set 1 _).set 2 _).set 3 _, ?_⟩)
        rw [HGR.out, HGW.out, show ((bd * 256 : Nat) : Int) = 256 * (bd : Int) by omega, show ((rest * 256 + (g I).toNat : Nat) : Int) = 256 * (rest : Int) + g I by omega, show ((I + 1 : Nat) : Int) = (I : Int) + 1 by omega]
        exact (((HF.out.1.set 0 _).set 1 _).set 2 _).set 3 _
  · have HGW := Lib.hid (show gWide wide rest bd = wide - bd by unfold gWide; rw [if_neg hr])
    have HGR := Lib.hid (show gRest rest bd = rest - bd by unfold gRest; rw [if_neg hr])
    have HGB := Lib.hid (show gBit rest bd = 1 by unfold gBit; rw [if_neg hr])
    have hr' : ¬ (rest : Int) < bd := by omega
    have b1 : wide - bd ≤ 4294967295 ∧ 253952 ≤ wide - bd ∧ rest - bd < wide - bd := by omega
    have HR1 : Hid (((rest - bd : Nat) : Int) = (rest : Int) - bd) := Lib.hid (by omega)
    have HW1 : Hid (((wide - bd : Nat) : Int) = (wide : Int) - bd) := Lib.hid (by omega)
    generalize rest - bd = r1 at *
    generalize wide - bd = w1' at *
    clear hr
    go_wp2_with fail
    have HK2 := Lib.hid ((HK.out.setBoxS 2 (.int .i64 ((rest : Int) - bd)) OF.out).setBoxS 3 (.int .i64 ((wide : Int) - bd)) OF.out)
    rw [← HR1.out, ← HW1.out] at HK2 ⊢
    clear HK kc kf HR1 HW1
    go_loopw [] (fun wr => Kn wr [.box w.heap.size #[.slice A n c, .int .i64 I, .int .i64 (r1 : Int), .int .i64 (w1' : Int)], .since w] ∨ (w1' < 16777216 ∧ I < n ∧ Kn wr [.box w.heap.size #[.slice A n c, .int .i64 ((I : Int) + 1), .int .i64 (256 * (r1 : Int) + g I), .int .i64 (256 * (w1' : Int))], .since w])) (fun wr => (4294967296 - intOf ((wr.cell? ⟨w.heap.size, 3, none⟩).getD (.int .i64 0))).toNat)
    case atStart => exact .inl HK2.out
    case round =>
      clear HK2
      rcases hrel with K | ⟨hW1, hIn, K⟩
      · have kc := Box.cells K.1
        have kf := Box.frees K.1
        have hsz : w.heap.size ≤ wr.heap.size := Below.size K.2.1
        by_cases hn1 : w1' < 16777216
        · have hn1' : (w1' : Int) < 16777216 := by omega
          by_cases h0 : n ≤ I
          · have h0' : (n : Int) ≤ I := by omega
            have HX := Lib.hid (And.intro hn1 (And.intro h0 K.2.1))
            clear K hn1 h0
            go_wp2
            go_ret2
            exact .inl ⟨by rw [HGW.out]; exact HX.out.1, HX.out.2.1, rfl, HX.out.2.2⟩
          · have h0' : ¬ (n : Int) ≤ I := by omega
            have HK := Lib.hid K
            have HX := Lib.hid (And.intro hn1 h0)
            clear K hn1 h0
            go_upto_region 18 with (fail)
            have K := HK.out.setBoxS 3 (.int .i64 (256 * (w1' : Int))) OF.out
            have HSZ3 : Hid ((wr.setCell ⟨w.heap.size, 3, none⟩ (.int .i64 (256 * (w1' : Int)))).heap.size = wr.heap.size) := Lib.hid (size_set _ _ _)
            have HC0 := Lib.hid (HK.out.1.cell 3)
            clear HK kc kf
            generalize World.setCell _ ⟨w.heap.size, 3, none⟩ (.int .i64 (256 * (w1' : Int))) = w5 at *
            have kc := Box.cells K.1
            have kf := Box.frees K.1
            have hR5 := HR.out.below (show Below w.heap.size w w5 from K.2.1)
            obtain ⟨b, off, rfl, -, -⟩ := hR5.some_ (by omega)
            have c1 := Rd.at_ hR5 (i := I) (by omega)
            rw [by8_at] at c1
            have bk := HG.out I
            have l5 : (I : Int) < n := by omega
            have HK := Lib.hid K
            clear K hR5
            have z1 : IntKind.i64.wrap (256 * (r1 : Int)) = 256 * (r1 : Int) := by rw [IntKind.wrap_i64]; omega
            have z2 : IntKind.i64.wrap (256 * (r1 : Int) + g I) = 256 * (r1 : Int) + g I := by rw [IntKind.wrap_i64]; omega
            have z3 : IntKind.i64.wrap (g I) = g I := by rw [IntKind.wrap_i64]; omega
            refine wp_region_ordT [(0,0),(1,0),(2,0),(3,0),(4,0),(5,0),(6,0),(7,0),(8,0),(9,0),(10,0),(11,0),(12,2)] (by kernel_rfl) (by kernel_rfl) (fun _ _ d _ _ h => by cases d <;> exact h) ?_
            repeat (refine wpOrd_still rfl (fun KK hKK => ?_); go_simp; first | (refine hKK _ ?_; clear hKK KK))
            refine wpOrd_doG rfl rfl (fun KK hKK => ?_)
            go_simp
            refine hKK _ _ ?_
            clear hKK KK
            repeat (refine wpOrd_still rfl (fun KK hKK => ?_); go_simp; first | (refine hKK _ ?_; clear hKK KK))
            refine wpOrd_nil ?_
            clear z1 z2 z3
            have K := Kn.drew (HK.out.setBoxS 2 (.int .i64 (256 * (r1 : Int) + g I)) OF.out)
            generalize World.drew (World.setCell _ ⟨w.heap.size, 2, none⟩ (.int .i64 (256 * (r1 : Int) + g I))) = w6 at *
            clear kc kf HK c1
            have kc := Box.cells K.1
            have kf := Box.frees K.1
            have HK := Lib.hid K
            clear K bk h0' hn1'
            go_wp2
            have KF := HK.out.setBoxS 1 (.int .i64 ((I : Int) + 1)) OF.out
            refine ⟨.inr ⟨HX.out.1, by have := HX.out.2; omega, KF⟩, ?_⟩
            rw [KF.1.cell, HC0.out]
            have := HX.out.1
            simp [intOf]
            omega
        · have hn1' : ¬ (w1' : Int) < 16777216 := by omega
          have hBp := HB.out.below (show Below w.heap.size w wr from K.2.1) hpl
          have pc := Box.cells hBp
          have pf := Box.frees hBp
          have HF := Lib.hid (And.intro hBp (show Below w.heap.size w wr from K.2.1))
          have HN := Lib.hid hn1
          clear K hn1 hBp
          go_wp2
          go_ret2
          refine .inr (.inl ⟨by rw [HGW.out]; exact HN.out, by rw [HGB.out]; rfl, ((((Oth.of_below HF.out.2 p).set 0 _).set 1 _).set 2 _).set 3 _, ?_⟩)
          rw [HGR.out, HGW.out]
          exact (((HF.out.1.set 0 _).set 1 _).set 2 _).set 3 _
      · have kc := Box.cells K.1
        have hn1' : ¬ 256 * (w1' : Int) < 16777216 := by omega
        have hBp := HB.out.below (show Below w.heap.size w wr from K.2.1) hpl
        have pc := Box.cells hBp
        have pf := Box.frees hBp
        have HF := Lib.hid (And.intro hBp (And.intro (show Below w.heap.size w wr from K.2.1) (And.intro hW1 hIn)))
        have bk := HG.out I
        clear K hBp hW1 hIn
        go_wp2
        go_ret2
        refine .inr (.inr ⟨by rw [HGW.out]; exact HF.out.2.2.1, HF.out.2.2.2, by rw [HGB.out]; rfl, ((((Oth.of_below HF.out.2.1 p).set 0 _).set 1 _).set 2 _).set 3 _, ?_⟩)
        rw [HGR.out, HGW.out, show ((w1' * 256 : Nat) : Int) = 256 * (w1' : Int) by omega, show ((r1 * 256 + (g I).toNat : Nat) : Int) = 256 * (r1 : Int) + g I by omega, show ((I + 1 : Nat) : Int) = (I : Int) + 1 by omega]
        exact (((HF.out.1.set 0 _).set 1 _).set 2 _).set 3 _
end Go.Proofs.Ytmnoddmecghjdaa
/- The document's encoders and decoders as plain states, and what each call makes of them. -/
namespace Go.Kin
theorem and_65535 (c : Int) : bits .and .i64 c 65535 = c % 65536 := by
  have h1 : (BitVec.ofInt 64 65535).toNat = 2 ^ 16 - 1 := by decide
  have key : (BitVec.ofInt 64 c &&& BitVec.ofInt 64 65535).toNat = (c % ((2 ^ 64 : Nat) : Int)).toNat % 2 ^ 16 := by
    rw [BitVec.toNat_and, BitVec.toNat_ofInt, h1, Nat.and_two_pow_sub_one_eq_mod]
  show IntKind.i64.wrap ((BitVec.ofInt 64 c &&& BitVec.ofInt 64 65535).toNat : Nat) = c % 65536
  rw [key, IntKind.wrap_i64]
  omega
theorem quietC {P : Program} {f : FuncId} {args : Array Value} {w : World} {v : Value} (h : Calls P f args w fun e w' => e = .returned v ∧ w = w') : Calls P f args w fun e w' => e = .returned v ∧ RowKit.Below w.heap.size w w' :=
  h.mono fun _ _ ⟨he, hw⟩ => ⟨he, by subst hw; exact RowKit.Below.refl _ _⟩
end Go.Kin
namespace Go.Proofs.Ytmnoddmecghjdaa
open Go.RowKit Go.Kin
set_option linter.unusedVariables false
def EncRS (w : World) (col : Nat → Nat) (i p : Nat) (s : St) : Prop := s.ok ∧ 4 ≤ s.L ∧ ∃ A c, EncR w col i p s.V s.L s.R A c
structure DecRS (w : World) (col : Nat → Nat) (i p n : Nat) (A : Option Addr) (c : Nat) (d : DS) : Prop where
  box : Box w p #[.slice A n c, .int .i64 d.I, .int .i64 d.rest, .int .i64 d.wide]
  hp : col p = i
  ok : d.ok
  le : d.I ≤ n
section
variable {w w' : World} {col : Nat → Nat} {i j p n : Nat} {s : St} {g : Nat → Int} {d : DS} {A : Option Addr} {cap : Nat}
theorem EncRS.upd (h : EncRS w col i p s) (hj : i ≠ j) (hu : Upd col j w w') : EncRS w' (recol col w j) i p s := by
  obtain ⟨h1, h2, A, c, h⟩ := h
  have k1 := It.upd (x := .box p _) (j := i) ⟨h.box, h.hp⟩ hj hu
  have k2 := It.upd (x := .own 0 3 A s.L c _) (j := i) ⟨h.own, fun k o e => (h.hA k o e).1⟩ hj hu
  exact ⟨h1, h2, A, c, k1.1, k2.1, k1.2, fun k o e => ⟨k2.2 k o e, (h.hA k o e).2⟩⟩
theorem EncRS.below (h : EncRS w col i p s) (hb : Below w.heap.size w w') : EncRS w' col i p s := by
  obtain ⟨h1, h2, A, c, h3⟩ := h
  exact ⟨h1, h2, A, c, h3.box.below hb (Box.lt h3.box), OwnS.below h3.own hb (Nat.le_refl _), h3.hp, h3.hA⟩
theorem EncRS.self (h : EncRS w col i p s) : EncRS w (recol col w i) i p s := by
  obtain ⟨h1, h2, A, c, h3⟩ := h
  exact ⟨h1, h2, A, c, h3.box, h3.own, by rw [recol_lt (Box.lt h3.box)]; exact h3.hp, fun k o e => ⟨by rw [recol_lt (OwnS.lt h3.own e).2]; exact (h3.hA k o e).1, (h3.hA k o e).2⟩⟩
theorem DecRS.upd (h : DecRS w col i p n A cap d) (hj : i ≠ j) (hu : Upd col j w w') : DecRS w' (recol col w j) i p n A cap d := by
  have k1 := It.upd (x := .box p _) (j := i) ⟨h.box, h.hp⟩ hj hu
  exact ⟨k1.1, k1.2, h.ok, h.le⟩
theorem DecRS.below (h : DecRS w col i p n A cap d) (hb : Below w.heap.size w w') : DecRS w' col i p n A cap d := ⟨h.box.below hb (Box.lt h.box), h.hp, h.ok, h.le⟩
theorem rnew_s (w : World) : Calls Try.prog 18 #[] w fun e w' => ∃ p, e = .returned (.pointer (some ⟨p, 0, none⟩)) ∧ (∀ col i, EncRS w' (recol col w i) i p ⟨0, 4, 4294967295⟩) ∧ Below w.heap.size w w' := by
  refine (rnew_any w).mono ?_
  rintro e w' ⟨p, A, c, rfl, h, hb⟩
  exact ⟨p, rfl, fun col i => ⟨by unfold St.ok; dsimp only; omega, Nat.le_refl _, A, c, h col i⟩, hb⟩
set_option maxHeartbeats 1000000 in
theorem rput_arg (p : Nat) (c bit : Int) (w : World) (h : chB c = false ∨ (chB c = true ∧ ¬ bit = 0 ∧ ¬ bit = 1)) :
    Calls Try.prog 95 #[.pointer (some ⟨p, 0, none⟩), .int .i64 c, .int .i64 bit] w fun e w' => e = .returned (.int .i64 1) ∧ w = w' := by
  rcases h with h | ⟨h, h1, h2⟩
  · go_enter Try.func95, Try.ntmps95
    go_wp2_with (go_at_call 101; refine (rright_any _ _).mono ?_; rintro e w' ⟨rfl, rfl⟩; rw [h])
    go_ret
    exact ⟨rfl, rfl⟩
  · have b1 : (bit != 0) = true := by simp [h1]
    have b2 : (bit != 1) = true := by simp [h2]
    go_enter Try.func95, Try.ntmps95
    go_wp2_with (go_at_call 101; refine (rright_any _ _).mono ?_; rintro e w' ⟨rfl, rfl⟩; rw [h])
    go_ret
    exact ⟨rfl, rfl⟩
theorem rput_s (hE : EncRS w col i p s) (hL : s.L ≤ 900000) (c bit : Int) :
    Calls Try.prog 95 #[.pointer (some ⟨p, 0, none⟩), .int .i64 c, .int .i64 bit] w fun e w' => e = .returned (.int .i64 (putE c bit)) ∧ Upd col i w w' ∧ EncRS w' (recol col w i) i p (s.putI c bit) := by
  have hself := hE.self
  obtain ⟨hok, h4, A, cap, he⟩ := hE
  by_cases h : chB c = true ∧ (bit = 0 ∨ bit = 1)
  · have hb := chB_iff.1 h.1
    have hp := rput_yes col i p A cap s c.toNat bit.toNat w he hok (by omega) (by omega) (by omega) (by omega) hL
    rw [show ((c.toNat : Nat) : Int) = c by omega, show ((bit.toNat : Nat) : Int) = bit by omega] at hp
    refine hp.mono ?_
    rintro e w' ⟨rfl, hu, A', c', he'⟩
    have hk := St.put_ok (bit := bit.toNat) hok (c := c.toNat) (by omega) (by omega)
    unfold putE St.putI
    rw [if_pos h, if_pos h]
    exact ⟨rfl, hu, hk.1, by omega, A', c', he'⟩
  · refine (rput_arg p c bit w ?_).mono ?_
    · cases hh : chB c
      · exact .inl rfl
      · exact .inr ⟨rfl, fun e => h ⟨hh, .inl e⟩, fun e => h ⟨hh, .inr e⟩⟩
    · rintro e w' ⟨rfl, rfl⟩
      unfold putE St.putI
      rw [if_neg h, if_neg h]
      exact ⟨rfl, Upd.refl _ _ _, hself⟩
theorem rbytes_s (hE : EncRS w col i p s) (hL : s.L ≤ 1000000) :
    Calls Try.prog 23 #[.pointer (some ⟨p, 0, none⟩)] w fun e w' => ∃ A' c', e = .returned (.slice A' s.L c') ∧ Rd w' A' s.L (by8 (dig s.V s.L)) ∧ (∀ k o, A' = some ⟨k, o, none⟩ → w.heap.size ≤ k) ∧ Below w.heap.size w w' := by
  obtain ⟨hok, h4, A, cap, he⟩ := hE
  exact rbytes_any p s.V s.L A cap _ w he.box he.own.rd hL
theorem ropen_s (A : Option Addr) (n c : Nat) (g : Nat → Int) (w : World) (hS : Rd w A n (by8 g)) (hg : Byt g) (h4 : 4 ≤ n) :
    Calls Try.prog 25 #[.slice A n c] w fun e w' => ∃ p, e = .returned (.tuple #[.pointer (some ⟨p, 0, none⟩), .int .i64 0]) ∧ (∀ col i, DecRS w' (recol col w i) i p n A c ⟨4, numOf g 4, 4294967295⟩) ∧ Below w.heap.size w w' := by
  refine (ropen_yes A n c g w hS hg h4).mono ?_
  rintro e w' ⟨p, rfl, hp, hB, hb⟩
  have hl := numOf_lt hg 4
  exact ⟨p, rfl, fun col i => ⟨hB, recol_ge hp, ⟨by dsimp only; omega, by dsimp only; omega, by dsimp only; omega⟩, h4⟩, hb⟩
theorem rget_s (hD : DecRS w col i p n A cap d) (hR : Rd w A n (by8 g)) (hg : Byt g) (hn : n ≤ 1000000) (c : Int) :
    Calls Try.prog 98 #[.pointer (some ⟨p, 0, none⟩), .int .i64 c] w fun e w' => e = .returned (.tuple #[.int .i64 (d.get g n c).1, .int .i64 (d.get g n c).2.1]) ∧ Upd col i w w' ∧ DecRS w' (recol col w i) i p n A cap (d.get g n c).2.2 := by
  have hok := DS.get_ok (c := c) hg hD.ok hD.le
  obtain ⟨hB, hp, ho, hI⟩ := hD
  have hpl := Box.lt hB
  have hself : ∀ {w'}, Below w.heap.size w w' → DecRS w' (recol col w i) i p n A cap d := fun hb => ⟨hB.below hb hpl, by rw [recol_lt hpl]; exact hp, ho, hI⟩
  unfold DS.get at hok ⊢
  by_cases h1 : chB c = false
  · simp only [if_pos h1] at hok ⊢
    refine (rget_arg p c w h1).mono ?_
    rintro e w' ⟨rfl, rfl⟩
    exact ⟨rfl, Upd.refl _ _ _, hself (Below.refl _ _)⟩
  have hct : chB c = true := by cases hh : chB c <;> simp_all
  have hcb := chB_iff.1 hct
  obtain ⟨ch, rfl⟩ : ∃ ch : Nat, c = ch := ⟨c.toNat, by omega⟩
  simp only [if_neg h1] at hok ⊢
  by_cases h2 : d.wide ≤ d.rest
  · simp only [if_pos h2] at hok ⊢
    refine (rget_over p d.I n cap d.rest d.wide ch A w hB hct h2).mono ?_
    rintro e w' ⟨rfl, hb⟩
    exact ⟨rfl, Upd.of_below hb _ _, hself hb⟩
  simp only [if_neg h2] at hok ⊢
  rw [show ((ch : Int)).toNat = ch by omega] at hok ⊢
  refine (rget_go p d.I n cap d.rest d.wide _ ch A g w hB hR hg (by omega) (by omega) ho.1 ho.2.1 (by omega) rfl hI hn).mono ?_
  generalize d.wide / 2048 * ch = bd at *
  unfold RGet
  rintro e w' (⟨h3, h4, rfl, hb⟩ | ⟨h3, rfl, hu, hd'⟩ | ⟨h3, h4, rfl, hu, hd'⟩)
  · simp only [if_pos h3, if_pos h4] at hok ⊢
    exact ⟨trivial, Upd.of_below hb _ _, hself hb⟩
  · simp only [if_neg h3] at hok ⊢
    exact ⟨trivial, Upd.of_oth hu (fun _ => hp), hd', by rw [recol_lt hpl]; exact hp, hok.1, hok.2.1⟩
  · simp only [if_pos h3, if_neg (show ¬ n ≤ d.I by omega)] at hok ⊢
    exact ⟨trivial, Upd.of_oth hu (fun _ => hp), hd', by rw [recol_lt hpl]; exact hp, hok.1, hok.2.1⟩
end
end Go.Proofs.Ytmnoddmecghjdaa
