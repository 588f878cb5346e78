/- The document's coder: Put. -/
import Derived.Test.YtfooglenhepogaaCe1
namespace Go.Proofs.Ytfooglenhepogaa
open Go.RowKit Go.Kin
set_option linter.unusedVariables false
set_option maxRecDepth 100000 in
set_option maxHeartbeats 4000000 in
theorem rput_yes (col : Nat → Nat) (i p : Nat) (A : Option Addr) (cap : Nat) (s : St) (ch bit : Nat) (w : World) (hE : EncR w col i p s.V s.L s.R A cap) (hs : s.ok) (h1 : 31 ≤ ch) (h2 : ch ≤ 2017) (hb : bit = 0 ∨ bit = 1) (hL : 1 ≤ s.L) (hL2 : s.L ≤ 900000) :
    Calls Try.prog 18 #[.pointer (some ⟨p, 0, none⟩), .int .i64 ch, .int .i64 bit] w fun e w' => e = .returned (.int .i64 0) ∧ Upd col i w w' ∧ ∃ A' c', EncR w' (recol col w i) i p (s.put ch bit).V (s.put ch bit).L (s.put ch bit).R A' c' := by
  obtain ⟨i0, hi0, hz0, hz1, hz2⟩ := parts_int
  have HI := Lib.hid hi0
  clear hi0
  obtain ⟨k, rfl, hkp, hck, hrow, hlc⟩ := hE.L0 hL
  obtain ⟨hB, hO, hcp, _⟩ := hE
  have hch : chB ch = true := by unfold chB; exact decide_eq_true ⟨by omega, by omega⟩
  obtain ⟨bd1, bd2⟩ := St.bd_bd hs h1 h2
  have hbdv : (s.R : Int) / 2048 * ch = (s.bd ch : Nat) := by
    have e : ((s.R / 2048 : Nat) : Int) = (s.R : Int) / 2048 := by omega
    unfold St.bd
    rw [Int.natCast_mul, e]
  obtain ⟨q1, q2⟩ := hs
  have HPUT : Hid (s.put ch bit = (s.half ch bit).norm) := Lib.hid rfl
  have HH : Hid (253952 ≤ (s.half ch bit).R ∧ (s.half ch bit).R ≤ 4294967295 ∧ (s.half ch bit).L = s.L) := Lib.hid (St.half_bd ⟨q1, q2⟩ h1 h2)
  generalize hbd : s.bd ch = bd at *
  have HBD := Lib.hid hbd
  clear hbd
  have kc := Box.cells hB
  have kf := Box.frees hB
  have zq : (s.R : Int).tdiv 2048 = (s.R : Int) / 2048 := Int.tdiv_eq_ediv_of_nonneg (by omega)
  have l0 : 0 ≤ (s.R : Int) / 2048 := by omega
  have l1 : (s.R : Int) / 2048 ≤ 2097152 := by omega
  go_enter Try.func18, Try.ntmps18
  rcases hb with rfl | rfl
  · go_wp2_with (go_at_call 45; refine (rright_any _ _).mono ?_; rintro e w' ⟨rfl, rfl⟩; rw [hch])
    have HHALF : Hid (s.half ch 0 = ⟨s.V, s.L, bd⟩) := Lib.hid (by unfold St.half; rw [HBD.out]; rfl)
    have HENC : Hid (EncR (w.setCell ⟨p, 1, none⟩ (.int .i64 bd)) (recol col w i) i p s.V s.L bd (some ⟨k, 0, none⟩) cap ∧ Upd col i w (w.setCell ⟨p, 1, none⟩ (.int .i64 bd))) := Lib.hid (by
      refine ⟨⟨hB.set 1 _, OwnS.far hO (fun b o e => ?_) _, ?_, fun b o e => ?_⟩, Upd.set hcp 1 _⟩
      · injection e with e; injection e with e; subst e; exact hkp
      · rw [recol_lt (Box.lt hB)]; exact hcp
      · injection e with e; injection e with e; subst e
        exact ⟨by rw [recol_lt (Row.lt hrow)]; exact hck, hkp⟩
      )
    have HE : Hid (EncR (w.setCell ⟨p, 1, none⟩ (.int .i64 bd)) (recol col w i) i p (s.half ch 0).V (s.half ch 0).L (s.half ch 0).R (some ⟨k, 0, none⟩) cap ∧ Upd col i w (w.setCell ⟨p, 1, none⟩ (.int .i64 bd))) := Lib.hid (by
      rw [HHALF.out]
      exact HENC.out)
    go_loopw [] (fun wr => ∃ A' c' t, Upd col i w wr ∧ (t = s.half ch 0 ∨ t = (s.half ch 0).norm) ∧ EncR wr (recol col w i) i p t.V t.L t.R A' c') (fun wr => lack p wr)
    case atStart => exact ⟨_, _, _, HE.out.2, .inl rfl, HE.out.1⟩
    case round =>
      obtain ⟨A', c', t, hu, ht, he⟩ := hrel
      clear HE HENC hB hO kc kf hrow
      obtain ⟨b1, b2, b3⟩ := HH.out
      have hPO := St.put_ok (bit := 0) (⟨q1, q2⟩ : s.ok) h1 h2
      have hLt : 1 ≤ t.L ∧ t.L ≤ 900001 := by
        rcases ht with rfl | rfl
        · omega
        · have := hPO; unfold St.put at this; omega
      have HU := Lib.hid hu
      have HT := Lib.hid ht
      have kc := Box.cells he.box
      have kf := Box.frees he.box
      have kl := Box.lt he.box
      by_cases hn : t.R < 16777216
      · obtain ⟨k', rfl, hkp', hck', hrow', hlc'⟩ := he.L0 hLt.1
        have hn' : (t.R : Int) < 16777216 := by omega
        clear hu ht
        go_upto_region 11 with (fail)
        have hO1 : OwnS (wr.setCell ⟨p, 1, none⟩ (.int .i64 (256 * (t.R : Int)))) 0 3 (some ⟨k', 0, none⟩) t.L c' (in64 (dig t.V t.L)) := OwnS.far he.own (fun b o e => by injection e with e; injection e with e; subst e; exact hkp') _
        have hB1 : Box (wr.setCell ⟨p, 1, none⟩ (.int .i64 (256 * (t.R : Int)))) p #[.slice (some ⟨k', 0, none⟩) t.L c', .int .i64 (256 * (t.R : Int))] := he.box.set 1 _
        have HU1 : Hid (Upd (recol col w i) i wr (wr.setCell ⟨p, 1, none⟩ (.int .i64 (256 * (t.R : Int))))) := Lib.hid (Upd.set he.hp 1 _)
        have hs1 : (wr.setCell ⟨p, 1, none⟩ (.int .i64 (256 * (t.R : Int)))).heap.size = wr.heap.size := size_set _ _ _
        have hkl := Row.lt hrow'
        generalize wr.setCell ⟨p, 1, none⟩ (.int .i64 (256 * (t.R : Int))) = w3 at *
        have HS1 := Lib.hid hs1
        clear kc kf hs1
        have kc := Box.cells hB1
        have HB1 := Lib.hid hB1
        have kl1 := Box.lt hB1
        have hO2 := OwnS.alloc hO1 (.cells #[.int .i64 0] 3)
        have hRd : Rd (w3.alloc (.cells #[.int .i64 0] 3)) (some ⟨w3.heap.size, 0, none⟩) 1 (fun _ => .int .i64 0) := Box.rd (Box.new w3 _ _) (fun j hj => by obtain rfl : j = 0 := (by omega); rfl)
        have hNo : some (⟨w3.heap.size, 0, none⟩ : Addr) = none → 1 = 0 := fun h => by cases h
        have HB4 : Hid (∀ w4, (w3.alloc (.cells #[.int .i64 0] 3)).grownBy w4 (Value.slice (some ⟨k', 0, none⟩) t.L c').ownBlock → Box w4 p #[.slice (some ⟨k', 0, none⟩) t.L c', .int .i64 (256 * (t.R : Int))]) := Lib.hid (fun w4 hg => (HB1.out.alloc _).same (hg.block p (by simp; omega) (by simp [Value.ownBlock]; exact fun e => hkp' e.symm)))
        clear hB1
        go_wp2_with (at_builtin; refine wpList_appS rfl (.tmp 63) (.tmp 64) rfl Try.underlying55 HI.out hz0 hz1 hz2 rfl rfl rfl hO2 hRd hNo (fun _ => rfl) ?_ ?_ ?_ ?_; rotate_right; intro A4 c4 w4 hO4 hG4 hL4; have kc4 := Box.cells (HB4.out w4 hG4); have kf4 := Box.frees (HB4.out w4 hG4); clear kc)
        rotate_left
        · unfold maxLen; omega
        · omega
        · omega
        have hB4 := HB4.out w4 hG4
        have hT : t = s.half ch 0 := by
          rcases HT.out with h | h
          · exact h
          · exfalso
            have := hPO.1.1
            unfold St.put at this
            rw [← h] at this
            omega
        have hN : (s.half ch 0).norm = ⟨t.V * 256, t.L + 1, t.R * 256⟩ := by
          unfold St.norm
          rw [← hT, if_pos hn]
        have hA4 : ∀ b o, A4 = some ⟨b, o, none⟩ → recol col w i b = i ∧ b ≠ p := fun b o e => by
          subst e
          rcases hL4 with h | h
          · simp [Value.ownBlock] at h
            subst h
            exact ⟨hck', hkp'⟩
          · simp [Value.ownBlock] at h
            have h1 := HS1.out
            have h2 := HU.out.size
            exact ⟨recol_ge (by omega), by omega⟩
        have hBf : Box (w4.setCell ⟨p, 0, none⟩ (.slice A4 (t.L + 1) c4)) p #[.slice A4 (t.L + 1) c4, .int .i64 (256 * (t.R : Int))] := hB4.set 0 _
        refine ⟨⟨A4, c4, _, upd_more HU.out HU1.out hG4 hck' he.hp, .inr rfl, ?_⟩, ?_⟩
        · rw [hN]
          refine ⟨?_, (OwnS.far hO4 (fun b o e => (hA4 b o e).2) _).congr (fun j hj => ?_), he.hp, hA4⟩
          · show Box _ p #[.slice A4 (t.L + 1) c4, .int .i64 ((t.R * 256 : Nat) : Int)]
            rw [Int.natCast_mul, Int.mul_comm]
            exact hBf
          · show _ = in64 (dig (t.V * 256) (t.L + 1)) j
            simp only [in64]
            rw [dig_more hj]
            split <;> rfl
        · unfold lack
          rw [hBf.cell, he.box.cell]
          have hr : t.R = (s.half ch 0).R := by rw [← hT]
          simp [intOf]
          omega
      · have hge : ¬ (t.R : Int) < 16777216 := by omega
        have HE := Lib.hid he
        clear hu ht he
        go_wp2
        go_ret
        refine ⟨rfl, HU.out, A', c', ?_⟩
        have hT : s.put ch 0 = t := by
          show (s.half ch 0).norm = t
          rcases HT.out with h | h
          · rw [← h]; unfold St.norm; rw [if_neg hn]
          · exact h.symm
        rw [hT]
        exact HE.out
  · go_wp2_with (go_at_call 45; refine (rright_any _ _).mono ?_; rintro e w' ⟨rfl, rfl⟩; rw [hch])
    refine (radd_any p k s.L cap s.V bd _ _ hB hO (fun e => hkp e.symm) (by omega) (by omega)).mono ?_
    rintro e w1 ⟨rfl, hO1, ho1⟩
    have hB1 := hB.oth ho1 (fun e => hkp e.symm)
    have HO1 := Lib.hid ho1
    clear kc kf ho1
    have kc := Box.cells hB1
    have kf := Box.frees hB1
    have hsub : ((s.R - bd : Nat) : Int) = (s.R : Int) - bd := by omega
    have HSUB := Lib.hid hsub
    clear hsub
    go_wp2_with fail
    have HHALF : Hid (s.half ch 1 = ⟨s.V + bd, s.L, s.R - bd⟩) := Lib.hid (by unfold St.half; rw [HBD.out]; rfl)
    have HENC : Hid (EncR (w1.setCell ⟨p, 1, none⟩ (.int .i64 ((s.R : Int) - bd))) (recol col w i) i p (s.V + bd) s.L (s.R - bd) (some ⟨k, 0, none⟩) cap ∧ Upd col i w (w1.setCell ⟨p, 1, none⟩ (.int .i64 ((s.R : Int) - bd)))) := Lib.hid (by
      refine ⟨⟨by rw [HSUB.out]; exact hB1.set 1 _, OwnS.far hO1 (fun b o e => ?_) _, ?_, fun b o e => ?_⟩, ?_⟩
      · injection e with e; injection e with e; subst e; exact hkp
      · rw [recol_lt (Box.lt hB)]; exact hcp
      · injection e with e; injection e with e; subst e
        exact ⟨by rw [recol_lt (Row.lt hrow)]; exact hck, hkp⟩
      · exact (Upd.of_oth HO1.out (fun _ => hck)).trans (Upd.set (by rw [recol_lt (Box.lt hB)]; exact hcp) 1 _)
      )
    have HE : Hid (EncR (w1.setCell ⟨p, 1, none⟩ (.int .i64 ((s.R : Int) - bd))) (recol col w i) i p (s.half ch 1).V (s.half ch 1).L (s.half ch 1).R (some ⟨k, 0, none⟩) cap ∧ Upd col i w (w1.setCell ⟨p, 1, none⟩ (.int .i64 ((s.R : Int) - bd)))) := Lib.hid (by
      rw [HHALF.out]
      exact HENC.out)
    go_loopw [] (fun wr => ∃ A' c' t, Upd col i w wr ∧ (t = s.half ch 1 ∨ t = (s.half ch 1).norm) ∧ EncR wr (recol col w i) i p t.V t.L t.R A' c') (fun wr => lack p wr)
    case atStart => exact ⟨_, _, _, HE.out.2, .inl rfl, HE.out.1⟩
    case round =>
      obtain ⟨A', c', t, hu, ht, he⟩ := hrel
      clear HE HENC hB hO kc kf hrow hB1 hO1
      obtain ⟨b1, b2, b3⟩ := HH.out
      have hPO := St.put_ok (bit := 1) (⟨q1, q2⟩ : s.ok) h1 h2
      have hLt : 1 ≤ t.L ∧ t.L ≤ 900001 := by
        rcases ht with rfl | rfl
        · omega
        · have := hPO; unfold St.put at this; omega
      have HU := Lib.hid hu
      have HT := Lib.hid ht
      have kc := Box.cells he.box
      have kf := Box.frees he.box
      have kl := Box.lt he.box
      by_cases hn : t.R < 16777216
      · obtain ⟨k', rfl, hkp', hck', hrow', hlc'⟩ := he.L0 hLt.1
        have hn' : (t.R : Int) < 16777216 := by omega
        clear hu ht
        go_upto_region 11 with (fail)
        have hO1 : OwnS (wr.setCell ⟨p, 1, none⟩ (.int .i64 (256 * (t.R : Int)))) 0 3 (some ⟨k', 0, none⟩) t.L c' (in64 (dig t.V t.L)) := OwnS.far he.own (fun b o e => by injection e with e; injection e with e; subst e; exact hkp') _
        have hB1 : Box (wr.setCell ⟨p, 1, none⟩ (.int .i64 (256 * (t.R : Int)))) p #[.slice (some ⟨k', 0, none⟩) t.L c', .int .i64 (256 * (t.R : Int))] := he.box.set 1 _
        have HU1 : Hid (Upd (recol col w i) i wr (wr.setCell ⟨p, 1, none⟩ (.int .i64 (256 * (t.R : Int))))) := Lib.hid (Upd.set he.hp 1 _)
        have hs1 : (wr.setCell ⟨p, 1, none⟩ (.int .i64 (256 * (t.R : Int)))).heap.size = wr.heap.size := size_set _ _ _
        have hkl := Row.lt hrow'
        generalize wr.setCell ⟨p, 1, none⟩ (.int .i64 (256 * (t.R : Int))) = w3 at *
        have HS1 := Lib.hid hs1
        clear kc kf hs1
        have kc := Box.cells hB1
        have HB1 := Lib.hid hB1
        have kl1 := Box.lt hB1
        have hO2 := OwnS.alloc hO1 (.cells #[.int .i64 0] 3)
        have hRd : Rd (w3.alloc (.cells #[.int .i64 0] 3)) (some ⟨w3.heap.size, 0, none⟩) 1 (fun _ => .int .i64 0) := Box.rd (Box.new w3 _ _) (fun j hj => by obtain rfl : j = 0 := (by omega); rfl)
        have hNo : some (⟨w3.heap.size, 0, none⟩ : Addr) = none → 1 = 0 := fun h => by cases h
        have HB4 : Hid (∀ w4, (w3.alloc (.cells #[.int .i64 0] 3)).grownBy w4 (Value.slice (some ⟨k', 0, none⟩) t.L c').ownBlock → Box w4 p #[.slice (some ⟨k', 0, none⟩) t.L c', .int .i64 (256 * (t.R : Int))]) := Lib.hid (fun w4 hg => (HB1.out.alloc _).same (hg.block p (by simp; omega) (by simp [Value.ownBlock]; exact fun e => hkp' e.symm)))
        clear hB1
        go_wp2_with (at_builtin; refine wpList_appS rfl (.tmp 63) (.tmp 64) rfl Try.underlying55 HI.out hz0 hz1 hz2 rfl rfl rfl hO2 hRd hNo (fun _ => rfl) ?_ ?_ ?_ ?_; rotate_right; intro A4 c4 w4 hO4 hG4 hL4; have kc4 := Box.cells (HB4.out w4 hG4); have kf4 := Box.frees (HB4.out w4 hG4); clear kc)
        rotate_left
        · unfold maxLen; omega
        · omega
        · omega
        have hB4 := HB4.out w4 hG4
        have hT : t = s.half ch 1 := by
          rcases HT.out with h | h
          · exact h
          · exfalso
            have := hPO.1.1
            unfold St.put at this
            rw [← h] at this
            omega
        have hN : (s.half ch 1).norm = ⟨t.V * 256, t.L + 1, t.R * 256⟩ := by
          unfold St.norm
          rw [← hT, if_pos hn]
        have hA4 : ∀ b o, A4 = some ⟨b, o, none⟩ → recol col w i b = i ∧ b ≠ p := fun b o e => by
          subst e
          rcases hL4 with h | h
          · simp [Value.ownBlock] at h
            subst h
            exact ⟨hck', hkp'⟩
          · simp [Value.ownBlock] at h
            have h1 := HS1.out
            have h2 := HU.out.size
            exact ⟨recol_ge (by omega), by omega⟩
        have hBf : Box (w4.setCell ⟨p, 0, none⟩ (.slice A4 (t.L + 1) c4)) p #[.slice A4 (t.L + 1) c4, .int .i64 (256 * (t.R : Int))] := hB4.set 0 _
        refine ⟨⟨A4, c4, _, upd_more HU.out HU1.out hG4 hck' he.hp, .inr rfl, ?_⟩, ?_⟩
        · rw [hN]
          refine ⟨?_, (OwnS.far hO4 (fun b o e => (hA4 b o e).2) _).congr (fun j hj => ?_), he.hp, hA4⟩
          · show Box _ p #[.slice A4 (t.L + 1) c4, .int .i64 ((t.R * 256 : Nat) : Int)]
            rw [Int.natCast_mul, Int.mul_comm]
            exact hBf
          · show _ = in64 (dig (t.V * 256) (t.L + 1)) j
            simp only [in64]
            rw [dig_more hj]
            split <;> rfl
        · unfold lack
          rw [hBf.cell, he.box.cell]
          have hr : t.R = (s.half ch 1).R := by rw [← hT]
          simp [intOf]
          omega
      · have hge : ¬ (t.R : Int) < 16777216 := by omega
        have HE := Lib.hid he
        clear hu ht he
        go_wp2
        go_ret
        refine ⟨rfl, HU.out, A', c', ?_⟩
        have hT : s.put ch 1 = t := by
          show (s.half ch 1).norm = t
          rcases HT.out with h | h
          · rw [← h]; unfold St.norm; rw [if_neg hn]
          · exact h.symm
        rw [hT]
        exact HE.out
end Go.Proofs.Ytfooglenhepogaa
