/- Walks of package coder: Put, that puts. -/
import Derived.Test.YtmnoddmecghjdaaCo3M
namespace Go.Kin
open Go.RowKit
theorem upd_more {col : Nat → Nat} {i p k' : Nat} {w wr w3 w4 : World} {o : Obj} {v : Value} (hu : Upd col i w wr) (h1 : Upd (recol col w i) i wr w3) (hg : (w3.alloc o).grownBy w4 (some k')) (hk : recol col w i k' = i) (hp : recol col w i p = i) : Upd col i w (w4.setCell ⟨p, 0, none⟩ v) := by
  have ha := Upd.alloc (recol col w i) i w3 o
  refine ⟨hg.os.trans (ha.os.trans (h1.os.trans hu.os)), hg.tape.trans (ha.tape.trans (h1.tape.trans hu.tape)), hg.output.trans (ha.output.trans (h1.output.trans hu.output)), ?_, fun q hq hn => ?_⟩
  · rw [size_set]
    exact Nat.le_trans hu.size (Nat.le_trans h1.size (Nat.le_trans ha.size hg.size))
  · have hc : recol col w i q ≠ i := by rw [recol_lt hq]; exact hn
    have q1 : q < wr.heap.size := Nat.lt_of_lt_of_le hq hu.size
    have q2 : q < w3.heap.size := Nat.lt_of_lt_of_le q1 h1.size
    have q3 : q < (w3.alloc o).heap.size := Nat.lt_of_lt_of_le q2 ha.size
    rw [Below.heap_setCell w4 ⟨p, 0, none⟩ v q (fun e => hc (by rw [e]; exact hp)), hg.block q q3 (fun e => hc (by cases e; exact hk)), ha.block q q2 hc, h1.block q q1 hc, hu.block q hq hn]
end Go.Kin
namespace Go.Proofs.Ytmnoddmecghjdaa
open Go.RowKit Go.Kin
set_option linter.unusedVariables false
/-- The measure of the loop: how far the range is from the greatest. -/
def lack (p : Nat) (w : World) : Nat := (4294967296 - intOf ((w.cell? ⟨p, 1, none⟩).getD (.int .i64 0))).toNat
set_option maxRecDepth 100000 in
set_option maxHeartbeats 4000000 in
theorem put_yes (col : Nat → Nat) (i p : Nat) (A : Option Addr) (cap : Nat) (s : St) (ch bit : Nat) (w : World) (hE : Enc w col i p s.V s.L s.R A cap) (hs : s.ok) (h1 : 31 ≤ ch) (h2 : ch ≤ 2017) (hb : bit = 0 ∨ bit = 1) (hL : 1 ≤ s.L) (hL2 : s.L ≤ 900000) :
    Calls Try.prog 90 #[.pointer (some ⟨p, 0, none⟩), .int .u16 ch, .int .i64 bit] w fun e w' => e = .returned (.int .i64 0) ∧ Upd col i w w' ∧ ∃ A' c', Enc w' (recol col w i) i p (s.put ch bit).V (s.put ch bit).L (s.put ch bit).R A' c' := by
  obtain ⟨i0, hi0, hz0, hz1, hz2⟩ := parts_u8
  have HI := Lib.hid hi0
  clear hi0
  obtain ⟨k, rfl, hkp, hck, hrow, hlc⟩ := hE.L0 hL
  obtain ⟨hB, hO, hcp, _⟩ := hE
  have hch : chB ch = true := by unfold chB; exact decide_eq_true ⟨by omega, by omega⟩
  obtain ⟨bd1, bd2⟩ := St.bd_bd hs h1 h2
  have hbdv : (s.R : Int) / 2048 * ch = (s.bd ch : Nat) := by
    have e : ((s.R / 2048 : Nat) : Int) = (s.R : Int) / 2048 := by omega
    unfold St.bd
    rw [Int.natCast_mul, e]
  obtain ⟨q1, q2⟩ := hs
  have HPUT : Hid (s.put ch bit = (s.half ch bit).norm) := Lib.hid rfl
  have HH : Hid (253952 ≤ (s.half ch bit).R ∧ (s.half ch bit).R ≤ 4294967295 ∧ (s.half ch bit).L = s.L) := Lib.hid (St.half_bd ⟨q1, q2⟩ h1 h2)
  generalize hbd : s.bd ch = bd at *
  have HBD := Lib.hid hbd
  clear hbd
  have kc := Box.cells hB
  have kf := Box.frees hB
  have zq : (s.R : Int).tdiv 2048 = (s.R : Int) / 2048 := Int.tdiv_eq_ediv_of_nonneg (by omega)
  have l0 : 0 ≤ (s.R : Int) / 2048 := by omega
  have l1 : (s.R : Int) / 2048 ≤ 2097152 := by omega
  go_enter Try.func90, Try.ntmps90
  rcases hb with rfl | rfl
  · go_wp2_with (first | (go_at_call 99; refine (cright_any _ _).mono ?_; rintro e w' ⟨rfl, rfl⟩; rw [hch]) | (go_at_call 47; refine (begin_any p _ s.L cap _ _ hB hL).mono ?_; rintro e w' ⟨rfl, rfl⟩))
    have HHALF : Hid (s.half ch 0 = ⟨s.V, s.L, bd⟩) := Lib.hid (by unfold St.half; rw [HBD.out]; rfl)
    have HENC : Hid (Enc (w.setCell ⟨p, 1, none⟩ (.int .u32 bd)) (recol col w i) i p s.V s.L bd (some ⟨k, 0, none⟩) cap ∧ Upd col i w (w.setCell ⟨p, 1, none⟩ (.int .u32 bd))) := Lib.hid (by
      refine ⟨⟨hB.set 1 _, OwnS.far hO (fun b o e => ?_) _, ?_, fun b o e => ?_⟩, Upd.set hcp 1 _⟩
      · injection e with e; injection e with e; subst e; exact hkp
      · rw [recol_lt (Box.lt hB)]; exact hcp
      · injection e with e; injection e with e; subst e
        exact ⟨by rw [recol_lt (Row.lt hrow)]; exact hck, hkp⟩
      )
    have HE : Hid (Enc (w.setCell ⟨p, 1, none⟩ (.int .u32 bd)) (recol col w i) i p (s.half ch 0).V (s.half ch 0).L (s.half ch 0).R (some ⟨k, 0, none⟩) cap ∧ Upd col i w (w.setCell ⟨p, 1, none⟩ (.int .u32 bd))) := Lib.hid (by
      rw [HHALF.out]
      exact HENC.out)
    go_loopw [] (fun wr => ∃ A' c' t, Upd col i w wr ∧ (t = s.half ch 0 ∨ t = (s.half ch 0).norm) ∧ Enc wr (recol col w i) i p t.V t.L t.R A' c') (fun wr => lack p wr)
    case atStart => exact ⟨_, _, _, HE.out.2, .inl rfl, HE.out.1⟩
    case round =>
      obtain ⟨A', c', t, hu, ht, he⟩ := hrel
      clear HE HENC hB hO kc kf hrow
      obtain ⟨b1, b2, b3⟩ := HH.out
      have hPO := St.put_ok (bit := 0) (⟨q1, q2⟩ : s.ok) h1 h2
      have hLt : 1 ≤ t.L ∧ t.L ≤ 900001 := by
        rcases ht with rfl | rfl
        · omega
        · have := hPO; unfold St.put at this; omega
      have HU := Lib.hid hu
      have HT := Lib.hid ht
      have kc := Box.cells he.box
      have kf := Box.frees he.box
      have kl := Box.lt he.box
      by_cases hn : t.R < 16777216
      · obtain ⟨k', rfl, hkp', hck', hrow', hlc'⟩ := he.L0 hLt.1
        have hn' : (t.R : Int) < 16777216 := by omega
        clear hu ht
        go_upto_region 11 with (fail)
        have hO1 : OwnS (wr.setCell ⟨p, 1, none⟩ (.int .u32 ((t.R : Int) * 256))) 0 5 (some ⟨k', 0, none⟩) t.L c' (by8 (dig t.V t.L)) := OwnS.far he.own (fun b o e => by injection e with e; injection e with e; subst e; exact hkp') _
        have hB1 : Box (wr.setCell ⟨p, 1, none⟩ (.int .u32 ((t.R : Int) * 256))) p #[.slice (some ⟨k', 0, none⟩) t.L c', .int .u32 ((t.R : Int) * 256)] := he.box.set 1 _
        have HU1 : Hid (Upd (recol col w i) i wr (wr.setCell ⟨p, 1, none⟩ (.int .u32 ((t.R : Int) * 256)))) := Lib.hid (Upd.set he.hp 1 _)
        have hs1 : (wr.setCell ⟨p, 1, none⟩ (.int .u32 ((t.R : Int) * 256))).heap.size = wr.heap.size := size_set _ _ _
        have hkl := Row.lt hrow'
        generalize wr.setCell ⟨p, 1, none⟩ (.int .u32 ((t.R : Int) * 256)) = w3 at *
        have HS1 := Lib.hid hs1
        clear kc kf hs1
        have kc := Box.cells hB1
        have HB1 := Lib.hid hB1
        have kl1 := Box.lt hB1
        have hO2 := OwnS.alloc hO1 (.cells #[.int .u8 0] 5)
        have hRd : Rd (w3.alloc (.cells #[.int .u8 0] 5)) (some ⟨w3.heap.size, 0, none⟩) 1 (fun _ => .int .u8 0) := Box.rd (Box.new w3 _ _) (fun j hj => by obtain rfl : j = 0 := (by omega); rfl)
        have hNo : some (⟨w3.heap.size, 0, none⟩ : Addr) = none → 1 = 0 := fun h => by cases h
        have HB4 : Hid (∀ w4, (w3.alloc (.cells #[.int .u8 0] 5)).grownBy w4 (Value.slice (some ⟨k', 0, none⟩) t.L c').ownBlock → Box w4 p #[.slice (some ⟨k', 0, none⟩) t.L c', .int .u32 ((t.R : Int) * 256)]) := Lib.hid (fun w4 hg => (HB1.out.alloc _).same (hg.block p (by simp; omega) (by simp [Value.ownBlock]; exact fun e => hkp' e.symm)))
        clear hB1
        go_wp2_with (at_builtin; refine wpList_appS rfl (.tmp 66) (.tmp 67) rfl Try.underlying37 HI.out hz0 hz1 hz2 rfl rfl rfl hO2 hRd hNo (fun _ => rfl) ?_ ?_ ?_ ?_; rotate_right; intro A4 c4 w4 hO4 hG4 hL4; have kc4 := Box.cells (HB4.out w4 hG4); have kf4 := Box.frees (HB4.out w4 hG4); clear kc)
        rotate_left
        · unfold maxLen; omega
        · omega
        · omega
        have hB4 := HB4.out w4 hG4
        have hT : t = s.half ch 0 := by
          rcases HT.out with h | h
          · exact h
          · exfalso
            have := hPO.1.1
            unfold St.put at this
            rw [← h] at this
            omega
        have hN : (s.half ch 0).norm = ⟨t.V * 256, t.L + 1, t.R * 256⟩ := by
          unfold St.norm
          rw [← hT, if_pos hn]
        have hA4 : ∀ b o, A4 = some ⟨b, o, none⟩ → recol col w i b = i ∧ b ≠ p := fun b o e => by
          subst e
          rcases hL4 with h | h
          · simp [Value.ownBlock] at h
            subst h
            exact ⟨hck', hkp'⟩
          · simp [Value.ownBlock] at h
            have h1 := HS1.out
            have h2 := HU.out.size
            exact ⟨recol_ge (by omega), by omega⟩
        have hBf : Box (w4.setCell ⟨p, 0, none⟩ (.slice A4 (t.L + 1) c4)) p #[.slice A4 (t.L + 1) c4, .int .u32 ((t.R : Int) * 256)] := hB4.set 0 _
        refine ⟨⟨A4, c4, _, upd_more HU.out HU1.out hG4 hck' he.hp, .inr rfl, ?_⟩, ?_⟩
        · rw [hN]
          refine ⟨?_, (OwnS.far hO4 (fun b o e => (hA4 b o e).2) _).congr (fun j hj => ?_), he.hp, hA4⟩
          · show Box _ p #[.slice A4 (t.L + 1) c4, .int .u32 ((t.R * 256 : Nat) : Int)]
            rw [Int.natCast_mul]
            exact hBf
          · show _ = by8 (dig (t.V * 256) (t.L + 1)) j
            simp only [by8]
            rw [dig_more hj]
            split <;> rfl
        · unfold lack
          rw [hBf.cell, he.box.cell]
          have hr : t.R = (s.half ch 0).R := by rw [← hT]
          simp [intOf]
          omega
      · have hge : ¬ (t.R : Int) < 16777216 := by omega
        have HE := Lib.hid he
        clear hu ht he
        go_wp2
        go_ret
        refine ⟨rfl, HU.out, A', c', ?_⟩
        have hT : s.put ch 0 = t := by
          show (s.half ch 0).norm = t
          rcases HT.out with h | h
          · rw [← h]; unfold St.norm; rw [if_neg hn]
          · exact h.symm
        rw [hT]
        exact HE.out
  · go_wp2_with (first | (go_at_call 99; refine (cright_any _ _).mono ?_; rintro e w' ⟨rfl, rfl⟩; rw [hch]) | (go_at_call 47; refine (begin_any p _ s.L cap _ _ hB hL).mono ?_; rintro e w' ⟨rfl, rfl⟩))
    refine (add_any p k s.L cap s.V bd _ _ hB hO (fun e => hkp e.symm) (by omega) (by omega)).mono ?_
    rintro e w1 ⟨rfl, hO1, ho1⟩
    have hB1 := hB.oth ho1 (fun e => hkp e.symm)
    have HO1 := Lib.hid ho1
    clear kc kf ho1
    have kc := Box.cells hB1
    have kf := Box.frees hB1
    have hsub : ((s.R - bd : Nat) : Int) = (s.R : Int) - bd := by omega
    have HSUB := Lib.hid hsub
    clear hsub
    go_wp2_with fail
    have HHALF : Hid (s.half ch 1 = ⟨s.V + bd, s.L, s.R - bd⟩) := Lib.hid (by unfold St.half; rw [HBD.out]; rfl)
    have HENC : Hid (Enc (w1.setCell ⟨p, 1, none⟩ (.int .u32 ((s.R : Int) - bd))) (recol col w i) i p (s.V + bd) s.L (s.R - bd) (some ⟨k, 0, none⟩) cap ∧ Upd col i w (w1.setCell ⟨p, 1, none⟩ (.int .u32 ((s.R : Int) - bd)))) := Lib.hid (by
      refine ⟨⟨by rw [HSUB.out]; exact hB1.set 1 _, OwnS.far hO1 (fun b o e => ?_) _, ?_, fun b o e => ?_⟩, ?_⟩
      · injection e with e; injection e with e; subst e; exact hkp
      · rw [recol_lt (Box.lt hB)]; exact hcp
      · injection e with e; injection e with e; subst e
        exact ⟨by rw [recol_lt (Row.lt hrow)]; exact hck, hkp⟩
      · exact (Upd.of_oth HO1.out (fun _ => hck)).trans (Upd.set (by rw [recol_lt (Box.lt hB)]; exact hcp) 1 _)
      )
    have HE : Hid (Enc (w1.setCell ⟨p, 1, none⟩ (.int .u32 ((s.R : Int) - bd))) (recol col w i) i p (s.half ch 1).V (s.half ch 1).L (s.half ch 1).R (some ⟨k, 0, none⟩) cap ∧ Upd col i w (w1.setCell ⟨p, 1, none⟩ (.int .u32 ((s.R : Int) - bd)))) := Lib.hid (by
      rw [HHALF.out]
      exact HENC.out)
    go_loopw [] (fun wr => ∃ A' c' t, Upd col i w wr ∧ (t = s.half ch 1 ∨ t = (s.half ch 1).norm) ∧ Enc wr (recol col w i) i p t.V t.L t.R A' c') (fun wr => lack p wr)
    case atStart => exact ⟨_, _, _, HE.out.2, .inl rfl, HE.out.1⟩
    case round =>
      obtain ⟨A', c', t, hu, ht, he⟩ := hrel
      clear HE HENC hB hO kc kf hrow hB1 hO1
      obtain ⟨b1, b2, b3⟩ := HH.out
      have hPO := St.put_ok (bit := 1) (⟨q1, q2⟩ : s.ok) h1 h2
      have hLt : 1 ≤ t.L ∧ t.L ≤ 900001 := by
        rcases ht with rfl | rfl
        · omega
        · have := hPO; unfold St.put at this; omega
      have HU := Lib.hid hu
      have HT := Lib.hid ht
      have kc := Box.cells he.box
      have kf := Box.frees he.box
      have kl := Box.lt he.box
      by_cases hn : t.R < 16777216
      · obtain ⟨k', rfl, hkp', hck', hrow', hlc'⟩ := he.L0 hLt.1
        have hn' : (t.R : Int) < 16777216 := by omega
        clear hu ht
        go_upto_region 11 with (fail)
        have hO1 : OwnS (wr.setCell ⟨p, 1, none⟩ (.int .u32 ((t.R : Int) * 256))) 0 5 (some ⟨k', 0, none⟩) t.L c' (by8 (dig t.V t.L)) := OwnS.far he.own (fun b o e => by injection e with e; injection e with e; subst e; exact hkp') _
        have hB1 : Box (wr.setCell ⟨p, 1, none⟩ (.int .u32 ((t.R : Int) * 256))) p #[.slice (some ⟨k', 0, none⟩) t.L c', .int .u32 ((t.R : Int) * 256)] := he.box.set 1 _
        have HU1 : Hid (Upd (recol col w i) i wr (wr.setCell ⟨p, 1, none⟩ (.int .u32 ((t.R : Int) * 256)))) := Lib.hid (Upd.set he.hp 1 _)
        have hs1 : (wr.setCell ⟨p, 1, none⟩ (.int .u32 ((t.R : Int) * 256))).heap.size = wr.heap.size := size_set _ _ _
        have hkl := Row.lt hrow'
        generalize wr.setCell ⟨p, 1, none⟩ (.int .u32 ((t.R : Int) * 256)) = w3 at *
        have HS1 := Lib.hid hs1
        clear kc kf hs1
        have kc := Box.cells hB1
        have HB1 := Lib.hid hB1
        have kl1 := Box.lt hB1
        have hO2 := OwnS.alloc hO1 (.cells #[.int .u8 0] 5)
        have hRd : Rd (w3.alloc (.cells #[.int .u8 0] 5)) (some ⟨w3.heap.size, 0, none⟩) 1 (fun _ => .int .u8 0) := Box.rd (Box.new w3 _ _) (fun j hj => by obtain rfl : j = 0 := (by omega); rfl)
        have hNo : some (⟨w3.heap.size, 0, none⟩ : Addr) = none → 1 = 0 := fun h => by cases h
        have HB4 : Hid (∀ w4, (w3.alloc (.cells #[.int .u8 0] 5)).grownBy w4 (Value.slice (some ⟨k', 0, none⟩) t.L c').ownBlock → Box w4 p #[.slice (some ⟨k', 0, none⟩) t.L c', .int .u32 ((t.R : Int) * 256)]) := Lib.hid (fun w4 hg => (HB1.out.alloc _).same (hg.block p (by simp; omega) (by simp [Value.ownBlock]; exact fun e => hkp' e.symm)))
        clear hB1
        go_wp2_with (at_builtin; refine wpList_appS rfl (.tmp 66) (.tmp 67) rfl Try.underlying37 HI.out hz0 hz1 hz2 rfl rfl rfl hO2 hRd hNo (fun _ => rfl) ?_ ?_ ?_ ?_; rotate_right; intro A4 c4 w4 hO4 hG4 hL4; have kc4 := Box.cells (HB4.out w4 hG4); have kf4 := Box.frees (HB4.out w4 hG4); clear kc)
        rotate_left
        · unfold maxLen; omega
        · omega
        · omega
        have hB4 := HB4.out w4 hG4
        have hT : t = s.half ch 1 := by
          rcases HT.out with h | h
          · exact h
          · exfalso
            have := hPO.1.1
            unfold St.put at this
            rw [← h] at this
            omega
        have hN : (s.half ch 1).norm = ⟨t.V * 256, t.L + 1, t.R * 256⟩ := by
          unfold St.norm
          rw [← hT, if_pos hn]
        have hA4 : ∀ b o, A4 = some ⟨b, o, none⟩ → recol col w i b = i ∧ b ≠ p := fun b o e => by
          subst e
          rcases hL4 with h | h
          · simp [Value.ownBlock] at h
            subst h
            exact ⟨hck', hkp'⟩
          · simp [Value.ownBlock] at h
            have h1 := HS1.out
            have h2 := HU.out.size
            exact ⟨recol_ge (by omega), by omega⟩
        have hBf : Box (w4.setCell ⟨p, 0, none⟩ (.slice A4 (t.L + 1) c4)) p #[.slice A4 (t.L + 1) c4, .int .u32 ((t.R : Int) * 256)] := hB4.set 0 _
        refine ⟨⟨A4, c4, _, upd_more HU.out HU1.out hG4 hck' he.hp, .inr rfl, ?_⟩, ?_⟩
        · rw [hN]
          refine ⟨?_, (OwnS.far hO4 (fun b o e => (hA4 b o e).2) _).congr (fun j hj => ?_), he.hp, hA4⟩
          · show Box _ p #[.slice A4 (t.L + 1) c4, .int .u32 ((t.R * 256 : Nat) : Int)]
            rw [Int.natCast_mul]
            exact hBf
          · show _ = by8 (dig (t.V * 256) (t.L + 1)) j
            simp only [by8]
            rw [dig_more hj]
            split <;> rfl
        · unfold lack
          rw [hBf.cell, he.box.cell]
          have hr : t.R = (s.half ch 1).R := by rw [← hT]
          simp [intOf]
          omega
      · have hge : ¬ (t.R : Int) < 16777216 := by omega
        have HE := Lib.hid he
        clear hu ht he
        go_wp2
        go_ret
        refine ⟨rfl, HU.out, A', c', ?_⟩
        have hT : s.put ch 1 = t := by
          show (s.half ch 1).norm = t
          rcases HT.out with h | h
          · rw [← h]; unfold St.norm; rw [if_neg hn]
          · exact h.symm
        rw [hT]
        exact HE.out
end Go.Proofs.Ytmnoddmecghjdaa
/- Walks of package coder: Bytes. -/
namespace Go.Proofs.Ytmnoddmecghjdaa
open Go.RowKit Go.Kin
set_option linter.unusedVariables false
theorem bytes_nil (w : World) : Calls Try.prog 22 #[.pointer none] w fun e w' => e = .returned (.slice none 0 0) ∧ w = w' := by
  go_enter Try.func22, Try.ntmps22
  go_wp2
  go_ret
  exact ⟨rfl, rfl⟩
set_option maxRecDepth 100000 in
set_option maxHeartbeats 2000000 in
theorem bytes_any (col : Nat → Nat) (i p V L R : Nat) (A : Option Addr) (cap : Nat) (w : World) (hE : Enc w col i p V L R A cap) (hL : 1 ≤ L) (hL2 : L ≤ 1000000) :
    Calls Try.prog 22 #[.pointer (some ⟨p, 0, none⟩)] w fun e w' => ∃ A', e = .returned (.slice A' L L) ∧ Rd w' A' L (by8 (dig V L)) ∧ (∀ k o, A' = some ⟨k, o, none⟩ → w.heap.size ≤ k) ∧ Below w.heap.size w w' := by
  obtain ⟨i0, hi0, hz0, hz1, hz2⟩ := parts_u8
  have HI := Lib.hid hi0
  clear hi0
  obtain ⟨k, rfl, hkp, hck, hrow, hlc⟩ := hE.L0 hL
  obtain ⟨hB, hO, hcp, _⟩ := hE
  have kc := Box.cells hB
  have hRd := hrow.rd
  have hN0 := OwnS.nil w w.heap.size 5 (by8 (dig V L))
  have hNo : some (⟨k, 0, none⟩ : Addr) = none → L = 0 := fun h => by cases h
  have HCL : Hid (∀ (A4 : Option Addr) (c4 : Nat) (w4 : World) (f : Nat → Value), OwnS w4 w.heap.size 5 A4 (0 + L) c4 f → (L : Int) ≤ c4 ∧ L ≤ c4) := Lib.hid (fun A4 c4 w4 f h => by rcases h.cases with ⟨_, h0, _⟩ | ⟨_, _, _, _, h0, _⟩ <;> omega)
  go_enter Try.func22, Try.ntmps22
  go_wp2_with (first | (go_at_call 47; refine (begin_any p _ L cap _ _ hB hL).mono ?_; rintro e w' ⟨rfl, rfl⟩) | (at_builtin; refine wpList_appS rfl (.const (.slice none 0 0)) (.tmp 11) rfl Try.underlying37 HI.out hz0 hz1 hz2 rfl rfl rfl hN0 hRd hNo (fun _ => rfl) ?_ ?_ ?_ ?_; rotate_right; intro A4 c4 w4 hO4 hG4 hL4; have c1 := (HCL.out _ _ _ _ hO4).1; have c2 := (HCL.out _ _ _ _ hO4).2))
  rotate_left
  · unfold maxLen; omega
  · omega
  · omega
  go_ret
  refine ⟨A4, rfl, ?_, fun k o e => (OwnS.lt hO4 e).1, ?_⟩
  · have h := hO4.rd
    rw [Nat.zero_add] at h
    exact h.congr (fun j _ => by simp)
  · exact (Below.refl _ w).grown hG4 (Nat.le_refl _) (fun k hk => by simp [Value.ownBlock] at hk)
end Go.Proofs.Ytmnoddmecghjdaa
/- Walks of package coder: End; Get, when it answers with ErrArg; Put of no encoder. -/
namespace Go.Proofs.Ytmnoddmecghjdaa
open Go.RowKit Go.Kin
set_option linter.unusedVariables false
/-- The decoder: its struct, and the bytes that were not needed yet. -/
structure Dec (w : World) (col : Nat → Nat) (i p : Nat) (A : Option Addr) (n c : Nat) (g : Nat → Int) (rest wide : Nat) : Prop where
  box : Box w p #[.slice A n c, .int .u32 rest, .int .u32 wide]
  rd : Rd w A n (by8 g)
  hp : col p = i
  hA : n = 0 ∨ ∀ k o, A = some ⟨k, o, none⟩ → col k = i ∧ k ≠ p
  le : n ≤ c ∧ c ≤ 9223372036854775807
theorem end_nil (w : World) : Calls Try.prog 31 #[.pointer none] w fun e w' => e = .returned (.int .i64 1) ∧ w = w' := by
  go_enter Try.func31, Try.ntmps31
  go_wp2
  go_ret
  exact ⟨rfl, rfl⟩
/-- What End answers. -/
def endK (n rest : Nat) : Int := if n = 0 ∧ rest = 0 then 0 else 41
theorem end_any (p : Nat) (A : Option Addr) (n c rest : Nat) (x : Value) (w : World) (hB : Box w p #[.slice A n c, .int .u32 rest, x]) :
    Calls Try.prog 31 #[.pointer (some ⟨p, 0, none⟩)] w fun e w' => e = .returned (.int .i64 (endK n rest)) ∧ w = w' := by
  have kc := Box.cells hB
  by_cases h : n = 0
  · subst h
    by_cases h2 : rest = 0
    · have H := Lib.hid (show endK 0 rest = 0 by unfold endK; rw [if_pos ⟨rfl, h2⟩])
      have r0 : ((rest : Int) != 0) = false := by simp [h2]
      clear h2
      go_enter Try.func31, Try.ntmps31
      go_wp2
      go_ret
      exact ⟨ret_int (by rw [H.out]), rfl⟩
    · have H := Lib.hid (show endK 0 rest = 41 by unfold endK; rw [if_neg (fun e => h2 e.2)])
      have r0 : ((rest : Int) != 0) = true := by simp [h2]
      clear h2
      go_enter Try.func31, Try.ntmps31
      go_wp2
      go_ret
      exact ⟨ret_int (by rw [H.out]), rfl⟩
  · have H := Lib.hid (show endK n rest = 41 by unfold endK; rw [if_neg (fun e => h e.1)])
    have n0 : 0 < (n : Int) := by omega
    clear h
    go_enter Try.func31, Try.ntmps31
    go_wp2
    go_ret
    exact ⟨ret_int (by rw [H.out]), rfl⟩
theorem get_nil (c : Int) (w : World) : Calls Try.prog 97 #[.pointer none, .int .u16 c] w fun e w' => e = .returned (.tuple #[.int .i64 0, .int .i64 1]) ∧ w = w' := by
  go_enter Try.func97, Try.ntmps97
  go_wp2
  go_ret2
  exact ⟨rfl, rfl⟩
theorem get_arg (p : Nat) (c : Int) (w : World) (h : chB c = false) : Calls Try.prog 97 #[.pointer (some ⟨p, 0, none⟩), .int .u16 c] w fun e w' => e = .returned (.tuple #[.int .i64 0, .int .i64 1]) ∧ w = w' := by
  go_enter Try.func97, Try.ntmps97
  go_wp2_with (go_at_call 99; refine (cright_any _ _).mono ?_; rintro e w' ⟨rfl, rfl⟩; rw [h])
  go_ret2
  exact ⟨rfl, rfl⟩
theorem put_nil (c bit : Int) (w : World) : Calls Try.prog 90 #[.pointer none, .int .u16 c, .int .i64 bit] w fun e w' => e = .returned (.int .i64 1) ∧ w = w' := by
  go_enter Try.func90, Try.ntmps90
  go_wp2
  go_ret
  exact ⟨rfl, rfl⟩
end Go.Proofs.Ytmnoddmecghjdaa
