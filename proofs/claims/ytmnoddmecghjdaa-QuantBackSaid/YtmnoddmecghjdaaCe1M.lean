/- The document's coder (ref04): Right, Next, New, add. -/
import Derived.Test.YtmnoddmecghjdaaCp1
namespace Go.Proofs.Ytmnoddmecghjdaa
open Go.RowKit Go.Kin
set_option linter.unusedVariables false
theorem info_int : (Try.prog.info? 3).map (fun i => (i.zero, i.size, i.bytes)) = some (some (.int .i64 0), 1, 8) := by kernel_rfl
theorem parts_int : ∃ i, Try.prog.info? 3 = some i ∧ i.zero = some (.int .i64 0) ∧ i.size = 1 ∧ i.bytes = 8 := info_parts info_int
theorem rright_any (c : Int) (w : World) : Calls Try.prog 101 #[.int .i64 c] w fun e w' => e = .returned (.bool (chB c)) ∧ w = w' := by
  have H : Hid (chB c = (decide (31 ≤ c) && decide (c ≤ 2017))) := Lib.hid (by unfold chB; by_cases h1 : 31 ≤ c <;> by_cases h2 : c ≤ 2017 <;> simp [h1, h2])
  by_cases h : 31 ≤ c
  · have HE : Hid (decide (31 ≤ c) = true) := Lib.hid (by simp [h])
    go_enter Try.func101, Try.ntmps101
    go_wp2
    go_ret
    exact ⟨ret_bool (by rw [H.out, HE.out, Bool.true_and]), rfl⟩
  · have HE : Hid (decide (31 ≤ c) = false) := Lib.hid (by simp [h])
    go_enter Try.func101, Try.ntmps101
    go_wp2
    go_ret
    exact ⟨ret_bool (by rw [H.out, HE.out, Bool.false_and]), rfl⟩
set_option maxHeartbeats 1000000 in
theorem rnext_any (c bit : Int) (w : World) (hc : 0 ≤ c ∧ c ≤ 65535) : Calls Try.prog 96 #[.int .i64 c, .int .i64 bit] w fun e w' => e = .returned (.int .i64 (nextP c bit)) ∧ w = w' := by
  by_cases h : bit = 0
  · have H := Lib.hid (show nextP c bit = min (max c 31) 2017 + (2048 - min (max c 31) 2017) / 32 by unfold nextP; rw [if_pos h])
    have hb : (bit == 0) = true := by simp [h]
    have z : (2048 - min (max c 31) 2017).tdiv 32 = (2048 - min (max c 31) 2017) / 32 := Int.tdiv_eq_ediv_of_nonneg (by omega)
    clear h
    go_enter Try.func96, Try.ntmps96
    go_wp2
    go_ret
    exact ⟨ret_int (by rw [H.out]), rfl⟩
  · have H := Lib.hid (show nextP c bit = min (max c 31) 2017 - min (max c 31) 2017 / 32 by unfold nextP; rw [if_neg h])
    have hb : (bit == 0) = false := by simp [h]
    have z : (min (max c 31) 2017).tdiv 32 = (min (max c 31) 2017) / 32 := Int.tdiv_eq_ediv_of_nonneg (by omega)
    clear h
    go_enter Try.func96, Try.ntmps96
    go_wp2
    go_ret
    exact ⟨ret_int (by rw [H.out]), rfl⟩
set_option maxHeartbeats 1000000 in
theorem radd_any (p k L c V bd : Nat) (R : Value) (w : World) (hB : Box w p #[.slice (some ⟨k, 0, none⟩) L c, R]) (hR : OwnS w 0 3 (some ⟨k, 0, none⟩) L c (in64 (dig V L))) (hpk : p ≠ k) (hL : L ≤ 1000000) (hb : bd ≤ 4294967295) :
    Calls Try.prog 102 #[.pointer (some ⟨p, 0, none⟩), .int .i64 bd] w fun e w' => e = .returned (.tuple #[]) ∧ OwnS w' 0 3 (some ⟨k, 0, none⟩) L c (in64 (dig (V + bd) L)) ∧ Oth k w w' := by
  have kc := Box.cells hB
  have HK : Hid (Kn w [.own 0 3 (some ⟨k, 0, none⟩) L c (in64 (digA V bd L 0)), .box p #[.slice (some ⟨k, 0, none⟩) L c, R]]) := Lib.hid ⟨hR.congr (fun i hi => by simp only [in64]; rw [digA_zero hi]), hB, trivial⟩
  go_enter Try.func102, Try.ntmps102
  go_wp2_with fail
  clear kc hB hR
  go_loopw [4, 5] (fun ca i wr => ∃ j : Nat, j ≤ L ∧ i = .int .i64 ((L : Int) - 1 - j) ∧ ca = .int .i64 (car V bd j) ∧ Oth k w wr ∧ Kn wr [.own 0 3 (some ⟨k, 0, none⟩) L c (in64 (digA V bd L j)), .box p #[.slice (some ⟨k, 0, none⟩) L c, R]]) (fun _ i _ => (intOf i + 1).toNat)
  case atStart => exact ⟨0, by omega, congrArg (Value.int .i64) (by omega), by rw [car_zero], Oth.refl _ _, HK.out⟩
  case round =>
    obtain ⟨j, hj, rfl, rfl, ho, K⟩ := hrel
    clear HK
    have HO := Lib.hid ho
    clear ho
    have kc := Box.cells K.2.1
    have bc := car_le V bd j
    by_cases hlt : j < L
    · by_cases hz : car V bd j = 0
      · have hz' : ¬ (0 : Int) < (car V bd j : Int) := by omega
        have HR := Lib.hid (OwnS.congr K.1 (fun i hi => show in64 (digA V bd L j) i = in64 (dig (V + bd) L) i by simp only [in64]; rw [digA_stop hz hi]))
        have hge : 0 ≤ (L : Int) - 1 - j := by omega
        clear K hz
        generalize car V bd j = cj at *
        go_wp2
        go_end0
        exact ⟨rfl, HR.out, HO.out⟩
      · obtain ⟨e1, e2⟩ := car_step V bd j
        have HE1 := Lib.hid e1
        have HST := Lib.hid (fun i (hi : i < L) => digA_step (V := V) (b := bd) hlt hi)
        have bv : V / 256 ^ j % 256 < 256 := Nat.mod_lt _ (by omega)
        have cr := Row.cell (OwnS.row0 K.1 (by omega)) (i := L - 1 - j) (by omega)
        have fr := Row.frozen (OwnS.row0 K.1 (by omega)) (L - 1 - j)
        have hcell : in64 (digA V bd L j) (L - 1 - j) = .int .i64 ((V / 256 ^ j % 256 : Nat) : Int) := by
          simp only [in64]
          unfold digA dig
          rw [if_neg (by omega), show L - 1 - (L - 1 - j) = j by omega]
        rw [hcell] at cr
        clear e1 e2 hcell
        generalize V / 256 ^ j % 256 = dv at *
        generalize car V bd j = cj at *
        have hz' : (0 : Int) < (cj : Int) := by omega
        have hge : 0 ≤ (L : Int) - 1 - j := by omega
        have z1 : ((L : Int) - 1 - j).toNat = L - 1 - j := by omega
        have zr1 : (cj : Int).tmod 256 = (cj : Int) % 256 := Int.tmod_eq_emod_of_nonneg (by omega)
        have zd1 : (cj : Int).tdiv 256 = (cj : Int) / 256 := Int.tdiv_eq_ediv_of_nonneg (by omega)
        have zr2 : ((dv : Int) + (cj : Int) % 256).tmod 256 = (((cj + dv) % 256 : Nat) : Int) := by rw [Int.tmod_eq_emod_of_nonneg (by omega)]; omega
        have zd2 : ((dv : Int) + (cj : Int) % 256).tdiv 256 = ((dv : Int) + (cj : Int) % 256) / 256 := Int.tdiv_eq_ediv_of_nonneg (by omega)
        have hli : (L : Int) - 1 - j < L := by omega
        have HK := Lib.hid K
        clear K hz
        go_wp2
        refine ⟨⟨j + 1, hlt, congrArg (Value.int .i64) (by omega), congrArg (Value.int .i64) (by rw [← HE1.out]; omega), HO.out.set _ _, ⟨(OwnS.set HK.out.1 (L - 1 - j) _).congr (fun i hi => ?_), Box.far HK.out.2.1 hpk _, trivial⟩⟩, by simp [intOf]; omega⟩
        simp only [in64]
        rw [← HST.out i hi]
        by_cases e : i = L - 1 - j
        · rw [if_pos e, if_pos e]; rfl
        · rw [if_neg e, if_neg e]
    · obtain rfl : j = L := by omega
      have hge : ¬ 0 ≤ (j : Int) - 1 - j := by omega
      have HR := Lib.hid (OwnS.congr K.1 (fun i hi => show in64 (digA V bd j j) i = in64 (dig (V + bd) j) i by simp only [in64]; rw [digA_all]))
      clear K
      go_wp2
      go_end0
      exact ⟨rfl, HR.out, HO.out⟩

/-- The document's encoder in memory. -/
structure EncR (w : World) (col : Nat → Nat) (i p V L R : Nat) (A : Option Addr) (c : Nat) : Prop where
  box : Box w p #[.slice A L c, .int .i64 R]
  own : OwnS w 0 3 A L c (in64 (dig V L))
  hp : col p = i
  hA : ∀ k o, A = some ⟨k, o, none⟩ → col k = i ∧ k ≠ p
theorem EncR.L0 {w : World} {col : Nat → Nat} {i p V L R c : Nat} {A : Option Addr} (h : EncR w col i p V L R A c) (hL : 1 ≤ L) : ∃ k, A = some ⟨k, 0, none⟩ ∧ k ≠ p ∧ col k = i ∧ Row w k L (in64 (dig V L)) ∧ L ≤ c := by
  obtain ⟨k, rfl, _, hr, hc⟩ := h.own.row (by omega)
  exact ⟨k, rfl, (h.hA k 0 rfl).2, (h.hA k 0 rfl).1, hr, hc⟩
theorem own_of_four (w : World) (x : Value) (e : TypeId) (f : Nat → Value) (hf : ∀ i, i < 4 → f i = x) : OwnS (w.alloc (.cells #[x, x, x, x] e)) 0 e (some ⟨w.heap.size, 0, none⟩) 4 4 f := by
  refine ⟨by simp, .inr ⟨w.heap.size, 4, #[x, x, x, x], rfl, by omega, Go.Deep.blk_alloc_new _ _, by omega, by unfold maxLen; omega, by simp, ?_⟩⟩
  have e0 := hf 0 (by omega)
  have e1 := hf 1 (by omega)
  have e2 := hf 2 (by omega)
  have e3 := hf 3 (by omega)
  simp [List.range_succ, e0, e1, e2, e3]
set_option maxHeartbeats 1000000 in
theorem rnew_any (w : World) : Calls Try.prog 18 #[] w fun e w' => ∃ p A c, e = .returned (.pointer (some ⟨p, 0, none⟩)) ∧ (∀ col i, EncR w' (recol col w i) i p 0 4 4294967295 A c) ∧ Below w.heap.size w w' := by
  go_enter Try.func18, Try.ntmps18
  go_wp2
  go_ret
  have hO := own_of_four w (.int .i64 0) 3 (in64 (dig 0 4)) (fun i _ => by simp only [in64]; rw [dig_none])
  have hB := Box.newAt (w.alloc (.cells #[.int .i64 0, .int .i64 0, .int .i64 0, .int .i64 0] 3)) 89 #[.slice (some ⟨w.heap.size, 0, none⟩) 4 4, .int .i64 4294967295] (b := w.heap.size + 1) (by simp)
  refine ⟨_, _, _, rfl, fun col i => ⟨hB, OwnS.alloc hO _, recol_ge (by simp), fun k o e => ?_⟩, ?_⟩
  · injection e with e
    injection e with e
    subst e
    exact ⟨recol_ge (Nat.le_refl _), by simp⟩
  · exact ((Below.refl _ w).alloc (Nat.le_refl _) _).alloc (by simp) _
end Go.Proofs.Ytmnoddmecghjdaa
/- The document's coder: Put. -/
namespace Go.Proofs.Ytmnoddmecghjdaa
open Go.RowKit Go.Kin
set_option linter.unusedVariables false
set_option maxRecDepth 100000 in
set_option maxHeartbeats 4000000 in
theorem rput_yes (col : Nat → Nat) (i p : Nat) (A : Option Addr) (cap : Nat) (s : St) (ch bit : Nat) (w : World) (hE : EncR w col i p s.V s.L s.R A cap) (hs : s.ok) (h1 : 31 ≤ ch) (h2 : ch ≤ 2017) (hb : bit = 0 ∨ bit = 1) (hL : 1 ≤ s.L) (hL2 : s.L ≤ 900000) :
    Calls Try.prog 95 #[.pointer (some ⟨p, 0, none⟩), .int .i64 ch, .int .i64 bit] w fun e w' => e = .returned (.int .i64 0) ∧ Upd col i w w' ∧ ∃ A' c', EncR w' (recol col w i) i p (s.put ch bit).V (s.put ch bit).L (s.put ch bit).R A' c' := by
  obtain ⟨i0, hi0, hz0, hz1, hz2⟩ := parts_int
  have HI := Lib.hid hi0
  clear hi0
  obtain ⟨k, rfl, hkp, hck, hrow, hlc⟩ := hE.L0 hL
  obtain ⟨hB, hO, hcp, _⟩ := hE
  have hch : chB ch = true := by unfold chB; exact decide_eq_true ⟨by omega, by omega⟩
  obtain ⟨bd1, bd2⟩ := St.bd_bd hs h1 h2
  have hbdv : (s.R : Int) / 2048 * ch = (s.bd ch : Nat) := by
    have e : ((s.R / 2048 : Nat) : Int) = (s.R : Int) / 2048 := by omega
    unfold St.bd
    rw [Int.natCast_mul, e]
  obtain ⟨q1, q2⟩ := hs
  have HPUT : Hid (s.put ch bit = (s.half ch bit).norm) := Lib.hid rfl
  have HH : Hid (253952 ≤ (s.half ch bit).R ∧ (s.half ch bit).R ≤ 4294967295 ∧ (s.half ch bit).L = s.L) := Lib.hid (St.half_bd ⟨q1, q2⟩ h1 h2)
  generalize hbd : s.bd ch = bd at *
  have HBD := Lib.hid hbd
  clear hbd
  have kc := Box.cells hB
  have kf := Box.frees hB
  have zq : (s.R : Int).tdiv 2048 = (s.R : Int) / 2048 := Int.tdiv_eq_ediv_of_nonneg (by omega)
  have l0 : 0 ≤ (s.R : Int) / 2048 := by omega
  have l1 : (s.R : Int) / 2048 ≤ 2097152 := by omega
  go_enter Try.func95, Try.ntmps95
  rcases hb with rfl | rfl
  · go_wp2_with (go_at_call 101; refine (rright_any _ _).mono ?_; rintro e w' ⟨rfl, rfl⟩; rw [hch])
    have HHALF : Hid (s.half ch 0 = ⟨s.V, s.L, bd⟩) := Lib.hid (by unfold St.half; rw [HBD.out]; rfl)
    have HENC : Hid (EncR (w.setCell ⟨p, 1, none⟩ (.int .i64 bd)) (recol col w i) i p s.V s.L bd (some ⟨k, 0, none⟩) cap ∧ Upd col i w (w.setCell ⟨p, 1, none⟩ (.int .i64 bd))) := Lib.hid (by
      refine ⟨⟨hB.set 1 _, OwnS.far hO (fun b o e => ?_) _, ?_, fun b o e => ?_⟩, Upd.set hcp 1 _⟩
      · injection e with e; injection e with e; subst e; exact hkp
      · rw [recol_lt (Box.lt hB)]; exact hcp
      · injection e with e; injection e with e; subst e
        exact ⟨by rw [recol_lt (Row.lt hrow)]; exact hck, hkp⟩
      )
    have HE : Hid (EncR (w.setCell ⟨p, 1, none⟩ (.int .i64 bd)) (recol col w i) i p (s.half ch 0).V (s.half ch 0).L (s.half ch 0).R (some ⟨k, 0, none⟩) cap ∧ Upd col i w (w.setCell ⟨p, 1, none⟩ (.int .i64 bd))) := Lib.hid (by
      rw [HHALF.out]
      exact HENC.out)
    go_loopw [] (fun wr => ∃ A' c' t, Upd col i w wr ∧ (t = s.half ch 0 ∨ t = (s.half ch 0).norm) ∧ EncR wr (recol col w i) i p t.V t.L t.R A' c') (fun wr => lack p wr)
    case atStart => exact ⟨_, _, _, HE.out.2, .inl rfl, HE.out.1⟩
    case round =>
      obtain ⟨A', c', t, hu, ht, he⟩ := hrel
      clear HE HENC hB hO kc kf hrow
      obtain ⟨b1, b2, b3⟩ := HH.out
      have hPO := St.put_ok (bit := 0) (⟨q1, q2⟩ : s.ok) h1 h2
      have hLt : 1 ≤ t.L ∧ t.L ≤ 900001 := by
        rcases ht with rfl | rfl
        · omega
        · have := hPO; unfold St.put at this; omega
      have HU := Lib.hid hu
      have HT := Lib.hid ht
      have kc := Box.cells he.box
      have kf := Box.frees he.box
      have kl := Box.lt he.box
      by_cases hn : t.R < 16777216
      · obtain ⟨k', rfl, hkp', hck', hrow', hlc'⟩ := he.L0 hLt.1
        have hn' : (t.R : Int) < 16777216 := by omega
        clear hu ht
        go_upto_region 11 with (fail)
        have hO1 : OwnS (wr.setCell ⟨p, 1, none⟩ (.int .i64 (256 * (t.R : Int)))) 0 3 (some ⟨k', 0, none⟩) t.L c' (in64 (dig t.V t.L)) := OwnS.far he.own (fun b o e => by injection e with e; injection e with e; subst e; exact hkp') _
        have hB1 : Box (wr.setCell ⟨p, 1, none⟩ (.int .i64 (256 * (t.R : Int)))) p #[.slice (some ⟨k', 0, none⟩) t.L c', .int .i64 (256 * (t.R : Int))] := he.box.set 1 _
        have HU1 : Hid (Upd (recol col w i) i wr (wr.setCell ⟨p, 1, none⟩ (.int .i64 (256 * (t.R : Int))))) := Lib.hid (Upd.set he.hp 1 _)
        have hs1 : (wr.setCell ⟨p, 1, none⟩ (.int .i64 (256 * (t.R : Int)))).heap.size = wr.heap.size := size_set _ _ _
        have hkl := Row.lt hrow'
        generalize wr.setCell ⟨p, 1, none⟩ (.int .i64 (256 * (t.R : Int))) = w3 at *
        have HS1 := Lib.hid hs1
        clear kc kf hs1
        have kc := Box.cells hB1
        have HB1 := Lib.hid hB1
        have kl1 := Box.lt hB1
        have hO2 := OwnS.alloc hO1 (.cells #[.int .i64 0] 3)
        have hRd : Rd (w3.alloc (.cells #[.int .i64 0] 3)) (some ⟨w3.heap.size, 0, none⟩) 1 (fun _ => .int .i64 0) := Box.rd (Box.new w3 _ _) (fun j hj => by obtain rfl : j = 0 := (by omega); rfl)
        have hNo : some (⟨w3.heap.size, 0, none⟩ : Addr) = none → 1 = 0 := fun h => by cases h
        have HB4 : Hid (∀ w4, (w3.alloc (.cells #[.int .i64 0] 3)).grownBy w4 (Value.slice (some ⟨k', 0, none⟩) t.L c').ownBlock → Box w4 p #[.slice (some ⟨k', 0, none⟩) t.L c', .int .i64 (256 * (t.R : Int))]) := Lib.hid (fun w4 hg => (HB1.out.alloc _).same (hg.block p (by simp; omega) (by simp [Value.ownBlock]; exact fun e => hkp' e.symm)))
        clear hB1
        go_wp2_with (at_builtin; refine wpList_appS rfl (.tmp 63) (.tmp 64) rfl Try.underlying57 HI.out hz0 hz1 hz2 rfl rfl rfl hO2 hRd hNo (fun _ => rfl) ?_ ?_ ?_ ?_; rotate_right; intro A4 c4 w4 hO4 hG4 hL4; have kc4 := Box.cells (HB4.out w4 hG4); have kf4 := Box.frees (HB4.out w4 hG4); clear kc)
        rotate_left
        · unfold maxLen; omega
        · omega
        · omega
        have hB4 := HB4.out w4 hG4
        have hT : t = s.half ch 0 := by
          rcases HT.out with h | h
          · exact h
          · exfalso
            have := hPO.1.1
            unfold St.put at this
            rw [← h] at this
            omega
        have hN : (s.half ch 0).norm = ⟨t.V * 256, t.L + 1, t.R * 256⟩ := by
          unfold St.norm
          rw [← hT, if_pos hn]
        have hA4 : ∀ b o, A4 = some ⟨b, o, none⟩ → recol col w i b = i ∧ b ≠ p := fun b o e => by
          subst e
          rcases hL4 with h | h
          · simp [Value.ownBlock] at h
            subst h
            exact ⟨hck', hkp'⟩
          · simp [Value.ownBlock] at h
            have h1 := HS1.out
            have h2 := HU.out.size
            exact ⟨recol_ge (by omega), by omega⟩
        have hBf : Box (w4.setCell ⟨p, 0, none⟩ (.slice A4 (t.L + 1) c4)) p #[.slice A4 (t.L + 1) c4, .int .i64 (256 * (t.R : Int))] := hB4.set 0 _
        refine ⟨⟨A4, c4, _, upd_more HU.out HU1.out hG4 hck' he.hp, .inr rfl, ?_⟩, ?_⟩
        · rw [hN]
          refine ⟨?_, (OwnS.far hO4 (fun b o e => (hA4 b o e).2) _).congr (fun j hj => ?_), he.hp, hA4⟩
          · show Box _ p #[.slice A4 (t.L + 1) c4, .int .i64 ((t.R * 256 : Nat) : Int)]
            rw [Int.natCast_mul, Int.mul_comm]
            exact hBf
          · show _ = in64 (dig (t.V * 256) (t.L + 1)) j
            simp only [in64]
            rw [dig_more hj]
            split <;> rfl
        · unfold lack
          rw [hBf.cell, he.box.cell]
          have hr : t.R = (s.half ch 0).R := by rw [← hT]
          simp [intOf]
          omega
      · have hge : ¬ (t.R : Int) < 16777216 := by omega
        have HE := Lib.hid he
        clear hu ht he
        go_wp2
        go_ret
        refine ⟨rfl, HU.out, A', c', ?_⟩
        have hT : s.put ch 0 = t := by
          show (s.half ch 0).norm = t
          rcases HT.out with h | h
          · rw [← h]; unfold St.norm; rw [if_neg hn]
          · exact h.symm
        rw [hT]
        exact HE.out
  · go_wp2_with (go_at_call 101; refine (rright_any _ _).mono ?_; rintro e w' ⟨rfl, rfl⟩; rw [hch])
    refine (radd_any p k s.L cap s.V bd _ _ hB hO (fun e => hkp e.symm) (by omega) (by omega)).mono ?_
    rintro e w1 ⟨rfl, hO1, ho1⟩
    have hB1 := hB.oth ho1 (fun e => hkp e.symm)
    have HO1 := Lib.hid ho1
    clear kc kf ho1
    have kc := Box.cells hB1
    have kf := Box.frees hB1
    have hsub : ((s.R - bd : Nat) : Int) = (s.R : Int) - bd := by omega
    have HSUB := Lib.hid hsub
    clear hsub
    go_wp2_with fail
    have HHALF : Hid (s.half ch 1 = ⟨s.V + bd, s.L, s.R - bd⟩) := Lib.hid (by unfold St.half; rw [HBD.out]; rfl)
    have HENC : Hid (EncR (w1.setCell ⟨p, 1, none⟩ (.int .i64 ((s.R : Int) - bd))) (recol col w i) i p (s.V + bd) s.L (s.R - bd) (some ⟨k, 0, none⟩) cap ∧ Upd col i w (w1.setCell ⟨p, 1, none⟩ (.int .i64 ((s.R : Int) - bd)))) := Lib.hid (by
      refine ⟨⟨by rw [HSUB.out]; exact hB1.set 1 _, OwnS.far hO1 (fun b o e => ?_) _, ?_, fun b o e => ?_⟩, ?_⟩
      · injection e with e; injection e with e; subst e; exact hkp
      · rw [recol_lt (Box.lt hB)]; exact hcp
      · injection e with e; injection e with e; subst e
        exact ⟨by rw [recol_lt (Row.lt hrow)]; exact hck, hkp⟩
      · exact (Upd.of_oth HO1.out (fun _ => hck)).trans (Upd.set (by rw [recol_lt (Box.lt hB)]; exact hcp) 1 _)
      )
    have HE : Hid (EncR (w1.setCell ⟨p, 1, none⟩ (.int .i64 ((s.R : Int) - bd))) (recol col w i) i p (s.half ch 1).V (s.half ch 1).L (s.half ch 1).R (some ⟨k, 0, none⟩) cap ∧ Upd col i w (w1.setCell ⟨p, 1, none⟩ (.int .i64 ((s.R : Int) - bd)))) := Lib.hid (by
      rw [HHALF.out]
      exact HENC.out)
    go_loopw [] (fun wr => ∃ A' c' t, Upd col i w wr ∧ (t = s.half ch 1 ∨ t = (s.half ch 1).norm) ∧ EncR wr (recol col w i) i p t.V t.L t.R A' c') (fun wr => lack p wr)
    case atStart => exact ⟨_, _, _, HE.out.2, .inl rfl, HE.out.1⟩
    case round =>
      obtain ⟨A', c', t, hu, ht, he⟩ := hrel
      clear HE HENC hB hO kc kf hrow hB1 hO1
      obtain ⟨b1, b2, b3⟩ := HH.out
      have hPO := St.put_ok (bit := 1) (⟨q1, q2⟩ : s.ok) h1 h2
      have hLt : 1 ≤ t.L ∧ t.L ≤ 900001 := by
        rcases ht with rfl | rfl
        · omega
        · have := hPO; unfold St.put at this; omega
      have HU := Lib.hid hu
      have HT := Lib.hid ht
      have kc := Box.cells he.box
      have kf := Box.frees he.box
      have kl := Box.lt he.box
      by_cases hn : t.R < 16777216
      · obtain ⟨k', rfl, hkp', hck', hrow', hlc'⟩ := he.L0 hLt.1
        have hn' : (t.R : Int) < 16777216 := by omega
        clear hu ht
        go_upto_region 11 with (fail)
        have hO1 : OwnS (wr.setCell ⟨p, 1, none⟩ (.int .i64 (256 * (t.R : Int)))) 0 3 (some ⟨k', 0, none⟩) t.L c' (in64 (dig t.V t.L)) := OwnS.far he.own (fun b o e => by injection e with e; injection e with e; subst e; exact hkp') _
        have hB1 : Box (wr.setCell ⟨p, 1, none⟩ (.int .i64 (256 * (t.R : Int)))) p #[.slice (some ⟨k', 0, none⟩) t.L c', .int .i64 (256 * (t.R : Int))] := he.box.set 1 _
        have HU1 : Hid (Upd (recol col w i) i wr (wr.setCell ⟨p, 1, none⟩ (.int .i64 (256 * (t.R : Int))))) := Lib.hid (Upd.set he.hp 1 _)
        have hs1 : (wr.setCell ⟨p, 1, none⟩ (.int .i64 (256 * (t.R : Int)))).heap.size = wr.heap.size := size_set _ _ _
        have hkl := Row.lt hrow'
        generalize wr.setCell ⟨p, 1, none⟩ (.int .i64 (256 * (t.R : Int))) = w3 at *
        have HS1 := Lib.hid hs1
        clear kc kf hs1
        have kc := Box.cells hB1
        have HB1 := Lib.hid hB1
        have kl1 := Box.lt hB1
        have hO2 := OwnS.alloc hO1 (.cells #[.int .i64 0] 3)
        have hRd : Rd (w3.alloc (.cells #[.int .i64 0] 3)) (some ⟨w3.heap.size, 0, none⟩) 1 (fun _ => .int .i64 0) := Box.rd (Box.new w3 _ _) (fun j hj => by obtain rfl : j = 0 := (by omega); rfl)
        have hNo : some (⟨w3.heap.size, 0, none⟩ : Addr) = none → 1 = 0 := fun h => by cases h
        have HB4 : Hid (∀ w4, (w3.alloc (.cells #[.int .i64 0] 3)).grownBy w4 (Value.slice (some ⟨k', 0, none⟩) t.L c').ownBlock → Box w4 p #[.slice (some ⟨k', 0, none⟩) t.L c', .int .i64 (256 * (t.R : Int))]) := Lib.hid (fun w4 hg => (HB1.out.alloc _).same (hg.block p (by simp; omega) (by simp [Value.ownBlock]; exact fun e => hkp' e.symm)))
        clear hB1
        go_wp2_with (at_builtin; refine wpList_appS rfl (.tmp 63) (.tmp 64) rfl Try.underlying57 HI.out hz0 hz1 hz2 rfl rfl rfl hO2 hRd hNo (fun _ => rfl) ?_ ?_ ?_ ?_; rotate_right; intro A4 c4 w4 hO4 hG4 hL4; have kc4 := Box.cells (HB4.out w4 hG4); have kf4 := Box.frees (HB4.out w4 hG4); clear kc)
        rotate_left
        · unfold maxLen; omega
        · omega
        · omega
        have hB4 := HB4.out w4 hG4
        have hT : t = s.half ch 1 := by
          rcases HT.out with h | h
          · exact h
          · exfalso
            have := hPO.1.1
            unfold St.put at this
            rw [← h] at this
            omega
        have hN : (s.half ch 1).norm = ⟨t.V * 256, t.L + 1, t.R * 256⟩ := by
          unfold St.norm
          rw [← hT, if_pos hn]
        have hA4 : ∀ b o, A4 = some ⟨b, o, none⟩ → recol col w i b = i ∧ b ≠ p := fun b o e => by
          subst e
          rcases hL4 with h | h
          · simp [Value.ownBlock] at h
            subst h
            exact ⟨hck', hkp'⟩
          · simp [Value.ownBlock] at h
            have h1 := HS1.out
            have h2 := HU.out.size
            exact ⟨recol_ge (by omega), by omega⟩
        have hBf : Box (w4.setCell ⟨p, 0, none⟩ (.slice A4 (t.L + 1) c4)) p #[.slice A4 (t.L + 1) c4, .int .i64 (256 * (t.R : Int))] := hB4.set 0 _
        refine ⟨⟨A4, c4, _, upd_more HU.out HU1.out hG4 hck' he.hp, .inr rfl, ?_⟩, ?_⟩
        · rw [hN]
          refine ⟨?_, (OwnS.far hO4 (fun b o e => (hA4 b o e).2) _).congr (fun j hj => ?_), he.hp, hA4⟩
          · show Box _ p #[.slice A4 (t.L + 1) c4, .int .i64 ((t.R * 256 : Nat) : Int)]
            rw [Int.natCast_mul, Int.mul_comm]
            exact hBf
          · show _ = in64 (dig (t.V * 256) (t.L + 1)) j
            simp only [in64]
            rw [dig_more hj]
            split <;> rfl
        · unfold lack
          rw [hBf.cell, he.box.cell]
          have hr : t.R = (s.half ch 1).R := by rw [← hT]
          simp [intOf]
          omega
      · have hge : ¬ (t.R : Int) < 16777216 := by omega
        have HE := Lib.hid he
        clear hu ht he
        go_wp2
        go_ret
        refine ⟨rfl, HU.out, A', c', ?_⟩
        have hT : s.put ch 1 = t := by
          show (s.half ch 1).norm = t
          rcases HT.out with h | h
          · rw [← h]; unfold St.norm; rw [if_neg hn]
          · exact h.symm
        rw [hT]
        exact HE.out
end Go.Proofs.Ytmnoddmecghjdaa
