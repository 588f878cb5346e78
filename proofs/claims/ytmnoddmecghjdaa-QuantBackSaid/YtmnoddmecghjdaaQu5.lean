/- quant.Get: a block of levels that is got. -/
import Derived.Test.YtmnoddmecghjdaaQu4
set_option linter.unusedVariables false
namespace Go.Proofs.Ytmnoddmecghjdaa
open Go.RowKit Go.Kin
/-- A block that was got, of colour k, or an error. -/
def GotB (w : World) (col : Nat → Nat) (i x m : Nat) (g : Nat → Int) (j b k N : Nat) (q : VR) (e : Ending) (w' : World) : Prop :=
  ∃ col' A c n, e = .returned (.tuple #[.slice A n c, .int .i64 q.e]) ∧ n = (if q.e = 0 then N else 0) ∧ n ≤ c ∧ c ≤ 9223372036854775807 ∧ ((It.rd A n (in64 (uns N q.h))).ok w' ∧ (It.rd A n (in64 (uns N q.h))).hue col' k) ∧ SG w' col' i x m g j b q.x ∧ Kp [i, j] w col w' col'
section
variable {w w' : World} {col col' : Nat → Nat} {i j x b k m N : Nat} {z : GS} {g : Nat → Int}
theorem GotB.nil_ {q : VR} (he : q.e ≠ 0) (hS : SG w' col' i x m g j b q.x) (hK : Kp [i, j] w col w' col') : GotB w col i x m g j b k N q (.returned (.tuple #[.slice none 0 0, .int .i64 q.e])) w' :=
  ⟨col', none, 0, 0, rfl, (if_neg he).symm, Nat.le_refl _, by omega, ⟨Rd.none_ _ _ _, .inl rfl⟩, hS, hK⟩
theorem qget_no (o x : Option Addr) (t n : Int) (w : World) (h : sideZ n = 0 ∨ t < 0 ∨ 15 ≤ t) :
    Calls Try.prog 35 #[.pointer o, .pointer x, .int .i64 t, .int .i64 n] w fun e w' => e = .returned (.tuple #[.slice none 0 0, .int .i64 1]) ∧ w = w' := by
  by_cases hs : sideZ n = 0
  · go_enter Try.func35, Try.ntmps35
    go_wp2_with (go_at_call 66; refine (qside_any _ _).mono ?_; rintro e w' ⟨rfl, rfl⟩; rw [hs])
    go_ret2
    exact ⟨rfl, rfl⟩
  · have h' : t < 0 ∨ (¬ t < 0 ∧ 15 ≤ t) := by omega
    have hz : (sideZ n == 0) = false := by simp [hs]
    clear h hs
    rcases h' with h1 | ⟨h1, h2⟩
    all_goals
      go_enter Try.func35, Try.ntmps35
      go_wp2_with (go_at_call 66; refine (qside_any _ _).mono ?_; rintro e w' ⟨rfl, rfl⟩)
      go_ret2
      exact ⟨rfl, rfl⟩
theorem qget_b (x : Option Addr) (t n : Int) (w : World) : Calls Try.prog 35 #[.pointer none, .pointer x, .int .i64 t, .int .i64 n] w fun e w' => e = .returned (.tuple #[.slice none 0 0, .int .i64 1]) ∧ w = w' := by
  by_cases h : sideZ n = 0 ∨ t < 0 ∨ 15 ≤ t
  · exact qget_no none x t n w h
  · have hz : (sideZ n == 0) = false := by simp; omega
    have h1 : ¬ t < 0 := by omega
    have h2 : ¬ 15 ≤ t := by omega
    clear h
    go_enter Try.func35, Try.ntmps35
    go_wp2_with (go_at_call 66; refine (qside_any _ _).mono ?_; rintro e w' ⟨rfl, rfl⟩)
    go_ret2
    exact ⟨rfl, rfl⟩
theorem qget_x (b : Nat) (t n : Int) (w : World) : Calls Try.prog 35 #[.pointer (some ⟨b, 0, none⟩), .pointer none, .int .i64 t, .int .i64 n] w fun e w' => e = .returned (.tuple #[.slice none 0 0, .int .i64 1]) ∧ w = w' := by
  by_cases h : sideZ n = 0 ∨ t < 0 ∨ 15 ≤ t
  · exact qget_no _ none t n w h
  · have hz : (sideZ n == 0) = false := by simp; omega
    have h1 : ¬ t < 0 := by omega
    have h2 : ¬ 15 ≤ t := by omega
    clear h
    go_enter Try.func35, Try.ntmps35
    go_wp2_with (go_at_call 66; refine (qside_any _ _).mono ?_; rintro e w' ⟨rfl, rfl⟩)
    go_ret2
    exact ⟨rfl, rfl⟩
set_option maxRecDepth 100000 in
set_option maxHeartbeats 8000000 in
theorem qget_yes (t : Nat) (h : SG w col i x m g j b z) (hg : Byt g) (hij : i ≠ j) (hk : k ≠ i ∧ k ≠ j) (hok : z.ok m) (hs : sideN N ≠ 0) (ht : t < 15) :
    Calls Try.prog 35 #[.pointer (some ⟨b, 0, none⟩), .pointer (some ⟨x, 0, none⟩), .int .i64 t, .int .i64 N] w (GotB w col i x m g j b k N (z.blk g m t N)) := by
  have HG := Lib.hid hg
  have hok0 := hok
  have hnum := GS.num_ok hg hok (37 * t)
  have HB : Hid (z.blk g m t N = if (z.num g m (37 * t)).e = 0 then (if (N : Int) < (z.num g m (37 * t)).v then ⟨51, fun _ => 0, (z.num g m (37 * t)).x⟩ else vrEnd ((z.num g m (37 * t)).x.lvs g m (37 * (t + 1)) (z.num g m (37 * t)).v.toNat) (z.num g m (37 * t)).v.toNat) else ⟨(z.num g m (37 * t)).e, fun _ => 0, (z.num g m (37 * t)).x⟩) := Lib.hid rfl
  obtain ⟨tt, htt⟩ : ∃ tt, tt = t + 1 := ⟨_, rfl⟩
  rw [← htt] at HB
  have hct : (t : Int) + 1 = (tt : Int) := by omega
  have ht16 : tt < 16 := by omega
  have ht16' : t < 16 := by omega
  clear htt
  have HSZ := Lib.hid (sideZ_nat N)
  have hz0 : ((sideN N : Int) == 0) = false := by simp [hs]
  have hn := sideN_yes hs
  have hn64 : N ≤ 64 := by omega
  have hn16 : 16 ≤ N := by omega
  have HUN := Lib.hid (fun (w : World) (B : Option Addr) (cb : Nat) (f : Nat → Int) (hB : Rd w B N (in64 f)) => lunsort_all B N cb f w hs hB)
  have l1 : ¬ (t : Int) < 0 := by omega
  have l2 : ¬ 15 ≤ (t : Int) := by omega
  have l2' : ¬ 14 < (t : Int) := by omega
  generalize hsn : sideN N = sn at *
  have HSN := Lib.hid hsn
  clear hsn
  clear hg hok hn
  go_enter Try.func35, Try.ntmps35
  go_wp2_with fail
  refine (qside_any _ _).mono ?_
  rintro e w' ⟨rfl, hww⟩
  subst hww
  rw [HSZ.out]
  go_wp2_with fail
  refine (bGet_yes t h HG.out hij hok0 ht16').mono ?_
  rintro e w1 ⟨c1, rfl, hS, hK⟩
  generalize z.num g m (37 * t) = r0 at *
  obtain ⟨v, e, y⟩ := r0
  dsimp only at *
  obtain ⟨n1, n2, n3, n4⟩ := hnum
  have HY := Lib.hid n1
  have HS := Lib.hid (And.intro hS hK)
  clear n1 hS hK h
  rcases n4 with rfl | ⟨rfl, rfl⟩ | ⟨rfl, rfl⟩
  · rw [if_pos rfl] at HB
    obtain ⟨cc, rfl⟩ := Int.eq_ofNat_of_zero_le n2
    by_cases hbig : (N : Int) < (cc : Int)
    · rw [if_pos hbig] at HB
      go_wp2
      go_ret2
      rw [HB.out]
      exact GotB.nil_ (q := ⟨51, fun _ => 0, y⟩) (by simp) HS.out.1 HS.out.2
    · rw [if_neg hbig, Int.toNat_natCast] at HB
      have hcn : cc ≤ N := by omega
      have HLV := Lib.hid (fun q => GS.lvs_ok HG.out HY.out (37 * tt) q)
      have hmk := make_i64 N (by omega) w1
      have hb1 : Below w1.heap.size w1 (w1.alloc (.cells (madeCells #[.int .i64 0] N) 3)) := (Below.refl _ w1).alloc (Nat.le_refl _) _
      have hkp := Kp.fresh hb1 c1 k []
      have KR := (Kn.start w1).make w1.heap.size (.int .i64 0) N 3 rfl
      have hsz : w.heap.size ≤ w1.heap.size := HS.out.2.1.1
      have HW := Lib.hid (And.intro (SG.kp HS.out.1 hkp (by simp) (by simp)) (And.intro (HS.out.2.trans (hkp.mono (by simp))) (show (It.row w1.heap.size N (in64 fun _ => 0)).ok (w1.alloc (.cells (madeCells #[.int .i64 0] N) 3)) ∧ (It.row w1.heap.size N (in64 fun _ => 0)).hue (recol c1 w1 k) k from ⟨KR.1.congr (fun i hi => rfl), recol_ge (Nat.le_refl _)⟩)))
      generalize recol c1 w1 k = c2 at *
      generalize hbl : w1.heap.size = bl at *
      clear hbl KR hb1 hkp HS hz0
      go_wp2_with fail
      go_loopw [49] (fun qv wr => ∃ (q : Nat) (col' : Nat → Nat), q ≤ cc ∧ qv = .int .i64 q ∧ (y.lvs g m (37 * tt) q).e = 0 ∧ SG wr col' i x m g j b (y.lvs g m (37 * tt) q).x ∧ Kp [i, j] w col wr col' ∧ ((It.row bl N (in64 (y.lvs g m (37 * tt) q).h)).ok wr ∧ (It.row bl N (in64 (y.lvs g m (37 * tt) q).h)).hue col' k)) (fun qv _ => cc - (intOf qv).toNat)
      case atStart => exact ⟨0, c2, by omega, rfl, rfl, HW.out⟩
      case round =>
        clear HW
        obtain ⟨q, c3, hq, rfl, he0, hS, hK, hRw⟩ := hrel
        obtain ⟨ok1, -⟩ := HLV.out q
        by_cases hlt : q < cc
        · have HNX : Hid (y.lvs g m (37 * tt) (q + 1) = vrNext ((y.lvs g m (37 * tt) q).x.sgn g m (37 * tt)) q (y.lvs g m (37 * tt) q).h) := Lib.hid (by
            show (if (y.lvs g m (37 * tt) q).e = 0 then _ else _) = _
            rw [if_pos he0])
          have HSTP := Lib.hid (fun (h : (y.lvs g m (37 * tt) (q + 1)).e ≠ 0) => GS.lvs_stop h (n := cc) (by omega))
          have l3 : (q : Int) < (cc : Int) := by omega
          have l4 : (q : Int) < (N : Int) := by omega
          have hqN : q < N := by omega
          clear he0
          generalize y.lvs g m (37 * tt) q = rr at *
          obtain ⟨re, hh, ry⟩ := rr
          dsimp only at *
          have HS := Lib.hid (And.intro hS (And.intro hK hRw))
          have HO := Lib.hid ok1
          clear hS hK hRw ok1
          go_wp2_with fail
          have hP := bGetS_yes tt HS.out.1 HG.out hij HO.out ht16
          refine hP.mono ?_
          rintro e w5 ⟨c5, rfl, hS5, hK5⟩
          have hso := (GS.sgn_ok HG.out HO.out (37 * tt)).2
          have hRw5 := hK5.2 k _ (by simp [hk.1, hk.2]) HS.out.2.2
          have hK6 := HS.out.2.1.trans hK5
          generalize ry.sgn g m (37 * tt) = u at *
          obtain ⟨v, ue, uy⟩ := u
          dsimp only at *
          have cr := Row.cell hRw5.1 hqN
          have fr := Row.frozen hRw5.1 q
          have hup := Kp.upd (Upd.set (w := w5) (col := c5) (b := bl) (i := k) hRw5.2 q (.int .i64 v))
          have hS6 := SG.kp hS5 hup (by simp [hk.1.symm]) (by simp [hk.2.symm])
          have hRw6 : (It.row bl N (in64 fun i => if i = q then v else hh i)).ok (w5.setCell ⟨bl, q, none⟩ (.int .i64 v)) ∧ (It.row bl N (in64 fun i => if i = q then v else hh i)).hue (recol c5 w5 k) k :=
            ⟨Row.congr (Row.set hRw5.1 q (.int .i64 v)) (fun i hi => by unfold in64; dsimp only; split <;> rfl), by show recol c5 w5 k bl = k; exact recol_i (fun _ => hRw5.2)⟩
          have HF := Lib.hid (And.intro hS6 (And.intro (hK6.setnew (bl := bl) hsz q (.int .i64 v) k) hRw6))
          have HE := Lib.hid (And.intro hS5 hK6)
          clear hP hS5 hK5 hK6 hRw5 hup hS6 hRw6 HS
          rcases hso with rfl | ⟨rfl, rfl⟩ | ⟨rfl, rfl⟩
          · have HQ : Hid (y.lvs g m (37 * tt) (q + 1) = ⟨0, fun i => if i = q then v else hh i, uy⟩) := Lib.hid HNX.out
            go_wp2
            go_roundw
            case rel => exact ⟨q + 1, recol c5 w5 k, by omega, by go_num, by rw [HQ.out], by rw [HQ.out]; exact HF.out.1, HF.out.2.1, by rw [HQ.out]; exact HF.out.2.2⟩
            case measure => simp [intOf]; omega
          · have HQ : Hid (y.lvs g m (37 * tt) cc = ⟨41, fun i => if i = q then 0 else hh i, uy⟩) := Lib.hid ((HSTP.out (by rw [HNX.out]; simp [vrNext])).trans HNX.out)
            have HB2 : Hid (z.blk g m t N = ⟨41, fun _ => 0, uy⟩) := Lib.hid (by rw [HB.out, HQ.out]; rfl)
            go_wp2
            go_ret2
            rw [HB2.out]
            exact GotB.nil_ (q := ⟨41, fun _ => 0, uy⟩) (by simp) HF.out.1 HF.out.2.1
          · have HQ : Hid (y.lvs g m (37 * tt) cc = ⟨51, fun i => if i = q then 0 else hh i, uy⟩) := Lib.hid ((HSTP.out (by rw [HNX.out]; simp [vrNext])).trans HNX.out)
            have HB2 : Hid (z.blk g m t N = ⟨51, fun _ => 0, uy⟩) := Lib.hid (by rw [HB.out, HQ.out]; rfl)
            go_wp2
            go_ret2
            rw [HB2.out]
            exact GotB.nil_ (q := ⟨51, fun _ => 0, uy⟩) (by simp) HF.out.1 HF.out.2.1
        · obtain rfl : q = cc := by omega
          have l3 : ¬ (q : Int) < (q : Int) := by omega
          generalize y.lvs g m (37 * tt) q = rr at *
          obtain ⟨re, hh, ry⟩ := rr
          dsimp only at *
          subst he0
          have HS := Lib.hid (And.intro hS (And.intro hK hRw))
          clear hS hK hRw ok1 hlt HLV
          by_cases hlast : 0 < q ∧ hh (q - 1) = 0
          · have HB2 : Hid (z.blk g m t N = ⟨51, fun _ => 0, ry⟩) := Lib.hid (by rw [HB.out]; unfold vrEnd; rw [if_pos rfl, if_pos hlast])
            obtain ⟨q0, rfl⟩ : ∃ q0, q = q0 + 1 := ⟨q - 1, by omega⟩
            have hh0 : hh q0 = 0 := hlast.2
            have x1 := Row.cell HS.out.2.2.1 (i := q0) (by omega)
            dsimp only [in64] at x1
            rw [hh0] at x1
            have l5 : (0 : Int) < (((q0 + 1 : Nat)) : Int) := by omega
            have l6 : (0 : Int) < (q0 : Int) + 1 := by omega
            have l7 : (q0 : Int) < (N : Int) := by omega
            have hq1 : (((q0 + 1 : Nat)) : Int) - 1 = q0 := by omega
            clear hlast hh0
            go_wp2
            go_ret2
            rw [HB2.out]
            exact GotB.nil_ (q := ⟨51, fun _ => 0, ry⟩) (by simp) HS.out.1 HS.out.2.1
          · have HB2 : Hid (z.blk g m t N = ⟨0, hh, ry⟩) := Lib.hid (by rw [HB.out]; unfold vrEnd; rw [if_pos rfl, if_neg hlast])
            have hcase : q = 0 ∨ ∃ q0, q = q0 + 1 ∧ hh q0 ≠ 0 := by
              rcases Nat.eq_zero_or_pos q with h0 | h0
              · exact .inl h0
              · exact .inr ⟨q - 1, by omega, fun h => hlast ⟨h0, h⟩⟩
            clear hlast
            obtain ⟨w6, rfl⟩ : ∃ w6 : World, w6 = wr := ⟨_, rfl⟩
            rcases hcase with h0 | ⟨q0, hq0, hne⟩
            · subst h0
              have l5 : ¬ (0 : Int) < ((0 : Nat) : Int) := by omega
              go_wp2_with fail
              refine (HUN.out _ (some ⟨bl, 0, none⟩) N hh (Row.rd HS.out.2.2.1)).mono ?_
              rintro e w7 ⟨B, cb, rfl, hRB, hcb, hcm, hfr, hb⟩
              have hkp := Kp.fresh hb c3 k []
              have HF := Lib.hid (And.intro (SG.kp HS.out.1 hkp (by simp) (by simp)) (And.intro (HS.out.2.1.trans (hkp.mono (by simp))) (show (It.rd B N (in64 (uns N hh))).ok w7 ∧ (It.rd B N (in64 (uns N hh))).hue (recol c3 w6 k) k from ⟨hRB, .inr fun a o e => recol_ge (hfr a o e)⟩)))
              clear hRB hfr hb hkp HS
              go_wp2
              go_ret2
              rw [HB2.out]
              exact ⟨recol c3 w6 k, B, cb, N, rfl, (if_pos rfl).symm, hcb, hcm, HF.out.2.2, HF.out.1, HF.out.2.1⟩
            · have x1 := Row.cell HS.out.2.2.1 (i := q0) (by omega)
              dsimp only [in64] at x1
              have l5 : (0 : Int) < (q : Int) := by omega
              have l7 : (q0 : Int) < (N : Int) := by omega
              have hq1 : (q : Int) - 1 = q0 := by omega
              have l8 : (hh q0 == 0) = false := by simp [hne]
              clear hne hq0
              go_wp2_with fail
              refine (HUN.out _ (some ⟨bl, 0, none⟩) N hh (Row.rd HS.out.2.2.1)).mono ?_
              rintro e w7 ⟨B, cb, rfl, hRB, hcb, hcm, hfr, hb⟩
              have hkp := Kp.fresh hb c3 k []
              have HF := Lib.hid (And.intro (SG.kp HS.out.1 hkp (by simp) (by simp)) (And.intro (HS.out.2.1.trans (hkp.mono (by simp))) (show (It.rd B N (in64 (uns N hh))).ok w7 ∧ (It.rd B N (in64 (uns N hh))).hue (recol c3 w6 k) k from ⟨hRB, .inr fun a o e => recol_ge (hfr a o e)⟩)))
              clear hRB hfr hb hkp HS
              go_wp2
              go_ret2
              rw [HB2.out]
              exact ⟨recol c3 w6 k, B, cb, N, rfl, (if_pos rfl).symm, hcb, hcm, HF.out.2.2, HF.out.1, HF.out.2.1⟩
  · rw [if_neg (by simp)] at HB
    go_wp2
    go_ret2
    rw [HB.out]
    exact GotB.nil_ (q := ⟨41, fun _ => 0, y⟩) (by simp) HS.out.1 HS.out.2
  · rw [if_neg (by simp)] at HB
    go_wp2
    go_ret2
    rw [HB.out]
    exact GotB.nil_ (q := ⟨51, fun _ => 0, y⟩) (by simp) HS.out.1 HS.out.2
end
end Go.Proofs.Ytmnoddmecghjdaa
