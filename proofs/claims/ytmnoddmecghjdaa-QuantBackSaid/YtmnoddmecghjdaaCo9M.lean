/- Walks of package coder: Get. -/
import Derived.Test.YtmnoddmecghjdaaCo8
namespace Go.Kin
/-- What Get makes of the rest and the range, ahead of a byte more. -/
def gBit (rest bd : Nat) : Nat := if rest < bd then 0 else 1
def gRest (rest bd : Nat) : Nat := if rest < bd then rest else rest - bd
def gWide (wide rest bd : Nat) : Nat := if rest < bd then bd else wide - bd
end Go.Kin
namespace Go.Proofs.Ytmnoddmecghjdaa
open Go.RowKit Go.Kin
set_option linter.unusedVariables false
set_option maxRecDepth 100000 in
set_option maxHeartbeats 1000000 in
/-- The rest is not less than the range: no code. -/
theorem get_over (p : Nat) (A : Option Addr) (n c rest wide : Nat) (ch : Nat) (w : World) (hB : Box w p #[.slice A n c, .int .u32 rest, .int .u32 wide]) (hch : chB ch = true) (h : wide ≤ rest) :
    Calls Try.prog 97 #[.pointer (some ⟨p, 0, none⟩), .int .u16 ch] w fun e w' => e = .returned (.tuple #[.int .i64 0, .int .i64 41]) ∧ Below w.heap.size w w' := by
  have kc := Box.cells hB
  have h' : (wide : Int) ≤ rest := by omega
  go_enter Try.func97, Try.ntmps97
  go_wp2_with (go_at_call 99; refine (cright_any _ _).mono ?_; rintro e w' ⟨rfl, rfl⟩; rw [hch])
  go_quiet (fail)
  go_wp2
  go_ret2
  exact ⟨rfl, below_drewN (Below.refl _ _) _⟩
/-- The three cells that Get stores at last. -/
theorem dec_set {w : World} {col : Nat → Nat} {i p n c rest wide : Nat} {A : Option Addr} {g : Nat → Int} (hE : Dec w col i p A n c g rest wide) (m : Nat) {A' : Option Addr} {n' c' : Nat} {g' : Nat → Int} (h1 : Rd w A' n' (by8 g')) (h2 : n' = 0 ∨ ∀ k o, A' = some ⟨k, o, none⟩ → col k = i ∧ k ≠ p) (h3 : n' ≤ c' ∧ c' ≤ 9223372036854775807) {R W : Int} {r v : Nat} (hR : R = r) (hW : W = v) :
    Upd col i w ((((w.drewN m).setCell ⟨p, 0, none⟩ (.slice A' n' c')).setCell ⟨p, 1, none⟩ (.int .u32 R)).setCell ⟨p, 2, none⟩ (.int .u32 W)) ∧ Dec ((((w.drewN m).setCell ⟨p, 0, none⟩ (.slice A' n' c')).setCell ⟨p, 1, none⟩ (.int .u32 R)).setCell ⟨p, 2, none⟩ (.int .u32 W)) (recol col w i) i p A' n' c' g' r v := by
  subst hR hW
  have ho : Oth p w ((((w.drewN m).setCell ⟨p, 0, none⟩ (.slice A' n' c')).setCell ⟨p, 1, none⟩ (.int .u32 r)).setCell ⟨p, 2, none⟩ (.int .u32 v)) := ((((Oth.refl p w).drewN m).set 0 _).set 1 _).set 2 _
  refine ⟨Upd.of_oth ho (fun _ => hE.hp), ⟨(((hE.box.drewN m).set 0 _).set 1 _).set 2 _, ?_, by rw [recol_lt (Box.lt hE.box)]; exact hE.hp, ?_, h3⟩⟩
  · rcases Nat.eq_zero_or_pos n' with h0 | h0
    · subst h0; exact Rd.none_ _ _ _
    · exact h1.oth ho (fun b o e => (h2.elim (fun h => by omega) (fun h => h b o e)).2)
  · rcases Nat.eq_zero_or_pos n' with h0 | h0
    · exact .inl h0
    · refine .inr fun k o e => ?_
      obtain ⟨b, off, e', hlt, _⟩ := h1.some_ h0
      have hb := h2.elim (fun h => by omega) (fun h => h k o e)
      rw [e] at e'
      injection e' with e'
      injection e' with e1 e2
      subst e1
      exact ⟨by rw [recol_lt hlt]; exact hb.1, hb.2⟩
set_option maxRecDepth 100000 in
set_option maxHeartbeats 4000000 in
/-- Get of a chance, when the rest is less than the range: ErrCoder if a byte more is needed and none is there; else the bit. -/
theorem get_go (col : Nat → Nat) (i p : Nat) (A : Option Addr) (n c : Nat) (g : Nat → Int) (rest wide bd ch : Nat) (w : World) (hE : Dec w col i p A n c g rest wide) (hg : Byt g) (h1 : 31 ≤ ch) (h2 : ch ≤ 2017) (q1 : 16777216 ≤ wide) (q2 : wide ≤ 4294967295) (h : rest < wide) (hbd : bd = wide / 2048 * ch) :
    Calls Try.prog 97 #[.pointer (some ⟨p, 0, none⟩), .int .u16 ch] w fun e w' => 
      (gWide wide rest bd < 16777216 ∧ n = 0 ∧ e = .returned (.tuple #[.int .i64 0, .int .i64 41]) ∧ Below w.heap.size w w') ∨
      (¬ gWide wide rest bd < 16777216 ∧ e = .returned (.tuple #[.int .i64 (gBit rest bd), .int .i64 0]) ∧ Upd col i w w' ∧ Dec w' (recol col w i) i p A n c g (gRest rest bd) (gWide wide rest bd)) ∨
      (gWide wide rest bd < 16777216 ∧ 0 < n ∧ e = .returned (.tuple #[.int .i64 (gBit rest bd), .int .i64 0]) ∧ Upd col i w w' ∧ ∃ A' c', Dec w' (recol col w i) i p A' (n - 1) c' (fun j => g (j + 1)) (gRest rest bd * 256 + (g 0).toNat) (gWide wide rest bd * 256)) := by
  have hch : chB ch = true := by unfold chB; exact decide_eq_true ⟨by omega, by omega⟩
  obtain ⟨bd1, bd2⟩ := St.bd_bd (s := ⟨0, 0, wide⟩) ⟨q1, q2⟩ h1 h2
  have hbdv : (wide : Int) / 2048 * ch = bd := by
    have e : ((wide / 2048 : Nat) : Int) = (wide : Int) / 2048 := by omega
    rw [hbd, Int.natCast_mul, e]
  have e2 : (⟨0, 0, wide⟩ : St).bd ch = bd := by unfold St.bd; exact hbd.symm
  rw [e2] at bd1 bd2
  dsimp only at bd2
  clear e2 hbd
  have kc := Box.cells hE.box
  have kf := Box.frees hE.box
  have zq : (wide : Int).tdiv 2048 = (wide : Int) / 2048 := Int.tdiv_eq_ediv_of_nonneg (by omega)
  have l0 : 0 ≤ (wide : Int) / 2048 := by omega
  have l1 : (wide : Int) / 2048 ≤ 2097152 := by omega
  have hlt : ¬ (wide : Int) ≤ rest := by omega
  have HE := Lib.hid hE
  have HG := Lib.hid hg
  clear hE hg
  go_enter Try.func97, Try.ntmps97
  by_cases hr : rest < bd
  · have HGW := Lib.hid (show gWide wide rest bd = bd by unfold gWide; rw [if_pos hr])
    have HGR := Lib.hid (show gRest rest bd = rest by unfold gRest; rw [if_pos hr])
    have HGB := Lib.hid (show gBit rest bd = 0 by unfold gBit; rw [if_pos hr])
    have hr' : ¬ (bd : Int) ≤ rest := by omega
    have HR := Lib.hid hr
    clear hr
    go_wp2_with (go_at_call 99; refine (cright_any _ _).mono ?_; rintro e w' ⟨rfl, rfl⟩; rw [hch])
    go_quiet (fail)
    go_upto_region 6 with (fail)
    go_quiet (fail)
    go_wp2_with fail
    have b1 : bd ≤ 4294967295 ∧ 253952 ≤ bd ∧ rest < bd := by have := HR.out; omega
    go_loopw [8, 9, 10] (fun r wd co wr => (∃ m, wr = w.drewN m) ∧ ((r = .int .u32 (rest : Int) ∧ wd = .int .u32 (bd : Int) ∧ co = .slice A n c) ∨ ((bd : Int) < 16777216 ∧ 0 < n ∧ r = .int .u32 ((rest : Int) * 256 + g 0) ∧ wd = .int .u32 ((bd : Int) * 256) ∧ ∃ A' c', co = .slice A' (n - 1) c' ∧ Rd w A' (n - 1) (by8 fun j => g (j + 1)) ∧ (n - 1 = 0 ∨ ∀ k o, A' = some ⟨k, o, none⟩ → col k = i ∧ k ≠ p) ∧ n - 1 ≤ c' ∧ c' ≤ 9223372036854775807))) (fun _ wd _ _ => (4294967296 - intOf wd).toNat)
    case atStart => exact ⟨by first | exact ⟨_, rfl⟩ | exact ⟨_, World.drewN_drewN _ _ _⟩, .inl ⟨rfl, rfl, rfl⟩⟩
    case round =>
      obtain ⟨⟨m, rfl⟩, hrel⟩ := hrel
      rcases hrel with ⟨rfl, rfl, rfl⟩ | ⟨hW1, hn0, rfl, rfl, A', c', rfl, hA1, hA2, hA3, hA4⟩
      · by_cases hn : (bd : Int) < 16777216
        · by_cases h0 : n = 0
          · subst h0
            have hn' : ((bd : Int) : Int) < 16777216 := by omega
            have HN := Lib.hid hn
            clear hn
            go_wp2
            go_ret2
            refine .inl ⟨by rw [HGW.out]; have := HN.out; omega, ?_⟩
            first | exact ⟨rfl, rfl, below_drewN (Below.refl _ _) _⟩ | exact below_drewN (Below.refl _ _) _ | exact ⟨rfl, below_drewN (Below.refl _ _) _⟩
          · obtain ⟨b, off, rfl, hlt0, hcell⟩ := Rd.some_ HE.out.rd (by omega)
            have HRD : Hid (Rd w (some ⟨b, off + 1, none⟩) (n - 1) (by8 fun j => g (j + 1))) := Lib.hid (fun _ => ⟨b, off + 1, rfl, fun j hj => by have := hcell (j + 1) (by omega); rw [show off + 1 + j = off + (j + 1) by omega]; exact this⟩)
            have HRZ : Hid (n = 1 → Rd w (some ⟨b, off, none⟩) (n - 1) (by8 fun j => g (j + 1))) := Lib.hid (fun e => by subst e; exact Rd.none_ _ _ _)
            have c0 := hcell 0 (by omega)
            simp only [by8, Nat.add_zero] at c0
            have hn' : ((bd : Int) : Int) < 16777216 := by omega
            have n1 : ((n : Int) == 0) = false := by simp; omega
            have n2 : (1 : Int) ≤ n := by omega
            have n3 : (n : Int) ≤ c := by have := HE.out.le; omega
            have n4 : (1 : Int) ≤ c := by omega
            have n5 : (0 : Int) < n := by omega
            have bk := HG.out 0
            have hj := u32_join (rest : Int) (g 0) (by omega) (by omega) bk.1 (by omega)
            have HN := Lib.hid hn
            clear hcell hn
            by_cases hc1 : c = 1
            · subst hc1
              obtain rfl : n = 1 := by omega
              clear n1 n2 n3 n4 n5
              go_wp2
              go_roundw
              case rel => refine ⟨by first | exact ⟨_, rfl⟩ | trivial, .inr ⟨HN.out, by first | omega | trivial, by first | rfl | trivial, by first | rfl | trivial, _, _, rfl, HRZ.out rfl, .inl (by first | rfl | trivial), by omega, by omega⟩⟩
              case measure => simp [intOf]; omega
            · have hc1' : ¬ (c : Int) = 1 := by omega
              go_wp2
              go_roundw
              case rel => refine ⟨by first | exact ⟨_, rfl⟩ | trivial, .inr ⟨HN.out, by first | omega | trivial, by first | rfl | trivial, by first | rfl | trivial, _, _, rfl, HRD.out, HE.out.hA.elim (fun h => by omega) (fun h => .inr fun k o e => (by injection e with e; injection e with e; subst e; exact h _ _ rfl)), by omega, by have := HE.out.le; omega⟩⟩
              case measure => simp [intOf]; omega
        · have hn' : ¬ ((bd : Int) : Int) < 16777216 := by omega
          have HN := Lib.hid hn
          clear hn
          go_wp2
          go_ret2
          refine .inr (.inl ⟨by rw [HGW.out]; have := HN.out; omega, by rw [HGB.out]; rfl, ?_⟩)
          rw [HGR.out, HGW.out]
          exact dec_set HE.out m HE.out.rd HE.out.hA HE.out.le rfl rfl
      · have hn' : ¬ ((bd : Int) : Int) * 256 < 16777216 := by omega
        have HX := Lib.hid (And.intro hW1 (And.intro hn0 (And.intro hA1 (And.intro hA2 (And.intro hA3 hA4)))))
        have bk := HG.out 0
        clear hW1 hn0 hA1 hA2 hA3 hA4
        go_wp2
        go_ret2
        obtain ⟨hW1, hn0, hA1, hA2, hA3, hA4⟩ := HX.out
        refine .inr (.inr ⟨by rw [HGW.out]; omega, hn0, by rw [HGB.out]; rfl, ?_⟩)
        rw [HGR.out, HGW.out]
        have := dec_set HE.out m hA1 hA2 ⟨hA3, hA4⟩ (show ((rest : Int) : Int) * 256 + g 0 = ((rest * 256 + (g 0).toNat : Nat) : Int) by omega) (show ((bd : Int) : Int) * 256 = ((bd * 256 : Nat) : Int) by omega)
        exact ⟨this.1, _, _, this.2⟩
  · have HGW := Lib.hid (show gWide wide rest bd = wide - bd by unfold gWide; rw [if_neg hr])
    have HGR := Lib.hid (show gRest rest bd = rest - bd by unfold gRest; rw [if_neg hr])
    have HGB := Lib.hid (show gBit rest bd = 1 by unfold gBit; rw [if_neg hr])
    have hr' : (bd : Int) ≤ rest := by omega
    have z1 : IntKind.u32.wrap ((rest : Int) - bd) = ((rest - bd : Nat) : Int) := by rw [IntKind.wrap_u32]; omega
    have z2 : IntKind.u32.wrap ((wide : Int) - bd) = ((wide - bd : Nat) : Int) := by rw [IntKind.wrap_u32]; omega
    have b1 : wide - bd ≤ 4294967295 ∧ 253952 ≤ wide - bd ∧ rest - bd < wide - bd := by omega
    generalize rest - bd = r1 at *
    generalize wide - bd = w1 at *
    clear hr
    go_wp2_with (go_at_call 99; refine (cright_any _ _).mono ?_; rintro e w' ⟨rfl, rfl⟩; rw [hch])
    go_quiet (fail)
    go_upto_region 6 with (fail)
    go_quiet (fail)
    go_upto_region 8 with (fail)
    go_quiet (fail)
    clear z1 z2
    go_wp2_with fail
    go_loopw [8, 9, 10] (fun r wd co wr => (∃ m, wr = w.drewN m) ∧ ((r = .int .u32 (r1 : Int) ∧ wd = .int .u32 (w1 : Int) ∧ co = .slice A n c) ∨ ((w1 : Int) < 16777216 ∧ 0 < n ∧ r = .int .u32 ((r1 : Int) * 256 + g 0) ∧ wd = .int .u32 ((w1 : Int) * 256) ∧ ∃ A' c', co = .slice A' (n - 1) c' ∧ Rd w A' (n - 1) (by8 fun j => g (j + 1)) ∧ (n - 1 = 0 ∨ ∀ k o, A' = some ⟨k, o, none⟩ → col k = i ∧ k ≠ p) ∧ n - 1 ≤ c' ∧ c' ≤ 9223372036854775807))) (fun _ wd _ _ => (4294967296 - intOf wd).toNat)
    case atStart => exact ⟨by first | exact ⟨_, rfl⟩ | exact ⟨_, World.drewN_drewN _ _ _⟩, .inl ⟨rfl, rfl, rfl⟩⟩
    case round =>
      obtain ⟨⟨m, rfl⟩, hrel⟩ := hrel
      rcases hrel with ⟨rfl, rfl, rfl⟩ | ⟨hW1, hn0, rfl, rfl, A', c', rfl, hA1, hA2, hA3, hA4⟩
      · by_cases hn : (w1 : Int) < 16777216
        · by_cases h0 : n = 0
          · subst h0
            have hn' : ((w1 : Int) : Int) < 16777216 := by omega
            have HN := Lib.hid hn
            clear hn
            go_wp2
            go_ret2
            refine .inl ⟨by rw [HGW.out]; have := HN.out; omega, ?_⟩
            first | exact ⟨rfl, rfl, below_drewN (Below.refl _ _) _⟩ | exact below_drewN (Below.refl _ _) _ | exact ⟨rfl, below_drewN (Below.refl _ _) _⟩
          · obtain ⟨b, off, rfl, hlt0, hcell⟩ := Rd.some_ HE.out.rd (by omega)
            have HRD : Hid (Rd w (some ⟨b, off + 1, none⟩) (n - 1) (by8 fun j => g (j + 1))) := Lib.hid (fun _ => ⟨b, off + 1, rfl, fun j hj => by have := hcell (j + 1) (by omega); rw [show off + 1 + j = off + (j + 1) by omega]; exact this⟩)
            have HRZ : Hid (n = 1 → Rd w (some ⟨b, off, none⟩) (n - 1) (by8 fun j => g (j + 1))) := Lib.hid (fun e => by subst e; exact Rd.none_ _ _ _)
            have c0 := hcell 0 (by omega)
            simp only [by8, Nat.add_zero] at c0
            have hn' : ((w1 : Int) : Int) < 16777216 := by omega
            have n1 : ((n : Int) == 0) = false := by simp; omega
            have n2 : (1 : Int) ≤ n := by omega
            have n3 : (n : Int) ≤ c := by have := HE.out.le; omega
            have n4 : (1 : Int) ≤ c := by omega
            have n5 : (0 : Int) < n := by omega
            have bk := HG.out 0
            have hj := u32_join (r1 : Int) (g 0) (by omega) (by omega) bk.1 (by omega)
            have HN := Lib.hid hn
            clear hcell hn
            by_cases hc1 : c = 1
            · subst hc1
              obtain rfl : n = 1 := by omega
              clear n1 n2 n3 n4 n5
              go_wp2
              go_roundw
              case rel => refine ⟨by first | exact ⟨_, rfl⟩ | trivial, .inr ⟨HN.out, by first | omega | trivial, by first | rfl | trivial, by first | rfl | trivial, _, _, rfl, HRZ.out rfl, .inl (by first | rfl | trivial), by omega, by omega⟩⟩
              case measure => simp [intOf]; omega
            · have hc1' : ¬ (c : Int) = 1 := by omega
              go_wp2
              go_roundw
              case rel => refine ⟨by first | exact ⟨_, rfl⟩ | trivial, .inr ⟨HN.out, by first | omega | trivial, by first | rfl | trivial, by first | rfl | trivial, _, _, rfl, HRD.out, HE.out.hA.elim (fun h => by omega) (fun h => .inr fun k o e => (by injection e with e; injection e with e; subst e; exact h _ _ rfl)), by omega, by have := HE.out.le; omega⟩⟩
              case measure => simp [intOf]; omega
        · have hn' : ¬ ((w1 : Int) : Int) < 16777216 := by omega
          have HN := Lib.hid hn
          clear hn
          go_wp2
          go_ret2
          refine .inr (.inl ⟨by rw [HGW.out]; have := HN.out; omega, by rw [HGB.out]; rfl, ?_⟩)
          rw [HGR.out, HGW.out]
          exact dec_set HE.out m HE.out.rd HE.out.hA HE.out.le rfl rfl
      · have hn' : ¬ ((w1 : Int) : Int) * 256 < 16777216 := by omega
        have HX := Lib.hid (And.intro hW1 (And.intro hn0 (And.intro hA1 (And.intro hA2 (And.intro hA3 hA4)))))
        have bk := HG.out 0
        clear hW1 hn0 hA1 hA2 hA3 hA4
        go_wp2
        go_ret2
        obtain ⟨hW1, hn0, hA1, hA2, hA3, hA4⟩ := HX.out
        refine .inr (.inr ⟨by rw [HGW.out]; omega, hn0, by rw [HGB.out]; rfl, ?_⟩)
        rw [HGR.out, HGW.out]
        have := dec_set HE.out m hA1 hA2 ⟨hA3, hA4⟩ (show ((r1 : Int) : Int) * 256 + g 0 = ((r1 * 256 + (g 0).toNat : Nat) : Int) by omega) (show ((w1 : Int) : Int) * 256 = ((w1 * 256 : Nat) : Int) by omega)
        exact ⟨this.1, _, _, this.2⟩
end Go.Proofs.Ytmnoddmecghjdaa
/- Encoders and decoders as plain states, and what each call makes of them. -/
namespace Go.Kin
open Go.RowKit
/-- What Put answers. -/
def putE (c bit : Int) : Int := if chB c = true ∧ (bit = 0 ∨ bit = 1) then 0 else 1
/-- What Put makes of a state. -/
def St.putI (s : St) (c bit : Int) : St := if chB c = true ∧ (bit = 0 ∨ bit = 1) then s.put c.toNat bit.toNat else s
/-- A decoder: how many bytes were needed, the rest, the range. -/
structure DS where
  I : Nat
  rest : Nat
  wide : Nat
def DS.ok (d : DS) : Prop := 16777216 ≤ d.wide ∧ d.wide ≤ 4294967295 ∧ d.rest ≤ 4294967295
/-- What Get makes of a decoder of n bytes: the bit, the error, the decoder behind. -/
def DS.get (g : Nat → Int) (n : Nat) (d : DS) (c : Int) : Int × Int × DS :=
  if chB c = false then (0, 1, d) else if d.wide ≤ d.rest then (0, 41, d) else
  if gWide d.wide d.rest (d.wide / 2048 * c.toNat) < 16777216 then
    (if n ≤ d.I then (0, 41, d) else (gBit d.rest (d.wide / 2048 * c.toNat), 0, ⟨d.I + 1, gRest d.rest (d.wide / 2048 * c.toNat) * 256 + (g d.I).toNat, gWide d.wide d.rest (d.wide / 2048 * c.toNat) * 256⟩))
  else (gBit d.rest (d.wide / 2048 * c.toNat), 0, ⟨d.I, gRest d.rest (d.wide / 2048 * c.toNat), gWide d.wide d.rest (d.wide / 2048 * c.toNat)⟩)
theorem chB_iff {c : Int} : chB c = true ↔ 31 ≤ c ∧ c ≤ 2017 := by unfold chB; exact decide_eq_true_iff
theorem DS.get_ok {g : Nat → Int} {n : Nat} {d : DS} {c : Int} (hg : Byt g) (h : d.ok) (hI : d.I ≤ n) : (d.get g n c).2.2.ok ∧ (d.get g n c).2.2.I ≤ n ∧ d.I ≤ (d.get g n c).2.2.I := by
  unfold DS.get
  by_cases h1 : chB c = false
  · rw [if_pos h1]; exact ⟨h, hI, Nat.le_refl _⟩
  rw [if_neg h1]
  by_cases h2 : d.wide ≤ d.rest
  · rw [if_pos h2]; exact ⟨h, hI, Nat.le_refl _⟩
  rw [if_neg h2]
  have hc : chB c = true := by cases hh : chB c <;> simp_all
  rw [chB_iff] at hc
  obtain ⟨bd1, bd2⟩ := St.bd_bd (s := ⟨0, 0, d.wide⟩) (c := c.toNat) ⟨h.1, h.2.1⟩ (by omega) (by omega)
  unfold St.bd at bd1 bd2
  dsimp only at bd1 bd2
  generalize d.wide / 2048 * c.toNat = bd at *
  have hb := hg d.I
  obtain ⟨q1, q2, q3⟩ := h
  have e1 : 253952 ≤ gWide d.wide d.rest bd ∧ gWide d.wide d.rest bd ≤ 4294967295 ∧ gRest d.rest bd < gWide d.wide d.rest bd := by
    unfold gWide gRest; split <;> omega
  by_cases h3 : gWide d.wide d.rest bd < 16777216
  · rw [if_pos h3]
    by_cases h4 : n ≤ d.I
    · rw [if_pos h4]; exact ⟨⟨q1, q2, q3⟩, hI, Nat.le_refl _⟩
    · rw [if_neg h4]; refine ⟨⟨?_, ?_, ?_⟩, ?_, ?_⟩ <;> dsimp only <;> omega
  · rw [if_neg h3]; refine ⟨⟨?_, ?_, ?_⟩, ?_, ?_⟩ <;> dsimp only <;> omega
end Go.Kin
namespace Go.Proofs.Ytmnoddmecghjdaa
open Go.RowKit Go.Kin
set_option linter.unusedVariables false
/-- An encoder in memory, its blocks of colour i. -/
def EncS (w : World) (col : Nat → Nat) (i p : Nat) (s : St) : Prop := s.ok ∧ 4 ≤ s.L ∧ ∃ A c, Enc w col i p s.V s.L s.R A c
/-- A decoder of n bytes g in memory. -/
def DecS (w : World) (col : Nat → Nat) (i p n : Nat) (g : Nat → Int) (d : DS) : Prop := d.ok ∧ d.I ≤ n ∧ ∃ A c, Dec w col i p A (n - d.I) c (fun j => g (d.I + j)) d.rest d.wide
section
variable {w w' : World} {col : Nat → Nat} {i j p n : Nat} {s : St} {g : Nat → Int} {d : DS}
theorem Enc.upd {V L R c : Nat} {A : Option Addr} (h : Enc w col i p V L R A c) (hj : i ≠ j) (hu : Upd col j w w') : Enc w' (recol col w j) i p V L R A c := by
  have h1 := It.upd (x := .box p _) (j := i) ⟨h.box, h.hp⟩ hj hu
  have h2 := It.upd (x := .own 0 5 A L c _) (j := i) ⟨h.own, fun k o e => (h.hA k o e).1⟩ hj hu
  exact ⟨h1.1, h2.1, h1.2, fun k o e => ⟨h2.2 k o e, (h.hA k o e).2⟩⟩
theorem Dec.upd {rest wide c : Nat} {A : Option Addr} (h : Dec w col i p A n c g rest wide) (hj : i ≠ j) (hu : Upd col j w w') : Dec w' (recol col w j) i p A n c g rest wide := by
  have h1 := It.upd (x := .box p _) (j := i) ⟨h.box, h.hp⟩ hj hu
  have h2 := It.upd (x := .rd A n _) (j := i) ⟨h.rd, h.hA.elim .inl (fun h => .inr fun k o e => (h k o e).1)⟩ hj hu
  exact ⟨h1.1, h2.1, h1.2, h.hA.elim .inl (fun h => h2.2.elim .inl (fun h' => .inr fun k o e => ⟨h' k o e, (h k o e).2⟩)), h.le⟩
theorem EncS.upd (h : EncS w col i p s) (hj : i ≠ j) (hu : Upd col j w w') : EncS w' (recol col w j) i p s := by
  obtain ⟨h1, h2, A, c, h3⟩ := h
  exact ⟨h1, h2, A, c, h3.upd hj hu⟩
theorem DecS.upd (h : DecS w col i p n g d) (hj : i ≠ j) (hu : Upd col j w w') : DecS w' (recol col w j) i p n g d := by
  obtain ⟨h1, h2, A, c, h3⟩ := h
  exact ⟨h1, h2, A, c, h3.upd hj hu⟩
theorem Enc.self {V L R c : Nat} {A : Option Addr} (h : Enc w col i p V L R A c) (hb : Below w.heap.size w w') : Enc w' (recol col w i) i p V L R A c := by
  refine ⟨h.box.below hb (Box.lt h.box), OwnS.below h.own hb (Nat.le_refl _), by rw [recol_lt (Box.lt h.box)]; exact h.hp, fun k o e => ⟨by rw [recol_lt (OwnS.lt h.own e).2]; exact (h.hA k o e).1, (h.hA k o e).2⟩⟩
theorem Dec.self {rest wide c : Nat} {A : Option Addr} (h : Dec w col i p A n c g rest wide) (hb : Below w.heap.size w w') : Dec w' (recol col w i) i p A n c g rest wide := by
  refine ⟨h.box.below hb (Box.lt h.box), h.rd.below hb, by rw [recol_lt (Box.lt h.box)]; exact h.hp, ?_, h.le⟩
  rcases Nat.eq_zero_or_pos n with h0 | h0
  · exact .inl h0
  · refine .inr fun k o e => ?_
    have hk := h.hA.elim (fun h => by omega) (fun h => h k o e)
    obtain ⟨b, off, e', hlt, _⟩ := h.rd.some_ h0
    rw [e] at e'
    injection e' with e'
    injection e' with e1 e2
    subst e1
    exact ⟨by rw [recol_lt hlt]; exact hk.1, hk.2⟩
theorem cnew_s (w : World) : Calls Try.prog 17 #[] w fun e w' => ∃ p, e = .returned (.pointer (some ⟨p, 0, none⟩)) ∧ (∀ col i, EncS w' (recol col w i) i p ⟨0, 4, 4294967295⟩) ∧ Below w.heap.size w w' := by
  refine (cnew_any w).mono ?_
  rintro e w' ⟨p, A, c, rfl, h, hb⟩
  exact ⟨p, rfl, fun col i => ⟨by unfold St.ok; dsimp only; omega, Nat.le_refl _, A, c, h col i⟩, hb⟩
theorem put_s (hE : EncS w col i p s) (hL : s.L ≤ 900000) (c bit : Int) (hc : 0 ≤ c ∧ c ≤ 65535) :
    Calls Try.prog 90 #[.pointer (some ⟨p, 0, none⟩), .int .u16 c, .int .i64 bit] w fun e w' => e = .returned (.int .i64 (putE c bit)) ∧ Upd col i w w' ∧ EncS w' (recol col w i) i p (s.putI c bit) := by
  obtain ⟨hok, h4, A, cap, he⟩ := hE
  by_cases h : chB c = true ∧ (bit = 0 ∨ bit = 1)
  · have hb := chB_iff.1 h.1
    have hp := put_yes col i p A cap s c.toNat bit.toNat w he hok (by omega) (by omega) (by omega) (by omega) hL
    rw [show ((c.toNat : Nat) : Int) = c by omega, show ((bit.toNat : Nat) : Int) = bit by omega] at hp
    refine hp.mono ?_
    rintro e w' ⟨rfl, hu, A', c', he'⟩
    have hk := St.put_ok (bit := bit.toNat) hok (c := c.toNat) (by omega) (by omega)
    unfold putE St.putI
    rw [if_pos h, if_pos h]
    exact ⟨rfl, hu, hk.1, by omega, A', c', he'⟩
  · refine (put_arg p c bit w ?_).mono ?_
    · cases hh : chB c
      · exact .inl rfl
      · exact .inr ⟨rfl, fun e => h ⟨hh, .inl e⟩, fun e => h ⟨hh, .inr e⟩⟩
    · rintro e w' ⟨rfl, rfl⟩
      unfold putE St.putI
      rw [if_neg h, if_neg h]
      exact ⟨rfl, Upd.refl _ _ _, hok, h4, A, cap, he.self (Below.refl _ _)⟩
theorem bytes_s (hE : EncS w col i p s) (hL : s.L ≤ 1000000) :
    Calls Try.prog 22 #[.pointer (some ⟨p, 0, none⟩)] w fun e w' => ∃ A', e = .returned (.slice A' s.L s.L) ∧ Rd w' A' s.L (by8 (dig s.V s.L)) ∧ (∀ k o, A' = some ⟨k, o, none⟩ → w.heap.size ≤ k) ∧ Below w.heap.size w w' := by
  obtain ⟨hok, h4, A, cap, he⟩ := hE
  exact bytes_any col i p s.V s.L s.R A cap w he (by omega) hL
theorem get_s (hD : DecS w col i p n g d) (hg : Byt g) (c : Int) (hc : 0 ≤ c ∧ c ≤ 65535) :
    Calls Try.prog 97 #[.pointer (some ⟨p, 0, none⟩), .int .u16 c] w fun e w' => e = .returned (.tuple #[.int .i64 (d.get g n c).1, .int .i64 (d.get g n c).2.1]) ∧ Upd col i w w' ∧ DecS w' (recol col w i) i p n g (d.get g n c).2.2 := by
  have hok := DS.get_ok (c := c) hg hD.1 hD.2.1
  obtain ⟨ho, hI, A, cap, hd⟩ := hD
  unfold DS.get at hok ⊢
  by_cases h1 : chB c = false
  · simp only [if_pos h1] at hok ⊢
    refine (get_arg p c w h1).mono ?_
    rintro e w' ⟨rfl, rfl⟩
    exact ⟨rfl, Upd.refl _ _ _, ho, hI, A, cap, hd.self (Below.refl _ _)⟩
  have hct : chB c = true := by cases hh : chB c <;> simp_all
  have hcb := chB_iff.1 hct
  obtain ⟨ch, rfl⟩ : ∃ ch : Nat, c = ch := ⟨c.toNat, by omega⟩
  simp only [if_neg h1] at hok ⊢
  by_cases h2 : d.wide ≤ d.rest
  · simp only [if_pos h2] at hok ⊢
    refine (get_over p A _ cap d.rest d.wide ch w hd.box hct h2).mono ?_
    rintro e w' ⟨rfl, hb⟩
    exact ⟨rfl, Upd.of_below hb _ _, ho, hI, A, cap, hd.self hb⟩
  simp only [if_neg h2] at hok ⊢
  rw [show ((ch : Int)).toNat = ch by omega] at hok ⊢
  refine (get_go col i p A _ cap _ d.rest d.wide _ ch w hd (fun k => hg _) (by omega) (by omega) ho.1 ho.2.1 (by omega) rfl).mono ?_
  generalize d.wide / 2048 * ch = bd at *
  rintro e w' (⟨h3, h4, rfl, hb⟩ | ⟨h3, rfl, hu, hd'⟩ | ⟨h3, h4, rfl, hu, A', c', hd'⟩)
  · simp only [if_pos h3, if_pos (show n ≤ d.I by omega)] at hok ⊢
    exact ⟨trivial, Upd.of_below hb _ _, ho, hI, A, cap, hd.self hb⟩
  · simp only [if_neg h3] at hok ⊢
    exact ⟨trivial, hu, hok.1, hok.2.1, A, cap, hd'⟩
  · simp only [if_pos h3, if_neg (show ¬ n ≤ d.I by omega)] at hok ⊢
    refine ⟨trivial, hu, hok.1, hok.2.1, A', c', ?_⟩
    dsimp only
    rw [show n - (d.I + 1) = n - d.I - 1 by omega, show (fun j => g (d.I + 1 + j)) = (fun j => g (d.I + (j + 1))) from funext fun j => by rw [show d.I + 1 + j = d.I + (j + 1) by omega]]
    exact hd'
theorem end_s (hD : DecS w col i p n g d) : Calls Try.prog 31 #[.pointer (some ⟨p, 0, none⟩)] w fun e w' => e = .returned (.int .i64 (endK (n - d.I) d.rest)) ∧ w = w' := by
  obtain ⟨ho, hI, A, cap, hd⟩ := hD
  exact end_any p A _ cap d.rest _ w hd.box
theorem open_s (A : Option Addr) (n c : Nat) (g : Nat → Int) (w : World) (hS : Rd w A n (by8 g)) (hg : Byt g) (h4 : 4 ≤ n) (hnc : n ≤ c) (hc : c ≤ 9223372036854775807) (hn : n ≤ 1000000) :
    Calls Try.prog 24 #[.slice A n c] w fun e w' => ∃ p, e = .returned (.tuple #[.pointer (some ⟨p, 0, none⟩), .int .i64 0]) ∧ (∀ col i, DecS w' (recol col w i) i p n g ⟨4, numOf g 4, 4294967295⟩) ∧ Below w.heap.size w w' := by
  obtain ⟨b, off, rfl, _⟩ := hS.some_ (by omega)
  refine (open_yes b off n c g w hS hg h4 hnc hc hn).mono ?_
  rintro e w' ⟨p, A', c', rfl, h, hb⟩
  have hl := numOf_lt hg 4
  refine ⟨p, rfl, fun col i => ⟨?_, h4, A', c', ?_⟩, hb⟩
  · refine ⟨?_, ?_, ?_⟩ <;> dsimp only <;> omega
  · have := h col i
    rw [show (fun j => g (4 + j)) = (fun j => g (j + 4)) from funext fun j => by rw [Nat.add_comm]]
    exact this
end
end Go.Proofs.Ytmnoddmecghjdaa
