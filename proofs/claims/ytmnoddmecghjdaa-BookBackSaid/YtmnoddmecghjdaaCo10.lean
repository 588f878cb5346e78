/- Encoders and decoders as plain states, and what each call makes of them. -/
import Derived.Test.YtmnoddmecghjdaaCo9
namespace Go.Kin
open Go.RowKit
/-- What Put answers. -/
def putE (c bit : Int) : Int := if chB c = true ∧ (bit = 0 ∨ bit = 1) then 0 else 1
/-- What Put makes of a state. -/
def St.putI (s : St) (c bit : Int) : St := if chB c = true ∧ (bit = 0 ∨ bit = 1) then s.put c.toNat bit.toNat else s
/-- A decoder: how many bytes were needed, the rest, the range. -/
structure DS where
  I : Nat
  rest : Nat
  wide : Nat
def DS.ok (d : DS) : Prop := 16777216 ≤ d.wide ∧ d.wide ≤ 4294967295 ∧ d.rest ≤ 4294967295
/-- What Get makes of a decoder of n bytes: the bit, the error, the decoder behind. -/
def DS.get (g : Nat → Int) (n : Nat) (d : DS) (c : Int) : Int × Int × DS :=
  if chB c = false then (0, 1, d) else if d.wide ≤ d.rest then (0, 41, d) else
  if gWide d.wide d.rest (d.wide / 2048 * c.toNat) < 16777216 then
    (if n ≤ d.I then (0, 41, d) else (gBit d.rest (d.wide / 2048 * c.toNat), 0, ⟨d.I + 1, gRest d.rest (d.wide / 2048 * c.toNat) * 256 + (g d.I).toNat, gWide d.wide d.rest (d.wide / 2048 * c.toNat) * 256⟩))
  else (gBit d.rest (d.wide / 2048 * c.toNat), 0, ⟨d.I, gRest d.rest (d.wide / 2048 * c.toNat), gWide d.wide d.rest (d.wide / 2048 * c.toNat)⟩)
theorem chB_iff {c : Int} : chB c = true ↔ 31 ≤ c ∧ c ≤ 2017 := by unfold chB; exact decide_eq_true_iff
theorem DS.get_ok {g : Nat → Int} {n : Nat} {d : DS} {c : Int} (hg : Byt g) (h : d.ok) (hI : d.I ≤ n) : (d.get g n c).2.2.ok ∧ (d.get g n c).2.2.I ≤ n ∧ d.I ≤ (d.get g n c).2.2.I := by
  unfold DS.get
  by_cases h1 : chB c = false
  · rw [if_pos h1]; exact ⟨h, hI, Nat.le_refl _⟩
  rw [if_neg h1]
  by_cases h2 : d.wide ≤ d.rest
  · rw [if_pos h2]; exact ⟨h, hI, Nat.le_refl _⟩
  rw [if_neg h2]
  have hc : chB c = true := by cases hh : chB c <;> simp_all
  rw [chB_iff] at hc
  obtain ⟨bd1, bd2⟩ := St.bd_bd (s := ⟨0, 0, d.wide⟩) (c := c.toNat) ⟨h.1, h.2.1⟩ (by omega) (by omega)
  unfold St.bd at bd1 bd2
  dsimp only at bd1 bd2
  generalize d.wide / 2048 * c.toNat = bd at *
  have hb := hg d.I
  obtain ⟨q1, q2, q3⟩ := h
  have e1 : 253952 ≤ gWide d.wide d.rest bd ∧ gWide d.wide d.rest bd ≤ 4294967295 ∧ gRest d.rest bd < gWide d.wide d.rest bd := by
    unfold gWide gRest; split <;> omega
  by_cases h3 : gWide d.wide d.rest bd < 16777216
  · rw [if_pos h3]
    by_cases h4 : n ≤ d.I
    · rw [if_pos h4]; exact ⟨⟨q1, q2, q3⟩, hI, Nat.le_refl _⟩
    · rw [if_neg h4]; refine ⟨⟨?_, ?_, ?_⟩, ?_, ?_⟩ <;> dsimp only <;> omega
  · rw [if_neg h3]; refine ⟨⟨?_, ?_, ?_⟩, ?_, ?_⟩ <;> dsimp only <;> omega
end Go.Kin
namespace Go.Proofs.Ytmnoddmecghjdaa
open Go.RowKit Go.Kin
set_option linter.unusedVariables false
/-- An encoder in memory, its blocks of colour i. -/
def EncS (w : World) (col : Nat → Nat) (i p : Nat) (s : St) : Prop := s.ok ∧ 4 ≤ s.L ∧ ∃ A c, Enc w col i p s.V s.L s.R A c
/-- A decoder of n bytes g in memory. -/
def DecS (w : World) (col : Nat → Nat) (i p n : Nat) (g : Nat → Int) (d : DS) : Prop := d.ok ∧ d.I ≤ n ∧ ∃ A c, Dec w col i p A (n - d.I) c (fun j => g (d.I + j)) d.rest d.wide
section
variable {w w' : World} {col : Nat → Nat} {i j p n : Nat} {s : St} {g : Nat → Int} {d : DS}
theorem Enc.upd {V L R c : Nat} {A : Option Addr} (h : Enc w col i p V L R A c) (hj : i ≠ j) (hu : Upd col j w w') : Enc w' (recol col w j) i p V L R A c := by
  have h1 := It.upd (x := .box p _) (j := i) ⟨h.box, h.hp⟩ hj hu
  have h2 := It.upd (x := .own 0 5 A L c _) (j := i) ⟨h.own, fun k o e => (h.hA k o e).1⟩ hj hu
  exact ⟨h1.1, h2.1, h1.2, fun k o e => ⟨h2.2 k o e, (h.hA k o e).2⟩⟩
theorem Dec.upd {rest wide c : Nat} {A : Option Addr} (h : Dec w col i p A n c g rest wide) (hj : i ≠ j) (hu : Upd col j w w') : Dec w' (recol col w j) i p A n c g rest wide := by
  have h1 := It.upd (x := .box p _) (j := i) ⟨h.box, h.hp⟩ hj hu
  have h2 := It.upd (x := .rd A n _) (j := i) ⟨h.rd, h.hA.elim .inl (fun h => .inr fun k o e => (h k o e).1)⟩ hj hu
  exact ⟨h1.1, h2.1, h1.2, h.hA.elim .inl (fun h => h2.2.elim .inl (fun h' => .inr fun k o e => ⟨h' k o e, (h k o e).2⟩)), h.le⟩
theorem EncS.upd (h : EncS w col i p s) (hj : i ≠ j) (hu : Upd col j w w') : EncS w' (recol col w j) i p s := by
  obtain ⟨h1, h2, A, c, h3⟩ := h
  exact ⟨h1, h2, A, c, h3.upd hj hu⟩
theorem DecS.upd (h : DecS w col i p n g d) (hj : i ≠ j) (hu : Upd col j w w') : DecS w' (recol col w j) i p n g d := by
  obtain ⟨h1, h2, A, c, h3⟩ := h
  exact ⟨h1, h2, A, c, h3.upd hj hu⟩
theorem Enc.self {V L R c : Nat} {A : Option Addr} (h : Enc w col i p V L R A c) (hb : Below w.heap.size w w') : Enc w' (recol col w i) i p V L R A c := by
  refine ⟨h.box.below hb (Box.lt h.box), OwnS.below h.own hb (Nat.le_refl _), by rw [recol_lt (Box.lt h.box)]; exact h.hp, fun k o e => ⟨by rw [recol_lt (OwnS.lt h.own e).2]; exact (h.hA k o e).1, (h.hA k o e).2⟩⟩
theorem Dec.self {rest wide c : Nat} {A : Option Addr} (h : Dec w col i p A n c g rest wide) (hb : Below w.heap.size w w') : Dec w' (recol col w i) i p A n c g rest wide := by
  refine ⟨h.box.below hb (Box.lt h.box), h.rd.below hb, by rw [recol_lt (Box.lt h.box)]; exact h.hp, ?_, h.le⟩
  rcases Nat.eq_zero_or_pos n with h0 | h0
  · exact .inl h0
  · refine .inr fun k o e => ?_
    have hk := h.hA.elim (fun h => by omega) (fun h => h k o e)
    obtain ⟨b, off, e', hlt, _⟩ := h.rd.some_ h0
    rw [e] at e'
    injection e' with e'
    injection e' with e1 e2
    subst e1
    exact ⟨by rw [recol_lt hlt]; exact hk.1, hk.2⟩
theorem cnew_s (w : World) : Calls Try.prog 17 #[] w fun e w' => ∃ p, e = .returned (.pointer (some ⟨p, 0, none⟩)) ∧ (∀ col i, EncS w' (recol col w i) i p ⟨0, 4, 4294967295⟩) ∧ Below w.heap.size w w' := by
  refine (cnew_any w).mono ?_
  rintro e w' ⟨p, A, c, rfl, h, hb⟩
  exact ⟨p, rfl, fun col i => ⟨by unfold St.ok; dsimp only; omega, Nat.le_refl _, A, c, h col i⟩, hb⟩
theorem put_s (hE : EncS w col i p s) (hL : s.L ≤ 900000) (c bit : Int) (hc : 0 ≤ c ∧ c ≤ 65535) :
    Calls Try.prog 90 #[.pointer (some ⟨p, 0, none⟩), .int .u16 c, .int .i64 bit] w fun e w' => e = .returned (.int .i64 (putE c bit)) ∧ Upd col i w w' ∧ EncS w' (recol col w i) i p (s.putI c bit) := by
  obtain ⟨hok, h4, A, cap, he⟩ := hE
  by_cases h : chB c = true ∧ (bit = 0 ∨ bit = 1)
  · have hb := chB_iff.1 h.1
    have hp := put_yes col i p A cap s c.toNat bit.toNat w he hok (by omega) (by omega) (by omega) (by omega) hL
    rw [show ((c.toNat : Nat) : Int) = c by omega, show ((bit.toNat : Nat) : Int) = bit by omega] at hp
    refine hp.mono ?_
    rintro e w' ⟨rfl, hu, A', c', he'⟩
    have hk := St.put_ok (bit := bit.toNat) hok (c := c.toNat) (by omega) (by omega)
    unfold putE St.putI
    rw [if_pos h, if_pos h]
    exact ⟨rfl, hu, hk.1, by omega, A', c', he'⟩
  · refine (put_arg p c bit w ?_).mono ?_
    · cases hh : chB c
      · exact .inl rfl
      · exact .inr ⟨rfl, fun e => h ⟨hh, .inl e⟩, fun e => h ⟨hh, .inr e⟩⟩
    · rintro e w' ⟨rfl, rfl⟩
      unfold putE St.putI
      rw [if_neg h, if_neg h]
      exact ⟨rfl, Upd.refl _ _ _, hok, h4, A, cap, he.self (Below.refl _ _)⟩
theorem bytes_s (hE : EncS w col i p s) (hL : s.L ≤ 1000000) :
    Calls Try.prog 22 #[.pointer (some ⟨p, 0, none⟩)] w fun e w' => ∃ A', e = .returned (.slice A' s.L s.L) ∧ Rd w' A' s.L (by8 (dig s.V s.L)) ∧ (∀ k o, A' = some ⟨k, o, none⟩ → w.heap.size ≤ k) ∧ Below w.heap.size w w' := by
  obtain ⟨hok, h4, A, cap, he⟩ := hE
  exact bytes_any col i p s.V s.L s.R A cap w he (by omega) hL
theorem get_s (hD : DecS w col i p n g d) (hg : Byt g) (c : Int) (hc : 0 ≤ c ∧ c ≤ 65535) :
    Calls Try.prog 97 #[.pointer (some ⟨p, 0, none⟩), .int .u16 c] w fun e w' => e = .returned (.tuple #[.int .i64 (d.get g n c).1, .int .i64 (d.get g n c).2.1]) ∧ Upd col i w w' ∧ DecS w' (recol col w i) i p n g (d.get g n c).2.2 := by
  have hok := DS.get_ok (c := c) hg hD.1 hD.2.1
  obtain ⟨ho, hI, A, cap, hd⟩ := hD
  unfold DS.get at hok ⊢
  by_cases h1 : chB c = false
  · simp only [if_pos h1] at hok ⊢
    refine (get_arg p c w h1).mono ?_
    rintro e w' ⟨rfl, rfl⟩
    exact ⟨rfl, Upd.refl _ _ _, ho, hI, A, cap, hd.self (Below.refl _ _)⟩
  have hct : chB c = true := by cases hh : chB c <;> simp_all
  have hcb := chB_iff.1 hct
  obtain ⟨ch, rfl⟩ : ∃ ch : Nat, c = ch := ⟨c.toNat, by omega⟩
  simp only [if_neg h1] at hok ⊢
  by_cases h2 : d.wide ≤ d.rest
  · simp only [if_pos h2] at hok ⊢
    refine (get_over p A _ cap d.rest d.wide ch w hd.box hct h2).mono ?_
    rintro e w' ⟨rfl, hb⟩
    exact ⟨rfl, Upd.of_below hb _ _, ho, hI, A, cap, hd.self hb⟩
  simp only [if_neg h2] at hok ⊢
  rw [show ((ch : Int)).toNat = ch by omega] at hok ⊢
  refine (get_go col i p A _ cap _ d.rest d.wide _ ch w hd (fun k => hg _) (by omega) (by omega) ho.1 ho.2.1 (by omega) rfl).mono ?_
  generalize d.wide / 2048 * ch = bd at *
  rintro e w' (⟨h3, h4, rfl, hb⟩ | ⟨h3, rfl, hu, hd'⟩ | ⟨h3, h4, rfl, hu, A', c', hd'⟩)
  · simp only [if_pos h3, if_pos (show n ≤ d.I by omega)] at hok ⊢
    exact ⟨trivial, Upd.of_below hb _ _, ho, hI, A, cap, hd.self hb⟩
  · simp only [if_neg h3] at hok ⊢
    exact ⟨trivial, hu, hok.1, hok.2.1, A, cap, hd'⟩
  · simp only [if_pos h3, if_neg (show ¬ n ≤ d.I by omega)] at hok ⊢
    refine ⟨trivial, hu, hok.1, hok.2.1, A', c', ?_⟩
    dsimp only
    rw [show n - (d.I + 1) = n - d.I - 1 by omega, show (fun j => g (d.I + 1 + j)) = (fun j => g (d.I + (j + 1))) from funext fun j => by rw [show d.I + 1 + j = d.I + (j + 1) by omega]]
    exact hd'
theorem end_s (hD : DecS w col i p n g d) : Calls Try.prog 31 #[.pointer (some ⟨p, 0, none⟩)] w fun e w' => e = .returned (.int .i64 (endK (n - d.I) d.rest)) ∧ w = w' := by
  obtain ⟨ho, hI, A, cap, hd⟩ := hD
  exact end_any p A _ cap d.rest _ w hd.box
theorem open_s (A : Option Addr) (n c : Nat) (g : Nat → Int) (w : World) (hS : Rd w A n (by8 g)) (hg : Byt g) (h4 : 4 ≤ n) (hnc : n ≤ c) (hc : c ≤ 9223372036854775807) (hn : n ≤ 1000000) :
    Calls Try.prog 24 #[.slice A n c] w fun e w' => ∃ p, e = .returned (.tuple #[.pointer (some ⟨p, 0, none⟩), .int .i64 0]) ∧ (∀ col i, DecS w' (recol col w i) i p n g ⟨4, numOf g 4, 4294967295⟩) ∧ Below w.heap.size w w' := by
  obtain ⟨b, off, rfl, _⟩ := hS.some_ (by omega)
  refine (open_yes b off n c g w hS hg h4 hnc hc hn).mono ?_
  rintro e w' ⟨p, A', c', rfl, h, hb⟩
  have hl := numOf_lt hg 4
  refine ⟨p, rfl, fun col i => ⟨?_, h4, A', c', ?_⟩, hb⟩
  · refine ⟨?_, ?_, ?_⟩ <;> dsimp only <;> omega
  · have := h col i
    rw [show (fun j => g (4 + j)) = (fun j => g (j + 4)) from funext fun j => by rw [Nat.add_comm]]
    exact this
end
end Go.Proofs.Ytmnoddmecghjdaa
