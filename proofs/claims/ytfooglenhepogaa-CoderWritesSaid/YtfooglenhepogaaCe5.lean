/- The document's encoders and decoders as plain states, and what each call makes of them. -/
import Derived.Test.YtfooglenhepogaaCe4
namespace Go.Kin
theorem and_65535 (c : Int) : bits .and .i64 c 65535 = c % 65536 := by
  have h1 : (BitVec.ofInt 64 65535).toNat = 2 ^ 16 - 1 := by decide
  have key : (BitVec.ofInt 64 c &&& BitVec.ofInt 64 65535).toNat = (c % ((2 ^ 64 : Nat) : Int)).toNat % 2 ^ 16 := by
    rw [BitVec.toNat_and, BitVec.toNat_ofInt, h1, Nat.and_two_pow_sub_one_eq_mod]
  show IntKind.i64.wrap ((BitVec.ofInt 64 c &&& BitVec.ofInt 64 65535).toNat : Nat) = c % 65536
  rw [key, IntKind.wrap_i64]
  omega
theorem quietC {P : Program} {f : FuncId} {args : Array Value} {w : World} {v : Value} (h : Calls P f args w fun e w' => e = .returned v ∧ w = w') : Calls P f args w fun e w' => e = .returned v ∧ RowKit.Below w.heap.size w w' :=
  h.mono fun _ _ ⟨he, hw⟩ => ⟨he, by subst hw; exact RowKit.Below.refl _ _⟩
end Go.Kin
namespace Go.Proofs.Ytfooglenhepogaa
open Go.RowKit Go.Kin
set_option linter.unusedVariables false
def EncRS (w : World) (col : Nat → Nat) (i p : Nat) (s : St) : Prop := s.ok ∧ 4 ≤ s.L ∧ ∃ A c, EncR w col i p s.V s.L s.R A c
structure DecRS (w : World) (col : Nat → Nat) (i p n : Nat) (A : Option Addr) (c : Nat) (d : DS) : Prop where
  box : Box w p #[.slice A n c, .int .i64 d.I, .int .i64 d.rest, .int .i64 d.wide]
  hp : col p = i
  ok : d.ok
  le : d.I ≤ n
section
variable {w w' : World} {col : Nat → Nat} {i j p n : Nat} {s : St} {g : Nat → Int} {d : DS} {A : Option Addr} {cap : Nat}
theorem EncRS.upd (h : EncRS w col i p s) (hj : i ≠ j) (hu : Upd col j w w') : EncRS w' (recol col w j) i p s := by
  obtain ⟨h1, h2, A, c, h⟩ := h
  have k1 := It.upd (x := .box p _) (j := i) ⟨h.box, h.hp⟩ hj hu
  have k2 := It.upd (x := .own 0 3 A s.L c _) (j := i) ⟨h.own, fun k o e => (h.hA k o e).1⟩ hj hu
  exact ⟨h1, h2, A, c, k1.1, k2.1, k1.2, fun k o e => ⟨k2.2 k o e, (h.hA k o e).2⟩⟩
theorem EncRS.below (h : EncRS w col i p s) (hb : Below w.heap.size w w') : EncRS w' col i p s := by
  obtain ⟨h1, h2, A, c, h3⟩ := h
  exact ⟨h1, h2, A, c, h3.box.below hb (Box.lt h3.box), OwnS.below h3.own hb (Nat.le_refl _), h3.hp, h3.hA⟩
theorem EncRS.self (h : EncRS w col i p s) : EncRS w (recol col w i) i p s := by
  obtain ⟨h1, h2, A, c, h3⟩ := h
  exact ⟨h1, h2, A, c, h3.box, h3.own, by rw [recol_lt (Box.lt h3.box)]; exact h3.hp, fun k o e => ⟨by rw [recol_lt (OwnS.lt h3.own e).2]; exact (h3.hA k o e).1, (h3.hA k o e).2⟩⟩
theorem DecRS.upd (h : DecRS w col i p n A cap d) (hj : i ≠ j) (hu : Upd col j w w') : DecRS w' (recol col w j) i p n A cap d := by
  have k1 := It.upd (x := .box p _) (j := i) ⟨h.box, h.hp⟩ hj hu
  exact ⟨k1.1, k1.2, h.ok, h.le⟩
theorem DecRS.below (h : DecRS w col i p n A cap d) (hb : Below w.heap.size w w') : DecRS w' col i p n A cap d := ⟨h.box.below hb (Box.lt h.box), h.hp, h.ok, h.le⟩
theorem rnew_s (w : World) : Calls Try.prog 15 #[] w fun e w' => ∃ p, e = .returned (.pointer (some ⟨p, 0, none⟩)) ∧ (∀ col i, EncRS w' (recol col w i) i p ⟨0, 4, 4294967295⟩) ∧ Below w.heap.size w w' := by
  refine (rnew_any w).mono ?_
  rintro e w' ⟨p, A, c, rfl, h, hb⟩
  exact ⟨p, rfl, fun col i => ⟨by unfold St.ok; dsimp only; omega, Nat.le_refl _, A, c, h col i⟩, hb⟩
set_option maxHeartbeats 1000000 in
theorem rput_arg (p : Nat) (c bit : Int) (w : World) (h : chB c = false ∨ (chB c = true ∧ ¬ bit = 0 ∧ ¬ bit = 1)) :
    Calls Try.prog 18 #[.pointer (some ⟨p, 0, none⟩), .int .i64 c, .int .i64 bit] w fun e w' => e = .returned (.int .i64 1) ∧ w = w' := by
  rcases h with h | ⟨h, h1, h2⟩
  · go_enter Try.func18, Try.ntmps18
    go_wp2_with (go_at_call 45; refine (rright_any _ _).mono ?_; rintro e w' ⟨rfl, rfl⟩; rw [h])
    go_ret
    exact ⟨rfl, rfl⟩
  · have b1 : (bit != 0) = true := by simp [h1]
    have b2 : (bit != 1) = true := by simp [h2]
    go_enter Try.func18, Try.ntmps18
    go_wp2_with (go_at_call 45; refine (rright_any _ _).mono ?_; rintro e w' ⟨rfl, rfl⟩; rw [h])
    go_ret
    exact ⟨rfl, rfl⟩
theorem rput_s (hE : EncRS w col i p s) (hL : s.L ≤ 900000) (c bit : Int) :
    Calls Try.prog 18 #[.pointer (some ⟨p, 0, none⟩), .int .i64 c, .int .i64 bit] w fun e w' => e = .returned (.int .i64 (putE c bit)) ∧ Upd col i w w' ∧ EncRS w' (recol col w i) i p (s.putI c bit) := by
  have hself := hE.self
  obtain ⟨hok, h4, A, cap, he⟩ := hE
  by_cases h : chB c = true ∧ (bit = 0 ∨ bit = 1)
  · have hb := chB_iff.1 h.1
    have hp := rput_yes col i p A cap s c.toNat bit.toNat w he hok (by omega) (by omega) (by omega) (by omega) hL
    rw [show ((c.toNat : Nat) : Int) = c by omega, show ((bit.toNat : Nat) : Int) = bit by omega] at hp
    refine hp.mono ?_
    rintro e w' ⟨rfl, hu, A', c', he'⟩
    have hk := St.put_ok (bit := bit.toNat) hok (c := c.toNat) (by omega) (by omega)
    unfold putE St.putI
    rw [if_pos h, if_pos h]
    exact ⟨rfl, hu, hk.1, by omega, A', c', he'⟩
  · refine (rput_arg p c bit w ?_).mono ?_
    · cases hh : chB c
      · exact .inl rfl
      · exact .inr ⟨rfl, fun e => h ⟨hh, .inl e⟩, fun e => h ⟨hh, .inr e⟩⟩
    · rintro e w' ⟨rfl, rfl⟩
      unfold putE St.putI
      rw [if_neg h, if_neg h]
      exact ⟨rfl, Upd.refl _ _ _, hself⟩
theorem rbytes_s (hE : EncRS w col i p s) (hL : s.L ≤ 1000000) :
    Calls Try.prog 22 #[.pointer (some ⟨p, 0, none⟩)] w fun e w' => ∃ A' c', e = .returned (.slice A' s.L c') ∧ Rd w' A' s.L (by8 (dig s.V s.L)) ∧ (∀ k o, A' = some ⟨k, o, none⟩ → w.heap.size ≤ k) ∧ Below w.heap.size w w' := by
  obtain ⟨hok, h4, A, cap, he⟩ := hE
  exact rbytes_any p s.V s.L A cap _ w he.box he.own.rd hL
theorem ropen_s (A : Option Addr) (n c : Nat) (g : Nat → Int) (w : World) (hS : Rd w A n (by8 g)) (hg : Byt g) (h4 : 4 ≤ n) :
    Calls Try.prog 25 #[.slice A n c] w fun e w' => ∃ p, e = .returned (.tuple #[.pointer (some ⟨p, 0, none⟩), .int .i64 0]) ∧ (∀ col i, DecRS w' (recol col w i) i p n A c ⟨4, numOf g 4, 4294967295⟩) ∧ Below w.heap.size w w' := by
  refine (ropen_yes A n c g w hS hg h4).mono ?_
  rintro e w' ⟨p, rfl, hp, hB, hb⟩
  have hl := numOf_lt hg 4
  exact ⟨p, rfl, fun col i => ⟨hB, recol_ge hp, ⟨by dsimp only; omega, by dsimp only; omega, by dsimp only; omega⟩, h4⟩, hb⟩
theorem rend_s (hD : DecRS w col i p n A cap d) : Calls Try.prog 29 #[.pointer (some ⟨p, 0, none⟩)] w fun e w' => e = .returned (.int .i64 (endK (n - d.I) d.rest)) ∧ Below w.heap.size w w' := by
  refine (rend_any p d.I n cap d.rest A _ w hD.box hD.le).mono ?_
  rintro e w' ⟨rfl, m, rfl⟩
  exact ⟨rfl, below_drewN (Below.refl _ _) _⟩
theorem rget_s (hD : DecRS w col i p n A cap d) (hR : Rd w A n (by8 g)) (hg : Byt g) (hn : n ≤ 1000000) (c : Int) :
    Calls Try.prog 27 #[.pointer (some ⟨p, 0, none⟩), .int .i64 c] w fun e w' => e = .returned (.tuple #[.int .i64 (d.get g n c).1, .int .i64 (d.get g n c).2.1]) ∧ Upd col i w w' ∧ DecRS w' (recol col w i) i p n A cap (d.get g n c).2.2 := by
  have hok := DS.get_ok (c := c) hg hD.ok hD.le
  obtain ⟨hB, hp, ho, hI⟩ := hD
  have hpl := Box.lt hB
  have hself : ∀ {w'}, Below w.heap.size w w' → DecRS w' (recol col w i) i p n A cap d := fun hb => ⟨hB.below hb hpl, by rw [recol_lt hpl]; exact hp, ho, hI⟩
  unfold DS.get at hok ⊢
  by_cases h1 : chB c = false
  · simp only [if_pos h1] at hok ⊢
    refine (rget_arg p c w h1).mono ?_
    rintro e w' ⟨rfl, rfl⟩
    exact ⟨rfl, Upd.refl _ _ _, hself (Below.refl _ _)⟩
  have hct : chB c = true := by cases hh : chB c <;> simp_all
  have hcb := chB_iff.1 hct
  obtain ⟨ch, rfl⟩ : ∃ ch : Nat, c = ch := ⟨c.toNat, by omega⟩
  simp only [if_neg h1] at hok ⊢
  by_cases h2 : d.wide ≤ d.rest
  · simp only [if_pos h2] at hok ⊢
    refine (rget_over p d.I n cap d.rest d.wide ch A w hB hct h2).mono ?_
    rintro e w' ⟨rfl, hb⟩
    exact ⟨rfl, Upd.of_below hb _ _, hself hb⟩
  simp only [if_neg h2] at hok ⊢
  rw [show ((ch : Int)).toNat = ch by omega] at hok ⊢
  refine (rget_go p d.I n cap d.rest d.wide _ ch A g w hB hR hg (by omega) (by omega) ho.1 ho.2.1 (by omega) rfl hI hn).mono ?_
  generalize d.wide / 2048 * ch = bd at *
  unfold RGet
  rintro e w' (⟨h3, h4, rfl, hb⟩ | ⟨h3, rfl, hu, hd'⟩ | ⟨h3, h4, rfl, hu, hd'⟩)
  · simp only [if_pos h3, if_pos h4] at hok ⊢
    exact ⟨trivial, Upd.of_below hb _ _, hself hb⟩
  · simp only [if_neg h3] at hok ⊢
    exact ⟨trivial, Upd.of_oth hu (fun _ => hp), hd', by rw [recol_lt hpl]; exact hp, hok.1, hok.2.1⟩
  · simp only [if_pos h3, if_neg (show ¬ n ≤ d.I by omega)] at hok ⊢
    exact ⟨trivial, Upd.of_oth hu (fun _ => hp), hd', by rw [recol_lt hpl]; exact hp, hok.1, hok.2.1⟩
end
end Go.Proofs.Ytfooglenhepogaa
