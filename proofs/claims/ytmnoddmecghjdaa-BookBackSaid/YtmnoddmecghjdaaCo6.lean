/- Walks of package coder: Bytes. -/
import Derived.Test.YtmnoddmecghjdaaCo5
namespace Go.Proofs.Ytmnoddmecghjdaa
open Go.RowKit Go.Kin
set_option linter.unusedVariables false
theorem bytes_nil (w : World) : Calls Try.prog 22 #[.pointer none] w fun e w' => e = .returned (.slice none 0 0) ∧ w = w' := by
  go_enter Try.func22, Try.ntmps22
  go_wp2
  go_ret
  exact ⟨rfl, rfl⟩
set_option maxRecDepth 100000 in
set_option maxHeartbeats 2000000 in
theorem bytes_any (col : Nat → Nat) (i p V L R : Nat) (A : Option Addr) (cap : Nat) (w : World) (hE : Enc w col i p V L R A cap) (hL : 1 ≤ L) (hL2 : L ≤ 1000000) :
    Calls Try.prog 22 #[.pointer (some ⟨p, 0, none⟩)] w fun e w' => ∃ A', e = .returned (.slice A' L L) ∧ Rd w' A' L (by8 (dig V L)) ∧ (∀ k o, A' = some ⟨k, o, none⟩ → w.heap.size ≤ k) ∧ Below w.heap.size w w' := by
  obtain ⟨i0, hi0, hz0, hz1, hz2⟩ := parts_u8
  have HI := Lib.hid hi0
  clear hi0
  obtain ⟨k, rfl, hkp, hck, hrow, hlc⟩ := hE.L0 hL
  obtain ⟨hB, hO, hcp, _⟩ := hE
  have kc := Box.cells hB
  have hRd := hrow.rd
  have hN0 := OwnS.nil w w.heap.size 5 (by8 (dig V L))
  have hNo : some (⟨k, 0, none⟩ : Addr) = none → L = 0 := fun h => by cases h
  have HCL : Hid (∀ (A4 : Option Addr) (c4 : Nat) (w4 : World) (f : Nat → Value), OwnS w4 w.heap.size 5 A4 (0 + L) c4 f → (L : Int) ≤ c4 ∧ L ≤ c4) := Lib.hid (fun A4 c4 w4 f h => by rcases h.cases with ⟨_, h0, _⟩ | ⟨_, _, _, _, h0, _⟩ <;> omega)
  go_enter Try.func22, Try.ntmps22
  go_wp2_with (first | (go_at_call 47; refine (begin_any p _ L cap _ _ hB hL).mono ?_; rintro e w' ⟨rfl, rfl⟩) | (at_builtin; refine wpList_appS rfl (.const (.slice none 0 0)) (.tmp 11) rfl Try.underlying37 HI.out hz0 hz1 hz2 rfl rfl rfl hN0 hRd hNo (fun _ => rfl) ?_ ?_ ?_ ?_; rotate_right; intro A4 c4 w4 hO4 hG4 hL4; have c1 := (HCL.out _ _ _ _ hO4).1; have c2 := (HCL.out _ _ _ _ hO4).2))
  rotate_left
  · unfold maxLen; omega
  · omega
  · omega
  go_ret
  refine ⟨A4, rfl, ?_, fun k o e => (OwnS.lt hO4 e).1, ?_⟩
  · have h := hO4.rd
    rw [Nat.zero_add] at h
    exact h.congr (fun j _ => by simp)
  · exact (Below.refl _ w).grown hG4 (Nat.le_refl _) (fun k hk => by simp [Value.ownBlock] at hk)
end Go.Proofs.Ytmnoddmecghjdaa
