/- Put and Get of a block of levels, with whatever arguments: the program's and the document's. -/
import Derived.Test.YtmnoddmecghjdaaQr2
import Derived.Test.YtmnoddmecghjdaaQr3
set_option linter.unusedVariables false
namespace Go.Kin
open Go.RowKit
def gBad (t n : Int) : Prop := sideZ n = 0 ∨ t < 0 ∨ 15 ≤ t
instance (t n : Int) : Decidable (gBad t n) := by unfold gBad; infer_instance
def GS.blkA (g : Nat → Int) (m : Nat) (z : GS) (t n : Int) : VR := if gBad t n then ⟨1, fun _ => 0, z⟩ else z.blk g m t.toNat n.toNat
theorem gGood {t n : Int} (h : ¬ gBad t n) : ∃ T N : Nat, t = T ∧ n = N ∧ T < 15 ∧ sideN N ≠ 0 ∧ N ≤ 64 := by
  unfold gBad at h
  have h1 : sideZ n ≠ 0 := fun e => h (.inl e)
  have hn : n = 16 ∨ n = 64 := by
    unfold sideZ at h1
    by_cases a : n = 16
    · exact .inl a
    · by_cases b : n = 64
      · exact .inr b
      · rw [if_neg a, if_neg b] at h1
        exact absurd rfl h1
  rcases hn with rfl | rfl
  · exact ⟨t.toNat, 16, by omega, rfl, by omega, by decide, by omega⟩
  · exact ⟨t.toNat, 64, by omega, rfl, by omega, by decide, by omega⟩
theorem GS.blkA_ok {g : Nat → Int} {m : Nat} {z : GS} (hg : Byt g) (h : z.ok m) (t n : Int) : (z.blkA g m t n).x.ok m ∧ ((z.blkA g m t n).e = 0 ∨ (z.blkA g m t n).e = 1 ∨ (z.blkA g m t n).e = 41 ∨ (z.blkA g m t n).e = 51) := by
  unfold GS.blkA
  split
  · exact ⟨h, .inr (.inl rfl)⟩
  · obtain ⟨h1, h2⟩ := GS.blk_ok hg h t.toNat n.toNat
    exact ⟨h1, by omega⟩
theorem GS.blkA_len (g : Nat → Int) (m : Nat) (z : GS) (t n : Int) : (if (z.blkA g m t n).e = 0 then n.toNat else 0) ≤ 64 := by
  by_cases h : gBad t n
  · unfold GS.blkA
    rw [if_pos h, if_neg (by simp)]
    omega
  · obtain ⟨T, N, rfl, rfl, h1, h2, h3⟩ := gGood h
    split <;> omega
def PS.blkA (y : PS) (t : Int) (n : Nat) (g : Nat → Int) : PS := if putB n g t = true then y.blk t.toNat n g else y
def blkAE (t : Int) (n : Nat) (g : Nat → Int) : Int := if putB n g t = true then 0 else 1
theorem PS.blkA_ok {y : PS} {t : Int} {n : Nat} {g : Nat → Int} (hy : y.ok) : (y.blkA t n g).ok ∧ (y.blkA t n g).s.L ≤ y.s.L + 2900 ∧ y.s.L ≤ (y.blkA t n g).s.L := by
  unfold PS.blkA
  split
  · rename_i h
    unfold putB at h
    rw [Bool.and_eq_true, Bool.and_eq_true] at h
    exact PS.blk_ok hy (of_decide_eq_true h.1.1) (wiB_iff.1 h.1.2)
  · exact ⟨hy, by omega, Nat.le_refl _⟩
end Go.Kin
namespace Go.Proofs.Ytmnoddmecghjdaa
open Go.RowKit Go.Kin
section
variable {w : World} {col : Nat → Nat} {i j x b k m r c : Nat} {A : Option Addr} {y : PS} {z : GS} {g : Nat → Int}
theorem qget_all (t n : Int) (h : SG w col i x m g j b z) (hg : Byt g) (hij : i ≠ j) (hk : k ≠ i ∧ k ≠ j) (hok : z.ok m) :
    Calls Try.prog 35 #[.pointer (some ⟨b, 0, none⟩), .pointer (some ⟨x, 0, none⟩), .int .i64 t, .int .i64 n] w (GotB w col i x m g j b k n.toNat (z.blkA g m t n)) := by
  unfold GS.blkA
  by_cases hb : gBad t n
  · rw [if_pos hb]
    refine (qget_no _ _ t n w hb).mono ?_
    rintro e w' ⟨rfl, rfl⟩
    exact GotB.nil_ (q := ⟨1, fun _ => 0, z⟩) (by simp) h (Kp.refl _ _ _)
  · rw [if_neg hb]
    obtain ⟨T, N, rfl, rfl, h1, h2, h3⟩ := gGood hb
    rw [Int.toNat_natCast, Int.toNat_natCast]
    exact qget_yes T h hg hij hk hok h2 h1
theorem rqget_all (t n : Int) (h : SGR w col i x m g r A c j b z) (hg : Byt g) (hij : i ≠ j) (hr : r ≠ i) (hrj : r ≠ j) (hrk : r ≠ k) (hm : m ≤ 1000000) (hk : k ≠ i ∧ k ≠ j) (hok : z.ok m) :
    Calls Try.prog 36 #[.pointer (some ⟨b, 0, none⟩), .pointer (some ⟨x, 0, none⟩), .int .i64 t, .int .i64 n] w (GotR w col i x m g r A c j b k n.toNat (z.blkA g m t n)) := by
  unfold GS.blkA
  by_cases hb : gBad t n
  · rw [if_pos hb]
    refine (rqget_no _ _ t n w hb).mono ?_
    rintro e w' ⟨rfl, rfl⟩
    exact GotR.nil_ (q := ⟨1, fun _ => 0, z⟩) (by simp) h (Kp.refl _ _ _)
  · rw [if_neg hb]
    obtain ⟨T, N, rfl, rfl, h1, h2, h3⟩ := gGood hb
    rw [Int.toNat_natCast, Int.toNat_natCast]
    exact rqget_yes T h hg hij hr hrj hrk hm hk hok h2 h1
theorem qput_all (t : Int) (B : Option Addr) (n cb : Nat) (f : Nat → Int) (h : SS w col i x j b y) (hij : i ≠ j) (hok : y.ok) (hL : y.s.L ≤ 300000) (hR : Rd w B n (in64 f)) :
    Calls Try.prog 32 #[.pointer (some ⟨b, 0, none⟩), .pointer (some ⟨x, 0, none⟩), .int .i64 t, .slice B n cb] w (PutA w col i x j b (blkAE t n f) (y.blkA t n f)) := by
  cases hb : putB n f t
  · unfold PS.blkA blkAE
    rw [hb, if_neg (by simp), if_neg (by simp)]
    refine (qput_no _ _ t B n cb f w hR hb).mono ?_
    rintro e w' ⟨rfl, hbl⟩
    have hk := Kp.below hbl [] col
    exact ⟨col, rfl, SS.kp h hk (by simp) (by simp), hk.mono (by simp)⟩
  · unfold PS.blkA blkAE
    rw [hb, if_pos rfl, if_pos rfl]
    unfold putB at hb
    rw [Bool.and_eq_true, Bool.and_eq_true] at hb
    have ht := of_decide_eq_true hb.2
    obtain ⟨T, rfl⟩ := Int.eq_ofNat_of_zero_le ht.1
    rw [Int.toNat_natCast]
    exact qput_yes T B n cb f h hij hok hL hR (of_decide_eq_true hb.1.1) (wiB_iff.1 hb.1.2) (by omega)
theorem rqput_all (t : Int) (B : Option Addr) (n cb : Nat) (f : Nat → Int) (h : SSR w col i x j b y) (hij : i ≠ j) (hok : y.ok) (hL : y.s.L ≤ 300000) (hR : Rd w B n (in64 f)) :
    Calls Try.prog 33 #[.pointer (some ⟨b, 0, none⟩), .pointer (some ⟨x, 0, none⟩), .int .i64 t, .slice B n cb] w fun e w' => ∃ col', e = .returned (.int .i64 (blkAE t n f)) ∧ SSR w' col' i x j b (y.blkA t n f) ∧ Kp [i, j] w col w' col' := by
  cases hb : putB n f t
  · unfold PS.blkA blkAE
    rw [hb, if_neg (by simp), if_neg (by simp)]
    refine (rqput_no _ _ t B n cb f w hR hb).mono ?_
    rintro e w' ⟨rfl, rfl⟩
    exact ⟨col, rfl, h, Kp.refl _ _ _⟩
  · unfold PS.blkA blkAE
    rw [hb, if_pos rfl, if_pos rfl]
    unfold putB at hb
    rw [Bool.and_eq_true, Bool.and_eq_true] at hb
    have ht := of_decide_eq_true hb.2
    obtain ⟨T, rfl⟩ := Int.eq_ofNat_of_zero_le ht.1
    rw [Int.toNat_natCast]
    exact rqput_yes T B n cb f h hij hok hL hR (of_decide_eq_true hb.1.1) (wiB_iff.1 hb.1.2) (by omega)
end
end Go.Proofs.Ytmnoddmecghjdaa
