/- Walks of package coder: Open. -/
import Derived.Test.YtmnoddmecghjdaaCo5M
import Derived.Laws.BitsLemmas
namespace Go.Kin
/-- The number of the first k bytes. -/
def numOf (g : Nat → Int) : Nat → Nat
  | 0 => 0
  | k + 1 => numOf g k * 256 + (g k).toNat
theorem numOf_lt {g : Nat → Int} (hg : Byt g) : ∀ k, numOf g k < 256 ^ k
  | 0 => by simp [numOf]
  | k + 1 => by
    have h1 := numOf_lt hg k
    have h2 := hg k
    simp only [numOf, Nat.pow_succ]
    omega
theorem Rd.congr_len {w : World} {A : Option Addr} {n m : Nat} {f h : Nat → Value} (hR : Rd w A n f) (e : n = m) (hf : ∀ i, i < m → f i = h i) : Rd w A m h := by subst e; exact hR.congr hf
theorem u32_join (a b : Int) (ha : 0 ≤ a) (ha2 : a < 16777216) (hb : 0 ≤ b) (hb2 : b < 256) : bits .or .u32 (a * 256) b = a * 256 + b := by
  exact bits_join .u32 32 (by decide) (fun n h1 h2 => by rw [IntKind.wrap_u32]; omega) 8 (a * 256) b (by omega) (by omega) (by omega) hb (by omega) (by omega)
end Go.Kin
namespace Go.Proofs.Ytmnoddmecghjdaa
open Go.RowKit Go.Kin
set_option linter.unusedVariables false
theorem open_no (A : Option Addr) (n c : Nat) (w : World) (h : n < 4) : Calls Try.prog 24 #[.slice A n c] w fun e w' => e = .returned (.tuple #[.pointer none, .int .i64 41]) ∧ w = w' := by
  have h' : (n : Int) < 4 := by omega
  go_enter Try.func24, Try.ntmps24
  go_wp2
  go_ret2
  exact ⟨rfl, rfl⟩
set_option maxRecDepth 100000 in
set_option maxHeartbeats 4000000 in
theorem open_yes (b off n c : Nat) (g : Nat → Int) (w : World) (hS : Rd w (some ⟨b, off, none⟩) n (by8 g)) (hg : Byt g) (h4 : 4 ≤ n) (hnc : n ≤ c) (hc : c ≤ 9223372036854775807) (hn : n ≤ 1000000) :
    Calls Try.prog 24 #[.slice (some ⟨b, off, none⟩) n c] w fun e w' => ∃ p A' c', e = .returned (.tuple #[.pointer (some ⟨p, 0, none⟩), .int .i64 0]) ∧ (∀ col i, Dec w' (recol col w i) i p A' (n - 4) c' (fun j => g (j + 4)) (numOf g 4) 4294967295) ∧ Below w.heap.size w w' := by
  obtain ⟨i0, hi0, hz0, hz1, hz2⟩ := parts_u8
  have HI := Lib.hid hi0
  clear hi0
  have n1 : ¬ (n : Int) < 4 := by omega
  have n2 : (4 : Int) ≤ n := by omega
  have n3 : (n : Int) ≤ c := by omega
  have n4 : (4 : Int) ≤ c := by omega
  have HS := Lib.hid hS
  by_cases hc4 : c = 4
  · obtain rfl : n = 4 := by omega
    subst hc4
    have hRd : Rd w (some ⟨b, off, none⟩) 0 (by8 fun j => g (j + 4)) := Rd.none_ _ _ _
    have hN0 := OwnS.nil w w.heap.size 5 (by8 fun j => g (j + 4))
    have hNo : some (⟨b, off, none⟩ : Addr) = none → 0 = 0 := fun _ => rfl
    clear hS
    go_enter Try.func24, Try.ntmps24
    go_wp2_with (at_builtin; refine wpList_appS rfl (.const (.slice none 0 0)) (.tmp 11) rfl Try.underlying37 HI.out hz0 hz1 hz2 rfl rfl rfl hN0 hRd hNo (fun _ => rfl) ?_ ?_ ?_ ?_; rotate_right; intro A4 c4 w4 hO4 hG4 hL4)
    have hb4 : Below w.heap.size w w4 := (Below.refl _ w).grown hG4 (Nat.le_refl _) (fun k hk => by simp [Value.ownBlock] at hk)
    have hR4 : Rd w4 A4 0 (by8 fun j => g (j + 4)) := (OwnS.rd hO4).congr_len (by omega) (fun j _ => by simp)
    have hA4 : ∀ k o, A4 = some ⟨k, o, none⟩ → w.heap.size ≤ k := fun k o e => (OwnS.lt hO4 e).1
    have K := (((Kn.start w).add (x := .rd (some ⟨b, off, none⟩) 4 (by8 g)) HS.out).below hb4).add (x := .rd A4 0 (by8 fun j => g (j + 4))) hR4
    have OF := Lib.hid (K.offS (b := w4.heap.size) (Nat.le_refl _))
    have HK := Lib.hid (K.new w4.heap.size #[.slice A4 0 c4, .int .u32 0, .int .u32 4294967295] 96 rfl)
    have HA4 := Lib.hid hA4
    have HLE : Hid (0 ≤ c4 ∧ c4 ≤ 9223372036854775807) := Lib.hid (by rcases hO4.cases with ⟨_, _, h⟩ | ⟨_, _, _, _, h, h'⟩ <;> (try unfold maxLen at h') <;> omega)
    have HLT : Hid ((0 : Nat) = 0 ∨ ∀ k o, A4 = some ⟨k, o, none⟩ → k < w4.heap.size) := Lib.hid (.inr fun k o e => (OwnS.lt hO4 e).2)
    have hsz := hb4.size
    clear K hR4 hO4 hG4 hL4 hb4 hA4 hN0
    go_loopw [18] (fun ix wr => ∃ k : Nat, k ≤ 4 ∧ ix = .int .i64 k ∧ Kn wr [.box w4.heap.size #[.slice A4 0 c4, .int .u32 (numOf g k), .int .u32 4294967295], .rd A4 0 (by8 fun j => g (j + 4)), .rd (some ⟨b, off, none⟩) 4 (by8 g), .since w]) (fun ix _ => 4 - (intOf ix).toNat)
    case atStart => exact ⟨0, by omega, rfl, HK.out⟩
    case round =>
      obtain ⟨k, hk, rfl, K⟩ := hrel
      clear HK
      by_cases hlt : k < 4
      · have c1 := Rd.at_ K.2.2.1 (i := k) (by omega)
        simp only [by8] at c1
        have kc := Box.cells K.1
        have kf := Box.frees K.1
        have bk := hg k
        have hm := numOf_lt hg k
        have hm3 : 256 ^ k ≤ 256 ^ 3 := Nat.pow_le_pow_right (by omega) (by omega)
        have HNX := Lib.hid (show numOf g (k + 1) = numOf g k * 256 + (g k).toNat from rfl)
        generalize numOf g k = m at *
        have hm2 : m < 16777216 := by omega
        have hj := u32_join m (g k) (by omega) (by omega) bk.1 (by omega)
        have hk4 : (k : Int) < 4 := by omega
        have HK := Lib.hid K
        clear K hm hm3
        go_wp2
        go_roundw
        case rel =>
          refine ⟨k + 1, by omega, by go_num, ?_⟩
          have KF := HK.out.setBoxS 1 (.int .u32 ((m : Int) * 256 + g k)) OF.out
          rw [HNX.out, show ((m * 256 + (g k).toNat : Nat) : Int) = (m : Int) * 256 + g k by omega]
          exact KF
        case measure => simp [intOf]; omega
      · obtain rfl : k = 4 := by omega
        have HK := Lib.hid K
        clear K
        go_wp2
        go_ret2
        refine ⟨w4.heap.size, rfl, ⟨A4, c4, fun col i => ⟨HK.out.1, HK.out.2.1, recol_ge hsz, ?_, HLE.out⟩⟩, HK.out.2.2.2.1⟩
        exact .inl rfl
  · have hc4' : ¬ (c : Int) = 4 := by omega
    have hRd : Rd w (some ⟨b, off + 4, none⟩) (n - 4) (by8 fun j => g (j + 4)) := fun _ => ⟨b, off + 4, rfl, fun j hj => by have := Rd.at_ hS (i := j + 4) (by omega); rw [show off + 4 + j = off + (j + 4) by omega]; exact this⟩
    have hN0 := OwnS.nil w w.heap.size 5 (by8 fun j => g (j + 4))
    have hNo : some (⟨b, off + 4, none⟩ : Addr) = none → n - 4 = 0 := fun h => by cases h
    clear hS
    go_enter Try.func24, Try.ntmps24
    go_wp2_with (at_builtin; refine wpList_appS rfl (.const (.slice none 0 0)) (.tmp 11) rfl Try.underlying37 HI.out hz0 hz1 hz2 rfl rfl rfl hN0 hRd hNo (fun _ => rfl) ?_ ?_ ?_ ?_; rotate_right; intro A4 c4 w4 hO4 hG4 hL4)
    case refine_1 => unfold maxLen; omega
    case refine_2 => first | omega | (simp only [Nat.mul_one]; omega)
    have hb4 : Below w.heap.size w w4 := (Below.refl _ w).grown hG4 (Nat.le_refl _) (fun k hk => by simp [Value.ownBlock] at hk)
    have hR4 : Rd w4 A4 (n - 4) (by8 fun j => g (j + 4)) := (OwnS.rd hO4).congr_len (by omega) (fun j _ => by simp)
    have hA4 : ∀ k o, A4 = some ⟨k, o, none⟩ → w.heap.size ≤ k := fun k o e => (OwnS.lt hO4 e).1
    have K := (((Kn.start w).add (x := .rd (some ⟨b, off, none⟩) n (by8 g)) HS.out).below hb4).add (x := .rd A4 (n - 4) (by8 fun j => g (j + 4))) hR4
    have OF := Lib.hid (K.offS (b := w4.heap.size) (Nat.le_refl _))
    have HK := Lib.hid (K.new w4.heap.size #[.slice A4 (n - 4) c4, .int .u32 0, .int .u32 4294967295] 96 rfl)
    have HA4 := Lib.hid hA4
    have HLE : Hid (n - 4 ≤ c4 ∧ c4 ≤ 9223372036854775807) := Lib.hid (by rcases hO4.cases with ⟨_, _, h⟩ | ⟨_, _, _, _, h, h'⟩ <;> (try unfold maxLen at h') <;> omega)
    have HLT : Hid (n - 4 = 0 ∨ ∀ k o, A4 = some ⟨k, o, none⟩ → k < w4.heap.size) := Lib.hid (.inr fun k o e => (OwnS.lt hO4 e).2)
    have hsz := hb4.size
    clear K hR4 hO4 hG4 hL4 hb4 hA4 hN0
    go_loopw [18] (fun ix wr => ∃ k : Nat, k ≤ 4 ∧ ix = .int .i64 k ∧ Kn wr [.box w4.heap.size #[.slice A4 (n - 4) c4, .int .u32 (numOf g k), .int .u32 4294967295], .rd A4 (n - 4) (by8 fun j => g (j + 4)), .rd (some ⟨b, off, none⟩) n (by8 g), .since w]) (fun ix _ => 4 - (intOf ix).toNat)
    case atStart => exact ⟨0, by omega, rfl, HK.out⟩
    case round =>
      obtain ⟨k, hk, rfl, K⟩ := hrel
      clear HK
      by_cases hlt : k < 4
      · have c1 := Rd.at_ K.2.2.1 (i := k) (by omega)
        simp only [by8] at c1
        have kc := Box.cells K.1
        have kf := Box.frees K.1
        have bk := hg k
        have hm := numOf_lt hg k
        have hm3 : 256 ^ k ≤ 256 ^ 3 := Nat.pow_le_pow_right (by omega) (by omega)
        have HNX := Lib.hid (show numOf g (k + 1) = numOf g k * 256 + (g k).toNat from rfl)
        generalize numOf g k = m at *
        have hm2 : m < 16777216 := by omega
        have hj := u32_join m (g k) (by omega) (by omega) bk.1 (by omega)
        have hk4 : (k : Int) < 4 := by omega
        have HK := Lib.hid K
        clear K hm hm3
        go_wp2
        go_roundw
        case rel =>
          refine ⟨k + 1, by omega, by go_num, ?_⟩
          have KF := HK.out.setBoxS 1 (.int .u32 ((m : Int) * 256 + g k)) OF.out
          rw [HNX.out, show ((m * 256 + (g k).toNat : Nat) : Int) = (m : Int) * 256 + g k by omega]
          exact KF
        case measure => simp [intOf]; omega
      · obtain rfl : k = 4 := by omega
        have HK := Lib.hid K
        clear K
        go_wp2
        go_ret2
        refine ⟨w4.heap.size, A4, c4, rfl, fun col i => ⟨HK.out.1, HK.out.2.1, recol_ge hsz, ?_, HLE.out⟩, HK.out.2.2.2.1⟩
        rcases HLT.out with h | h
        · exact .inl h
        · exact .inr fun k o e => ⟨recol_ge (HA4.out k o e), by have := h k o e; omega⟩
end Go.Proofs.Ytmnoddmecghjdaa
