/- Walks of package book: one bit put or got with the book's or an even chance, as states; putLow, getLow. -/
import Derived.Test.YtmnoddmecghjdaaBk1
import Derived.Laws.BitsLemmas
set_option linter.unusedVariables false
namespace Go.Kin
open Go.RowKit
theorem and_one (x : Int) (h0 : 0 ≤ x) (h : x ≤ 4294967296) : bits .and .i64 x 1 = x % 2 := by
  have h1 : (BitVec.ofInt 64 1).toNat = 2 ^ 1 - 1 := by decide
  have key : (BitVec.ofInt 64 x &&& BitVec.ofInt 64 1).toNat = (x % ((2 ^ 64 : Nat) : Int)).toNat % 2 ^ 1 := by
    rw [BitVec.toNat_and, BitVec.toNat_ofInt, h1, Nat.and_two_pow_sub_one_eq_mod]
  show IntKind.i64.wrap ((BitVec.ofInt 64 x &&& BitVec.ofInt 64 1).toNat : Nat) = x % 2
  rw [key, IntKind.wrap_i64]
  omega
theorem or_bit (a b : Int) (ha : 0 ≤ a) (ha2 : a ≤ 4294967296) (hb : b = 0 ∨ b = 1) : bits .or .i64 (a * 2) b = a * 2 + b :=
  bits_join .i64 62 (by decide) (fun n h1 h2 => by rw [IntKind.wrap_i64]; omega) 1 (a * 2) b (by omega) (by omega) (by omega) (by omega) (by omega) (by omega)
theorem bit_and {v n k : Nat} (hv : v ≤ 2000000) : bits .and .i64 ((v : Int) / 2 ^ (n - 1 - k)) 1 = (loB v n k : Nat) := by
  have e : (v : Int) / 2 ^ (n - 1 - k) = ((v / 2 ^ (n - 1 - k) : Nat) : Int) := by push_cast; rfl
  have h : v / 2 ^ (n - 1 - k) ≤ v := Nat.div_le_self _ _
  unfold loB
  rw [e]
  generalize v / 2 ^ (n - 1 - k) = q at *
  rw [and_one _ (by omega) (by omega)]
  omega
theorem mem2l {i j : Nat} : ∀ a, a ∈ [i] → a ∈ [i, j] := fun a h => by simp at h; simp [h]
theorem mem2r {i j : Nat} : ∀ a, a ∈ [j] → a ∈ [i, j] := fun a h => by simp at h; simp [h]
end Go.Kin
namespace Go.Proofs.Ytmnoddmecghjdaa
open Go.RowKit Go.Kin
/-- An encoder of colour i and a book of colour j in memory. -/
def SS (w : World) (col : Nat → Nat) (i x j b : Nat) (y : PS) : Prop := EncS w col i x y.s ∧ Bk w col j b y.C
/-- A decoder of colour i and a book of colour j in memory. -/
def SG (w : World) (col : Nat → Nat) (i x m : Nat) (g : Nat → Int) (j b : Nat) (y : GS) : Prop := DecS w col i x m g y.d ∧ Bk w col j b y.C
def PutR (w : World) (col : Nat → Nat) (i x j b : Nat) (y : PS) (e : Ending) (w' : World) : Prop := ∃ col', e = .returned (.int .i64 0) ∧ SS w' col' i x j b y ∧ Kp [i, j] w col w' col'
def GetR (w : World) (col : Nat → Nat) (i x m : Nat) (g : Nat → Int) (j b : Nat) (r : Int × Int × GS) (e : Ending) (w' : World) : Prop := ∃ col', e = .returned (.tuple #[.int .i64 r.1, .int .i64 r.2.1]) ∧ SG w' col' i x m g j b r.2.2 ∧ Kp [i, j] w col w' col'
section
variable {w w' : World} {col col' : Nat → Nat} {i j x b k m t : Nat} {y : PS} {z : GS} {g : Nat → Int} {bit : Int} {I : List Nat}
theorem EncS.kp {s : St} (h : EncS w col i x s) (k : Kp I w col w' col') (hi : i ∉ I) : EncS w' col' i x s := by
  obtain ⟨h1, h2, A, c, h3⟩ := h
  have k1 := k.2 i (.box x _) hi ⟨h3.box, h3.hp⟩
  have k2 := k.2 i (.own 0 5 A s.L c _) hi ⟨h3.own, fun k o e => (h3.hA k o e).1⟩
  exact ⟨h1, h2, A, c, k1.1, k2.1, k1.2, fun k o e => ⟨k2.2 k o e, (h3.hA k o e).2⟩⟩
theorem DecS.kp {d : DS} (h : DecS w col i x m g d) (k : Kp I w col w' col') (hi : i ∉ I) : DecS w' col' i x m g d := by
  obtain ⟨h1, h2, A, c, h3⟩ := h
  have k1 := k.2 i (.box x _) hi ⟨h3.box, h3.hp⟩
  have k2 := k.2 i (.rd A _ _) hi ⟨h3.rd, h3.hA.elim .inl (fun h => .inr fun k o e => (h k o e).1)⟩
  exact ⟨h1, h2, A, c, k1.1, k2.1, k1.2, h3.hA.elim .inl (fun h => k2.2.elim .inl (fun h' => .inr fun k o e => ⟨h' k o e, (h k o e).2⟩)), h3.le⟩
theorem SS.kp (h : SS w col i x j b y) (k : Kp I w col w' col') (hi : i ∉ I) (hj : j ∉ I) : SS w' col' i x j b y := ⟨EncS.kp h.1 k hi, Bk.kp h.2 k hj⟩
theorem SG.kp (h : SG w col i x m g j b z) (k : Kp I w col w' col') (hi : i ∉ I) (hj : j ∉ I) : SG w' col' i x m g j b z := ⟨DecS.kp h.1 k hi, Bk.kp h.2 k hj⟩
/-- A store into a block of the book's colour. -/
theorem SS.set (h : SS w col i x j b y) (hij : i ≠ j) {q : Nat} (hq : col q = j) (hql : q < w.heap.size) (k : Nat) (v : Value) {C : Nat → Int}
    (hB : Box (w.setCell ⟨q, k, none⟩ v) b (mkR 592 (u16s C))) : SS (w.setCell ⟨q, k, none⟩ v) (recol col w j) i x j b ⟨C, y.s⟩ ∧ Kp [i, j] w col (w.setCell ⟨q, k, none⟩ v) (recol col w j) := by
  have hu := Upd.set (w := w) hq k v
  exact ⟨⟨EncS.upd h.1 hij hu, hB, by rw [recol_lt (Box.lt h.2.1)]; exact h.2.2⟩, (Kp.upd hu).mono mem2r⟩
theorem SG.set (h : SG w col i x m g j b z) (hij : i ≠ j) {q : Nat} (hq : col q = j) (hql : q < w.heap.size) (k : Nat) (v : Value) {C : Nat → Int}
    (hB : Box (w.setCell ⟨q, k, none⟩ v) b (mkR 592 (u16s C))) : SG (w.setCell ⟨q, k, none⟩ v) (recol col w j) i x m g j b ⟨C, z.d⟩ ∧ Kp [i, j] w col (w.setCell ⟨q, k, none⟩ v) (recol col w j) := by
  have hu := Upd.set (w := w) hq k v
  exact ⟨⟨DecS.upd h.1 hij hu, hB, by rw [recol_lt (Box.lt h.2.1)]; exact h.2.2⟩, (Kp.upd hu).mono mem2r⟩
theorem box_bset {C : Nat → Int} {v : Int} (h : Box w b (mkR 592 (u16s C))) : Box (w.setCell ⟨b, k, none⟩ (.int .u16 v)) b (mkR 592 (u16s (bset C k v))) := by
  have := Box.set h k (.int .u16 v)
  rw [mkR_set] at this
  exact Box.mr this (fun q _ => by unfold u16s bset; split <;> rfl)
theorem bput1_book (h : SS w col i x j b y) (hij : i ≠ j) (hok : y.ok) (hL : y.s.L ≤ 900000) (hk : k < 592) (hbit : bit = 0 ∨ bit = 1) :
    Calls Try.prog 72 #[.pointer (some ⟨x, 0, none⟩), .pointer (some ⟨b, k, none⟩), .int .i64 bit] w (PutR w col i x j b (y.put1 (some k) bit)) := by
  refine (bput_cell h.1 hL h.2.1 hk rfl (by rw [h.2.2]; exact fun e => hij e.symm) (hok.1 k) hbit).mono ?_
  rintro e w' ⟨w1, rfl, hu, hE, hB, rfl⟩
  have hlb := Box.lt h.2.1
  have h1 : SS w1 (recol col w i) i x j b ⟨y.C, y.s.putI (y.C k) bit⟩ := ⟨hE, hB, by rw [recol_lt hlb]; exact h.2.2⟩
  obtain ⟨h2, h3⟩ := h1.set hij h1.2.2 (Box.lt hB) k (.int .u16 (nextP (y.C k) bit)) (box_bset hB)
  exact ⟨_, rfl, h2, ((Kp.upd hu).mono mem2l).trans h3⟩
theorem bput1_even (h : SS w col i x j b y) (hT : Box w t #[.int .u16 1024]) (hct : col t = j) (htb : t ≠ b) (hij : i ≠ j) (hok : y.ok) (hL : y.s.L ≤ 900000) (hbit : bit = 0 ∨ bit = 1) :
    Calls Try.prog 72 #[.pointer (some ⟨x, 0, none⟩), .pointer (some ⟨t, 0, none⟩), .int .i64 bit] w (PutR w col i x j b (y.put1 none bit)) := by
  refine (bput_cell (n := 1) (f := fun _ => .int .u16 1024) h.1 hL hT (by omega) rfl (by rw [hct]; exact fun e => hij e.symm) (by omega) hbit).mono ?_
  rintro e w' ⟨w1, rfl, hu, hE, hB, rfl⟩
  have hlb := Box.lt h.2.1
  have hB2 : Box w1 b (mkR 592 (u16s y.C)) := Box.same h.2.1 (hu.block b hlb (by rw [h.2.2]; exact fun e => hij e.symm))
  have h1 : SS w1 (recol col w i) i x j b ⟨y.C, y.s.putI 1024 bit⟩ := ⟨hE, hB2, by rw [recol_lt hlb]; exact h.2.2⟩
  obtain ⟨h2, h3⟩ := h1.set hij (q := t) (by rw [recol_lt (Box.lt hT)]; exact hct) (Box.lt hB) 0 (.int .u16 (nextP 1024 bit)) (Box.far hB2 (p := ⟨t, 0, none⟩) (fun e => htb e.symm) _)
  exact ⟨_, rfl, h2, ((Kp.upd hu).mono mem2l).trans h3⟩
theorem bget1_book (h : SG w col i x m g j b z) (hg : Byt g) (hij : i ≠ j) (hok : z.ok m) (hk : k < 592) :
    Calls Try.prog 82 #[.pointer (some ⟨x, 0, none⟩), .pointer (some ⟨b, k, none⟩)] w (GetR w col i x m g j b (z.get1 g m (some k))) := by
  refine (bget_cell h.1 hg h.2.1 hk rfl (by rw [h.2.2]; exact fun e => hij e.symm) (hok.1 k)).mono ?_
  rintro e w' ⟨w1, rfl, hu, hE, hB, rfl⟩
  have hlb := Box.lt h.2.1
  have h1 : SG w1 (recol col w i) i x m g j b ⟨z.C, (z.d.get g m (z.C k)).2.2⟩ := ⟨hE, hB, by rw [recol_lt hlb]; exact h.2.2⟩
  unfold GS.get1 chOf nxC
  dsimp only
  by_cases h0 : (z.d.get g m (z.C k)).2.1 = 0
  · obtain ⟨h2, h3⟩ := h1.set hij h1.2.2 (Box.lt hB) k (.int .u16 (nextP (z.C k) (z.d.get g m (z.C k)).1)) (box_bset hB)
    simp only [if_pos h0]
    exact ⟨_, rfl, h2, ((Kp.upd hu).mono mem2l).trans h3⟩
  · simp only [if_neg h0]
    exact ⟨_, rfl, h1, (Kp.upd hu).mono mem2l⟩
theorem bget1_even (h : SG w col i x m g j b z) (hT : Box w t #[.int .u16 1024]) (hct : col t = j) (htb : t ≠ b) (hg : Byt g) (hij : i ≠ j) :
    Calls Try.prog 82 #[.pointer (some ⟨x, 0, none⟩), .pointer (some ⟨t, 0, none⟩)] w (GetR w col i x m g j b (z.get1 g m none)) := by
  refine (bget_cell (n := 1) (f := fun _ => .int .u16 1024) h.1 hg hT (by omega) rfl (by rw [hct]; exact fun e => hij e.symm) (by omega)).mono ?_
  rintro e w' ⟨w1, rfl, hu, hE, hB, rfl⟩
  have hlb := Box.lt h.2.1
  have hB2 : Box w1 b (mkR 592 (u16s z.C)) := Box.same h.2.1 (hu.block b hlb (by rw [h.2.2]; exact fun e => hij e.symm))
  have h1 : SG w1 (recol col w i) i x m g j b ⟨z.C, (z.d.get g m 1024).2.2⟩ := ⟨hE, hB2, by rw [recol_lt hlb]; exact h.2.2⟩
  unfold GS.get1 chOf nxC
  dsimp only
  rw [ite_self]
  by_cases h0 : (z.d.get g m 1024).2.1 = 0
  · rw [if_pos h0]
    obtain ⟨h2, h3⟩ := h1.set hij (q := t) (by rw [recol_lt (Box.lt hT)]; exact hct) (Box.lt hB) 0 (.int .u16 (nextP 1024 (z.d.get g m 1024).1)) (Box.far hB2 (p := ⟨t, 0, none⟩) (fun e => htb e.symm) _)
    exact ⟨_, rfl, h2, ((Kp.upd hu).mono mem2l).trans h3⟩
  · rw [if_neg h0]
    exact ⟨_, rfl, h1, (Kp.upd hu).mono mem2l⟩
end
theorem loJ_lt {base i a : Nat} (hb : base + 37 ≤ 592) (hi : i < 4) (ha : a < 2 ^ i) : base + 20 + (2 ^ i - 1 + a) < 592 := by
  have : 2 ^ i ≤ 2 ^ 3 := Nat.pow_le_pow_right (by omega) (by omega)
  omega
set_option maxRecDepth 100000 in
set_option maxHeartbeats 2000000 in
theorem putLow_any {w : World} {col : Nat → Nat} {i x j b : Nat} {y : PS} (base v n : Nat) (h : SS w col i x j b y) (hij : i ≠ j) (hok : y.ok) (hL : y.s.L ≤ 800000) (hb : base + 37 ≤ 592) (hn : n ≤ 30) (hv : v ≤ 2000000) :
    Calls Try.prog 73 #[.pointer (some ⟨b, base, none⟩), .pointer (some ⟨x, 0, none⟩), .int .i64 v, .int .i64 n] w (PutR w col i x j b (y.low base v n n)) := by
  have H := Lib.hid h
  have HOK := Lib.hid (fun k => PS.low_ok hok base v n k)
  clear h hok
  go_enter Try.func73, Try.ntmps73
  go_wp2
  go_loopw [9, 16] (fun a q wr => ∃ (k : Nat) (col' : Nat → Nat), k ≤ n ∧ q = .int .i64 k ∧ a = .int .i64 (loA v n k) ∧ SS wr col' i x j b (y.low base v n k) ∧ Kp [i, j] w col wr col') (fun _ q _ => n - (intOf q).toNat)
  case atStart => exact ⟨0, col, by omega, rfl, by rw [loA_zero]; rfl, H.out, Kp.refl _ _ _⟩
  case round =>
    obtain ⟨k, col', hk, rfl, rfl, hS, hK⟩ := hrel
    obtain ⟨ok1, ok2, ok3⟩ := HOK.out k
    by_cases hlt : k < n
    · have la := loA_lt v n k
      have lb := loB_bd v n k
      have hp30 : 2 ^ k ≤ 2 ^ 30 := Nat.pow_le_pow_right (by omega) (by omega)
      have hand := bit_and (n := n) (k := k) hv
      have hor := or_bit (loA v n k) (loB v n k) (by omega) (by omega) (by omega)
      have HA := Lib.hid (loA_succ (v := v) hlt)
      have hlb := Box.lt hS.2.1
      have HS : Hid (SS (wr.alloc (.cells #[.int .u16 1024] 73)) (recol col' wr j) i x j b (y.low base v n k) ∧ Kp [i, j] w col (wr.alloc (.cells #[.int .u16 1024] 73)) (recol col' wr j)) := Lib.hid (by
        have hu := Upd.alloc col' j wr (.cells #[.int .u16 1024] 73)
        exact ⟨⟨EncS.upd hS.1 hij hu, Box.alloc hS.2.1 _, by rw [recol_lt hlb]; exact hS.2.2⟩, hK.trans ((Kp.upd hu).mono mem2r)⟩)
      have HT : Hid (Box (wr.alloc (.cells #[.int .u16 1024] 73)) wr.heap.size #[.int .u16 1024] ∧ recol col' wr j wr.heap.size = j ∧ wr.heap.size ≠ b) := Lib.hid ⟨Box.new _ _ _, recol_ge (Nat.le_refl _), by omega⟩
      have HO := Lib.hid ok1
      have HBB := Lib.hid (show (y.low base v n k).put1 (loJ base k (loA v n k)) (loB v n k) = y.low base v n (k + 1) from rfl)
      clear hS hK ok1
      generalize loA v n k = a at *
      generalize loB v n k = bb at *
      by_cases h4 : k < 4
      · have h4' : (k : Int) < 4 := by omega
        have HJ := Lib.hid (show loJ base k a = some (base + 20 + (2 ^ k - 1 + a)) by unfold loJ; rw [if_pos h4])
        go_wp2_with fail
        refine (at_any b base k a _ h4 la).mono ?_
        rintro e w4 ⟨rfl, hb4⟩
        have hS4 := SS.kp HS.out.1 (Kp.below hb4 [] _) (by simp) (by simp)
        have HK4 := Lib.hid (HS.out.2.trans (Kp.below hb4 [i, j] _))
        clear hb4
        go_wp2_with fail
        refine (bput1_book hS4 hij HO.out (by omega) (loJ_lt hb h4 la) (by omega)).mono ?_
        rintro e w5 ⟨c5, rfl, hS5, hK5⟩
        rw [← HJ.out, HBB.out] at hS5
        have HS5 := Lib.hid (And.intro hS5 (HK4.out.trans hK5))
        clear hS4 hS5 hK5
        go_wp2
        go_roundw
        case rel => exact ⟨k + 1, c5, by omega, by go_num, by rw [HA.out]; first | rfl | go_num | omega, HS5.out.1, HS5.out.2⟩
        case measure => simp [intOf]; omega
      · have h4' : ¬ (k : Int) < 4 := by omega
        have HJ := Lib.hid (show loJ base k a = none by unfold loJ; rw [if_neg h4])
        go_wp2_with fail
        refine (bput1_even HS.out.1 HT.out.1 HT.out.2.1 HT.out.2.2 hij HO.out (by omega) (by omega)).mono ?_
        rintro e w5 ⟨c5, rfl, hS5, hK5⟩
        rw [← HJ.out, HBB.out] at hS5
        have HS5 := Lib.hid (And.intro hS5 (HS.out.2.trans hK5))
        clear hS5 hK5
        go_wp2
        go_roundw
        case rel => exact ⟨k + 1, c5, by omega, by go_num, by rw [HA.out]; first | rfl | go_num | omega, HS5.out.1, HS5.out.2⟩
        case measure => simp [intOf]; omega
    · obtain rfl : k = n := by omega
      have HS := Lib.hid (And.intro hS hK)
      clear hS hK
      go_wp2
      go_ret
      exact ⟨col', rfl, HS.out.1, HS.out.2⟩
end Go.Proofs.Ytmnoddmecghjdaa
