/- Walks of package book: one bit put or got with the book's or an even chance, as states; putLow, getLow. -/
import Derived.Test.YtmnoddmecghjdaaBk1
import Derived.Laws.BitsLemmas
set_option linter.unusedVariables false
namespace Go.Kin
open Go.RowKit
theorem and_one (x : Int) (h0 : 0 ≤ x) (h : x ≤ 4294967296) : bits .and .i64 x 1 = x % 2 := by
  have h1 : (BitVec.ofInt 64 1).toNat = 2 ^ 1 - 1 := by decide
  have key : (BitVec.ofInt 64 x &&& BitVec.ofInt 64 1).toNat = (x % ((2 ^ 64 : Nat) : Int)).toNat % 2 ^ 1 := by
    rw [BitVec.toNat_and, BitVec.toNat_ofInt, h1, Nat.and_two_pow_sub_one_eq_mod]
  show IntKind.i64.wrap ((BitVec.ofInt 64 x &&& BitVec.ofInt 64 1).toNat : Nat) = x % 2
  rw [key, IntKind.wrap_i64]
  omega
theorem or_bit (a b : Int) (ha : 0 ≤ a) (ha2 : a ≤ 4294967296) (hb : b = 0 ∨ b = 1) : bits .or .i64 (a * 2) b = a * 2 + b :=
  bits_join .i64 62 (by decide) (fun n h1 h2 => by rw [IntKind.wrap_i64]; omega) 1 (a * 2) b (by omega) (by omega) (by omega) (by omega) (by omega) (by omega)
theorem bit_and {v n k : Nat} (hv : v ≤ 2000000) : bits .and .i64 ((v : Int) / 2 ^ (n - 1 - k)) 1 = (loB v n k : Nat) := by
  have e : (v : Int) / 2 ^ (n - 1 - k) = ((v / 2 ^ (n - 1 - k) : Nat) : Int) := by push_cast; rfl
  have h : v / 2 ^ (n - 1 - k) ≤ v := Nat.div_le_self _ _
  unfold loB
  rw [e]
  generalize v / 2 ^ (n - 1 - k) = q at *
  rw [and_one _ (by omega) (by omega)]
  omega
theorem mem2l {i j : Nat} : ∀ a, a ∈ [i] → a ∈ [i, j] := fun a h => by simp at h; simp [h]
theorem mem2r {i j : Nat} : ∀ a, a ∈ [j] → a ∈ [i, j] := fun a h => by simp at h; simp [h]
end Go.Kin
namespace Go.Proofs.Ytmnoddmecghjdaa
open Go.RowKit Go.Kin
/-- An encoder of colour i and a book of colour j in memory. -/
def SS (w : World) (col : Nat → Nat) (i x j b : Nat) (y : PS) : Prop := EncS w col i x y.s ∧ Bk w col j b y.C
/-- A decoder of colour i and a book of colour j in memory. -/
def SG (w : World) (col : Nat → Nat) (i x m : Nat) (g : Nat → Int) (j b : Nat) (y : GS) : Prop := DecS w col i x m g y.d ∧ Bk w col j b y.C
def PutR (w : World) (col : Nat → Nat) (i x j b : Nat) (y : PS) (e : Ending) (w' : World) : Prop := ∃ col', e = .returned (.int .i64 0) ∧ SS w' col' i x j b y ∧ Kp [i, j] w col w' col'
def GetR (w : World) (col : Nat → Nat) (i x m : Nat) (g : Nat → Int) (j b : Nat) (r : Int × Int × GS) (e : Ending) (w' : World) : Prop := ∃ col', e = .returned (.tuple #[.int .i64 r.1, .int .i64 r.2.1]) ∧ SG w' col' i x m g j b r.2.2 ∧ Kp [i, j] w col w' col'
section
variable {w w' : World} {col col' : Nat → Nat} {i j x b k m t : Nat} {y : PS} {z : GS} {g : Nat → Int} {bit : Int} {I : List Nat}
theorem EncS.kp {s : St} (h : EncS w col i x s) (k : Kp I w col w' col') (hi : i ∉ I) : EncS w' col' i x s := by
  obtain ⟨h1, h2, A, c, h3⟩ := h
  have k1 := k.2 i (.box x _) hi ⟨h3.box, h3.hp⟩
  have k2 := k.2 i (.own 0 5 A s.L c _) hi ⟨h3.own, fun k o e => (h3.hA k o e).1⟩
  exact ⟨h1, h2, A, c, k1.1, k2.1, k1.2, fun k o e => ⟨k2.2 k o e, (h3.hA k o e).2⟩⟩
theorem DecS.kp {d : DS} (h : DecS w col i x m g d) (k : Kp I w col w' col') (hi : i ∉ I) : DecS w' col' i x m g d := by
  obtain ⟨h1, h2, A, c, h3⟩ := h
  have k1 := k.2 i (.box x _) hi ⟨h3.box, h3.hp⟩
  have k2 := k.2 i (.rd A _ _) hi ⟨h3.rd, h3.hA.elim .inl (fun h => .inr fun k o e => (h k o e).1)⟩
  exact ⟨h1, h2, A, c, k1.1, k2.1, k1.2, h3.hA.elim .inl (fun h => k2.2.elim .inl (fun h' => .inr fun k o e => ⟨h' k o e, (h k o e).2⟩)), h3.le⟩
theorem SS.kp (h : SS w col i x j b y) (k : Kp I w col w' col') (hi : i ∉ I) (hj : j ∉ I) : SS w' col' i x j b y := ⟨EncS.kp h.1 k hi, Bk.kp h.2 k hj⟩
theorem SG.kp (h : SG w col i x m g j b z) (k : Kp I w col w' col') (hi : i ∉ I) (hj : j ∉ I) : SG w' col' i x m g j b z := ⟨DecS.kp h.1 k hi, Bk.kp h.2 k hj⟩
/-- A store into a block of the book's colour. -/
theorem SS.set (h : SS w col i x j b y) (hij : i ≠ j) {q : Nat} (hq : col q = j) (hql : q < w.heap.size) (k : Nat) (v : Value) {C : Nat → Int}
    (hB : Box (w.setCell ⟨q, k, none⟩ v) b (mkR 592 (u16s C))) : SS (w.setCell ⟨q, k, none⟩ v) (recol col w j) i x j b ⟨C, y.s⟩ ∧ Kp [i, j] w col (w.setCell ⟨q, k, none⟩ v) (recol col w j) := by
  have hu := Upd.set (w := w) hq k v
  exact ⟨⟨EncS.upd h.1 hij hu, hB, by rw [recol_lt (Box.lt h.2.1)]; exact h.2.2⟩, (Kp.upd hu).mono mem2r⟩
theorem SG.set (h : SG w col i x m g j b z) (hij : i ≠ j) {q : Nat} (hq : col q = j) (hql : q < w.heap.size) (k : Nat) (v : Value) {C : Nat → Int}
    (hB : Box (w.setCell ⟨q, k, none⟩ v) b (mkR 592 (u16s C))) : SG (w.setCell ⟨q, k, none⟩ v) (recol col w j) i x m g j b ⟨C, z.d⟩ ∧ Kp [i, j] w col (w.setCell ⟨q, k, none⟩ v) (recol col w j) := by
  have hu := Upd.set (w := w) hq k v
  exact ⟨⟨DecS.upd h.1 hij hu, hB, by rw [recol_lt (Box.lt h.2.1)]; exact h.2.2⟩, (Kp.upd hu).mono mem2r⟩
theorem box_bset {C : Nat → Int} {v : Int} (h : Box w b (mkR 592 (u16s C))) : Box (w.setCell ⟨b, k, none⟩ (.int .u16 v)) b (mkR 592 (u16s (bset C k v))) := by
  have := Box.set h k (.int .u16 v)
  rw [mkR_set] at this
  exact Box.mr this (fun q _ => by unfold u16s bset; split <;> rfl)
theorem bput1_book (h : SS w col i x j b y) (hij : i ≠ j) (hok : y.ok) (hL : y.s.L ≤ 900000) (hk : k < 592) (hbit : bit = 0 ∨ bit = 1) :
    Calls Try.prog 72 #[.pointer (some ⟨x, 0, none⟩), .pointer (some ⟨b, k, none⟩), .int .i64 bit] w (PutR w col i x j b (y.put1 (some k) bit)) := by
  refine (bput_cell h.1 hL h.2.1 hk rfl (by rw [h.2.2]; exact fun e => hij e.symm) (hok.1 k) hbit).mono ?_
  rintro e w' ⟨w1, rfl, hu, hE, hB, rfl⟩
  have hlb := Box.lt h.2.1
  have h1 : SS w1 (recol col w i) i x j b ⟨y.C, y.s.putI (y.C k) bit⟩ := ⟨hE, hB, by rw [recol_lt hlb]; exact h.2.2⟩
  obtain ⟨h2, h3⟩ := h1.set hij h1.2.2 (Box.lt hB) k (.int .u16 (nextP (y.C k) bit)) (box_bset hB)
  exact ⟨_, rfl, h2, ((Kp.upd hu).mono mem2l).trans h3⟩
theorem bput1_even (h : SS w col i x j b y) (hT : Box w t #[.int .u16 1024]) (hct : col t = j) (htb : t ≠ b) (hij : i ≠ j) (hok : y.ok) (hL : y.s.L ≤ 900000) (hbit : bit = 0 ∨ bit = 1) :
    Calls Try.prog 72 #[.pointer (some ⟨x, 0, none⟩), .pointer (some ⟨t, 0, none⟩), .int .i64 bit] w (PutR w col i x j b (y.put1 none bit)) := by
  refine (bput_cell (n := 1) (f := fun _ => .int .u16 1024) h.1 hL hT (by omega) rfl (by rw [hct]; exact fun e => hij e.symm) (by omega) hbit).mono ?_
  rintro e w' ⟨w1, rfl, hu, hE, hB, rfl⟩
  have hlb := Box.lt h.2.1
  have hB2 : Box w1 b (mkR 592 (u16s y.C)) := Box.same h.2.1 (hu.block b hlb (by rw [h.2.2]; exact fun e => hij e.symm))
  have h1 : SS w1 (recol col w i) i x j b ⟨y.C, y.s.putI 1024 bit⟩ := ⟨hE, hB2, by rw [recol_lt hlb]; exact h.2.2⟩
  obtain ⟨h2, h3⟩ := h1.set hij (q := t) (by rw [recol_lt (Box.lt hT)]; exact hct) (Box.lt hB) 0 (.int .u16 (nextP 1024 bit)) (Box.far hB2 (p := ⟨t, 0, none⟩) (fun e => htb e.symm) _)
  exact ⟨_, rfl, h2, ((Kp.upd hu).mono mem2l).trans h3⟩
theorem bget1_book (h : SG w col i x m g j b z) (hg : Byt g) (hij : i ≠ j) (hok : z.ok m) (hk : k < 592) :
    Calls Try.prog 82 #[.pointer (some ⟨x, 0, none⟩), .pointer (some ⟨b, k, none⟩)] w (GetR w col i x m g j b (z.get1 g m (some k))) := by
  refine (bget_cell h.1 hg h.2.1 hk rfl (by rw [h.2.2]; exact fun e => hij e.symm) (hok.1 k)).mono ?_
  rintro e w' ⟨w1, rfl, hu, hE, hB, rfl⟩
  have hlb := Box.lt h.2.1
  have h1 : SG w1 (recol col w i) i x m g j b ⟨z.C, (z.d.get g m (z.C k)).2.2⟩ := ⟨hE, hB, by rw [recol_lt hlb]; exact h.2.2⟩
  unfold GS.get1 chOf nxC
  dsimp only
  by_cases h0 : (z.d.get g m (z.C k)).2.1 = 0
  · obtain ⟨h2, h3⟩ := h1.set hij h1.2.2 (Box.lt hB) k (.int .u16 (nextP (z.C k) (z.d.get g m (z.C k)).1)) (box_bset hB)
    simp only [if_pos h0]
    exact ⟨_, rfl, h2, ((Kp.upd hu).mono mem2l).trans h3⟩
  · simp only [if_neg h0]
    exact ⟨_, rfl, h1, (Kp.upd hu).mono mem2l⟩
theorem bget1_even (h : SG w col i x m g j b z) (hT : Box w t #[.int .u16 1024]) (hct : col t = j) (htb : t ≠ b) (hg : Byt g) (hij : i ≠ j) :
    Calls Try.prog 82 #[.pointer (some ⟨x, 0, none⟩), .pointer (some ⟨t, 0, none⟩)] w (GetR w col i x m g j b (z.get1 g m none)) := by
  refine (bget_cell (n := 1) (f := fun _ => .int .u16 1024) h.1 hg hT (by omega) rfl (by rw [hct]; exact fun e => hij e.symm) (by omega)).mono ?_
  rintro e w' ⟨w1, rfl, hu, hE, hB, rfl⟩
  have hlb := Box.lt h.2.1
  have hB2 : Box w1 b (mkR 592 (u16s z.C)) := Box.same h.2.1 (hu.block b hlb (by rw [h.2.2]; exact fun e => hij e.symm))
  have h1 : SG w1 (recol col w i) i x m g j b ⟨z.C, (z.d.get g m 1024).2.2⟩ := ⟨hE, hB2, by rw [recol_lt hlb]; exact h.2.2⟩
  unfold GS.get1 chOf nxC
  dsimp only
  rw [ite_self]
  by_cases h0 : (z.d.get g m 1024).2.1 = 0
  · rw [if_pos h0]
    obtain ⟨h2, h3⟩ := h1.set hij (q := t) (by rw [recol_lt (Box.lt hT)]; exact hct) (Box.lt hB) 0 (.int .u16 (nextP 1024 (z.d.get g m 1024).1)) (Box.far hB2 (p := ⟨t, 0, none⟩) (fun e => htb e.symm) _)
    exact ⟨_, rfl, h2, ((Kp.upd hu).mono mem2l).trans h3⟩
  · rw [if_neg h0]
    exact ⟨_, rfl, h1, (Kp.upd hu).mono mem2l⟩
end
theorem loJ_lt {base i a : Nat} (hb : base + 37 ≤ 592) (hi : i < 4) (ha : a < 2 ^ i) : base + 20 + (2 ^ i - 1 + a) < 592 := by
  have : 2 ^ i ≤ 2 ^ 3 := Nat.pow_le_pow_right (by omega) (by omega)
  omega
set_option maxRecDepth 100000 in
set_option maxHeartbeats 2000000 in
theorem putLow_any {w : World} {col : Nat → Nat} {i x j b : Nat} {y : PS} (base v n : Nat) (h : SS w col i x j b y) (hij : i ≠ j) (hok : y.ok) (hL : y.s.L ≤ 800000) (hb : base + 37 ≤ 592) (hn : n ≤ 30) (hv : v ≤ 2000000) :
    Calls Try.prog 73 #[.pointer (some ⟨b, base, none⟩), .pointer (some ⟨x, 0, none⟩), .int .i64 v, .int .i64 n] w (PutR w col i x j b (y.low base v n n)) := by
  have H := Lib.hid h
  have HOK := Lib.hid (fun k => PS.low_ok hok base v n k)
  clear h hok
  go_enter Try.func73, Try.ntmps73
  go_wp2
  go_loopw [9, 16] (fun a q wr => ∃ (k : Nat) (col' : Nat → Nat), k ≤ n ∧ q = .int .i64 k ∧ a = .int .i64 (loA v n k) ∧ SS wr col' i x j b (y.low base v n k) ∧ Kp [i, j] w col wr col') (fun _ q _ => n - (intOf q).toNat)
  case atStart => exact ⟨0, col, by omega, rfl, by rw [loA_zero]; rfl, H.out, Kp.refl _ _ _⟩
  case round =>
    obtain ⟨k, col', hk, rfl, rfl, hS, hK⟩ := hrel
    obtain ⟨ok1, ok2, ok3⟩ := HOK.out k
    by_cases hlt : k < n
    · have la := loA_lt v n k
      have lb := loB_bd v n k
      have hp30 : 2 ^ k ≤ 2 ^ 30 := Nat.pow_le_pow_right (by omega) (by omega)
      have hand := bit_and (n := n) (k := k) hv
      have hor := or_bit (loA v n k) (loB v n k) (by omega) (by omega) (by omega)
      have HA := Lib.hid (loA_succ (v := v) hlt)
      have hlb := Box.lt hS.2.1
      have HS : Hid (SS (wr.alloc (.cells #[.int .u16 1024] 73)) (recol col' wr j) i x j b (y.low base v n k) ∧ Kp [i, j] w col (wr.alloc (.cells #[.int .u16 1024] 73)) (recol col' wr j)) := Lib.hid (by
        have hu := Upd.alloc col' j wr (.cells #[.int .u16 1024] 73)
        exact ⟨⟨EncS.upd hS.1 hij hu, Box.alloc hS.2.1 _, by rw [recol_lt hlb]; exact hS.2.2⟩, hK.trans ((Kp.upd hu).mono mem2r)⟩)
      have HT : Hid (Box (wr.alloc (.cells #[.int .u16 1024] 73)) wr.heap.size #[.int .u16 1024] ∧ recol col' wr j wr.heap.size = j ∧ wr.heap.size ≠ b) := Lib.hid ⟨Box.new _ _ _, recol_ge (Nat.le_refl _), by omega⟩
      have HO := Lib.hid ok1
      have HBB := Lib.hid (show (y.low base v n k).put1 (loJ base k (loA v n k)) (loB v n k) = y.low base v n (k + 1) from rfl)
      clear hS hK ok1
      generalize loA v n k = a at *
      generalize loB v n k = bb at *
      by_cases h4 : k < 4
      · have h4' : (k : Int) < 4 := by omega
        have HJ := Lib.hid (show loJ base k a = some (base + 20 + (2 ^ k - 1 + a)) by unfold loJ; rw [if_pos h4])
        go_wp2_with fail
        refine (at_any b base k a _ h4 la).mono ?_
        rintro e w4 ⟨rfl, hb4⟩
        have hS4 := SS.kp HS.out.1 (Kp.below hb4 [] _) (by simp) (by simp)
        have HK4 := Lib.hid (HS.out.2.trans (Kp.below hb4 [i, j] _))
        clear hb4
        go_wp2_with fail
        refine (bput1_book hS4 hij HO.out (by omega) (loJ_lt hb h4 la) (by omega)).mono ?_
        rintro e w5 ⟨c5, rfl, hS5, hK5⟩
        rw [← HJ.out, HBB.out] at hS5
        have HS5 := Lib.hid (And.intro hS5 (HK4.out.trans hK5))
        clear hS4 hS5 hK5
        go_wp2
        go_roundw
        case rel => exact ⟨k + 1, c5, by omega, by go_num, by rw [HA.out]; first | rfl | go_num | omega, HS5.out.1, HS5.out.2⟩
        case measure => simp [intOf]; omega
      · have h4' : ¬ (k : Int) < 4 := by omega
        have HJ := Lib.hid (show loJ base k a = none by unfold loJ; rw [if_neg h4])
        go_wp2_with fail
        refine (bput1_even HS.out.1 HT.out.1 HT.out.2.1 HT.out.2.2 hij HO.out (by omega) (by omega)).mono ?_
        rintro e w5 ⟨c5, rfl, hS5, hK5⟩
        rw [← HJ.out, HBB.out] at hS5
        have HS5 := Lib.hid (And.intro hS5 (HS.out.2.trans hK5))
        clear hS5 hK5
        go_wp2
        go_roundw
        case rel => exact ⟨k + 1, c5, by omega, by go_num, by rw [HA.out]; first | rfl | go_num | omega, HS5.out.1, HS5.out.2⟩
        case measure => simp [intOf]; omega
    · obtain rfl : k = n := by omega
      have HS := Lib.hid (And.intro hS hK)
      clear hS hK
      go_wp2
      go_ret
      exact ⟨col', rfl, HS.out.1, HS.out.2⟩
end Go.Proofs.Ytmnoddmecghjdaa
/- Walks of package book: getLow; a number put, a number got. -/
set_option linter.unusedVariables false
namespace Go.Kin
theorem GS.low_stop {g : Nat → Int} {m : Nat} {z : GS} {base k : Nat} (h : (z.low g m base k).e ≠ 0) : ∀ {n : Nat}, k ≤ n → z.low g m base n = z.low g m base k := by
  intro n hn
  induction n with
  | zero => rw [Nat.le_zero.1 hn]
  | succ n ih =>
    rcases Nat.eq_or_lt_of_le hn with h1 | h1
    · rw [h1]
    · have := ih (by omega)
      show (if (z.low g m base n).e = 0 then _ else z.low g m base n) = _
      rw [this, if_neg h]
theorem GS.len_stop {g : Nat → Int} {m : Nat} {z : GS} {base k : Nat} (h : (z.len g m base k).go = false) : ∀ {n : Nat}, k ≤ n → z.len g m base n = z.len g m base k := by
  intro n hn
  induction n with
  | zero => rw [Nat.le_zero.1 hn]
  | succ n ih =>
    rcases Nat.eq_or_lt_of_le hn with h1 | h1
    · rw [h1]
    · have := ih (by omega)
      show (if (z.len g m base n).go = true then _ else z.len g m base n) = _
      rw [this, if_neg (by rw [h]; simp)]
end Go.Kin
namespace Go.Proofs.Ytmnoddmecghjdaa
open Go.RowKit Go.Kin
def LowR (w : World) (col : Nat → Nat) (i x m : Nat) (g : Nat → Int) (j b : Nat) (r : LR) (e : Ending) (w' : World) : Prop := ∃ col', e = .returned (.tuple #[.int .i64 r.a, .int .i64 r.e]) ∧ SG w' col' i x m g j b r.x ∧ Kp [i, j] w col w' col'
def NumR (w : World) (col : Nat → Nat) (i x m : Nat) (g : Nat → Int) (j b : Nat) (r : NR) (e : Ending) (w' : World) : Prop := ∃ col', e = .returned (.tuple #[.int .i64 r.v, .int .i64 r.e]) ∧ SG w' col' i x m g j b r.x ∧ Kp [i, j] w col w' col'
set_option maxRecDepth 100000 in
set_option maxHeartbeats 4000000 in
theorem getLow_any {w : World} {col : Nat → Nat} {i x j b m : Nat} {g : Nat → Int} {z : GS} (base n : Nat) (h : SG w col i x m g j b z) (hg : Byt g) (hij : i ≠ j) (hok : z.ok m) (hb : base + 37 ≤ 592) (hn : n ≤ 30) :
    Calls Try.prog 83 #[.pointer (some ⟨b, base, none⟩), .pointer (some ⟨x, 0, none⟩), .int .i64 n] w (LowR w col i x m g j b (z.low g m base n)) := by
  have H := Lib.hid h
  have HOK := Lib.hid (fun k => GS.low_ok hg hok base k)
  have HG := Lib.hid hg
  clear h hok hg
  go_enter Try.func83, Try.ntmps83
  go_wp2
  go_loopw [8, 15] (fun a q wr => ∃ (k : Nat) (col' : Nat → Nat), k ≤ n ∧ (z.low g m base k).e = 0 ∧ q = .int .i64 k ∧ a = .int .i64 (z.low g m base k).a ∧ SG wr col' i x m g j b (z.low g m base k).x ∧ Kp [i, j] w col wr col') (fun _ q _ => n - (intOf q).toNat)
  case atStart => exact ⟨0, col, by omega, rfl, rfl, rfl, H.out, Kp.refl _ _ _⟩
  case round =>
    obtain ⟨k, col', hk, he0, rfl, rfl, hS, hK⟩ := hrel
    obtain ⟨ok1, la, ok3⟩ := HOK.out k
    by_cases hlt : k < n
    · have hp30 : 2 ^ k ≤ 2 ^ 30 := Nat.pow_le_pow_right (by omega) (by omega)
      have hlb := Box.lt hS.2.1
      have HS : Hid (SG (wr.alloc (.cells #[.int .u16 1024] 73)) (recol col' wr j) i x m g j b (z.low g m base k).x ∧ Kp [i, j] w col (wr.alloc (.cells #[.int .u16 1024] 73)) (recol col' wr j)) := Lib.hid (by
        have hu := Upd.alloc col' j wr (.cells #[.int .u16 1024] 73)
        exact ⟨⟨DecS.upd hS.1 hij hu, Box.alloc hS.2.1 _, by rw [recol_lt hlb]; exact hS.2.2⟩, hK.trans ((Kp.upd hu).mono mem2r)⟩)
      have HT : Hid (Box (wr.alloc (.cells #[.int .u16 1024] 73)) wr.heap.size #[.int .u16 1024] ∧ recol col' wr j wr.heap.size = j ∧ wr.heap.size ≠ b) := Lib.hid ⟨Box.new _ _ _, recol_ge (Nat.le_refl _), by omega⟩
      have HO := Lib.hid ok1
      have HNX : Hid (z.low g m base (k + 1) = lrNext ((z.low g m base k).x.get1 g m (loJ base k (z.low g m base k).a)) (z.low g m base k).a) := Lib.hid (by
        show (if (z.low g m base k).e = 0 then _ else _) = _
        rw [if_pos he0])
      have HST := Lib.hid (fun (h : (z.low g m base (k + 1)).e ≠ 0) => GS.low_stop h (n := n) (by omega))
      clear hS hK ok1 ok3 he0
      generalize z.low g m base k = r at *
      obtain ⟨r1, a, r3⟩ := r
      dsimp only at *
      by_cases h4 : k < 4
      · have h4' : (k : Int) < 4 := by omega
        have HJ := Lib.hid (show loJ base k a = some (base + 20 + (2 ^ k - 1 + a)) by unfold loJ; rw [if_pos h4])
        go_wp2_with fail
        refine (at_any b base k a _ h4 la).mono ?_
        rintro e w4 ⟨rfl, hb4⟩
        have hS4 := SG.kp HS.out.1 (Kp.below hb4 [] _) (by simp) (by simp)
        have HK4 := Lib.hid (HS.out.2.trans (Kp.below hb4 [i, j] _))
        clear hb4
        go_wp2_with fail
        refine (bget1_book hS4 HG.out hij HO.out (loJ_lt hb h4 la)).mono ?_
        rintro e w5 ⟨c5, rfl, hS5, hK5⟩
        have hbit := GS.get1_bit g m r3 (some (base + 20 + (2 ^ k - 1 + a)))
        have herr := GS.get1_err g m HO.out.1 (some (base + 20 + (2 ^ k - 1 + a)))
        have HQ : Hid (z.low g m base (k + 1) = lrNext (r3.get1 g m (some (base + 20 + (2 ^ k - 1 + a)))) a) := Lib.hid (by rw [← HJ.out]; exact HNX.out)
        have HS5 := Lib.hid (And.intro hS5 (HK4.out.trans hK5))
        clear hS4 hS5 hK5
        generalize r3.get1 g m (some (base + 20 + (2 ^ k - 1 + a))) = q at *
        obtain ⟨q1, q2, q3⟩ := q
        dsimp only at *
        have hor := or_bit a q1 (by omega) (by omega) hbit
        rcases herr with rfl | rfl
        · have HQ2 : Hid (z.low g m base (k + 1) = ⟨0, 2 * a + q1.toNat, q3⟩) := Lib.hid HQ.out
          go_wp2
          go_roundw
          case rel =>
            refine ⟨k + 1, c5, by omega, by rw [HQ2.out], by go_num, ?_, by rw [HQ2.out]; exact HS5.out.1, HS5.out.2⟩
            rw [HQ2.out]
            exact congrArg (Value.int .i64) (by dsimp only; omega)
          case measure => simp [intOf]; omega
        · have HQ2 : Hid (z.low g m base (k + 1) = ⟨41, 0, q3⟩) := Lib.hid HQ.out
          have HST2 : Hid (z.low g m base n = ⟨41, 0, q3⟩) := Lib.hid ((HST.out (by rw [HQ2.out]; simp)).trans HQ2.out)
          go_wp2
          go_ret2
          rw [HST2.out]
          exact ⟨c5, rfl, HS5.out.1, HS5.out.2⟩
      · have h4' : ¬ (k : Int) < 4 := by omega
        have HJ := Lib.hid (show loJ base k a = none by unfold loJ; rw [if_neg h4])
        go_wp2_with fail
        refine (bget1_even HS.out.1 HT.out.1 HT.out.2.1 HT.out.2.2 HG.out hij).mono ?_
        rintro e w5 ⟨c5, rfl, hS5, hK5⟩
        have hbit := GS.get1_bit g m r3 none
        have herr := GS.get1_err g m HO.out.1 none
        have HQ : Hid (z.low g m base (k + 1) = lrNext (r3.get1 g m none) a) := Lib.hid (by rw [← HJ.out]; exact HNX.out)
        have HS5 := Lib.hid (And.intro hS5 (HS.out.2.trans hK5))
        clear hS5 hK5
        generalize r3.get1 g m none = q at *
        obtain ⟨q1, q2, q3⟩ := q
        dsimp only at *
        have hor := or_bit a q1 (by omega) (by omega) hbit
        rcases herr with rfl | rfl
        · have HQ2 : Hid (z.low g m base (k + 1) = ⟨0, 2 * a + q1.toNat, q3⟩) := Lib.hid HQ.out
          go_wp2
          go_roundw
          case rel =>
            refine ⟨k + 1, c5, by omega, by rw [HQ2.out], by go_num, ?_, by rw [HQ2.out]; exact HS5.out.1, HS5.out.2⟩
            rw [HQ2.out]
            exact congrArg (Value.int .i64) (by dsimp only; omega)
          case measure => simp [intOf]; omega
        · have HQ2 : Hid (z.low g m base (k + 1) = ⟨41, 0, q3⟩) := Lib.hid HQ.out
          have HST2 : Hid (z.low g m base n = ⟨41, 0, q3⟩) := Lib.hid ((HST.out (by rw [HQ2.out]; simp)).trans HQ2.out)
          go_wp2
          go_ret2
          rw [HST2.out]
          exact ⟨c5, rfl, HS5.out.1, HS5.out.2⟩
    · obtain rfl : k = n := by omega
      have HS := Lib.hid (And.intro hS hK)
      have HE := Lib.hid he0
      clear hS hK he0
      go_wp2
      go_ret2
      exact ⟨col', by rw [HE.out]; rfl, HS.out.1, HS.out.2⟩
set_option maxRecDepth 100000 in
set_option maxHeartbeats 4000000 in
theorem putNum_any {w : World} {col : Nat → Nat} {i x j b : Nat} {y : PS} (base v : Nat) (h : SS w col i x j b y) (hij : i ≠ j) (hok : y.ok) (hL : y.s.L ≤ 700000) (hb : base + 37 ≤ 592) (hv : v ≤ 1048576) :
    Calls Try.prog 60 #[.pointer (some ⟨b, base, none⟩), .pointer (some ⟨x, 0, none⟩), .int .i64 v] w (PutR w col i x j b (y.num base v)) := by
  have H := Lib.hid h
  have HOK := Lib.hid (fun k => PS.ones_ok hok base k)
  obtain ⟨n1, n2⟩ := num_len hv
  have HN : Hid (y.num base v = (y.lens base (Lib.bitLen (v + 1))).low base (v + 1) (Lib.bitLen (v + 1) - 1) (Lib.bitLen (v + 1) - 1)) := Lib.hid rfl
  have HLN := Lib.hid (PS.lens_ok hok base (Lib.bitLen (v + 1)))
  have HLEN := Try.bits_Len ((v : Int) + 1)
  rw [show ((v : Int) + 1).toNat = v + 1 by omega] at HLEN
  have HLEN := Lib.hid HLEN
  generalize Lib.bitLen (v + 1) = N at *
  have HLD : Hid (y.lens base N = if N < 21 then (y.ones base (N - 1)).put1 (some (base + (N - 1))) 0 else y.ones base (N - 1)) := Lib.hid rfl
  clear h hok
  have hz1 : (N : Int) - 1 = ((N - 1 : Nat) : Int) := by omega
  go_enter Try.func60, Try.ntmps60
  go_wp2_with fail
  refine (HLEN.out _ (by omega) (by omega)).mono ?_
  rintro e w' ⟨rfl, hww⟩
  subst hww
  go_wp2_with fail
  go_loopw [17] (fun q wr => ∃ (k : Nat) (col' : Nat → Nat), k ≤ N - 1 ∧ q = .int .i64 k ∧ SS wr col' i x j b (y.ones base k) ∧ Kp [i, j] w' col wr col') (fun q _ => N - 1 - (intOf q).toNat)
  case atStart => exact ⟨0, col, by omega, rfl, H.out, Kp.refl _ _ _⟩
  case round =>
    obtain ⟨k, col', hk, rfl, hS, hK⟩ := hrel
    obtain ⟨ok1, ok2, ok3⟩ := HOK.out k
    have HS := Lib.hid (And.intro hS hK)
    clear hS hK
    by_cases hlt : k < N - 1
    · have l1 : (k : Int) < 20 := by omega
      have l2 : (k : Int) < ((N - 1 : Nat) : Int) := by omega
      go_wp2_with fail
      refine (bput1_book HS.out.1 hij ok1 (by omega) (by omega) (.inr rfl)).mono ?_
      rintro e w5 ⟨c5, rfl, hS5, hK5⟩
      have HS5 := Lib.hid (And.intro hS5 (HS.out.2.trans hK5))
      clear hS5 hK5
      go_wp2
      go_roundw
      case rel => exact ⟨k + 1, c5, by omega, by go_num, HS5.out.1, HS5.out.2⟩
      case measure => simp [intOf]; omega
    · obtain rfl : k = N - 1 := by omega
      have HO := Lib.hid ok1
      clear ok1
      by_cases h21 : N < 21
      · have l1 : (N : Int) < 21 := by omega
        have l2 : ((N - 1 : Nat) : Int) < 20 := by omega
        go_wp2_with fail
        refine (bput1_book HS.out.1 hij HO.out (by omega) (by omega) (.inl rfl)).mono ?_
        rintro e w5 ⟨c5, rfl, hS5, hK5⟩
        have hL5 := HLN.out
        rw [HLD.out, if_pos h21] at hL5
        have HS5 := Lib.hid (HS.out.2.trans hK5)
        clear hK5
        go_wp2_with fail
        refine (putLow_any base (v + 1) (N - 1) hS5 hij hL5.1 (by omega) hb (by omega) (by omega)).mono ?_
        rintro e w6 ⟨c6, rfl, hS6, hK6⟩
        have HS6 := Lib.hid (And.intro hS6 (HS5.out.trans hK6))
        clear hS5 hS6 hK6 hL5
        go_wp2
        go_ret
        refine ⟨c6, rfl, ?_, HS6.out.2⟩
        rw [HN.out, HLD.out, if_pos h21]
        exact HS6.out.1
      · have l1 : ¬ (N : Int) < 21 := by omega
        have hL5 := HLN.out
        rw [HLD.out, if_neg h21] at hL5
        go_wp2_with fail
        refine (putLow_any base (v + 1) (N - 1) HS.out.1 hij hL5.1 (by omega) hb (by omega) (by omega)).mono ?_
        rintro e w6 ⟨c6, rfl, hS6, hK6⟩
        have HS6 := Lib.hid (And.intro hS6 (HS.out.2.trans hK6))
        clear hS6 hK6 hL5
        go_wp2
        go_ret
        refine ⟨c6, rfl, ?_, HS6.out.2⟩
        rw [HN.out, HLD.out, if_neg h21]
        exact HS6.out.1
end Go.Proofs.Ytmnoddmecghjdaa
/- Walks of package book: a number got. -/
set_option linter.unusedVariables false
namespace Go.Proofs.Ytmnoddmecghjdaa
open Go.RowKit Go.Kin
set_option maxRecDepth 100000 in
set_option maxHeartbeats 4000000 in
theorem getNum_any {w : World} {col : Nat → Nat} {i x j b m : Nat} {g : Nat → Int} {z : GS} (base : Nat) (h : SG w col i x m g j b z) (hg : Byt g) (hij : i ≠ j) (hok : z.ok m) (hb : base + 37 ≤ 592) :
    Calls Try.prog 81 #[.pointer (some ⟨b, base, none⟩), .pointer (some ⟨x, 0, none⟩)] w (NumR w col i x m g j b (z.num g m base)) := by
  have H := Lib.hid h
  have HOK := Lib.hid (fun k => GS.len_ok hg hok base k)
  have HG := Lib.hid hg
  have HNUM : Hid (z.num g m base = nrLen g m base (z.len g m base 20)) := Lib.hid rfl
  clear h hok hg
  go_enter Try.func81, Try.ntmps81
  go_wp2
  go_loopw [6] (fun q wr => ∃ (k : Nat) (y : GS) (col' : Nat → Nat), k ≤ 20 ∧ z.len g m base k = ⟨true, k + 1, 0, y⟩ ∧ q = .int .i64 ((k : Int) + 1) ∧ SG wr col' i x m g j b y ∧ Kp [i, j] w col wr col') (fun q _ => 22 - (intOf q).toNat)
  case atStart => exact ⟨0, z, col, by omega, rfl, rfl, H.out, Kp.refl _ _ _⟩
  case round =>
    obtain ⟨k, y, col', hk, hl, rfl, hS, hK⟩ := hrel
    have hok := (HOK.out k).1
    rw [hl] at hok
    have HS := Lib.hid (And.intro hS hK)
    have HY : Hid (y.ok m) := Lib.hid hok
    clear hS hK hok
    by_cases hlt : k < 20
    · have HNX : Hid (z.len g m base (k + 1) = qrNext (y.get1 g m (some (base + k))) (k + 1)) := Lib.hid (by
        show (if (z.len g m base k).go = true then _ else _) = _
        rw [hl, if_pos rfl]
        rfl)
      have HST := Lib.hid (fun (h : (z.len g m base (k + 1)).go = false) => GS.len_stop h (n := 20) (by omega))
      clear hl
      have l1 : (k : Int) + 1 < 21 := by omega
      have l2 : (k : Int) < 20 := by omega
      go_wp2_with fail
      refine (bget1_book HS.out.1 HG.out hij HY.out (show base + k < 592 by omega)).mono ?_
      rintro e w5 ⟨c5, rfl, hS5, hK5⟩
      have hbit := GS.get1_bit g m y (some (base + k))
      have herr := GS.get1_err g m HY.out.1 (some (base + k))
      have hok5 := GS.get1_ok HG.out HY.out (some (base + k))
      have HS5 := Lib.hid (And.intro hS5 (HS.out.2.trans hK5))
      clear hS5 hK5
      generalize y.get1 g m (some (base + k)) = q at *
      obtain ⟨q1, q2, q3⟩ := q
      dsimp only at *
      have HY5 := Lib.hid hok5
      clear hok5
      rcases herr with rfl | rfl
      · rcases hbit with rfl | rfl
        · have HQ : Hid (z.len g m base 20 = ⟨false, k + 1, 0, q3⟩) := Lib.hid ((HST.out (by rw [HNX.out]; rfl)).trans HNX.out)
          have HW := HS5
          have HZ := HY5
          have hN : k + 1 ≤ 21 := by omega
          clear HS HY HS5 HY5 HNX HST
          have hN1 : ((k : Nat) : Int) + 1 - 1 = ((k : Nat) : Int) := by omega
          obtain ⟨lok, la, le⟩ := GS.low_ok HG.out HZ.out base k
          have hp20 : 2 ^ k ≤ 2 ^ 20 := Nat.pow_le_pow_right (by omega) (by omega)
          have hp0 : 0 < 2 ^ k := Nat.pow_pos (by omega)
          have hpc : (2 : Int) ^ k = ((2 ^ k : Nat) : Int) := by push_cast; rfl
          have HR : Hid (z.num g m base = nrLow (q3.low g m base k) k) := Lib.hid (by rw [HNUM.out, HQ.out]; rfl)
          go_wp2_with fail
          refine (getLow_any base k HW.out.1 HG.out hij HZ.out hb (by omega)).mono ?_
          rintro e w6 ⟨c6, rfl, hS6, hK6⟩
          have HS6 := Lib.hid (And.intro hS6 (HW.out.2.trans hK6))
          clear hS6 hK6 lok
          generalize q3.low g m base k = q at *
          obtain ⟨r1, a, r3⟩ := q
          dsimp only at *
          generalize hP : 2 ^ k = P at *
          have HP := Lib.hid hP
          have HPC := Lib.hid hpc
          clear hP
          rcases le with rfl | rfl
          · by_cases hbig : 2 ^ k + a - 1 > 1048576
            · have HF : Hid (z.num g m base = ⟨0, 51, r3⟩) := Lib.hid (by rw [HR.out]; unfold nrLow; rw [if_pos rfl, if_pos hbig])
              rw [HP.out] at hbig
              have hbig' : (1048576 : Int) < (P : Int) + a - 1 := by omega
              go_wp2
              go_ret2
              rw [HF.out]
              exact ⟨c6, rfl, HS6.out.1, HS6.out.2⟩
            · have HF : Hid (z.num g m base = ⟨(2 ^ k + a - 1 : Nat), 0, r3⟩) := Lib.hid (by rw [HR.out]; unfold nrLow; rw [if_pos rfl, if_neg hbig])
              rw [HP.out] at hbig
              have hbig' : ¬ (1048576 : Int) < (P : Int) + a - 1 := by omega
              have HV := Lib.hid (show (((P + a - 1 : Nat)) : Int) = (P : Int) + a - 1 by omega)
              go_wp2
              go_ret2
              rw [HF.out]
              refine ⟨c6, ?_, HS6.out.1, HS6.out.2⟩
              dsimp only
              rw [HP.out, HV.out]
              rfl
          · have HF : Hid (z.num g m base = ⟨0, 41, r3⟩) := Lib.hid (by rw [HR.out]; rfl)
            go_wp2
            go_ret2
            rw [HF.out]
            exact ⟨c6, rfl, HS6.out.1, HS6.out.2⟩
        · have HQ : Hid (z.len g m base (k + 1) = ⟨true, k + 1 + 1, 0, q3⟩) := Lib.hid HNX.out
          go_wp2
          go_roundw
          case rel => exact ⟨k + 1, q3, c5, by omega, HQ.out, by go_num, HS5.out.1, HS5.out.2⟩
          case measure => simp [intOf]; omega
      · have HQ : Hid (z.len g m base 20 = ⟨false, k + 1, 41, q3⟩) := Lib.hid ((HST.out (by rw [HNX.out]; rfl)).trans HNX.out)
        go_wp2
        go_ret2
        rw [HNUM.out, HQ.out]
        exact ⟨c5, rfl, HS5.out.1, HS5.out.2⟩
    · have HQ : Hid (z.len g m base 20 = ⟨true, k + 1, 0, y⟩) := Lib.hid (by rw [show 20 = k by omega]; exact hl)
      have HW := HS
      have HZ := HY
      have hN : k + 1 ≤ 21 := by omega
      have l1 : ¬ (k : Int) + 1 < 21 := by omega
      have l2 : ¬ (k : Int) < 20 := by omega
      clear HS HY hl hlt
      have hN1 : ((k : Nat) : Int) + 1 - 1 = ((k : Nat) : Int) := by omega
      obtain ⟨lok, la, le⟩ := GS.low_ok HG.out HZ.out base k
      have hp20 : 2 ^ k ≤ 2 ^ 20 := Nat.pow_le_pow_right (by omega) (by omega)
      have hp0 : 0 < 2 ^ k := Nat.pow_pos (by omega)
      have hpc : (2 : Int) ^ k = ((2 ^ k : Nat) : Int) := by push_cast; rfl
      have HR : Hid (z.num g m base = nrLow (y.low g m base k) k) := Lib.hid (by rw [HNUM.out, HQ.out]; rfl)
      go_wp2_with fail
      refine (getLow_any base k HW.out.1 HG.out hij HZ.out hb (by omega)).mono ?_
      rintro e w6 ⟨c6, rfl, hS6, hK6⟩
      have HS6 := Lib.hid (And.intro hS6 (HW.out.2.trans hK6))
      clear hS6 hK6 lok
      generalize y.low g m base k = q at *
      obtain ⟨r1, a, r3⟩ := q
      dsimp only at *
      generalize hP : 2 ^ k = P at *
      have HP := Lib.hid hP
      have HPC := Lib.hid hpc
      clear hP
      rcases le with rfl | rfl
      · by_cases hbig : 2 ^ k + a - 1 > 1048576
        · have HF : Hid (z.num g m base = ⟨0, 51, r3⟩) := Lib.hid (by rw [HR.out]; unfold nrLow; rw [if_pos rfl, if_pos hbig])
          rw [HP.out] at hbig
          have hbig' : (1048576 : Int) < (P : Int) + a - 1 := by omega
          go_wp2
          go_ret2
          rw [HF.out]
          exact ⟨c6, rfl, HS6.out.1, HS6.out.2⟩
        · have HF : Hid (z.num g m base = ⟨(2 ^ k + a - 1 : Nat), 0, r3⟩) := Lib.hid (by rw [HR.out]; unfold nrLow; rw [if_pos rfl, if_neg hbig])
          rw [HP.out] at hbig
          have hbig' : ¬ (1048576 : Int) < (P : Int) + a - 1 := by omega
          have HV := Lib.hid (show (((P + a - 1 : Nat)) : Int) = (P : Int) + a - 1 by omega)
          go_wp2
          go_ret2
          rw [HF.out]
          refine ⟨c6, ?_, HS6.out.1, HS6.out.2⟩
          dsimp only
          rw [HP.out, HV.out]
          rfl
      · have HF : Hid (z.num g m base = ⟨0, 41, r3⟩) := Lib.hid (by rw [HR.out]; rfl)
        go_wp2
        go_ret2
        rw [HF.out]
        exact ⟨c6, rfl, HS6.out.1, HS6.out.2⟩
end Go.Proofs.Ytmnoddmecghjdaa
/- Walks of package book: what a book puts and gets. -/
set_option linter.unusedVariables false
namespace Go.Proofs.Ytmnoddmecghjdaa
open Go.RowKit Go.Kin
theorem topB_yes {t : Int} (h : topB t = true) : ∃ n : Nat, t = n ∧ n < 16 := by
  unfold topB at h
  have := of_decide_eq_true h
  exact ⟨t.toNat, by omega, by omega⟩
section
variable {w : World} {col : Nat → Nat} {i x j b : Nat} {y : PS}
theorem bPut_no (b x : Nat) (t v : Int) (w : World) (h : topB t = false ∨ v < 0 ∨ 1048576 < v) :
    Calls Try.prog 28 #[.pointer (some ⟨b, 0, none⟩), .pointer (some ⟨x, 0, none⟩), .int .i64 t, .int .i64 v] w fun e w' => e = .returned (.int .i64 1) ∧ w = w' := by
  cases ht : topB t
  · go_enter Try.func28, Try.ntmps28
    go_wp2_with (go_at_call 59; refine (topic_no _ _ _ ht).mono ?_; rintro e w' ⟨rfl, rfl⟩)
    go_ret
    exact ⟨rfl, rfl⟩
  · obtain ⟨n, rfl, hn⟩ := topB_yes ht
    have h' : v < 0 ∨ (¬ v < 0 ∧ 1048576 < v) := by
      rcases h with h | h | h
      · rw [ht] at h; cases h
      · exact .inl h
      · exact .inr ⟨by omega, h⟩
    clear h ht
    rcases h' with h1 | ⟨h1, h2⟩
    · go_enter Try.func28, Try.ntmps28
      go_wp2_with (go_at_call 59; refine (topic_yes _ _ _ hn).mono ?_; rintro e w' ⟨rfl, rfl⟩)
      go_ret
      exact ⟨rfl, rfl⟩
    · go_enter Try.func28, Try.ntmps28
      go_wp2_with (go_at_call 59; refine (topic_yes _ _ _ hn).mono ?_; rintro e w' ⟨rfl, rfl⟩)
      go_ret
      exact ⟨rfl, rfl⟩
theorem bPut_yes (t v : Nat) (h : SS w col i x j b y) (hij : i ≠ j) (hok : y.ok) (hL : y.s.L ≤ 700000) (ht : t < 16) (hv : v ≤ 1048576) :
    Calls Try.prog 28 #[.pointer (some ⟨b, 0, none⟩), .pointer (some ⟨x, 0, none⟩), .int .i64 t, .int .i64 v] w (PutR w col i x j b (y.num (37 * t) v)) := by
  have l1 : ¬ (v : Int) < 0 := by omega
  have l2 : ¬ (1048576 : Int) < v := by omega
  go_enter Try.func28, Try.ntmps28
  go_wp2_with fail
  refine (topic_yes _ _ _ ht).mono ?_
  rintro e w' ⟨rfl, rfl⟩
  go_wp2_with fail
  refine (putNum_any (37 * t) v h hij hok hL (by omega) hv).mono ?_
  rintro e w' ⟨c', rfl, hS, hK⟩
  go_wp2
  go_ret
  exact ⟨c', rfl, hS, hK⟩
theorem bPutS_no (b x : Nat) (t v : Int) (w : World) (h : topB t = false ∨ v < -1048576 ∨ 1048576 < v) :
    Calls Try.prog 48 #[.pointer (some ⟨b, 0, none⟩), .pointer (some ⟨x, 0, none⟩), .int .i64 t, .int .i64 v] w fun e w' => e = .returned (.int .i64 1) ∧ w = w' := by
  cases ht : topB t
  · go_enter Try.func48, Try.ntmps48
    go_wp2_with (go_at_call 59; refine (topic_no _ _ _ ht).mono ?_; rintro e w' ⟨rfl, rfl⟩)
    go_ret
    exact ⟨rfl, rfl⟩
  · obtain ⟨n, rfl, hn⟩ := topB_yes ht
    have h' : v < -1048576 ∨ (¬ v < -1048576 ∧ 1048576 < v) := by
      rcases h with h | h | h
      · rw [ht] at h; cases h
      · exact .inl h
      · exact .inr ⟨by omega, h⟩
    clear h ht
    rcases h' with h1 | ⟨h1, h2⟩
    · go_enter Try.func48, Try.ntmps48
      go_wp2_with (go_at_call 59; refine (topic_yes _ _ _ hn).mono ?_; rintro e w' ⟨rfl, rfl⟩)
      go_ret
      exact ⟨rfl, rfl⟩
    · go_enter Try.func48, Try.ntmps48
      go_wp2_with (go_at_call 59; refine (topic_yes _ _ _ hn).mono ?_; rintro e w' ⟨rfl, rfl⟩)
      go_ret
      exact ⟨rfl, rfl⟩
set_option maxHeartbeats 1000000 in
theorem bPutS_yes (t : Nat) (v : Int) (h : SS w col i x j b y) (hij : i ≠ j) (hok : y.ok) (hL : y.s.L ≤ 600000) (ht : t < 16) (hv : -1048576 ≤ v ∧ v ≤ 1048576) :
    Calls Try.prog 48 #[.pointer (some ⟨b, 0, none⟩), .pointer (some ⟨x, 0, none⟩), .int .i64 t, .int .i64 v] w (PutR w col i x j b (y.sgn (37 * t) v)) := by
  have l1 : ¬ v < -1048576 := by omega
  have l2 : ¬ (1048576 : Int) < v := by omega
  have hn := PS.num_ok hok (37 * t) (v := v.natAbs) (by omega)
  rcases (show (∃ u : Nat, v = -(u : Int) ∧ 0 < u) ∨ (v = 0 ∨ ∃ u : Nat, v = u ∧ 0 < u) by
    rcases Int.lt_trichotomy v 0 with h | h | h
    · exact .inl ⟨v.natAbs, by omega, by omega⟩
    · exact .inr (.inl h)
    · exact .inr (.inr ⟨v.natAbs, by omega, by omega⟩)) with ⟨u, rfl, hu⟩ | rfl | ⟨u, rfl, hu⟩
  · have l0 : -(u : Int) < 0 := by omega
    have l3 : ((u : Int) == 0) = false := by simp; omega
    have HF : Hid (y.sgn (37 * t) (-(u : Int)) = (y.num (37 * t) u).put1 (some (37 * t + 36)) 1) := Lib.hid (by unfold PS.sgn; rw [if_neg (by omega), if_pos l0, show (-(u : Int)).natAbs = u by omega])
    rw [show (-(u : Int)).natAbs = u by omega] at hn
    have HN := Lib.hid hn
    have l4 : (u : Int) ≤ 1048576 := by omega
    clear hn
    go_enter Try.func48, Try.ntmps48
    go_wp2_with fail
    refine (topic_yes _ _ _ ht).mono ?_
    rintro e w' ⟨rfl, rfl⟩
    go_wp2_with fail
    refine (putNum_any (37 * t) u h hij hok (by omega) (by omega) (by omega)).mono ?_
    rintro e w' ⟨c', rfl, hS, hK⟩
    have HK := Lib.hid hK
    clear hK
    go_wp2_with fail
    refine (bput1_book hS hij HN.out.1 (by have := HN.out; omega) (show 37 * t + 36 < 592 by omega) (.inr rfl)).mono ?_
    rintro e w5 ⟨c5, rfl, hS5, hK5⟩
    rw [← HF.out] at hS5
    have HS5 := Lib.hid (And.intro hS5 (HK.out.trans hK5))
    clear hS5 hK5 hS
    go_wp2
    go_ret
    exact ⟨c5, rfl, HS5.out.1, HS5.out.2⟩
  · have HF : Hid (y.sgn (37 * t) 0 = y.num (37 * t) 0) := Lib.hid (by unfold PS.sgn; rw [if_pos rfl])
    go_enter Try.func48, Try.ntmps48
    go_wp2_with fail
    refine (topic_yes _ _ _ ht).mono ?_
    rintro e w' ⟨rfl, rfl⟩
    go_wp2_with fail
    refine (putNum_any (37 * t) 0 h hij hok (by omega) (by omega) (by omega)).mono ?_
    rintro e w' ⟨c', rfl, hS, hK⟩
    rw [← HF.out] at hS
    go_wp2
    go_ret
    exact ⟨c', rfl, hS, hK⟩
  · have l0 : ¬ (u : Int) < 0 := by omega
    have l3 : ((u : Int) == 0) = false := by simp; omega
    have HF : Hid (y.sgn (37 * t) (u : Int) = (y.num (37 * t) u).put1 (some (37 * t + 36)) 0) := Lib.hid (by unfold PS.sgn; rw [if_neg (by omega), if_neg l0, show ((u : Int)).natAbs = u by omega])
    rw [show ((u : Int)).natAbs = u by omega] at hn
    have HN := Lib.hid hn
    clear hn
    go_enter Try.func48, Try.ntmps48
    go_wp2_with fail
    refine (topic_yes _ _ _ ht).mono ?_
    rintro e w' ⟨rfl, rfl⟩
    go_wp2_with fail
    refine (putNum_any (37 * t) u h hij hok (by omega) (by omega) (by omega)).mono ?_
    rintro e w' ⟨c', rfl, hS, hK⟩
    have HK := Lib.hid hK
    clear hK
    go_wp2_with fail
    refine (bput1_book hS hij HN.out.1 (by have := HN.out; omega) (show 37 * t + 36 < 592 by omega) (.inl rfl)).mono ?_
    rintro e w5 ⟨c5, rfl, hS5, hK5⟩
    rw [← HF.out] at hS5
    have HS5 := Lib.hid (And.intro hS5 (HK.out.trans hK5))
    clear hS5 hK5 hS
    go_wp2
    go_ret
    exact ⟨c5, rfl, HS5.out.1, HS5.out.2⟩
theorem bPutO_no (b x : Nat) (t n v : Int) (w : World) (h : topB t = false ∨ n < 1 ∨ 16 < n ∨ v < 0 ∨ n ≤ v) :
    Calls Try.prog 49 #[.pointer (some ⟨b, 0, none⟩), .pointer (some ⟨x, 0, none⟩), .int .i64 t, .int .i64 n, .int .i64 v] w fun e w' => e = .returned (.int .i64 1) ∧ w = w' := by
  cases ht : topB t
  · go_enter Try.func49, Try.ntmps49
    go_wp2_with (go_at_call 59; refine (topic_no _ _ _ ht).mono ?_; rintro e w' ⟨rfl, rfl⟩)
    go_ret
    exact ⟨rfl, rfl⟩
  · obtain ⟨u, rfl, hn⟩ := topB_yes ht
    have h' : n < 1 ∨ (¬ n < 1 ∧ 16 < n) ∨ (¬ n < 1 ∧ ¬ 16 < n ∧ v < 0) ∨ (¬ n < 1 ∧ ¬ 16 < n ∧ ¬ v < 0 ∧ n ≤ v) := by
      rcases h with h | h
      · rw [ht] at h; cases h
      · omega
    clear h ht
    rcases h' with h1 | ⟨h1, h2⟩ | ⟨h1, h2, h3⟩ | ⟨h1, h2, h3, h4⟩
    all_goals
      go_enter Try.func49, Try.ntmps49
      go_wp2_with (go_at_call 59; refine (topic_yes _ _ _ hn).mono ?_; rintro e w' ⟨rfl, rfl⟩)
      go_ret
      exact ⟨rfl, rfl⟩
set_option maxHeartbeats 1000000 in
theorem bPutO_yes (t n v : Nat) (h : SS w col i x j b y) (hij : i ≠ j) (hok : y.ok) (hL : y.s.L ≤ 700000) (ht : t < 16) (h1 : 1 ≤ n) (h16 : n ≤ 16) (hv : v < n) :
    Calls Try.prog 49 #[.pointer (some ⟨b, 0, none⟩), .pointer (some ⟨x, 0, none⟩), .int .i64 t, .int .i64 n, .int .i64 v] w (PutR w col i x j b (y.one (37 * t) n v)) := by
  have l1 : ¬ (n : Int) < 1 := by omega
  have l2 : ¬ (16 : Int) < n := by omega
  have l3 : ¬ (v : Int) < 0 := by omega
  have l4 : ¬ (n : Int) ≤ v := by omega
  have hb4 := bitLen_le (n := 4) (x := n - 1) (by omega) (by omega)
  have HLEN := Try.bits_Len ((n : Int) - 1)
  rw [show ((n : Int) - 1).toNat = n - 1 by omega] at HLEN
  have HLEN := Lib.hid HLEN
  go_enter Try.func49, Try.ntmps49
  go_wp2_with fail
  refine (topic_yes _ _ _ ht).mono ?_
  rintro e w' ⟨rfl, rfl⟩
  go_wp2_with fail
  refine (HLEN.out _ (by omega) (by omega)).mono ?_
  rintro e w' ⟨rfl, hww⟩
  subst hww
  go_wp2_with fail
  refine (putLow_any (37 * t) v _ h hij hok (by omega) (by omega) (by omega) (by omega)).mono ?_
  rintro e w5 ⟨c', rfl, hS, hK⟩
  go_wp2
  go_ret
  exact ⟨c', rfl, hS, hK⟩
end
section
variable {w : World} {col : Nat → Nat} {i x j b m : Nat} {g : Nat → Int} {z : GS}
theorem bGet_no (b x : Nat) (t : Int) (w : World) (ht : topB t = false) :
    Calls Try.prog 55 #[.pointer (some ⟨b, 0, none⟩), .pointer (some ⟨x, 0, none⟩), .int .i64 t] w fun e w' => e = .returned (.tuple #[.int .i64 0, .int .i64 1]) ∧ w = w' := by
  go_enter Try.func55, Try.ntmps55
  go_wp2_with (go_at_call 59; refine (topic_no _ _ _ ht).mono ?_; rintro e w' ⟨rfl, rfl⟩)
  go_ret2
  exact ⟨rfl, rfl⟩
theorem bGet_yes (t : Nat) (h : SG w col i x m g j b z) (hg : Byt g) (hij : i ≠ j) (hok : z.ok m) (ht : t < 16) :
    Calls Try.prog 55 #[.pointer (some ⟨b, 0, none⟩), .pointer (some ⟨x, 0, none⟩), .int .i64 t] w (NumR w col i x m g j b (z.num g m (37 * t))) := by
  go_enter Try.func55, Try.ntmps55
  go_wp2_with fail
  refine (topic_yes _ _ _ ht).mono ?_
  rintro e w' ⟨rfl, rfl⟩
  go_wp2_with fail
  refine (getNum_any (37 * t) h hg hij hok (by omega)).mono ?_
  rintro e w' ⟨c', rfl, hS, hK⟩
  go_wp2
  go_ret2
  exact ⟨c', rfl, hS, hK⟩
theorem bGetS_no (b x : Nat) (t : Int) (w : World) (ht : topB t = false) :
    Calls Try.prog 53 #[.pointer (some ⟨b, 0, none⟩), .pointer (some ⟨x, 0, none⟩), .int .i64 t] w fun e w' => e = .returned (.tuple #[.int .i64 0, .int .i64 1]) ∧ w = w' := by
  go_enter Try.func53, Try.ntmps53
  go_wp2_with (go_at_call 59; refine (topic_no _ _ _ ht).mono ?_; rintro e w' ⟨rfl, rfl⟩)
  go_ret2
  exact ⟨rfl, rfl⟩
set_option maxHeartbeats 1000000 in
theorem bGetS_yes (t : Nat) (h : SG w col i x m g j b z) (hg : Byt g) (hij : i ≠ j) (hok : z.ok m) (ht : t < 16) :
    Calls Try.prog 53 #[.pointer (some ⟨b, 0, none⟩), .pointer (some ⟨x, 0, none⟩), .int .i64 t] w (NumR w col i x m g j b (z.sgn g m (37 * t))) := by
  have hn := GS.num_ok hg hok (37 * t)
  have HSG : Hid (z.sgn g m (37 * t) = if (z.num g m (37 * t)).e = 0 ∧ (z.num g m (37 * t)).v ≠ 0 then nrSgn ((z.num g m (37 * t)).x.get1 g m (some (37 * t + 36))) (z.num g m (37 * t)).v else ⟨0, (z.num g m (37 * t)).e, (z.num g m (37 * t)).x⟩) := Lib.hid rfl
  have HG := Lib.hid hg
  clear hg
  go_enter Try.func53, Try.ntmps53
  go_wp2_with fail
  refine (topic_yes _ _ _ ht).mono ?_
  rintro e w' ⟨rfl, rfl⟩
  go_wp2_with fail
  refine (getNum_any (37 * t) h HG.out hij hok (by omega)).mono ?_
  rintro e w' ⟨c', rfl, hS, hK⟩
  generalize z.num g m (37 * t) = r at *
  obtain ⟨v, e, y⟩ := r
  dsimp only at *
  obtain ⟨n1, n2, n3, n4⟩ := hn
  have HY := Lib.hid n1
  have HS := Lib.hid (And.intro hS hK)
  clear n1 hS hK h
  rcases n4 with rfl | ⟨rfl, rfl⟩ | ⟨rfl, rfl⟩
  · by_cases hv : v = 0
    · have HF : Hid (z.sgn g m (37 * t) = ⟨0, 0, y⟩) := Lib.hid (by rw [HSG.out, if_neg (fun h => h.2 hv)])
      subst hv
      go_wp2
      go_ret2
      rw [HF.out]
      exact ⟨c', rfl, HS.out.1, HS.out.2⟩
    · have HF : Hid (z.sgn g m (37 * t) = nrSgn (y.get1 g m (some (37 * t + 36))) v) := Lib.hid (by rw [HSG.out, if_pos ⟨rfl, hv⟩])
      have l3 : (v == 0) = false := by simp [hv]
      clear hv
      go_wp2_with fail
      refine (bget1_book HS.out.1 HG.out hij HY.out (show 37 * t + 36 < 592 by omega)).mono ?_
      rintro e w5 ⟨c5, rfl, hS5, hK5⟩
      have hbit := GS.get1_bit g m y (some (37 * t + 36))
      have herr := GS.get1_err g m HY.out.1 (some (37 * t + 36))
      have HS5 := Lib.hid (And.intro hS5 (HS.out.2.trans hK5))
      clear hS5 hK5
      generalize y.get1 g m (some (37 * t + 36)) = q at *
      obtain ⟨q1, q2, q3⟩ := q
      dsimp only at *
      rcases herr with rfl | rfl
      · rcases hbit with rfl | rfl
        · have HF2 : Hid (z.sgn g m (37 * t) = ⟨v, 0, q3⟩) := Lib.hid HF.out
          go_wp2
          go_ret2
          rw [HF2.out]
          exact ⟨c5, rfl, HS5.out.1, HS5.out.2⟩
        · have HF2 : Hid (z.sgn g m (37 * t) = ⟨-v, 0, q3⟩) := Lib.hid HF.out
          go_wp2
          go_ret2
          rw [HF2.out]
          exact ⟨c5, rfl, HS5.out.1, HS5.out.2⟩
      · have HF2 : Hid (z.sgn g m (37 * t) = ⟨0, 41, q3⟩) := Lib.hid HF.out
        go_wp2
        go_ret2
        rw [HF2.out]
        exact ⟨c5, rfl, HS5.out.1, HS5.out.2⟩
  · have HF : Hid (z.sgn g m (37 * t) = ⟨0, 41, y⟩) := Lib.hid (by rw [HSG.out, if_neg (fun h => h.2 rfl)])
    go_wp2
    go_ret2
    rw [HF.out]
    exact ⟨c', rfl, HS.out.1, HS.out.2⟩
  · have HF : Hid (z.sgn g m (37 * t) = ⟨0, 51, y⟩) := Lib.hid (by rw [HSG.out, if_neg (fun h => h.2 rfl)])
    go_wp2
    go_ret2
    rw [HF.out]
    exact ⟨c', rfl, HS.out.1, HS.out.2⟩
theorem bGetO_no (b x : Nat) (t n : Int) (w : World) (h : topB t = false ∨ n < 1 ∨ 16 < n) :
    Calls Try.prog 54 #[.pointer (some ⟨b, 0, none⟩), .pointer (some ⟨x, 0, none⟩), .int .i64 t, .int .i64 n] w fun e w' => e = .returned (.tuple #[.int .i64 0, .int .i64 1]) ∧ w = w' := by
  cases ht : topB t
  · go_enter Try.func54, Try.ntmps54
    go_wp2_with (go_at_call 59; refine (topic_no _ _ _ ht).mono ?_; rintro e w' ⟨rfl, rfl⟩)
    go_ret2
    exact ⟨rfl, rfl⟩
  · obtain ⟨u, rfl, hn⟩ := topB_yes ht
    have h' : n < 1 ∨ (¬ n < 1 ∧ 16 < n) := by
      rcases h with h | h
      · rw [ht] at h; cases h
      · omega
    clear h ht
    rcases h' with h1 | ⟨h1, h2⟩
    all_goals
      go_enter Try.func54, Try.ntmps54
      go_wp2_with (go_at_call 59; refine (topic_yes _ _ _ hn).mono ?_; rintro e w' ⟨rfl, rfl⟩)
      go_ret2
      exact ⟨rfl, rfl⟩
set_option maxHeartbeats 1000000 in
theorem bGetO_yes (t n : Nat) (h : SG w col i x m g j b z) (hg : Byt g) (hij : i ≠ j) (hok : z.ok m) (ht : t < 16) (h1 : 1 ≤ n) (h16 : n ≤ 16) :
    Calls Try.prog 54 #[.pointer (some ⟨b, 0, none⟩), .pointer (some ⟨x, 0, none⟩), .int .i64 t, .int .i64 n] w (NumR w col i x m g j b (z.one g m (37 * t) n)) := by
  have l1 : ¬ (n : Int) < 1 := by omega
  have l2 : ¬ (16 : Int) < n := by omega
  have hb4 := bitLen_le (n := 4) (x := n - 1) (by omega) (by omega)
  have HLEN := Try.bits_Len ((n : Int) - 1)
  rw [show ((n : Int) - 1).toNat = n - 1 by omega] at HLEN
  have HLEN := Lib.hid HLEN
  have hlow := GS.low_ok hg hok (37 * t) (Lib.bitLen (n - 1))
  have HF : Hid (z.one g m (37 * t) n = nrOne (z.low g m (37 * t) (Lib.bitLen (n - 1))) n) := Lib.hid rfl
  go_enter Try.func54, Try.ntmps54
  go_wp2_with fail
  refine (topic_yes _ _ _ ht).mono ?_
  rintro e w' ⟨rfl, rfl⟩
  go_wp2_with fail
  refine (HLEN.out _ (by omega) (by omega)).mono ?_
  rintro e w' ⟨rfl, hww⟩
  subst hww
  go_wp2_with fail
  refine (getLow_any (37 * t) _ h hg hij hok (by omega) (by omega)).mono ?_
  rintro e w5 ⟨c', rfl, hS, hK⟩
  have HS := Lib.hid (And.intro hS hK)
  clear hS hK h
  obtain ⟨lo1, lo2, lo3⟩ := hlow
  clear lo1
  have hp4 : 2 ^ Lib.bitLen (n - 1) ≤ 2 ^ 4 := Nat.pow_le_pow_right (by omega) hb4
  generalize z.low g m (37 * t) (Lib.bitLen (n - 1)) = r at *
  obtain ⟨r1, a, r3⟩ := r
  dsimp only at *
  have la : a < 16 := by omega
  clear lo2 hp4
  rcases lo3 with rfl | rfl
  · by_cases hna : n ≤ a
    · have HF2 : Hid (z.one g m (37 * t) n = ⟨0, 51, r3⟩) := Lib.hid (by rw [HF.out]; unfold nrOne; rw [if_pos rfl, if_pos hna])
      have l5 : (n : Int) ≤ a := by omega
      go_wp2
      go_ret2
      rw [HF2.out]
      exact ⟨c', rfl, HS.out.1, HS.out.2⟩
    · have HF2 : Hid (z.one g m (37 * t) n = ⟨(a : Nat), 0, r3⟩) := Lib.hid (by rw [HF.out]; unfold nrOne; rw [if_pos rfl, if_neg hna])
      have l5 : ¬ (n : Int) ≤ a := by omega
      go_wp2
      go_ret2
      rw [HF2.out]
      exact ⟨c', rfl, HS.out.1, HS.out.2⟩
  · have HF2 : Hid (z.one g m (37 * t) n = ⟨0, 41, r3⟩) := Lib.hid HF.out
    go_wp2
    go_ret2
    rw [HF2.out]
    exact ⟨c', rfl, HS.out.1, HS.out.2⟩
end
end Go.Proofs.Ytmnoddmecghjdaa
