/- Walks of package coder: add, New. -/
import Derived.Test.YtmnoddmecghjdaaCo0M
import Derived.Deep.DeepCutAuto
namespace Go.Kin
theorem car_le (V b j : Nat) : car V b j ≤ b + 1 := by
  have hp : 0 < 256 ^ j := Nat.pow_pos (by omega)
  have h1 : V % 256 ^ j < 256 ^ j := Nat.mod_lt _ hp
  unfold car
  have h2 : V % 256 ^ j + b ≤ 256 ^ j * 1 + b := by omega
  refine Nat.le_trans (Nat.div_le_div_right h2) ?_
  rw [Nat.mul_add_div hp]
  have := Nat.div_le_self b (256 ^ j)
  omega
theorem OwnS.set {w : World} {base k n c : Nat} {e : TypeId} {f : Nat → Value} (h : OwnS w base e (some ⟨k, 0, none⟩) n c f) (i : Nat) (v : Value) : OwnS (w.setCell ⟨k, i, none⟩ v) base e (some ⟨k, 0, none⟩) n c (fun j => if j = i then v else f j) := by
  obtain ⟨_, h⟩ := h
  rcases h with ⟨h, _⟩ | ⟨g, cap, cur, hv, hb, hh, hnc, hcm, hsz, hcur⟩
  · simp at h
  · simp only [Value.slice.injEq, Option.some.injEq, Addr.mk.injEq] at hv
    obtain ⟨⟨rfl, _⟩, _, rfl⟩ := hv
    refine ⟨by simp, .inr ⟨k, c, cur.setIfInBounds i v, rfl, hb, by simp [World.setCell, Array.getElem?_modify, hh], hnc, hcm, by simpa using hsz, ?_⟩⟩
    apply List.ext_getElem?
    intro j
    rcases Nat.lt_or_ge j n with hj | hj
    · have h1 : (cur.toList.take (n * 1))[j]? = ((List.range n).map f)[j]? := by rw [hcur]
      rw [List.getElem?_take_of_lt (by omega), Array.getElem?_toList, List.getElem?_map, List.getElem?_range hj] at h1
      rw [List.getElem?_take_of_lt (by omega), Array.getElem?_toList, List.getElem?_map, List.getElem?_range hj, Array.getElem?_setIfInBounds]
      by_cases e : i = j
      · subst e
        simp [show i < cur.size by omega]
      · rw [if_neg e, h1]
        simp [show ¬ j = i from fun h => e h.symm]
    · rw [List.getElem?_eq_none (by simp; omega), List.getElem?_eq_none (by simp; omega)]
theorem OwnS.row0 {w : World} {base k n c : Nat} {e : TypeId} {f : Nat → Value} (h : OwnS w base e (some ⟨k, 0, none⟩) n c f) (hn : 0 < n) : Row w k n f := by
  obtain ⟨k', e', _, hr, _⟩ := h.row hn
  injection e' with e'
  injection e' with e'
  subst e'
  exact hr
theorem OwnS.made (w : World) (z : Value) (n base : Nat) (t : TypeId) (hb : base ≤ w.heap.size) (hn : n ≤ maxLen) : OwnS (w.alloc (.cells (madeCells #[z] n) t)) base t (some ⟨w.heap.size, 0, none⟩) n n (fun _ => z) := by
  obtain ⟨c, h1, h2, h3⟩ := World.rowIs_made w z n t
  refine ⟨by simp, .inr ⟨w.heap.size, n, c, rfl, hb, h1, Nat.le_refl _, hn, by omega, ?_⟩⟩
  apply List.ext_getElem?
  intro i
  rcases Nat.lt_or_ge i n with hi | hi
  · rw [List.getElem?_take_of_lt (by omega), Array.getElem?_toList, h3 i hi, List.getElem?_map, List.getElem?_range hi]
    rfl
  · rw [List.getElem?_eq_none (by simp; omega), List.getElem?_eq_none (by simp; omega)]
end Go.Kin
namespace Go.Proofs.Ytmnoddmecghjdaa
open Go.RowKit Go.Kin
set_option linter.unusedVariables false

set_option maxHeartbeats 1000000 in
theorem add_any (p k L c V bd : Nat) (R : Value) (w : World) (hB : Box w p #[.slice (some ⟨k, 0, none⟩) L c, R]) (hR : OwnS w 0 5 (some ⟨k, 0, none⟩) L c (by8 (dig V L))) (hpk : p ≠ k) (hL : L ≤ 1000000) (hb : bd ≤ 4294967295) :
    Calls Try.prog 100 #[.pointer (some ⟨p, 0, none⟩), .int .u32 bd] w fun e w' => e = .returned (.tuple #[]) ∧ OwnS w' 0 5 (some ⟨k, 0, none⟩) L c (by8 (dig (V + bd) L)) ∧ Oth k w w' := by
  have kc := Box.cells hB
  have HK : Hid (Kn w [.own 0 5 (some ⟨k, 0, none⟩) L c (by8 (digA V bd L 0)), .box p #[.slice (some ⟨k, 0, none⟩) L c, R]]) := Lib.hid ⟨hR.congr (fun i hi => by simp only [by8]; rw [digA_zero hi]), hB, trivial⟩
  go_enter Try.func100, Try.ntmps100
  go_wp2_with fail
  clear kc hB hR
  go_loopw [4, 5] (fun ca i wr => ∃ j : Nat, j ≤ L ∧ i = .int .i64 ((L : Int) - 1 - j) ∧ ca = .int .u64 (car V bd j) ∧ Oth k w wr ∧ Kn wr [.own 0 5 (some ⟨k, 0, none⟩) L c (by8 (digA V bd L j)), .box p #[.slice (some ⟨k, 0, none⟩) L c, R]]) (fun _ i _ => (intOf i + 1).toNat)
  case atStart => exact ⟨0, by omega, congrArg (Value.int .i64) (by omega), by rw [car_zero], Oth.refl _ _, HK.out⟩
  case round =>
    obtain ⟨j, hj, rfl, rfl, ho, K⟩ := hrel
    clear HK
    have HO := Lib.hid ho
    clear ho
    have kc := Box.cells K.2.1
    have bc := car_le V bd j
    by_cases hlt : j < L
    · by_cases hz : car V bd j = 0
      · have hz' : ¬ (0 : Int) < (car V bd j : Int) := by omega
        have HR := Lib.hid (OwnS.congr K.1 (fun i hi => show by8 (digA V bd L j) i = by8 (dig (V + bd) L) i by simp only [by8]; rw [digA_stop hz hi]))
        have hge : 0 ≤ (L : Int) - 1 - j := by omega
        clear K hz
        generalize car V bd j = cj at *
        go_wp2
        go_end0
        exact ⟨rfl, HR.out, HO.out⟩
      · obtain ⟨e1, e2⟩ := car_step V bd j
        have HE1 := Lib.hid e1
        have HST := Lib.hid (fun i (hi : i < L) => digA_step (V := V) (b := bd) hlt hi)
        have bv : V / 256 ^ j % 256 < 256 := Nat.mod_lt _ (by omega)
        have cr := Row.cell (OwnS.row0 K.1 (by omega)) (i := L - 1 - j) (by omega)
        have fr := Row.frozen (OwnS.row0 K.1 (by omega)) (L - 1 - j)
        have hcell : by8 (digA V bd L j) (L - 1 - j) = .int .u8 ((V / 256 ^ j % 256 : Nat) : Int) := by
          simp only [by8]
          unfold digA dig
          rw [if_neg (by omega), show L - 1 - (L - 1 - j) = j by omega]
        rw [hcell] at cr
        clear e1 e2 hcell
        generalize V / 256 ^ j % 256 = dv at *
        generalize car V bd j = cj at *
        have hz' : (0 : Int) < (cj : Int) := by omega
        have hge : 0 ≤ (L : Int) - 1 - j := by omega
        have z1 : ((L : Int) - 1 - j).toNat = L - 1 - j := by omega
        have z2 : IntKind.u8.wrap ((cj : Int) + dv) = (((cj + dv) % 256 : Nat) : Int) := by rw [IntKind.wrap_u8]; omega
        have hli : (L : Int) - 1 - j < L := by omega
        have HK := Lib.hid K
        clear K hz
        go_wp2
        refine ⟨⟨j + 1, hlt, congrArg (Value.int .i64) (by omega), congrArg (Value.int .u64) (by rw [← HE1.out]; omega), HO.out.set _ _, ⟨(OwnS.set HK.out.1 (L - 1 - j) _).congr (fun i hi => ?_), Box.far HK.out.2.1 hpk _, trivial⟩⟩, by simp [intOf]; omega⟩
        simp only [by8]
        rw [← HST.out i hi]
        by_cases e : i = L - 1 - j
        · rw [if_pos e, if_pos e]; rfl
        · rw [if_neg e, if_neg e]
    · obtain rfl : j = L := by omega
      have hge : ¬ 0 ≤ (j : Int) - 1 - j := by omega
      have HR := Lib.hid (OwnS.congr K.1 (fun i hi => show by8 (digA V bd j j) i = by8 (dig (V + bd) j) i by simp only [by8]; rw [digA_all]))
      clear K
      go_wp2
      go_end0
      exact ⟨rfl, HR.out, HO.out⟩

/-- The encoder's two blocks: the struct and the code, of one colour. -/
structure Enc (w : World) (col : Nat → Nat) (i p V L R : Nat) (A : Option Addr) (c : Nat) : Prop where
  box : Box w p #[.slice A L c, .int .u32 R]
  own : OwnS w 0 5 A L c (by8 (dig V L))
  hp : col p = i
  hA : ∀ k o, A = some ⟨k, o, none⟩ → col k = i ∧ k ≠ p
theorem dig_none (L i : Nat) : dig 0 L i = 0 := by unfold dig; rw [Nat.zero_div]; rfl
set_option maxHeartbeats 1000000 in
/-- begin, when there is no code. -/
theorem begin_new (p : Nat) (w : World) (hB : Box w p #[.slice none 0 0, .int .u32 0]) :
    Calls Try.prog 47 #[.pointer (some ⟨p, 0, none⟩)] w fun e w' => e = .returned (.tuple #[]) ∧ Box w' p #[.slice (some ⟨w.heap.size, 0, none⟩) 4 4, .int .u32 4294967295] ∧ OwnS w' 0 5 (some ⟨w.heap.size, 0, none⟩) 4 4 (by8 (dig 0 4)) ∧ Oth p w w' := by
  have kc := Box.cells hB
  have kl := Box.lt hB
  have kf := Box.frees hB
  have hmk : ∀ w, (Instr.makeSlice 37 (.int .i64 4) (.int .i64 4)).run Try.prog w = .ok (.slice (some ⟨w.heap.size, 0, none⟩) 4 4) (w.alloc (.cells (madeCells #[.int .u8 0] 4) 5)) := make_u8 4 (by omega)
  have HO : Hid (OwnS ((w.setCell ⟨p, 0, none⟩ (.slice (some ⟨w.heap.size, 0, none⟩) 4 4)).alloc (.cells (madeCells #[.int .u8 0] 4) 5)) 0 5 (some ⟨w.heap.size, 0, none⟩) 4 4 (fun _ => .int .u8 0)) := Lib.hid (by
    have := OwnS.made (w.setCell ⟨p, 0, none⟩ (.slice (some ⟨w.heap.size, 0, none⟩) 4 4)) (.int .u8 0) 4 0 5 (by omega) (by unfold maxLen; omega)
    rw [size_set] at this
    exact this)
  have K1 : Hid (Box ((w.setCell ⟨p, 0, none⟩ (.slice (some ⟨w.heap.size, 0, none⟩) 4 4)).alloc (.cells (madeCells #[.int .u8 0] 4) 5)) p #[.slice (some ⟨w.heap.size, 0, none⟩) 4 4, .int .u32 0]) := Lib.hid ((hB.set 0 _).alloc _)
  clear hB
  go_enter Try.func47, Try.ntmps47
  go_upto_region 2 with (fail)
  clear kc kf
  have kc := Box.cells K1.out
  have kf := Box.frees K1.out
  generalize hw1 : ((w.setCell ⟨p, 0, none⟩ (.slice (some ⟨w.heap.size, 0, none⟩) 4 4)).alloc (.cells (madeCells #[.int .u8 0] 4) 5)) = w1 at *
  have HW1 := Lib.hid hw1
  clear hw1
  go_wp2
  go_end0
  refine ⟨rfl, K1.out.set 1 _, ?_, ?_⟩
  · refine OwnS.congr (OwnS.far HO.out (fun b o e => ?_) _) (fun i _ => by simp only [by8]; rw [dig_none])
    injection e with e; injection e with e; show b ≠ p; omega
  · rw [← HW1.out]
    exact (((Oth.refl p w).set 0 _).alloc _).set 1 _
set_option maxHeartbeats 1000000 in
theorem cnew_any (w : World) : Calls Try.prog 17 #[] w fun e w' => ∃ p A c, e = .returned (.pointer (some ⟨p, 0, none⟩)) ∧ (∀ col i, Enc w' (recol col w i) i p 0 4 4294967295 A c) ∧ Below w.heap.size w w' := by
  go_enter Try.func17, Try.ntmps17
  go_wp2_with fail
  have hB := Box.new w 87 #[.slice none 0 0, .int .u32 0]
  refine (begin_new w.heap.size _ hB).mono ?_
  rintro e w1 ⟨rfl, hB1, hO1, ho1⟩
  go_wp2
  go_ret
  refine ⟨w.heap.size, _, _, rfl, fun col i => ⟨hB1, hO1, recol_ge (Nat.le_refl _), fun k o e => ?_⟩, ?_⟩
  · injection e with e
    injection e with e
    subst e
    exact ⟨recol_ge (by simp), by simp⟩
  · exact ((Below.refl _ w).alloc (Nat.le_refl _) _).trans (ho1.below (Nat.le_refl _) (by simp))
end Go.Proofs.Ytmnoddmecghjdaa
/- Walks of package coder: Put. -/
namespace Go.Kin
/-- A code as a number, how many bytes it has, and the range. -/
structure St where
  V : Nat
  L : Nat
  R : Nat
/-- The range is one that needs no byte more. -/
def St.ok (s : St) : Prop := 16777216 ≤ s.R ∧ s.R ≤ 4294967295
def St.bd (s : St) (c : Nat) : Nat := s.R / 2048 * c
/-- Behind a bit, ahead of what makes the range great again. -/
def St.half (s : St) (c bit : Nat) : St := if bit = 0 then ⟨s.V, s.L, s.bd c⟩ else ⟨s.V + s.bd c, s.L, s.R - s.bd c⟩
def St.norm (s : St) : St := if s.R < 16777216 then ⟨s.V * 256, s.L + 1, s.R * 256⟩ else s
def St.put (s : St) (c bit : Nat) : St := (s.half c bit).norm
theorem St.bd_bd {s : St} {c : Nat} (h : s.ok) (h1 : 31 ≤ c) (h2 : c ≤ 2017) : 253952 ≤ s.bd c ∧ s.bd c + 253952 ≤ s.R := by
  obtain ⟨a, b⟩ := h
  unfold St.bd
  have e1 : 8192 ≤ s.R / 2048 := by omega
  have e2 : s.R / 2048 * 31 ≤ s.R / 2048 * c := Nat.mul_le_mul_left _ h1
  have e3 : s.R / 2048 * c ≤ s.R / 2048 * 2017 := Nat.mul_le_mul_left _ h2
  omega
theorem St.half_bd {s : St} {c bit : Nat} (h : s.ok) (h1 : 31 ≤ c) (h2 : c ≤ 2017) : 253952 ≤ (s.half c bit).R ∧ (s.half c bit).R ≤ 4294967295 ∧ (s.half c bit).L = s.L := by
  have := St.bd_bd h h1 h2
  obtain ⟨a, b⟩ := h
  unfold St.half
  split <;> (try dsimp only) <;> omega
theorem St.put_ok {s : St} {c bit : Nat} (h : s.ok) (h1 : 31 ≤ c) (h2 : c ≤ 2017) : (s.put c bit).ok ∧ (s.put c bit).L ≤ s.L + 1 ∧ s.L ≤ (s.put c bit).L := by
  have := St.half_bd (bit := bit) h h1 h2
  unfold St.put St.norm St.ok
  split <;> (try dsimp only) <;> omega
end Go.Kin
namespace Go.Proofs.Ytmnoddmecghjdaa
open Go.RowKit Go.Kin
set_option linter.unusedVariables false
theorem Enc.L0 {w : World} {col : Nat → Nat} {i p V L R c : Nat} {A : Option Addr} (h : Enc w col i p V L R A c) (hL : 1 ≤ L) : ∃ k, A = some ⟨k, 0, none⟩ ∧ k ≠ p ∧ col k = i ∧ Row w k L (by8 (dig V L)) ∧ L ≤ c := by
  obtain ⟨k, rfl, _, hr, hc⟩ := h.own.row (by omega)
  exact ⟨k, rfl, (h.hA k 0 rfl).2, (h.hA k 0 rfl).1, hr, hc⟩
set_option maxHeartbeats 1000000 in
/-- What cannot be put. -/
theorem put_arg (p : Nat) (c bit : Int) (w : World) (h : chB c = false ∨ (chB c = true ∧ ¬ bit = 0 ∧ ¬ bit = 1)) :
    Calls Try.prog 90 #[.pointer (some ⟨p, 0, none⟩), .int .u16 c, .int .i64 bit] w fun e w' => e = .returned (.int .i64 1) ∧ w = w' := by
  rcases h with h | ⟨h, h1, h2⟩
  · go_enter Try.func90, Try.ntmps90
    go_wp2_with (go_at_call 99; refine (cright_any _ _).mono ?_; rintro e w' ⟨rfl, rfl⟩; rw [h])
    go_ret
    exact ⟨rfl, rfl⟩
  · have b1 : (bit != 0) = true := by simp [h1]
    have b2 : (bit != 1) = true := by simp [h2]
    go_enter Try.func90, Try.ntmps90
    go_wp2_with (go_at_call 99; refine (cright_any _ _).mono ?_; rintro e w' ⟨rfl, rfl⟩; rw [h])
    go_ret
    exact ⟨rfl, rfl⟩
end Go.Proofs.Ytmnoddmecghjdaa
