/- The document's coder (ref04): Right, Next, New, add. -/
import Derived.Test.YtfooglenhepogaaAl4
namespace Go.Proofs.Ytfooglenhepogaa
open Go.RowKit Go.Kin
set_option linter.unusedVariables false
theorem info_int : (Try.prog.info? 3).map (fun i => (i.zero, i.size, i.bytes)) = some (some (.int .i64 0), 1, 8) := by kernel_rfl
theorem parts_int : ∃ i, Try.prog.info? 3 = some i ∧ i.zero = some (.int .i64 0) ∧ i.size = 1 ∧ i.bytes = 8 := info_parts info_int
theorem rright_any (c : Int) (w : World) : Calls Try.prog 45 #[.int .i64 c] w fun e w' => e = .returned (.bool (chB c)) ∧ w = w' := by
  have H : Hid (chB c = (decide (31 ≤ c) && decide (c ≤ 2017))) := Lib.hid (by unfold chB; by_cases h1 : 31 ≤ c <;> by_cases h2 : c ≤ 2017 <;> simp [h1, h2])
  by_cases h : 31 ≤ c
  · have HE : Hid (decide (31 ≤ c) = true) := Lib.hid (by simp [h])
    go_enter Try.func45, Try.ntmps45
    go_wp2
    go_ret
    exact ⟨ret_bool (by rw [H.out, HE.out, Bool.true_and]), rfl⟩
  · have HE : Hid (decide (31 ≤ c) = false) := Lib.hid (by simp [h])
    go_enter Try.func45, Try.ntmps45
    go_wp2
    go_ret
    exact ⟨ret_bool (by rw [H.out, HE.out, Bool.false_and]), rfl⟩
set_option maxHeartbeats 1000000 in
theorem rnext_any (c bit : Int) (w : World) (hc : 0 ≤ c ∧ c ≤ 65535) : Calls Try.prog 20 #[.int .i64 c, .int .i64 bit] w fun e w' => e = .returned (.int .i64 (nextP c bit)) ∧ w = w' := by
  by_cases h : bit = 0
  · have H := Lib.hid (show nextP c bit = min (max c 31) 2017 + (2048 - min (max c 31) 2017) / 32 by unfold nextP; rw [if_pos h])
    have hb : (bit == 0) = true := by simp [h]
    have z : (2048 - min (max c 31) 2017).tdiv 32 = (2048 - min (max c 31) 2017) / 32 := Int.tdiv_eq_ediv_of_nonneg (by omega)
    clear h
    go_enter Try.func20, Try.ntmps20
    go_wp2
    go_ret
    exact ⟨ret_int (by rw [H.out]), rfl⟩
  · have H := Lib.hid (show nextP c bit = min (max c 31) 2017 - min (max c 31) 2017 / 32 by unfold nextP; rw [if_neg h])
    have hb : (bit == 0) = false := by simp [h]
    have z : (min (max c 31) 2017).tdiv 32 = (min (max c 31) 2017) / 32 := Int.tdiv_eq_ediv_of_nonneg (by omega)
    clear h
    go_enter Try.func20, Try.ntmps20
    go_wp2
    go_ret
    exact ⟨ret_int (by rw [H.out]), rfl⟩
set_option maxHeartbeats 1000000 in
theorem radd_any (p k L c V bd : Nat) (R : Value) (w : World) (hB : Box w p #[.slice (some ⟨k, 0, none⟩) L c, R]) (hR : OwnS w 0 3 (some ⟨k, 0, none⟩) L c (in64 (dig V L))) (hpk : p ≠ k) (hL : L ≤ 1000000) (hb : bd ≤ 4294967295) :
    Calls Try.prog 46 #[.pointer (some ⟨p, 0, none⟩), .int .i64 bd] w fun e w' => e = .returned (.tuple #[]) ∧ OwnS w' 0 3 (some ⟨k, 0, none⟩) L c (in64 (dig (V + bd) L)) ∧ Oth k w w' := by
  have kc := Box.cells hB
  have HK : Hid (Kn w [.own 0 3 (some ⟨k, 0, none⟩) L c (in64 (digA V bd L 0)), .box p #[.slice (some ⟨k, 0, none⟩) L c, R]]) := Lib.hid ⟨hR.congr (fun i hi => by simp only [in64]; rw [digA_zero hi]), hB, trivial⟩
  go_enter Try.func46, Try.ntmps46
  go_wp2_with fail
  clear kc hB hR
  go_loopw [4, 5] (fun ca i wr => ∃ j : Nat, j ≤ L ∧ i = .int .i64 ((L : Int) - 1 - j) ∧ ca = .int .i64 (car V bd j) ∧ Oth k w wr ∧ Kn wr [.own 0 3 (some ⟨k, 0, none⟩) L c (in64 (digA V bd L j)), .box p #[.slice (some ⟨k, 0, none⟩) L c, R]]) (fun _ i _ => (intOf i + 1).toNat)
  case atStart => exact ⟨0, by omega, congrArg (Value.int .i64) (by omega), by rw [car_zero], Oth.refl _ _, HK.out⟩
  case round =>
    obtain ⟨j, hj, rfl, rfl, ho, K⟩ := hrel
    clear HK
    have HO := Lib.hid ho
    clear ho
    have kc := Box.cells K.2.1
    have bc := car_le V bd j
    by_cases hlt : j < L
    · by_cases hz : car V bd j = 0
      · have hz' : ¬ (0 : Int) < (car V bd j : Int) := by omega
        have HR := Lib.hid (OwnS.congr K.1 (fun i hi => show in64 (digA V bd L j) i = in64 (dig (V + bd) L) i by simp only [in64]; rw [digA_stop hz hi]))
        have hge : 0 ≤ (L : Int) - 1 - j := by omega
        clear K hz
        generalize car V bd j = cj at *
        go_wp2
        go_end0
        exact ⟨rfl, HR.out, HO.out⟩
      · obtain ⟨e1, e2⟩ := car_step V bd j
        have HE1 := Lib.hid e1
        have HST := Lib.hid (fun i (hi : i < L) => digA_step (V := V) (b := bd) hlt hi)
        have bv : V / 256 ^ j % 256 < 256 := Nat.mod_lt _ (by omega)
        have cr := Row.cell (OwnS.row0 K.1 (by omega)) (i := L - 1 - j) (by omega)
        have fr := Row.frozen (OwnS.row0 K.1 (by omega)) (L - 1 - j)
        have hcell : in64 (digA V bd L j) (L - 1 - j) = .int .i64 ((V / 256 ^ j % 256 : Nat) : Int) := by
          simp only [in64]
          unfold digA dig
          rw [if_neg (by omega), show L - 1 - (L - 1 - j) = j by omega]
        rw [hcell] at cr
        clear e1 e2 hcell
        generalize V / 256 ^ j % 256 = dv at *
        generalize car V bd j = cj at *
        have hz' : (0 : Int) < (cj : Int) := by omega
        have hge : 0 ≤ (L : Int) - 1 - j := by omega
        have z1 : ((L : Int) - 1 - j).toNat = L - 1 - j := by omega
        have zr1 : (cj : Int).tmod 256 = (cj : Int) % 256 := Int.tmod_eq_emod_of_nonneg (by omega)
        have zd1 : (cj : Int).tdiv 256 = (cj : Int) / 256 := Int.tdiv_eq_ediv_of_nonneg (by omega)
        have zr2 : ((dv : Int) + (cj : Int) % 256).tmod 256 = (((cj + dv) % 256 : Nat) : Int) := by rw [Int.tmod_eq_emod_of_nonneg (by omega)]; omega
        have zd2 : ((dv : Int) + (cj : Int) % 256).tdiv 256 = ((dv : Int) + (cj : Int) % 256) / 256 := Int.tdiv_eq_ediv_of_nonneg (by omega)
        have hli : (L : Int) - 1 - j < L := by omega
        have HK := Lib.hid K
        clear K hz
        go_wp2
        refine ⟨⟨j + 1, hlt, congrArg (Value.int .i64) (by omega), congrArg (Value.int .i64) (by rw [← HE1.out]; omega), HO.out.set _ _, ⟨(OwnS.set HK.out.1 (L - 1 - j) _).congr (fun i hi => ?_), Box.far HK.out.2.1 hpk _, trivial⟩⟩, by simp [intOf]; omega⟩
        simp only [in64]
        rw [← HST.out i hi]
        by_cases e : i = L - 1 - j
        · rw [if_pos e, if_pos e]; rfl
        · rw [if_neg e, if_neg e]
    · obtain rfl : j = L := by omega
      have hge : ¬ 0 ≤ (j : Int) - 1 - j := by omega
      have HR := Lib.hid (OwnS.congr K.1 (fun i hi => show in64 (digA V bd j j) i = in64 (dig (V + bd) j) i by simp only [in64]; rw [digA_all]))
      clear K
      go_wp2
      go_end0
      exact ⟨rfl, HR.out, HO.out⟩

/-- The document's encoder in memory. -/
structure EncR (w : World) (col : Nat → Nat) (i p V L R : Nat) (A : Option Addr) (c : Nat) : Prop where
  box : Box w p #[.slice A L c, .int .i64 R]
  own : OwnS w 0 3 A L c (in64 (dig V L))
  hp : col p = i
  hA : ∀ k o, A = some ⟨k, o, none⟩ → col k = i ∧ k ≠ p
theorem EncR.L0 {w : World} {col : Nat → Nat} {i p V L R c : Nat} {A : Option Addr} (h : EncR w col i p V L R A c) (hL : 1 ≤ L) : ∃ k, A = some ⟨k, 0, none⟩ ∧ k ≠ p ∧ col k = i ∧ Row w k L (in64 (dig V L)) ∧ L ≤ c := by
  obtain ⟨k, rfl, _, hr, hc⟩ := h.own.row (by omega)
  exact ⟨k, rfl, (h.hA k 0 rfl).2, (h.hA k 0 rfl).1, hr, hc⟩
theorem own_of_four (w : World) (x : Value) (e : TypeId) (f : Nat → Value) (hf : ∀ i, i < 4 → f i = x) : OwnS (w.alloc (.cells #[x, x, x, x] e)) 0 e (some ⟨w.heap.size, 0, none⟩) 4 4 f := by
  refine ⟨by simp, .inr ⟨w.heap.size, 4, #[x, x, x, x], rfl, by omega, Go.Deep.blk_alloc_new _ _, by omega, by unfold maxLen; omega, by simp, ?_⟩⟩
  have e0 := hf 0 (by omega)
  have e1 := hf 1 (by omega)
  have e2 := hf 2 (by omega)
  have e3 := hf 3 (by omega)
  simp [List.range_succ, e0, e1, e2, e3]
set_option maxHeartbeats 1000000 in
theorem rnew_any (w : World) : Calls Try.prog 15 #[] w fun e w' => ∃ p A c, e = .returned (.pointer (some ⟨p, 0, none⟩)) ∧ (∀ col i, EncR w' (recol col w i) i p 0 4 4294967295 A c) ∧ Below w.heap.size w w' := by
  go_enter Try.func15, Try.ntmps15
  go_wp2
  go_ret
  have hO := own_of_four w (.int .i64 0) 3 (in64 (dig 0 4)) (fun i _ => by simp only [in64]; rw [dig_none])
  have hB := Box.newAt (w.alloc (.cells #[.int .i64 0, .int .i64 0, .int .i64 0, .int .i64 0] 3)) 68 #[.slice (some ⟨w.heap.size, 0, none⟩) 4 4, .int .i64 4294967295] (b := w.heap.size + 1) (by simp)
  refine ⟨_, _, _, rfl, fun col i => ⟨hB, OwnS.alloc hO _, recol_ge (by simp), fun k o e => ?_⟩, ?_⟩
  · injection e with e
    injection e with e
    subst e
    exact ⟨recol_ge (Nat.le_refl _), by simp⟩
  · exact ((Below.refl _ w).alloc (Nat.le_refl _) _).alloc (by simp) _
end Go.Proofs.Ytfooglenhepogaa
