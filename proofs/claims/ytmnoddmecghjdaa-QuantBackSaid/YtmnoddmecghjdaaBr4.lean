/- The document's book: a number put. -/
import Derived.Test.YtmnoddmecghjdaaBr3
import Derived.Test.YtmnoddmecghjdaaBr1M
import Derived.Test.YtmnoddmecghjdaaRg6
set_option linter.unusedVariables false
namespace Go.Kin
open Go.RowKit
/-- What is known is kept behind a call that only makes memory; what is new is of any colour. -/
theorem It.fresh {w w' : World} {col : Nat → Nat} {j : Nat} {x : It} (h : x.ok w ∧ x.hue col j) (hb : Below w.heap.size w w') (i : Nat) : x.ok w' ∧ x.hue (recol col w i) j := by
  refine ⟨It.ok.below h.1 hb, ?_⟩
  by_cases hj : j = i
  · subst hj
    obtain ⟨_, h2⟩ := h
    cases x with
    | box k cs => exact recol_i (fun _ => h2)
    | row k n f => exact recol_i (fun _ => h2)
    | rd A n f => exact h2.elim .inl (fun h => .inr fun k o e => recol_i (fun _ => h k o e))
    | own base e A n c f => exact fun k o e => recol_i (fun _ => h2 k o e)
    | since w0 => exact fun k hk => recol_i (fun _ => h2 k hk)
  · exact (It.upd h hj (Upd.of_below hb col i)).2
theorem Kp.fresh {w w' : World} (hb : Below w.heap.size w w') (col : Nat → Nat) (i : Nat) (I : List Nat) : Kp I w col w' (recol col w i) :=
  ⟨⟨hb.size, fun b hl _ => ⟨hb.block b hl, recol_lt hl⟩⟩, fun k x _ h => It.fresh h hb i⟩
end Go.Kin
namespace Go.Proofs.Ytmnoddmecghjdaa
open Go.RowKit Go.Kin
def PutRI (w : World) (col : Nat → Nat) (i x j b : Nat) (y : PS) (e : Ending) (w' : World) : Prop := ∃ col', e = .returned (.int .i64 0) ∧ SSR w' col' i x j b y ∧ Kp [i, j] w col w' col'
theorem topB_nat {t : Nat} (h : t < 16) : topB (t : Int) = true := by unfold topB; simp; omega
section
variable {w : World} {col : Nat → Nat} {i j x b t : Nat} {y : PS} {bit : Nat}
theorem rput1_pl (h : SSR w col i x j b y) (hij : i ≠ j) (hok : y.ok) (hL : y.s.L ≤ 900000) (ht : t < 16) (q a : Nat) (ha : a < 2 ^ q) (hbit : bit = 0 ∨ bit = 1) :
    Calls Try.prog 76 #[.pointer (some ⟨b, 0, none⟩), .pointer (some ⟨x, 0, none⟩), .int .i64 t, .int .i64 (plJ q a), .int .u8 bit] w (PutRR w col i x j b (y.put1 (loJ (37 * t) q a) bit)) := by
  unfold plJ loJ
  by_cases h4 : q < 4
  · rw [if_pos h4, if_pos h4]
    have hq : 2 ^ q ≤ 2 ^ 3 := Nat.pow_le_pow_right (by omega) (by omega)
    have := rput1_book h hij hok hL ht (k := 20 + (2 ^ q - 1 + a)) (by omega) hbit
    rw [show 37 * t + (20 + (2 ^ q - 1 + a)) = 37 * t + 20 + (2 ^ q - 1 + a) from (Nat.add_assoc _ _ _).symm] at this
    exact this
  · rw [if_neg h4, if_neg h4]
    exact rput1_even h hij hL hbit
theorem rPut_no (b x : Nat) (t v : Int) (w : World) (h : topB t = false ∨ v < 0 ∨ 1048576 < v) :
    Calls Try.prog 50 #[.pointer (some ⟨b, 0, none⟩), .pointer (some ⟨x, 0, none⟩), .int .i64 t, .int .i64 v] w fun e w' => e = .returned (.int .i64 1) ∧ w = w' := by
  cases ht : topB t
  · go_enter Try.func50, Try.ntmps50
    go_wp2_with (go_at_call 75; refine (rtopic_any _ _).mono ?_; rintro e w' ⟨rfl, rfl⟩; rw [ht])
    go_ret
    exact ⟨rfl, rfl⟩
  · have h' : v < 0 ∨ (¬ v < 0 ∧ 1048576 < v) := by
      rcases h with h | h | h
      · rw [ht] at h; cases h
      · exact .inl h
      · exact .inr ⟨by omega, h⟩
    clear h
    rcases h' with h1 | ⟨h1, h2⟩
    all_goals
      go_enter Try.func50, Try.ntmps50
      go_wp2_with (go_at_call 75; refine (rtopic_any _ _).mono ?_; rintro e w' ⟨rfl, rfl⟩; rw [ht])
      go_ret
      exact ⟨rfl, rfl⟩
set_option maxRecDepth 100000 in
set_option maxHeartbeats 8000000 in
theorem rPut_yes (t v : Nat) (h : SSR w col i x j b y) (hij : i ≠ j) (hok : y.ok) (hL : y.s.L ≤ 700000) (ht : t < 16) (hv : v ≤ 1048576) :
    Calls Try.prog 50 #[.pointer (some ⟨b, 0, none⟩), .pointer (some ⟨x, 0, none⟩), .int .i64 t, .int .i64 v] w (PutRI w col i x j b (y.num (37 * t) v)) := by
  have H := Lib.hid h
  have HT := Lib.hid (topB_nat ht)
  have HOK := Lib.hid (fun k => PS.ones_ok hok (37 * t) k)
  obtain ⟨n1, n2⟩ := num_len hv
  have HN : Hid (y.num (37 * t) v = (y.lens (37 * t) (Lib.bitLen (v + 1))).low (37 * t) (v + 1) (Lib.bitLen (v + 1) - 1) (Lib.bitLen (v + 1) - 1)) := Lib.hid rfl
  have HLN := Lib.hid (PS.lens_ok hok (37 * t) (Lib.bitLen (v + 1)))
  have HE : Hid (∀ q, 0 < q → q ≤ 2000000 → Lib.bitLen q = Lib.bitLen (q / 2) + 1) := Lib.hid (fun q a b => by have := Lib.bitLen_half q (by omega) (by omega); omega)
  have HZ : Hid (Lib.bitLen 0 = 0) := Lib.hid (by decide)
  generalize hNN : Lib.bitLen (v + 1) = N at *
  have HBN := Lib.hid hNN
  clear hNN
  have HLD : Hid (y.lens (37 * t) N = if N < 21 then (y.ones (37 * t) (N - 1)).put1 (some (37 * t + (N - 1))) 0 else y.ones (37 * t) (N - 1)) := Lib.hid rfl
  have HDG : Hid (∀ w, Calls Try.prog 77 #[.int .u64 ((v : Int) + 1), .int .i64 ((N - 1 : Nat) : Int)] w fun e w' =>
    ∃ b, e = .returned (.slice (some ⟨b, 0, none⟩) (N - 1) (N - 1)) ∧ w.heap.size ≤ b ∧ Row w' b (N - 1) (by8 fun i => (loB (v + 1) (N - 1) i : Nat)) ∧ Below w.heap.size w w') := Lib.hid (fun w => rdigits_any (v + 1) (N - 1) w (by omega) (by omega))
  clear h hok
  have hz1 : (N : Int) - 1 = ((N - 1 : Nat) : Int) := by omega
  have l1 : ¬ (v : Int) < 0 := by omega
  have l2 : ¬ (1048576 : Int) < v := by omega
  have zv : IntKind.i64.wrap ((v : Int) + 1) = (v : Int) + 1 := by rw [IntKind.wrap_i64]; omega
  have zu : IntKind.u64.wrap ((v : Int) + 1) = (v : Int) + 1 := by rw [IntKind.wrap_u64]; omega
  go_enter Try.func50, Try.ntmps50
  go_wp2_with fail
  refine (rtopic_any _ _).mono ?_
  rintro e w' ⟨rfl, hww⟩
  subst hww
  rw [HT.out]
  go_wp2_with fail
  go_loopw [10, 11] (fun nv kv wr => ∃ c q : Nat, nv = .int .i64 c ∧ kv = .int .i64 q ∧ q ≤ 2000000 ∧ c + Lib.bitLen q = N ∧ wr = w) (fun _ kv _ => (intOf kv).toNat)
  case atStart => exact ⟨0, v + 1, rfl, by go_num, by omega, by have := HBN.out; omega, by trivial⟩
  case round =>
    obtain ⟨c, q, rfl, rfl, hq, hc, rfl⟩ := hrel
    by_cases h0 : 0 < q
    · have l3 : (0 : Int) < q := by omega
      have hh := HE.out q h0 hq
      have HC : Hid (c + 1 + Lib.bitLen (q / 2) = N) := Lib.hid (by omega)
      clear hh hc
      have hcb : c ≤ N := by have := HC.out; omega
      have zd : (q : Int).tdiv 2 = (q : Int) / 2 := Int.tdiv_eq_ediv_of_nonneg (by omega)
      go_wp2
      go_roundw
      case rel => exact ⟨c + 1, q / 2, by go_num, by go_num, by omega, HC.out, by trivial⟩
      case measure => simp [intOf]; omega
    · have hcN : c = N := by
        have e : q = 0 := by omega
        rw [e] at hc
        have := HZ.out
        omega
      have l0 : ¬ (0 : Int) < (q : Int) := by omega
      clear hc HBN HE HZ
      subst hcN
      obtain ⟨w0, rfl⟩ : ∃ w0 : World, w0 = wr := ⟨_, rfl⟩
      go_wp2_with fail
      go_loopw [12] (fun qv w2 => ∃ (k : Nat) (col' : Nat → Nat), k ≤ c - 1 ∧ qv = .int .i64 k ∧ SSR w2 col' i x j b (y.ones (37 * t) k) ∧ Kp [i, j] w0 col w2 col') (fun qv _ => c - 1 - (intOf qv).toNat)
      case atStart => exact ⟨0, col, by omega, rfl, H.out, Kp.refl _ _ _⟩
      case round =>
        obtain ⟨k, col', hk, rfl, hS, hK⟩ := hrel
        obtain ⟨ok1, ok2, ok3⟩ := HOK.out k
        have HS := Lib.hid (And.intro hS hK)
        clear hS hK
        by_cases hlt : k < c - 1
        · have l3 : (k : Int) < ((c - 1 : Nat) : Int) := by omega
          go_wp2_with fail
          refine (rput1_book (bit := 1) HS.out.1 hij ok1 (by omega) ht (k := k) (by omega) (.inr rfl)).mono ?_
          rintro e w5 ⟨c5, rfl, hS5, hK5⟩
          have HS5 := Lib.hid (And.intro hS5 (HS.out.2.trans hK5))
          clear hS5 hK5
          go_wp2
          go_roundw
          case rel => exact ⟨k + 1, c5, by omega, by go_num, HS5.out.1, HS5.out.2⟩
          case measure => simp [intOf]; omega
        · obtain rfl : k = c - 1 := by omega
          have HO := Lib.hid ok1
          clear ok1
          have HLO : Hid (∀ k, ((y.lens (37 * t) c).low (37 * t) (v + 1) (c - 1) k).ok ∧ (k ≤ c - 1 → ((y.lens (37 * t) c).low (37 * t) (v + 1) (c - 1) k).s.L ≤ 800000)) := Lib.hid (fun k => by
            obtain ⟨b1, b2, b3⟩ := HLN.out
            obtain ⟨a1, a2, a3⟩ := PS.low_ok b1 (37 * t) (v + 1) (c - 1) k
            exact ⟨a1, fun _ => by omega⟩)
          by_cases h21 : c < 21
          · have l4 : (c : Int) < 21 := by omega
            go_wp2_with fail
            refine (rput1_book (bit := 0) HS.out.1 hij HO.out (by omega) ht (k := c - 1) (by omega) (.inl rfl)).mono ?_
            rintro e w5 ⟨c5, rfl, hS5, hK5⟩
            have HW : Hid (SSR w5 c5 i x j b (y.lens (37 * t) c) ∧ Kp [i, j] w0 col w5 c5) := Lib.hid ⟨by rw [HLD.out, if_pos h21]; exact hS5, HS.out.2.trans hK5⟩
            clear hS5 hK5 HS
            go_wp2_with fail
            refine (HDG.out _).mono ?_
            rintro e w6 ⟨l, rfl, hl, hRow, hb⟩
            have hkp := Kp.fresh hb c5 (i + j + 1) []
            have HV := Lib.hid (And.intro (SSR.kp HW.out.1 hkp (by simp) (by simp)) (And.intro (HW.out.2.trans (hkp.mono (by simp))) (show (It.row l (c - 1) (by8 fun i => (loB (v + 1) (c - 1) i : Nat))).ok w6 ∧ (It.row l (c - 1) (by8 fun i => (loB (v + 1) (c - 1) i : Nat))).hue (recol c5 _ (i + j + 1)) (i + j + 1) from ⟨hRow, recol_ge hl⟩)))
            generalize recol c5 _ (i + j + 1) = c6 at *
            clear hl hRow hb hkp HW
            go_wp2_with fail
            go_loopw [14] (fun qv w2 => ∃ (k : Nat) (col' : Nat → Nat), k ≤ c - 1 ∧ qv = .int .i64 k ∧ SSR w2 col' i x j b ((y.lens (37 * t) c).low (37 * t) (v + 1) (c - 1) k) ∧ Kp [i, j] w0 col w2 col' ∧ ((It.row l (c - 1) (by8 fun i => (loB (v + 1) (c - 1) i : Nat))).ok w2 ∧ (It.row l (c - 1) (by8 fun i => (loB (v + 1) (c - 1) i : Nat))).hue col' (i + j + 1))) (fun qv _ => c - 1 - (intOf qv).toNat)
            case atStart => exact ⟨0, c6, by omega, rfl, HV.out.1, HV.out.2.1, HV.out.2.2⟩
            case round =>
              obtain ⟨k, col2, hk, rfl, hS, hK, hRw⟩ := hrel
              clear HV
              obtain ⟨lo1, lo2⟩ := HLO.out k
              replace lo2 := lo2 hk
              by_cases hlt : k < c - 1
              · have l5 : (k : Int) < ((c - 1 : Nat) : Int) := by omega
                have l6 : (k : Int) ≤ ((c - 1 : Nat) : Int) := by omega
                have hd := Kp.below (below_drew wr) [] col2
                have HS6 := Lib.hid (And.intro (SSR.kp hS hd (by simp) (by simp)) (And.intro (hK.trans (hd.mono (by simp))) (hd.2 _ _ (by simp) hRw)))
                have hcell := Row.cell HS6.out.2.2.1 hlt
                have HNM := Lib.hid (rnumber_any l 0 k (c - 1) (v + 1) (c - 1) wr.drew (fun _ => ⟨l, 0, rfl, fun i hi => by rw [Nat.zero_add]; exact Row.cell HS6.out.2.2.1 (by omega)⟩) (by omega) (by omega) (by omega))
                have hbit := loB_bd (v + 1) (c - 1) k
                have ha := loA_lt (v + 1) (c - 1) k
                have hp20 : 2 ^ k ≤ 2 ^ 20 := Nat.pow_le_pow_right (by omega) (by omega)
                have HNX : Hid ((y.lens (37 * t) c).low (37 * t) (v + 1) (c - 1) (k + 1) = ((y.lens (37 * t) c).low (37 * t) (v + 1) (c - 1) k).put1 (loJ (37 * t) k (loA (v + 1) (c - 1) k)) (loB (v + 1) (c - 1) k : Nat)) := Lib.hid rfl
                replace hcell : wr.drew.cell? ⟨l, k, none⟩ = some (.int .u8 (loB (v + 1) (c - 1) k : Nat)) := hcell
                generalize loB (v + 1) (c - 1) k = bt at *
                generalize loA (v + 1) (c - 1) k = a at *
                have zi : IntKind.i64.wrap (a : Int) = (a : Int) := by rw [IntKind.wrap_i64]; omega
                clear hS hK hRw hd
                go_wp2_with fail
                refine wp_region_ordT [(0,0),(1,0),(2,0),(3,0),(4,0),(5,0),(6,0),(7,0),(8,0),(9,0),(10,0),(11,0),(12,0),(13,0),(14,2)] (by kernel_rfl) (by kernel_rfl) (fun _ _ d _ _ h => by cases d <;> exact h) ?_
                repeat (refine wpOrd_still rfl (fun KK hKK => ?_); go_simp; first | (refine hKK _ ?_; clear hKK KK) | (refine ⟨_, Calls.flip (HNM.out), hKK _ ?_⟩; clear hKK KK) | (refine ⟨_, Calls.flip (rplace_any _ _ _ (by omega) (by omega)), hKK _ ?_⟩; clear hKK KK))
                refine wpOrd_doG rfl rfl (fun KK hKK => ?_)
                go_simp
                refine (rput1_pl HS6.out.1 hij lo1 (by omega) ht k a ha hbit).mono ?_
                rintro e w7 ⟨c7, rfl, hS7, hK7⟩
                rw [← HNX.out] at hS7
                have HF := Lib.hid (And.intro hS7 (And.intro (HS6.out.2.1.trans hK7) (hK7.2 (i + j + 1) _ (by simp; omega) HS6.out.2.2)))
                clear hS7 hK7 hcell
                refine hKK _ _ ?_
                clear hKK KK
                refine wpOrd_nil ?_
                go_wp2
                go_roundw
                case rel => exact ⟨k + 1, c7, by omega, by go_num, HF.out.1, HF.out.2.1, HF.out.2.2⟩
                case measure => simp [intOf]; omega
              · have hkM : k = c - 1 := by omega
                have l5 : ¬ (k : Int) < ((c - 1 : Nat) : Int) := by omega
                have HF : Hid (SSR wr col2 i x j b (y.num (37 * t) v) ∧ Kp [i, j] w0 col wr col2) := Lib.hid ⟨by rw [HN.out]; rw [hkM] at hS; exact hS, hK⟩
                clear hS hK hRw
                go_wp2
                go_ret
                exact ⟨col2, rfl, HF.out.1, HF.out.2⟩
          · have l4 : ¬ (c : Int) < 21 := by omega
            have HW : Hid (SSR wr col' i x j b (y.lens (37 * t) c) ∧ Kp [i, j] w0 col wr col') := Lib.hid ⟨by rw [HLD.out, if_neg h21]; exact HS.out.1, HS.out.2⟩
            clear HS
            obtain ⟨w5, rfl⟩ : ∃ w5 : World, w5 = wr := ⟨_, rfl⟩
            go_wp2_with fail
            refine (HDG.out _).mono ?_
            rintro e w6 ⟨l, rfl, hl, hRow, hb⟩
            have hkp := Kp.fresh hb col' (i + j + 1) []
            have HV := Lib.hid (And.intro (SSR.kp HW.out.1 hkp (by simp) (by simp)) (And.intro (HW.out.2.trans (hkp.mono (by simp))) (show (It.row l (c - 1) (by8 fun i => (loB (v + 1) (c - 1) i : Nat))).ok w6 ∧ (It.row l (c - 1) (by8 fun i => (loB (v + 1) (c - 1) i : Nat))).hue (recol col' _ (i + j + 1)) (i + j + 1) from ⟨hRow, recol_ge hl⟩)))
            generalize recol col' _ (i + j + 1) = c6 at *
            clear hl hRow hb hkp HW
            go_wp2_with fail
            go_loopw [14] (fun qv w2 => ∃ (k : Nat) (col' : Nat → Nat), k ≤ c - 1 ∧ qv = .int .i64 k ∧ SSR w2 col' i x j b ((y.lens (37 * t) c).low (37 * t) (v + 1) (c - 1) k) ∧ Kp [i, j] w0 col w2 col' ∧ ((It.row l (c - 1) (by8 fun i => (loB (v + 1) (c - 1) i : Nat))).ok w2 ∧ (It.row l (c - 1) (by8 fun i => (loB (v + 1) (c - 1) i : Nat))).hue col' (i + j + 1))) (fun qv _ => c - 1 - (intOf qv).toNat)
            case atStart => exact ⟨0, c6, by omega, rfl, HV.out.1, HV.out.2.1, HV.out.2.2⟩
            case round =>
              obtain ⟨k, col2, hk, rfl, hS, hK, hRw⟩ := hrel
              clear HV
              obtain ⟨lo1, lo2⟩ := HLO.out k
              replace lo2 := lo2 hk
              by_cases hlt : k < c - 1
              · have l5 : (k : Int) < ((c - 1 : Nat) : Int) := by omega
                have l6 : (k : Int) ≤ ((c - 1 : Nat) : Int) := by omega
                have hd := Kp.below (below_drew wr) [] col2
                have HS6 := Lib.hid (And.intro (SSR.kp hS hd (by simp) (by simp)) (And.intro (hK.trans (hd.mono (by simp))) (hd.2 _ _ (by simp) hRw)))
                have hcell := Row.cell HS6.out.2.2.1 hlt
                have HNM := Lib.hid (rnumber_any l 0 k (c - 1) (v + 1) (c - 1) wr.drew (fun _ => ⟨l, 0, rfl, fun i hi => by rw [Nat.zero_add]; exact Row.cell HS6.out.2.2.1 (by omega)⟩) (by omega) (by omega) (by omega))
                have hbit := loB_bd (v + 1) (c - 1) k
                have ha := loA_lt (v + 1) (c - 1) k
                have hp20 : 2 ^ k ≤ 2 ^ 20 := Nat.pow_le_pow_right (by omega) (by omega)
                have HNX : Hid ((y.lens (37 * t) c).low (37 * t) (v + 1) (c - 1) (k + 1) = ((y.lens (37 * t) c).low (37 * t) (v + 1) (c - 1) k).put1 (loJ (37 * t) k (loA (v + 1) (c - 1) k)) (loB (v + 1) (c - 1) k : Nat)) := Lib.hid rfl
                replace hcell : wr.drew.cell? ⟨l, k, none⟩ = some (.int .u8 (loB (v + 1) (c - 1) k : Nat)) := hcell
                generalize loB (v + 1) (c - 1) k = bt at *
                generalize loA (v + 1) (c - 1) k = a at *
                have zi : IntKind.i64.wrap (a : Int) = (a : Int) := by rw [IntKind.wrap_i64]; omega
                clear hS hK hRw hd
                go_wp2_with fail
                refine wp_region_ordT [(0,0),(1,0),(2,0),(3,0),(4,0),(5,0),(6,0),(7,0),(8,0),(9,0),(10,0),(11,0),(12,0),(13,0),(14,2)] (by kernel_rfl) (by kernel_rfl) (fun _ _ d _ _ h => by cases d <;> exact h) ?_
                repeat (refine wpOrd_still rfl (fun KK hKK => ?_); go_simp; first | (refine hKK _ ?_; clear hKK KK) | (refine ⟨_, Calls.flip (HNM.out), hKK _ ?_⟩; clear hKK KK) | (refine ⟨_, Calls.flip (rplace_any _ _ _ (by omega) (by omega)), hKK _ ?_⟩; clear hKK KK))
                refine wpOrd_doG rfl rfl (fun KK hKK => ?_)
                go_simp
                refine (rput1_pl HS6.out.1 hij lo1 (by omega) ht k a ha hbit).mono ?_
                rintro e w7 ⟨c7, rfl, hS7, hK7⟩
                rw [← HNX.out] at hS7
                have HF := Lib.hid (And.intro hS7 (And.intro (HS6.out.2.1.trans hK7) (hK7.2 (i + j + 1) _ (by simp; omega) HS6.out.2.2)))
                clear hS7 hK7 hcell
                refine hKK _ _ ?_
                clear hKK KK
                refine wpOrd_nil ?_
                go_wp2
                go_roundw
                case rel => exact ⟨k + 1, c7, by omega, by go_num, HF.out.1, HF.out.2.1, HF.out.2.2⟩
                case measure => simp [intOf]; omega
              · have hkM : k = c - 1 := by omega
                have l5 : ¬ (k : Int) < ((c - 1 : Nat) : Int) := by omega
                have HF : Hid (SSR wr col2 i x j b (y.num (37 * t) v) ∧ Kp [i, j] w0 col wr col2) := Lib.hid ⟨by rw [HN.out]; rw [hkM] at hS; exact hS, hK⟩
                clear hS hK hRw
                go_wp2
                go_ret
                exact ⟨col2, rfl, HF.out.1, HF.out.2⟩
theorem rPutO_no (b x : Nat) (t n v : Int) (w : World) (h : topB t = false ∨ n < 1 ∨ 16 < n ∨ v < 0 ∨ n ≤ v) :
    Calls Try.prog 52 #[.pointer (some ⟨b, 0, none⟩), .pointer (some ⟨x, 0, none⟩), .int .i64 t, .int .i64 n, .int .i64 v] w fun e w' => e = .returned (.int .i64 1) ∧ w = w' := by
  cases ht : topB t
  · go_enter Try.func52, Try.ntmps52
    go_wp2_with (go_at_call 75; refine (rtopic_any _ _).mono ?_; rintro e w' ⟨rfl, rfl⟩; rw [ht])
    go_ret
    exact ⟨rfl, rfl⟩
  · have h' : n < 1 ∨ (¬ n < 1 ∧ 16 < n) ∨ (¬ n < 1 ∧ ¬ 16 < n ∧ v < 0) ∨ (¬ n < 1 ∧ ¬ 16 < n ∧ ¬ v < 0 ∧ n ≤ v) := by
      rcases h with h | h
      · rw [ht] at h; cases h
      · omega
    clear h
    rcases h' with h1 | ⟨h1, h2⟩ | ⟨h1, h2, h3⟩ | ⟨h1, h2, h3, h4⟩
    all_goals
      go_enter Try.func52, Try.ntmps52
      go_wp2_with (go_at_call 75; refine (rtopic_any _ _).mono ?_; rintro e w' ⟨rfl, rfl⟩; rw [ht])
      go_ret
      exact ⟨rfl, rfl⟩
set_option maxRecDepth 100000 in
set_option maxHeartbeats 8000000 in
theorem rPutO_yes (t n v : Nat) (h : SSR w col i x j b y) (hij : i ≠ j) (hok : y.ok) (hL : y.s.L ≤ 700000) (ht : t < 16) (h1 : 1 ≤ n) (h16 : n ≤ 16) (hv : v < n) :
    Calls Try.prog 52 #[.pointer (some ⟨b, 0, none⟩), .pointer (some ⟨x, 0, none⟩), .int .i64 t, .int .i64 n, .int .i64 v] w (PutRI w col i x j b (y.one (37 * t) n v)) := by
  have HW : Hid (SSR w col i x j b y ∧ Kp [i, j] w col w col) := Lib.hid ⟨h, Kp.refl _ _ _⟩
  have HT := Lib.hid (topB_nat ht)
  have hb4 := bitLen_le (n := 4) (x := n - 1) (by omega) (by omega)
  have HN : Hid (y.one (37 * t) n v = y.low (37 * t) v (Lib.bitLen (n - 1)) (Lib.bitLen (n - 1))) := Lib.hid rfl
  have HWD := Lib.hid (fun w => rwidth_any n w h1 h16)
  generalize Lib.bitLen (n - 1) = N at *
  have HLO : Hid (∀ k, (y.low (37 * t) v N k).ok ∧ (k ≤ N → (y.low (37 * t) v N k).s.L ≤ 800000)) := Lib.hid (fun k => by
    obtain ⟨a1, a2, a3⟩ := PS.low_ok hok (37 * t) v N k
    exact ⟨a1, fun _ => by omega⟩)
  have HDG : Hid (∀ w, Calls Try.prog 77 #[.int .u64 (v : Int), .int .i64 (N : Int)] w fun e w' =>
    ∃ b, e = .returned (.slice (some ⟨b, 0, none⟩) N N) ∧ w.heap.size ≤ b ∧ Row w' b N (by8 fun i => (loB v N i : Nat)) ∧ Below w.heap.size w w') := Lib.hid (fun w => rdigits_any v N w (by omega) (by omega))
  clear h hok
  have l1 : ¬ (n : Int) < 1 := by omega
  have l2 : ¬ (16 : Int) < n := by omega
  have l3 : ¬ (v : Int) < 0 := by omega
  have l4 : ¬ (n : Int) ≤ v := by omega
  have zu : IntKind.u64.wrap (v : Int) = (v : Int) := by rw [IntKind.wrap_u64]; omega
  go_enter Try.func52, Try.ntmps52
  go_wp2_with fail
  refine (rtopic_any _ _).mono ?_
  rintro e w' ⟨rfl, hww⟩
  subst hww
  rw [HT.out]
  go_wp2_with fail
  refine (HWD.out _).mono ?_
  rintro e w' ⟨rfl, hww⟩
  subst hww
  go_wp2_with fail
  refine (HDG.out _).mono ?_
  rintro e w6 ⟨l, rfl, hl, hRow, hb⟩
  have hkp := Kp.fresh hb col (i + j + 1) []
  have HV := Lib.hid (And.intro (SSR.kp HW.out.1 hkp (by simp) (by simp)) (And.intro (HW.out.2.trans (hkp.mono (by simp))) (show (It.row l (N) (by8 fun i => (loB (v) (N) i : Nat))).ok w6 ∧ (It.row l (N) (by8 fun i => (loB (v) (N) i : Nat))).hue (recol col _ (i + j + 1)) (i + j + 1) from ⟨hRow, recol_ge hl⟩)))
  generalize recol col _ (i + j + 1) = c6 at *
  clear hl hRow hb hkp HW
  go_wp2_with fail
  go_loopw [13] (fun qv w2 => ∃ (k : Nat) (col' : Nat → Nat), k ≤ N ∧ qv = .int .i64 k ∧ SSR w2 col' i x j b ((y).low (37 * t) (v) (N) k) ∧ Kp [i, j] w col w2 col' ∧ ((It.row l (N) (by8 fun i => (loB (v) (N) i : Nat))).ok w2 ∧ (It.row l (N) (by8 fun i => (loB (v) (N) i : Nat))).hue col' (i + j + 1))) (fun qv _ => N - (intOf qv).toNat)
  case atStart => exact ⟨0, c6, by omega, rfl, HV.out.1, HV.out.2.1, HV.out.2.2⟩
  case round =>
    obtain ⟨k, col2, hk, rfl, hS, hK, hRw⟩ := hrel
    clear HV
    obtain ⟨lo1, lo2⟩ := HLO.out k
    replace lo2 := lo2 hk
    by_cases hlt : k < N
    · have l5 : (k : Int) < ((N : Nat) : Int) := by omega
      have l6 : (k : Int) ≤ ((N : Nat) : Int) := by omega
      have hd := Kp.below (below_drew wr) [] col2
      have HS6 := Lib.hid (And.intro (SSR.kp hS hd (by simp) (by simp)) (And.intro (hK.trans (hd.mono (by simp))) (hd.2 _ _ (by simp) hRw)))
      have hcell := Row.cell HS6.out.2.2.1 hlt
      have HNM := Lib.hid (rnumber_any l 0 k (N) (v) (N) wr.drew (fun _ => ⟨l, 0, rfl, fun i hi => by rw [Nat.zero_add]; exact Row.cell HS6.out.2.2.1 (by omega)⟩) (by omega) (by omega) (by omega))
      have hbit := loB_bd (v) (N) k
      have ha := loA_lt (v) (N) k
      have hp20 : 2 ^ k ≤ 2 ^ 20 := Nat.pow_le_pow_right (by omega) (by omega)
      have HNX : Hid ((y).low (37 * t) (v) (N) (k + 1) = ((y).low (37 * t) (v) (N) k).put1 (loJ (37 * t) k (loA (v) (N) k)) (loB (v) (N) k : Nat)) := Lib.hid rfl
      replace hcell : wr.drew.cell? ⟨l, k, none⟩ = some (.int .u8 (loB (v) (N) k : Nat)) := hcell
      generalize loB (v) (N) k = bt at *
      generalize loA (v) (N) k = a at *
      have zi : IntKind.i64.wrap (a : Int) = (a : Int) := by rw [IntKind.wrap_i64]; omega
      clear hS hK hRw hd
      go_wp2_with fail
      refine wp_region_ordT [(0,0),(1,0),(2,0),(3,0),(4,0),(5,0),(6,0),(7,0),(8,0),(9,0),(10,0),(11,0),(12,0),(13,0),(14,2)] (by kernel_rfl) (by kernel_rfl) (fun _ _ d _ _ h => by cases d <;> exact h) ?_
      repeat (refine wpOrd_still rfl (fun KK hKK => ?_); go_simp; first | (refine hKK _ ?_; clear hKK KK) | (refine ⟨_, Calls.flip (HNM.out), hKK _ ?_⟩; clear hKK KK) | (refine ⟨_, Calls.flip (rplace_any _ _ _ (by omega) (by omega)), hKK _ ?_⟩; clear hKK KK))
      refine wpOrd_doG rfl rfl (fun KK hKK => ?_)
      go_simp
      refine (rput1_pl HS6.out.1 hij lo1 (by omega) ht k a ha hbit).mono ?_
      rintro e w7 ⟨c7, rfl, hS7, hK7⟩
      rw [← HNX.out] at hS7
      have HF := Lib.hid (And.intro hS7 (And.intro (HS6.out.2.1.trans hK7) (hK7.2 (i + j + 1) _ (by simp; omega) HS6.out.2.2)))
      clear hS7 hK7 hcell
      refine hKK _ _ ?_
      clear hKK KK
      refine wpOrd_nil ?_
      go_wp2
      go_roundw
      case rel => exact ⟨k + 1, c7, by omega, by go_num, HF.out.1, HF.out.2.1, HF.out.2.2⟩
      case measure => simp [intOf]; omega
    · have hkM : k = N := by omega
      have l5 : ¬ (k : Int) < ((N : Nat) : Int) := by omega
      have HF : Hid (SSR wr col2 i x j b (y.one (37 * t) n v) ∧ Kp [i, j] w col wr col2) := Lib.hid ⟨by rw [HN.out]; rw [hkM] at hS; exact hS, hK⟩
      clear hS hK hRw
      go_wp2
      go_ret
      exact ⟨col2, rfl, HF.out.1, HF.out.2⟩
end
end Go.Proofs.Ytmnoddmecghjdaa
