/- CoderShort: zeros, with the chance that follows them, have a code of at most 13 bytes, and one for each 300 of them; each bit makes a code longer by one byte at most. No condition. -/
import Derived.Test.YtfooglenhepogaaAl4
import Derived.Test.YtfooglenhepogaaClose3
import Derived.Test.YtfooglenhepogaaRg3
namespace Go.Kin
/-- The range, the length and the chance behind zeros. -/
def zstep (s : Nat × Nat × Nat) : Nat × Nat × Nat :=
  let b := s.1 / 2048 * s.2.2
  let c := s.2.2 + (2048 - s.2.2) / 32
  if b < 16777216 then (b * 256, s.2.1 + 1, c) else (b, s.2.1, c)
def zrun : Nat → Nat × Nat × Nat
  | 0 => (4294967295, 4, 1024)
  | k + 1 => zstep (zrun k)
/-- Looked through from a state on: j steps, the i-th first. -/
def zall : Nat → Nat → Nat × Nat × Nat → Bool
  | 0, i, s => decide (s.2.1 ≤ 13 + i / 300)
  | j + 1, i, s => decide (s.2.1 ≤ 13 + i / 300) && zall j (i + 1) (zstep s)
theorem zall_at : ∀ j i s, zall j i s = true → ∀ (F : Nat → Nat × Nat × Nat), F 0 = s → (∀ k, F (k + 1) = zstep (F k)) → ∀ k, k ≤ j → (F k).2.1 ≤ 13 + (i + k) / 300
  | 0, i, s, h, F, h0, _, k, hk => by
    obtain rfl : k = 0 := by omega
    rw [h0]; simpa [zall] using h
  | j + 1, i, s, h, F, h0, hs, k, hk => by
    simp only [zall, Bool.and_eq_true, decide_eq_true_eq] at h
    cases k with
    | zero => rw [h0]; exact h.1
    | succ k =>
      have := zall_at j (i + 1) (zstep s) h.2 (fun k => F (k + 1)) (by rw [hs, h0]) (fun k => hs (k + 1)) k (by omega)
      rw [show i + 1 + k = i + (k + 1) by omega] at this
      exact this
theorem zall_yes : zall 4000 0 (4294967295, 4, 1024) = true := by decide +kernel
theorem zrun_short {k : Nat} (h : k ≤ 4000) : (zrun k).2.1 ≤ 13 + k / 300 := by
  have := zall_at 4000 0 _ zall_yes zrun rfl (fun _ => rfl) k h
  rw [Nat.zero_add] at this
  exact this
/-- The encoder's state behind k zeros. -/
def zst (k : Nat) : St := ⟨0, (zrun k).2.1, (zrun k).1⟩
theorem zrun_ch (k : Nat) : 31 ≤ (zrun k).2.2 ∧ (zrun k).2.2 ≤ 2017 := by
  induction k with
  | zero => simp [zrun]
  | succ k ih => simp only [zrun, zstep]; split <;> (try dsimp only) <;> omega
theorem zrun_next (k : Nat) : nextP (zrun k).2.2 0 = (zrun (k + 1)).2.2 := by
  have h := zrun_ch k
  unfold nextP
  rw [if_pos rfl]
  simp only [zrun, zstep]
  split <;> (try dsimp only) <;> omega
theorem zst_put (k : Nat) : (zst k).putI (zrun k).2.2 0 = zst (k + 1) := by
  have h := zrun_ch k
  unfold St.putI
  rw [if_pos (fair_iff.2 ⟨by omega, by omega, .inl rfl⟩)]
  rw [show ((0 : Int)).toNat = 0 from rfl, show (((zrun k).2.2 : Nat) : Int).toNat = (zrun k).2.2 by omega]
  unfold St.put St.half
  rw [if_pos rfl]
  unfold St.norm St.bd zst
  simp only [zrun, zstep]
  split
  · next hh => dsimp only at hh ⊢; try rw [if_pos hh, Nat.zero_mul]
  · next hh => dsimp only at hh ⊢; try rw [if_neg hh]
theorem zst_ok (k : Nat) : (zst k).ok := by
  induction k with
  | zero => unfold zst St.ok; simp [zrun]
  | succ k ih => rw [← zst_put]; exact (putI_ok ih).1
theorem putE_le {s : St} {c bit : Int} (h : s.ok) : putE c bit = 0 ∧ (s.putI c bit).L ≤ s.L + 1 ∨ putE c bit = 1 ∧ (s.putI c bit) = s := by
  by_cases hh : chB c = true ∧ (bit = 0 ∨ bit = 1)
  · exact .inl ⟨by unfold putE; rw [if_pos hh], (putI_ok h).2.1⟩
  · exact .inr ⟨by unfold putE; rw [if_neg hh], by unfold St.putI; rw [if_neg hh]⟩
end Go.Kin
namespace Go.Proofs.Ytfooglenhepogaa
open Go.ChangeShapes Go.WideShapes Go.ChangeAt Go.RowKit Go.Joins Go.Kin
set_option linter.unusedVariables false
namespace CoderShort
set_option maxRecDepth 100000 in
set_option maxHeartbeats 4000000 in
theorem walk (w : World) (m : Int) (hm : I64 m) (A : Option Addr) (n cap : Nat) (f : Nat → Nat → Int) (hR : Rd w A (n * 2) (recs 2 f)) (hf : ∀ i r, I64 (f i r)) (hn : n ≤ cap) (hcap : cap ≤ 9223372036854775807) : Calls Try.prog 8 #[.int .i64 m, .slice A n cap] w fun e w' => e = .returned (.bool true) ∧ Below w.heap.size w w' := by
  have K : Kc w (fun _ => 0) [(0, .since w)] := Kc.start w
  have HR := Lib.hid hR
  have HF := Lib.hid hf
  clear hR hf
  by_cases hlo : m < 0
  · clear K
    go_enter Try.func8, Try.ntmps8
    go_wp2_with (go_at_call 23; refine (alive04 _).mono ?_; rintro e w1 ⟨rfl, hb⟩)
    go_ret
    exact ⟨rfl, hb⟩
  by_cases hhi : 4000 < m
  · clear K
    go_enter Try.func8, Try.ntmps8
    go_wp2_with (go_at_call 23; refine (alive04 _).mono ?_; rintro e w1 ⟨rfl, hb⟩)
    go_ret
    exact ⟨rfl, hb⟩
  obtain ⟨N, rfl⟩ : ∃ N : Nat, m = N := ⟨m.toNat, by omega⟩
  clear hm
  have hN : N ≤ 4000 := by omega
  clear hlo hhi
  have n0 : ¬ (N : Int) < 0 := by omega
  have n1 : ¬ 4000 < (N : Int) := by omega
  have HK := Lib.hid K
  clear K
  go_enter Try.func8, Try.ntmps8
  go_wp2_with (go_at_call 23; fail)
  refine (cnew_s _).mono ?_
  rintro e w1 ⟨p, rfl, hE, hb⟩
  replace hE := hE (fun _ => 0) 1
  have K := HK.out.upd (i := 1) ⟨by omega, trivial⟩ (Upd.of_below hb _ _)
  generalize recol _ _ _ = c1 at *
  have HEK := Lib.hid (And.intro hE K)
  clear hb hE K HK
  go_wp2_with fail
  go_loopw [6, 7] (fun c i wr => ∃ (k : Nat) (col : Nat → Nat), k ≤ N ∧ i = .int .i64 k ∧ c = .int .u16 (zrun k).2.2 ∧ EncS wr col 1 p (zst k) ∧ Kc wr col [(0, .since w)]) (fun _ i _ => ((N : Int) - intOf i).toNat)
  case atStart => exact ⟨0, c1, by omega, rfl, rfl, HEK.out.1, HEK.out.2⟩
  case round =>
    obtain ⟨k, col, hk, rfl, rfl, hE, K⟩ := hrel
    clear HEK
    by_cases hlt : k < N
    · have l1 : (k : Int) < N := by omega
      have hch := zrun_ch k
      have hsh := zrun_short (k := k) (by omega)
      have HEK := Lib.hid (And.intro hE K)
      have HP := Lib.hid (zst_put k)
      have HNX := Lib.hid (zrun_next k)
      have HL : Hid ((zst k).L ≤ 900000) := Lib.hid (by unfold zst; dsimp only; omega)
      clear hE K hsh
      generalize (zrun k).2.2 = ch at *
      go_wp2_with fail
      refine (put_s HEK.out.1 HL.out ch 0 (by omega)).mono ?_
      rintro e w2 ⟨rfl, hu, hE⟩
      rw [HP.out] at hE
      have K := HEK.out.2.upd (i := 1) ⟨by omega, trivial⟩ hu
      generalize recol _ _ _ = c2 at *
      clear hu HEK
      have HEK := Lib.hid (And.intro hE K)
      clear hE K
      generalize putE _ _ = pe
      go_wp2_with (go_at_call 19; refine (next_any _ _ _ (by omega)).mono ?_; rintro e w' ⟨rfl, rfl⟩; rw [HNX.out])
      go_roundw
      case rel => exact ⟨k + 1, c2, by omega, by go_num, rfl, HEK.out.1, HEK.out.2⟩
      case measure => simp [intOf]; omega
    · obtain rfl : k = N := by omega
      have HSH : Hid (((zst k).L : Int) ≤ 13 + (k : Int) / 300) := Lib.hid (by have := zrun_short hN; unfold zst; dsimp only; omega)
      have HL : Hid ((zst k).L ≤ 1000000) := Lib.hid (by have := zrun_short hN; unfold zst; dsimp only; omega)
      have HEK := Lib.hid (And.intro hE K)
      have zq : (k : Int).tdiv 300 = (k : Int) / 300 := Int.tdiv_eq_ediv_of_nonneg (by omega)
      have zl : 0 ≤ (k : Int) / 300 ∧ (k : Int) / 300 ≤ 14 := by omega
      clear hE K
      generalize (zrun k).2.2 = ch at *
      go_wp2_with fail
      refine (bytes_s HEK.out.1 HL.out).mono ?_
      rintro e w2 ⟨A2, rfl, _, _, hb⟩
      have K := HEK.out.2.upd (i := 1) ⟨by omega, trivial⟩ (Upd.of_below hb _ _)
      generalize recol _ _ _ = c2 at *
      have hsh := HSH.out
      generalize (zst k).L = zl at *
      have HK := Lib.hid K
      clear hb HEK K HL
      go_wp2_with fail
      refine (cnew_s _).mono ?_
      rintro e w3 ⟨p3, rfl, hE, hb⟩
      replace hE := hE c2 2
      have K := HK.out.upd (i := 2) ⟨by omega, trivial⟩ (Upd.of_below hb _ _)
      generalize recol _ _ _ = c3 at *
      have HEK := Lib.hid (And.intro hE K)
      clear hb hE K HK
      go_wp2_with fail
      go_loopw [10, 11] (fun kk i wr => ∃ (j q : Nat) (s : St) (col : Nat → Nat), j ≤ n ∧ j ≤ 400 ∧ q ≤ j ∧ s.L ≤ 4 + q ∧ i = .int .i64 j ∧ kk = .int .i64 q ∧ EncS wr col 2 p3 s ∧ Kc wr col [(0, .since w)]) (fun _ i _ => (400 - intOf i).toNat)
      case atStart => exact ⟨0, 0, _, c3, by omega, by omega, by omega, Nat.le_refl _, rfl, rfl, HEK.out.1, HEK.out.2⟩
      case round =>
        obtain ⟨j, q, s, col, hjn, hj4, hq, hL, rfl, rfl, hE, K⟩ := hrel
        clear HEK
        by_cases hlt : j < n ∧ j < 400
        · have l1 : (j : Int) < n := by omega
          have l2 : (j : Int) < 400 := by omega
          have HRW : Hid (Rd wr A (n * 2) (recs 2 f)) := Lib.hid (HR.out.below K.sinceB)
          obtain ⟨b, off, rfl, _⟩ := HR.out.some_ (by omega)
          have HPL := Lib.hid (putE_le (c := f j 0 % 65536) (bit := f j 1) hE.1)
          have HEK := Lib.hid (And.intro hE K)
          clear hE K
          go_wp2_with fail
          refine wp_region_allH (fun w' => Rd w' (some ⟨b, off, none⟩) (n * 2) (recs 2 f)) [12] [(0,1),(1,1),(2,1),(3,1),(4,1),(5,1),(7,1),(8,1),(9,1),(10,1),(11,1),(6,0),(12,2),(13,0)] (by kernel_rfl) (by kernel_rfl) (fun _ _ d _ _ h => by cases d <;> exact h) (HRW.out.drew) ?_
          repeat (first | (refine oH_freeG rfl rfl (fun w' hS => by have s1 := recs_cell hS (i := j) (r := 0) hlt.1 (by omega); rw [Nat.add_zero] at s1; have s2 := recs_cell hS (i := j) (r := 1) hlt.1 (by omega); clear hS; go_simp; with_reducible rfl) ?_; go_simp) | (refine oH_skipG rfl rfl ?_; go_simp))
          refine oH_still rfl (fun KK hKK => ?_)
          go_simp
          refine ⟨_, Calls.flip (chance_any _ _), hKK _ ?_⟩
          clear hKK KK
          refine oH_doG rfl rfl (fun KK hKK => ?_)
          go_simp
          refine (put_s (HEK.out.1.below (below_drew _)) (by omega) (f j 0 % 65536) (f j 1) (by omega)).mono ?_
          rintro e w4 ⟨rfl, hu, hE⟩
          have K := (Kc.below HEK.out.2 (below_drew _)).upd (i := 2) ⟨by omega, trivial⟩ hu
          generalize recol _ _ _ = c4 at *
          clear hu
          have HEK2 := Lib.hid (And.intro hE K)
          clear hE K HEK
          rcases HPL.out with ⟨e1, e2⟩ | ⟨e1, e2⟩
          · rw [e1]
            refine hKK _ _ ⟨HR.out.below HEK2.out.2.sinceB, ?_⟩
            clear hKK KK
            repeat (refine oH_still rfl (fun KK hKK => ?_); go_simp; refine hKK _ ?_; clear hKK KK)
            refine oH_nil ?_
            go_wp2
            go_roundw
            case rel => exact ⟨j + 1, q + 1, _, c4, by omega, by omega, by omega, by omega, by go_num, by go_num, HEK2.out.1, HEK2.out.2⟩
            case measure => simp [intOf]; omega
          · rw [e1]
            refine hKK _ _ ⟨HR.out.below HEK2.out.2.sinceB, ?_⟩
            clear hKK KK
            repeat (refine oH_still rfl (fun KK hKK => ?_); go_simp; refine hKK _ ?_; clear hKK KK)
            refine oH_nil ?_
            go_wp2
            go_roundw
            case rel => exact ⟨j + 1, q, _, c4, by omega, by omega, by omega, by rw [e2]; omega, by go_num, rfl, HEK2.out.1, HEK2.out.2⟩
            case measure => simp [intOf]; omega
        · have HEK := Lib.hid (And.intro hE K)
          have hsq : (s.L : Int) ≤ 4 + q := by omega
          have HL : Hid (s.L ≤ 1000000) := Lib.hid (by omega)
          have hq4 : q ≤ 400 := by omega
          clear hE K
          by_cases l1 : j < n
          · have l1' : (j : Int) < n := by omega
            have l2' : ¬ (j : Int) < 400 := by omega
            clear hlt
            go_wp2_with (first | (go_at_call 23; refine (alive04 _).mono ?_; rintro e w4 ⟨rfl, hb4⟩) | (go_at_call 21; refine (bytes_s (HEK.out.1.below hb4) HL.out).mono ?_; rintro e w5 ⟨A5, rfl, _, _, hb5⟩))
            go_ret
            exact ⟨rfl, Kin.Below.step (Kin.Below.step HEK.out.2.sinceB hb4 (HEK.out.2.sinceB.size)) hb5 (Nat.le_trans HEK.out.2.sinceB.size hb4.size)⟩
          · have l1' : ¬ (j : Int) < n := by omega
            clear hlt
            go_wp2_with (first | (go_at_call 23; refine (alive04 _).mono ?_; rintro e w4 ⟨rfl, hb4⟩) | (go_at_call 21; refine (bytes_s (HEK.out.1.below hb4) HL.out).mono ?_; rintro e w5 ⟨A5, rfl, _, _, hb5⟩))
            go_ret
            exact ⟨rfl, Kin.Below.step (Kin.Below.step HEK.out.2.sinceB hb4 (HEK.out.2.sinceB.size)) hb5 (Nat.le_trans HEK.out.2.sinceB.size hb4.size)⟩
end CoderShort
namespace CoderShort
set_option maxRecDepth 100000 in
theorem lifted (os : Os) (started : os.Started) (H : Type) (enc : TypeId × Value → H) :
    ReturnsInHanded {} Try.checked os 8 .any (Rows.coderShortSpec.pre6 enc Try.prog Try.f8 Rows.coderShortRow.domain false) (Rows.coderShortSpec.post enc Try.prog Try.f8 false true false false) := by
  refine returnsInHanded_of_change (C := Try.checked) own started (by kernel_rfl) Try.func8
    (ChangeSpec.witness6 (enc := enc) (C := Try.checked) false ⟨#[], #[.int .i64 0, .slice none 0 0], []⟩ 8 (by kernel_rfl) (by kernel_rfl) (by kernel_rfl) (by kernel_rfl)) ?_
  intro W base args ds gs before hval0 hW hcnd _
  have hval : ∀ (j : Nat) t v, Try.f8.params[j]? = some t → args[j]? = some v → Value.okWide Try.prog W .any base t v := hval0
  refine law_post (tb := 4) laidOut (by kernel_rfl) rfl Try.underlying4 rfl (fun ds' h => ?_) hW ?_
  · rw [Try.params8] at h
    match ds', h with
    | [d1, d2], _ => exact ⟨rfl, rfl, rfl⟩
  obtain ⟨p, q, hA0, hV, rfl, hfz, hnd⟩ := hW
  have hA : DataW.TrodAll enc Try.prog W 0 (fun _ => true) true Try.f8.params.toList args.toList ds p := hA0
  rw [Try.params8] at hA hval
  obtain ⟨v0, vs0, d0, ds0, p0, q0, hargs, rfl, rfl, h0, r0⟩ := trodAll_cons hA
  obtain ⟨v1, vs1, d1, ds1, p1, q1, rfl, rfl, rfl, h1, r1⟩ := trodAll_cons r0
  obtain ⟨rfl, rfl, rfl⟩ := trodAll_nil r1
  obtain rfl : args = #[v0, v1] := by cases args; simp_all
  obtain ⟨a0, rfl, rfl, rfl, w0⟩ := open_int Try.underlying3 (hval 0 3 v0 rfl rfl) h0
  obtain ⟨A1, n1, c1, g1, rfl, rr1, t1, l1, m1⟩ := open_acts Try.underlying22 Try.underlying28 (by kernel_rfl) ⟨rfl, rfl⟩ ⟨rfl, rfl⟩ Try.underlying3 (by kernel_rfl) (hval 1 22 v1 rfl rfl) h1
  exact walk W a0 (bounds_i64 w0) A1 n1 c1 g1 rr1 t1 l1 m1
theorem over : Rows.coderShortRow.holds Try.pinned (OpenSpec.ofChange Rows.coderShortSpec) :=
  OpenClaim.holds_of_wide 8 Try.f8 rfl rfl rfl rfl rfl rfl rfl ⟨rfl, rfl, rfl, rfl, rfl⟩ rfl rfl rfl rfl rfl (by kernel_rfl) Try.func8 (by kernel_rfl)
    (of_decide_eq_true (by kernel_rfl)) (by unfold Func.isWrapper; first | (rw [if_pos (by decide +kernel)]; kernel_rfl) | (rw [if_neg (by decide +kernel)]; exact ⟨rfl, rfl⟩))
    (fun os started H enc _ => lifted os started H enc)
end CoderShort
theorem coderShort_holds : Rows.CoderShortSaid := CoderShort.over

end Go.Proofs.Ytfooglenhepogaa
