/- Layer 5: an act of a book, put and got; the law's own live question is answered with yes. -/
import Derived.Test.YtmnoddmecghjdaaBk7
import Derived.Test.YtmnoddmecghjdaaBk8
set_option linter.unusedVariables false
namespace Go.Kin
open Go.RowKit
theorem fin_dig {s : St} (h : s.ok) (hw : Within ⟨0, 4, 4294967295⟩ s) : FinC (dig s.V s.L) s.L s := by
  have hR : 0 < s.R := by have := h.1; omega
  exact ⟨hR, Nat.le_refl _, numOf_dig (within_lt hw hR)⟩
/-- A new book and a new encoder. -/
def PS0 : PS := ⟨fun _ => 1024, ⟨0, 4, 4294967295⟩⟩
def GS0 (g : Nat → Int) : GS := ⟨fun _ => 1024, ⟨4, numOf g 4, 4294967295⟩⟩
theorem PS0_ok : PS0.ok := ⟨fun _ => by simp [PS0], by unfold PS0 St.ok; dsimp only; omega⟩
theorem tw_start (g : Nat → Int) : Tw g PS0 (GS0 g) := ⟨rfl, twin_start g⟩
theorem GS0_ok {g : Nat → Int} (hg : Byt g) {n : Nat} (hn : 4 ≤ n) : (GS0 g).ok n := by
  have := numOf_lt hg 4
  refine ⟨fun _ => by simp [GS0], ?_, hn⟩
  unfold GS0 DS.ok
  dsimp only
  omega
end Go.Kin
namespace Go.Proofs.Ytmnoddmecghjdaa
open Go.RowKit Go.Kin
theorem tw_end {y : PS} {z : GS} (ht : Tw (dig y.s.V y.s.L) y z) (h : y.s.ok) (hw : Within ⟨0, 4, 4294967295⟩ y.s) : endK (y.s.L - z.d.I) z.d.rest = 0 := by
  have hf := fin_dig h hw
  have h1 := ht.2.num
  rw [hf.2.2 _ (Nat.le_refl _), Nat.sub_self, Nat.pow_zero, Nat.div_one] at h1
  unfold endK
  rw [if_pos ⟨by rw [ht.2.I]; omega, by omega⟩]
/-- Whether an act puts; what it makes; what it answers. -/
def actOk (k t n v : Int) : Bool := topB t && (if k = 1 then decide (0 ≤ v ∧ v ≤ 1048576) else if k = 2 then decide (-1048576 ≤ v ∧ v ≤ 1048576) else decide (1 ≤ n ∧ n ≤ 16 ∧ 0 ≤ v ∧ v < n))
def actP (y : PS) (k t n v : Int) : PS := if actOk k t n v = true then (if k = 1 then y.num (37 * t.toNat) v.toNat else if k = 2 then y.sgn (37 * t.toNat) v else y.one (37 * t.toNat) n.toNat v.toNat) else y
def actE (k t n v : Int) : Int := if actOk k t n v = true then 0 else 1
def gotOk (k t n : Int) : Bool := topB t && (if k = 1 then true else if k = 2 then true else decide (1 ≤ n ∧ n ≤ 16))
def actG (g : Nat → Int) (m : Nat) (z : GS) (k t n : Int) : NR := if gotOk k t n = true then (if k = 1 then z.num g m (37 * t.toNat) else if k = 2 then z.sgn g m (37 * t.toNat) else z.one g m (37 * t.toNat) n.toNat) else ⟨0, 1, z⟩
def PutA (w : World) (col : Nat → Nat) (i x j b : Nat) (K : Int) (y : PS) (e : Ending) (w' : World) : Prop := ∃ col', e = .returned (.int .i64 K) ∧ SS w' col' i x j b y ∧ Kp [i, j] w col w' col'
section
variable {w w' : World} {col : Nat → Nat} {i x j b m : Nat} {y : PS} {z : GS} {g : Nat → Int} {e : Ending}
theorem PutA.quiet (h : SS w col i x j b y) (hq : e = .returned (.int .i64 1) ∧ w = w') : PutA w col i x j b 1 y e w' := by
  obtain ⟨rfl, rfl⟩ := hq
  exact ⟨col, rfl, h, Kp.refl _ _ _⟩
theorem NumR.quiet (h : SG w col i x m g j b z) (hq : e = .returned (.tuple #[.int .i64 0, .int .i64 1]) ∧ w = w') : NumR w col i x m g j b ⟨0, 1, z⟩ e w' := by
  obtain ⟨rfl, rfl⟩ := hq
  exact ⟨col, rfl, h, Kp.refl _ _ _⟩
theorem topB_no {t : Int} (h : topB t = false) : ∀ k n v, actOk k t n v = false := fun k n v => by unfold actOk; rw [h]; rfl
theorem bPut_all (t v : Int) (h : SS w col i x j b y) (hij : i ≠ j) (hok : y.ok) (hL : y.s.L ≤ 600000) :
    Calls Try.prog 28 #[.pointer (some ⟨b, 0, none⟩), .pointer (some ⟨x, 0, none⟩), .int .i64 t, .int .i64 v] w (PutA w col i x j b (actE 1 t 0 v) (actP y 1 t 0 v)) := by
  cases hb : actOk 1 t 0 v
  · unfold actE actP
    rw [hb, if_neg (by simp), if_neg (by simp)]
    refine (bPut_no b x t v w ?_).mono fun _ _ hq => PutA.quiet h hq
    unfold actOk at hb
    rw [if_pos rfl, Bool.and_eq_false_iff] at hb
    rcases hb with hb | hb
    · exact .inl hb
    · have := of_decide_eq_false hb; omega
  · unfold actE actP
    rw [hb, if_pos rfl, if_pos rfl, if_pos rfl]
    unfold actOk at hb
    rw [if_pos rfl, Bool.and_eq_true] at hb
    have hv := of_decide_eq_true hb.2
    obtain ⟨u, rfl, hu⟩ := topB_yes hb.1
    obtain ⟨v, rfl⟩ := Int.eq_ofNat_of_zero_le hv.1
    exact bPut_yes u v h hij hok (by omega) hu (by omega)
theorem bPutS_all (t v : Int) (h : SS w col i x j b y) (hij : i ≠ j) (hok : y.ok) (hL : y.s.L ≤ 600000) :
    Calls Try.prog 48 #[.pointer (some ⟨b, 0, none⟩), .pointer (some ⟨x, 0, none⟩), .int .i64 t, .int .i64 v] w (PutA w col i x j b (actE 2 t 0 v) (actP y 2 t 0 v)) := by
  cases hb : actOk 2 t 0 v
  · unfold actE actP
    rw [hb, if_neg (by simp), if_neg (by simp)]
    refine (bPutS_no b x t v w ?_).mono fun _ _ hq => PutA.quiet h hq
    unfold actOk at hb
    rw [if_neg (by decide), if_pos rfl, Bool.and_eq_false_iff] at hb
    rcases hb with hb | hb
    · exact .inl hb
    · have := of_decide_eq_false hb; omega
  · unfold actE actP
    rw [hb, if_pos rfl, if_pos rfl, if_neg (by decide), if_pos rfl]
    unfold actOk at hb
    rw [if_neg (by decide), if_pos rfl, Bool.and_eq_true] at hb
    have hv := of_decide_eq_true hb.2
    obtain ⟨u, rfl, hu⟩ := topB_yes hb.1
    exact bPutS_yes u v h hij hok (by omega) hu hv
theorem bPutO_all (k t n v : Int) (hk1 : k ≠ 1) (hk2 : k ≠ 2) (h : SS w col i x j b y) (hij : i ≠ j) (hok : y.ok) (hL : y.s.L ≤ 600000) :
    Calls Try.prog 49 #[.pointer (some ⟨b, 0, none⟩), .pointer (some ⟨x, 0, none⟩), .int .i64 t, .int .i64 n, .int .i64 v] w (PutA w col i x j b (actE k t n v) (actP y k t n v)) := by
  cases hb : actOk k t n v
  · unfold actE actP
    rw [hb, if_neg (by simp), if_neg (by simp)]
    refine (bPutO_no b x t n v w ?_).mono fun _ _ hq => PutA.quiet h hq
    unfold actOk at hb
    rw [if_neg hk1, if_neg hk2, Bool.and_eq_false_iff] at hb
    rcases hb with hb | hb
    · exact .inl hb
    · have := of_decide_eq_false hb; omega
  · unfold actE actP
    rw [hb, if_pos rfl, if_pos rfl, if_neg hk1, if_neg hk2]
    unfold actOk at hb
    rw [if_neg hk1, if_neg hk2, Bool.and_eq_true] at hb
    have hv := of_decide_eq_true hb.2
    obtain ⟨u, rfl, hu⟩ := topB_yes hb.1
    obtain ⟨v, rfl⟩ := Int.eq_ofNat_of_zero_le hv.2.2.1
    obtain ⟨n, rfl⟩ := Int.eq_ofNat_of_zero_le (show 0 ≤ n by omega)
    exact bPutO_yes u n v h hij hok (by omega) hu (by omega) (by omega) (by omega)
theorem bGet_all (t : Int) (h : SG w col i x m g j b z) (hg : Byt g) (hij : i ≠ j) (hok : z.ok m) :
    Calls Try.prog 55 #[.pointer (some ⟨b, 0, none⟩), .pointer (some ⟨x, 0, none⟩), .int .i64 t] w (NumR w col i x m g j b (actG g m z 1 t 0)) := by
  cases hb : gotOk 1 t 0
  · unfold actG
    rw [hb, if_neg (by simp)]
    unfold gotOk at hb
    rw [if_pos rfl, Bool.and_true] at hb
    exact (bGet_no b x t w hb).mono fun _ _ hq => NumR.quiet h hq
  · unfold actG
    rw [hb, if_pos rfl, if_pos rfl]
    unfold gotOk at hb
    rw [if_pos rfl, Bool.and_true] at hb
    obtain ⟨u, rfl, hu⟩ := topB_yes hb
    exact bGet_yes u h hg hij hok hu
theorem bGetS_all (t : Int) (h : SG w col i x m g j b z) (hg : Byt g) (hij : i ≠ j) (hok : z.ok m) :
    Calls Try.prog 53 #[.pointer (some ⟨b, 0, none⟩), .pointer (some ⟨x, 0, none⟩), .int .i64 t] w (NumR w col i x m g j b (actG g m z 2 t 0)) := by
  cases hb : gotOk 2 t 0
  · unfold actG
    rw [hb, if_neg (by simp)]
    unfold gotOk at hb
    rw [if_neg (by decide), if_pos rfl, Bool.and_true] at hb
    exact (bGetS_no b x t w hb).mono fun _ _ hq => NumR.quiet h hq
  · unfold actG
    rw [hb, if_pos rfl, if_neg (by decide), if_pos rfl]
    unfold gotOk at hb
    rw [if_neg (by decide), if_pos rfl, Bool.and_true] at hb
    obtain ⟨u, rfl, hu⟩ := topB_yes hb
    exact bGetS_yes u h hg hij hok hu
theorem bGetO_all (k t n : Int) (hk1 : k ≠ 1) (hk2 : k ≠ 2) (h : SG w col i x m g j b z) (hg : Byt g) (hij : i ≠ j) (hok : z.ok m) :
    Calls Try.prog 54 #[.pointer (some ⟨b, 0, none⟩), .pointer (some ⟨x, 0, none⟩), .int .i64 t, .int .i64 n] w (NumR w col i x m g j b (actG g m z k t n)) := by
  cases hb : gotOk k t n
  · unfold actG
    rw [hb, if_neg (by simp)]
    unfold gotOk at hb
    rw [if_neg hk1, if_neg hk2, Bool.and_eq_false_iff] at hb
    refine (bGetO_no b x t n w ?_).mono fun _ _ hq => NumR.quiet h hq
    rcases hb with hb | hb
    · exact .inl hb
    · have := of_decide_eq_false hb; omega
  · unfold actG
    rw [hb, if_pos rfl, if_neg hk1, if_neg hk2]
    unfold gotOk at hb
    rw [if_neg hk1, if_neg hk2, Bool.and_eq_true] at hb
    have hv := of_decide_eq_true hb.2
    obtain ⟨u, rfl, hu⟩ := topB_yes hb.1
    obtain ⟨n, rfl⟩ := Int.eq_ofNat_of_zero_le (show 0 ≤ n by omega)
    exact bGetO_yes u n h hg hij hok hu (by omega) (by omega)
theorem actP_same {k t n n' v : Int} (h : k = 1 ∨ k = 2) : actE k t n v = actE k t n' v ∧ actP y k t n v = actP y k t n' v := by
  rcases h with rfl | rfl <;> exact ⟨rfl, rfl⟩
theorem actG_same {k t n n' : Int} (h : k = 1 ∨ k = 2) : actG g m z k t n = actG g m z k t n' := by
  rcases h with rfl | rfl <;> rfl
theorem actPut_any (k t n v : Int) (h : SS w col i x j b y) (hij : i ≠ j) (hok : y.ok) (hL : y.s.L ≤ 600000) :
    Calls Try.prog 19 #[.agg #[.int .i64 k, .int .i64 t, .int .i64 n, .int .i64 v], .pointer (some ⟨b, 0, none⟩), .pointer (some ⟨x, 0, none⟩)] w (PutA w col i x j b (actE k t n v) (actP y k t n v)) := by
  have hA := (Kn.start w).new w.heap.size #[.int .i64 k, .int .i64 t, .int .i64 n, .int .i64 v] 33 rfl
  have hS : SS (w.alloc (.cells #[.int .i64 k, .int .i64 t, .int .i64 n, .int .i64 v] 33)) col i x j b y := SS.kp h (Kp.below hA.2.1 [] col) (by simp) (by simp)
  have HK : Hid (Kp [i, j] w col (w.alloc (.cells #[.int .i64 k, .int .i64 t, .int .i64 n, .int .i64 v] 33)) col) := Lib.hid (Kp.below hA.2.1 _ _)
  have kc := Box.cells hA.1
  by_cases h1 : k = 1
  · subst h1
    have HE : Hid (actE 1 t n v = actE 1 t 0 v ∧ actP y 1 t n v = actP y 1 t 0 v) := Lib.hid (actP_same (.inl rfl))
    rw [HE.out.1, HE.out.2]
    clear HE
    go_enter Try.func19, Try.ntmps19
    go_wp2_with fail
    refine (bPut_all t v hS hij hok hL).mono ?_
    rintro e w' ⟨c', rfl, hS', hK⟩
    have HK' := Lib.hid (HK.out.trans hK)
    clear hK kc hA hS
    go_wp2
    go_ret
    exact ⟨c', rfl, hS', HK'.out⟩
  · have e1 : (k == 1) = false := by simp [h1]
    by_cases h2 : k = 2
    · subst h2
      have HE : Hid (actE 2 t n v = actE 2 t 0 v ∧ actP y 2 t n v = actP y 2 t 0 v) := Lib.hid (actP_same (.inr rfl))
      rw [HE.out.1, HE.out.2]
      clear HE
      go_enter Try.func19, Try.ntmps19
      go_wp2_with fail
      refine (bPutS_all t v hS hij hok hL).mono ?_
      rintro e w' ⟨c', rfl, hS', hK⟩
      have HK' := Lib.hid (HK.out.trans hK)
      clear hK kc hA hS
      go_wp2
      go_ret
      exact ⟨c', rfl, hS', HK'.out⟩
    · have e2 : (k == 2) = false := by simp [h2]
      have HN := Lib.hid (And.intro h1 h2)
      clear h1 h2
      go_enter Try.func19, Try.ntmps19
      go_wp2_with fail
      refine (bPutO_all k t n v HN.out.1 HN.out.2 hS hij hok hL).mono ?_
      rintro e w' ⟨c', rfl, hS', hK⟩
      have HK' := Lib.hid (HK.out.trans hK)
      clear hK kc hA hS
      go_wp2
      go_ret
      exact ⟨c', rfl, hS', HK'.out⟩
theorem actGet_any (k t n v : Int) (h : SG w col i x m g j b z) (hg : Byt g) (hij : i ≠ j) (hok : z.ok m) :
    Calls Try.prog 26 #[.agg #[.int .i64 k, .int .i64 t, .int .i64 n, .int .i64 v], .pointer (some ⟨b, 0, none⟩), .pointer (some ⟨x, 0, none⟩)] w (NumR w col i x m g j b (actG g m z k t n)) := by
  have hA := (Kn.start w).new w.heap.size #[.int .i64 k, .int .i64 t, .int .i64 n, .int .i64 v] 33 rfl
  have hS : SG (w.alloc (.cells #[.int .i64 k, .int .i64 t, .int .i64 n, .int .i64 v] 33)) col i x m g j b z := SG.kp h (Kp.below hA.2.1 [] col) (by simp) (by simp)
  have HK : Hid (Kp [i, j] w col (w.alloc (.cells #[.int .i64 k, .int .i64 t, .int .i64 n, .int .i64 v] 33)) col) := Lib.hid (Kp.below hA.2.1 _ _)
  have kc := Box.cells hA.1
  have HG := Lib.hid hg
  clear hg
  by_cases h1 : k = 1
  · subst h1
    have HE : Hid (actG g m z 1 t n = actG g m z 1 t 0) := Lib.hid (actG_same (.inl rfl))
    rw [HE.out]
    clear HE
    go_enter Try.func26, Try.ntmps26
    go_wp2_with fail
    refine (bGet_all t hS HG.out hij hok).mono ?_
    rintro e w' ⟨c', rfl, hS', hK⟩
    have HK' := Lib.hid (HK.out.trans hK)
    clear hK kc hA hS
    go_wp2
    go_ret2
    exact ⟨c', rfl, hS', HK'.out⟩
  · have e1 : (k == 1) = false := by simp [h1]
    by_cases h2 : k = 2
    · subst h2
      have HE : Hid (actG g m z 2 t n = actG g m z 2 t 0) := Lib.hid (actG_same (.inr rfl))
      rw [HE.out]
      clear HE
      go_enter Try.func26, Try.ntmps26
      go_wp2_with fail
      refine (bGetS_all t hS HG.out hij hok).mono ?_
      rintro e w' ⟨c', rfl, hS', hK⟩
      have HK' := Lib.hid (HK.out.trans hK)
      clear hK kc hA hS
      go_wp2
      go_ret2
      exact ⟨c', rfl, hS', HK'.out⟩
    · have e2 : (k == 2) = false := by simp [h2]
      have HN := Lib.hid (And.intro h1 h2)
      clear h1 h2
      go_enter Try.func26, Try.ntmps26
      go_wp2_with fail
      refine (bGetO_all k t n HN.out.1 HN.out.2 hS HG.out hij hok).mono ?_
      rintro e w' ⟨c', rfl, hS', hK⟩
      have HK' := Lib.hid (HK.out.trans hK)
      clear hK kc hA hS
      go_wp2
      go_ret2
      exact ⟨c', rfl, hS', HK'.out⟩
end
end Go.Proofs.Ytmnoddmecghjdaa
