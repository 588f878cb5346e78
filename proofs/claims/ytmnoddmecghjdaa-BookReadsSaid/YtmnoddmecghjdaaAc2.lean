/- An act of the document's book, put and got. -/
import Derived.Test.YtmnoddmecghjdaaBr5
import Derived.Test.YtmnoddmecghjdaaAc1
set_option linter.unusedVariables false
namespace Go.Proofs.Ytmnoddmecghjdaa
open Go.RowKit Go.Kin
def PutAR (w : World) (col : Nat → Nat) (i x j b : Nat) (K : Int) (y : PS) (e : Ending) (w' : World) : Prop := ∃ col', e = .returned (.int .i64 K) ∧ SSR w' col' i x j b y ∧ Kp [i, j] w col w' col'
section
variable {w w' : World} {col : Nat → Nat} {i j x b m r c : Nat} {A : Option Addr} {y : PS} {z : GS} {g : Nat → Int} {e : Ending}
theorem PutAR.quiet (h : SSR w col i x j b y) (hq : e = .returned (.int .i64 1) ∧ w = w') : PutAR w col i x j b 1 y e w' := by
  obtain ⟨rfl, rfl⟩ := hq
  exact ⟨col, rfl, h, Kp.refl _ _ _⟩
theorem NumRR.quiet (h : SGR w col i x m g r A c j b z) (hq : e = .returned (.tuple #[.int .i64 0, .int .i64 1]) ∧ w = w') : NumRR w col i x m g r A c j b ⟨0, 1, z⟩ e w' := by
  obtain ⟨rfl, rfl⟩ := hq
  exact ⟨col, rfl, h, Kp.refl _ _ _⟩
theorem rPut_all (t v : Int) (h : SSR w col i x j b y) (hij : i ≠ j) (hok : y.ok) (hL : y.s.L ≤ 600000) :
    Calls Try.prog 50 #[.pointer (some ⟨b, 0, none⟩), .pointer (some ⟨x, 0, none⟩), .int .i64 t, .int .i64 v] w (PutAR w col i x j b (actE 1 t 0 v) (actP y 1 t 0 v)) := by
  cases hb : actOk 1 t 0 v
  · unfold actE actP
    rw [hb, if_neg (by simp), if_neg (by simp)]
    refine (rPut_no b x t v w ?_).mono fun _ _ hq => PutAR.quiet h hq
    unfold actOk at hb
    rw [if_pos rfl, Bool.and_eq_false_iff] at hb
    rcases hb with hb | hb
    · exact .inl hb
    · have := of_decide_eq_false hb; omega
  · unfold actE actP
    rw [hb, if_pos rfl, if_pos rfl, if_pos rfl]
    unfold actOk at hb
    rw [if_pos rfl, Bool.and_eq_true] at hb
    have hv := of_decide_eq_true hb.2
    obtain ⟨u, rfl, hu⟩ := topB_yes hb.1
    obtain ⟨v, rfl⟩ := Int.eq_ofNat_of_zero_le hv.1
    exact rPut_yes u v h hij hok (by omega) hu (by omega)
theorem rPutS_all (t v : Int) (h : SSR w col i x j b y) (hij : i ≠ j) (hok : y.ok) (hL : y.s.L ≤ 600000) :
    Calls Try.prog 51 #[.pointer (some ⟨b, 0, none⟩), .pointer (some ⟨x, 0, none⟩), .int .i64 t, .int .i64 v] w (PutAR w col i x j b (actE 2 t 0 v) (actP y 2 t 0 v)) := by
  cases hb : actOk 2 t 0 v
  · unfold actE actP
    rw [hb, if_neg (by simp), if_neg (by simp)]
    refine (rPutS_no b x t v w ?_).mono fun _ _ hq => PutAR.quiet h hq
    unfold actOk at hb
    rw [if_neg (by decide), if_pos rfl, Bool.and_eq_false_iff] at hb
    rcases hb with hb | hb
    · exact .inl hb
    · have := of_decide_eq_false hb; omega
  · unfold actE actP
    rw [hb, if_pos rfl, if_pos rfl, if_neg (by decide), if_pos rfl]
    unfold actOk at hb
    rw [if_neg (by decide), if_pos rfl, Bool.and_eq_true] at hb
    have hv := of_decide_eq_true hb.2
    obtain ⟨u, rfl, hu⟩ := topB_yes hb.1
    exact rPutS_yes u v h hij hok (by omega) hu hv
theorem rPutO_all (k t n v : Int) (hk1 : k ≠ 1) (hk2 : k ≠ 2) (h : SSR w col i x j b y) (hij : i ≠ j) (hok : y.ok) (hL : y.s.L ≤ 600000) :
    Calls Try.prog 52 #[.pointer (some ⟨b, 0, none⟩), .pointer (some ⟨x, 0, none⟩), .int .i64 t, .int .i64 n, .int .i64 v] w (PutAR w col i x j b (actE k t n v) (actP y k t n v)) := by
  cases hb : actOk k t n v
  · unfold actE actP
    rw [hb, if_neg (by simp), if_neg (by simp)]
    refine (rPutO_no b x t n v w ?_).mono fun _ _ hq => PutAR.quiet h hq
    unfold actOk at hb
    rw [if_neg hk1, if_neg hk2, Bool.and_eq_false_iff] at hb
    rcases hb with hb | hb
    · exact .inl hb
    · have := of_decide_eq_false hb; omega
  · unfold actE actP
    rw [hb, if_pos rfl, if_pos rfl, if_neg hk1, if_neg hk2]
    unfold actOk at hb
    rw [if_neg hk1, if_neg hk2, Bool.and_eq_true] at hb
    have hv := of_decide_eq_true hb.2
    obtain ⟨u, rfl, hu⟩ := topB_yes hb.1
    obtain ⟨v, rfl⟩ := Int.eq_ofNat_of_zero_le hv.2.2.1
    obtain ⟨n, rfl⟩ := Int.eq_ofNat_of_zero_le (show 0 ≤ n by omega)
    exact rPutO_yes u n v h hij hok (by omega) hu (by omega) (by omega) (by omega)
theorem rGet_all (t : Int) (h : SGR w col i x m g r A c j b z) (hg : Byt g) (hij : i ≠ j) (hr : r ≠ i) (hrj : r ≠ j) (hm : m ≤ 1000000) (hok : z.ok m) :
    Calls Try.prog 56 #[.pointer (some ⟨b, 0, none⟩), .pointer (some ⟨x, 0, none⟩), .int .i64 t] w (NumRR w col i x m g r A c j b (actG g m z 1 t 0)) := by
  cases hb : gotOk 1 t 0
  · unfold actG
    rw [hb, if_neg (by simp)]
    unfold gotOk at hb
    rw [if_pos rfl, Bool.and_true] at hb
    exact (rGet_no b x t w hb).mono fun _ _ hq => NumRR.quiet h hq
  · unfold actG
    rw [hb, if_pos rfl, if_pos rfl]
    unfold gotOk at hb
    rw [if_pos rfl, Bool.and_true] at hb
    obtain ⟨u, rfl, hu⟩ := topB_yes hb
    exact rGet_yes u h hg hij hr hrj hm hok hu
theorem rGetS_all (t : Int) (h : SGR w col i x m g r A c j b z) (hg : Byt g) (hij : i ≠ j) (hr : r ≠ i) (hrj : r ≠ j) (hm : m ≤ 1000000) (hok : z.ok m) :
    Calls Try.prog 57 #[.pointer (some ⟨b, 0, none⟩), .pointer (some ⟨x, 0, none⟩), .int .i64 t] w (NumRR w col i x m g r A c j b (actG g m z 2 t 0)) := by
  cases hb : gotOk 2 t 0
  · unfold actG
    rw [hb, if_neg (by simp)]
    unfold gotOk at hb
    rw [if_neg (by decide), if_pos rfl, Bool.and_true] at hb
    exact (rGetS_no b x t w hb).mono fun _ _ hq => NumRR.quiet h hq
  · unfold actG
    rw [hb, if_pos rfl, if_neg (by decide), if_pos rfl]
    unfold gotOk at hb
    rw [if_neg (by decide), if_pos rfl, Bool.and_true] at hb
    obtain ⟨u, rfl, hu⟩ := topB_yes hb
    exact rGetS_yes u h hg hij hr hrj hm hok hu
theorem rGetO_all (k t n : Int) (hk1 : k ≠ 1) (hk2 : k ≠ 2) (h : SGR w col i x m g r A c j b z) (hg : Byt g) (hij : i ≠ j) (hr : r ≠ i) (hrj : r ≠ j) (hm : m ≤ 1000000) (hok : z.ok m) :
    Calls Try.prog 58 #[.pointer (some ⟨b, 0, none⟩), .pointer (some ⟨x, 0, none⟩), .int .i64 t, .int .i64 n] w (NumRR w col i x m g r A c j b (actG g m z k t n)) := by
  cases hb : gotOk k t n
  · unfold actG
    rw [hb, if_neg (by simp)]
    unfold gotOk at hb
    rw [if_neg hk1, if_neg hk2, Bool.and_eq_false_iff] at hb
    refine (rGetO_no b x t n w ?_).mono fun _ _ hq => NumRR.quiet h hq
    rcases hb with hb | hb
    · exact .inl hb
    · have := of_decide_eq_false hb; omega
  · unfold actG
    rw [hb, if_pos rfl, if_neg hk1, if_neg hk2]
    unfold gotOk at hb
    rw [if_neg hk1, if_neg hk2, Bool.and_eq_true] at hb
    have hv := of_decide_eq_true hb.2
    obtain ⟨u, rfl, hu⟩ := topB_yes hb.1
    obtain ⟨n, rfl⟩ := Int.eq_ofNat_of_zero_le (show 0 ≤ n by omega)
    exact rGetO_yes u n h hg hij hr hrj hm hok hu (by omega) (by omega)
theorem actPutR_any (k t n v : Int) (h : SSR w col i x j b y) (hij : i ≠ j) (hok : y.ok) (hL : y.s.L ≤ 600000) :
    Calls Try.prog 20 #[.agg #[.int .i64 k, .int .i64 t, .int .i64 n, .int .i64 v], .pointer (some ⟨b, 0, none⟩), .pointer (some ⟨x, 0, none⟩)] w (PutAR w col i x j b (actE k t n v) (actP y k t n v)) := by
  have hA := (Kn.start w).new w.heap.size #[.int .i64 k, .int .i64 t, .int .i64 n, .int .i64 v] 33 rfl
  have hS : SSR (w.alloc (.cells #[.int .i64 k, .int .i64 t, .int .i64 n, .int .i64 v] 33)) col i x j b y := SSR.kp h (Kp.below hA.2.1 [] col) (by simp) (by simp)
  have HK : Hid (Kp [i, j] w col (w.alloc (.cells #[.int .i64 k, .int .i64 t, .int .i64 n, .int .i64 v] 33)) col) := Lib.hid (Kp.below hA.2.1 _ _)
  have kc := Box.cells hA.1
  by_cases h1 : k = 1
  · subst h1
    have HE : Hid (actE 1 t n v = actE 1 t 0 v ∧ actP y 1 t n v = actP y 1 t 0 v) := Lib.hid (actP_same (.inl rfl))
    rw [HE.out.1, HE.out.2]
    clear HE
    go_enter Try.func20, Try.ntmps20
    go_wp2_with fail
    refine (rPut_all t v hS hij hok hL).mono ?_
    rintro e w' ⟨c', rfl, hS', hK⟩
    have HK' := Lib.hid (HK.out.trans hK)
    clear hK kc hA hS
    go_wp2
    go_ret
    exact ⟨c', rfl, hS', HK'.out⟩
  · have e1 : (k == 1) = false := by simp [h1]
    by_cases h2 : k = 2
    · subst h2
      have HE : Hid (actE 2 t n v = actE 2 t 0 v ∧ actP y 2 t n v = actP y 2 t 0 v) := Lib.hid (actP_same (.inr rfl))
      rw [HE.out.1, HE.out.2]
      clear HE
      go_enter Try.func20, Try.ntmps20
      go_wp2_with fail
      refine (rPutS_all t v hS hij hok hL).mono ?_
      rintro e w' ⟨c', rfl, hS', hK⟩
      have HK' := Lib.hid (HK.out.trans hK)
      clear hK kc hA hS
      go_wp2
      go_ret
      exact ⟨c', rfl, hS', HK'.out⟩
    · have e2 : (k == 2) = false := by simp [h2]
      have HN := Lib.hid (And.intro h1 h2)
      clear h1 h2
      go_enter Try.func20, Try.ntmps20
      go_wp2_with fail
      refine (rPutO_all k t n v HN.out.1 HN.out.2 hS hij hok hL).mono ?_
      rintro e w' ⟨c', rfl, hS', hK⟩
      have HK' := Lib.hid (HK.out.trans hK)
      clear hK kc hA hS
      go_wp2
      go_ret
      exact ⟨c', rfl, hS', HK'.out⟩
theorem actGetR_any (k t n v : Int) (h : SGR w col i x m g r A c j b z) (hg : Byt g) (hij : i ≠ j) (hr : r ≠ i) (hrj : r ≠ j) (hm : m ≤ 1000000) (hok : z.ok m) :
    Calls Try.prog 27 #[.agg #[.int .i64 k, .int .i64 t, .int .i64 n, .int .i64 v], .pointer (some ⟨b, 0, none⟩), .pointer (some ⟨x, 0, none⟩)] w (NumRR w col i x m g r A c j b (actG g m z k t n)) := by
  have hA := (Kn.start w).new w.heap.size #[.int .i64 k, .int .i64 t, .int .i64 n, .int .i64 v] 33 rfl
  have hS : SGR (w.alloc (.cells #[.int .i64 k, .int .i64 t, .int .i64 n, .int .i64 v] 33)) col i x m g r A c j b z := SGR.kp h (Kp.below hA.2.1 [] col) (by simp) (by simp) (by simp)
  have HK : Hid (Kp [i, j] w col (w.alloc (.cells #[.int .i64 k, .int .i64 t, .int .i64 n, .int .i64 v] 33)) col) := Lib.hid (Kp.below hA.2.1 _ _)
  have kc := Box.cells hA.1
  have HG := Lib.hid hg
  clear hg
  by_cases h1 : k = 1
  · subst h1
    have HE : Hid (actG g m z 1 t n = actG g m z 1 t 0) := Lib.hid (actG_same (.inl rfl))
    rw [HE.out]
    clear HE
    go_enter Try.func27, Try.ntmps27
    go_wp2_with fail
    refine (rGet_all t hS HG.out hij hr hrj hm hok).mono ?_
    rintro e w' ⟨c', rfl, hS', hK⟩
    have HK' := Lib.hid (HK.out.trans hK)
    clear hK kc hA hS
    go_wp2
    go_ret2
    exact ⟨c', rfl, hS', HK'.out⟩
  · have e1 : (k == 1) = false := by simp [h1]
    by_cases h2 : k = 2
    · subst h2
      have HE : Hid (actG g m z 2 t n = actG g m z 2 t 0) := Lib.hid (actG_same (.inr rfl))
      rw [HE.out]
      clear HE
      go_enter Try.func27, Try.ntmps27
      go_wp2_with fail
      refine (rGetS_all t hS HG.out hij hr hrj hm hok).mono ?_
      rintro e w' ⟨c', rfl, hS', hK⟩
      have HK' := Lib.hid (HK.out.trans hK)
      clear hK kc hA hS
      go_wp2
      go_ret2
      exact ⟨c', rfl, hS', HK'.out⟩
    · have e2 : (k == 2) = false := by simp [h2]
      have HN := Lib.hid (And.intro h1 h2)
      clear h1 h2
      go_enter Try.func27, Try.ntmps27
      go_wp2_with fail
      refine (rGetO_all k t n HN.out.1 HN.out.2 hS HG.out hij hr hrj hm hok).mono ?_
      rintro e w' ⟨c', rfl, hS', hK⟩
      have HK' := Lib.hid (HK.out.trans hK)
      clear hK kc hA hS
      go_wp2
      go_ret2
      exact ⟨c', rfl, hS', HK'.out⟩
end
end Go.Proofs.Ytmnoddmecghjdaa
