/- LiftOrders: the order of any block, and what is sorted by it, is as the document says; what is sorted and unsorted is the block. No condition. -/
import Derived.Test.YtfooglenhepogaaAl7
import Derived.Test.YtfooglenhepogaaClose
namespace Go.Proofs.Ytfooglenhepogaa
open Go.ChangeShapes Go.WideShapes Go.ChangeAt Go.RowKit Go.Joins Go.Kin
set_option linter.unusedVariables false
/-- The order of n: how many, and which. -/
def orN (n : Int) : Nat := if n = 4 then 16 else if n = 8 then 64 else 0
def orV (n : Int) (i : Nat) : Int := if n = 4 then (zg 4 i : Nat) else (zg 8 i : Nat)
theorem GivesI.none {w : World} {n : Nat} {f : Nat → Int} {e : Ending} {w' : World} (h : e = .returned (.slice none 0 0) ∧ w = w') (hn : n = 0) : GivesI n f w e w' := by
  obtain ⟨rfl, rfl⟩ := h
  subst hn
  exact ⟨_, _, rfl, Rd.none_ _ _ _, Nat.le_refl _, by omega, fun k o e => (by cases e), Below.refl _ _⟩
theorem GivesI.none' {w : World} {n : Nat} {f f' : Nat → Int} {e : Ending} {w' : World} (h : GivesI 0 f w e w') (hn : n = 0) : GivesI n f' w e w' := by
  obtain ⟨A, c, h1, _, h3, h4, h5, h6⟩ := h
  subst hn
  exact ⟨A, c, h1, Rd.none_ _ _ _, h3, h4, h5, h6⟩
theorem lorder_any (n : Int) (w : World) : Calls Try.prog 38 #[.int .i64 n] w (GivesI (orN n) (orV n) w) := by
  unfold orV
  by_cases h4 : n = 4
  · subst h4; exact order_4 w
  · by_cases h8 : n = 8
    · subst h8; exact order_8 w
    · exact (order_no n w h4 h8).mono fun _ _ h => GivesI.none h (by unfold orN; rw [if_neg h4, if_neg h8])
theorem rorder_any (n : Int) (w : World) : Calls Try.prog 39 #[.int .i64 n] w (GivesI (orN n) (orV n) w) := by
  unfold orV
  by_cases h4 : n = 4
  · subst h4; exact rorder_4 w
  · by_cases h8 : n = 8
    · subst h8; exact rorder_8 w
    · exact (rorder_no n w h4 h8).mono fun _ _ h => GivesI.none h (by unfold orN; rw [if_neg h4, if_neg h8])
def soN (n : Nat) : Nat := if sideN n = 0 then 0 else n
def soV (n : Nat) (g : Nat → Int) (i : Nat) : Int := if n = 16 then g (zg 4 i) else g (zg 8 i)
def unV (n : Nat) (g : Nat → Int) (i : Nat) : Int := if n = 16 then g (zi 4 i) else g (zi 8 i)
section
variable (A : Option Addr) (n c : Nat) (g : Nat → Int) (w : World) (hA : Rd w A n (in64 g))
include hA
theorem lsort_any : Calls Try.prog 36 #[.slice A n c] w (GivesI (soN n) (soV n g) w) := by
  by_cases h : sideN n = 0
  · exact (sort_no A n c w h).mono fun _ _ h' => GivesI.none h' (by unfold soN; rw [if_pos h])
  · unfold soV
    rcases sideN_iff.1 h with rfl | rfl
    · exact sort_4 A c g w hA
    · exact sort_8 A c g w hA
theorem rsort_any : Calls Try.prog 40 #[.slice A n c] w (GivesI (soN n) (soV n g) w) := by
  by_cases h : sideN n = 0
  · exact (rsort_no A n c w h).mono fun _ _ h' => GivesI.none h' (by unfold soN; rw [if_pos h])
  · unfold soV
    rcases sideN_iff.1 h with rfl | rfl
    · exact rsort_4 A c g w hA
    · exact rsort_8 A c g w hA
theorem lunsort_any : Calls Try.prog 37 #[.slice A n c] w (GivesI (soN n) (unV n g) w) := by
  by_cases h : sideN n = 0
  · exact (unsort_no A n c w h).mono fun _ _ h' => GivesI.none h' (by unfold soN; rw [if_pos h])
  · unfold unV
    rcases sideN_iff.1 h with rfl | rfl
    · exact unsort_4 A c g w hA
    · exact unsort_8 A c g w hA
theorem runsort_any : Calls Try.prog 41 #[.slice A n c] w (GivesI (soN n) (unV n g) w) := by
  by_cases h : sideN n = 0
  · exact (runsort_no A n c w h).mono fun _ _ h' => GivesI.none' h' (by unfold soN; rw [if_pos h])
  · unfold unV
    rcases sideN_iff.1 h with rfl | rfl
    · exact runsort_4 A c g w hA
    · exact runsort_8 A c g w hA
end
theorem unso {n : Nat} {g : Nat → Int} (h : n = 16 ∨ n = 64) : ∀ i, i < n → unV n (soV n g) i = g i := by
  unfold unV soV
  rcases h with rfl | rfl
  · intro i hi; simp only [if_true]; rw [zg4_zi i hi]
  · intro i hi; simp only [show ¬ (64 : Nat) = 16 by omega, if_false]; rw [zg8_zi i hi]
theorem soun {n : Nat} {g : Nat → Int} (h : n = 16 ∨ n = 64) : ∀ i, i < n → soV n (unV n g) i = g i := by
  unfold unV soV
  rcases h with rfl | rfl
  · intro i hi; simp only [if_true]; rw [zi4_zg i hi]
  · intro i hi; simp only [show ¬ (64 : Nat) = 16 by omega, if_false]; rw [zi8_zg i hi]
namespace LiftOrders
theorem walk_no (w : World) (m : Int) (A : Option Addr) (n c : Nat) (h : 100 < (n : Int)) :
    Calls Try.prog 13 #[.int .i64 m, .slice A n c] w fun e w' => e = .returned (.bool true) ∧ Below w.heap.size w w' := by
  have K := Kn.start w
  go_enter Try.func13, Try.ntmps13
  go_wp2_with fail
  refine (alive07 _).mono ?_
  rintro e w1 ⟨rfl, hb1⟩
  replace K := K.below hb1
  clear hb1
  replace L : Below _ _ _ := K.1
  go_wp2
  go_ret
  exact ⟨rfl, L⟩
set_option maxRecDepth 100000 in
set_option maxHeartbeats 4000000 in
theorem walk_yes (w : World) (m : Int) (A : Option Addr) (n c : Nat) (g : Nat → Int) (hA : Rd w A n (in64 g)) (h : ¬ 100 < (n : Int)) :
    Calls Try.prog 13 #[.int .i64 m, .slice A n c] w fun e w' => e = .returned (.bool true) ∧ Below w.heap.size w w' := by
  have hn100 : n ≤ 10000 := by omega
  have hs100 : soN n ≤ 10000 := by unfold soN; split <;> omega
  have ho100 : orN m ≤ 10000 := by unfold orN; split <;> (try split) <;> omega
  have HSO := Lib.hid (show (n = 16 ∨ n = 64) → soN n = n from fun h => by unfold soN; rw [if_neg (sideN_iff.2 h)])
  have HSN := Lib.hid (show ¬ (n = 16 ∨ n = 64) → soN n = 0 from fun h => by unfold soN; rw [if_pos (Decidable.byContradiction fun h' => h (sideN_iff.1 h'))])
  have HUS := Lib.hid (fun h => unso (n := n) (g := g) h)
  have HSU := Lib.hid (fun h => soun (n := n) (g := g) h)
  have K := (Kn.start w).add (x := .rd A n (in64 g)) hA
  clear hA
  go_enter Try.func13, Try.ntmps13
  go_wp2_with fail
  refine (lsort_any A n c g _ K.1).mono ?_
  rintro e w1 ⟨A1, c1, rfl, hR1, _, _, _, hb1⟩
  replace K := K.below hb1
  clear hb1
  replace K := K.add (x := .rd A1 (soN n) (in64 (soV n g))) hR1
  clear hR1
  go_wp2_with fail
  refine (lunsort_any A n c g _ K.2.1).mono ?_
  rintro e w2 ⟨A2, c2, rfl, hR2, _, _, _, hb2⟩
  replace K := K.below hb2
  clear hb2
  replace K := K.add (x := .rd A2 (soN n) (in64 (unV n g))) hR2
  clear hR2
  go_wp2_with fail
  refine (lorder_any m _).mono ?_
  rintro e w3 ⟨A3, c3, rfl, hR3, _, _, _, hb3⟩
  replace K := K.below hb3
  clear hb3
  replace K := K.add (x := .rd A3 (orN m) (in64 (orV m))) hR3
  clear hR3
  go_wp2_with fail
  refine (rorder_any m _).mono ?_
  rintro e w4 ⟨A4, c4, rfl, hR4, _, _, _, hb4⟩
  replace K := K.below hb4
  clear hb4
  go_wp2_with fail
  refine (same7_yes A3 A4 (orN m) c3 c4 _ _ _ K.1 hR4 (fun _ _ => rfl) ho100).mono ?_
  rintro e w5 ⟨rfl, hb5⟩
  replace K := K.below hb5
  clear hb5
  clear hR4
  go_wp2_with fail
  refine (rsort_any A n c g _ K.2.2.2.1).mono ?_
  rintro e w6 ⟨A5, c5, rfl, hR5, _, _, _, hb6⟩
  replace K := K.below hb6
  clear hb6
  go_wp2_with fail
  refine (same7_yes A1 A5 (soN n) c1 c5 _ _ _ K.2.2.1 hR5 (fun _ _ => rfl) hs100).mono ?_
  rintro e w7 ⟨rfl, hb7⟩
  replace K := K.below hb7
  clear hb7
  clear hR5
  go_wp2_with fail
  refine (runsort_any A n c g _ K.2.2.2.1).mono ?_
  rintro e w8 ⟨A6, c6, rfl, hR6, _, _, _, hb8⟩
  replace K := K.below hb8
  clear hb8
  go_wp2_with fail
  refine (same7_yes A2 A6 (soN n) c2 c6 _ _ _ K.2.1 hR6 (fun _ _ => rfl) hs100).mono ?_
  rintro e w9 ⟨rfl, hb9⟩
  replace K := K.below hb9
  clear hb9
  clear hR6
  by_cases hn : n = 16 ∨ n = 64
  · have hso := HSO.out hn
    have HH := Lib.hid hn
    have HK := Lib.hid K
    rw [hso] at HK ⊢
    clear K hso hs100
    have K := HK.out
    clear HK
    rcases HH.out with h16 | h16
    · have e1 : ((n : Int) != 16) = false := by simp; omega
      clear hn h16
      go_wp2_with fail
      refine (alive07 _).mono ?_
      rintro e w10 ⟨rfl, hb10⟩
      replace K := K.below hb10
      clear hb10
      go_wp2_with fail
      refine (lunsort_any A1 n c1 _ _ K.2.2.1).mono ?_
      rintro e w11 ⟨A7, c7, rfl, hR7, _, _, _, hb11⟩
      replace K := K.below hb11
      clear hb11
      rw [HSO.out HH.out] at hR7 ⊢
      go_wp2_with fail
      refine (same7_yes A7 A n c7 c _ _ _ hR7 K.2.2.2.1 (HUS.out HH.out) hn100).mono ?_
      rintro e w12 ⟨rfl, hb12⟩
      replace K := K.below hb12
      clear hb12
      clear hR7
      go_wp2_with fail
      refine (lsort_any A2 n c2 _ _ K.2.1).mono ?_
      rintro e w13 ⟨A8, c8, rfl, hR8, _, _, _, hb13⟩
      replace K := K.below hb13
      clear hb13
      rw [HSO.out HH.out] at hR8 ⊢
      go_wp2_with fail
      refine (same7_yes A8 A n c8 c _ _ _ hR8 K.2.2.2.1 (HSU.out HH.out) hn100).mono ?_
      rintro e w14 ⟨rfl, hb14⟩
      replace K := K.below hb14
      clear hb14
      have L : Below _ _ _ := K.2.2.2.2.1
      clear K
      go_wp2
      go_ret
      exact ⟨rfl, L⟩
    · have e1 : ((n : Int) != 16) = true := by simp; omega
      have e2 : ((n : Int) != 64) = false := by simp; omega
      clear hn h16
      go_wp2_with fail
      refine (alive07 _).mono ?_
      rintro e w10 ⟨rfl, hb10⟩
      replace K := K.below hb10
      clear hb10
      go_wp2_with fail
      refine (lunsort_any A1 n c1 _ _ K.2.2.1).mono ?_
      rintro e w11 ⟨A7, c7, rfl, hR7, _, _, _, hb11⟩
      replace K := K.below hb11
      clear hb11
      rw [HSO.out HH.out] at hR7 ⊢
      go_wp2_with fail
      refine (same7_yes A7 A n c7 c _ _ _ hR7 K.2.2.2.1 (HUS.out HH.out) hn100).mono ?_
      rintro e w12 ⟨rfl, hb12⟩
      replace K := K.below hb12
      clear hb12
      clear hR7
      go_wp2_with fail
      refine (lsort_any A2 n c2 _ _ K.2.1).mono ?_
      rintro e w13 ⟨A8, c8, rfl, hR8, _, _, _, hb13⟩
      replace K := K.below hb13
      clear hb13
      rw [HSO.out HH.out] at hR8 ⊢
      go_wp2_with fail
      refine (same7_yes A8 A n c8 c _ _ _ hR8 K.2.2.2.1 (HSU.out HH.out) hn100).mono ?_
      rintro e w14 ⟨rfl, hb14⟩
      replace K := K.below hb14
      clear hb14
      have L : Below _ _ _ := K.2.2.2.2.1
      clear K
      go_wp2
      go_ret
      exact ⟨rfl, L⟩
  · have e1 : ((n : Int) != 16) = true := by simp; omega
    have e2 : ((n : Int) != 64) = true := by simp; omega
    have h0 := HSN.out hn
    have HK := Lib.hid K
    rw [h0] at HK ⊢
    clear K h0 hs100 hn
    have K := HK.out
    clear HK
    go_wp2_with fail
    refine (alive07 _).mono ?_
    rintro e w10 ⟨rfl, hb10⟩
    replace K := K.below hb10
    clear hb10
    have L : Below _ _ _ := K.2.2.2.2.1
    clear K
    go_wp2
    go_ret
    exact ⟨rfl, L⟩
theorem walk (w : World) (m : Int) (hm : I64 m) (A : Option Addr) (n c : Nat) (g : Nat → Int) (hA : Rd w A n (in64 g)) (hg : ∀ i, I64 (g i)) (hc : n ≤ c) (hc2 : c ≤ 9223372036854775807) :
    Calls Try.prog 13 #[.int .i64 m, .slice A n c] w fun e w' => e = .returned (.bool true) ∧ Below w.heap.size w w' := by
  by_cases h : 100 < (n : Int)
  · exact walk_no w m A n c h
  · exact walk_yes w m A n c g hA h
end LiftOrders
namespace LiftOrders
set_option maxRecDepth 100000 in
theorem lifted (os : Os) (started : os.Started) (H : Type) (enc : TypeId × Value → H) :
    ReturnsInHanded {} Try.checked os 13 .any (Rows.liftOrdersSpec.pre6 enc Try.prog Try.f13 Rows.liftOrdersRow.domain false) (Rows.liftOrdersSpec.post enc Try.prog Try.f13 false true false false) := by
  refine returnsInHanded_of_change (C := Try.checked) own started (by kernel_rfl) Try.func13
    (ChangeSpec.witness6 (enc := enc) (C := Try.checked) false ⟨#[], #[.int .i64 0, .slice none 0 0], []⟩ 8 (by kernel_rfl) (by kernel_rfl) (by kernel_rfl) (by kernel_rfl)) ?_
  intro W base args ds gs before hval0 hW hcnd _
  have hval : ∀ (j : Nat) t v, Try.f13.params[j]? = some t → args[j]? = some v → Value.okWide Try.prog W .any base t v := hval0
  refine law_post (tb := 4) laidOut (by kernel_rfl) rfl Try.underlying4 rfl (fun ds' h => ?_) hW ?_
  · rw [Try.params13] at h
    match ds', h with
    | [d1, d2], _ => exact ⟨rfl, rfl, rfl⟩
  obtain ⟨p, q, hA0, hV, rfl, hfz, hnd⟩ := hW
  have hA : DataW.TrodAll enc Try.prog W 0 (fun _ => true) true Try.f13.params.toList args.toList ds p := hA0
  rw [Try.params13] at hA hval
  obtain ⟨v0, vs0, d0, ds0, p0, q0, hargs, rfl, rfl, h0, r0⟩ := trodAll_cons hA
  obtain ⟨v1, vs1, d1, ds1, p1, q1, rfl, rfl, rfl, h1, r1⟩ := trodAll_cons r0
  obtain ⟨rfl, rfl, rfl⟩ := trodAll_nil r1
  obtain rfl : args = #[v0, v1] := by cases args; simp_all
  obtain ⟨a0, rfl, rfl, rfl, w0⟩ := open_int Try.underlying3 (hval 0 3 v0 rfl rfl) h0
  obtain ⟨A1, n1, c1, g1, rfl, rr1, t1, l1, m1⟩ := open_intsl Try.underlying55 Try.underlying3 (by kernel_rfl) (hval 1 55 v1 rfl rfl) h1
  exact walk W a0 (bounds_i64 w0) A1 n1 c1 g1 rr1 t1 l1 m1
theorem over : Rows.liftOrdersRow.holds Try.pinned (OpenSpec.ofChange Rows.liftOrdersSpec) :=
  OpenClaim.holds_of_wide 13 Try.f13 rfl rfl rfl rfl rfl rfl rfl ⟨rfl, rfl, rfl, rfl, rfl⟩ rfl rfl rfl rfl rfl (by kernel_rfl) Try.func13 (by kernel_rfl)
    (of_decide_eq_true (by kernel_rfl)) (by unfold Func.isWrapper; first | (rw [if_pos (by decide +kernel)]; kernel_rfl) | (rw [if_neg (by decide +kernel)]; exact ⟨rfl, rfl⟩))
    (fun os started H enc _ => lifted os started H enc)
end LiftOrders
theorem liftOrders_holds : Rows.LiftOrdersSaid := LiftOrders.over

end Go.Proofs.Ytfooglenhepogaa
