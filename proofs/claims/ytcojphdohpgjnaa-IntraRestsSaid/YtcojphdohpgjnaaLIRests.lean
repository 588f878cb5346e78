/- IntraRests: the rest of any samples, and any guess with any rest, are as the document says; together they are the samples: proved for every input, no condition. -/
import Derived.Test.YtcojphdohpgjnaaAl9
import Derived.Test.YtcojphdohpgjnaaRg4
import Derived.Test.YtcojphdohpgjnaaClose
namespace Go.Kin
theorem clipR_back {g h : Nat → Int} (hg : Byt g) (hh : Byt h) (i : Nat) : clipR h (fun i => g i - h i) i = g i := by
  have := hg i
  have := hh i
  unfold clipR clip8
  dsimp only
  omega
end Go.Kin
namespace Go.Proofs.Ytcojphdohpgjnaa
open Go.ChangeShapes Go.WideShapes Go.ChangeAt Go.RowKit Go.Joins Go.Kin
set_option linter.unusedVariables false

/-- A slice of bytes. -/
def GivesS (N : Nat) (g : Nat → Int) (w : World) (e : Ending) (w' : World) : Prop := ∃ A c, e = .returned (.slice A N c) ∧ Rd w' A N (by8 g) ∧ Below w.heap.size w w'
/-- A slice of numbers. -/
def GivesI (N : Nat) (g : Nat → Int) (w : World) (e : Ending) (w' : World) : Prop := ∃ A c, e = .returned (.slice A N c) ∧ Rd w' A N (in64 g) ∧ Below w.heap.size w w'
theorem rest_both (A B : Option Addr) (n c m d : Nat) (g h : Nat → Int) (w : World) (hA : Rd w A n (by8 g)) (hB : Rd w B m (by8 h)) (hg : Byt g) (hh : Byt h) (hn : n ≤ 200) : ∃ N gg, N ≤ 200 ∧ (n = m → N = n ∧ ∀ i, i < n → gg i = g i - h i) ∧
    (∀ w1, Below w.heap.size w w1 → Calls Try.prog 20 #[.slice A n c, .slice B m d] w1 (GivesI N gg w1)) ∧
    (∀ w1, Below w.heap.size w w1 → Calls Try.prog 21 #[.slice A n c, .slice B m d] w1 (GivesI N gg w1)) := by
  by_cases e : n = m
  · subst e
    exact ⟨n, fun i => g i - h i, hn, fun _ => ⟨rfl, fun _ _ => rfl⟩, fun w1 hw => (irest_yes A B n c d g h w1 (hA.below hw) (hB.below hw) hg hh (by omega)).mono fun _ _ ⟨b, h1, h2, h3, h4⟩ => ⟨_, _, h1, h3.rd, h4⟩,
      fun w1 hw => (rrest_yes A B n c d g h w1 (hA.below hw) (hB.below hw) hg hh (by omega)).mono fun _ _ ⟨A', c', h1, h2, h3⟩ => ⟨_, _, h1, h2.rd, h3⟩⟩
  · exact ⟨0, fun _ => 0, by omega, fun h => absurd h e, fun w1 _ => (irest_no A B n c m d w1 (neN_of e)).mono fun _ _ ⟨h1, h2⟩ => ⟨_, _, h1, Rd.none_ _ _ _, h2 ▸ Below.refl _ _⟩,
      fun w1 _ => (rrest_no A B n c m d w1 (neN_of e)).mono fun _ _ ⟨h1, h2⟩ => ⟨_, _, h1, Rd.none_ _ _ _, h2 ▸ Below.refl _ _⟩⟩
theorem clip_both (A B : Option Addr) (n c m d : Nat) (g r : Nat → Int) (w : World) (hA : Rd w A n (by8 g)) (hB : Rd w B m (in64 r)) (hg : Byt g) (hn : n ≤ 200) : ∃ N gg,
    (∀ w1, Below w.heap.size w w1 → Calls Try.prog 22 #[.slice A n c, .slice B m d] w1 (GivesS N gg w1)) ∧
    (∀ w1, Below w.heap.size w w1 → Calls Try.prog 24 #[.slice A n c, .slice B m d] w1 (GivesS N gg w1)) := by
  by_cases e : n = m
  · subst e
    exact ⟨n, clipR g r, fun w1 hw => (iclips_yes A B n c d g r w1 (hA.below hw) (hB.below hw) hg (by omega)).mono fun _ _ ⟨b, h1, h2, h3, h4⟩ => ⟨_, _, h1, h3.rd, h4⟩,
      fun w1 hw => (rclips_yes A B n c d g r w1 (hA.below hw) (hB.below hw) hg (by omega)).mono fun _ _ ⟨A', c', h1, h2, h3⟩ => ⟨_, _, h1, h2.rd, h3⟩⟩
  · exact ⟨0, fun _ => 0, fun w1 _ => (iclips_no A B n c m d w1 (neN_of e)).mono fun _ _ ⟨h1, h2⟩ => ⟨_, _, h1, Rd.none_ _ _ _, h2 ▸ Below.refl _ _⟩,
      fun w1 _ => (rclips_no A B n c m d w1 (neN_of e)).mono fun _ _ ⟨h1, h2⟩ => ⟨_, _, h1, Rd.none_ _ _ _, h2 ▸ Below.refl _ _⟩⟩

namespace IntraRests
set_option maxRecDepth 100000 in
set_option maxHeartbeats 2000000 in
theorem walk_no (w : World) (A B C : Option Addr) (n c m d k f : Nat) (h : 200 < (n : Int) ∨ (¬ 200 < (n : Int) ∧ 200 < (m : Int)) ∨ (¬ 200 < (n : Int) ∧ ¬ 200 < (m : Int) ∧ 200 < (k : Int))) :
    Calls Try.prog 7 #[.slice A n c, .slice B m d, .slice C k f] w fun e w' => e = .returned (.bool true) ∧ Below w.heap.size w w' := by
  have K := Kn.start w
  rcases h with h1 | ⟨h1, h2⟩ | ⟨h1, h2, h3⟩
  all_goals go_enter Try.func7, Try.ntmps7
  all_goals go_wp2_with fail
  all_goals refine (alive09 _).mono ?_
  all_goals rintro e w1 ⟨rfl, hb1⟩
  all_goals replace K := K.below hb1
  all_goals clear hb1
  all_goals replace L : Below _ _ _ := K.1
  all_goals go_wp2
  all_goals go_ret
  all_goals exact ⟨rfl, L⟩
set_option maxRecDepth 100000 in
set_option maxHeartbeats 4000000 in
theorem walk_yes (w : World) (A B C : Option Addr) (n c m d k f : Nat) (g h r : Nat → Int) (hA : Rd w A n (by8 g)) (hB : Rd w B m (by8 h)) (hC : Rd w C k (in64 r)) (hg : Byt g) (hh : Byt h) (h1 : ¬ 200 < (n : Int)) (h2 : ¬ 200 < (m : Int)) (h3 : ¬ 200 < (k : Int)) :
    Calls Try.prog 7 #[.slice A n c, .slice B m d, .slice C k f] w fun e w' => e = .returned (.bool true) ∧ Below w.heap.size w w' := by
  obtain ⟨N, gg, hN, hNm, hR1, hR2⟩ := rest_both A B n c m d g h w hA hB hg hh (by omega)
  obtain ⟨M, cc, hC1, hC2⟩ := clip_both B C m d k f h r w hB hC hh (by omega)
  have HR1 := Lib.hid hR1
  have HR2 := Lib.hid hR2
  have HC1 := Lib.hid hC1
  have HC2 := Lib.hid hC2
  have HNM := Lib.hid hNm
  clear hR1 hR2 hC1 hC2 hNm
  have K := ((Kn.start w).add (x := .rd A n (by8 g)) hA).add (x := .rd B m (by8 h)) hB
  clear hA hB hC
  go_enter Try.func7, Try.ntmps7
  go_wp2_with fail
  refine (HR1.out _ K.2.2.1).mono ?_
  rintro e w1 ⟨A1, c1, rfl, Q1, hb1⟩
  replace K := K.below hb1
  clear hb1
  replace L : Below _ _ _ := K.2.2.1
  replace K := K.add (x := .rd A1 N (in64 gg)) Q1
  go_wp2_with fail
  refine (HR2.out _ L).mono ?_
  rintro e w2 ⟨A2, c2, rfl, Q2, hb2⟩
  replace K := K.below hb2
  clear hb2
  replace L : Below _ _ _ := K.2.2.2.1
  replace K := K.add (x := .rd A2 N (in64 gg)) Q2
  clear Q1 Q2
  go_wp2
  replace K := Kn.drew K
  by_cases e : n = m
  · obtain ⟨e1, e2⟩ := HNM.out e
    subst e
    subst e1
    have q1 : ((N : Int) != (N : Int)) = false := by simp
    have HX : Hid (∀ i, i < N → by8 (clipR h gg) i = by8 g i) := Lib.hid (fun i hi => by simp only [by8]; rw [← clipR_back hg hh i]; unfold clipR; rw [e2 i hi])
    have HE2 := Lib.hid e2
    clear e2
    refine wp_region_allX (fun w' => Kn w' _) [8] [(0,1),(1,1),(2,1),(3,1),(4,1),(5,1),(6,1),(7,1),(10,1),(11,1),(8,2),(9,1),(12,1),(13,1),(14,0)] (by kernel_rfl) (by kernel_rfl) (fun _ _ d _ _ h => by cases d <;> exact h) (K) ?_
    generalize World.drew _ = wd at K ⊢
    repeat (first | (refine oX_freeG rfl rfl (fun w' hS => by have s1 := conv_any (c := c) hS.2.2.2.1; clear hS; go_simp; with_reducible rfl) ?_; go_simp) | (refine oX_skipG rfl rfl ?_; go_simp))
    refine oX_doG rfl rfl (fun KK hKK => ?_)
    go_simp
    refine (iclips_yes B A1 N d c1 h gg _ K.2.2.1 K.2.1 hh (by omega)).mono ?_
    rintro e w5 ⟨b5, rfl, _, Q5, hb5⟩
    replace K := K.below hb5
    replace K := K.add (x := .rd (some ⟨b5, 0, none⟩) N (by8 g)) ((Row.rd Q5).congr HX.out)
    refine hKK (fun w' => Kn w' _) _ _ ?hsub K ?_
    case hsub => exact fun _ h => h.2
    clear hKK KK hb5
    clear Q5
    repeat (first | (refine oX_freeG rfl rfl (fun w' hS => by have s1 := conv_any (c := N) hS.1; clear hS; go_simp; with_reducible rfl) ?_; go_simp) | (refine oX_skipG rfl rfl ?_; go_simp))
    repeat (refine oX_still rfl (fun KK hKK => ?_); go_simp; refine hKK _ ?_; clear hKK KK)
    refine oX_nil ?_
    replace K := K.2
    clear q1
    go_wp2
    replace K := Kn.drew K
    refine wp_region_allX (fun w' => Kn w' _) [0, 4, 9, 13] [(0,2),(1,1),(2,1),(3,1),(4,2),(5,1),(6,1),(7,1),(8,1),(11,1),(12,1),(9,2),(10,1),(13,2),(14,1),(15,1),(16,1),(17,1),(18,1),(19,1),(20,0)] (by kernel_rfl) (by kernel_rfl) (fun _ _ d _ _ h => by cases d <;> exact h) (K) ?_
    generalize World.drew _ = wd6 at K ⊢
    refine oX_doG rfl rfl (fun KK hKK => ?_)
    go_simp
    refine (alive09 _).mono ?_
    rintro e w6 ⟨rfl, hb6⟩
    replace K := K.below hb6
    refine hKK (fun w' => Kn w' _) _ _ ?hsub K ?_
    case hsub => exact fun _ h => h
    clear hKK KK hb6
    repeat (first | (refine oX_freeG rfl rfl (fun w' hS => by skip; clear hS; go_simp; with_reducible rfl) ?_; go_simp) | (refine oX_skipG rfl rfl ?_; go_simp))
    refine oX_doG rfl rfl (fun KK hKK => ?_)
    go_simp
    refine (same7_yes _ _ N _ _ gg _ K.2.1 K.1 (by omega)).mono ?_
    rintro e w7 ⟨rfl, hb7⟩
    replace K := K.below hb7
    refine hKK (fun w' => Kn w' _) _ _ ?hsub K ?_
    case hsub => exact fun _ h => h
    clear hKK KK hb7
    repeat (first | (refine oX_freeG rfl rfl (fun w' hS => by skip; clear hS; go_simp; with_reducible rfl) ?_; go_simp) | (refine oX_skipG rfl rfl ?_; go_simp))
    refine oX_doG rfl rfl (fun KK hKK => ?_)
    go_simp
    refine (HC1.out _ K.2.2.2.2.1).mono ?_
    rintro e w8 ⟨A8, c8, rfl, Q8, hb8⟩
    replace K := K.below hb8
    replace K := K.add (x := .rd A8 M (by8 cc)) Q8
    refine hKK (fun w' => Kn w' _) _ _ ?hsub K ?_
    case hsub => exact fun _ h => h.2
    clear hKK KK hb8
    clear Q8
    repeat (first | (refine oX_freeG rfl rfl (fun w' hS => by have s1 := conv_any (c := c8) hS.1; clear hS; go_simp; with_reducible rfl) ?_; go_simp) | (refine oX_skipG rfl rfl ?_; go_simp))
    refine oX_doG rfl rfl (fun KK hKK => ?_)
    go_simp
    refine (HC2.out _ K.2.2.2.2.2.1).mono ?_
    rintro e w9 ⟨A9, c9, rfl, Q9, hb9⟩
    replace K := K.below hb9
    replace K := K.add (x := .rd A9 M (by8 cc)) Q9
    refine hKK (fun w' => Kn w' _) _ _ ?hsub K ?_
    case hsub => exact fun _ h => h.2
    clear hKK KK hb9
    clear Q9
    repeat (first | (refine oX_freeG rfl rfl (fun w' hS => by have s1 := conv_any (c := c9) hS.1; clear hS; go_simp; with_reducible rfl) ?_; go_simp) | (refine oX_skipG rfl rfl ?_; go_simp))
    repeat (refine oX_still rfl (fun KK hKK => ?_); go_simp; refine hKK _ ?_; clear hKK KK)
    refine oX_nil ?_
    have L : Below _ _ _ := K.2.2.2.2.2.2.1
    clear K
    go_wp2
    go_ret
    exact ⟨rfl, L⟩
  · obtain ⟨q0, q1, q2, q3, q4⟩ := neN_of e
    refine wp_region_allX (fun w' => Kn w' _) [8] [(0,1),(1,1),(2,1),(3,1),(4,1),(5,1),(6,1),(7,1),(10,1),(11,1),(8,2),(9,1),(12,1),(13,1),(14,0)] (by kernel_rfl) (by kernel_rfl) (fun _ _ d _ _ h => by cases d <;> exact h) (K) ?_
    generalize World.drew _ = wd at K ⊢
    repeat (first | (refine oX_freeG rfl rfl (fun w' hS => by skip; clear hS; go_simp; with_reducible rfl) ?_; go_simp) | (refine oX_skipG rfl rfl ?_; go_simp))
    refine oX_passG rfl rfl K ?_
    go_simp
    repeat (first | (refine oX_freeG rfl rfl (fun w' hS => by skip; clear hS; go_simp; with_reducible rfl) ?_; go_simp) | (refine oX_skipG rfl rfl ?_; go_simp))
    repeat (refine oX_still rfl (fun KK hKK => ?_); go_simp; refine hKK _ ?_; clear hKK KK)
    refine oX_nil ?_
    clear q0 q1 q2 q3 q4 HNM
    go_wp2
    replace K := Kn.drew K
    refine wp_region_allX (fun w' => Kn w' _) [0, 4, 9, 13] [(0,2),(1,1),(2,1),(3,1),(4,2),(5,1),(6,1),(7,1),(8,1),(11,1),(12,1),(9,2),(10,1),(13,2),(14,1),(15,1),(16,1),(17,1),(18,1),(19,1),(20,0)] (by kernel_rfl) (by kernel_rfl) (fun _ _ d _ _ h => by cases d <;> exact h) (K) ?_
    generalize World.drew _ = wd6 at K ⊢
    refine oX_doG rfl rfl (fun KK hKK => ?_)
    go_simp
    refine (alive09 _).mono ?_
    rintro e w6 ⟨rfl, hb6⟩
    replace K := K.below hb6
    refine hKK (fun w' => Kn w' _) _ _ ?hsub K ?_
    case hsub => exact fun _ h => h
    clear hKK KK hb6
    repeat (first | (refine oX_freeG rfl rfl (fun w' hS => by skip; clear hS; go_simp; with_reducible rfl) ?_; go_simp) | (refine oX_skipG rfl rfl ?_; go_simp))
    refine oX_doG rfl rfl (fun KK hKK => ?_)
    go_simp
    refine (same7_yes _ _ N _ _ gg _ K.2.1 K.1 (by omega)).mono ?_
    rintro e w7 ⟨rfl, hb7⟩
    replace K := K.below hb7
    refine hKK (fun w' => Kn w' _) _ _ ?hsub K ?_
    case hsub => exact fun _ h => h
    clear hKK KK hb7
    repeat (first | (refine oX_freeG rfl rfl (fun w' hS => by skip; clear hS; go_simp; with_reducible rfl) ?_; go_simp) | (refine oX_skipG rfl rfl ?_; go_simp))
    refine oX_doG rfl rfl (fun KK hKK => ?_)
    go_simp
    refine (HC1.out _ K.2.2.2.2.1).mono ?_
    rintro e w8 ⟨A8, c8, rfl, Q8, hb8⟩
    replace K := K.below hb8
    replace K := K.add (x := .rd A8 M (by8 cc)) Q8
    refine hKK (fun w' => Kn w' _) _ _ ?hsub K ?_
    case hsub => exact fun _ h => h.2
    clear hKK KK hb8
    clear Q8
    repeat (first | (refine oX_freeG rfl rfl (fun w' hS => by have s1 := conv_any (c := c8) hS.1; clear hS; go_simp; with_reducible rfl) ?_; go_simp) | (refine oX_skipG rfl rfl ?_; go_simp))
    refine oX_doG rfl rfl (fun KK hKK => ?_)
    go_simp
    refine (HC2.out _ K.2.2.2.2.2.1).mono ?_
    rintro e w9 ⟨A9, c9, rfl, Q9, hb9⟩
    replace K := K.below hb9
    replace K := K.add (x := .rd A9 M (by8 cc)) Q9
    refine hKK (fun w' => Kn w' _) _ _ ?hsub K ?_
    case hsub => exact fun _ h => h.2
    clear hKK KK hb9
    clear Q9
    repeat (first | (refine oX_freeG rfl rfl (fun w' hS => by have s1 := conv_any (c := c9) hS.1; clear hS; go_simp; with_reducible rfl) ?_; go_simp) | (refine oX_skipG rfl rfl ?_; go_simp))
    repeat (refine oX_still rfl (fun KK hKK => ?_); go_simp; refine hKK _ ?_; clear hKK KK)
    refine oX_nil ?_
    have L : Below _ _ _ := K.2.2.2.2.2.2.1
    clear K
    go_wp2
    go_ret
    exact ⟨rfl, L⟩

theorem walk (w : World) (A : Option Addr) (n c : Nat) (g : Nat → Int) (hA : Rd w A n (by8 g)) (hg : Byt g) (hc : n ≤ c) (hc2 : c ≤ 9223372036854775807) (B : Option Addr) (m d : Nat) (h : Nat → Int) (hB : Rd w B m (by8 h)) (hh : Byt h) (hd : m ≤ d) (hd2 : d ≤ 9223372036854775807)
    (C : Option Addr) (k f : Nat) (r : Nat → Int) (hC : Rd w C k (in64 r)) (hr : ∀ i, I64 (r i)) (hf : k ≤ f) (hf2 : f ≤ 9223372036854775807) :
    Calls Try.prog 7 #[.slice A n c, .slice B m d, .slice C k f] w fun e w' => e = .returned (.bool true) ∧ Below w.heap.size w w' := by
  by_cases h1 : 200 < (n : Int)
  · exact walk_no w A B C n c m d k f (.inl h1)
  by_cases h2 : 200 < (m : Int)
  · exact walk_no w A B C n c m d k f (.inr (.inl ⟨h1, h2⟩))
  by_cases h3 : 200 < (k : Int)
  · exact walk_no w A B C n c m d k f (.inr (.inr ⟨h1, h2, h3⟩))
  exact walk_yes w A B C n c m d k f g h r hA hB hC hg hh h1 h2 h3
end IntraRests
namespace IntraRests
set_option maxRecDepth 100000 in
theorem lifted (os : Os) (started : os.Started) (H : Type) (enc : TypeId × Value → H) :
    ReturnsInHanded {} Try.checked os 7 .any (Rows.intraRestsSpec.pre6 enc Try.prog Try.f7 Rows.intraRestsRow.domain false) (Rows.intraRestsSpec.post enc Try.prog Try.f7 false true false false) := by
  refine returnsInHanded_of_change (C := Try.checked) own started (by kernel_rfl) Try.func7
    (ChangeSpec.witness6 (enc := enc) (C := Try.checked) false ⟨#[], #[.slice none 0 0, .slice none 0 0, .slice none 0 0], []⟩ 8 (by kernel_rfl) (by kernel_rfl) (by kernel_rfl) (by kernel_rfl)) ?_
  intro W base args ds gs before hval0 hW hcnd _
  have hval : ∀ (j : Nat) t v, Try.f7.params[j]? = some t → args[j]? = some v → Value.okWide Try.prog W .any base t v := hval0
  refine law_post (tb := 4) laidOut (by kernel_rfl) rfl Try.underlying4 rfl (fun ds' h => ?_) hW ?_
  · rw [Try.params7] at h
    match ds', h with
    | [d1, d2, d3], _ => exact ⟨rfl, rfl, rfl⟩
  obtain ⟨p, q, hA0, hV, rfl, hfz, hnd⟩ := hW
  have hA : DataW.TrodAll enc Try.prog W 0 (fun _ => true) true Try.f7.params.toList args.toList ds p := hA0
  rw [Try.params7] at hA hval
  obtain ⟨v0, vs0, d0, ds0, p0, q0, hargs, rfl, rfl, h0, r0⟩ := trodAll_cons hA
  obtain ⟨v1, vs1, d1, ds1, p1, q1, rfl, rfl, rfl, h1, r1⟩ := trodAll_cons r0
  obtain ⟨v2, vs2, d2, ds2, p2, q2, rfl, rfl, rfl, h2, r2⟩ := trodAll_cons r1
  obtain ⟨rfl, rfl, rfl⟩ := trodAll_nil r2
  obtain rfl : args = #[v0, v1, v2] := by cases args; simp_all
  obtain ⟨A0, n0, c0, g0, rfl, rr0, t0, l0, m0⟩ := open_bytes Try.underlying22 Try.underlying5 (by kernel_rfl) (hval 0 22 v0 rfl rfl) h0
  obtain ⟨A1, n1, c1, g1, rfl, rr1, t1, l1, m1⟩ := open_bytes Try.underlying22 Try.underlying5 (by kernel_rfl) (hval 1 22 v1 rfl rfl) h1
  obtain ⟨A2, n2, c2, g2, rfl, rr2, t2, l2, m2⟩ := open_intsl Try.underlying39 Try.underlying3 (by kernel_rfl) (hval 2 39 v2 rfl rfl) h2
  exact walk W A0 n0 c0 g0 rr0 t0 l0 m0 A1 n1 c1 g1 rr1 t1 l1 m1 A2 n2 c2 g2 rr2 t2 l2 m2
theorem over : Rows.intraRestsRow.holds Try.pinned (OpenSpec.ofChange Rows.intraRestsSpec) :=
  OpenClaim.holds_of_wide 7 Try.f7 rfl rfl rfl rfl rfl rfl rfl ⟨rfl, rfl, rfl, rfl, rfl⟩ rfl rfl rfl rfl rfl (by kernel_rfl) Try.func7 (by kernel_rfl)
    (of_decide_eq_true (by kernel_rfl)) (by unfold Func.isWrapper; first | (rw [if_pos (by decide +kernel)]; kernel_rfl) | (rw [if_neg (by decide +kernel)]; exact ⟨rfl, rfl⟩))
    (fun os started H enc _ => lifted os started H enc)
end IntraRests
theorem intraRests_holds : Rows.IntraRestsSaid := IntraRests.over

end Go.Proofs.Ytcojphdohpgjnaa
