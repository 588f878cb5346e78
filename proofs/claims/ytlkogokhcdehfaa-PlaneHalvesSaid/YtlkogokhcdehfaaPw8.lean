/- Walks of package plane: Half and Far, and the document's. -/
import Derived.Test.YtlkogokhcdehfaaGiv
import Derived.Test.YtlkogokhcdehfaaRg3
import Derived.Test.YtlkogokhcdehfaaPw3
namespace Go.Kin
/-- How far two samples are. -/
def dist (a b : Int) : Int := max a b - min a b
/-- The sum of how far the first k samples are apart. -/
def farS (g h : Nat → Int) : Nat → Int
  | 0 => 0
  | k + 1 => farS g h k + dist (g k) (h k)
theorem dist_bd {a b : Int} (ha : 0 ≤ a ∧ a ≤ 255) (hb : 0 ≤ b ∧ b ≤ 255) : 0 ≤ dist a b ∧ dist a b ≤ 255 := by unfold dist; omega
theorem farS_bd {g h : Nat → Int} (hg : Byt g) (hh : Byt h) : ∀ k, 0 ≤ farS g h k ∧ farS g h k ≤ 255 * k
  | 0 => by simp [farS]
  | k + 1 => by
    have := farS_bd hg hh k
    have := dist_bd (hg k) (hh k)
    simp only [farS]
    omega
end Go.Kin
namespace Go.Proofs.Ytlkogokhcdehfaa
open Go.RowKit Go.Kin
set_option linter.unusedVariables false

theorem ret_far {k l : IntKind} {a b c d : Int} (h : a = b) (h' : c = d) : Ending.returned (.tuple #[.int k a, .int l c]) = .returned (.tuple #[.int k b, .int l d]) := by rw [h, h']
/-- The tests of Far. -/
def farB (p q : PlV) : Bool := rightB p.a p.b p.n && rightB q.a q.b q.n && (p.a == q.a) && (p.b == q.b)
theorem farB_no {p q : PlV} (h : farB p q = false) : rightB p.a p.b p.n = false ∨ (rightB p.a p.b p.n = true ∧ rightB q.a q.b q.n = false) ∨ (rightB p.a p.b p.n = true ∧ rightB q.a q.b q.n = true ∧ (p.a != q.a) = true) ∨ (rightB p.a p.b p.n = true ∧ rightB q.a q.b q.n = true ∧ (p.a != q.a) = false ∧ (p.b != q.b) = true) := by
  unfold farB at h
  cases h1 : rightB p.a p.b p.n
  · exact .inl rfl
  cases h2 : rightB q.a q.b q.n
  · exact .inr (.inl ⟨rfl, rfl⟩)
  rw [h1, h2] at h
  by_cases h3 : p.a = q.a
  · by_cases h4 : p.b = q.b
    · simp [h3, h4] at h
    · exact .inr (.inr (.inr ⟨rfl, rfl, by simp [h3], by simp [h4]⟩))
  · exact .inr (.inr (.inl ⟨rfl, rfl, by simp [h3]⟩))

set_option maxHeartbeats 1000000 in
theorem far_no (p q : PlV) (w : World) (h : farB p q = false) :
    Calls Try.prog 40 #[.agg #[.int .i64 p.a, .int .i64 p.b, .slice p.A p.n p.c], .agg #[.int .i64 q.a, .int .i64 q.b, .slice q.A q.n q.c]] w fun e w' => e = .returned (.tuple #[.int .i64 0, .int .i64 61]) ∧ Below w.heap.size w w' := by
  have K := Kn.start w
  rcases farB_no h with h1 | ⟨h1, h2⟩ | ⟨h1, h2, h3⟩ | ⟨h1, h2, h3, h4⟩
  all_goals clear h
  · go_enter Try.func40, Try.ntmps40
    go_wp2_with fail
    refine (right_any _ _ _ _ _ _).mono ?_
    rintro e w1 ⟨rfl, hb1⟩
    replace K := ((K.new w.heap.size _ _ rfl).new (w.heap.size + 1) _ _ (by simp)).below hb1
    clear hb1
    replace kc0 := Box.cells K.1
    replace kl0 := Box.lt K.1
    replace kc1 := Box.cells K.2.1
    replace kl1 := Box.lt K.2.1
    replace L : Below _ _ _ := K.2.2.1
    go_wp2
    go_ret2
    exact ⟨rfl, L⟩
  all_goals go_enter Try.func40, Try.ntmps40
  all_goals go_wp2_with fail
  all_goals refine (right_any _ _ _ _ _ _).mono ?_
  all_goals rintro e w1 ⟨rfl, hb1⟩
  all_goals replace K := ((K.new w.heap.size _ _ rfl).new (w.heap.size + 1) _ _ (by simp)).below hb1
  all_goals clear hb1
  all_goals replace kc0 := Box.cells K.1
  all_goals replace kl0 := Box.lt K.1
  all_goals replace kc1 := Box.cells K.2.1
  all_goals replace kl1 := Box.lt K.2.1
  all_goals replace L : Below _ _ _ := K.2.2.1
  all_goals go_wp2_with fail
  all_goals refine (right_any _ _ _ _ _ _).mono ?_
  all_goals rintro e w2 ⟨rfl, hb2⟩
  all_goals replace K := K.below hb2
  all_goals clear hb2
  all_goals replace kc0 := Box.cells K.1
  all_goals replace kl0 := Box.lt K.1
  all_goals replace kc1 := Box.cells K.2.1
  all_goals replace kl1 := Box.lt K.2.1
  all_goals replace L : Below _ _ _ := K.2.2.1
  all_goals go_wp2
  all_goals go_ret2
  all_goals exact ⟨rfl, L⟩

set_option maxHeartbeats 1000000 in
theorem far_yes (p q : PlV) (w : World) (hp : p.Ok w) (hq : q.Ok w) (h : farB p q = true) :
    Calls Try.prog 40 #[.agg #[.int .i64 p.a, .int .i64 p.b, .slice p.A p.n p.c], .agg #[.int .i64 q.a, .int .i64 q.b, .slice q.A q.n q.c]] w fun e w' => e = .returned (.tuple #[.int .i64 (farS p.g q.g p.n), .int .i64 0]) ∧ Below w.heap.size w w' := by
  obtain ⟨a, b, A, n, c, g⟩ := p
  obtain ⟨a', b', A', n', c', g'⟩ := q
  simp only [farB, Bool.and_eq_true, beq_iff_eq] at h
  obtain ⟨⟨⟨h1, h2⟩, h3⟩, h4⟩ := h
  dsimp only at h1 h2 h3 h4 ⊢
  subst h3 h4
  obtain ⟨_, _, _, _, e1⟩ := rightB_iff.1 h1
  obtain ⟨_, _, _, _, e2⟩ := rightB_iff.1 h2
  obtain rfl : n = n' := by omega
  clear e1 e2
  have hn := rightB_le h1
  have hn1 := rightB_pos h1
  have hg := hp.byt
  have hg' := hq.byt
  obtain ⟨bA, oA, rfl, _, _⟩ := hp.rd.some_ hn1
  obtain ⟨bB, oB, rfl, _, _⟩ := hq.rd.some_ hn1
  have K := ((Kn.start w).add (x := .rd (some ⟨bA, oA, none⟩) n (by8 g)) hp.rd).add (x := .rd (some ⟨bB, oB, none⟩) n (by8 g')) hq.rd
  clear hp hq
  dsimp only at hg hg'
  go_enter Try.func40, Try.ntmps40
  go_wp2_with fail
  refine (right_any _ _ _ _ _ _).mono ?_
  rintro e w1 ⟨rfl, hb1⟩
  replace K := ((K.new w.heap.size _ _ rfl).new (w.heap.size + 1) _ _ (by simp)).below hb1
  clear hb1
  replace kc0 := Box.cells K.1
  replace kl0 := Box.lt K.1
  replace kc1 := Box.cells K.2.1
  replace kl1 := Box.lt K.2.1
  replace L : Below _ _ _ := K.2.2.2.2.1
  go_wp2_with fail
  refine (right_any _ _ _ _ _ _).mono ?_
  rintro e w2 ⟨rfl, hb2⟩
  replace K := K.below hb2
  clear hb2
  replace kc0 := Box.cells K.1
  replace kl0 := Box.lt K.1
  replace kc1 := Box.cells K.2.1
  replace kl1 := Box.lt K.2.1
  replace L : Below _ _ _ := K.2.2.2.2.1
  go_wp2
  have HK := Lib.hid K
  clear K kc0 kl0 kc1 kl1 L
  go_loopw [6, 34] (fun s i wr => ∃ k : Nat, k ≤ n ∧ i = .int .i64 k ∧ s = .int .i64 (farS g g' k) ∧ Kn wr [.box (w.heap.size + 1) #[.int .i64 a, .int .i64 b, .slice (some ⟨bB, oB, none⟩) n c'], .box w.heap.size #[.int .i64 a, .int .i64 b, .slice (some ⟨bA, oA, none⟩) n c], .rd (some ⟨bB, oB, none⟩) n (by8 g'), .rd (some ⟨bA, oA, none⟩) n (by8 g), .since w]) (fun _ i _ => n - (intOf i).toNat)
  case atStart => exact ⟨0, Nat.zero_le _, rfl, rfl, HK.out⟩
  case round =>
    obtain ⟨k, hk, rfl, rfl, K⟩ := hrel
    clear HK
    obtain ⟨f0, f1⟩ := farS_bd hg hg' k
    by_cases hlt : k < n
    · have c1 := Rd.at_ K.2.2.1 hlt
      have c2 := Rd.at_ K.2.2.2.1 hlt
      simp only [by8] at c1 c2
      have kc0 := Box.cells K.1
      have b1 := hg k
      have b2 := hg' k
      have HK := Lib.hid K
      clear K
      have HD := Lib.hid (show farS g g' (k + 1) = farS g g' k + (max (g k) (g' k) - min (g k) (g' k)) from rfl)
      generalize farS g g' k = s at *
      have m1 : 0 ≤ max (g k) (g' k) - min (g k) (g' k) := by omega
      have m2 : max (g k) (g' k) - min (g k) (g' k) ≤ 255 := by omega
      go_wp2
      have z1 : IntKind.u8.wrap (max (g k) (g' k) - min (g k) (g' k)) = max (g k) (g' k) - min (g k) (g' k) := IntWalk.u8_in _ ⟨m1, m2⟩
      have z2 : IntKind.i64.wrap (s + (max (g k) (g' k) - min (g k) (g' k))) = s + (max (g k) (g' k) - min (g k) (g' k)) := IntWalk.i64_in _ (by omega)
      go_quiet (fail)
      go_wp2
      go_roundw
      case rel => exact ⟨k + 1, hlt, by go_num, by rw [HD.out], Kn.drewN HK.out _⟩
      case measure => simp [intOf]; omega
    · have hkn : k = n := by omega
      subst hkn
      have L : Below _ _ _ := K.2.2.2.2.1
      go_wp2
      go_ret2
      exact ⟨rfl, L⟩

set_option maxHeartbeats 1000000 in
theorem rfar_no (p q : PlV) (w : World) (h : farB p q = false) :
    Calls Try.prog 43 #[.agg #[.int .i64 p.a, .int .i64 p.b, .slice p.A p.n p.c], .agg #[.int .i64 q.a, .int .i64 q.b, .slice q.A q.n q.c]] w fun e w' => e = .returned (.tuple #[.int .i64 0, .int .i64 61]) ∧ Below w.heap.size w w' := by
  have K := Kn.start w
  rcases farB_no h with h1 | ⟨h1, h2⟩ | ⟨h1, h2, h3⟩ | ⟨h1, h2, h3, h4⟩
  all_goals clear h
  all_goals go_enter Try.func43, Try.ntmps43
  all_goals go_wp2_with fail
  all_goals refine (rright_any _ _ _ _ _ _).mono ?_
  all_goals rintro e w1 ⟨rfl, hb1⟩
  all_goals replace K := ((K.new w.heap.size _ _ rfl).new (w.heap.size + 1) _ _ (by simp)).below hb1
  all_goals clear hb1
  all_goals replace kc0 := Box.cells K.1
  all_goals replace kl0 := Box.lt K.1
  all_goals replace kc1 := Box.cells K.2.1
  all_goals replace kl1 := Box.lt K.2.1
  all_goals replace L : Below _ _ _ := K.2.2.1
  all_goals go_wp2_with fail
  all_goals refine (rright_any _ _ _ _ _ _).mono ?_
  all_goals rintro e w2 ⟨rfl, hb2⟩
  all_goals replace K := K.below hb2
  all_goals clear hb2
  all_goals replace kc0 := Box.cells K.1
  all_goals replace kl0 := Box.lt K.1
  all_goals replace kc1 := Box.cells K.2.1
  all_goals replace kl1 := Box.lt K.2.1
  all_goals replace L : Below _ _ _ := K.2.2.1
  all_goals go_wp2
  all_goals go_ret2
  all_goals exact ⟨rfl, L⟩

theorem dist_max {a b : Int} : max (a - b) (-(a - b)) = dist a b := by unfold dist; omega
set_option maxHeartbeats 1000000 in
theorem rfar_yes (p q : PlV) (w : World) (hp : p.Ok w) (hq : q.Ok w) (h : farB p q = true) :
    Calls Try.prog 43 #[.agg #[.int .i64 p.a, .int .i64 p.b, .slice p.A p.n p.c], .agg #[.int .i64 q.a, .int .i64 q.b, .slice q.A q.n q.c]] w fun e w' => e = .returned (.tuple #[.int .i64 (farS p.g q.g p.n), .int .i64 0]) ∧ Below w.heap.size w w' := by
  obtain ⟨a, b, A, n, c, g⟩ := p
  obtain ⟨a', b', A', n', c', g'⟩ := q
  simp only [farB, Bool.and_eq_true, beq_iff_eq] at h
  obtain ⟨⟨⟨h1, h2⟩, h3⟩, h4⟩ := h
  dsimp only at h1 h2 h3 h4 ⊢
  subst h3 h4
  obtain ⟨_, _, _, _, e1⟩ := rightB_iff.1 h1
  obtain ⟨_, _, _, _, e2⟩ := rightB_iff.1 h2
  obtain rfl : n = n' := by omega
  clear e1 e2
  have hn := rightB_le h1
  have hn1 := rightB_pos h1
  have hg := hp.byt
  have hg' := hq.byt
  obtain ⟨bA, oA, rfl, _, _⟩ := hp.rd.some_ hn1
  obtain ⟨bB, oB, rfl, _, _⟩ := hq.rd.some_ hn1
  have K := ((Kn.start w).add (x := .rd (some ⟨bA, oA, none⟩) n (by8 g)) hp.rd).add (x := .rd (some ⟨bB, oB, none⟩) n (by8 g')) hq.rd
  clear hp hq
  dsimp only at hg hg'
  go_enter Try.func43, Try.ntmps43
  go_wp2_with fail
  refine (rright_any _ _ _ _ _ _).mono ?_
  rintro e w1 ⟨rfl, hb1⟩
  replace K := ((K.new w.heap.size _ _ rfl).new (w.heap.size + 1) _ _ (by simp)).below hb1
  clear hb1
  replace kc0 := Box.cells K.1
  replace kl0 := Box.lt K.1
  replace kc1 := Box.cells K.2.1
  replace kl1 := Box.lt K.2.1
  replace L : Below _ _ _ := K.2.2.2.2.1
  go_wp2_with fail
  refine (rright_any _ _ _ _ _ _).mono ?_
  rintro e w2 ⟨rfl, hb2⟩
  replace K := K.below hb2
  clear hb2
  replace kc0 := Box.cells K.1
  replace kl0 := Box.lt K.1
  replace kc1 := Box.cells K.2.1
  replace kl1 := Box.lt K.2.1
  replace L : Below _ _ _ := K.2.2.2.2.1
  go_wp2
  have HK := Lib.hid K
  clear K kc0 kl0 kc1 kl1 L
  go_loopw [8, 9] (fun s i wr => ∃ k : Nat, k ≤ n ∧ i = .int .i64 k ∧ s = .int .i64 (farS g g' k) ∧ Kn wr [.box (w.heap.size + 1) #[.int .i64 a, .int .i64 b, .slice (some ⟨bB, oB, none⟩) n c'], .box w.heap.size #[.int .i64 a, .int .i64 b, .slice (some ⟨bA, oA, none⟩) n c], .rd (some ⟨bB, oB, none⟩) n (by8 g'), .rd (some ⟨bA, oA, none⟩) n (by8 g), .since w]) (fun _ i _ => n - (intOf i).toNat)
  case atStart => exact ⟨0, Nat.zero_le _, rfl, rfl, HK.out⟩
  case round =>
    obtain ⟨k, hk, rfl, rfl, K⟩ := hrel
    clear HK
    obtain ⟨f0, f1⟩ := farS_bd hg hg' k
    have kc0 := Box.cells K.1
    have kc1 := Box.cells K.2.1
    by_cases hlt : k < n
    · have c1 := Rd.at_ K.2.2.1 hlt
      have c2 := Rd.at_ K.2.2.2.1 hlt
      simp only [by8] at c1 c2
      have b1 := hg k
      have b2 := hg' k
      have HK := Lib.hid K
      clear K
      have HD := Lib.hid (show farS g g' (k + 1) = farS g g' k + max (g k - g' k) (-(g k - g' k)) by rw [dist_max]; rfl)
      generalize farS g g' k = s at *
      go_wp2
      have z1 : IntKind.i64.wrap (g k - g' k) = g k - g' k := IntWalk.i64_in _ (by omega)
      go_quiet (fail)
      clear z1
      go_wp2
      go_roundw
      case rel => exact ⟨k + 1, hlt, by go_num, by rw [HD.out], Kn.drewN HK.out _⟩
      case measure => simp [intOf]; omega
    · have hkn : k = n := by omega
      subst hkn
      have L : Below _ _ _ := K.2.2.2.2.1
      go_wp2
      go_ret2
      exact ⟨rfl, L⟩
end Go.Proofs.Ytlkogokhcdehfaa
