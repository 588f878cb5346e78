/- LiftBounds: of a block of numbers from -m to m each number of the transform is from -4m to 4m, the first one from -m to m. No condition. -/
import Derived.Test.YtfooglenhepogaaAl7
import Derived.Test.YtfooglenhepogaaClose
set_option linter.unusedVariables false
namespace Go.Kin
open Go.RowKit
/-- The greatest of some numbers, with either sign. -/
def mxA (g : Nat → Int) : Nat → Int
  | 0 => 0
  | k + 1 => max (max (mxA g k) (g k)) (-(g k))
theorem ite_max (a u : Int) : (if (if a < u then u else a) < -u then -u else if a < u then u else a) = max (max a u) (-u) := by
  by_cases h1 : a < u
  · simp only [h1, if_true]
    split <;> omega
  · simp only [h1, if_false]
    split <;> omega
theorem mxA_wi (g : Nat → Int) : ∀ k, 0 ≤ mxA g k ∧ Wi (mxA g k) k g
  | 0 => ⟨Int.le_refl _, fun i hi => by omega⟩
  | k + 1 => by
    obtain ⟨h1, h2⟩ := mxA_wi g k
    refine ⟨by simp only [mxA]; omega, fun i hi => ?_⟩
    simp only [mxA]
    by_cases e : i = k
    · subst e; omega
    · have := h2 i (by omega); omega
theorem mxA_le {g : Nat → Int} {M : Int} (hM : 0 ≤ M) : ∀ {k : Nat}, Wi M k g → mxA g k ≤ M
  | 0, _ => hM
  | k + 1, h => by
    have h1 := mxA_le hM (k := k) (h.mono (Int.le_refl _) (by omega))
    have h2 := h k (by omega)
    simp only [mxA]
    omega
theorem fwdB_bd {k : Nat} {M : Int} {g : Nat → Int} (hM : 0 ≤ M) (h : Wi M (2 ^ k * 2 ^ k) g) : Wi (4 * M) (2 ^ k * 2 ^ k) (byCol (2 ^ k) (fwd k) (byRow (2 ^ k) (fwd k) g)) ∧ -M ≤ byCol (2 ^ k) (fwd k) (byRow (2 ^ k) (fwd k) g) 0 ∧ byCol (2 ^ k) (fwd k) (byRow (2 ^ k) (fwd k) g) 0 ≤ M := by
  have hp : 0 < 2 ^ k := Nat.pow_pos (by omega)
  have hr : ∀ y, y < 2 ^ k → _ := fun y hy => fwd_bd (k := k) (l := fun j => g (y * 2 ^ k + j)) hM (fun j hj => h _ (cell_lt hj hy))
  have hrow : ∀ y x, y < 2 ^ k → x < 2 ^ k → byRow (2 ^ k) (fwd k) g (y * 2 ^ k + x) = fwd k (fun j => g (y * 2 ^ k + j)) x := fun y x hy hx => by
    unfold byRow
    rw [cell_div hx, cell_mod hx]
  constructor
  · intro i hi
    have hx := mod_lt_side hi
    have hy := div_lt_side hi
    have := (fwd_bd (k := k) (M := 2 * M) (l := fun j => byRow (2 ^ k) (fwd k) g (j * 2 ^ k + i % 2 ^ k)) (by omega) (fun j hj => by
      dsimp only
      rw [hrow j _ hj hx]
      exact (hr j hj).1 _ hx)).1 (i / 2 ^ k) hy
    unfold byCol
    omega
  · have := (fwd_bd (k := k) (M := M) (l := fun j => byRow (2 ^ k) (fwd k) g (j * 2 ^ k + 0)) hM (fun j hj => by
      dsimp only
      rw [hrow j 0 hj hp]
      exact (hr j hj).2)).2
    unfold byCol
    rw [Nat.zero_mod, Nat.zero_div]
    exact this
theorem fwV_bd {n : Nat} {M : Int} {g : Nat → Int} (hn : n = 16 ∨ n = 64) (hM : 0 ≤ M) (h : Wi M n g) : Wi (4 * M) n (fwV n g) ∧ -M ≤ fwV n g 0 ∧ fwV n g 0 ≤ M := by
  unfold fwV
  rcases hn with rfl | rfl
  · exact fwdB_bd (k := 2) hM h
  · exact fwdB_bd (k := 3) hM h
end Go.Kin
namespace Go.Proofs.Ytfooglenhepogaa
open Go.ChangeShapes Go.WideShapes Go.ChangeAt Go.RowKit Go.Joins Go.Kin
namespace LiftBounds
theorem walk_no (w : World) (A : Option Addr) (n c : Nat) (h : 100 < (n : Int)) :
    Calls Try.prog 12 #[.slice A n c] w fun e w' => e = .returned (.bool true) ∧ Below w.heap.size w w' := by
  have K := Kn.start w
  go_enter Try.func12, Try.ntmps12
  go_wp2_with fail
  refine (alive07 _).mono ?_
  rintro e w1 ⟨rfl, hb1⟩
  replace K := K.below hb1
  clear hb1
  replace L : Below _ _ _ := K.1
  go_wp2
  go_ret
  exact ⟨rfl, L⟩
theorem walk_err (w : World) (A : Option Addr) (n c : Nat) (g : Nat → Int) (hA : Rd w A n (in64 g)) (h : ¬ 100 < (n : Int)) (hb : okB 1048576 n g = false) :
    Calls Try.prog 12 #[.slice A n c] w fun e w' => e = .returned (.bool true) ∧ Below w.heap.size w w' := by
  have K := Kn.start w
  have h1 := fun w1 (hw : Rd w1 A n (in64 g)) => lforward_any A n c g w1 hw
  rw [hb] at h1
  have H1 := Lib.hid h1
  have HA := Lib.hid hA
  have k1 : okN false n = 0 := rfl
  have k2 : okK false = 1 := rfl
  clear h1 hb hA
  go_enter Try.func12, Try.ntmps12
  go_wp2_with fail
  refine (H1.out _ HA.out).mono ?_
  rintro e w1 ⟨A1, c1, rfl, hR1, _, _, _, hb1⟩
  replace K := K.below hb1
  rw [k1, k2]
  clear hb1 hR1
  go_wp2_with fail
  refine (alive07 _).mono ?_
  rintro e w1 ⟨rfl, hb1⟩
  replace K := K.below hb1
  clear hb1
  replace L : Below _ _ _ := K.1
  go_wp2
  go_ret
  exact ⟨rfl, L⟩
set_option maxRecDepth 100000 in
set_option maxHeartbeats 4000000 in
theorem walk_yes (w : World) (A : Option Addr) (n c : Nat) (g : Nat → Int) (hA : Rd w A n (in64 g)) (h : ¬ 100 < (n : Int)) (hn : n = 16 ∨ n = 64) (hw : Wi 1048576 n g) :
    Calls Try.prog 12 #[.slice A n c] w fun e w' => e = .returned (.bool true) ∧ Below w.heap.size w w' := by
  have h1 := fun w1 (hw : Rd w1 A n (in64 g)) => lforward_any A n c g w1 hw
  rw [okB_iff.2 ⟨hn, hw⟩] at h1
  have H1 := Lib.hid h1
  have k1 : okN true n = n := rfl
  have k2 : okK true = 0 := rfl
  obtain ⟨m0, m1⟩ := mxA_wi g n
  have m2 := mxA_le (k := n) (by omega) hw
  have HBD := Lib.hid (fwV_bd hn m0 m1)
  have HW := Lib.hid hw
  have HM0 := Lib.hid (fun k => (mxA_wi g k).1)
  have HML := Lib.hid (fun k (hk : k ≤ n) => mxA_le (k := k) (by omega) (hw.mono (Int.le_refl _) hk))
  have n0 : 0 < n := by omega
  have K := (Kn.start w).add (x := .rd A n (in64 g)) hA
  clear h1 hA hn hw m1
  go_enter Try.func12, Try.ntmps12
  go_wp2_with fail
  refine (H1.out _ K.1).mono ?_
  rintro e w1 ⟨A1, c1, rfl, hR1, _, _, _, hb1⟩
  rw [k1] at hR1
  rw [k1, k2]
  replace K := (K.below hb1).add (x := .rd A1 n (in64 (fwV n g))) hR1
  clear hb1 hR1 k1 k2
  obtain ⟨b1, o1, rfl, -, -⟩ := Rd.some_ K.1 n0
  obtain ⟨bA, oA, rfl, -, -⟩ := Rd.some_ K.2.1 n0
  have HK := Lib.hid K
  clear K
  have e0 : ((n : Int) != n) = false := by simp
  go_wp2
  go_loopw [5, 6] (fun m i wr => ∃ k : Nat, k ≤ n ∧ i = .int .i64 k ∧ m = .int .i64 (mxA g k) ∧ Kn wr [.rd (some ⟨b1, o1, none⟩) n (in64 (fwV n g)), .rd (some ⟨bA, oA, none⟩) n (in64 g), .since w]) (fun _ i _ => n - (intOf i).toNat)
  case atStart => exact ⟨0, by omega, rfl, rfl, HK.out⟩
  case round =>
    obtain ⟨k, hk, rfl, rfl, K⟩ := hrel
    clear HK
    by_cases hlt : k < n
    · have c1 := Rd.at_ K.2.1 hlt
      simp only [in64] at c1
      have b1 := HW.out k hlt
      have b2 := HM0.out k
      have b3 := HML.out k hk
      have HS := Lib.hid (show mxA g (k + 1) = max (max (mxA g k) (g k)) (-(g k)) from rfl)
      have HK := Lib.hid K
      clear K
      generalize g k = u at *
      generalize mxA g k = mk at *
      have lk : (k : Int) < n := by omega
      go_wp2
      go_quiet (fail)
      go_wp2
      go_roundw
      case rel => exact ⟨k + 1, by omega, by go_num, by rw [HS.out]; exact congrArg (Value.int .i64) (ite_max mk u), HK.out.drewN _⟩
      case measure => simp [intOf]; omega
    · obtain rfl : k = n := by omega
      obtain ⟨hbd, hf0, hf1⟩ := HBD.out
      have HBB := Lib.hid hbd
      have HF := Lib.hid (And.intro hf0 hf1)
      have HK := Lib.hid K
      clear K hbd hf0 hf1 HBD
      have q0 := HM0.out k
      have q1 := HML.out k (Nat.le_refl _)
      generalize mxA g k = mk at *
      go_wp2
      go_loopw [7] (fun i wr => ∃ t : Nat, t ≤ k ∧ i = .int .i64 t ∧ Kn wr [.rd (some ⟨b1, o1, none⟩) k (in64 (fwV k g)), .rd (some ⟨bA, oA, none⟩) k (in64 g), .since w]) (fun i _ => k - (intOf i).toNat)
      case atStart => exact ⟨0, by omega, rfl, HK.out⟩
      case round =>
        obtain ⟨t, ht, rfl, K⟩ := hrel
        clear HK
        by_cases hlt : t < k
        · have c1 := Rd.at_ K.1 hlt
          simp only [in64] at c1
          have bb := HBB.out t hlt
          have HK := Lib.hid K
          clear K
          generalize fwV k g t = u at *
          have p1 : ¬ u < -4 * mk := by omega
          have p2 : ¬ 4 * mk < u := by omega
          have lt1 : (t : Int) < k := by omega
          go_wp2
          go_roundw
          case rel => exact ⟨t + 1, by omega, by go_num, HK.out⟩
          case measure => simp [intOf]; omega
        · obtain rfl : t = k := by omega
          go_wp2_with fail
          refine (alive07 _).mono ?_
          rintro e w5 ⟨rfl, hb5⟩
          replace K := K.below hb5
          clear hb5
          have c1 := (Rd.at_ K.1 n0)
          simp only [in64, Nat.add_zero] at c1
          have hf0 := HF.out.1
          have hf1 := HF.out.2
          have L : Below _ _ _ := K.2.2.1
          clear K
          generalize fwV t g 0 = u at *
          go_wp2
          go_ret
          exact ⟨rfl, L⟩
theorem walk (w : World) (A : Option Addr) (n c : Nat) (g : Nat → Int) (hA : Rd w A n (in64 g)) (hg : ∀ i, I64 (g i)) (hc : n ≤ c) (hc2 : c ≤ 9223372036854775807) :
    Calls Try.prog 12 #[.slice A n c] w fun e w' => e = .returned (.bool true) ∧ Below w.heap.size w w' := by
  by_cases h : 100 < (n : Int)
  · exact walk_no w A n c h
  · cases hb : okB 1048576 n g
    · exact walk_err w A n c g hA h hb
    · obtain ⟨h1, h2⟩ := okB_iff.1 hb
      exact walk_yes w A n c g hA h h1 h2
end LiftBounds
namespace LiftBounds
set_option maxRecDepth 100000 in
theorem lifted (os : Os) (started : os.Started) (H : Type) (enc : TypeId × Value → H) :
    ReturnsInHanded {} Try.checked os 12 .any (Rows.liftBoundsSpec.pre6 enc Try.prog Try.f12 Rows.liftBoundsRow.domain false) (Rows.liftBoundsSpec.post enc Try.prog Try.f12 false true false false) := by
  refine returnsInHanded_of_change (C := Try.checked) own started (by kernel_rfl) Try.func12
    (ChangeSpec.witness6 (enc := enc) (C := Try.checked) false ⟨#[], #[.slice none 0 0], []⟩ 8 (by kernel_rfl) (by kernel_rfl) (by kernel_rfl) (by kernel_rfl)) ?_
  intro W base args ds gs before hval0 hW hcnd _
  have hval : ∀ (j : Nat) t v, Try.f12.params[j]? = some t → args[j]? = some v → Value.okWide Try.prog W .any base t v := hval0
  refine law_post (tb := 4) laidOut (by kernel_rfl) rfl Try.underlying4 rfl (fun ds' h => ?_) hW ?_
  · rw [Try.params12] at h
    match ds', h with
    | [d1], _ => exact ⟨rfl, rfl, rfl⟩
  obtain ⟨p, q, hA0, hV, rfl, hfz, hnd⟩ := hW
  have hA : DataW.TrodAll enc Try.prog W 0 (fun _ => true) true Try.f12.params.toList args.toList ds p := hA0
  rw [Try.params12] at hA hval
  obtain ⟨v0, vs0, d0, ds0, p0, q0, hargs, rfl, rfl, h0, r0⟩ := trodAll_cons hA
  obtain ⟨rfl, rfl, rfl⟩ := trodAll_nil r0
  obtain rfl : args = #[v0] := by cases args; simp_all
  obtain ⟨A0, n0, c0, g0, rfl, rr0, t0, l0, m0⟩ := open_intsl Try.underlying55 Try.underlying3 (by kernel_rfl) (hval 0 55 v0 rfl rfl) h0
  exact walk W A0 n0 c0 g0 rr0 t0 l0 m0
theorem over : Rows.liftBoundsRow.holds Try.pinned (OpenSpec.ofChange Rows.liftBoundsSpec) :=
  OpenClaim.holds_of_wide 12 Try.f12 rfl rfl rfl rfl rfl rfl rfl ⟨rfl, rfl, rfl, rfl, rfl⟩ rfl rfl rfl rfl rfl (by kernel_rfl) Try.func12 (by kernel_rfl)
    (of_decide_eq_true (by kernel_rfl)) (by unfold Func.isWrapper; first | (rw [if_pos (by decide +kernel)]; kernel_rfl) | (rw [if_neg (by decide +kernel)]; exact ⟨rfl, rfl⟩))
    (fun os started H enc _ => lifted os started H enc)
end LiftBounds
theorem liftBounds_holds : Rows.LiftBoundsSaid := LiftBounds.over

end Go.Proofs.Ytfooglenhepogaa
