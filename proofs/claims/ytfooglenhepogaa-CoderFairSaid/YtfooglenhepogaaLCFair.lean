/- CoderFair: behind any bits a chance is a chance; behind a 0 it is not less, behind a 1 not more; as many zeros as may be make it the greatest, as many ones the least. No condition. -/
import Derived.Test.YtfooglenhepogaaAl4
import Derived.Test.YtfooglenhepogaaClose3
namespace Go.Kin
/-- The chance behind k bits b. -/
def itN (c b : Int) : Nat → Int
  | 0 => c
  | k + 1 => nextP (itN c b k) b
theorem nextP_mono {c d : Int} (b : Int) (h : c ≤ d) : nextP c b ≤ nextP d b := by
  unfold nextP
  split <;> omega
theorem itN_mono {c d : Int} (b : Int) (h : c ≤ d) : ∀ k, itN c b k ≤ itN d b k
  | 0 => h
  | k + 1 => nextP_mono b (itN_mono b h k)
theorem itN_low (c : Int) (h : 0 ≤ c ∧ c ≤ 65535) : itN c 1 300 = 31 := by
  have h1 := itN_mono 1 h.1 300
  have h2 := itN_mono 1 h.2 300
  have e1 : itN 0 1 300 = 31 := by decide +kernel
  have e2 : itN 65535 1 300 = 31 := by decide +kernel
  omega
theorem itN_high (c : Int) (h : 0 ≤ c ∧ c ≤ 65535) : itN c 0 300 = 2017 := by
  have h1 := itN_mono 0 h.1 300
  have h2 := itN_mono 0 h.2 300
  have e1 : itN 0 0 300 = 2017 := by decide +kernel
  have e2 : itN 65535 0 300 = 2017 := by decide +kernel
  omega
theorem itN_bd (c b : Int) (h : 0 ≤ c ∧ c ≤ 65535) : ∀ k, 0 ≤ itN c b k ∧ itN c b k ≤ 65535
  | 0 => h
  | k + 1 => by have := nextP_bd (itN c b k) b; simp only [itN]; omega
theorem nextP_up {c : Int} (h : 31 ≤ c ∧ c ≤ 2017) : c ≤ nextP c 0 := by unfold nextP; rw [if_pos rfl]; omega
theorem nextP_down {c : Int} (h : 31 ≤ c ∧ c ≤ 2017) : nextP c 1 ≤ c := by unfold nextP; rw [if_neg (by omega)]; omega
end Go.Kin
namespace Go.Proofs.Ytfooglenhepogaa
open Go.ChangeShapes Go.WideShapes Go.ChangeAt Go.RowKit Go.Joins Go.Kin
set_option linter.unusedVariables false
namespace CoderFair
set_option maxRecDepth 100000 in
set_option maxHeartbeats 4000000 in
theorem walk (w : World) (c : Int) (hc : I64 c) (A : Option Addr) (n cap : Nat) (g : Nat → Bool) (hR : Rd w A n (bo g)) (hn : n ≤ cap) (hcap : cap ≤ 9223372036854775807) : Calls Try.prog 7 #[.int .i64 c, .slice A n cap] w fun e w' => e = .returned (.bool true) ∧ Below w.heap.size w w' := by
  have HR := Lib.hid hR
  clear hR
  have hcm : 0 ≤ c % 65536 ∧ c % 65536 ≤ 65535 := by omega
  go_enter Try.func7, Try.ntmps7
  go_wp2_with (go_at_call 17; refine (chance_any _ _).mono ?_; rintro e w' ⟨rfl, rfl⟩)
  generalize c % 65536 = c0 at *
  go_loopw [5, 6] (fun x i wr => wr = w ∧ ∃ (k : Nat) (d : Int), k ≤ n ∧ k ≤ 400 ∧ i = .int .i64 k ∧ x = .int .u16 d ∧ 0 ≤ d ∧ d ≤ 65535) (fun _ i _ => (400 - intOf i).toNat)
  case atStart => exact ⟨rfl, 0, c0, by omega, by omega, rfl, rfl, hcm.1, hcm.2⟩
  case round =>
    obtain ⟨rfl, k, d, hk, hk4, rfl, rfl, hd0, hd1⟩ := hrel
    clear hcm
    by_cases hlt : k < n ∧ k < 400
    · have l1 : (k : Int) < n := by omega
      have l2 : (k : Int) < 400 := by omega
      obtain ⟨b, off, rfl, _, hcell⟩ := Rd.some_ HR.out (by omega)
      have c1 := hcell k hlt.1
      unfold bo at c1
      clear hcell
      cases hg : g k
      · rw [hg] at c1
        have hb := nextP_bd d 0
        have hu := fun h => nextP_up (c := d) h
        have HN := Lib.hid (rfl : nextP d 0 = nextP d 0)
        obtain ⟨d1, hd1e⟩ : ∃ d1, nextP d 0 = d1 := ⟨_, rfl⟩
        rw [hd1e] at hb hu
        clear HN
        have HN := Lib.hid hd1e
        clear hd1e
        have b1 : ¬ d1 < 31 := by omega
        have b2 : ¬ 2017 < d1 := by omega
        rcases (show (31 ≤ d ∧ d ≤ 2017) ∨ d < 31 ∨ 2017 < d by omega) with h | h | h
        · have f1 : ¬ d1 < d := by have := hu h; omega
          obtain ⟨h1, h2⟩ := h
          clear hu
          go_wp2_with (go_at_call 19; refine (next_any _ _ _ ⟨hd0, hd1⟩).mono ?_; rintro e w' ⟨rfl, rfl⟩; rw [HN.out])
          go_roundw
          case rel => exact ⟨by first | rfl | trivial, k + 1, d1, by omega, by omega, by go_num, rfl, by omega, by omega⟩
          case measure => simp [intOf]; omega
        · have f1 : ¬ 31 ≤ d := by omega
          clear hu
          go_wp2_with (go_at_call 19; refine (next_any _ _ _ ⟨hd0, hd1⟩).mono ?_; rintro e w' ⟨rfl, rfl⟩; rw [HN.out])
          go_roundw
          case rel => exact ⟨by first | rfl | trivial, k + 1, d1, by omega, by omega, by go_num, rfl, by omega, by omega⟩
          case measure => simp [intOf]; omega
        · have f1 : ¬ d ≤ 2017 := by omega
          have f2 : 31 ≤ d := by omega
          clear hu
          go_wp2_with (go_at_call 19; refine (next_any _ _ _ ⟨hd0, hd1⟩).mono ?_; rintro e w' ⟨rfl, rfl⟩; rw [HN.out])
          go_roundw
          case rel => exact ⟨by first | rfl | trivial, k + 1, d1, by omega, by omega, by go_num, rfl, by omega, by omega⟩
          case measure => simp [intOf]; omega
      · rw [hg] at c1
        have hb := nextP_bd d 1
        have hu := fun h => nextP_down (c := d) h
        have HN := Lib.hid (rfl : nextP d 1 = nextP d 1)
        obtain ⟨d1, hd1e⟩ : ∃ d1, nextP d 1 = d1 := ⟨_, rfl⟩
        rw [hd1e] at hb hu
        clear HN
        have HN := Lib.hid hd1e
        clear hd1e
        have b1 : ¬ d1 < 31 := by omega
        have b2 : ¬ 2017 < d1 := by omega
        rcases (show (31 ≤ d ∧ d ≤ 2017) ∨ d < 31 ∨ 2017 < d by omega) with h | h | h
        · have f1 : ¬ d < d1 := by have := hu h; omega
          obtain ⟨h1, h2⟩ := h
          clear hu
          go_wp2_with (go_at_call 19; refine (next_any _ _ _ ⟨hd0, hd1⟩).mono ?_; rintro e w' ⟨rfl, rfl⟩; rw [HN.out])
          go_roundw
          case rel => exact ⟨by first | rfl | trivial, k + 1, d1, by omega, by omega, by go_num, rfl, by omega, by omega⟩
          case measure => simp [intOf]; omega
        · have f1 : ¬ 31 ≤ d := by omega
          clear hu
          go_wp2_with (go_at_call 19; refine (next_any _ _ _ ⟨hd0, hd1⟩).mono ?_; rintro e w' ⟨rfl, rfl⟩; rw [HN.out])
          go_roundw
          case rel => exact ⟨by first | rfl | trivial, k + 1, d1, by omega, by omega, by go_num, rfl, by omega, by omega⟩
          case measure => simp [intOf]; omega
        · have f1 : ¬ d ≤ 2017 := by omega
          have f2 : 31 ≤ d := by omega
          clear hu
          go_wp2_with (go_at_call 19; refine (next_any _ _ _ ⟨hd0, hd1⟩).mono ?_; rintro e w' ⟨rfl, rfl⟩; rw [HN.out])
          go_roundw
          case rel => exact ⟨by first | rfl | trivial, k + 1, d1, by omega, by omega, by go_num, rfl, by omega, by omega⟩
          case measure => simp [intOf]; omega
    · have e : k = n ∨ k = 400 := by omega
      have HDL := Lib.hid (itN_low d ⟨hd0, hd1⟩)
      have HDH := Lib.hid (itN_high d ⟨hd0, hd1⟩)
      have HDB := Lib.hid (fun b k => itN_bd d b ⟨hd0, hd1⟩ k)
      have hex : (decide ((k : Int) < n) && decide ((k : Int) < 400)) = false := by rcases e with e | e <;> simp [e]
      have HEX := Lib.hid hlt
      by_cases l1 : k < n
      · have l1' : (k : Int) < n := by omega
        have l2' : ¬ (k : Int) < 400 := by omega
        clear hex e hlt
        go_wp2_with fail
        go_loopw [9, 10, 11] (fun lo hi i wr2 => wr2 = wr ∧ ∃ q : Nat, q ≤ 300 ∧ i = .int .i64 q ∧ lo = .int .u16 (itN d 1 q) ∧ hi = .int .u16 (itN d 0 q)) (fun _ _ i _ => (300 - intOf i).toNat)
        case atStart => exact ⟨rfl, 0, by omega, rfl, rfl, rfl⟩
        case round =>
          obtain ⟨rfl, q, hq, rfl, rfl, rfl⟩ := hrel
          by_cases hq3 : q < 300
          · have q3 : (q : Int) < 300 := by omega
            have s1 := HDB.out 1 q
            have s0 := HDB.out 0 q
            have HN1 := Lib.hid (show itN d 1 (q + 1) = nextP (itN d 1 q) 1 from rfl)
            have HN0 := Lib.hid (show itN d 0 (q + 1) = nextP (itN d 0 q) 0 from rfl)
            generalize itN d 1 q = u1 at *
            generalize itN d 0 q = u0 at *
            go_wp2_with (first | (go_at_call_of 19 u1; refine (next_any _ _ _ s1).mono ?_; rintro e w' ⟨rfl, rfl⟩) | (go_at_call 19; refine (next_any _ _ _ s0).mono ?_; rintro e w' ⟨rfl, rfl⟩))
            go_roundw
            case rel => exact ⟨by first | rfl | trivial, q + 1, by omega, by go_num, by rw [HN1.out], by rw [HN0.out]⟩
            case measure => simp [intOf]; omega
          · obtain rfl : q = 300 := by omega
            rw [HDL.out, HDH.out]
            go_wp2_with (go_at_call 23; refine (alive04 _).mono ?_; rintro e w1 ⟨rfl, hb⟩)
            go_ret
            exact ⟨rfl, hb⟩
      · have l1' : ¬ (k : Int) < n := by omega
        clear hex e hlt
        go_wp2_with fail
        go_loopw [9, 10, 11] (fun lo hi i wr2 => wr2 = wr ∧ ∃ q : Nat, q ≤ 300 ∧ i = .int .i64 q ∧ lo = .int .u16 (itN d 1 q) ∧ hi = .int .u16 (itN d 0 q)) (fun _ _ i _ => (300 - intOf i).toNat)
        case atStart => exact ⟨rfl, 0, by omega, rfl, rfl, rfl⟩
        case round =>
          obtain ⟨rfl, q, hq, rfl, rfl, rfl⟩ := hrel
          by_cases hq3 : q < 300
          · have q3 : (q : Int) < 300 := by omega
            have s1 := HDB.out 1 q
            have s0 := HDB.out 0 q
            have HN1 := Lib.hid (show itN d 1 (q + 1) = nextP (itN d 1 q) 1 from rfl)
            have HN0 := Lib.hid (show itN d 0 (q + 1) = nextP (itN d 0 q) 0 from rfl)
            generalize itN d 1 q = u1 at *
            generalize itN d 0 q = u0 at *
            go_wp2_with (first | (go_at_call_of 19 u1; refine (next_any _ _ _ s1).mono ?_; rintro e w' ⟨rfl, rfl⟩) | (go_at_call 19; refine (next_any _ _ _ s0).mono ?_; rintro e w' ⟨rfl, rfl⟩))
            go_roundw
            case rel => exact ⟨by first | rfl | trivial, q + 1, by omega, by go_num, by rw [HN1.out], by rw [HN0.out]⟩
            case measure => simp [intOf]; omega
          · obtain rfl : q = 300 := by omega
            rw [HDL.out, HDH.out]
            go_wp2_with (go_at_call 23; refine (alive04 _).mono ?_; rintro e w1 ⟨rfl, hb⟩)
            go_ret
            exact ⟨rfl, hb⟩
end CoderFair
namespace CoderFair
set_option maxRecDepth 100000 in
theorem lifted (os : Os) (started : os.Started) (H : Type) (enc : TypeId × Value → H) :
    ReturnsInHanded {} Try.checked os 7 .any (Rows.coderFairSpec.pre6 enc Try.prog Try.f7 Rows.coderFairRow.domain false) (Rows.coderFairSpec.post enc Try.prog Try.f7 false true false false) := by
  refine returnsInHanded_of_change (C := Try.checked) own started (by kernel_rfl) Try.func7
    (ChangeSpec.witness6 (enc := enc) (C := Try.checked) false ⟨#[], #[.int .i64 0, .slice none 0 0], []⟩ 8 (by kernel_rfl) (by kernel_rfl) (by kernel_rfl) (by kernel_rfl)) ?_
  intro W base args ds gs before hval0 hW hcnd _
  have hval : ∀ (j : Nat) t v, Try.f7.params[j]? = some t → args[j]? = some v → Value.okWide Try.prog W .any base t v := hval0
  refine law_post (tb := 4) laidOut (by kernel_rfl) rfl Try.underlying4 rfl (fun ds' h => ?_) hW ?_
  · rw [Try.params7] at h
    match ds', h with
    | [d1, d2], _ => exact ⟨rfl, rfl, rfl⟩
  obtain ⟨p, q, hA0, hV, rfl, hfz, hnd⟩ := hW
  have hA : DataW.TrodAll enc Try.prog W 0 (fun _ => true) true Try.f7.params.toList args.toList ds p := hA0
  rw [Try.params7] at hA hval
  obtain ⟨v0, vs0, d0, ds0, p0, q0, hargs, rfl, rfl, h0, r0⟩ := trodAll_cons hA
  obtain ⟨v1, vs1, d1, ds1, p1, q1, rfl, rfl, rfl, h1, r1⟩ := trodAll_cons r0
  obtain ⟨rfl, rfl, rfl⟩ := trodAll_nil r1
  obtain rfl : args = #[v0, v1] := by cases args; simp_all
  obtain ⟨a0, rfl, rfl, rfl, w0⟩ := open_int Try.underlying3 (hval 0 3 v0 rfl rfl) h0
  obtain ⟨A1, n1, c1, g1, rfl, rr1, l1, m1⟩ := open_boolsl Try.underlying51 Try.underlying4 (by kernel_rfl) (hval 1 51 v1 rfl rfl) h1
  exact walk W a0 (bounds_i64 w0) A1 n1 c1 g1 rr1 l1 m1
theorem over : Rows.coderFairRow.holds Try.pinned (OpenSpec.ofChange Rows.coderFairSpec) :=
  OpenClaim.holds_of_wide 7 Try.f7 rfl rfl rfl rfl rfl rfl rfl ⟨rfl, rfl, rfl, rfl, rfl⟩ rfl rfl rfl rfl rfl (by kernel_rfl) Try.func7 (by kernel_rfl)
    (of_decide_eq_true (by kernel_rfl)) (by unfold Func.isWrapper; first | (rw [if_pos (by decide +kernel)]; kernel_rfl) | (rw [if_neg (by decide +kernel)]; exact ⟨rfl, rfl⟩))
    (fun os started H enc _ => lifted os started H enc)
end CoderFair
theorem coderFair_holds : Rows.CoderFairSaid := CoderFair.over

end Go.Proofs.Ytfooglenhepogaa
