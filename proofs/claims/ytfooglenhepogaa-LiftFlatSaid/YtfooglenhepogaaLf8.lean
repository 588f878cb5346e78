/- Walks of package lift: block, Forward, Back. -/
import Derived.Test.YtfooglenhepogaaLf4
import Derived.Test.YtfooglenhepogaaLf5
namespace Go.Kin
def inB (M v : Int) : Bool := decide (-M ≤ v ∧ v ≤ M)
theorem inB_yes {M v : Int} (h : -M ≤ v ∧ v ≤ M) : inB M v = true := decide_eq_true h
theorem inB_no {M v : Int} (h : ¬ (-M ≤ v ∧ v ≤ M)) : inB M v = false := decide_eq_false h
end Go.Kin
namespace Go.Proofs.Ytfooglenhepogaa
open Go.RowKit Go.Kin
set_option linter.unusedVariables false
theorem within1_any (v M : Int) (q : Nat) (w : World) (hq : Box w q #[.int .i64 M]) (hM0 : 0 ≤ M) (hM : M ≤ 4611686018427387904) :
    Calls Try.prog 60 #[.int .i64 v, .pointer (some ⟨q, 0, none⟩)] w fun e w' => e = .returned (.bool (inB M v)) ∧ w = w' := by
  have kc := Box.cells hq
  by_cases h1 : -M ≤ v
  · by_cases h2 : v ≤ M
    · have HF := Lib.hid (show inB M v = true from inB_yes ⟨h1, h2⟩)
      go_enter Try.func60, Try.ntmps60
      go_wp2
      go_ret
      exact ⟨ret_bool HF.out.symm, rfl⟩
    · have HF := Lib.hid (show inB M v = false from inB_no (by omega))
      go_enter Try.func60, Try.ntmps60
      go_wp2
      go_ret
      exact ⟨ret_bool HF.out.symm, rfl⟩
  · have HF := Lib.hid (show inB M v = false from inB_no (by omega))
    go_enter Try.func60, Try.ntmps60
    go_wp2
    go_ret
    exact ⟨ret_bool HF.out.symm, rfl⟩
/-- A block's copy, its side, no error. -/
def GivesBlk (n : Nat) (g : Nat → Int) (w : World) (e : Ending) (w' : World) : Prop := ∃ b c, e = .returned (.tuple #[.slice (some ⟨b, 0, none⟩) n c, .int .i64 (sideN n), .int .i64 0]) ∧ Row w' b n (in64 g) ∧ n ≤ c ∧ c ≤ 9223372036854775807 ∧ w.heap.size ≤ b ∧ Below w.heap.size w w'
theorem block_side (A : Option Addr) (n c : Nat) (f : Value) (w : World) (h : sideN n = 0) : Calls Try.prog 47 #[.slice A n c, f] w fun e w' => e = .returned (.tuple #[.slice none 0 0, .int .i64 0, .int .i64 1]) ∧ Below w.heap.size w w' := by
  have H := Lib.hid h
  clear h
  go_enter Try.func47, Try.ntmps47
  go_wp2_with (go_at_call 59; refine (lside_any _ _).mono ?_; rintro e w' ⟨rfl, rfl⟩; rw [H.out])
  go_ret3
  exact ⟨rfl, Below.refl _ _⟩
set_option maxHeartbeats 2000000 in
theorem block_yes (A : Option Addr) (n c q : Nat) (g : Nat → Int) (M : Int) (w : World) (hA : Rd w A n (in64 g)) (hq : Box w q #[.int .i64 M]) (hn : n = 16 ∨ n = 64) (hM0 : 0 ≤ M) (hM : M ≤ 4611686018427387904) (hW : Wi M n g) :
    Calls Try.prog 47 #[.slice A n c, .func (.func 60) #[] #[.pointer (some ⟨q, 0, none⟩)]] w (GivesBlk n g w) := by
  obtain ⟨i0, hi0, hz0, hz1, hz2⟩ := parts_i64
  have HI := Lib.hid hi0
  clear hi0
  have hs : ((sideN n : Int) == 0) = false := by rcases hn with rfl | rfl <;> rfl
  have hn2 : 0 < n ∧ n ≤ 64 := by omega
  have K := ((Kn.start w).add (x := .box q #[.int .i64 M]) hq).add (x := .rd A n (in64 g)) hA
  have HW := Lib.hid hW
  clear hA hq hn hW
  go_enter Try.func47, Try.ntmps47
  go_wp2_with (go_at_call 59; refine (lside_any _ _).mono ?_; rintro e w' ⟨rfl, rfl⟩)
  generalize hsd : (sideN n : Int) = sd at *
  have HSD := Lib.hid hsd
  clear hsd
  have HK := Lib.hid K
  clear K
  go_loopw [17] (fun i wr => ∃ k : Nat, k ≤ n ∧ i = .int .i64 k ∧ Kn wr [.rd A n (in64 g), .box q #[.int .i64 M], .since w]) (fun i _ => n - (intOf i).toNat)
  case atStart => exact ⟨0, by omega, rfl, HK.out⟩
  case round =>
    obtain ⟨k, hk, rfl, K⟩ := hrel
    clear HK
    by_cases hlt : k < n
    · obtain ⟨bA, oA, rfl, _, hcA⟩ := Rd.some_ K.1 (by omega)
      have c1 := hcA k hlt
      simp only [in64] at c1
      have b1 := HW.out k hlt
      have HD := Lib.hid (show inB M (g k) = true from inB_yes b1)
      have HK := Lib.hid K
      clear K hcA b1
      have lm' : (k : Int) < n := by omega
      go_wp2_with (go_at_call 60; refine (within1_any _ M q _ HK.out.2.1 hM0 hM).mono ?_; rintro e w' ⟨rfl, rfl⟩; rw [HD.out])
      go_roundw
      case rel => exact ⟨k + 1, hlt, by go_num, HK.out⟩
      case measure => simp [intOf]; omega
    · obtain rfl : k = n := by omega
      obtain ⟨bA, oA, rfl, _, _⟩ := Rd.some_ K.1 (by omega)
      have L : Below _ _ _ := K.2.2.1
      have hsz := L.size
      have HL := Lib.hid L
      have hR := K.1
      have hR' : Rd wr (some ⟨bA, oA, none⟩) k (in64 g) := hR
      have hNo : some (⟨bA, oA, none⟩ : Addr) = none → k = 0 := fun h => by cases h
      have hO0 : OwnS wr w.heap.size 3 none 0 0 (in64 g) := OwnS.nil _ _ _ _
      clear K L hR
      go_wp2_with (at_builtin; refine wpList_appS rfl (.const (.slice none 0 0)) (.tmp 26) rfl Try.underlying55 HI.out hz0 hz1 hz2 rfl rfl rfl hO0 hR' hNo (fun _ => rfl) ?_ ?_ ?_ ?_; rotate_right; intro A4 c4 w4 hO4 hG4 hL4)
      rotate_left
      · unfold maxLen; omega
      · omega
      · exact hsz
      rw [Nat.zero_add] at hO4
      obtain ⟨b4, rfl, hb4, hr4, hc4⟩ := OwnS.row hO4 (by omega)
      have hcap := (OwnS.cap hO4).2
      have HR4 := Lib.hid (And.intro hr4 (And.intro hc4 hcap))
      have HB4 : Hid (Below w.heap.size w w4) := Lib.hid (HL.out.grown hG4 hsz (fun k hk => by simp [Value.ownBlock] at hk))
      clear hO4 hG4 hL4 hr4 hc4 hcap
      go_wp2
      go_ret3
      refine ⟨b4, c4, by have h := HSD.out; subst h; rfl, HR4.out.1.congr (fun i hi => by simp [in64]), HR4.out.2.1, HR4.out.2.2, hb4, HB4.out⟩
set_option maxHeartbeats 2000000 in
theorem block_no (A : Option Addr) (n c q : Nat) (g : Nat → Int) (M : Int) (w : World) (hA : Rd w A n (in64 g)) (hq : Box w q #[.int .i64 M]) (hn : n = 16 ∨ n = 64) (hM0 : 0 ≤ M) (hM : M ≤ 4611686018427387904) (hW : ¬ Wi M n g) :
    Calls Try.prog 47 #[.slice A n c, .func (.func 60) #[] #[.pointer (some ⟨q, 0, none⟩)]] w fun e w' => e = .returned (.tuple #[.slice none 0 0, .int .i64 0, .int .i64 1]) ∧ Below w.heap.size w w' := by
  have hs : ((sideN n : Int) == 0) = false := by rcases hn with rfl | rfl <;> rfl
  have hn2 : 0 < n ∧ n ≤ 64 := by omega
  have K := ((Kn.start w).add (x := .box q #[.int .i64 M]) hq).add (x := .rd A n (in64 g)) hA
  have HW := Lib.hid hW
  clear hA hq hn hW
  go_enter Try.func47, Try.ntmps47
  go_wp2_with (go_at_call 59; refine (lside_any _ _).mono ?_; rintro e w' ⟨rfl, rfl⟩)
  generalize hsd : (sideN n : Int) = sd at *
  have HSD := Lib.hid hsd
  clear hsd
  have HK := Lib.hid K
  clear K
  go_loopw [17] (fun i wr => ∃ k : Nat, k ≤ n ∧ i = .int .i64 k ∧ Wi M k g ∧ Kn wr [.rd A n (in64 g), .box q #[.int .i64 M], .since w]) (fun i _ => n - (intOf i).toNat)
  case atStart => exact ⟨0, by omega, rfl, fun i hi => by omega, HK.out⟩
  case round =>
    obtain ⟨k, hk, rfl, hw, K⟩ := hrel
    clear HK
    have HWK := Lib.hid hw
    clear hw
    by_cases hlt : k < n
    · obtain ⟨bA, oA, rfl, _, hcA⟩ := Rd.some_ K.1 (by omega)
      have c1 := hcA k hlt
      simp only [in64] at c1
      have HK := Lib.hid K
      clear K hcA
      have lm' : (k : Int) < n := by omega
      by_cases b1 : -M ≤ g k ∧ g k ≤ M
      · have HD := Lib.hid (show inB M (g k) = true from inB_yes b1)
        have HN := Lib.hid (show Wi M (k + 1) g from fun i hi => by
          by_cases e : i = k
          · subst e; exact b1
          · exact HWK.out i (by omega))
        clear b1
        go_wp2_with (go_at_call 60; refine (within1_any _ M q _ HK.out.2.1 hM0 hM).mono ?_; rintro e w' ⟨rfl, rfl⟩; rw [HD.out])
        go_roundw
        case rel => exact ⟨k + 1, hlt, by go_num, HN.out, HK.out⟩
        case measure => simp [intOf]; omega
      · have HD := Lib.hid (show inB M (g k) = false from inB_no b1)
        clear b1
        go_wp2_with (go_at_call 60; refine (within1_any _ M q _ HK.out.2.1 hM0 hM).mono ?_; rintro e w' ⟨rfl, rfl⟩; rw [HD.out])
        go_ret3
        exact ⟨rfl, HK.out.2.2.1⟩
    · obtain rfl : k = n := by omega
      exact absurd HWK.out HW.out
/-- What Forward and Back answer. -/
def okB (M : Int) (n : Nat) (g : Nat → Int) : Bool := decide (sideN n ≠ 0) && wiB M n g
theorem within_any (M : Int) (w : World) : Calls Try.prog 48 #[.int .i64 M] w fun e w' => e = .returned (.func (.func 60) #[] #[.pointer (some ⟨w.heap.size, 0, none⟩)]) ∧ Box w' w.heap.size #[.int .i64 M] ∧ Below w.heap.size w w' := by
  go_enter Try.func48, Try.ntmps48
  go_wp2
  go_ret
  exact ⟨rfl, Box.new w _ _, (Below.refl _ w).alloc (Nat.le_refl _) _⟩
theorem block_err (A : Option Addr) (n c q : Nat) (g : Nat → Int) (M : Int) (w : World) (hA : Rd w A n (in64 g)) (hq : Box w q #[.int .i64 M]) (hM0 : 0 ≤ M) (hM : M ≤ 4611686018427387904) (h : okB M n g = false) :
    Calls Try.prog 47 #[.slice A n c, .func (.func 60) #[] #[.pointer (some ⟨q, 0, none⟩)]] w fun e w' => e = .returned (.tuple #[.slice none 0 0, .int .i64 0, .int .i64 1]) ∧ Below w.heap.size w w' := by
  by_cases hs : sideN n = 0
  · exact block_side A n c _ w hs
  · refine block_no A n c q g M w hA hq ?_ hM0 hM (wiB_no.1 ?_)
    · unfold sideN at hs
      by_cases h1 : n = 16
      · exact .inl h1
      · by_cases h2 : n = 64
        · exact .inr h2
        · simp [h1, h2] at hs
    · unfold okB at h
      simpa [hs] using h
theorem forward_no (A : Option Addr) (n c : Nat) (g : Nat → Int) (w : World) (hA : Rd w A n (in64 g)) (h : okB 1048576 n g = false) :
    Calls Try.prog 31 #[.slice A n c] w (GivesIE 0 (fun _ => 0) 1 w) := by
  have K := (Kn.start w).add (x := .rd A n (in64 g)) hA
  have H := Lib.hid h
  clear hA h
  go_enter Try.func31, Try.ntmps31
  go_wp2_with fail
  refine (within_any _ _).mono ?_
  rintro e w1 ⟨rfl, hq, hb⟩
  have K := (K.below hb).add (x := .box w.heap.size #[.int .i64 1048576]) hq
  clear hq hb
  go_wp2_with fail
  refine (block_err A n c w.heap.size g 1048576 _ K.2.1 K.1 (by omega) (by omega) H.out).mono ?_
  rintro e w2 ⟨rfl, hb⟩
  have K := K.below hb
  clear hb
  go_wp2
  go_ret2
  refine ⟨_, _, rfl, Rd.none_ _ _ _, Nat.le_refl _, by omega, fun k o e => (by cases e), ?_⟩
  exact K.2.2.1.trans (((Below.refl _ w2).alloc (Nat.le_refl _) _).mono K.2.2.1.size)
set_option maxRecDepth 100000 in
set_option maxHeartbeats 2000000 in
theorem forward_4 (A : Option Addr) (c : Nat) (g : Nat → Int) (w : World) (hA : Rd w A 16 (in64 g)) (h : Wi 1048576 16 g) :
    Calls Try.prog 31 #[.slice A 16 c] w (GivesIE 16 (byCol 4 (lin false 2) (byRow 4 (lin false 2) g)) 0 w) := by
  have K := (Kn.start w).add (x := .rd A 16 (in64 g)) hA
  have H := Lib.hid h
  have hs : sideN 16 = 4 := rfl
  clear hA h
  go_enter Try.func31, Try.ntmps31
  go_wp2_with fail
  refine (within_any _ _).mono ?_
  rintro e w1 ⟨rfl, hq, hb⟩
  have K := (K.below hb).add (x := .box w.heap.size #[.int .i64 1048576]) hq
  clear hq hb
  go_wp2_with fail
  refine (block_yes A 16 c w.heap.size g 1048576 _ K.2.1 K.1 (by decide) (by omega) (by omega) H.out).mono ?_
  rintro e w2 ⟨b2, c2, rfl, hr, hc1, hc2, hb2, hb⟩
  rw [hs]
  have L : Below w.heap.size w w2 := K.2.2.1.trans (hb.mono K.2.2.1.size)
  have hws : w.heap.size ≤ w1.heap.size := K.2.2.1.size
  have hb2l := Row.lt hr
  have HL := Lib.hid (L.trans (((Below.refl _ w2).alloc (Nat.le_refl _) (.cells #[.int .i64 0] 3)).mono L.size))
  have HK := Lib.hid ((show Kn w2 [.row b2 16 (in64 g)] from ⟨hr, trivial⟩).new w2.heap.size #[.int .i64 4] 3 rfl)
  have HL1 := Lib.hid ((Oth.refl b2 w2).alloc (.cells #[.int .i64 4] 3))
  have HLL := Lib.hid L
  clear K hr hb L HL
  have kl := Box.lt HK.out.1
  have kc := Box.cells HK.out.1
  go_wp2_with fail
  refine (rows_4 false b2 w2.heap.size c2 g 1048576 _ HK.out.2.1 HK.out.1 (by omega) (by omega) (by omega) H.out hc1 hc2).mono ?_
  rintro e w3 ⟨rfl, hr3, ho3⟩
  have hq3 : Box w3 w2.heap.size #[.int .i64 4] := Box.oth HK.out.1 ho3 (by omega)
  clear kc kl
  have kc := Box.cells hq3
  have kl := Box.lt hq3
  have HO3 := Lib.hid (HL1.out.trans ho3)
  have HR3 := Lib.hid hr3
  have HQ3 := Lib.hid hq3
  clear hr3 ho3 hq3
  go_wp2_with fail
  refine (columns_4 false b2 w2.heap.size c2 _ 4194304 _ HR3.out HQ3.out (by omega) (by omega) (by omega) (byRow_bd (k := 2) (by omega) (by omega) H.out) hc1 hc2).mono ?_
  rintro e w4 ⟨rfl, hr4, ho4⟩
  have HO4 := Lib.hid (HO3.out.trans ho4)
  have HR4 := Lib.hid hr4
  clear hr4 ho4 kc kl
  go_wp2
  go_ret2
  refine ⟨_, _, rfl, Row.rd HR4.out, hc1, hc2, fun k o e => (by injection e with e; injection e with e1 e2; omega), ?_⟩
  exact HLL.out.trans (Oth.below HO4.out (by omega) HLL.out.size)
set_option maxRecDepth 100000 in
set_option maxHeartbeats 2000000 in
theorem forward_8 (A : Option Addr) (c : Nat) (g : Nat → Int) (w : World) (hA : Rd w A 64 (in64 g)) (h : Wi 1048576 64 g) :
    Calls Try.prog 31 #[.slice A 64 c] w (GivesIE 64 (byCol 8 (lin false 3) (byRow 8 (lin false 3) g)) 0 w) := by
  have K := (Kn.start w).add (x := .rd A 64 (in64 g)) hA
  have H := Lib.hid h
  have hs : sideN 64 = 8 := rfl
  clear hA h
  go_enter Try.func31, Try.ntmps31
  go_wp2_with fail
  refine (within_any _ _).mono ?_
  rintro e w1 ⟨rfl, hq, hb⟩
  have K := (K.below hb).add (x := .box w.heap.size #[.int .i64 1048576]) hq
  clear hq hb
  go_wp2_with fail
  refine (block_yes A 64 c w.heap.size g 1048576 _ K.2.1 K.1 (by decide) (by omega) (by omega) H.out).mono ?_
  rintro e w2 ⟨b2, c2, rfl, hr, hc1, hc2, hb2, hb⟩
  rw [hs]
  have L : Below w.heap.size w w2 := K.2.2.1.trans (hb.mono K.2.2.1.size)
  have hws : w.heap.size ≤ w1.heap.size := K.2.2.1.size
  have hb2l := Row.lt hr
  have HL := Lib.hid (L.trans (((Below.refl _ w2).alloc (Nat.le_refl _) (.cells #[.int .i64 0] 3)).mono L.size))
  have HK := Lib.hid ((show Kn w2 [.row b2 64 (in64 g)] from ⟨hr, trivial⟩).new w2.heap.size #[.int .i64 8] 3 rfl)
  have HL1 := Lib.hid ((Oth.refl b2 w2).alloc (.cells #[.int .i64 8] 3))
  have HLL := Lib.hid L
  clear K hr hb L HL
  have kl := Box.lt HK.out.1
  have kc := Box.cells HK.out.1
  go_wp2_with fail
  refine (rows_8 false b2 w2.heap.size c2 g 1048576 _ HK.out.2.1 HK.out.1 (by omega) (by omega) (by omega) H.out hc1 hc2).mono ?_
  rintro e w3 ⟨rfl, hr3, ho3⟩
  have hq3 : Box w3 w2.heap.size #[.int .i64 8] := Box.oth HK.out.1 ho3 (by omega)
  clear kc kl
  have kc := Box.cells hq3
  have kl := Box.lt hq3
  have HO3 := Lib.hid (HL1.out.trans ho3)
  have HR3 := Lib.hid hr3
  have HQ3 := Lib.hid hq3
  clear hr3 ho3 hq3
  go_wp2_with fail
  refine (columns_8 false b2 w2.heap.size c2 _ 4194304 _ HR3.out HQ3.out (by omega) (by omega) (by omega) (byRow_bd (k := 3) (by omega) (by omega) H.out) hc1 hc2).mono ?_
  rintro e w4 ⟨rfl, hr4, ho4⟩
  have HO4 := Lib.hid (HO3.out.trans ho4)
  have HR4 := Lib.hid hr4
  clear hr4 ho4 kc kl
  go_wp2
  go_ret2
  refine ⟨_, _, rfl, Row.rd HR4.out, hc1, hc2, fun k o e => (by injection e with e; injection e with e1 e2; omega), ?_⟩
  exact HLL.out.trans (Oth.below HO4.out (by omega) HLL.out.size)
theorem back_no (A : Option Addr) (n c : Nat) (g : Nat → Int) (w : World) (hA : Rd w A n (in64 g)) (h : okB 67108864 n g = false) :
    Calls Try.prog 33 #[.slice A n c] w (GivesIE 0 (fun _ => 0) 1 w) := by
  have K := (Kn.start w).add (x := .rd A n (in64 g)) hA
  have H := Lib.hid h
  clear hA h
  go_enter Try.func33, Try.ntmps33
  go_wp2_with fail
  refine (within_any _ _).mono ?_
  rintro e w1 ⟨rfl, hq, hb⟩
  have K := (K.below hb).add (x := .box w.heap.size #[.int .i64 67108864]) hq
  clear hq hb
  go_wp2_with fail
  refine (block_err A n c w.heap.size g 67108864 _ K.2.1 K.1 (by omega) (by omega) H.out).mono ?_
  rintro e w2 ⟨rfl, hb⟩
  have K := K.below hb
  clear hb
  go_wp2
  go_ret2
  refine ⟨_, _, rfl, Rd.none_ _ _ _, Nat.le_refl _, by omega, fun k o e => (by cases e), ?_⟩
  exact K.2.2.1.trans (((Below.refl _ w2).alloc (Nat.le_refl _) _).mono K.2.2.1.size)
set_option maxRecDepth 100000 in
set_option maxHeartbeats 2000000 in
theorem back_4 (A : Option Addr) (c : Nat) (g : Nat → Int) (w : World) (hA : Rd w A 16 (in64 g)) (h : Wi 67108864 16 g) :
    Calls Try.prog 33 #[.slice A 16 c] w (GivesIE 16 (byRow 4 (lin true 2) (byCol 4 (lin true 2) g)) 0 w) := by
  have K := (Kn.start w).add (x := .rd A 16 (in64 g)) hA
  have H := Lib.hid h
  have hs : sideN 16 = 4 := rfl
  clear hA h
  go_enter Try.func33, Try.ntmps33
  go_wp2_with fail
  refine (within_any _ _).mono ?_
  rintro e w1 ⟨rfl, hq, hb⟩
  have K := (K.below hb).add (x := .box w.heap.size #[.int .i64 67108864]) hq
  clear hq hb
  go_wp2_with fail
  refine (block_yes A 16 c w.heap.size g 67108864 _ K.2.1 K.1 (by decide) (by omega) (by omega) H.out).mono ?_
  rintro e w2 ⟨b2, c2, rfl, hr, hc1, hc2, hb2, hb⟩
  rw [hs]
  have L : Below w.heap.size w w2 := K.2.2.1.trans (hb.mono K.2.2.1.size)
  have hws : w.heap.size ≤ w1.heap.size := K.2.2.1.size
  have hb2l := Row.lt hr
  have HL := Lib.hid (L.trans (((Below.refl _ w2).alloc (Nat.le_refl _) (.cells #[.int .i64 0] 3)).mono L.size))
  have HK := Lib.hid ((show Kn w2 [.row b2 16 (in64 g)] from ⟨hr, trivial⟩).new w2.heap.size #[.int .i64 4] 3 rfl)
  have HL1 := Lib.hid ((Oth.refl b2 w2).alloc (.cells #[.int .i64 4] 3))
  have HLL := Lib.hid L
  clear K hr hb L HL
  have kl := Box.lt HK.out.1
  have kc := Box.cells HK.out.1
  go_wp2_with fail
  refine (columns_4 true b2 w2.heap.size c2 g 67108864 _ HK.out.2.1 HK.out.1 (by omega) (by omega) (by omega) H.out hc1 hc2).mono ?_
  rintro e w3 ⟨rfl, hr3, ho3⟩
  have hq3 : Box w3 w2.heap.size #[.int .i64 4] := Box.oth HK.out.1 ho3 (by omega)
  clear kc kl
  have kc := Box.cells hq3
  have kl := Box.lt hq3
  have HO3 := Lib.hid (HL1.out.trans ho3)
  have HR3 := Lib.hid hr3
  have HQ3 := Lib.hid hq3
  clear hr3 ho3 hq3
  go_wp2_with fail
  refine (rows_4 true b2 w2.heap.size c2 _ 268435456 _ HR3.out HQ3.out (by omega) (by omega) (by omega) (byCol_bd (k := 2) (by omega) (by omega) H.out) hc1 hc2).mono ?_
  rintro e w4 ⟨rfl, hr4, ho4⟩
  have HO4 := Lib.hid (HO3.out.trans ho4)
  have HR4 := Lib.hid hr4
  clear hr4 ho4 kc kl
  go_wp2
  go_ret2
  refine ⟨_, _, rfl, Row.rd HR4.out, hc1, hc2, fun k o e => (by injection e with e; injection e with e1 e2; omega), ?_⟩
  exact HLL.out.trans (Oth.below HO4.out (by omega) HLL.out.size)
set_option maxRecDepth 100000 in
set_option maxHeartbeats 2000000 in
theorem back_8 (A : Option Addr) (c : Nat) (g : Nat → Int) (w : World) (hA : Rd w A 64 (in64 g)) (h : Wi 67108864 64 g) :
    Calls Try.prog 33 #[.slice A 64 c] w (GivesIE 64 (byRow 8 (lin true 3) (byCol 8 (lin true 3) g)) 0 w) := by
  have K := (Kn.start w).add (x := .rd A 64 (in64 g)) hA
  have H := Lib.hid h
  have hs : sideN 64 = 8 := rfl
  clear hA h
  go_enter Try.func33, Try.ntmps33
  go_wp2_with fail
  refine (within_any _ _).mono ?_
  rintro e w1 ⟨rfl, hq, hb⟩
  have K := (K.below hb).add (x := .box w.heap.size #[.int .i64 67108864]) hq
  clear hq hb
  go_wp2_with fail
  refine (block_yes A 64 c w.heap.size g 67108864 _ K.2.1 K.1 (by decide) (by omega) (by omega) H.out).mono ?_
  rintro e w2 ⟨b2, c2, rfl, hr, hc1, hc2, hb2, hb⟩
  rw [hs]
  have L : Below w.heap.size w w2 := K.2.2.1.trans (hb.mono K.2.2.1.size)
  have hws : w.heap.size ≤ w1.heap.size := K.2.2.1.size
  have hb2l := Row.lt hr
  have HL := Lib.hid (L.trans (((Below.refl _ w2).alloc (Nat.le_refl _) (.cells #[.int .i64 0] 3)).mono L.size))
  have HK := Lib.hid ((show Kn w2 [.row b2 64 (in64 g)] from ⟨hr, trivial⟩).new w2.heap.size #[.int .i64 8] 3 rfl)
  have HL1 := Lib.hid ((Oth.refl b2 w2).alloc (.cells #[.int .i64 8] 3))
  have HLL := Lib.hid L
  clear K hr hb L HL
  have kl := Box.lt HK.out.1
  have kc := Box.cells HK.out.1
  go_wp2_with fail
  refine (columns_8 true b2 w2.heap.size c2 g 67108864 _ HK.out.2.1 HK.out.1 (by omega) (by omega) (by omega) H.out hc1 hc2).mono ?_
  rintro e w3 ⟨rfl, hr3, ho3⟩
  have hq3 : Box w3 w2.heap.size #[.int .i64 8] := Box.oth HK.out.1 ho3 (by omega)
  clear kc kl
  have kc := Box.cells hq3
  have kl := Box.lt hq3
  have HO3 := Lib.hid (HL1.out.trans ho3)
  have HR3 := Lib.hid hr3
  have HQ3 := Lib.hid hq3
  clear hr3 ho3 hq3
  go_wp2_with fail
  refine (rows_8 true b2 w2.heap.size c2 _ 268435456 _ HR3.out HQ3.out (by omega) (by omega) (by omega) (byCol_bd (k := 3) (by omega) (by omega) H.out) hc1 hc2).mono ?_
  rintro e w4 ⟨rfl, hr4, ho4⟩
  have HO4 := Lib.hid (HO3.out.trans ho4)
  have HR4 := Lib.hid hr4
  clear hr4 ho4 kc kl
  go_wp2
  go_ret2
  refine ⟨_, _, rfl, Row.rd HR4.out, hc1, hc2, fun k o e => (by injection e with e; injection e with e1 e2; omega), ?_⟩
  exact HLL.out.trans (Oth.below HO4.out (by omega) HLL.out.size)
end Go.Proofs.Ytfooglenhepogaa
