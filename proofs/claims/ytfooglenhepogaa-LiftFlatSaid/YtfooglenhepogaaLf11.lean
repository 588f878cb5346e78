/- The document's layer 7: rows, turned, Forward, Back of a block of side 4. -/
import Derived.Test.YtfooglenhepogaaLf10
import Derived.Test.YtfooglenhepogaaLf8
namespace Go.Proofs.Ytfooglenhepogaa
open Go.RowKit Go.Kin
set_option linter.unusedVariables false
set_option maxRecDepth 100000 in
set_option maxHeartbeats 4000000 in
theorem rrows_4_false (A : Option Addr) (c : Nat) (g : Nat → Int) (M : Int) (w : World) (hA : Rd w A 16 (in64 g)) (hM0 : 1 ≤ M) (hM : M ≤ 1000000000) (hW : Wi M 16 g) (hc : 16 ≤ c) (hc2 : c ≤ 9223372036854775807) :
    Calls Try.prog 55 #[.slice A 16 c, .int .i64 4, .bool false] w (GivesI 16 (byRow 4 (lin false 2) g) w) := by
  obtain ⟨i0, hi0, hz0, hz1, hz2⟩ := parts_i64
  have HI := Lib.hid hi0
  clear hi0
  have K := (Kn.start w).add (x := .rd A 16 (in64 g)) hA
  have HW := Lib.hid hW
  have HOF := Lib.hid (fun b (hb : w.heap.size ≤ b) => K.offS (b := b) hb)
  obtain ⟨bA, oA, rfl, _, _⟩ := Rd.some_ hA (by omega)
  clear hA hW
  go_enter Try.func55, Try.ntmps55
  go_wp2
  have HK := Lib.hid (K.add (x := .own w.heap.size 3 none 0 0 (in64 (byRow 4 (lin false 2) g))) (OwnS.nil _ _ _ _))
  clear K
  go_loopw [7, 8] (fun v i wr => ∃ (y : Nat) (A5 : Option Addr) (c5 : Nat), y ≤ 4 ∧ i = .int .i64 y ∧ v = .slice A5 (y * 4) c5 ∧ Kn wr [.own w.heap.size 3 A5 (y * 4) c5 (in64 (byRow 4 (lin false 2) g)), .rd (some ⟨bA, oA, none⟩) 16 (in64 g), .since w]) (fun _ i _ => 4 - (intOf i).toNat)
  case atStart => exact ⟨0, none, 0, by omega, rfl, rfl, HK.out⟩
  case round =>
    obtain ⟨y, A5, c5, hy, rfl, rfl, K⟩ := hrel
    clear HK
    by_cases hlt : y < 4
    · have HRS : Hid (∀ wx, Rd wx (some ⟨bA, oA, none⟩) 16 (in64 g) → Rd wx (some ⟨bA, oA + y * 4, none⟩) 4 (in64 fun s => g (y * 4 + s))) := Lib.hid (fun wx h => fun _ => ⟨bA, oA + y * 4, rfl, fun i hi => by
        have := Rd.at_ h (show y * 4 + i < 16 by omega)
        rw [Nat.add_assoc]; exact this⟩)
      have HWS := Lib.hid (show Wi M 4 (fun s => g (y * 4 + s)) from fun s hs => HW.out _ (by omega))
      have HV := Lib.hid (fun (s : Nat) (hs : s < 4) => show lin false 2 (fun s => g (y * 4 + s)) s = byRow 4 (lin false 2) g (y * 4 + s) by
        unfold byRow
        rw [show (y * 4 + s) / 4 = y by omega, show (y * 4 + s) % 4 = s by omega])
      have hcs : 4 ≤ c - y * 4 := by omega
      have hcs2 : c - y * 4 ≤ 9223372036854775807 := by omega
      have d0 : (0 : Int) ≤ (y : Int) * 4 := by omega
      have d1 : (y : Int) * 4 + 4 ≤ c := by omega
      have d2 : (y : Int) * 4 ≤ (y : Int) * 4 + 4 := by omega
      have d3 : ¬ (c : Nat) = y * 4 := by omega
      have d4 : (0 : Int) ≤ (y : Int) * 4 + 4 := by omega
      have t1 : ((y : Int) * 4).toNat = y * 4 := by omega
      have t2 : ((y : Int) * 4 + 4).toNat = y * 4 + 4 := by omega
      have t3 : y * 4 + 4 - y * 4 = 4 := by omega
      have HK := Lib.hid K
      clear K
      go_wp2_with fail
      refine (rrow_any 2 4 _ _ _ M _ rfl (by omega) (by omega) hM (HRS.out _ HK.out.2.1) HWS.out hcs hcs2).mono ?_
      rintro e w3 ⟨A3, c3, rfl, hR3, _, _, hb3⟩
      have K := HK.out.below hb3
      obtain ⟨b3, o3, rfl, _, _⟩ := Rd.some_ hR3 (by omega)
      have hNo : some (⟨b3, o3, none⟩ : Addr) = none → 4 = 0 := fun h => by cases h
      have hsz := Below.size K.2.2.1
      have HKD := Lib.hid K
      have hO := K.1
      have hO' : OwnS w3 w.heap.size 3 A5 (y * 4) c5 (in64 (byRow 4 (lin false 2) g)) := hO
      clear hb3 HK K hO t1 t2 t3
      go_wp2_with (at_builtin; refine wpList_appM rfl (.tmp 38) (.tmp 39) rfl Try.underlying55 HI.out hz0 hz1 hz2 rfl rfl rfl hO' hR3 hNo (fun _ => rfl) ?_ ?_ ?_ ?_; rotate_right; intro A4 c4 w4 bo hO4 hbo ho4)
      rotate_left
      · unfold maxLen; omega
      · omega
      · exact hsz
      have HK4 := Lib.hid ((Kn.othS HKD.out.2 ho4 (HOF.out _ hbo)).add (x := .own w.heap.size 3 A4 (y * 4 + 4) c4 (in64 (byRow 4 (lin false 2) g))) (hO4.congr fun j hj => by
        by_cases e : j < y * 4
        · simp [e]
        · rw [if_neg e]
          refine congrArg (Value.int .i64) ?_
          have := HV.out (j - y * 4) (by omega)
          rw [show y * 4 + (j - y * 4) = j by omega] at this
          exact this))
      clear hO4 ho4 hO' hR3
      go_wp2
      go_roundw
      case rel => exact ⟨y + 1, A4, c4, by omega, by go_num, by rw [Nat.add_mul, Nat.one_mul], by rw [Nat.add_mul, Nat.one_mul]; exact HK4.out⟩
      case measure => simp [intOf]; omega
    · obtain rfl : y = 4 := by omega
      have HK := Lib.hid K
      clear K
      go_wp2
      go_ret
      exact ⟨_, _, rfl, HK.out.1.rd, HK.out.1.cap.1, HK.out.1.cap.2, fun k o e => (OwnS.lt HK.out.1 e).1, HK.out.2.2.1⟩
set_option maxRecDepth 100000 in
set_option maxHeartbeats 4000000 in
theorem rrows_4_true (A : Option Addr) (c : Nat) (g : Nat → Int) (M : Int) (w : World) (hA : Rd w A 16 (in64 g)) (hM0 : 1 ≤ M) (hM : M ≤ 1000000000) (hW : Wi M 16 g) (hc : 16 ≤ c) (hc2 : c ≤ 9223372036854775807) :
    Calls Try.prog 55 #[.slice A 16 c, .int .i64 4, .bool true] w (GivesI 16 (byRow 4 (lin true 2) g) w) := by
  obtain ⟨i0, hi0, hz0, hz1, hz2⟩ := parts_i64
  have HI := Lib.hid hi0
  clear hi0
  have K := (Kn.start w).add (x := .rd A 16 (in64 g)) hA
  have HW := Lib.hid hW
  have HOF := Lib.hid (fun b (hb : w.heap.size ≤ b) => K.offS (b := b) hb)
  obtain ⟨bA, oA, rfl, _, _⟩ := Rd.some_ hA (by omega)
  clear hA hW
  go_enter Try.func55, Try.ntmps55
  go_wp2
  have HK := Lib.hid (K.add (x := .own w.heap.size 3 none 0 0 (in64 (byRow 4 (lin true 2) g))) (OwnS.nil _ _ _ _))
  clear K
  go_loopw [7, 8] (fun v i wr => ∃ (y : Nat) (A5 : Option Addr) (c5 : Nat), y ≤ 4 ∧ i = .int .i64 y ∧ v = .slice A5 (y * 4) c5 ∧ Kn wr [.own w.heap.size 3 A5 (y * 4) c5 (in64 (byRow 4 (lin true 2) g)), .rd (some ⟨bA, oA, none⟩) 16 (in64 g), .since w]) (fun _ i _ => 4 - (intOf i).toNat)
  case atStart => exact ⟨0, none, 0, by omega, rfl, rfl, HK.out⟩
  case round =>
    obtain ⟨y, A5, c5, hy, rfl, rfl, K⟩ := hrel
    clear HK
    by_cases hlt : y < 4
    · have HRS : Hid (∀ wx, Rd wx (some ⟨bA, oA, none⟩) 16 (in64 g) → Rd wx (some ⟨bA, oA + y * 4, none⟩) 4 (in64 fun s => g (y * 4 + s))) := Lib.hid (fun wx h => fun _ => ⟨bA, oA + y * 4, rfl, fun i hi => by
        have := Rd.at_ h (show y * 4 + i < 16 by omega)
        rw [Nat.add_assoc]; exact this⟩)
      have HWS := Lib.hid (show Wi M 4 (fun s => g (y * 4 + s)) from fun s hs => HW.out _ (by omega))
      have HV := Lib.hid (fun (s : Nat) (hs : s < 4) => show lin true 2 (fun s => g (y * 4 + s)) s = byRow 4 (lin true 2) g (y * 4 + s) by
        unfold byRow
        rw [show (y * 4 + s) / 4 = y by omega, show (y * 4 + s) % 4 = s by omega])
      have hcs : 4 ≤ c - y * 4 := by omega
      have hcs2 : c - y * 4 ≤ 9223372036854775807 := by omega
      have d0 : (0 : Int) ≤ (y : Int) * 4 := by omega
      have d1 : (y : Int) * 4 + 4 ≤ c := by omega
      have d2 : (y : Int) * 4 ≤ (y : Int) * 4 + 4 := by omega
      have d3 : ¬ (c : Nat) = y * 4 := by omega
      have d4 : (0 : Int) ≤ (y : Int) * 4 + 4 := by omega
      have t1 : ((y : Int) * 4).toNat = y * 4 := by omega
      have t2 : ((y : Int) * 4 + 4).toNat = y * 4 + 4 := by omega
      have t3 : y * 4 + 4 - y * 4 = 4 := by omega
      have HK := Lib.hid K
      clear K
      go_wp2_with fail
      refine (rrow_any 2 4 _ _ _ M _ rfl (by omega) (by omega) hM (HRS.out _ HK.out.2.1) HWS.out hcs hcs2).mono ?_
      rintro e w3 ⟨A3, c3, rfl, hR3, _, _, hb3⟩
      have K := HK.out.below hb3
      clear hR3
      have HK := Lib.hid K
      clear K
      go_wp2_with fail
      refine (runrow_any 2 4 _ _ _ M _ rfl (by omega) (by omega) hM (HRS.out _ HK.out.2.1) HWS.out hcs hcs2).mono ?_
      rintro e w3 ⟨A3, c3, rfl, hR3, _, _, hb3⟩
      have K := HK.out.below hb3
      obtain ⟨b3, o3, rfl, _, _⟩ := Rd.some_ hR3 (by omega)
      have hNo : some (⟨b3, o3, none⟩ : Addr) = none → 4 = 0 := fun h => by cases h
      have hsz := Below.size K.2.2.1
      have HKD := Lib.hid K
      have hO := K.1
      have hO' : OwnS w3 w.heap.size 3 A5 (y * 4) c5 (in64 (byRow 4 (lin true 2) g)) := hO
      clear hb3 HK K hO t1 t2 t3
      go_wp2_with (at_builtin; refine wpList_appM rfl (.tmp 38) (.tmp 39) rfl Try.underlying55 HI.out hz0 hz1 hz2 rfl rfl rfl hO' hR3 hNo (fun _ => rfl) ?_ ?_ ?_ ?_; rotate_right; intro A4 c4 w4 bo hO4 hbo ho4)
      rotate_left
      · unfold maxLen; omega
      · omega
      · exact hsz
      have HK4 := Lib.hid ((Kn.othS HKD.out.2 ho4 (HOF.out _ hbo)).add (x := .own w.heap.size 3 A4 (y * 4 + 4) c4 (in64 (byRow 4 (lin true 2) g))) (hO4.congr fun j hj => by
        by_cases e : j < y * 4
        · simp [e]
        · rw [if_neg e]
          refine congrArg (Value.int .i64) ?_
          have := HV.out (j - y * 4) (by omega)
          rw [show y * 4 + (j - y * 4) = j by omega] at this
          exact this))
      clear hO4 ho4 hO' hR3
      go_wp2
      go_roundw
      case rel => exact ⟨y + 1, A4, c4, by omega, by go_num, by rw [Nat.add_mul, Nat.one_mul], by rw [Nat.add_mul, Nat.one_mul]; exact HK4.out⟩
      case measure => simp [intOf]; omega
    · obtain rfl : y = 4 := by omega
      have HK := Lib.hid K
      clear K
      go_wp2
      go_ret
      exact ⟨_, _, rfl, HK.out.1.rd, HK.out.1.cap.1, HK.out.1.cap.2, fun k o e => (OwnS.lt HK.out.1 e).1, HK.out.2.2.1⟩
set_option maxRecDepth 100000 in
set_option maxHeartbeats 4000000 in
theorem rturned_4 (A : Option Addr) (c : Nat) (g : Nat → Int) (w : World) (hA : Rd w A 16 (in64 g)) :
    Calls Try.prog 56 #[.slice A 16 c, .int .i64 4] w (GivesI 16 (tur 4 g) w) := by
  obtain ⟨i0, hi0, hz0, hz1, hz2⟩ := parts_i64
  have HI := Lib.hid hi0
  clear hi0
  have K := (Kn.start w).add (x := .rd A 16 (in64 g)) hA
  have HOF := Lib.hid (fun b (hb : w.heap.size ≤ b) => K.offS (b := b) hb)
  obtain ⟨bA, oA, rfl, _, _⟩ := Rd.some_ hA (by omega)
  clear hA
  go_enter Try.func56, Try.ntmps56
  go_wp2
  have HK := Lib.hid (K.add (x := .own w.heap.size 3 none 0 0 (in64 (tur 4 g))) (OwnS.nil _ _ _ _))
  clear K
  go_loopw [5, 6] (fun v i wr => ∃ (x : Nat) (A5 : Option Addr) (c5 : Nat), x ≤ 4 ∧ i = .int .i64 x ∧ v = .slice A5 (x * 4) c5 ∧ Kn wr [.own w.heap.size 3 A5 (x * 4) c5 (in64 (tur 4 g)), .rd (some ⟨bA, oA, none⟩) 16 (in64 g), .since w]) (fun _ i _ => 4 - (intOf i).toNat)
  case atStart => exact ⟨0, none, 0, by omega, rfl, rfl, HK.out⟩
  case round =>
    obtain ⟨x, A5, c5, hx, rfl, rfl, K⟩ := hrel
    clear HK
    have HK := Lib.hid K
    clear K
    obtain ⟨wo, rfl⟩ : ∃ wo : World, wo = wr := ⟨_, rfl⟩
    by_cases hlt : x < 4
    · have lx : (x : Int) < 4 := by omega
      go_wp2
      go_loopw [5, 7] (fun v i wr => ∃ (y : Nat) (A5 : Option Addr) (c5 : Nat), y ≤ 4 ∧ i = .int .i64 y ∧ v = .slice A5 (x * 4 + y) c5 ∧ Kn wr [.own w.heap.size 3 A5 (x * 4 + y) c5 (in64 (tur 4 g)), .rd (some ⟨bA, oA, none⟩) 16 (in64 g), .since w]) (fun _ i _ => 4 - (intOf i).toNat)
      case atStart => exact ⟨0, A5, c5, by omega, rfl, rfl, HK.out⟩
      case round =>
        obtain ⟨y, A5, c5, hy, rfl, rfl, K⟩ := hrel
        clear HK
        by_cases hly : y < 4
        · have c1 := Rd.at_ K.2.1 (show y * 4 + x < 16 by omega)
          simp only [in64] at c1
          have d1 : (y : Int) * 4 + x < 16 := by omega
          have d0 : (0 : Int) ≤ (y : Int) * 4 + x := by omega
          have t1 : ((y : Int) * 4 + x).toNat = y * 4 + x := by omega
          have HV := Lib.hid (show tur 4 g (x * 4 + y) = g (y * 4 + x) by unfold tur; rw [show (x * 4 + y) % 4 = y by omega, show (x * 4 + y) / 4 = x by omega])
          have hsz : w.heap.size ≤ wr.heap.size := Below.size K.2.2.1
          have HK := Lib.hid K
          clear K
          go_wp2_with (at_builtin; refine wpList_app1 rfl (.tmp 18) (.tmp 27) rfl Try.underlying55 HI.out hz0 hz1 hz2 rfl rfl rfl (OwnS.alloc HK.out.1 _) (Box.new wr _ _) rfl ?_ ?_ ?_ ?_; rotate_right; intro A4 c4 w4 bo hO4 hbo ho4)
          rotate_left
          · unfold maxLen; omega
          · omega
          · simp; omega
          have HK4 := Lib.hid ((Kn.othS (HK.out.2.alloc _) ho4 (HOF.out _ hbo)).add (x := .own w.heap.size 3 A4 (x * 4 + y + 1) c4 (in64 (tur 4 g))) (hO4.congr fun j hj => by
            by_cases e : j < x * 4 + y
            · simp [e]
            · obtain rfl : j = x * 4 + y := by omega
              simp [in64, HV.out]))
          clear hO4 ho4 HK c1 t1
          go_wp2
          go_roundw
          case rel => exact ⟨y + 1, A4, c4, by omega, by go_num, rfl, HK4.out⟩
          case measure => simp [intOf]; omega
        · obtain rfl : y = 4 := by omega
          have HK := Lib.hid K
          clear K
          go_wp2
          go_roundw
          case rel => exact ⟨x + 1, A5, c5, by omega, by go_num, by rw [Nat.add_mul, Nat.one_mul], by rw [Nat.add_mul, Nat.one_mul]; exact HK.out⟩
          case measure => simp [intOf]; omega
    · obtain rfl : x = 4 := by omega
      go_wp2
      go_ret
      exact ⟨_, _, rfl, HK.out.1.rd, HK.out.1.cap.1, HK.out.1.cap.2, fun k o e => (OwnS.lt HK.out.1 e).1, HK.out.2.2.1⟩
set_option maxRecDepth 100000 in
set_option maxHeartbeats 4000000 in
theorem rforward_4 (A : Option Addr) (c : Nat) (g : Nat → Int) (w : World) (hA : Rd w A 16 (in64 g)) (h : Wi 1048576 16 g) (hc : 16 ≤ c) (hc2 : c ≤ 9223372036854775807) :
    Calls Try.prog 32 #[.slice A 16 c] w (GivesIE 16 (byCol 4 (lin false 2) (byRow 4 (lin false 2) g)) 0 w) := by
  have K := (Kn.start w).add (x := .rd A 16 (in64 g)) hA
  have H := Lib.hid h
  have hs : sideN 16 = 4 := rfl
  have hw : wiB 1048576 16 g = true := wiB_iff.2 h
  clear hA h
  have HK := Lib.hid K
  clear K
  go_enter Try.func32, Try.ntmps32
  go_wp2_with fail
  refine (rside_any 16 _).mono ?_
  rintro e w' ⟨rfl, rfl⟩
  rw [hs]
  go_wp2_with fail
  refine (rwithin_any A 16 c g 1048576 _ HK.out.1 (by omega) (by omega) (by omega)).mono ?_
  rintro e w1 ⟨rfl, hb⟩
  rw [hw]
  have K := HK.out.below hb
  clear hb HK hw
  have HK := Lib.hid K
  clear K
  go_wp2_with fail
  refine (rrows_4_false A c g 1048576 _ HK.out.1 (by omega) (by omega) H.out hc hc2).mono ?_
  rintro e w2 ⟨A2, c2, rfl, hR2, hca2, hcb2, _, hb⟩
  have K := (HK.out.below hb).add (x := .rd A2 16 (in64 (byRow 4 (lin false 2) g))) hR2
  clear hb hR2 HK
  have HK := Lib.hid K
  clear K
  go_wp2_with fail
  refine (rturned_4 A2 c2 _ _ HK.out.1).mono ?_
  rintro e w3 ⟨A3, c3, rfl, hR3, hca3, hcb3, _, hb⟩
  have K := (HK.out.below hb).add (x := .rd A3 16 (in64 (tur 4 (byRow 4 (lin false 2) g)))) hR3
  clear hb hR3 HK
  have HK := Lib.hid K
  clear K
  have HB3 := Lib.hid (tur_bd (n := 4) (byRow_bd (k := 2) (b := false) (by omega) (by omega) H.out))
  go_wp2_with fail
  refine (rrows_4_false A3 c3 _ 4194304 _ HK.out.1 (by omega) (by omega) HB3.out hca3 hcb3).mono ?_
  rintro e w4 ⟨A4, c4, rfl, hR4, hca4, hcb4, _, hb⟩
  have K := (HK.out.below hb).add (x := .rd A4 16 (in64 (byRow 4 (lin false 2) (tur 4 (byRow 4 (lin false 2) g))))) hR4
  clear hb hR4 HK
  have HK := Lib.hid K
  clear K
  go_wp2_with fail
  refine (rturned_4 A4 c4 _ _ HK.out.1).mono ?_
  rintro e w5 ⟨A5, c5, rfl, hR5, hca5, hcb5, hfr, hb⟩
  have L := HK.out.2.2.2.2.1
  have HR5 := Lib.hid (And.intro hR5 (And.intro hfr (L.trans (hb.mono L.size))))
  have hsz := L.size
  clear hR5 hb hfr
  go_wp2
  go_ret2
  refine ⟨A5, c5, rfl, HR5.out.1.congr (fun i hi => ?_), hca5, hcb5, fun k o e => Nat.le_trans hsz (HR5.out.2.1 k o e), HR5.out.2.2⟩
  exact congrArg (Value.int .i64) (byCol_tur (n := 4) (fun l h e => lin_congr (k := 2) e) i hi)
set_option maxRecDepth 100000 in
set_option maxHeartbeats 4000000 in
theorem rback_4 (A : Option Addr) (c : Nat) (g : Nat → Int) (w : World) (hA : Rd w A 16 (in64 g)) (h : Wi 67108864 16 g) (hc : 16 ≤ c) (hc2 : c ≤ 9223372036854775807) :
    Calls Try.prog 34 #[.slice A 16 c] w (GivesIE 16 (byRow 4 (lin true 2) (byCol 4 (lin true 2) g)) 0 w) := by
  have K := (Kn.start w).add (x := .rd A 16 (in64 g)) hA
  have H := Lib.hid h
  have hs : sideN 16 = 4 := rfl
  have hw : wiB 67108864 16 g = true := wiB_iff.2 h
  clear hA h
  have HK := Lib.hid K
  clear K
  go_enter Try.func34, Try.ntmps34
  go_wp2_with fail
  refine (rside_any 16 _).mono ?_
  rintro e w' ⟨rfl, rfl⟩
  rw [hs]
  go_wp2_with fail
  refine (rwithin_any A 16 c g 67108864 _ HK.out.1 (by omega) (by omega) (by omega)).mono ?_
  rintro e w1 ⟨rfl, hb⟩
  rw [hw]
  have K := HK.out.below hb
  clear hb HK hw
  have HK := Lib.hid K
  clear K
  go_wp2_with fail
  refine (rturned_4 A c g _ HK.out.1).mono ?_
  rintro e w2 ⟨A2, c2, rfl, hR2, hca2, hcb2, _, hb⟩
  have K := (HK.out.below hb).add (x := .rd A2 16 (in64 (tur 4 g))) hR2
  clear hb hR2 HK
  have HK := Lib.hid K
  clear K
  have HB2 := Lib.hid (tur_bd (n := 4) H.out)
  go_wp2_with fail
  refine (rrows_4_true A2 c2 _ 67108864 _ HK.out.1 (by omega) (by omega) HB2.out hca2 hcb2).mono ?_
  rintro e w3 ⟨A3, c3, rfl, hR3, hca3, hcb3, _, hb⟩
  have K := (HK.out.below hb).add (x := .rd A3 16 (in64 (byRow 4 (lin true 2) (tur 4 g)))) hR3
  clear hb hR3 HK
  have HK := Lib.hid K
  clear K
  have HB3 := Lib.hid (tur_bd (n := 4) (byRow_bd (k := 2) (b := true) (by omega) (by omega) HB2.out))
  go_wp2_with fail
  refine (rturned_4 A3 c3 _ _ HK.out.1).mono ?_
  rintro e w4 ⟨A4, c4, rfl, hR4, hca4, hcb4, _, hb⟩
  have K := (HK.out.below hb).add (x := .rd A4 16 (in64 (tur 4 (byRow 4 (lin true 2) (tur 4 g))))) hR4
  clear hb hR4 HK
  have HK := Lib.hid K
  clear K
  go_wp2_with fail
  refine (rrows_4_true A4 c4 _ 268435456 _ HK.out.1 (by omega) (by omega) HB3.out hca4 hcb4).mono ?_
  rintro e w5 ⟨A5, c5, rfl, hR5, hca5, hcb5, hfr, hb⟩
  have L := HK.out.2.2.2.2.1
  have HR5 := Lib.hid (And.intro hR5 (And.intro hfr (L.trans (hb.mono L.size))))
  have hsz := L.size
  clear hR5 hb hfr
  go_wp2
  go_ret2
  refine ⟨A5, c5, rfl, HR5.out.1.congr (fun i hi => ?_), hca5, hcb5, fun k o e => Nat.le_trans hsz (HR5.out.2.1 k o e), HR5.out.2.2⟩
  refine congrArg (Value.int .i64) (byRow_congr (n := 4) (fun l h e => lin_congr (k := 2) e) (fun j hj => ?_) i hi)
  exact byCol_tur (n := 4) (fun l h e => lin_congr (k := 2) e) j hj
theorem rforward_no (A : Option Addr) (n c : Nat) (g : Nat → Int) (w : World) (hA : Rd w A n (in64 g)) (hn : n ≤ 10000) (h : okB 1048576 n g = false) :
    Calls Try.prog 32 #[.slice A n c] w (GivesIE 0 (fun _ => 0) 1 w) := by
  have HA := Lib.hid hA
  clear hA
  by_cases hs : sideN n = 0
  · have H := Lib.hid hs
    clear hs h
    go_enter Try.func32, Try.ntmps32
    go_wp2_with fail
    refine (rside_any n _).mono ?_
    rintro e w' ⟨rfl, rfl⟩
    rw [H.out]
    go_wp2_with fail
    refine (rwithin_any A n c g 1048576 _ HA.out (by omega) (by omega) (by omega)).mono ?_
    rintro e w1 ⟨rfl, hb⟩
    go_wp2
    go_ret2
    exact ⟨_, _, rfl, Rd.none_ _ _ _, Nat.le_refl _, by omega, fun k o e => (by cases e), hb⟩
  · have hw : wiB 1048576 n g = false := by
      unfold okB at h
      simpa [hs] using h
    have hs2 : ((sideN n : Int) == 0) = false := by simp; omega
    clear hs h
    have HW := Lib.hid hw
    clear hw
    go_enter Try.func32, Try.ntmps32
    go_wp2_with fail
    refine (rside_any n _).mono ?_
    rintro e w' ⟨rfl, rfl⟩
    generalize (sideN n : Int) = sd at *
    go_wp2_with fail
    refine (rwithin_any A n c g 1048576 _ HA.out (by omega) (by omega) (by omega)).mono ?_
    rintro e w1 ⟨rfl, hb⟩
    rw [HW.out]
    go_wp2
    go_ret2
    exact ⟨_, _, rfl, Rd.none_ _ _ _, Nat.le_refl _, by omega, fun k o e => (by cases e), hb⟩
theorem rback_no (A : Option Addr) (n c : Nat) (g : Nat → Int) (w : World) (hA : Rd w A n (in64 g)) (hn : n ≤ 10000) (h : okB 67108864 n g = false) :
    Calls Try.prog 34 #[.slice A n c] w (GivesIE 0 (fun _ => 0) 1 w) := by
  have HA := Lib.hid hA
  clear hA
  by_cases hs : sideN n = 0
  · have H := Lib.hid hs
    clear hs h
    go_enter Try.func34, Try.ntmps34
    go_wp2_with fail
    refine (rside_any n _).mono ?_
    rintro e w' ⟨rfl, rfl⟩
    rw [H.out]
    go_wp2_with fail
    refine (rwithin_any A n c g 67108864 _ HA.out (by omega) (by omega) (by omega)).mono ?_
    rintro e w1 ⟨rfl, hb⟩
    go_wp2
    go_ret2
    exact ⟨_, _, rfl, Rd.none_ _ _ _, Nat.le_refl _, by omega, fun k o e => (by cases e), hb⟩
  · have hw : wiB 67108864 n g = false := by
      unfold okB at h
      simpa [hs] using h
    have hs2 : ((sideN n : Int) == 0) = false := by simp; omega
    clear hs h
    have HW := Lib.hid hw
    clear hw
    go_enter Try.func34, Try.ntmps34
    go_wp2_with fail
    refine (rside_any n _).mono ?_
    rintro e w' ⟨rfl, rfl⟩
    generalize (sideN n : Int) = sd at *
    go_wp2_with fail
    refine (rwithin_any A n c g 67108864 _ HA.out (by omega) (by omega) (by omega)).mono ?_
    rintro e w1 ⟨rfl, hb⟩
    rw [HW.out]
    go_wp2
    go_ret2
    exact ⟨_, _, rfl, Rd.none_ _ _ _, Nat.le_refl _, by omega, fun k o e => (by cases e), hb⟩
end Go.Proofs.Ytfooglenhepogaa
