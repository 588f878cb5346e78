/- The document's layer 7: Unrow. -/
import Derived.Test.YtfooglenhepogaaLf9
namespace Go.Kin
open Go.RowKit
/-- append of some elements onto a slice of the call's own; what else is known stays. -/
theorem wpList_appM {P : Program} {w : World} {base n c : Nat} {e : TypeId} {A : Option Addr} {f : Nat → Value} {ops : Array Oper} {rest : List Oper} {o : Oper} {a : Act} {Q : Exit → Act → World → Prop} {t : TypeId} {i : TypeInfo} {z : Value} {bytes m d : Nat} {B : Option Addr} {h : Nat → Value} (hgd : o.guard = none) (s x : Operand)
    (ho : o.op = .call { callee := .builtin .append, args := #[s, x], argTypes := #[t, t] }) (ht : P.underlying t = some (.slice e)) (hi : P.info? e = some i) (hz : i.zero = some z)
    (hsize : i.size = 1) (hby : i.bytes = bytes) (hzs : z.cells.size = 1) (hs : a.eval s = .slice A n c) (hx : a.eval x = .slice B m d) (hown : OwnS w base e A n c f) (hS : Rd w B m h) (hB : B = none → m = 0) (h1 : ∀ j, (h j).oneCell' = true)
    (h63 : n + m ≤ maxLen) (hbytes : (n + m) * bytes ≤ 140737488355328) (hbase : base ≤ w.heap.size)
    (hK : ∀ A' c' w' bo, OwnS w' base e A' (n + m) c' (fun j => if j < n then f j else h (j - n)) → base ≤ bo → Oth bo w w' → wpList P ops Q rest (a.put o.dst (.slice A' (n + m) c')) w') : wpList P ops Q (o :: rest) a w := by
  refine wpList_appS hgd s x ho ht hi hz hsize hby hzs hs hx hown hS hB h1 h63 hbytes hbase ?_
  intro A' c' w' hO hG hL
  rcases hown.cases with ⟨rfl, rfl, rfl⟩ | ⟨bo, rfl, hbo, _⟩
  · exact hK A' c' w' w.heap.size hO hbase ⟨hG.os, hG.tape, hG.output, hG.size, fun k hk _ => hG.block k hk (by simp [Value.ownBlock])⟩
  · exact hK A' c' w' bo hO hbo ⟨hG.os, hG.tape, hG.output, hG.size, fun k hk hne => hG.block k hk (by simp [Value.ownBlock]; omega)⟩
theorem bck_two {k : Nat} {g : Nat → Int} {i : Nat} (hi : i < 2 ^ k) : bck (k + 1) g (2 * i) = bck k g i - g (2 ^ k + i) / 2 + g (2 ^ k + i) ∧ bck (k + 1) g (2 * i + 1) = bck k g i - g (2 ^ k + i) / 2 := by
  show bst1 (2 ^ k) (bck k g) (2 * i) = _ ∧ bst1 (2 ^ k) (bck k g) (2 * i + 1) = _
  unfold bst1
  rw [if_pos (by omega), if_pos (by omega), if_pos (by omega), if_neg (by omega), show 2 * i / 2 = i by omega, show (2 * i + 1) / 2 = i by omega, bck_out (show 2 ^ k ≤ 2 ^ k + i by omega)]
  omega
end Go.Kin
namespace Go.Proofs.Ytfooglenhepogaa
open Go.RowKit Go.Kin
set_option linter.unusedVariables false
set_option maxRecDepth 100000 in
set_option maxHeartbeats 4000000 in
theorem runrow_any : ∀ (k N : Nat) (A : Option Addr) (c : Nat) (g : Nat → Int) (M : Int) (w : World), N = 2 ^ k → k ≤ 3 → 1 ≤ M → M ≤ 1000000000 → Rd w A N (in64 g) → Wi M N g → N ≤ c → c ≤ 9223372036854775807 →
    Calls Try.prog 62 #[.slice A N c] w (GivesR N (bck k g) w)
  | 0, N, A, c, g, M, w, hN, hk, hM0, hM, hA, hW, hc, hc2 => by
    obtain rfl : N = 1 := hN
    have HA := Lib.hid hA
    clear hA hW
    go_enter Try.func62, Try.ntmps62
    go_wp2
    go_ret
    exact ⟨_, _, rfl, HA.out, hc, hc2, Below.refl _ _⟩
  | k + 1, N, A, c, g, M, w, hN, hk, hM0, hM, hA, hW, hc, hc2 => by
    have HIH := Lib.hid (runrow_any k)
    obtain ⟨i0, hi0, hz0, hz1, hz2⟩ := parts_i64
    have HI := Lib.hid hi0
    clear hi0
    have hp2 := two_pow_succ k
    have hm : 2 ^ k ≤ 4 := Nat.pow_le_pow_right (n := 2) (by omega) (show k ≤ 2 by omega)
    have hm0 : 0 < 2 ^ k := Nat.pow_pos (by omega)
    have HF := Lib.hid (fun i (hi : i < 2 ^ k) => bck_two (k := k) (g := g) (i := i) hi)
    have hwl := bck_bd (k := k) (l := g) hM0 (hW.mono (Int.le_refl _) (by omega))
    have HN := Lib.hid hN
    generalize hm2 : 2 ^ k = m at hm hm0 hp2 HF hwl
    have HM := Lib.hid hm2
    have hN2 : N = 2 * m := by omega
    clear hm2 hp2 hN
    have hk4 : ((k : Int) + 1) * M ≤ 4 * M := Int.mul_le_mul_of_nonneg_right (by omega) (by omega)
    have HWL := Lib.hid (hwl.mono hk4 (Nat.le_refl _))
    clear hk4 hwl
    have l1 : ¬ (N : Int) < 2 := by omega
    have hn8 : N ≤ 8 := by omega
    have zq : (N : Int).tdiv 2 = m := by rw [Int.tdiv_eq_ediv_of_nonneg (by omega)]; omega
    have hmc : (m : Int) ≤ c := by omega
    have HN2 := Lib.hid hN2
    clear hN2
    have HW := Lib.hid hW
    have hMN : m ≤ N := by have := HN2.out; omega
    have K := (Kn.start w).add (x := .rd A N (in64 g)) hA
    clear hA hW
    obtain ⟨bA, oA, rfl, _, hcA⟩ := Rd.some_ K.1 (by omega)
    have hA2 : Rd w (some ⟨bA, oA, none⟩) m (in64 g) := fun _ => ⟨bA, oA, rfl, fun i hi => hcA i (by omega)⟩
    have HA2 := Lib.hid hA2
    have HK := Lib.hid K
    have hmc2 : m ≤ c := by omega
    clear hcA hA2 K
    go_enter Try.func62, Try.ntmps62
    go_wp2_with fail
    refine (HIH.out m (some ⟨bA, oA, none⟩) c g M _ HM.out.symm (by omega) hM0 hM HA2.out (HW.out.mono (Int.le_refl _) hMN) hmc2 hc2).mono ?_
    rintro e w2 ⟨A3, c3, rfl, hR3, _, _, hb3⟩
    have HL2 : Hid (Below w.heap.size w w2) := Lib.hid hb3
    have K : Kn w2 [.rd A3 m (in64 (bck k g)), .rd (some ⟨bA, oA, none⟩) N (in64 g), .since w2] := ⟨hR3, Rd.below HK.out.1 hb3, Below.refl _ _, trivial⟩
    obtain ⟨b3, o3, rfl, _, _⟩ := Rd.some_ K.1 (by omega)
    clear hR3 hb3 HK zq
    have HOF := Lib.hid (fun b (hb : w2.heap.size ≤ b) => K.offS (b := b) hb)
    have HK := Lib.hid (K.add (x := .own w2.heap.size 3 none 0 0 (in64 (bck (k + 1) g))) (OwnS.nil _ _ _ _))
    clear K
    go_wp2
    go_loopw [5, 6] (fun v i wr => ∃ (t : Nat) (A5 : Option Addr) (c5 : Nat), t ≤ m ∧ i = .int .i64 t ∧ v = .slice A5 (2 * t) c5 ∧ Kn wr [.own w2.heap.size 3 A5 (2 * t) c5 (in64 (bck (k + 1) g)), .rd (some ⟨b3, o3, none⟩) m (in64 (bck k g)), .rd (some ⟨bA, oA, none⟩) N (in64 g), .since w2]) (fun _ i _ => m - (intOf i).toNat)
    case atStart => exact ⟨0, none, 0, by omega, rfl, rfl, HK.out⟩
    case round =>
      obtain ⟨t, A5, c5, ht, rfl, rfl, K⟩ := hrel
      clear HK
      have HNN := HN2.out
      by_cases hlt : t < m
      · have r2 : m + t < N := by omega
        have b1 := HWL.out t hlt
        have b2 := HW.out (m + t) r2
        have c1 := Rd.at_ K.2.2.1 r2
        simp only [in64] at c1
        have HT := Lib.hid (HF.out t hlt)
        generalize hx : bck k g t = x at *
        generalize hy : g (m + t) = y at *
        have HXY := Lib.hid (And.intro hx hy)
        clear hx hy HNN
        have s0 : (0 : Int) ≤ (m : Int) + t := by omega
        have s1 : ((m : Int) + t).toNat = m + t := by omega
        have s2 : (m : Int) + t < N := by omega
        have HK := Lib.hid K
        clear K
        go_wp2
        clear c1 s0 s1 s2
        have z1 : IntKind.i64.wrap (x - y / 2) = x - y / 2 := IntWalk.i64_in _ (by omega)
        have KD := Kn.drew HK.out
        have s3 : (t : Int) < m := by omega
        refine wp_region_allH (fun w' => Kn w' [.rd (some ⟨b3, o3, none⟩) m (in64 (bck k g))]) [5] [(0,1),(1,1),(2,1),(3,1),(4,1),(5,2),(6,1),(7,0)] (by kernel_rfl) (by kernel_rfl) (fun _ _ d _ _ h => by cases d <;> exact h) (⟨KD.2.1, trivial⟩) ?_
        generalize wr.drew = wd at KD ⊢
        repeat (first | (refine oH_freeG rfl rfl (fun w' hS => by have q1 := Rd.at_ hS.1 hlt; simp only [in64, HXY.out.1] at q1; clear hS; go_simp; with_reducible rfl) ?_; go_simp) | (refine oH_skipG rfl rfl ?_; go_simp))
        refine oH_doG rfl rfl (fun KK hKK => ?_)
        go_simp
        refine (rfloor_any _ _ (by omega)).mono ?_
        rintro e w' ⟨rfl, rfl⟩
        refine hKK _ _ ⟨⟨KD.2.1, trivial⟩, ?_⟩
        clear hKK KK
        repeat (first | (refine oH_freeG rfl rfl (fun w' hS => by skip; clear hS; go_simp; with_reducible rfl) ?_; go_simp) | (refine oH_skipG rfl rfl ?_; go_simp))
        repeat (refine oH_still rfl (fun KK hKK => ?_); go_simp; refine hKK _ ?_; clear hKK KK)
        refine oH_nil ?_
        clear z1
        have hsz : w2.heap.size ≤ wd.heap.size := Below.size KD.2.2.2.1
        have HKD := Lib.hid KD
        clear KD HK
        have hOa := OwnS.alloc HKD.out.1 (.cells #[.int .i64 (x - y / 2 + y), .int .i64 (x - y / 2)] 3)
        have hBn : Rd (wd.alloc (.cells #[.int .i64 (x - y / 2 + y), .int .i64 (x - y / 2)] 3)) (some ⟨wd.heap.size, 0, none⟩) 2 (fun j => if j = 0 then .int .i64 (x - y / 2 + y) else .int .i64 (x - y / 2)) := Box.rd (Box.new wd _ _) (fun j hj => by
          rcases (show j = 0 ∨ j = 1 by omega) with rfl | rfl <;> rfl)
        have hNo : some (⟨wd.heap.size, 0, none⟩ : Addr) = none → 2 = 0 := fun h => by cases h
        have h1c : ∀ j : Nat, (if j = 0 then Value.int .i64 (x - y / 2 + y) else .int .i64 (x - y / 2)).oneCell' = true := fun j => by split <;> rfl
        go_wp2_with (at_builtin; refine wpList_appM rfl (.tmp 38) (.tmp 43) rfl Try.underlying55 HI.out hz0 hz1 hz2 rfl rfl rfl hOa hBn hNo h1c ?_ ?_ ?_ ?_; rotate_right; intro A4 c4 w4 bo hO4 hbo ho4)
        rotate_left
        · unfold maxLen; omega
        · omega
        · simp; omega
        have HK4 := Lib.hid ((Kn.othS (HKD.out.2.alloc _) ho4 (HOF.out _ hbo)).add (x := .own w2.heap.size 3 A4 (2 * t + 2) c4 (in64 (bck (k + 1) g))) (hO4.congr fun j hj => by
          simp only [in64]
          by_cases e : j < 2 * t
          · rw [if_pos e]
          · rw [if_neg e]
            rcases (show j = 2 * t ∨ j = 2 * t + 1 by omega) with rfl | rfl
            · rw [if_pos (by omega), HT.out.1]
            · rw [if_neg (by omega), HT.out.2]))
        clear hO4 ho4 hOa hBn
        go_wp2
        go_roundw
        case rel => exact ⟨t + 1, A4, c4, by omega, by go_num, by rw [Nat.mul_add], by rw [Nat.mul_add]; exact HK4.out⟩
        case measure => simp [intOf]; omega
      · obtain rfl : t = m := by omega
        have HK := Lib.hid K
        clear K
        have hret : Hid (∀ c5, Ending.returned (.slice A5 (2 * t) c5) = .returned (.slice A5 N c5)) := Lib.hid (fun _ => by rw [show N = 2 * t by omega])
        go_wp2
        go_ret
        refine ⟨A5, c5, hret.out c5, ?_, ?_, HK.out.1.cap.2, Below.trans HL2.out (HK.out.2.2.2.1.mono HL2.out.size)⟩
        · rw [show N = 2 * t by omega]
          exact HK.out.1.rd
        · have := HK.out.1.cap.1
          omega
end Go.Proofs.Ytfooglenhepogaa
