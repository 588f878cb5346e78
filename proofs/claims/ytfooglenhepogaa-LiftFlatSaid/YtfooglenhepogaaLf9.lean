/- The document's layer 7: Row and Unrow, that call themselves. -/
import Derived.Test.YtfooglenhepogaaLf5
namespace Go.Kin
open Go.RowKit
/-- append of one element onto a slice of the call's own, as a run; which blocks it is about. -/
theorem app_oneA {P : Program} {w : World} {base n c b : Nat} {e t ty : TypeId} {i : TypeInfo} {z x : Value} {bytes : Nat} {A : Option Addr} {f : Nat → Value} (ht : P.underlying t = some (.slice e)) (hi : P.info? e = some i) (hz : i.zero = some z)
    (hsize : i.size = 1) (hby : i.bytes = bytes) (hzs : z.cells.size = 1) (hown : OwnS w base e A n c f) (hB : Box w b #[x]) (h1 : x.oneCell' = true) (h63 : n + 1 ≤ maxLen) (hbytes : (n + 1) * bytes ≤ 140737488355328) (hbase : base ≤ w.heap.size) :
    ∃ A' c' w' bo, (Builtin.append_ #[t, t] ty #[.slice A n c, .slice (some ⟨b, 0, none⟩) 1 1]).run P w = .ok (.slice A' (n + 1) c') w' ∧ OwnS w' base e A' (n + 1) c' (fun j => if j < n then f j else x) ∧ base ≤ bo ∧ Oth bo w w' ∧
      (bo = w.heap.size ∨ ∃ o, A = some ⟨bo, o, none⟩) ∧ (∀ k o, A' = some ⟨k, o, none⟩ → k = bo ∨ w.heap.size ≤ k) := by
  have hS : Rd w (some ⟨b, 0, none⟩) 1 (fun _ => x) := Box.rd hB (fun j hj => by obtain rfl : j = 0 := (by omega); rfl)
  obtain ⟨A', c', w', hrun, hO, hG, hL⟩ := run_appS (P := P) (ty := ty) (d := 1) ht hi hz hsize hby hzs hown hS (fun h => by cases h) (fun _ => h1) h63 hbytes hbase
  rcases hown.cases with ⟨rfl, rfl, rfl⟩ | ⟨bo, rfl, hbo, _⟩
  · refine ⟨A', c', w', w.heap.size, hrun, hO, hbase, ⟨hG.os, hG.tape, hG.output, hG.size, fun k hk _ => hG.block k hk (by simp [Value.ownBlock])⟩, .inl rfl, fun k o e => ?_⟩
    subst e
    rcases hL with h | h
    · simp [Value.ownBlock] at h
    · simp [Value.ownBlock] at h; omega
  · refine ⟨A', c', w', bo, hrun, hO, hbo, ⟨hG.os, hG.tape, hG.output, hG.size, fun k hk hne => hG.block k hk (by simp [Value.ownBlock]; omega)⟩, .inr ⟨0, rfl⟩, fun k o e => ?_⟩
    subst e
    rcases hL with h | h
    · simp [Value.ownBlock] at h; exact .inl h
    · simp [Value.ownBlock] at h; omega
/-- Two slices that share no block. -/
def ApS (A B : Option Addr) : Prop := ∀ k o p, A = some ⟨k, o, none⟩ → B ≠ some ⟨k, p, none⟩
theorem ApS.off {w : World} {A B : Option Addr} {bo n c base : Nat} {e : TypeId} {f : Nat → Value} (h : ApS A B) (hB : OwnS w base e B n c f) {w1 : World} (hs : w.heap.size ≤ w1.heap.size) (hb : bo = w1.heap.size ∨ ∃ o, A = some ⟨bo, o, none⟩) : ∀ k o, B = some ⟨k, o, none⟩ → k ≠ bo := fun k o e => by
  rintro rfl
  rcases hb with hb | ⟨o', hb⟩
  · have := (OwnS.lt hB e).2; omega
  · exact h _ _ _ hb e
theorem ApS.next {w : World} {A B A' : Option Addr} {bo n c base : Nat} {e : TypeId} {f : Nat → Value} (h : ApS A B) (hB : OwnS w base e B n c f) {w1 : World} (hs : w.heap.size ≤ w1.heap.size) (hb : bo = w1.heap.size ∨ ∃ o, A = some ⟨bo, o, none⟩) (hA : ∀ k o, A' = some ⟨k, o, none⟩ → k = bo ∨ w1.heap.size ≤ k) : ApS A' B := fun k o p e e' => by
  rcases hA k o e with rfl | hk
  · exact h.off hB hs hb k p e' rfl
  · have := (OwnS.lt hB e').2; omega
theorem ApS.symm {A B : Option Addr} (h : ApS A B) : ApS B A := fun k o p e e' => h k p o e' e
/-- Numbers that a call gives, maybe where they were. -/
def GivesR (n : Nat) (f : Nat → Int) (w : World) (e : Ending) (w' : World) : Prop := ∃ A c, e = .returned (.slice A n c) ∧ Rd w' A n (in64 f) ∧ n ≤ c ∧ c ≤ 9223372036854775807 ∧ Below w.heap.size w w'
theorem fwd_two {k : Nat} {g : Nat → Int} {i : Nat} (hi : i < 2 ^ (k + 1)) : (if i < 2 ^ k then fwd k (fun i => (g (2 * i) + g (2 * i + 1)) / 2) i else g (2 * (i - 2 ^ k)) - g (2 * (i - 2 ^ k) + 1)) = fwd (k + 1) g i := by
  have hk := two_pow_succ k
  show _ = fwd k (fst1 (2 ^ k) g) i
  by_cases h : i < 2 ^ k
  · rw [if_pos h]
    exact fwd_congr (fun j hj => by unfold fst1; rw [if_pos hj]) i h
  · rw [if_neg h, fwd_out (by omega)]
    unfold fst1
    rw [if_neg h, if_pos (by omega)]
end Go.Kin
namespace Go.Proofs.Ytfooglenhepogaa
open Go.RowKit Go.Kin
set_option linter.unusedVariables false
set_option maxRecDepth 100000 in
set_option maxHeartbeats 4000000 in
theorem rrow_any : ∀ (k N : Nat) (A : Option Addr) (c : Nat) (g : Nat → Int) (M : Int) (w : World), N = 2 ^ k → k ≤ 3 → 0 ≤ M → M ≤ 1000000000 → Rd w A N (in64 g) → Wi M N g → N ≤ c → c ≤ 9223372036854775807 →
    Calls Try.prog 61 #[.slice A N c] w (GivesR N (fwd k g) w)
  | 0, N, A, c, g, M, w, hN, hk, hM0, hM, hA, hW, hc, hc2 => by
    obtain rfl : N = 1 := hN
    have HA := Lib.hid hA
    clear hA hW
    go_enter Try.func61, Try.ntmps61
    go_wp2
    go_ret
    exact ⟨_, _, rfl, HA.out, hc, hc2, Below.refl _ _⟩
  | k + 1, N, A, c, g, M, w, hN, hk, hM0, hM, hA, hW, hc, hc2 => by
    have HIH := Lib.hid (rrow_any k)
    obtain ⟨i0, hi0, hz0, hz1, hz2⟩ := parts_i64
    have HI := Lib.hid hi0
    clear hi0
    have hp2 := two_pow_succ k
    have hm : 2 ^ k ≤ 4 := Nat.pow_le_pow_right (n := 2) (by omega) (show k ≤ 2 by omega)
    have hm0 : 0 < 2 ^ k := Nat.pow_pos (by omega)
    have HF := Lib.hid (fun i (hi : i < N) => fwd_two (k := k) (g := g) (i := i) (by omega))
    have HN := Lib.hid hN
    generalize hm2 : 2 ^ k = m at hm hm0 hp2 HF
    have HM := Lib.hid hm2
    have hN2 : N = 2 * m := by omega
    clear hm2 hp2 hN
    have HN2 := Lib.hid hN2
    have l1 : ¬ (N : Int) < 2 := by omega
    have hn8 : N ≤ 8 := by omega
    clear hN2
    have K := (Kn.start w).add (x := .rd A N (in64 g)) hA
    have HW := Lib.hid hW
    have HOF := Lib.hid (fun b (hb : w.heap.size ≤ b) => K.offS (b := b) hb)
    clear hA hW
    obtain ⟨bA, oA, rfl, _, _⟩ := Rd.some_ K.1 (by omega)
    go_enter Try.func61, Try.ntmps61
    go_wp2
    have HK := Lib.hid ((K.add (x := .own w.heap.size 3 none 0 0 (in64 fun i => g (2 * i) - g (2 * i + 1))) (OwnS.nil _ _ _ _)).add (x := .own w.heap.size 3 none 0 0 (in64 fun i => (g (2 * i) + g (2 * i + 1)) / 2)) (OwnS.nil _ _ _ _))
    clear K
    go_loopw [3, 4, 5] (fun lo hi i wr => ∃ (t : Nat) (A1 A2 : Option Addr) (c1 c2 : Nat), t ≤ m ∧ i = .int .i64 ((2 * t : Nat) : Int) ∧ lo = .slice A1 t c1 ∧ hi = .slice A2 t c2 ∧ ApS A1 A2 ∧ Kn wr [.own w.heap.size 3 A1 t c1 (in64 fun i => (g (2 * i) + g (2 * i + 1)) / 2), .own w.heap.size 3 A2 t c2 (in64 fun i => g (2 * i) - g (2 * i + 1)), .rd (some ⟨bA, oA, none⟩) N (in64 g), .since w]) (fun _ _ i _ => N - (intOf i).toNat)
    case atStart => exact ⟨0, none, none, 0, 0, by omega, rfl, rfl, rfl, fun k o p e => (by cases e), HK.out⟩
    case round =>
      obtain ⟨t, A1, A2, c1, c2, ht, rfl, rfl, rfl, hap, K⟩ := hrel
      clear HK
      have HNN := HN2.out
      by_cases hlt : t < m
      · have b1 := HW.out (2 * t) (by omega)
        have b2 := HW.out (2 * t + 1) (by omega)
        have r1 : 2 * t < N := by omega
        have r2 : 2 * t + 1 < N := by omega
        have HG : Hid (∃ x y, g (2 * t) = x ∧ g (2 * t + 1) = y) := Lib.hid ⟨_, _, rfl, rfl⟩
        have HT := Lib.hid (show ((2 * t : Nat) : Int) = ((2 * t : Nat) : Int) from rfl)
        generalize h2t : 2 * t = tt at *
        have HTT := Lib.hid h2t
        clear h2t HT HG
        generalize hx : g tt = x at *
        generalize hy : g (tt + 1) = y at *
        have HXY := Lib.hid (And.intro hx hy)
        clear hx hy HNN
        have HAP := Lib.hid hap
        clear hap
        have K2 := K
        clear K
        go_wp2
        have z1 : IntKind.i64.wrap ((tt : Int) + 1) = tt + 1 := IntWalk.i64_in _ (by omega)
        have z2 : IntKind.i64.wrap (x + y) = x + y := IntWalk.i64_in _ (by omega)
        have s0 : (0 : Int) ≤ (tt : Int) + 1 := by omega
        have s1 : ((tt : Int) + 1).toNat = tt + 1 := by omega
        have s2 : (tt : Int) + 1 < N := by omega
        have s3 : (tt : Int) < N := by omega
        have KD := Kn.drew K2
        refine wp_region_allH (fun w' => Kn w' [.rd (some ⟨bA, oA, none⟩) N (in64 g)]) [11, 12, 13] [(0,1),(1,1),(2,1),(3,1),(4,1),(5,1),(6,1),(7,1),(8,1),(9,1),(10,1),(11,2),(12,2),(13,2),(14,0)] (by kernel_rfl) (by kernel_rfl) (fun _ _ d _ _ h => by cases d <;> exact h) (⟨KD.2.2.1, trivial⟩) ?_
        generalize wr.drew = wd at KD ⊢
        repeat (first | (refine oH_freeG rfl rfl (fun w' hS => by have q1 := Rd.at_ hS.1 r1; have q2 := Rd.at_ hS.1 r2; simp only [in64, HXY.out.1, HXY.out.2] at q1 q2; clear hS; go_simp; with_reducible rfl) ?_; go_simp) | (refine oH_skipG rfl rfl ?_; go_simp))
        clear z1 z2
        refine oH_doG rfl rfl (fun KK hKK => ?_)
        go_simp
        refine (rfloor_any _ _ (by omega)).mono ?_
        rintro e w' ⟨rfl, rfl⟩
        refine hKK _ _ ⟨⟨KD.2.2.1, trivial⟩, ?_⟩
        clear hKK KK
        refine oH_doG rfl rfl (fun KK hKK => ?_)
        go_simp
        have K3 := KD.new wd.heap.size #[.int .i64 ((x + y) / 2)] 3 rfl
        refine hKK _ _ ⟨⟨K3.2.2.2.1, trivial⟩, ?_⟩
        clear hKK KK
        refine oH_doG rfl rfl (fun KK hKK => ?_)
        have hs3 : w.heap.size ≤ (wd.alloc (.cells #[.int .i64 ((x + y) / 2)] 3)).heap.size := Below.size K3.2.2.2.2.1
        have hsa : wd.heap.size ≤ (wd.alloc (.cells #[.int .i64 ((x + y) / 2)] 3)).heap.size := by simp
        obtain ⟨A3, c3, w3, bo, hrun, hO3, hbo, ho3, hb1, hb2⟩ := app_oneA (P := Try.prog) (ty := 55) Try.underlying55 HI.out hz0 hz1 hz2 rfl K3.2.1 K3.1 rfl (by unfold maxLen; omega) (by omega) hs3
        refine wp_app rfl rfl hrun ?_
        have hoff := HAP.out.off KD.2.1 hsa hb1
        have K4 : Kn w3 [.own w.heap.size 3 A3 (t + 1) c3 (in64 fun i => (g (2 * i) + g (2 * i + 1)) / 2), .own w.heap.size 3 A2 t c2 (in64 fun i => g (2 * i) - g (2 * i + 1)), .rd (some ⟨bA, oA, none⟩) N (in64 g), .since w] := ⟨hO3.congr fun j hj => by
          by_cases e : j < t
          · simp [e]
          · obtain rfl : j = t := by omega
            simp only [in64, if_neg (Nat.lt_irrefl _), HTT.out, HXY.out.1, HXY.out.2], It.ok.othS K3.2.2.1 ho3 hoff, Kn.othS K3.2.2.2 ho3 (HOF.out _ hbo)⟩
        have HAP3 := Lib.hid (HAP.out.next KD.2.1 hsa hb1 hb2)
        refine hKK _ _ ⟨⟨K4.2.2.1, trivial⟩, ?_⟩
        clear hKK KK hrun hO3 ho3 hb1 hb2 hoff K3 KD HAP K2
        repeat (refine oH_still rfl (fun KK hKK => ?_); go_simp; refine hKK _ ?_; clear hKK KK)
        refine oH_nil ?_
        have K2 := K4
        clear K4
        go_wp2
        have z1 : IntKind.i64.wrap ((tt : Int) + 1) = tt + 1 := IntWalk.i64_in _ (by omega)
        have z2 : IntKind.i64.wrap (x - y) = x - y := IntWalk.i64_in _ (by omega)
        have KD := Kn.drew K2
        refine wp_region_allH (fun w' => Kn w' [.rd (some ⟨bA, oA, none⟩) N (in64 g)]) [11, 12] [(0,1),(1,1),(2,1),(3,1),(4,1),(5,1),(6,1),(7,1),(8,1),(9,1),(10,1),(11,2),(12,2),(13,0)] (by kernel_rfl) (by kernel_rfl) (fun _ _ d _ _ h => by cases d <;> exact h) (⟨KD.2.2.1, trivial⟩) ?_
        generalize w3.drew = we at KD ⊢
        repeat (first | (refine oH_freeG rfl rfl (fun w' hS => by have q1 := Rd.at_ hS.1 r1; have q2 := Rd.at_ hS.1 r2; simp only [in64, HXY.out.1, HXY.out.2] at q1 q2; clear hS; go_simp; with_reducible rfl) ?_; go_simp) | (refine oH_skipG rfl rfl ?_; go_simp))
        clear z1 z2
        refine oH_doG rfl rfl (fun KK hKK => ?_)
        go_simp
        have K3 := KD.new we.heap.size #[.int .i64 (x - y)] 3 rfl
        refine hKK _ _ ⟨⟨K3.2.2.2.1, trivial⟩, ?_⟩
        clear hKK KK
        refine oH_doG rfl rfl (fun KK hKK => ?_)
        have hs4 : w.heap.size ≤ (we.alloc (.cells #[.int .i64 (x - y)] 3)).heap.size := Below.size K3.2.2.2.2.1
        have hsb : we.heap.size ≤ (we.alloc (.cells #[.int .i64 (x - y)] 3)).heap.size := by simp
        obtain ⟨A4, c4, w4, bp, hrun, hO4, hbp, ho4, hb1, hb2⟩ := app_oneA (P := Try.prog) (ty := 55) Try.underlying55 HI.out hz0 hz1 hz2 rfl K3.2.2.1 K3.1 rfl (by unfold maxLen; omega) (by omega) hs4
        refine wp_app rfl rfl hrun ?_
        have hoff := HAP3.out.symm.off KD.1 hsb hb1
        have K5 : Kn w4 [.own w.heap.size 3 A3 (t + 1) c3 (in64 fun i => (g (2 * i) + g (2 * i + 1)) / 2), .own w.heap.size 3 A4 (t + 1) c4 (in64 fun i => g (2 * i) - g (2 * i + 1)), .rd (some ⟨bA, oA, none⟩) N (in64 g), .since w] := ⟨It.ok.othS K3.2.1 ho4 hoff, hO4.congr fun j hj => by
          by_cases e : j < t
          · simp [e]
          · obtain rfl : j = t := by omega
            simp only [in64, if_neg (Nat.lt_irrefl _), HTT.out, HXY.out.1, HXY.out.2], Kn.othS K3.2.2.2 ho4 (HOF.out _ hbp)⟩
        have HAP4 := Lib.hid (HAP3.out.symm.next KD.1 hsb hb1 hb2).symm
        refine hKK _ _ ⟨⟨K5.2.2.1, trivial⟩, ?_⟩
        clear hKK KK hrun hO4 ho4 hb1 hb2 hoff K3 KD HAP3 K2
        repeat (refine oH_still rfl (fun KK hKK => ?_); go_simp; refine hKK _ ?_; clear hKK KK)
        refine oH_nil ?_
        have HK5 := Lib.hid K5
        clear K5
        go_wp2
        go_roundw
        case rel => exact ⟨t + 1, A3, A4, c3, c4, by omega, congrArg (Value.int .i64) (by have := HTT.out; omega), rfl, rfl, HAP4.out, HK5.out⟩
        case measure => have := HTT.out; simp [intOf]; omega
      · obtain rfl : t = m := by omega
        have l2 : ¬ ((2 * t : Nat) : Int) < N := by omega
        obtain ⟨bl, rfl, _, _, _⟩ := OwnS.row K.1 (by omega)
        obtain ⟨bh, rfl, _, _, _⟩ := OwnS.row K.2.1 (by omega)
        have HK := Lib.hid (K.add (x := .own wr.heap.size 3 none 0 0 (in64 g)) (OwnS.nil _ _ _ _))
        have HWL := Lib.hid (show Wi M t (fun i => (g (2 * i) + g (2 * i + 1)) / 2) from fun i hi => by
          have h1 := HW.out (2 * i) (by omega)
          have h2 := HW.out (2 * i + 1) (by omega)
          dsimp only
          omega)
        clear K
        have hc1 := (OwnS.cap HK.out.2.1)
        have KE : Kn (wr.alloc (.cells #[] 3)) [.own wr.heap.size 3 (some ⟨wr.heap.size, 0, none⟩) 0 0 (in64 g), .own w.heap.size 3 (some ⟨bl, 0, none⟩) t c1 (in64 fun i => (g (2 * i) + g (2 * i + 1)) / 2), .own w.heap.size 3 (some ⟨bh, 0, none⟩) t c2 (in64 fun i => g (2 * i) - g (2 * i + 1)), .rd (some ⟨bA, oA, none⟩) N (in64 g), .since w] := ⟨OwnS.empty wr 3 _ rfl (Nat.le_refl _), HK.out.2.alloc _⟩
        have HKE := Lib.hid KE
        clear KE HNN
        go_wp2_with fail
        refine (HIH.out t (some ⟨bl, 0, none⟩) c1 _ M _ HM.out.symm (by omega) hM0 hM HKE.out.2.1.rd HWL.out hc1.1 hc1.2).mono ?_
        rintro e w3 ⟨A3, c3, rfl, hR3, _, _, hb3⟩
        have K3 := (HKE.out.below hb3).add (x := .rd A3 t (in64 (fwd k fun i => (g (2 * i) + g (2 * i + 1)) / 2))) hR3
        obtain ⟨b3, o3, rfl, _, _⟩ := Rd.some_ K3.1 (by omega)
        have hRd3 : Rd w3 (some ⟨b3, o3, none⟩) t (in64 (fwd k fun i => (g (2 * i) + g (2 * i + 1)) / 2)) := hR3
        have hOE : OwnS w3 wr.heap.size 3 (some ⟨wr.heap.size, 0, none⟩) 0 0 (in64 g) := K3.2.1
        have hsz3 : wr.heap.size < w3.heap.size := by have := hb3.size; simp at this; omega
        have hNo3 : some (⟨b3, o3, none⟩ : Addr) = none → t = 0 := fun h => by cases h
        have hNoh : some (⟨bh, 0, none⟩ : Addr) = none → t = 0 := fun h => by cases h
        have hlh := (OwnS.lt HK.out.2.2.1 rfl).2
        have HKH : Hid (∀ w4, w3.grownBy w4 (Value.slice (some ⟨wr.heap.size, 0, none⟩) 0 0).ownBlock → Rd w4 (some ⟨bh, 0, none⟩) t (in64 fun i => g (2 * i) - g (2 * i + 1))) := Lib.hid (fun w4 hg => OwnS.rd (OwnS.keep K3.2.2.2.1 fun b o e => (by injection e with e; injection e with e1 e2; subst e1; exact hg.block _ (by omega) (by simp [Value.ownBlock]; omega))))
        have HKS : Hid (∀ w4, w3.grownBy w4 (Value.slice (some ⟨wr.heap.size, 0, none⟩) 0 0).ownBlock → Below w.heap.size w w4) := Lib.hid (fun w4 hg => Below.grown K3.2.2.2.2.2.1 hg K3.2.2.2.2.2.1.size (fun b hb => by simp [Value.ownBlock] at hb; have := Below.size HK.out.2.2.2.2.1; omega))
        clear hb3 hR3 K3 HKE
        go_wp2_with (first | (at_builtin; refine wpList_appS rfl (.tmp 43) (.tmp 45) rfl Try.underlying55 HI.out hz0 hz1 hz2 rfl rfl rfl hOE hRd3 hNo3 (fun _ => rfl) ?_ ?_ ?_ ?_; rotate_right; intro A4 c4 w4 hO4 hG4 hL4; rw [Nat.zero_add] at hO4; have hRh := HKH.out w4 hG4; have hsz4 := hG4.size) | (at_builtin; refine wpList_appS rfl (.tmp 46) (.tmp 47) rfl Try.underlying55 HI.out hz0 hz1 hz2 rfl rfl rfl hO4 hRh hNoh (fun _ => rfl) ?_ ?_ ?_ ?_; rotate_right; intro A5 c5 w5 hO5 hG5 hL5))
        rotate_left
        · first | (unfold maxLen; omega) | omega
        · first | (unfold maxLen; omega) | omega
        · first | (unfold maxLen; omega) | omega
        · first | (unfold maxLen; omega) | omega
        · first | (unfold maxLen; omega) | omega
        · first | (unfold maxLen; omega) | omega
        have hB4 := HKS.out w4 hG4
        have hbase5 : w.heap.size ≤ wr.heap.size := Below.size HK.out.2.2.2.2.1
        have HB5 : Hid (Below w.heap.size w w5) := Lib.hid (Below.grown hB4 hG5 hB4.size (fun b hb => by
          cases A4 with
          | none => simp [Value.ownBlock] at hb
          | some y =>
            have hy : (some y : Option Addr) = some ⟨y.block, 0, none⟩ := by
              rcases OwnS.cases hO4 with ⟨h, _⟩ | ⟨b', h, _⟩
              · cases h
              · rw [h]; injection h with h; subst h; rfl
            have := (OwnS.lt hO4 hy).1
            simp [Value.ownBlock] at hb
            omega))
        have HR5 := Lib.hid hO5
        go_wp2
        go_ret
        have hN2 := HN2.out
        have hret : Ending.returned (.slice A5 (t + t) c5) = .returned (.slice A5 N c5) := by rw [show N = t + t by omega]
        refine ⟨A5, c5, hret, ?_, ?_, HR5.out.cap.2, HB5.out⟩
        · rw [show N = t + t by omega]
          refine (OwnS.rd HR5.out).congr (fun i hi => ?_)
          rw [← show (_ : Value) = in64 (fwd (k + 1) g) i from congrArg (Value.int .i64) (HF.out i (by omega))]
          by_cases e : i < t
          · simp [in64, e]
          · simp [in64, e]
        · have := HR5.out.cap.1
          omega
end Go.Proofs.Ytfooglenhepogaa
