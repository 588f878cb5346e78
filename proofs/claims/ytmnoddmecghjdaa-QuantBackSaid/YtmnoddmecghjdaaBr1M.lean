/- The document's book in memory; one bit put. -/
import Derived.Test.YtmnoddmecghjdaaBr0
import Derived.Test.YtmnoddmecghjdaaRg3M
set_option linter.unusedVariables false
namespace Go.Proofs.Ytmnoddmecghjdaa
open Go.RowKit Go.Kin
/-- The document's book in memory: one block of colour j. -/
def BkR (w : World) (col : Nat → Nat) (j b : Nat) (C : Nat → Int) : Prop := Box w b (mkR 592 (in64 C)) ∧ col b = j
def SSR (w : World) (col : Nat → Nat) (i x j b : Nat) (y : PS) : Prop := EncRS w col i x y.s ∧ BkR w col j b y.C
def PutRR (w : World) (col : Nat → Nat) (i x j b : Nat) (y : PS) (e : Ending) (w' : World) : Prop := ∃ col', e = .returned (.tuple #[]) ∧ SSR w' col' i x j b y ∧ Kp [i, j] w col w' col'
section
variable {w w' : World} {col col' : Nat → Nat} {i j x b k m t : Nat} {y : PS} {bit : Nat} {I : List Nat}
theorem BkR.kp {C : Nat → Int} (h : BkR w col j b C) (k : Kp I w col w' col') (hj : j ∉ I) : BkR w' col' j b C := k.2 j (.mr b 592 (in64 C)) hj h
theorem EncRS.kp {s : St} (h : EncRS w col i x s) (k : Kp I w col w' col') (hi : i ∉ I) : EncRS w' col' i x s := by
  obtain ⟨h1, h2, A, c, h3⟩ := h
  have k1 := k.2 i (.box x _) hi ⟨h3.box, h3.hp⟩
  have k2 := k.2 i (.own 0 3 A s.L c _) hi ⟨h3.own, fun k o e => (h3.hA k o e).1⟩
  exact ⟨h1, h2, A, c, k1.1, k2.1, k1.2, fun k o e => ⟨k2.2 k o e, (h3.hA k o e).2⟩⟩
theorem SSR.kp (h : SSR w col i x j b y) (k : Kp I w col w' col') (hi : i ∉ I) (hj : j ∉ I) : SSR w' col' i x j b y := ⟨EncRS.kp h.1 k hi, BkR.kp h.2 k hj⟩
theorem SSR.set (h : SSR w col i x j b y) (hij : i ≠ j) {q : Nat} (hq : col q = j) (hql : q < w.heap.size) (k : Nat) (v : Value) {C : Nat → Int}
    (hB : Box (w.setCell ⟨q, k, none⟩ v) b (mkR 592 (in64 C))) : SSR (w.setCell ⟨q, k, none⟩ v) (recol col w j) i x j b ⟨C, y.s⟩ ∧ Kp [i, j] w col (w.setCell ⟨q, k, none⟩ v) (recol col w j) := by
  have hu := Upd.set (w := w) hq k v
  exact ⟨⟨EncRS.upd h.1 hij hu, hB, by rw [recol_lt (Box.lt h.2.1)]; exact h.2.2⟩, (Kp.upd hu).mono mem2r⟩
theorem box_rset {C : Nat → Int} {v : Int} (h : Box w b (mkR 592 (in64 C))) : Box (w.setCell ⟨b, k, none⟩ (.int .i64 v)) b (mkR 592 (in64 (bset C k v))) := by
  have := Box.set h k (.int .i64 v)
  rw [mkR_set] at this
  exact Box.mr this (fun q _ => by unfold in64 bset; split <;> rfl)
set_option maxHeartbeats 1000000 in
theorem rput1_even (h : SSR w col i x j b y) (hij : i ≠ j) (hL : y.s.L ≤ 900000) (hbit : bit = 0 ∨ bit = 1) :
    Calls Try.prog 76 #[.pointer (some ⟨b, 0, none⟩), .pointer (some ⟨x, 0, none⟩), .int .i64 t, .int .i64 (-1), .int .u8 bit] w (PutRR w col i x j b (y.put1 none bit)) := by
  have HS := Lib.hid h
  have HB := Lib.hid hbit
  clear h hbit
  have z1 : IntKind.i64.wrap (bit : Int) = bit := by have := HB.out; rw [IntKind.wrap_i64]; omega
  go_enter Try.func76, Try.ntmps76
  go_wp2_with fail
  refine (rput_s HS.out.1 hL 1024 bit).mono ?_
  rintro e w1 ⟨rfl, hu, hE⟩
  have hkp := (Kp.upd hu).mono (L := [i, j]) mem2l
  have hB2 : BkR w1 (recol col w i) j b y.C := BkR.kp HS.out.2 (Kp.upd hu) (by simpa using fun e => hij e.symm)
  have HR := Lib.hid (And.intro (show SSR w1 (recol col w i) i x j b (y.put1 none bit) from ⟨hE, hB2⟩) hkp)
  clear hu hE hB2 hkp
  go_wp2
  go_end0
  exact ⟨_, rfl, HR.out.1, HR.out.2⟩
set_option maxRecDepth 100000 in
set_option maxHeartbeats 2000000 in
theorem rput1_book (h : SSR w col i x j b y) (hij : i ≠ j) (hok : y.ok) (hL : y.s.L ≤ 900000) (ht : t < 16) (hk : k < 37) (hbit : bit = 0 ∨ bit = 1) :
    Calls Try.prog 76 #[.pointer (some ⟨b, 0, none⟩), .pointer (some ⟨x, 0, none⟩), .int .i64 t, .int .i64 k, .int .u8 bit] w (PutRR w col i x j b (y.put1 (some (37 * t + k)) bit)) := by
  have hkc := ((Box.cell h.2.1 (t * 37 + k)).trans (mkR_at (by omega)))
  replace hkc : w.cell? ⟨b, t * 37 + k, none⟩ = some (.int .i64 (y.C (t * 37 + k))) := hkc
  have hcb := hok.1 (t * 37 + k)
  have HQ : Hid (37 * t + k = t * 37 + k) := Lib.hid (by omega)
  rw [HQ.out]
  have HS := Lib.hid h
  have HB := Lib.hid hbit
  clear h hbit hok
  have z1 : IntKind.i64.wrap (bit : Int) = bit := by have := HB.out; rw [IntKind.wrap_i64]; omega
  have l1 : ¬ (k : Int) < 0 := by omega
  have l2 : (k : Int) < 37 := by omega
  have l3 : ¬ (t : Int) < 0 := by omega
  have l4 : (t : Int) < 16 := by omega
  go_enter Try.func76, Try.ntmps76
  go_wp2_with fail
  refine (rput_s HS.out.1 hL (y.C (t * 37 + k)) bit).mono ?_
  rintro e w1 ⟨rfl, hu, hE⟩
  have hkp := (Kp.upd hu).mono (L := [i, j]) mem2l
  have hB2 : BkR w1 (recol col w i) j b y.C := BkR.kp HS.out.2 (Kp.upd hu) (by simpa using fun e => hij e.symm)
  have hS1 : SSR w1.drew (recol col w i) i x j b ⟨y.C, y.s.putI (y.C (t * 37 + k)) bit⟩ := SSR.kp (I := []) ⟨hE, hB2⟩ (Kp.below (below_drew _) [] _) (by simp) (by simp)
  have HR := Lib.hid (And.intro hS1 (hkp.trans ((Kp.below (below_drew _) [] _).mono (by simp))))
  have hk1 : w1.drew.cell? ⟨b, t * 37 + k, none⟩ = some (.int .i64 (y.C (t * 37 + k))) := (Box.cell hS1.2.1 (t * 37 + k)).trans (mkR_at (by omega))
  have kl := Box.lt hS1.2.1
  have kf := Box.frozen hS1.2.1 (t * 37 + k)
  clear hu hE hB2 hkp hS1 hkc
  go_wp2_with fail
  refine wp_region_allH (fun _ => True) [18] [(0,0),(1,0),(2,0),(3,0),(4,0),(5,0),(6,0),(7,0),(8,0),(9,0),(10,0),(11,0),(12,0),(14,1),(15,1),(16,1),(13,0),(17,0),(18,2)] (by kernel_rfl) (by kernel_rfl) (fun _ _ d _ _ h => by cases d <;> exact h) (trivial) ?_
  generalize w1.drew = wd at *
  repeat (refine oH_still rfl (fun KK hKK => ?_); go_simp; refine hKK _ ?_; clear hKK KK)
  repeat (first | (refine oH_freeG rfl rfl (fun w' hS => by skip; clear hS; go_simp; with_reducible rfl) ?_; go_simp) | (refine oH_skipG rfl rfl ?_; go_simp))
  refine oH_still rfl (fun KK hKK => ?_)
  go_simp
  refine ⟨_, Calls.flip (rnext_any _ _ _ (by omega)), hKK _ ?_⟩
  clear hKK KK
  repeat (refine oH_still rfl (fun KK hKK => ?_); go_simp; refine hKK _ ?_; clear hKK KK)
  refine oH_doG rfl rfl (fun KK hKK => ?_)
  go_simp
  refine hKK _ _ ⟨trivial, ?_⟩
  clear hKK KK
  refine oH_nil ?_
  obtain ⟨h2, h3⟩ := HR.out.1.set hij HR.out.1.2.2 kl (t * 37 + k) (.int .i64 (nextP (y.C (t * 37 + k)) bit)) (box_rset HR.out.1.2.1)
  have HF := Lib.hid (And.intro h2 (HR.out.2.trans h3))
  clear h2 h3
  go_wp2
  go_end0
  exact ⟨_, rfl, HF.out.1, HF.out.2⟩
end
end Go.Proofs.Ytmnoddmecghjdaa
/- The document's book: one bit got. -/
set_option linter.unusedVariables false
namespace Go.Proofs.Ytmnoddmecghjdaa
open Go.RowKit Go.Kin
/-- A decoder of the document, whose bytes are of colour r, and a book of it. -/
def SGR (w : World) (col : Nat → Nat) (i x m : Nat) (g : Nat → Int) (r : Nat) (A : Option Addr) (c j b : Nat) (z : GS) : Prop := DecRS w col i x m A c z.d ∧ BkR w col j b z.C ∧ ((It.rd A m (by8 g)).ok w ∧ (It.rd A m (by8 g)).hue col r)
def GetRR (w : World) (col : Nat → Nat) (i x m : Nat) (g : Nat → Int) (r : Nat) (A : Option Addr) (c j b : Nat) (q : Int × Int × GS) (e : Ending) (w' : World) : Prop := ∃ col', e = .returned (.tuple #[.int .i64 q.1, .int .i64 q.2.1]) ∧ SGR w' col' i x m g r A c j b q.2.2 ∧ Kp [i, j] w col w' col'
section
variable {w w' : World} {col col' : Nat → Nat} {i j x b k m t r c : Nat} {A : Option Addr} {z : GS} {g : Nat → Int} {I : List Nat}
theorem DecRS.kp {d : DS} (h : DecRS w col i x m A c d) (k : Kp I w col w' col') (hi : i ∉ I) : DecRS w' col' i x m A c d := by
  have k1 := k.2 i (.box x _) hi ⟨h.box, h.hp⟩
  exact ⟨k1.1, k1.2, h.ok, h.le⟩
theorem SGR.kp (h : SGR w col i x m g r A c j b z) (k : Kp I w col w' col') (hi : i ∉ I) (hj : j ∉ I) (hr : r ∉ I) : SGR w' col' i x m g r A c j b z := ⟨DecRS.kp h.1 k hi, BkR.kp h.2.1 k hj, k.2 r _ hr h.2.2⟩
set_option maxHeartbeats 1000000 in
theorem rget1_even (h : SGR w col i x m g r A c j b z) (hij : i ≠ j) (hr : r ≠ i) (hg : Byt g) (hm : m ≤ 1000000) :
    Calls Try.prog 84 #[.pointer (some ⟨b, 0, none⟩), .pointer (some ⟨x, 0, none⟩), .int .i64 t, .int .i64 (-1)] w (GetRR w col i x m g r A c j b (z.get1 g m none)) := by
  have HS := Lib.hid h
  have HG := Lib.hid hg
  have HN : Hid (z.get1 g m none = ((z.d.get g m 1024).1, (z.d.get g m 1024).2.1, ⟨z.C, (z.d.get g m 1024).2.2⟩)) := Lib.hid (by unfold GS.get1 nxC chOf; dsimp only; rw [ite_self])
  rw [HN.out]
  clear h hg
  go_enter Try.func84, Try.ntmps84
  go_wp2_with fail
  refine (rget_s HS.out.1 HS.out.2.2.1 HG.out hm 1024).mono ?_
  rintro e w1 ⟨rfl, hu, hD⟩
  have hkp := (Kp.upd hu).mono (L := [i, j]) mem2l
  have hB2 : BkR w1 (recol col w i) j b z.C := BkR.kp HS.out.2.1 (Kp.upd hu) (by simpa using fun e => hij e.symm)
  have HR := Lib.hid (And.intro (show SGR w1 (recol col w i) i x m g r A c j b ⟨z.C, (z.d.get g m 1024).2.2⟩ from ⟨hD, hB2, (Kp.upd hu).2 r _ (by simpa using hr) HS.out.2.2⟩) hkp)
  clear hu hD hB2 hkp
  go_wp2
  go_ret2
  exact ⟨_, rfl, HR.out.1, HR.out.2⟩
set_option maxRecDepth 100000 in
set_option maxHeartbeats 2000000 in
theorem rget1_book (h : SGR w col i x m g r A c j b z) (hij : i ≠ j) (hr : r ≠ i) (hrj : r ≠ j) (hg : Byt g) (hm : m ≤ 1000000) (hok : BkOk z.C) (ht : t < 16) (hk : k < 37) :
    Calls Try.prog 84 #[.pointer (some ⟨b, 0, none⟩), .pointer (some ⟨x, 0, none⟩), .int .i64 t, .int .i64 k] w (GetRR w col i x m g r A c j b (z.get1 g m (some (37 * t + k)))) := by
  have hkc : w.cell? ⟨b, t * 37 + k, none⟩ = some (.int .i64 (z.C (t * 37 + k))) := (Box.cell h.2.1.1 (t * 37 + k)).trans (mkR_at (by omega))
  have hcb := hok (t * 37 + k)
  have HQ : Hid (37 * t + k = t * 37 + k) := Lib.hid (by omega)
  rw [HQ.out]
  have herr := DS.get_err g m z.d hcb
  have HN : Hid (z.get1 g m (some (t * 37 + k)) = ((z.d.get g m (z.C (t * 37 + k))).1, (z.d.get g m (z.C (t * 37 + k))).2.1, ⟨if (z.d.get g m (z.C (t * 37 + k))).2.1 = 0 then bset z.C (t * 37 + k) (nextP (z.C (t * 37 + k)) (z.d.get g m (z.C (t * 37 + k))).1) else z.C, (z.d.get g m (z.C (t * 37 + k))).2.2⟩)) := Lib.hid rfl
  rw [HN.out]
  have HS := Lib.hid h
  have HG := Lib.hid hg
  clear h hg hok HN
  generalize hq : z.d.get g m (z.C (t * 37 + k)) = q at *
  obtain ⟨q1, q2, q3⟩ := q
  dsimp only at *
  have HQ2 := Lib.hid hq
  clear hq
  have l1 : ¬ (k : Int) < 0 := by omega
  have l2 : (k : Int) < 37 := by omega
  have l3 : ¬ (t : Int) < 0 := by omega
  have l4 : (t : Int) < 16 := by omega
  go_enter Try.func84, Try.ntmps84
  go_wp2_with fail
  refine (rget_s HS.out.1 HS.out.2.2.1 HG.out hm (z.C (t * 37 + k))).mono ?_
  rintro e w1 ⟨rfl, hu, hD⟩
  rw [HQ2.out] at hD
  rw [HQ2.out]
  dsimp only at hD ⊢
  have hkp := (Kp.upd hu).mono (L := [i, j]) mem2l
  have hB2 : BkR w1 (recol col w i) j b z.C := BkR.kp HS.out.2.1 (Kp.upd hu) (by simpa using fun e => hij e.symm)
  have hS1 : SGR w1 (recol col w i) i x m g r A c j b ⟨z.C, q3⟩ := ⟨hD, hB2, (Kp.upd hu).2 r _ (by simpa using hr) HS.out.2.2⟩
  have HR0 := Lib.hid (And.intro hS1 hkp)
  clear hu hD hB2 hkp hkc
  clear HQ2
  rcases herr with rfl | rfl
  · have hS2 : SGR w1.drew (recol col w i) i x m g r A c j b ⟨z.C, q3⟩ := SGR.kp (I := []) hS1 (Kp.below (below_drew _) [] _) (by simp) (by simp) (by simp)
    have HR := Lib.hid (And.intro hS2 (HR0.out.2.trans ((Kp.below (below_drew _) [] _).mono (by simp))))
    have hk1 : w1.drew.cell? ⟨b, t * 37 + k, none⟩ = some (.int .i64 (z.C (t * 37 + k))) := (Box.cell hS2.2.1.1 (t * 37 + k)).trans (mkR_at (by omega))
    have kl := Box.lt hS2.2.1.1
    have kf := Box.frozen hS2.2.1.1 (t * 37 + k)
    clear hS2 hS1 HR0
    go_wp2_with fail
    refine wp_region_allH (fun _ => True) [17] [(0,0),(1,0),(2,0),(3,0),(4,0),(5,0),(6,0),(7,0),(8,0),(9,0),(10,0),(11,0),(13,1),(14,1),(15,1),(12,0),(16,0),(17,2)] (by kernel_rfl) (by kernel_rfl) (fun _ _ d _ _ h => by cases d <;> exact h) (trivial) ?_
    generalize w1.drew = wd at *
    repeat (refine oH_still rfl (fun KK hKK => ?_); go_simp; refine hKK _ ?_; clear hKK KK)
    repeat (first | (refine oH_freeG rfl rfl (fun w' hS => by skip; clear hS; go_simp; with_reducible rfl) ?_; go_simp) | (refine oH_skipG rfl rfl ?_; go_simp))
    refine oH_still rfl (fun KK hKK => ?_)
    go_simp
    refine ⟨_, Calls.flip (rnext_any _ _ _ (by omega)), hKK _ ?_⟩
    clear hKK KK
    repeat (refine oH_still rfl (fun KK hKK => ?_); go_simp; refine hKK _ ?_; clear hKK KK)
    refine oH_doG rfl rfl (fun KK hKK => ?_)
    go_simp
    refine hKK _ _ ⟨trivial, ?_⟩
    clear hKK KK
    refine oH_nil ?_
    have hu := Upd.set (w := wd) HR.out.1.2.1.2 (t * 37 + k) (.int .i64 (nextP (z.C (t * 37 + k)) q1))
    have h2 : SGR (wd.setCell ⟨b, t * 37 + k, none⟩ (.int .i64 (nextP (z.C (t * 37 + k)) q1))) (recol (recol col w i) wd j) i x m g r A c j b ⟨bset z.C (t * 37 + k) (nextP (z.C (t * 37 + k)) q1), q3⟩ :=
      ⟨DecRS.upd HR.out.1.1 hij hu, ⟨box_rset HR.out.1.2.1.1, by rw [recol_lt kl]; exact HR.out.1.2.1.2⟩, (Kp.upd hu).2 r _ (by simpa using hrj) HR.out.1.2.2⟩
    have HF := Lib.hid (And.intro h2 (HR.out.2.trans ((Kp.upd hu).mono (L := [i, j]) mem2r)))
    clear h2 hu HR
    go_wp2
    go_ret2
    exact ⟨_, rfl, HF.out.1, HF.out.2⟩
  · clear hS1
    go_wp2
    go_ret2
    exact ⟨_, rfl, HR0.out.1, HR0.out.2⟩
end
end Go.Proofs.Ytmnoddmecghjdaa
