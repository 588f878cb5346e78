/- Walks of package deblock: the function literal that makes one line smooth. -/
import Derived.Test.YtlkogokhcdehfaaDw1
import Derived.Test.YtlkogokhcdehfaaReg
namespace Go.Proofs.Ytlkogokhcdehfaa
open Go.RowKit Go.Kin

set_option maxHeartbeats 1000000 in
theorem smooth_any (p st n : Nat) (q : Int) (b bp bq : Nat) (g : Nat → Int) (w : World) (hp : w.cell? ⟨bp, 0, none⟩ = some (.slice (some ⟨b, 0, none⟩) n n)) (hq : w.cell? ⟨bq, 0, none⟩ = some (.int .i64 q))
    (hR : Row w b n (by8 g)) (hg : Byt g) (h1 : 1 ≤ st) (h2 : 2 * st ≤ p) (h3 : p + st < n) (hn : n ≤ 16777216) :
    Calls Try.prog 53 #[.int .i64 p, .int .i64 st, .pointer (some ⟨bp, 0, none⟩), .pointer (some ⟨bq, 0, none⟩)] w
      fun e w' => e = .returned (.tuple #[]) ∧ Row w' b n (by8 (sm1 q p st g)) ∧ Oth b w w' := by
  have i1 : (0 : Int) ≤ (p : Int) - st := by omega
  have i2 : (p : Int) - st < n := by omega
  have i3 : (0 : Int) ≤ (p : Int) - 2 * st := by omega
  have i3b : 2 * (st : Int) ≤ (p : Int) := by omega
  have i4 : (p : Int) - 2 * st < n := by omega
  have i5 : (p : Int) + st < n := by omega
  have e1 : ((p : Int) - st).toNat = p - st := by omega
  have e2 : ((p : Int) - 2 * st).toNat = p - 2 * st := by omega
  have e3 : ((p : Int) + st).toNat = p + st := by omega
  have c1 := hR.cell (i := p - st) (by omega)
  have c2 := hR.cell (i := p - 2 * st) (by omega)
  have c3 := hR.cell (i := p) (by omega)
  have c4 := hR.cell (i := p + st) (by omega)
  simp only [by8] at c1 c2 c3 c4
  have f1 := hR.frozen (p - st)
  have f2 := hR.frozen p
  have b1 := hg (p - st)
  have b2 := hg (p - 2 * st)
  have b3 := hg p
  have b4 := hg (p + st)
  have HR := Lib.hid hR
  clear hR
  go_enter Try.func53, Try.ntmps53
  go_wp2
  go_quiet (fail)
  go_wp2
  generalize hw2 : w.drewN nq = w1
  refine wp_region_ord [(0,0),(1,1),(2,0),(3,0),(4,0),(5,0),(6,0),(7,0),(8,0),(9,0),(10,0),(11,0),(12,0),(13,0),(14,0),(15,0),(16,0),(17,0),(18,0),(19,0),(20,0),(21,0),(22,0),(23,0),(24,0),(25,1),(26,1),(27,2),(28,1),(29,2)] (by kernel_rfl) (by kernel_rfl) (fun _ _ d _ _ h => by cases d <;> exact h) ?_
  generalize hw3 : w1.drew = w2
  have k1 : w2.cell? ⟨bp, 0, none⟩ = some (.slice (some ⟨b, 0, none⟩) n n) := by rw [← hw3, ← hw2]; exact hp
  have k2 : w2.cell? ⟨bq, 0, none⟩ = some (.int .i64 q) := by rw [← hw3, ← hw2]; exact hq
  have k3 : w2.cell? ⟨b, p - st, none⟩ = some (.int .u8 (g (p - st))) := by rw [← hw3, ← hw2]; exact c1
  have k4 : w2.cell? ⟨b, p - 2 * st, none⟩ = some (.int .u8 (g (p - 2 * st))) := by rw [← hw3, ← hw2]; exact c2
  have k5 : w2.cell? ⟨b, p, none⟩ = some (.int .u8 (g p)) := by rw [← hw3, ← hw2]; exact c3
  have k6 : w2.cell? ⟨b, p + st, none⟩ = some (.int .u8 (g (p + st))) := by rw [← hw3, ← hw2]; exact c4
  have k7 : w2.frozen? ⟨b, p - st, none⟩ = false := by rw [← hw3, ← hw2]; exact f1
  have k8 : w2.frozen? ⟨b, p, none⟩ = false := by rw [← hw3, ← hw2]; exact f2
  have HW := Lib.hid hw2
  have HW3 := Lib.hid hw3
  clear hw2 hw3 hp hq c1 c2 c3 c4 f1 f2
  have n1 : ¬ (p = p - st) := by omega
  have n2 : ¬ (p - st = p) := by omega
  have z4 : (0 : Int) ≤ (p : Int) + st := by omega
  have z1 : IntKind.i64.wrap ((p : Int) + st) = p + st := IntWalk.i64_in _ (by omega)
  have z2 : IntKind.i64.wrap (2 * (st : Int)) = 2 * st := IntWalk.i64_in _ (by omega)
  have z3 : IntKind.i64.wrap ((p : Int) - 2 * st) = p - 2 * st := IntWalk.i64_in _ (by omega)
  repeat (first | (refine wpOrd_still rfl (fun K hK => ?_); go_simp; first | (refine hK _ ?_; clear hK K) | (refine ⟨_, Calls.flip (line_any _ _ _ _ _ b2 b1 b3 b4 _), hK _ ?_⟩; clear hK K)) | (refine wpOrd_free rfl (fun w' => by go_simp; with_reducible rfl) ?_; go_simp))
  refine wpOrd_do rfl (fun K hK => ?_)
  go_simp
  refine hK _ _ ?_
  clear hK K
  refine wpOrd_free rfl (fun w' => by go_simp; with_reducible rfl) ?_
  go_simp
  refine wpOrd_do rfl (fun K hK => ?_)
  go_simp
  refine hK _ _ ?_
  clear hK K
  refine wpOrd_nil ?_
  go_wp2
  go_end0
  have hR2 : Row w2 b n (by8 g) := by rw [← HW3.out, ← HW.out]; exact HR.out
  have ho : Oth b w w2 := by rw [← HW3.out, ← HW.out]; exact ((Oth.refl _ _).drewN _).drew
  refine ⟨rfl, ((hR2.set _ _).set _ _).congr ?_, (ho.set _ _).set _ _⟩
  intro i _
  simp only [by8, sm1]
  by_cases x1 : i = p
  · simp [x1]
  · by_cases x2 : i = p - st
    · simp [x2, n2]
    · simp [x1, x2]

theorem smooth_int (pI sI : Int) (p st n : Nat) (q : Int) (b bp bq : Nat) (g : Nat → Int) (w : World) (ep : pI = p) (es : sI = st) (hp : Box w bp #[.slice (some ⟨b, 0, none⟩) n n]) (hq : Box w bq #[.int .i64 q])
    (hR : Row w b n (by8 g)) (hg : Byt g) (h1 : 1 ≤ st) (h2 : 2 * st ≤ p) (h3 : p + st < n) (hn : n ≤ 16777216) :
    Calls Try.prog 53 #[.int .i64 pI, .int .i64 sI, .pointer (some ⟨bp, 0, none⟩), .pointer (some ⟨bq, 0, none⟩)] w
      fun e w' => e = .returned (.tuple #[]) ∧ Row w' b n (by8 (sm1 q p st g)) ∧ Oth b w w' := by
  subst ep es
  exact smooth_any p st n q b bp bq g w hp.cell1 hq.cell1 hR hg h1 h2 h3 hn
end Go.Proofs.Ytlkogokhcdehfaa
