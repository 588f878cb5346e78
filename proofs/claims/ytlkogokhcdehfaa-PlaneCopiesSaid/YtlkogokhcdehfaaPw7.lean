/- Walks of package plane: alike, Same, Copy. -/
import Derived.Test.YtlkogokhcdehfaaGiv
import Derived.Test.YtlkogokhcdehfaaPw2
import Derived.Test.YtlkogokhcdehfaaRg3
namespace Go.Proofs.Ytlkogokhcdehfaa
open Go.RowKit Go.Kin
set_option linter.unusedVariables false

set_option maxHeartbeats 400000 in
theorem alike_any (a b a' b' : Int) (A A' : Option Addr) (n c m d : Nat) (g h : Nat → Int) (w : World) (hR : Rd w A n (by8 g)) (hR' : Rd w A' m (by8 h)) :
    Calls Try.prog 62 #[.agg #[.int .i64 a, .int .i64 b, .slice A n c], .agg #[.int .i64 a', .int .i64 b', .slice A' m d]] w fun e w' => e = .returned (.bool (samePB a b n g a' b' m h)) ∧ Below w.heap.size w w' := by
  have H := Lib.hid (show samePB a b n g a' b' m h = ((a == a') && (b == b') && ((strOf n g).toList == (strOf m h).toList)) from rfl)
  have k1 := fun X Y => conv_any (c := c) ((hR.alloc X).alloc Y)
  have k2 := fun X Y => conv_any (c := d) ((hR'.alloc X).alloc Y)
  cases h1 : (a == a')
  all_goals cases h2 : (b == b')
  all_goals go_enter Try.func62, Try.ntmps62
  all_goals go_wp2
  all_goals go_ret
  all_goals refine ⟨ret_bool (by rw [H.out, h1, h2]; simp), ((Below.refl _ _).alloc (Nat.le_refl _) _).alloc (by simp) _⟩

set_option maxHeartbeats 1000000 in
theorem psame_any (y u x y' u' x' : PlV) (w : World) (hy : Rd w y.A y.n (by8 y.g)) (hu : Rd w u.A u.n (by8 u.g)) (hx : Rd w x.A x.n (by8 x.g)) (hy' : Rd w y'.A y'.n (by8 y'.g)) (hu' : Rd w u'.A u'.n (by8 u'.g)) (hx' : Rd w x'.A x'.n (by8 x'.g)) :
    Calls Try.prog 39 #[.agg (frCells y u x), .agg (frCells y' u' x')] w fun e w' => e = .returned (.bool (sameFB y u x y' u' x')) ∧ Below w.heap.size w w' := by
  have H := Lib.hid (show sameFB y u x y' u' x' = (samePB y.a y.b y.n y.g y'.a y'.b y'.n y'.g && samePB u.a u.b u.n u.g u'.a u'.b u'.n u'.g && samePB x.a x.b x.n x.g x'.a x'.b x'.n x'.g) from rfl)
  have K := Kn.start w
  cases h1 : samePB y.a y.b y.n y.g y'.a y'.b y'.n y'.g
  · go_enter Try.func39, Try.ntmps39
    go_wp2_with fail
    refine (alike_any _ _ _ _ _ _ _ _ _ _ y.g y'.g _ ((hy.alloc _).alloc _) ((hy'.alloc _).alloc _)).mono ?_
    rintro e w1 ⟨rfl, hb1⟩
    replace K := ((K.new w.heap.size _ _ rfl).new (w.heap.size + 1) _ _ (by simp)).below hb1
    clear hb1
    replace kc0 := Box.cells K.1
    replace kl0 := Box.lt K.1
    replace kc1 := Box.cells K.2.1
    replace kl1 := Box.lt K.2.1
    replace L : Below _ _ _ := K.2.2.1
    go_wp2
    go_ret
    exact ⟨ret_bool (by rw [H.out, h1]; simp), L⟩
  cases h2 : samePB u.a u.b u.n u.g u'.a u'.b u'.n u'.g
  · go_enter Try.func39, Try.ntmps39
    go_wp2_with fail
    refine (alike_any _ _ _ _ _ _ _ _ _ _ y.g y'.g _ ((hy.alloc _).alloc _) ((hy'.alloc _).alloc _)).mono ?_
    rintro e w1 ⟨rfl, hb1⟩
    replace K := ((K.new w.heap.size _ _ rfl).new (w.heap.size + 1) _ _ (by simp)).below hb1
    clear hb1
    replace kc0 := Box.cells K.1
    replace kl0 := Box.lt K.1
    replace kc1 := Box.cells K.2.1
    replace kl1 := Box.lt K.2.1
    replace L : Below _ _ _ := K.2.2.1
    go_wp2_with fail
    refine (alike_any _ _ _ _ _ _ _ _ _ _ u.g u'.g _ (hu.below L) (hu'.below L)).mono ?_
    rintro e w2 ⟨rfl, hb2⟩
    replace K := K.below hb2
    clear hb2
    replace kc0 := Box.cells K.1
    replace kl0 := Box.lt K.1
    replace kc1 := Box.cells K.2.1
    replace kl1 := Box.lt K.2.1
    replace L : Below _ _ _ := K.2.2.1
    go_wp2
    go_ret
    exact ⟨ret_bool (by rw [H.out, h1, h2]; simp), L⟩
  go_enter Try.func39, Try.ntmps39
  go_wp2_with fail
  refine (alike_any _ _ _ _ _ _ _ _ _ _ y.g y'.g _ ((hy.alloc _).alloc _) ((hy'.alloc _).alloc _)).mono ?_
  rintro e w1 ⟨rfl, hb1⟩
  replace K := ((K.new w.heap.size _ _ rfl).new (w.heap.size + 1) _ _ (by simp)).below hb1
  clear hb1
  replace kc0 := Box.cells K.1
  replace kl0 := Box.lt K.1
  replace kc1 := Box.cells K.2.1
  replace kl1 := Box.lt K.2.1
  replace L : Below _ _ _ := K.2.2.1
  go_wp2_with fail
  refine (alike_any _ _ _ _ _ _ _ _ _ _ u.g u'.g _ (hu.below L) (hu'.below L)).mono ?_
  rintro e w2 ⟨rfl, hb2⟩
  replace K := K.below hb2
  clear hb2
  replace kc0 := Box.cells K.1
  replace kl0 := Box.lt K.1
  replace kc1 := Box.cells K.2.1
  replace kl1 := Box.lt K.2.1
  replace L : Below _ _ _ := K.2.2.1
  go_wp2_with fail
  refine (alike_any _ _ _ _ _ _ _ _ _ _ x.g x'.g _ (hx.below L) (hx'.below L)).mono ?_
  rintro e w3 ⟨rfl, hb3⟩
  replace K := K.below hb3
  clear hb3
  replace kc0 := Box.cells K.1
  replace kl0 := Box.lt K.1
  replace kc1 := Box.cells K.2.1
  replace kl1 := Box.lt K.2.1
  replace L : Below _ _ _ := K.2.2.1
  go_wp2
  go_ret
  exact ⟨ret_bool (by rw [H.out, h1, h2]; simp), L⟩

/-- A frame of its own. -/
def OwnFrame (y u x : PlV) (w : World) (e : Ending) (w' : World) : Prop :=
  ∃ b1 b2 b3, e = .returned (.agg #[.int .i64 y.a, .int .i64 y.b, .slice (some ⟨b1, 0, none⟩) y.n y.n, .int .i64 u.a, .int .i64 u.b, .slice (some ⟨b2, 0, none⟩) u.n u.n, .int .i64 x.a, .int .i64 x.b, .slice (some ⟨b3, 0, none⟩) x.n x.n]) ∧
    w.heap.size ≤ b1 ∧ b1 < b2 ∧ b2 < b3 ∧ Row w' b1 y.n (by8 y.g) ∧ Row w' b2 u.n (by8 u.g) ∧ Row w' b3 x.n (by8 x.g) ∧ Below w.heap.size w w'

set_option maxHeartbeats 1000000 in
theorem pcopy_any (y u x : PlV) (w : World) (hy : Rd w y.A y.n (by8 y.g)) (hu : Rd w u.A u.n (by8 u.g)) (hx : Rd w x.A x.n (by8 x.g)) (ny : y.n ≤ 10000) (nu : u.n ≤ 10000) (nx : x.n ≤ 10000) :
    Calls Try.prog 38 #[.agg (frCells y u x)] w (OwnFrame y u x w) := by
  have K2 := (((((Kn.start w).add (x := .rd y.A y.n (by8 y.g)) hy).add (x := .rd u.A u.n (by8 u.g)) hu).add (x := .rd x.A x.n (by8 x.g)) hx).new w.heap.size (frCells y u x) 39 rfl).new (w.heap.size + 1) zero9 39 (by simp)
  clear hy hu hx
  go_enter Try.func38, Try.ntmps38
  go_wp2
  generalize hw0 : (w.alloc (.cells (frCells y u x) 39)).alloc (.cells zero9 39) = w0 at K2 ⊢
  clear hw0
  refine wp_region_allH (fun w' => Box w' w.heap.size (frCells y u x)) [2, 5, 8, 10] [(0,1),(1,1),(3,1),(4,1),(6,1),(7,1),(2,2),(5,2),(8,2),(9,1),(10,2)] (by kernel_rfl) (by kernel_rfl) (fun _ _ d _ _ h => by cases d <;> exact h) ((Kn.drew K2).2.1) ?_
  repeat (first | (refine oH_freeG rfl rfl (fun w' hS => by have s1 := Box.cells hS; clear hS; go_simp; with_reducible rfl) ?_; go_simp) | (refine oH_skipG rfl rfl ?_; go_simp))
  have l0 := Box.lt K2.1
  refine oH_doG rfl rfl (fun KK hKK => ?_)
  go_simp
  refine (own_any _ _ _ _ _ y.g _ (Rd.drew K2.2.2.2.2.1) (by omega)).mono ?_
  rintro e w1 ⟨b1, rfl, hb1, hr1, hL1⟩
  replace hb1 : w0.heap.size ≤ b1 := hb1
  have K3 := ((Kn.drew K2).below hL1).tuck (x := .row b1 y.n (by8 y.g)) hr1
  refine hKK _ _ ⟨K3.2.2.1, ?_⟩
  clear hKK KK hL1 hr1 K2
  have l1 := Row.lt K3.2.1
  refine oH_doG rfl rfl (fun KK hKK => ?_)
  go_simp
  refine (own_any _ _ _ _ _ u.g _ K3.2.2.2.2.1 (by omega)).mono ?_
  rintro e w2 ⟨b2, rfl, hb2, hr2, hL2⟩
  have K4 := (K3.below hL2).tuck (x := .row b2 u.n (by8 u.g)) hr2
  refine hKK _ _ ⟨K4.2.2.2.1, ?_⟩
  clear hKK KK hL2 hr2 K3
  have l2 := Row.lt K4.2.1
  refine oH_doG rfl rfl (fun KK hKK => ?_)
  go_simp
  refine (own_any _ _ _ _ _ x.g _ K4.2.2.2.2.1 (by omega)).mono ?_
  rintro e w3 ⟨b3, rfl, hb3, hr3, hL3⟩
  have K5 := (K4.below hL3).tuck (x := .row b3 x.n (by8 x.g)) hr3
  refine hKK _ _ ⟨K5.2.2.2.2.1, ?_⟩
  clear hKK KK hL3 hr3 K4
  repeat (first | (refine oH_freeG rfl rfl (fun w' hS => by have s1 := Box.cells hS; clear hS; go_simp; with_reducible rfl) ?_; go_simp) | (refine oH_skipG rfl rfl ?_; go_simp))
  refine oH_doG rfl rfl (fun KK hKK => ?_)
  have kc := Box.cells K5.1
  have kf := Box.frees K5.1
  go_simp
  have K6 : Kn w3 [_, .row b3 x.n (by8 x.g), .row b2 u.n (by8 u.g), .row b1 y.n (by8 y.g), .box w.heap.size (frCells y u x), .since w] := ⟨K5.1, K5.2.1, K5.2.2.1, K5.2.2.2.1, K5.2.2.2.2.1, K5.2.2.2.2.2.2.2.2.1, trivial⟩
  have hoff : Offs (w.heap.size + 1) [.row b3 x.n (by8 x.g), .row b2 u.n (by8 u.g), .row b1 y.n (by8 y.g), .box w.heap.size (frCells y u x), .since w] := ⟨by simp [It.off]; omega, by simp [It.off]; omega, by simp [It.off]; omega, by simp [It.off], by simp [It.off], trivial⟩
  have KS := ((K6.set3 0 (.int .i64 y.a) (.int .i64 y.b) (.slice (some ⟨b1, 0, none⟩) y.n y.n) hoff).set3 3 (.int .i64 u.a) (.int .i64 u.b) (.slice (some ⟨b2, 0, none⟩) u.n u.n) hoff).set3 6 (.int .i64 x.a) (.int .i64 x.b) (.slice (some ⟨b3, 0, none⟩) x.n x.n) hoff
  refine hKK _ _ ⟨KS.2.2.2.2.1, ?_⟩
  clear hKK KK
  refine oH_nil ?_
  go_wp2
  refine bodyPost_ret (v := .agg #[.int .i64 y.a, .int .i64 y.b, .slice (some ⟨b1, 0, none⟩) y.n y.n, .int .i64 u.a, .int .i64 u.b, .slice (some ⟨b2, 0, none⟩) u.n u.n, .int .i64 x.a, .int .i64 x.b, .slice (some ⟨b3, 0, none⟩) x.n x.n]) (by simp [results, Try.results38, go_sem, kc]) rfl ?_
  exact ⟨b1, b2, b3, rfl, by omega, by omega, by omega, KS.2.2.2.1, KS.2.2.1, KS.2.1, KS.2.2.2.2.2.1⟩
end Go.Proofs.Ytlkogokhcdehfaa
