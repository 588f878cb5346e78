/- append onto a fresh empty slice ('append([]T{}, xs...)'): a copy of the call's own. -/
import Derived.Test.YtmnoddmecghjdaaKn
namespace Go.Kin
open Go.RowKit
/-- The step: append(fresh, src...) in a plain region. -/
theorem wpList_appE {P : Program} {w : World} {e : TypeId} {ops : Array Oper} {rest : List Oper} {o : Oper} {a : Act} {Q : Exit → Act → World → Prop} {t : TypeId} {i : TypeInfo} {z : Value} {bytes m d : Nat} {B : Option Addr} {h : Nat → Value} (hgd : o.guard = none) (s x : Operand)
    (ho : o.op = .call { callee := .builtin .append, args := #[s, x], argTypes := #[t, t] }) (ht : P.underlying t = some (.slice e)) (hi : P.info? e = some i) (hz : i.zero = some z)
    (hsize : i.size = 1) (hby : i.bytes = bytes) (hzs : z.cells.size = 1) (hs : a.eval s = .slice (some ⟨w.heap.size, 0, none⟩) 0 0) (hx : a.eval x = .slice B m d) (hS : Rd w B m h) (h1 : ∀ j, (h j).oneCell' = true)
    (h63 : m ≤ maxLen) (hbytes : m * bytes ≤ 140737488355328)
    (hK : ∀ A' c' w', OwnS w' w.heap.size e A' m c' h → Below w.heap.size w w' → wpList P ops Q rest (a.put o.dst (.slice A' m c')) w') : wpList P ops Q (o :: rest) a (w.alloc (.cells #[] e)) := by
  refine wpList_appS hgd s x ho ht hi hz hsize hby hzs hs hx (OwnS.empty w e h rfl (Nat.le_refl _)) (hS.alloc _) hS.nil_ h1 (by omega) (by rw [Nat.zero_add]; exact hbytes) (by simp) ?_
  intro A' c' w' hO hG hL
  rw [Nat.zero_add] at hO ⊢
  refine hK A' c' w' (hO.congr (fun j _ => by simp)) ?_
  exact ((Below.refl _ w).alloc (Nat.le_refl _) _).grown hG (by simp) (fun k hk => by simp [Value.ownBlock] at hk; omega)
end Go.Kin
/- What is known of memory, kept while one block is written that did not stand when it was learnt. -/
namespace Go.Kin
open Go.RowKit
/-- A thing that has nothing to do with block b (a slice of no elements has to do with none). -/
def It.offS (b : Nat) : It → Prop
  | .box k _ => k ≠ b
  | .row k _ _ => k ≠ b
  | .rd A n _ => n = 0 ∨ ∀ k o, A = some ⟨k, o, none⟩ → k ≠ b
  | .own _ _ A _ _ _ => ∀ k o, A = some ⟨k, o, none⟩ → k ≠ b
  | .since w0 => w0.heap.size ≤ b
def OffsS (b : Nat) : List It → Prop
  | [] => True
  | x :: l => x.offS b ∧ OffsS b l
section
variable {w w' : World} {l : List It} {x : It} {b : Nat}
theorem It.ok.othS (h : x.ok w) (ho : Oth b w w') (hf : x.offS b) : x.ok w' := by
  cases x with
  | box k cs => exact Box.oth h ho hf
  | row k n f => exact Row.oth h ho hf
  | rd A n f =>
    rcases hf with h0 | hf
    · subst h0; exact Rd.none_ _ _ _
    · exact Rd.oth h ho hf
  | own base e A n c f => exact OwnS.keep h fun k o hA => ho.block k (OwnS.lt h hA).2 (hf k o hA)
  | since w0 => exact Below.trans h (ho.below hf (Below.size h))
theorem Kn.othS (h : Kn w l) (ho : Oth b w w') (hf : OffsS b l) : Kn w' l := by
  induction l with
  | nil => trivial
  | cons x l ih => exact ⟨It.ok.othS h.1 ho hf.1, ih h.2 hf.2⟩
theorem It.ok.offS (h : x.ok w) (hb : w.heap.size ≤ b) : x.offS b := by
  cases x with
  | box k cs => have := Box.lt h; show k ≠ b; omega
  | row k n f => have := Row.lt h; show k ≠ b; omega
  | rd A n f =>
    rcases Nat.eq_zero_or_pos n with h0 | h0
    · exact .inl h0
    · refine .inr fun k o hA => ?_
      obtain ⟨k', o', e, hlt, _⟩ := Rd.some_ h h0
      rw [hA] at e
      injection e with e
      injection e with e
      omega
  | own base e A n c f => exact fun k o hA => by have := (OwnS.lt h hA).2; omega
  | since w0 => exact Nat.le_trans (Below.size h) hb
theorem Kn.offS (h : Kn w l) (hb : w.heap.size ≤ b) : OffsS b l := by
  induction l with
  | nil => trivial
  | cons x l ih => exact ⟨It.ok.offS h.1 hb, ih h.2⟩
theorem Kn.setRowS {n : Nat} {f : Nat → Value} (h : Kn w (.row b n f :: l)) (i : Nat) (v : Value) (hf : OffsS b l) : Kn (w.setCell ⟨b, i, none⟩ v) (.row b n (fun j => if j = i then v else f j) :: l) :=
  ⟨Row.set h.1 i v, Kn.othS h.2 ((Oth.refl b w).set i v) hf⟩
/-- Two lists, one behind the other. -/
theorem Kn.app : ∀ {l m : List It}, Kn w l → Kn w m → Kn w (l ++ m)
  | [], _, _, h => h
  | _ :: _, _, h, k => ⟨h.1, Kn.app h.2 k⟩
theorem OffsS.app : ∀ {l m : List It}, OffsS b l → OffsS b m → OffsS b (l ++ m)
  | [], _, _, h => h
  | _ :: _, _, h, k => ⟨h.1, OffsS.app h.2 k⟩
end
end Go.Kin
/- append onto a slice of the call's own that is empty, as a run: what it makes, and what stays. -/
namespace Go.Kin
open Go.RowKit
theorem app_fresh {P : Program} {w : World} {base b : Nat} {e t ty : TypeId} {i : TypeInfo} {z : Value} {bytes m d : Nat} {B : Option Addr} {h f : Nat → Value} (ht : P.underlying t = some (.slice e)) (hi : P.info? e = some i) (hz : i.zero = some z)
    (hsize : i.size = 1) (hby : i.bytes = bytes) (hzs : z.cells.size = 1) (hown : OwnS w base e (some ⟨b, 0, none⟩) 0 0 f) (hS : Rd w B m h) (h1 : ∀ j, (h j).oneCell' = true)
    (hm : 0 < m) (h63 : m ≤ maxLen) (hbytes : m * bytes ≤ 140737488355328) (hbase : base ≤ w.heap.size) :
    ∃ br c' w', (Builtin.append_ #[t, t] ty #[.slice (some ⟨b, 0, none⟩) 0 0, .slice B m d]).run P w = .ok (.slice (some ⟨br, 0, none⟩) m c') w' ∧ Row w' br m h ∧ m ≤ c' ∧ (br = b ∨ br = w.heap.size) ∧ Oth b w w' := by
  obtain ⟨A', c', w', hrun, hO, hG, hL⟩ := run_appS (P := P) (ty := ty) (d := d) ht hi hz hsize hby hzs hown hS hS.nil_ h1 (by omega) (by rw [Nat.zero_add]; exact hbytes) hbase
  rw [Nat.zero_add] at hrun hO hL
  obtain ⟨br, rfl, hb, hr, hc⟩ := hO.row hm
  refine ⟨br, c', w', hrun, hr.congr (fun j _ => by simp), hc, ?_, ⟨hG.os, hG.tape, hG.output, hG.size, fun k hk hne => hG.block k hk (by simp [Value.ownBlock]; omega)⟩⟩
  rcases hL with hL | hL
  · left; simpa [Value.ownBlock] using hL
  · right; simpa [Value.ownBlock] using hL
/-- The operation append by its run. -/
theorem wp_app {P : Program} {w w' : World} {a : Act} {K' : Act → World → Prop} {Q : Exit → Act → World → Prop} {d : Option Tmp} {ty : TypeId} {pos : String} {af : Array Edge} {s x : Operand} {t : TypeId} {u v r : Value} (hs : a.eval s = u) (hx : a.eval x = v)
    (hrun : (Builtin.append_ #[t, t] ty #[u, v]).run P w = .ok r w') (h : K' (a.put d r) w') : Oper.wp P ⟨d, .call { callee := .builtin .append, args := #[s, x], argTypes := #[t, t] }, ty, pos, af, none⟩ a w K' Q := by
  unfold Oper.wp execOp
  simp only [resolve, invoke, builtin, Sem.run_bind, Sem.run_pure, Result.andThen_ok, List.map_toArray, List.map_cons, List.map_nil, hs, hx, hrun]
  exact h
end Go.Kin
/- append of one element onto a slice of the call's own, as a run. -/
namespace Go.Kin
open Go.RowKit
theorem app_one {P : Program} {w : World} {base n c b : Nat} {e t ty : TypeId} {i : TypeInfo} {z x : Value} {bytes : Nat} {A : Option Addr} {f : Nat → Value} (ht : P.underlying t = some (.slice e)) (hi : P.info? e = some i) (hz : i.zero = some z)
    (hsize : i.size = 1) (hby : i.bytes = bytes) (hzs : z.cells.size = 1) (hown : OwnS w base e A n c f) (hB : Box w b #[x]) (h1 : x.oneCell' = true) (h63 : n + 1 ≤ maxLen) (hbytes : (n + 1) * bytes ≤ 140737488355328) (hbase : base ≤ w.heap.size) :
    ∃ A' c' w' bo, (Builtin.append_ #[t, t] ty #[.slice A n c, .slice (some ⟨b, 0, none⟩) 1 1]).run P w = .ok (.slice A' (n + 1) c') w' ∧ OwnS w' base e A' (n + 1) c' (fun j => if j < n then f j else x) ∧ base ≤ bo ∧ Oth bo w w' := by
  have hS : Rd w (some ⟨b, 0, none⟩) 1 (fun _ => x) := Box.rd hB (fun j hj => by obtain rfl : j = 0 := (by omega); rfl)
  obtain ⟨A', c', w', hrun, hO, hG, hL⟩ := run_appS (P := P) (ty := ty) (d := 1) ht hi hz hsize hby hzs hown hS (fun h => by cases h) (fun _ => h1) h63 hbytes hbase
  rcases hown.cases with ⟨rfl, rfl, rfl⟩ | ⟨bo, rfl, hbo, _⟩
  · exact ⟨A', c', w', w.heap.size, hrun, hO, hbase, ⟨hG.os, hG.tape, hG.output, hG.size, fun k hk _ => hG.block k hk (by simp [Value.ownBlock])⟩⟩
  · exact ⟨A', c', w', bo, hrun, hO, hbo, ⟨hG.os, hG.tape, hG.output, hG.size, fun k hk hne => hG.block k hk (by simp [Value.ownBlock]; omega)⟩⟩
end Go.Kin
/- append of one element onto a slice of the call's own, as a step of a plain region. -/
namespace Go.Kin
open Go.RowKit
theorem wpList_app1 {P : Program} {w : World} {base n c b : Nat} {e : TypeId} {ops : Array Oper} {rest : List Oper} {o : Oper} {a : Act} {Q : Exit → Act → World → Prop} {t : TypeId} {i : TypeInfo} {z y : Value} {bytes : Nat} {A : Option Addr} {f : Nat → Value} (hgd : o.guard = none) (s x : Operand)
    (ho : o.op = .call { callee := .builtin .append, args := #[s, x], argTypes := #[t, t] }) (ht : P.underlying t = some (.slice e)) (hi : P.info? e = some i) (hz : i.zero = some z)
    (hsize : i.size = 1) (hby : i.bytes = bytes) (hzs : z.cells.size = 1) (hs : a.eval s = .slice A n c) (hx : a.eval x = .slice (some ⟨b, 0, none⟩) 1 1) (hown : OwnS w base e A n c f) (hB : Box w b #[y]) (h1 : y.oneCell' = true)
    (h63 : n + 1 ≤ maxLen) (hbytes : (n + 1) * bytes ≤ 140737488355328) (hbase : base ≤ w.heap.size)
    (hK : ∀ A' c' w' bo, OwnS w' base e A' (n + 1) c' (fun j => if j < n then f j else y) → base ≤ bo → Oth bo w w' → wpList P ops Q rest (a.put o.dst (.slice A' (n + 1) c')) w') : wpList P ops Q (o :: rest) a w := by
  refine wpList_plain hgd fun K hK' => ?_
  obtain ⟨A', c', w', bo, hrun, h2, h3, h4⟩ := app_one (P := P) (ty := o.type) ht hi hz hsize hby hzs hown hB h1 h63 hbytes hbase
  unfold Oper.wp execOp
  simp only [ho, resolve, invoke, builtin, Sem.run_bind, Sem.run_pure, Result.andThen_ok, List.map_toArray, List.map_cons, List.map_nil, hs, hx, hrun]
  exact hK' _ _ (hK A' c' w' bo h2 h3 h4)
end Go.Kin
/- What is known of memory, kept while three cells of one block are written, whatever else is known that has nothing to do with it. -/
namespace Go.Kin
open Go.RowKit
section
variable {w : World} {l : List It} {b : Nat} {cs : Array Value}
theorem Kn.setBoxS (h : Kn w (.box b cs :: l)) (i : Nat) (v : Value) (hf : OffsS b l) : Kn (w.setCell ⟨b, i, none⟩ v) (.box b (cs.setIfInBounds i v) :: l) :=
  ⟨Box.set h.1 i v, Kn.othS h.2 ((Oth.refl b w).set i v) hf⟩
theorem Kn.set2S (h : Kn w (.box b cs :: l)) (i : Nat) (u v : Value) (hf : OffsS b l) :
    Kn ((w.setCell ⟨b, i, none⟩ u).setCell ⟨b, i + 1, none⟩ v) (.box b ((cs.setIfInBounds i u).setIfInBounds (i + 1) v) :: l) := (h.setBoxS i u hf).setBoxS (i + 1) v hf
theorem Kn.swap {x y : It} (h : Kn w (x :: y :: l)) : Kn w (y :: x :: l) := ⟨h.2.1, h.1, h.2.2⟩
theorem Kn.third {x y z : It} (h : Kn w (x :: y :: z :: l)) : Kn w (z :: x :: y :: l) := ⟨h.2.2.1, h.1, h.2.1, h.2.2.2⟩
theorem Kn.fourth {x y z u : It} (h : Kn w (x :: y :: z :: u :: l)) : Kn w (u :: x :: y :: z :: l) := ⟨h.2.2.2.1, h.1, h.2.1, h.2.2.1, h.2.2.2.2⟩
theorem Kn.set3S (h : Kn w (.box b cs :: l)) (i : Nat) (u v x : Value) (hf : OffsS b l) :
    Kn (((w.setCell ⟨b, i, none⟩ u).setCell ⟨b, i + 1, none⟩ v).setCell ⟨b, i + 2, none⟩ x) (.box b (((cs.setIfInBounds i u).setIfInBounds (i + 1) v).setIfInBounds (i + 2) x) :: l) :=
  ((h.setBoxS i u hf).setBoxS (i + 1) v hf).setBoxS (i + 2) x hf
end
theorem app_freshC {P : Program} {w : World} {base b : Nat} {e t ty : TypeId} {i : TypeInfo} {z : Value} {bytes m d : Nat} {B : Option Addr} {h f : Nat → Value} (ht : P.underlying t = some (.slice e)) (hi : P.info? e = some i) (hz : i.zero = some z)
    (hsize : i.size = 1) (hby : i.bytes = bytes) (hzs : z.cells.size = 1) (hown : OwnS w base e (some ⟨b, 0, none⟩) 0 0 f) (hS : Rd w B m h) (h1 : ∀ j, (h j).oneCell' = true)
    (hm : 0 < m) (h63 : m ≤ maxLen) (hbytes : m * bytes ≤ 140737488355328) (hbase : base ≤ w.heap.size) :
    ∃ br c' w', (Builtin.append_ #[t, t] ty #[.slice (some ⟨b, 0, none⟩) 0 0, .slice B m d]).run P w = .ok (.slice (some ⟨br, 0, none⟩) m c') w' ∧ Row w' br m h ∧ m ≤ c' ∧ c' ≤ 9223372036854775807 ∧ (br = b ∨ br = w.heap.size) ∧ Oth b w w' := by
  obtain ⟨A', c', w', hrun, hO, hG, hL⟩ := run_appS (P := P) (ty := ty) (d := d) ht hi hz hsize hby hzs hown hS hS.nil_ h1 (by omega) (by rw [Nat.zero_add]; exact hbytes) hbase
  rw [Nat.zero_add] at hrun hO hL
  obtain ⟨br, rfl, hb, hr, hc⟩ := hO.row hm
  refine ⟨br, c', w', hrun, hr.congr (fun j _ => by simp), hc, ?_, ?_, ⟨hG.os, hG.tape, hG.output, hG.size, fun k hk hne => hG.block k hk (by simp [Value.ownBlock]; omega)⟩⟩
  · rcases hO.cases with ⟨_, _, h⟩ | ⟨_, _, _, _, _, h⟩
    · omega
    · unfold maxLen at h; exact h
  rcases hL with hL | hL
  · left; simpa [Value.ownBlock] using hL
  · right; simpa [Value.ownBlock] using hL
end Go.Kin
