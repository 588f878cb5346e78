/-
  No cell of these rows narrows 'for every input' (looked for: loops, veiled, ifaces, maps, wideKeys, modest, calm, conditions, laid).
  DERIVED. THE GIVEN ROWS OF THIS SEAT. 11 by the template 'for every input the law returns true; each argument reads behind the call as it read before'; 0 by the template 'total and deterministic' (their statements: YtfooglenhepogaaTotals.lean).
  GIVEN WITH THE SEED: the statements are not yours to turn. If you find one false, say at which input.
  Laid BY PROGRAM, IN A SANDBOX (cutbox-rows.mjs): the forced cells as the released guide's own fill.sh prints them over the translation c83a41cb7c34540a… (all of the seat's roots in one cut). By AI agents, Wed Nov 11 2026. No macro, syntax, notation, axiom, sorry.
-/
import Derived.Test.YtfooglenhepogaaChecked
import GoSem.Claim
import GoSem.ClaimJoined
import GoSem.ClaimMapViews
import Derived.JoinedTies
import Derived.KernelRfl
namespace Go.Proofs.Ytfooglenhepogaa
/- THE CELL 'sum', in the pinned program and in every row, IS THE sha256 OF THE DUMP (.gsa) THAT YtfooglenhepogaaProg.lean LOADS. Nothing in Lean hashes anything: it is a label: what it is worth is what the hold of that sum in a sandbox is worth. -/
noncomputable def Try.pinned : Pinned := { name := "ytfooglenhepogaa", sum := "c83a41cb7c34540a16f17907b121723d9c6f979d7eb6abb3ea27db23db0dc896", checked := Try.checked }
namespace Rows
def none {H : Type} : Left H := { results := [], args := [] }

/-- 'kinoralaw04.CoderWrites': WHATEVER THE INPUT: true; the input reads as it did. -/
def coderWritesSpec : ChangeSpec := { name := "coderWrites", fn := fun _ => fun
  | [d] => { results := [.lit (.bool true)], args := [d] }
  | _ => none }
def coderWritesRow : OpenClaim := { program := "ytfooglenhepogaa", sum := "c83a41cb7c34540a16f17907b121723d9c6f979d7eb6abb3ea27db23db0dc896", func := "kinora/kinoralaw04.CoderWrites", spec := "coderWrites", apart := false }
def CoderWritesSaid : Prop := coderWritesRow.holds Try.pinned (OpenSpec.ofChange coderWritesSpec)

/-- ITS FALSE NEIGHBOUR: 'it returns false'. Refute it at one input. -/
def coderWritesWrong : ChangeSpec := { name := "coderWrites", fn := fun _ => fun
  | [d] => { results := [.lit (.bool false)], args := [d] }
  | _ => none }
def CoderWritesWrongFalsely : Prop := coderWritesRow.holds Try.pinned (OpenSpec.ofChange coderWritesWrong)

/-- 'kinoralaw04.CoderReads': WHATEVER THE INPUT: true; the input reads as it did. -/
def coderReadsSpec : ChangeSpec := { name := "coderReads", fn := fun _ => fun
  | [d1, d2] => { results := [.lit (.bool true)], args := [d1, d2] }
  | _ => none }
def coderReadsRow : OpenClaim := { program := "ytfooglenhepogaa", sum := "c83a41cb7c34540a16f17907b121723d9c6f979d7eb6abb3ea27db23db0dc896", func := "kinora/kinoralaw04.CoderReads", spec := "coderReads", apart := false }
def CoderReadsSaid : Prop := coderReadsRow.holds Try.pinned (OpenSpec.ofChange coderReadsSpec)

/-- ITS FALSE NEIGHBOUR: 'it returns false'. Refute it at one input. -/
def coderReadsWrong : ChangeSpec := { name := "coderReads", fn := fun _ => fun
  | [d1, d2] => { results := [.lit (.bool false)], args := [d1, d2] }
  | _ => none }
def CoderReadsWrongFalsely : Prop := coderReadsRow.holds Try.pinned (OpenSpec.ofChange coderReadsWrong)

/-- 'kinoralaw04.CoderBack': WHATEVER THE INPUT: true; the input reads as it did. -/
def coderBackSpec : ChangeSpec := { name := "coderBack", fn := fun _ => fun
  | [d] => { results := [.lit (.bool true)], args := [d] }
  | _ => none }
def coderBackRow : OpenClaim := { program := "ytfooglenhepogaa", sum := "c83a41cb7c34540a16f17907b121723d9c6f979d7eb6abb3ea27db23db0dc896", func := "kinora/kinoralaw04.CoderBack", spec := "coderBack", apart := false }
def CoderBackSaid : Prop := coderBackRow.holds Try.pinned (OpenSpec.ofChange coderBackSpec)

/-- ITS FALSE NEIGHBOUR: 'it returns false'. Refute it at one input. -/
def coderBackWrong : ChangeSpec := { name := "coderBack", fn := fun _ => fun
  | [d] => { results := [.lit (.bool false)], args := [d] }
  | _ => none }
def CoderBackWrongFalsely : Prop := coderBackRow.holds Try.pinned (OpenSpec.ofChange coderBackWrong)

/-- 'kinoralaw04.CoderOne': WHATEVER THE INPUT: true; the input reads as it did. -/
def coderOneSpec : ChangeSpec := { name := "coderOne", fn := fun _ => fun
  | [d1, d2] => { results := [.lit (.bool true)], args := [d1, d2] }
  | _ => none }
def coderOneRow : OpenClaim := { program := "ytfooglenhepogaa", sum := "c83a41cb7c34540a16f17907b121723d9c6f979d7eb6abb3ea27db23db0dc896", func := "kinora/kinoralaw04.CoderOne", spec := "coderOne", apart := false }
def CoderOneSaid : Prop := coderOneRow.holds Try.pinned (OpenSpec.ofChange coderOneSpec)

/-- ITS FALSE NEIGHBOUR: 'it returns false'. Refute it at one input. -/
def coderOneWrong : ChangeSpec := { name := "coderOne", fn := fun _ => fun
  | [d1, d2] => { results := [.lit (.bool false)], args := [d1, d2] }
  | _ => none }
def CoderOneWrongFalsely : Prop := coderOneRow.holds Try.pinned (OpenSpec.ofChange coderOneWrong)

/-- 'kinoralaw04.CoderFair': WHATEVER THE INPUT: true; the input reads as it did. -/
def coderFairSpec : ChangeSpec := { name := "coderFair", fn := fun _ => fun
  | [d1, d2] => { results := [.lit (.bool true)], args := [d1, d2] }
  | _ => none }
def coderFairRow : OpenClaim := { program := "ytfooglenhepogaa", sum := "c83a41cb7c34540a16f17907b121723d9c6f979d7eb6abb3ea27db23db0dc896", func := "kinora/kinoralaw04.CoderFair", spec := "coderFair", apart := false }
def CoderFairSaid : Prop := coderFairRow.holds Try.pinned (OpenSpec.ofChange coderFairSpec)

/-- ITS FALSE NEIGHBOUR: 'it returns false'. Refute it at one input. -/
def coderFairWrong : ChangeSpec := { name := "coderFair", fn := fun _ => fun
  | [d1, d2] => { results := [.lit (.bool false)], args := [d1, d2] }
  | _ => none }
def CoderFairWrongFalsely : Prop := coderFairRow.holds Try.pinned (OpenSpec.ofChange coderFairWrong)

/-- 'kinoralaw04.CoderShort': WHATEVER THE INPUT: true; the input reads as it did. -/
def coderShortSpec : ChangeSpec := { name := "coderShort", fn := fun _ => fun
  | [d1, d2] => { results := [.lit (.bool true)], args := [d1, d2] }
  | _ => none }
def coderShortRow : OpenClaim := { program := "ytfooglenhepogaa", sum := "c83a41cb7c34540a16f17907b121723d9c6f979d7eb6abb3ea27db23db0dc896", func := "kinora/kinoralaw04.CoderShort", spec := "coderShort", apart := false }
def CoderShortSaid : Prop := coderShortRow.holds Try.pinned (OpenSpec.ofChange coderShortSpec)

/-- ITS FALSE NEIGHBOUR: 'it returns false'. Refute it at one input. -/
def coderShortWrong : ChangeSpec := { name := "coderShort", fn := fun _ => fun
  | [d1, d2] => { results := [.lit (.bool false)], args := [d1, d2] }
  | _ => none }
def CoderShortWrongFalsely : Prop := coderShortRow.holds Try.pinned (OpenSpec.ofChange coderShortWrong)

/-- 'kinoralaw04.CoderNil': WHATEVER THE INPUT: true; the input reads as it did. -/
def coderNilSpec : ChangeSpec := { name := "coderNil", fn := fun _ => fun
  | [d] => { results := [.lit (.bool true)], args := [d] }
  | _ => none }
def coderNilRow : OpenClaim := { program := "ytfooglenhepogaa", sum := "c83a41cb7c34540a16f17907b121723d9c6f979d7eb6abb3ea27db23db0dc896", func := "kinora/kinoralaw04.CoderNil", spec := "coderNil", apart := false }
def CoderNilSaid : Prop := coderNilRow.holds Try.pinned (OpenSpec.ofChange coderNilSpec)

/-- ITS FALSE NEIGHBOUR: 'it returns false'. Refute it at one input. -/
def coderNilWrong : ChangeSpec := { name := "coderNil", fn := fun _ => fun
  | [d] => { results := [.lit (.bool false)], args := [d] }
  | _ => none }
def CoderNilWrongFalsely : Prop := coderNilRow.holds Try.pinned (OpenSpec.ofChange coderNilWrong)

/-- 'kinoralaw07.LiftTells': WHATEVER THE INPUT: true; the input reads as it did. -/
def liftTellsSpec : ChangeSpec := { name := "liftTells", fn := fun _ => fun
  | [d] => { results := [.lit (.bool true)], args := [d] }
  | _ => none }
def liftTellsRow : OpenClaim := { program := "ytfooglenhepogaa", sum := "c83a41cb7c34540a16f17907b121723d9c6f979d7eb6abb3ea27db23db0dc896", func := "kinora/kinoralaw07.LiftTells", spec := "liftTells", unfollowed := true, recurses := true, apart := false }
def LiftTellsSaid : Prop := liftTellsRow.holds Try.pinned (OpenSpec.ofChange liftTellsSpec)

/-- ITS FALSE NEIGHBOUR: 'it returns false'. Refute it at one input. -/
def liftTellsWrong : ChangeSpec := { name := "liftTells", fn := fun _ => fun
  | [d] => { results := [.lit (.bool false)], args := [d] }
  | _ => none }
def LiftTellsWrongFalsely : Prop := liftTellsRow.holds Try.pinned (OpenSpec.ofChange liftTellsWrong)

/-- 'kinoralaw07.LiftFlat': WHATEVER THE INPUT: true; the input reads as it did. -/
def liftFlatSpec : ChangeSpec := { name := "liftFlat", fn := fun _ => fun
  | [d1, d2] => { results := [.lit (.bool true)], args := [d1, d2] }
  | _ => none }
def liftFlatRow : OpenClaim := { program := "ytfooglenhepogaa", sum := "c83a41cb7c34540a16f17907b121723d9c6f979d7eb6abb3ea27db23db0dc896", func := "kinora/kinoralaw07.LiftFlat", spec := "liftFlat", unfollowed := true, recurses := true, apart := false }
def LiftFlatSaid : Prop := liftFlatRow.holds Try.pinned (OpenSpec.ofChange liftFlatSpec)

/-- ITS FALSE NEIGHBOUR: 'it returns false'. Refute it at one input. -/
def liftFlatWrong : ChangeSpec := { name := "liftFlat", fn := fun _ => fun
  | [d1, d2] => { results := [.lit (.bool false)], args := [d1, d2] }
  | _ => none }
def LiftFlatWrongFalsely : Prop := liftFlatRow.holds Try.pinned (OpenSpec.ofChange liftFlatWrong)

/-- 'kinoralaw07.LiftBounds': WHATEVER THE INPUT: true; the input reads as it did. -/
def liftBoundsSpec : ChangeSpec := { name := "liftBounds", fn := fun _ => fun
  | [d] => { results := [.lit (.bool true)], args := [d] }
  | _ => none }
def liftBoundsRow : OpenClaim := { program := "ytfooglenhepogaa", sum := "c83a41cb7c34540a16f17907b121723d9c6f979d7eb6abb3ea27db23db0dc896", func := "kinora/kinoralaw07.LiftBounds", spec := "liftBounds", unfollowed := true, recurses := true, apart := false }
def LiftBoundsSaid : Prop := liftBoundsRow.holds Try.pinned (OpenSpec.ofChange liftBoundsSpec)

/-- ITS FALSE NEIGHBOUR: 'it returns false'. Refute it at one input. -/
def liftBoundsWrong : ChangeSpec := { name := "liftBounds", fn := fun _ => fun
  | [d] => { results := [.lit (.bool false)], args := [d] }
  | _ => none }
def LiftBoundsWrongFalsely : Prop := liftBoundsRow.holds Try.pinned (OpenSpec.ofChange liftBoundsWrong)

/-- 'kinoralaw07.LiftOrders': WHATEVER THE INPUT: true; the input reads as it did. -/
def liftOrdersSpec : ChangeSpec := { name := "liftOrders", fn := fun _ => fun
  | [d1, d2] => { results := [.lit (.bool true)], args := [d1, d2] }
  | _ => none }
def liftOrdersRow : OpenClaim := { program := "ytfooglenhepogaa", sum := "c83a41cb7c34540a16f17907b121723d9c6f979d7eb6abb3ea27db23db0dc896", func := "kinora/kinoralaw07.LiftOrders", spec := "liftOrders", unfollowed := true, recurses := true, apart := false }
def LiftOrdersSaid : Prop := liftOrdersRow.holds Try.pinned (OpenSpec.ofChange liftOrdersSpec)

/-- ITS FALSE NEIGHBOUR: 'it returns false'. Refute it at one input. -/
def liftOrdersWrong : ChangeSpec := { name := "liftOrders", fn := fun _ => fun
  | [d1, d2] => { results := [.lit (.bool false)], args := [d1, d2] }
  | _ => none }
def LiftOrdersWrongFalsely : Prop := liftOrdersRow.holds Try.pinned (OpenSpec.ofChange liftOrdersWrong)

/- THE SECOND FORM. 'bulk': how many values and letters a reading holds, each counted each time it is reached (what is shared counts as often as it is met; a slice's spare places count too). A statement '..UptoSaid' is the law's where the arguments, and the package variables that the reading takes, are together of bulk at most 1048576: NARROWER than '..Said'. Prove '..Said' where nothing that the law and all that it calls make is longer than what came in: it says more and counts as full. Else prove '..UptoSaid'. A law counts once. -/
mutual
def uptoBulk {H : Type} : DataW H → Nat
  | .lit (.string bytes) => bytes.length + 1
  | .lit _ => 1
  | .nil => 1
  | .ptr d => uptoBulk d + 1
  | .slice elems spare => uptoBulkAll elems + uptoBulkAll spare + 1
  | .agg parts => uptoBulkAll parts + 1
  | .iface _ d => uptoBulk d + 1
  | .map entries => uptoBulkEntries entries + 1
  | .held _ => 1
def uptoBulkAll {H : Type} : List (DataW H) → Nat
  | [] => 0
  | d :: r => uptoBulk d + uptoBulkAll r
def uptoBulkEntries {H : Type} : List (Lit × DataW H) → Nat
  | [] => 0
  | x :: r => uptoBulkEntry x + uptoBulkEntries r
def uptoBulkEntry {H : Type} : Lit × DataW H → Nat
  | (.string bytes, d) => bytes.length + uptoBulk d + 1
  | (_, d) => uptoBulk d + 1
 end
def uptoSmall : (H : Type) → List (DataW H) → Bool := fun _ ds => decide (uptoBulkAll ds ≤ 1048576)
def OpenSpec.upto (s : _root_.Go.ChangeSpec) : _root_.Go.OpenSpec := { _root_.Go.OpenSpec.ofChange s with cond := some uptoSmall }

/-- 'kinoralaw04.CoderWrites', WHERE WHAT IT READS IS OF BULK AT MOST 1048576: true; the input reads as it did. -/
def coderWritesUptoRow : OpenClaim := { program := "ytfooglenhepogaa", sum := "c83a41cb7c34540a16f17907b121723d9c6f979d7eb6abb3ea27db23db0dc896", func := "kinora/kinoralaw04.CoderWrites", spec := "coderWrites", apart := false, narrowed := true }
def CoderWritesUptoSaid : Prop := coderWritesUptoRow.holds Try.pinned (OpenSpec.upto coderWritesSpec)

/-- 'kinoralaw04.CoderReads', WHERE WHAT IT READS IS OF BULK AT MOST 1048576: true; the input reads as it did. -/
def coderReadsUptoRow : OpenClaim := { program := "ytfooglenhepogaa", sum := "c83a41cb7c34540a16f17907b121723d9c6f979d7eb6abb3ea27db23db0dc896", func := "kinora/kinoralaw04.CoderReads", spec := "coderReads", apart := false, narrowed := true }
def CoderReadsUptoSaid : Prop := coderReadsUptoRow.holds Try.pinned (OpenSpec.upto coderReadsSpec)

/-- 'kinoralaw04.CoderBack', WHERE WHAT IT READS IS OF BULK AT MOST 1048576: true; the input reads as it did. -/
def coderBackUptoRow : OpenClaim := { program := "ytfooglenhepogaa", sum := "c83a41cb7c34540a16f17907b121723d9c6f979d7eb6abb3ea27db23db0dc896", func := "kinora/kinoralaw04.CoderBack", spec := "coderBack", apart := false, narrowed := true }
def CoderBackUptoSaid : Prop := coderBackUptoRow.holds Try.pinned (OpenSpec.upto coderBackSpec)

/-- 'kinoralaw04.CoderOne', WHERE WHAT IT READS IS OF BULK AT MOST 1048576: true; the input reads as it did. -/
def coderOneUptoRow : OpenClaim := { program := "ytfooglenhepogaa", sum := "c83a41cb7c34540a16f17907b121723d9c6f979d7eb6abb3ea27db23db0dc896", func := "kinora/kinoralaw04.CoderOne", spec := "coderOne", apart := false, narrowed := true }
def CoderOneUptoSaid : Prop := coderOneUptoRow.holds Try.pinned (OpenSpec.upto coderOneSpec)

/-- 'kinoralaw04.CoderFair', WHERE WHAT IT READS IS OF BULK AT MOST 1048576: true; the input reads as it did. -/
def coderFairUptoRow : OpenClaim := { program := "ytfooglenhepogaa", sum := "c83a41cb7c34540a16f17907b121723d9c6f979d7eb6abb3ea27db23db0dc896", func := "kinora/kinoralaw04.CoderFair", spec := "coderFair", apart := false, narrowed := true }
def CoderFairUptoSaid : Prop := coderFairUptoRow.holds Try.pinned (OpenSpec.upto coderFairSpec)

/-- 'kinoralaw04.CoderShort', WHERE WHAT IT READS IS OF BULK AT MOST 1048576: true; the input reads as it did. -/
def coderShortUptoRow : OpenClaim := { program := "ytfooglenhepogaa", sum := "c83a41cb7c34540a16f17907b121723d9c6f979d7eb6abb3ea27db23db0dc896", func := "kinora/kinoralaw04.CoderShort", spec := "coderShort", apart := false, narrowed := true }
def CoderShortUptoSaid : Prop := coderShortUptoRow.holds Try.pinned (OpenSpec.upto coderShortSpec)

/-- 'kinoralaw04.CoderNil', WHERE WHAT IT READS IS OF BULK AT MOST 1048576: true; the input reads as it did. -/
def coderNilUptoRow : OpenClaim := { program := "ytfooglenhepogaa", sum := "c83a41cb7c34540a16f17907b121723d9c6f979d7eb6abb3ea27db23db0dc896", func := "kinora/kinoralaw04.CoderNil", spec := "coderNil", apart := false, narrowed := true }
def CoderNilUptoSaid : Prop := coderNilUptoRow.holds Try.pinned (OpenSpec.upto coderNilSpec)

/-- 'kinoralaw07.LiftTells', WHERE WHAT IT READS IS OF BULK AT MOST 1048576: true; the input reads as it did. -/
def liftTellsUptoRow : OpenClaim := { program := "ytfooglenhepogaa", sum := "c83a41cb7c34540a16f17907b121723d9c6f979d7eb6abb3ea27db23db0dc896", func := "kinora/kinoralaw07.LiftTells", spec := "liftTells", unfollowed := true, recurses := true, apart := false, narrowed := true }
def LiftTellsUptoSaid : Prop := liftTellsUptoRow.holds Try.pinned (OpenSpec.upto liftTellsSpec)

/-- 'kinoralaw07.LiftFlat', WHERE WHAT IT READS IS OF BULK AT MOST 1048576: true; the input reads as it did. -/
def liftFlatUptoRow : OpenClaim := { program := "ytfooglenhepogaa", sum := "c83a41cb7c34540a16f17907b121723d9c6f979d7eb6abb3ea27db23db0dc896", func := "kinora/kinoralaw07.LiftFlat", spec := "liftFlat", unfollowed := true, recurses := true, apart := false, narrowed := true }
def LiftFlatUptoSaid : Prop := liftFlatUptoRow.holds Try.pinned (OpenSpec.upto liftFlatSpec)

/-- 'kinoralaw07.LiftBounds', WHERE WHAT IT READS IS OF BULK AT MOST 1048576: true; the input reads as it did. -/
def liftBoundsUptoRow : OpenClaim := { program := "ytfooglenhepogaa", sum := "c83a41cb7c34540a16f17907b121723d9c6f979d7eb6abb3ea27db23db0dc896", func := "kinora/kinoralaw07.LiftBounds", spec := "liftBounds", unfollowed := true, recurses := true, apart := false, narrowed := true }
def LiftBoundsUptoSaid : Prop := liftBoundsUptoRow.holds Try.pinned (OpenSpec.upto liftBoundsSpec)

/-- 'kinoralaw07.LiftOrders', WHERE WHAT IT READS IS OF BULK AT MOST 1048576: true; the input reads as it did. -/
def liftOrdersUptoRow : OpenClaim := { program := "ytfooglenhepogaa", sum := "c83a41cb7c34540a16f17907b121723d9c6f979d7eb6abb3ea27db23db0dc896", func := "kinora/kinoralaw07.LiftOrders", spec := "liftOrders", unfollowed := true, recurses := true, apart := false, narrowed := true }
def LiftOrdersUptoSaid : Prop := liftOrdersUptoRow.holds Try.pinned (OpenSpec.upto liftOrdersSpec)

end Rows
end Go.Proofs.Ytfooglenhepogaa
