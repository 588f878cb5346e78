/-
  No cell of these rows narrows 'for every input' (looked for: loops, veiled, ifaces, maps, wideKeys, modest, calm, conditions, laid).
  DERIVED. THE GIVEN ROWS OF THIS SEAT. 12 by the template 'for every input the law returns true; each argument reads behind the call as it read before'; 0 by the template 'total and deterministic' (their statements: YtlkogokhcdehfaaTotals.lean).
  GIVEN WITH THE SEED: the statements are not yours to turn. If you find one false, say at which input.
  Laid BY PROGRAM, IN A SANDBOX (cutbox-rows.mjs): the forced cells as the released guide's own fill.sh prints them over the translation 6fc41b8963676f83… (all of the seat's roots in one cut). By AI agents, Wed Nov 11 2026. No macro, syntax, notation, axiom, sorry.
-/
import Derived.Test.YtlkogokhcdehfaaChecked
import GoSem.Claim
import GoSem.ClaimJoined
import GoSem.ClaimMapViews
import Derived.JoinedTies
import Derived.KernelRfl
namespace Go.Proofs.Ytlkogokhcdehfaa
/- THE CELL 'sum', in the pinned program and in every row, IS THE sha256 OF THE DUMP (.gsa) THAT YtlkogokhcdehfaaProg.lean LOADS. Nothing in Lean hashes anything: it is a label: what it is worth is what the hold of that sum in a sandbox is worth. -/
noncomputable def Try.pinned : Pinned := { name := "ytlkogokhcdehfaa", sum := "6fc41b8963676f83c23dea49f9e994473ea0a1db853351c19d6bee111e571b80", checked := Try.checked }
namespace Rows
def none {H : Type} : Left H := { results := [], args := [] }

/-- 'kinoralaw11.DeblockLines': WHATEVER THE INPUT: true; the input reads as it did. -/
def deblockLinesSpec : ChangeSpec := { name := "deblockLines", fn := fun _ => fun
  | [d1, d2] => { results := [.lit (.bool true)], args := [d1, d2] }
  | _ => none }
def deblockLinesRow : OpenClaim := { program := "ytlkogokhcdehfaa", sum := "6fc41b8963676f83c23dea49f9e994473ea0a1db853351c19d6bee111e571b80", func := "kinora/kinoralaw11.DeblockLines", spec := "deblockLines", unfollowed := true, recurses := true, apart := false }
def DeblockLinesSaid : Prop := deblockLinesRow.holds Try.pinned (OpenSpec.ofChange deblockLinesSpec)

/-- ITS FALSE NEIGHBOUR: 'it returns false'. Refute it at one input. -/
def deblockLinesWrong : ChangeSpec := { name := "deblockLines", fn := fun _ => fun
  | [d1, d2] => { results := [.lit (.bool false)], args := [d1, d2] }
  | _ => none }
def DeblockLinesWrongFalsely : Prop := deblockLinesRow.holds Try.pinned (OpenSpec.ofChange deblockLinesWrong)

/-- 'kinoralaw11.DeblockMost': WHATEVER THE INPUT: true; the input reads as it did. -/
def deblockMostSpec : ChangeSpec := { name := "deblockMost", fn := fun _ => fun
  | [d1, d2] => { results := [.lit (.bool true)], args := [d1, d2] }
  | _ => none }
def deblockMostRow : OpenClaim := { program := "ytlkogokhcdehfaa", sum := "6fc41b8963676f83c23dea49f9e994473ea0a1db853351c19d6bee111e571b80", func := "kinora/kinoralaw11.DeblockMost", spec := "deblockMost", unfollowed := true, recurses := true, apart := false }
def DeblockMostSaid : Prop := deblockMostRow.holds Try.pinned (OpenSpec.ofChange deblockMostSpec)

/-- ITS FALSE NEIGHBOUR: 'it returns false'. Refute it at one input. -/
def deblockMostWrong : ChangeSpec := { name := "deblockMost", fn := fun _ => fun
  | [d1, d2] => { results := [.lit (.bool false)], args := [d1, d2] }
  | _ => none }
def DeblockMostWrongFalsely : Prop := deblockMostRow.holds Try.pinned (OpenSpec.ofChange deblockMostWrong)

/-- 'kinoralaw11.DeblockMean': WHATEVER THE INPUT: true; the input reads as it did. -/
def deblockMeanSpec : ChangeSpec := { name := "deblockMean", fn := fun _ => fun
  | [d1, d2] => { results := [.lit (.bool true)], args := [d1, d2] }
  | _ => none }
def deblockMeanRow : OpenClaim := { program := "ytlkogokhcdehfaa", sum := "6fc41b8963676f83c23dea49f9e994473ea0a1db853351c19d6bee111e571b80", func := "kinora/kinoralaw11.DeblockMean", spec := "deblockMean", unfollowed := true, recurses := true, apart := false }
def DeblockMeanSaid : Prop := deblockMeanRow.holds Try.pinned (OpenSpec.ofChange deblockMeanSpec)

/-- ITS FALSE NEIGHBOUR: 'it returns false'. Refute it at one input. -/
def deblockMeanWrong : ChangeSpec := { name := "deblockMean", fn := fun _ => fun
  | [d1, d2] => { results := [.lit (.bool false)], args := [d1, d2] }
  | _ => none }
def DeblockMeanWrongFalsely : Prop := deblockMeanRow.holds Try.pinned (OpenSpec.ofChange deblockMeanWrong)

/-- 'kinoralaw11.DeblockFlat': WHATEVER THE INPUT: true; the input reads as it did. -/
def deblockFlatSpec : ChangeSpec := { name := "deblockFlat", fn := fun _ => fun
  | [d1, d2, d3] => { results := [.lit (.bool true)], args := [d1, d2, d3] }
  | _ => none }
def deblockFlatRow : OpenClaim := { program := "ytlkogokhcdehfaa", sum := "6fc41b8963676f83c23dea49f9e994473ea0a1db853351c19d6bee111e571b80", func := "kinora/kinoralaw11.DeblockFlat", spec := "deblockFlat", unfollowed := true, recurses := true, apart := false }
def DeblockFlatSaid : Prop := deblockFlatRow.holds Try.pinned (OpenSpec.ofChange deblockFlatSpec)

/-- ITS FALSE NEIGHBOUR: 'it returns false'. Refute it at one input. -/
def deblockFlatWrong : ChangeSpec := { name := "deblockFlat", fn := fun _ => fun
  | [d1, d2, d3] => { results := [.lit (.bool false)], args := [d1, d2, d3] }
  | _ => none }
def DeblockFlatWrongFalsely : Prop := deblockFlatRow.holds Try.pinned (OpenSpec.ofChange deblockFlatWrong)

/-- 'kinoralaw11.DeblockPlanes': WHATEVER THE INPUT: true; the input reads as it did. -/
def deblockPlanesSpec : ChangeSpec := { name := "deblockPlanes", fn := fun _ => fun
  | [d1, d2, d3] => { results := [.lit (.bool true)], args := [d1, d2, d3] }
  | _ => none }
def deblockPlanesRow : OpenClaim := { program := "ytlkogokhcdehfaa", sum := "6fc41b8963676f83c23dea49f9e994473ea0a1db853351c19d6bee111e571b80", func := "kinora/kinoralaw11.DeblockPlanes", spec := "deblockPlanes", unfollowed := true, recurses := true, apart := false }
def DeblockPlanesSaid : Prop := deblockPlanesRow.holds Try.pinned (OpenSpec.ofChange deblockPlanesSpec)

/-- ITS FALSE NEIGHBOUR: 'it returns false'. Refute it at one input. -/
def deblockPlanesWrong : ChangeSpec := { name := "deblockPlanes", fn := fun _ => fun
  | [d1, d2, d3] => { results := [.lit (.bool false)], args := [d1, d2, d3] }
  | _ => none }
def DeblockPlanesWrongFalsely : Prop := deblockPlanesRow.holds Try.pinned (OpenSpec.ofChange deblockPlanesWrong)

/-- 'kinoralaw06.PlaneMakes': WHATEVER THE INPUT: true; the input reads as it did. -/
def planeMakesSpec : ChangeSpec := { name := "planeMakes", fn := fun _ => fun
  | [d1, d2, d3] => { results := [.lit (.bool true)], args := [d1, d2, d3] }
  | _ => none }
def planeMakesRow : OpenClaim := { program := "ytlkogokhcdehfaa", sum := "6fc41b8963676f83c23dea49f9e994473ea0a1db853351c19d6bee111e571b80", func := "kinora/kinoralaw06.PlaneMakes", spec := "planeMakes", apart := false }
def PlaneMakesSaid : Prop := planeMakesRow.holds Try.pinned (OpenSpec.ofChange planeMakesSpec)

/-- ITS FALSE NEIGHBOUR: 'it returns false'. Refute it at one input. -/
def planeMakesWrong : ChangeSpec := { name := "planeMakes", fn := fun _ => fun
  | [d1, d2, d3] => { results := [.lit (.bool false)], args := [d1, d2, d3] }
  | _ => none }
def PlaneMakesWrongFalsely : Prop := planeMakesRow.holds Try.pinned (OpenSpec.ofChange planeMakesWrong)

/-- 'kinoralaw06.PlaneLays': WHATEVER THE INPUT: true; the input reads as it did. -/
def planeLaysSpec : ChangeSpec := { name := "planeLays", fn := fun _ => fun
  | [d1, d2, d3] => { results := [.lit (.bool true)], args := [d1, d2, d3] }
  | _ => none }
def planeLaysRow : OpenClaim := { program := "ytlkogokhcdehfaa", sum := "6fc41b8963676f83c23dea49f9e994473ea0a1db853351c19d6bee111e571b80", func := "kinora/kinoralaw06.PlaneLays", spec := "planeLays", apart := false }
def PlaneLaysSaid : Prop := planeLaysRow.holds Try.pinned (OpenSpec.ofChange planeLaysSpec)

/-- ITS FALSE NEIGHBOUR: 'it returns false'. Refute it at one input. -/
def planeLaysWrong : ChangeSpec := { name := "planeLays", fn := fun _ => fun
  | [d1, d2, d3] => { results := [.lit (.bool false)], args := [d1, d2, d3] }
  | _ => none }
def PlaneLaysWrongFalsely : Prop := planeLaysRow.holds Try.pinned (OpenSpec.ofChange planeLaysWrong)

/-- 'kinoralaw06.PlaneThere': WHATEVER THE INPUT: true; the input reads as it did. -/
def planeThereSpec : ChangeSpec := { name := "planeThere", fn := fun _ => fun
  | [d1, d2, d3] => { results := [.lit (.bool true)], args := [d1, d2, d3] }
  | _ => none }
def planeThereRow : OpenClaim := { program := "ytlkogokhcdehfaa", sum := "6fc41b8963676f83c23dea49f9e994473ea0a1db853351c19d6bee111e571b80", func := "kinora/kinoralaw06.PlaneThere", spec := "planeThere", apart := false }
def PlaneThereSaid : Prop := planeThereRow.holds Try.pinned (OpenSpec.ofChange planeThereSpec)

/-- ITS FALSE NEIGHBOUR: 'it returns false'. Refute it at one input. -/
def planeThereWrong : ChangeSpec := { name := "planeThere", fn := fun _ => fun
  | [d1, d2, d3] => { results := [.lit (.bool false)], args := [d1, d2, d3] }
  | _ => none }
def PlaneThereWrongFalsely : Prop := planeThereRow.holds Try.pinned (OpenSpec.ofChange planeThereWrong)

/-- 'kinoralaw06.PlaneEdges': WHATEVER THE INPUT: true; the input reads as it did. -/
def planeEdgesSpec : ChangeSpec := { name := "planeEdges", fn := fun _ => fun
  | [d1, d2, d3] => { results := [.lit (.bool true)], args := [d1, d2, d3] }
  | _ => none }
def planeEdgesRow : OpenClaim := { program := "ytlkogokhcdehfaa", sum := "6fc41b8963676f83c23dea49f9e994473ea0a1db853351c19d6bee111e571b80", func := "kinora/kinoralaw06.PlaneEdges", spec := "planeEdges", apart := false }
def PlaneEdgesSaid : Prop := planeEdgesRow.holds Try.pinned (OpenSpec.ofChange planeEdgesSpec)

/-- ITS FALSE NEIGHBOUR: 'it returns false'. Refute it at one input. -/
def planeEdgesWrong : ChangeSpec := { name := "planeEdges", fn := fun _ => fun
  | [d1, d2, d3] => { results := [.lit (.bool false)], args := [d1, d2, d3] }
  | _ => none }
def PlaneEdgesWrongFalsely : Prop := planeEdgesRow.holds Try.pinned (OpenSpec.ofChange planeEdgesWrong)

/-- 'kinoralaw06.PlaneCopies': WHATEVER THE INPUT: true; the input reads as it did. -/
def planeCopiesSpec : ChangeSpec := { name := "planeCopies", fn := fun _ => fun
  | [d1, d2] => { results := [.lit (.bool true)], args := [d1, d2] }
  | _ => none }
def planeCopiesRow : OpenClaim := { program := "ytlkogokhcdehfaa", sum := "6fc41b8963676f83c23dea49f9e994473ea0a1db853351c19d6bee111e571b80", func := "kinora/kinoralaw06.PlaneCopies", spec := "planeCopies", apart := false }
def PlaneCopiesSaid : Prop := planeCopiesRow.holds Try.pinned (OpenSpec.ofChange planeCopiesSpec)

/-- ITS FALSE NEIGHBOUR: 'it returns false'. Refute it at one input. -/
def planeCopiesWrong : ChangeSpec := { name := "planeCopies", fn := fun _ => fun
  | [d1, d2] => { results := [.lit (.bool false)], args := [d1, d2] }
  | _ => none }
def PlaneCopiesWrongFalsely : Prop := planeCopiesRow.holds Try.pinned (OpenSpec.ofChange planeCopiesWrong)

/-- 'kinoralaw06.PlaneApart': WHATEVER THE INPUT: true; the input reads as it did. -/
def planeApartSpec : ChangeSpec := { name := "planeApart", fn := fun _ => fun
  | [d1, d2, d3] => { results := [.lit (.bool true)], args := [d1, d2, d3] }
  | _ => none }
def planeApartRow : OpenClaim := { program := "ytlkogokhcdehfaa", sum := "6fc41b8963676f83c23dea49f9e994473ea0a1db853351c19d6bee111e571b80", func := "kinora/kinoralaw06.PlaneApart", spec := "planeApart", apart := false }
def PlaneApartSaid : Prop := planeApartRow.holds Try.pinned (OpenSpec.ofChange planeApartSpec)

/-- ITS FALSE NEIGHBOUR: 'it returns false'. Refute it at one input. -/
def planeApartWrong : ChangeSpec := { name := "planeApart", fn := fun _ => fun
  | [d1, d2, d3] => { results := [.lit (.bool false)], args := [d1, d2, d3] }
  | _ => none }
def PlaneApartWrongFalsely : Prop := planeApartRow.holds Try.pinned (OpenSpec.ofChange planeApartWrong)

/-- 'kinoralaw06.PlaneHalves': WHATEVER THE INPUT: true; the input reads as it did. -/
def planeHalvesSpec : ChangeSpec := { name := "planeHalves", fn := fun _ => fun
  | [d1, d2, d3] => { results := [.lit (.bool true)], args := [d1, d2, d3] }
  | _ => none }
def planeHalvesRow : OpenClaim := { program := "ytlkogokhcdehfaa", sum := "6fc41b8963676f83c23dea49f9e994473ea0a1db853351c19d6bee111e571b80", func := "kinora/kinoralaw06.PlaneHalves", spec := "planeHalves", apart := false }
def PlaneHalvesSaid : Prop := planeHalvesRow.holds Try.pinned (OpenSpec.ofChange planeHalvesSpec)

/-- ITS FALSE NEIGHBOUR: 'it returns false'. Refute it at one input. -/
def planeHalvesWrong : ChangeSpec := { name := "planeHalves", fn := fun _ => fun
  | [d1, d2, d3] => { results := [.lit (.bool false)], args := [d1, d2, d3] }
  | _ => none }
def PlaneHalvesWrongFalsely : Prop := planeHalvesRow.holds Try.pinned (OpenSpec.ofChange planeHalvesWrong)

/- THE SECOND FORM. 'bulk': how many values and letters a reading holds, each counted each time it is reached (what is shared counts as often as it is met; a slice's spare places count too). A statement '..UptoSaid' is the law's where the arguments, and the package variables that the reading takes, are together of bulk at most 1048576: NARROWER than '..Said'. Prove '..Said' where nothing that the law and all that it calls make is longer than what came in: it says more and counts as full. Else prove '..UptoSaid'. A law counts once. -/
mutual
def uptoBulk {H : Type} : DataW H → Nat
  | .lit (.string bytes) => bytes.length + 1
  | .lit _ => 1
  | .nil => 1
  | .ptr d => uptoBulk d + 1
  | .slice elems spare => uptoBulkAll elems + uptoBulkAll spare + 1
  | .agg parts => uptoBulkAll parts + 1
  | .iface _ d => uptoBulk d + 1
  | .map entries => uptoBulkEntries entries + 1
  | .held _ => 1
def uptoBulkAll {H : Type} : List (DataW H) → Nat
  | [] => 0
  | d :: r => uptoBulk d + uptoBulkAll r
def uptoBulkEntries {H : Type} : List (Lit × DataW H) → Nat
  | [] => 0
  | x :: r => uptoBulkEntry x + uptoBulkEntries r
def uptoBulkEntry {H : Type} : Lit × DataW H → Nat
  | (.string bytes, d) => bytes.length + uptoBulk d + 1
  | (_, d) => uptoBulk d + 1
 end
def uptoSmall : (H : Type) → List (DataW H) → Bool := fun _ ds => decide (uptoBulkAll ds ≤ 1048576)
def OpenSpec.upto (s : _root_.Go.ChangeSpec) : _root_.Go.OpenSpec := { _root_.Go.OpenSpec.ofChange s with cond := some uptoSmall }

/-- 'kinoralaw11.DeblockLines', WHERE WHAT IT READS IS OF BULK AT MOST 1048576: true; the input reads as it did. -/
def deblockLinesUptoRow : OpenClaim := { program := "ytlkogokhcdehfaa", sum := "6fc41b8963676f83c23dea49f9e994473ea0a1db853351c19d6bee111e571b80", func := "kinora/kinoralaw11.DeblockLines", spec := "deblockLines", unfollowed := true, recurses := true, apart := false, narrowed := true }
def DeblockLinesUptoSaid : Prop := deblockLinesUptoRow.holds Try.pinned (OpenSpec.upto deblockLinesSpec)

/-- 'kinoralaw11.DeblockMost', WHERE WHAT IT READS IS OF BULK AT MOST 1048576: true; the input reads as it did. -/
def deblockMostUptoRow : OpenClaim := { program := "ytlkogokhcdehfaa", sum := "6fc41b8963676f83c23dea49f9e994473ea0a1db853351c19d6bee111e571b80", func := "kinora/kinoralaw11.DeblockMost", spec := "deblockMost", unfollowed := true, recurses := true, apart := false, narrowed := true }
def DeblockMostUptoSaid : Prop := deblockMostUptoRow.holds Try.pinned (OpenSpec.upto deblockMostSpec)

/-- 'kinoralaw11.DeblockMean', WHERE WHAT IT READS IS OF BULK AT MOST 1048576: true; the input reads as it did. -/
def deblockMeanUptoRow : OpenClaim := { program := "ytlkogokhcdehfaa", sum := "6fc41b8963676f83c23dea49f9e994473ea0a1db853351c19d6bee111e571b80", func := "kinora/kinoralaw11.DeblockMean", spec := "deblockMean", unfollowed := true, recurses := true, apart := false, narrowed := true }
def DeblockMeanUptoSaid : Prop := deblockMeanUptoRow.holds Try.pinned (OpenSpec.upto deblockMeanSpec)

/-- 'kinoralaw11.DeblockFlat', WHERE WHAT IT READS IS OF BULK AT MOST 1048576: true; the input reads as it did. -/
def deblockFlatUptoRow : OpenClaim := { program := "ytlkogokhcdehfaa", sum := "6fc41b8963676f83c23dea49f9e994473ea0a1db853351c19d6bee111e571b80", func := "kinora/kinoralaw11.DeblockFlat", spec := "deblockFlat", unfollowed := true, recurses := true, apart := false, narrowed := true }
def DeblockFlatUptoSaid : Prop := deblockFlatUptoRow.holds Try.pinned (OpenSpec.upto deblockFlatSpec)

/-- 'kinoralaw11.DeblockPlanes', WHERE WHAT IT READS IS OF BULK AT MOST 1048576: true; the input reads as it did. -/
def deblockPlanesUptoRow : OpenClaim := { program := "ytlkogokhcdehfaa", sum := "6fc41b8963676f83c23dea49f9e994473ea0a1db853351c19d6bee111e571b80", func := "kinora/kinoralaw11.DeblockPlanes", spec := "deblockPlanes", unfollowed := true, recurses := true, apart := false, narrowed := true }
def DeblockPlanesUptoSaid : Prop := deblockPlanesUptoRow.holds Try.pinned (OpenSpec.upto deblockPlanesSpec)

/-- 'kinoralaw06.PlaneMakes', WHERE WHAT IT READS IS OF BULK AT MOST 1048576: true; the input reads as it did. -/
def planeMakesUptoRow : OpenClaim := { program := "ytlkogokhcdehfaa", sum := "6fc41b8963676f83c23dea49f9e994473ea0a1db853351c19d6bee111e571b80", func := "kinora/kinoralaw06.PlaneMakes", spec := "planeMakes", apart := false, narrowed := true }
def PlaneMakesUptoSaid : Prop := planeMakesUptoRow.holds Try.pinned (OpenSpec.upto planeMakesSpec)

/-- 'kinoralaw06.PlaneLays', WHERE WHAT IT READS IS OF BULK AT MOST 1048576: true; the input reads as it did. -/
def planeLaysUptoRow : OpenClaim := { program := "ytlkogokhcdehfaa", sum := "6fc41b8963676f83c23dea49f9e994473ea0a1db853351c19d6bee111e571b80", func := "kinora/kinoralaw06.PlaneLays", spec := "planeLays", apart := false, narrowed := true }
def PlaneLaysUptoSaid : Prop := planeLaysUptoRow.holds Try.pinned (OpenSpec.upto planeLaysSpec)

/-- 'kinoralaw06.PlaneThere', WHERE WHAT IT READS IS OF BULK AT MOST 1048576: true; the input reads as it did. -/
def planeThereUptoRow : OpenClaim := { program := "ytlkogokhcdehfaa", sum := "6fc41b8963676f83c23dea49f9e994473ea0a1db853351c19d6bee111e571b80", func := "kinora/kinoralaw06.PlaneThere", spec := "planeThere", apart := false, narrowed := true }
def PlaneThereUptoSaid : Prop := planeThereUptoRow.holds Try.pinned (OpenSpec.upto planeThereSpec)

/-- 'kinoralaw06.PlaneEdges', WHERE WHAT IT READS IS OF BULK AT MOST 1048576: true; the input reads as it did. -/
def planeEdgesUptoRow : OpenClaim := { program := "ytlkogokhcdehfaa", sum := "6fc41b8963676f83c23dea49f9e994473ea0a1db853351c19d6bee111e571b80", func := "kinora/kinoralaw06.PlaneEdges", spec := "planeEdges", apart := false, narrowed := true }
def PlaneEdgesUptoSaid : Prop := planeEdgesUptoRow.holds Try.pinned (OpenSpec.upto planeEdgesSpec)

/-- 'kinoralaw06.PlaneCopies', WHERE WHAT IT READS IS OF BULK AT MOST 1048576: true; the input reads as it did. -/
def planeCopiesUptoRow : OpenClaim := { program := "ytlkogokhcdehfaa", sum := "6fc41b8963676f83c23dea49f9e994473ea0a1db853351c19d6bee111e571b80", func := "kinora/kinoralaw06.PlaneCopies", spec := "planeCopies", apart := false, narrowed := true }
def PlaneCopiesUptoSaid : Prop := planeCopiesUptoRow.holds Try.pinned (OpenSpec.upto planeCopiesSpec)

/-- 'kinoralaw06.PlaneApart', WHERE WHAT IT READS IS OF BULK AT MOST 1048576: true; the input reads as it did. -/
def planeApartUptoRow : OpenClaim := { program := "ytlkogokhcdehfaa", sum := "6fc41b8963676f83c23dea49f9e994473ea0a1db853351c19d6bee111e571b80", func := "kinora/kinoralaw06.PlaneApart", spec := "planeApart", apart := false, narrowed := true }
def PlaneApartUptoSaid : Prop := planeApartUptoRow.holds Try.pinned (OpenSpec.upto planeApartSpec)

/-- 'kinoralaw06.PlaneHalves', WHERE WHAT IT READS IS OF BULK AT MOST 1048576: true; the input reads as it did. -/
def planeHalvesUptoRow : OpenClaim := { program := "ytlkogokhcdehfaa", sum := "6fc41b8963676f83c23dea49f9e994473ea0a1db853351c19d6bee111e571b80", func := "kinora/kinoralaw06.PlaneHalves", spec := "planeHalves", apart := false, narrowed := true }
def PlaneHalvesUptoSaid : Prop := planeHalvesUptoRow.holds Try.pinned (OpenSpec.upto planeHalvesSpec)

end Rows
end Go.Proofs.Ytlkogokhcdehfaa
