/-
  No cell of these rows narrows 'for every input' (looked for: loops, veiled, ifaces, maps, wideKeys, modest, calm, conditions, laid).
  DERIVED. THE GIVEN ROWS OF THIS SEAT. 10 by the template 'for every input the law returns true; each argument reads behind the call as it read before'; 0 by the template 'total and deterministic' (their statements: YtcojphdohpgjnaaTotals.lean).
  GIVEN WITH THE SEED: the statements are not yours to turn. If you find one false, say at which input.
  Laid BY PROGRAM, IN A SANDBOX (cutbox-rows.mjs): the forced cells as the released guide's own fill.sh prints them over the translation 073bbcd9ee291d29… (all of the seat's roots in one cut). By AI agents, Wed Nov 11 2026. No macro, syntax, notation, axiom, sorry.
-/
import Derived.Test.YtcojphdohpgjnaaChecked
import GoSem.Claim
import GoSem.ClaimJoined
import GoSem.ClaimMapViews
import Derived.JoinedTies
import Derived.KernelRfl
namespace Go.Proofs.Ytcojphdohpgjnaa
/- THE CELL 'sum', in the pinned program and in every row, IS THE sha256 OF THE DUMP (.gsa) THAT YtcojphdohpgjnaaProg.lean LOADS. Nothing in Lean hashes anything: it is a label: what it is worth is what the hold of that sum in a sandbox is worth. -/
noncomputable def Try.pinned : Pinned := { name := "ytcojphdohpgjnaa", sum := "073bbcd9ee291d29d0f089ac746567d3427f314c96b6edf5d7f4b13b31289bb1", checked := Try.checked }
namespace Rows
def none {H : Type} : Left H := { results := [], args := [] }

/-- 'kinoralaw09.IntraGuesses': WHATEVER THE INPUT: true; the input reads as it did. -/
def intraGuessesSpec : ChangeSpec := { name := "intraGuesses", fn := fun _ => fun
  | [d1, d2, d3] => { results := [.lit (.bool true)], args := [d1, d2, d3] }
  | _ => none }
def intraGuessesRow : OpenClaim := { program := "ytcojphdohpgjnaa", sum := "073bbcd9ee291d29d0f089ac746567d3427f314c96b6edf5d7f4b13b31289bb1", func := "kinora/kinoralaw09.IntraGuesses", spec := "intraGuesses", unfollowed := true, recurses := true, apart := false }
def IntraGuessesSaid : Prop := intraGuessesRow.holds Try.pinned (OpenSpec.ofChange intraGuessesSpec)

/-- ITS FALSE NEIGHBOUR: 'it returns false'. Refute it at one input. -/
def intraGuessesWrong : ChangeSpec := { name := "intraGuesses", fn := fun _ => fun
  | [d1, d2, d3] => { results := [.lit (.bool false)], args := [d1, d2, d3] }
  | _ => none }
def IntraGuessesWrongFalsely : Prop := intraGuessesRow.holds Try.pinned (OpenSpec.ofChange intraGuessesWrong)

/-- 'kinoralaw09.IntraChooses': WHATEVER THE INPUT: true; the input reads as it did. -/
def intraChoosesSpec : ChangeSpec := { name := "intraChooses", fn := fun _ => fun
  | [d1, d2, d3] => { results := [.lit (.bool true)], args := [d1, d2, d3] }
  | _ => none }
def intraChoosesRow : OpenClaim := { program := "ytcojphdohpgjnaa", sum := "073bbcd9ee291d29d0f089ac746567d3427f314c96b6edf5d7f4b13b31289bb1", func := "kinora/kinoralaw09.IntraChooses", spec := "intraChooses", unfollowed := true, recurses := true, apart := false }
def IntraChoosesSaid : Prop := intraChoosesRow.holds Try.pinned (OpenSpec.ofChange intraChoosesSpec)

/-- ITS FALSE NEIGHBOUR: 'it returns false'. Refute it at one input. -/
def intraChoosesWrong : ChangeSpec := { name := "intraChooses", fn := fun _ => fun
  | [d1, d2, d3] => { results := [.lit (.bool false)], args := [d1, d2, d3] }
  | _ => none }
def IntraChoosesWrongFalsely : Prop := intraChoosesRow.holds Try.pinned (OpenSpec.ofChange intraChoosesWrong)

/-- 'kinoralaw09.IntraAhead': WHATEVER THE INPUT: true; the input reads as it did. -/
def intraAheadSpec : ChangeSpec := { name := "intraAhead", fn := fun _ => fun
  | [d1, d2, d3] => { results := [.lit (.bool true)], args := [d1, d2, d3] }
  | _ => none }
def intraAheadRow : OpenClaim := { program := "ytcojphdohpgjnaa", sum := "073bbcd9ee291d29d0f089ac746567d3427f314c96b6edf5d7f4b13b31289bb1", func := "kinora/kinoralaw09.IntraAhead", spec := "intraAhead", unfollowed := true, recurses := true, apart := false }
def IntraAheadSaid : Prop := intraAheadRow.holds Try.pinned (OpenSpec.ofChange intraAheadSpec)

/-- ITS FALSE NEIGHBOUR: 'it returns false'. Refute it at one input. -/
def intraAheadWrong : ChangeSpec := { name := "intraAhead", fn := fun _ => fun
  | [d1, d2, d3] => { results := [.lit (.bool false)], args := [d1, d2, d3] }
  | _ => none }
def IntraAheadWrongFalsely : Prop := intraAheadRow.holds Try.pinned (OpenSpec.ofChange intraAheadWrong)

/-- 'kinoralaw09.IntraNearest': WHATEVER THE INPUT: true; the input reads as it did. -/
def intraNearestSpec : ChangeSpec := { name := "intraNearest", fn := fun _ => fun
  | [d1, d2, d3] => { results := [.lit (.bool true)], args := [d1, d2, d3] }
  | _ => none }
def intraNearestRow : OpenClaim := { program := "ytcojphdohpgjnaa", sum := "073bbcd9ee291d29d0f089ac746567d3427f314c96b6edf5d7f4b13b31289bb1", func := "kinora/kinoralaw09.IntraNearest", spec := "intraNearest", unfollowed := true, recurses := true, apart := false }
def IntraNearestSaid : Prop := intraNearestRow.holds Try.pinned (OpenSpec.ofChange intraNearestSpec)

/-- ITS FALSE NEIGHBOUR: 'it returns false'. Refute it at one input. -/
def intraNearestWrong : ChangeSpec := { name := "intraNearest", fn := fun _ => fun
  | [d1, d2, d3] => { results := [.lit (.bool false)], args := [d1, d2, d3] }
  | _ => none }
def IntraNearestWrongFalsely : Prop := intraNearestRow.holds Try.pinned (OpenSpec.ofChange intraNearestWrong)

/-- 'kinoralaw09.IntraRests': WHATEVER THE INPUT: true; the input reads as it did. -/
def intraRestsSpec : ChangeSpec := { name := "intraRests", fn := fun _ => fun
  | [d1, d2, d3] => { results := [.lit (.bool true)], args := [d1, d2, d3] }
  | _ => none }
def intraRestsRow : OpenClaim := { program := "ytcojphdohpgjnaa", sum := "073bbcd9ee291d29d0f089ac746567d3427f314c96b6edf5d7f4b13b31289bb1", func := "kinora/kinoralaw09.IntraRests", spec := "intraRests", unfollowed := true, recurses := true, apart := false }
def IntraRestsSaid : Prop := intraRestsRow.holds Try.pinned (OpenSpec.ofChange intraRestsSpec)

/-- ITS FALSE NEIGHBOUR: 'it returns false'. Refute it at one input. -/
def intraRestsWrong : ChangeSpec := { name := "intraRests", fn := fun _ => fun
  | [d1, d2, d3] => { results := [.lit (.bool false)], args := [d1, d2, d3] }
  | _ => none }
def IntraRestsWrongFalsely : Prop := intraRestsRow.holds Try.pinned (OpenSpec.ofChange intraRestsWrong)

/-- 'kinoralaw09.IntraFlat': WHATEVER THE INPUT: true; the input reads as it did. -/
def intraFlatSpec : ChangeSpec := { name := "intraFlat", fn := fun _ => fun
  | [d1, d2] => { results := [.lit (.bool true)], args := [d1, d2] }
  | _ => none }
def intraFlatRow : OpenClaim := { program := "ytcojphdohpgjnaa", sum := "073bbcd9ee291d29d0f089ac746567d3427f314c96b6edf5d7f4b13b31289bb1", func := "kinora/kinoralaw09.IntraFlat", spec := "intraFlat", unfollowed := true, recurses := true, apart := false }
def IntraFlatSaid : Prop := intraFlatRow.holds Try.pinned (OpenSpec.ofChange intraFlatSpec)

/-- ITS FALSE NEIGHBOUR: 'it returns false'. Refute it at one input. -/
def intraFlatWrong : ChangeSpec := { name := "intraFlat", fn := fun _ => fun
  | [d1, d2] => { results := [.lit (.bool false)], args := [d1, d2] }
  | _ => none }
def IntraFlatWrongFalsely : Prop := intraFlatRow.holds Try.pinned (OpenSpec.ofChange intraFlatWrong)

/-- 'kinoralaw10.MotionSearches': WHATEVER THE INPUT: true; the input reads as it did. -/
def motionSearchesSpec : ChangeSpec := { name := "motionSearches", fn := fun _ => fun
  | [d1, d2, d3] => { results := [.lit (.bool true)], args := [d1, d2, d3] }
  | _ => none }
def motionSearchesRow : OpenClaim := { program := "ytcojphdohpgjnaa", sum := "073bbcd9ee291d29d0f089ac746567d3427f314c96b6edf5d7f4b13b31289bb1", func := "kinora/kinoralaw10.MotionSearches", spec := "motionSearches", apart := false }
def MotionSearchesSaid : Prop := motionSearchesRow.holds Try.pinned (OpenSpec.ofChange motionSearchesSpec)

/-- ITS FALSE NEIGHBOUR: 'it returns false'. Refute it at one input. -/
def motionSearchesWrong : ChangeSpec := { name := "motionSearches", fn := fun _ => fun
  | [d1, d2, d3] => { results := [.lit (.bool false)], args := [d1, d2, d3] }
  | _ => none }
def MotionSearchesWrongFalsely : Prop := motionSearchesRow.holds Try.pinned (OpenSpec.ofChange motionSearchesWrong)

/-- 'kinoralaw10.MotionFound': WHATEVER THE INPUT: true; the input reads as it did. -/
def motionFoundSpec : ChangeSpec := { name := "motionFound", fn := fun _ => fun
  | [d1, d2, d3] => { results := [.lit (.bool true)], args := [d1, d2, d3] }
  | _ => none }
def motionFoundRow : OpenClaim := { program := "ytcojphdohpgjnaa", sum := "073bbcd9ee291d29d0f089ac746567d3427f314c96b6edf5d7f4b13b31289bb1", func := "kinora/kinoralaw10.MotionFound", spec := "motionFound", apart := false }
def MotionFoundSaid : Prop := motionFoundRow.holds Try.pinned (OpenSpec.ofChange motionFoundSpec)

/-- ITS FALSE NEIGHBOUR: 'it returns false'. Refute it at one input. -/
def motionFoundWrong : ChangeSpec := { name := "motionFound", fn := fun _ => fun
  | [d1, d2, d3] => { results := [.lit (.bool false)], args := [d1, d2, d3] }
  | _ => none }
def MotionFoundWrongFalsely : Prop := motionFoundRow.holds Try.pinned (OpenSpec.ofChange motionFoundWrong)

/-- 'kinoralaw10.MotionFlat': WHATEVER THE INPUT: true; the input reads as it did. -/
def motionFlatSpec : ChangeSpec := { name := "motionFlat", fn := fun _ => fun
  | [d1, d2, d3] => { results := [.lit (.bool true)], args := [d1, d2, d3] }
  | _ => none }
def motionFlatRow : OpenClaim := { program := "ytcojphdohpgjnaa", sum := "073bbcd9ee291d29d0f089ac746567d3427f314c96b6edf5d7f4b13b31289bb1", func := "kinora/kinoralaw10.MotionFlat", spec := "motionFlat", apart := false }
def MotionFlatSaid : Prop := motionFlatRow.holds Try.pinned (OpenSpec.ofChange motionFlatSpec)

/-- ITS FALSE NEIGHBOUR: 'it returns false'. Refute it at one input. -/
def motionFlatWrong : ChangeSpec := { name := "motionFlat", fn := fun _ => fun
  | [d1, d2, d3] => { results := [.lit (.bool false)], args := [d1, d2, d3] }
  | _ => none }
def MotionFlatWrongFalsely : Prop := motionFlatRow.holds Try.pinned (OpenSpec.ofChange motionFlatWrong)

/-- 'kinoralaw10.MotionWhole': WHATEVER THE INPUT: true; the input reads as it did. -/
def motionWholeSpec : ChangeSpec := { name := "motionWhole", fn := fun _ => fun
  | [d1, d2, d3] => { results := [.lit (.bool true)], args := [d1, d2, d3] }
  | _ => none }
def motionWholeRow : OpenClaim := { program := "ytcojphdohpgjnaa", sum := "073bbcd9ee291d29d0f089ac746567d3427f314c96b6edf5d7f4b13b31289bb1", func := "kinora/kinoralaw10.MotionWhole", spec := "motionWhole", apart := false }
def MotionWholeSaid : Prop := motionWholeRow.holds Try.pinned (OpenSpec.ofChange motionWholeSpec)

/-- ITS FALSE NEIGHBOUR: 'it returns false'. Refute it at one input. -/
def motionWholeWrong : ChangeSpec := { name := "motionWhole", fn := fun _ => fun
  | [d1, d2, d3] => { results := [.lit (.bool false)], args := [d1, d2, d3] }
  | _ => none }
def MotionWholeWrongFalsely : Prop := motionWholeRow.holds Try.pinned (OpenSpec.ofChange motionWholeWrong)

/- THE SECOND FORM. 'bulk': how many values and letters a reading holds, each counted each time it is reached (what is shared counts as often as it is met; a slice's spare places count too). A statement '..UptoSaid' is the law's where the arguments, and the package variables that the reading takes, are together of bulk at most 1048576: NARROWER than '..Said'. Prove '..Said' where nothing that the law and all that it calls make is longer than what came in: it says more and counts as full. Else prove '..UptoSaid'. A law counts once. -/
mutual
def uptoBulk {H : Type} : DataW H → Nat
  | .lit (.string bytes) => bytes.length + 1
  | .lit _ => 1
  | .nil => 1
  | .ptr d => uptoBulk d + 1
  | .slice elems spare => uptoBulkAll elems + uptoBulkAll spare + 1
  | .agg parts => uptoBulkAll parts + 1
  | .iface _ d => uptoBulk d + 1
  | .map entries => uptoBulkEntries entries + 1
  | .held _ => 1
def uptoBulkAll {H : Type} : List (DataW H) → Nat
  | [] => 0
  | d :: r => uptoBulk d + uptoBulkAll r
def uptoBulkEntries {H : Type} : List (Lit × DataW H) → Nat
  | [] => 0
  | x :: r => uptoBulkEntry x + uptoBulkEntries r
def uptoBulkEntry {H : Type} : Lit × DataW H → Nat
  | (.string bytes, d) => bytes.length + uptoBulk d + 1
  | (_, d) => uptoBulk d + 1
 end
def uptoSmall : (H : Type) → List (DataW H) → Bool := fun _ ds => decide (uptoBulkAll ds ≤ 1048576)
def OpenSpec.upto (s : _root_.Go.ChangeSpec) : _root_.Go.OpenSpec := { _root_.Go.OpenSpec.ofChange s with cond := some uptoSmall }

/-- 'kinoralaw09.IntraGuesses', WHERE WHAT IT READS IS OF BULK AT MOST 1048576: true; the input reads as it did. -/
def intraGuessesUptoRow : OpenClaim := { program := "ytcojphdohpgjnaa", sum := "073bbcd9ee291d29d0f089ac746567d3427f314c96b6edf5d7f4b13b31289bb1", func := "kinora/kinoralaw09.IntraGuesses", spec := "intraGuesses", unfollowed := true, recurses := true, apart := false, narrowed := true }
def IntraGuessesUptoSaid : Prop := intraGuessesUptoRow.holds Try.pinned (OpenSpec.upto intraGuessesSpec)

/-- 'kinoralaw09.IntraChooses', WHERE WHAT IT READS IS OF BULK AT MOST 1048576: true; the input reads as it did. -/
def intraChoosesUptoRow : OpenClaim := { program := "ytcojphdohpgjnaa", sum := "073bbcd9ee291d29d0f089ac746567d3427f314c96b6edf5d7f4b13b31289bb1", func := "kinora/kinoralaw09.IntraChooses", spec := "intraChooses", unfollowed := true, recurses := true, apart := false, narrowed := true }
def IntraChoosesUptoSaid : Prop := intraChoosesUptoRow.holds Try.pinned (OpenSpec.upto intraChoosesSpec)

/-- 'kinoralaw09.IntraAhead', WHERE WHAT IT READS IS OF BULK AT MOST 1048576: true; the input reads as it did. -/
def intraAheadUptoRow : OpenClaim := { program := "ytcojphdohpgjnaa", sum := "073bbcd9ee291d29d0f089ac746567d3427f314c96b6edf5d7f4b13b31289bb1", func := "kinora/kinoralaw09.IntraAhead", spec := "intraAhead", unfollowed := true, recurses := true, apart := false, narrowed := true }
def IntraAheadUptoSaid : Prop := intraAheadUptoRow.holds Try.pinned (OpenSpec.upto intraAheadSpec)

/-- 'kinoralaw09.IntraNearest', WHERE WHAT IT READS IS OF BULK AT MOST 1048576: true; the input reads as it did. -/
def intraNearestUptoRow : OpenClaim := { program := "ytcojphdohpgjnaa", sum := "073bbcd9ee291d29d0f089ac746567d3427f314c96b6edf5d7f4b13b31289bb1", func := "kinora/kinoralaw09.IntraNearest", spec := "intraNearest", unfollowed := true, recurses := true, apart := false, narrowed := true }
def IntraNearestUptoSaid : Prop := intraNearestUptoRow.holds Try.pinned (OpenSpec.upto intraNearestSpec)

/-- 'kinoralaw09.IntraRests', WHERE WHAT IT READS IS OF BULK AT MOST 1048576: true; the input reads as it did. -/
def intraRestsUptoRow : OpenClaim := { program := "ytcojphdohpgjnaa", sum := "073bbcd9ee291d29d0f089ac746567d3427f314c96b6edf5d7f4b13b31289bb1", func := "kinora/kinoralaw09.IntraRests", spec := "intraRests", unfollowed := true, recurses := true, apart := false, narrowed := true }
def IntraRestsUptoSaid : Prop := intraRestsUptoRow.holds Try.pinned (OpenSpec.upto intraRestsSpec)

/-- 'kinoralaw09.IntraFlat', WHERE WHAT IT READS IS OF BULK AT MOST 1048576: true; the input reads as it did. -/
def intraFlatUptoRow : OpenClaim := { program := "ytcojphdohpgjnaa", sum := "073bbcd9ee291d29d0f089ac746567d3427f314c96b6edf5d7f4b13b31289bb1", func := "kinora/kinoralaw09.IntraFlat", spec := "intraFlat", unfollowed := true, recurses := true, apart := false, narrowed := true }
def IntraFlatUptoSaid : Prop := intraFlatUptoRow.holds Try.pinned (OpenSpec.upto intraFlatSpec)

/-- 'kinoralaw10.MotionSearches', WHERE WHAT IT READS IS OF BULK AT MOST 1048576: true; the input reads as it did. -/
def motionSearchesUptoRow : OpenClaim := { program := "ytcojphdohpgjnaa", sum := "073bbcd9ee291d29d0f089ac746567d3427f314c96b6edf5d7f4b13b31289bb1", func := "kinora/kinoralaw10.MotionSearches", spec := "motionSearches", apart := false, narrowed := true }
def MotionSearchesUptoSaid : Prop := motionSearchesUptoRow.holds Try.pinned (OpenSpec.upto motionSearchesSpec)

/-- 'kinoralaw10.MotionFound', WHERE WHAT IT READS IS OF BULK AT MOST 1048576: true; the input reads as it did. -/
def motionFoundUptoRow : OpenClaim := { program := "ytcojphdohpgjnaa", sum := "073bbcd9ee291d29d0f089ac746567d3427f314c96b6edf5d7f4b13b31289bb1", func := "kinora/kinoralaw10.MotionFound", spec := "motionFound", apart := false, narrowed := true }
def MotionFoundUptoSaid : Prop := motionFoundUptoRow.holds Try.pinned (OpenSpec.upto motionFoundSpec)

/-- 'kinoralaw10.MotionFlat', WHERE WHAT IT READS IS OF BULK AT MOST 1048576: true; the input reads as it did. -/
def motionFlatUptoRow : OpenClaim := { program := "ytcojphdohpgjnaa", sum := "073bbcd9ee291d29d0f089ac746567d3427f314c96b6edf5d7f4b13b31289bb1", func := "kinora/kinoralaw10.MotionFlat", spec := "motionFlat", apart := false, narrowed := true }
def MotionFlatUptoSaid : Prop := motionFlatUptoRow.holds Try.pinned (OpenSpec.upto motionFlatSpec)

/-- 'kinoralaw10.MotionWhole', WHERE WHAT IT READS IS OF BULK AT MOST 1048576: true; the input reads as it did. -/
def motionWholeUptoRow : OpenClaim := { program := "ytcojphdohpgjnaa", sum := "073bbcd9ee291d29d0f089ac746567d3427f314c96b6edf5d7f4b13b31289bb1", func := "kinora/kinoralaw10.MotionWhole", spec := "motionWhole", apart := false, narrowed := true }
def MotionWholeUptoSaid : Prop := motionWholeUptoRow.holds Try.pinned (OpenSpec.upto motionWholeSpec)

end Rows
end Go.Proofs.Ytcojphdohpgjnaa
