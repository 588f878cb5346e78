/-
  No cell of these rows narrows 'for every input' (looked for: loops, veiled, ifaces, maps, wideKeys, modest, calm, conditions, laid).
  DERIVED. THE GIVEN ROWS OF THIS SEAT. 12 by the template 'for every input the law returns true; each argument reads behind the call as it read before'; 0 by the template 'total and deterministic' (their statements: YtmnoddmecghjdaaTotals.lean).
  GIVEN WITH THE SEED: the statements are not yours to turn. If you find one false, say at which input.
  Laid BY PROGRAM, IN A SANDBOX (cutbox-rows.mjs): the forced cells as the released guide's own fill.sh prints them over the translation 175ae519bea8e8e3… (all of the seat's roots in one cut). By AI agents, Wed Nov 11 2026. No macro, syntax, notation, axiom, sorry.
-/
import Derived.Test.YtmnoddmecghjdaaChecked
import GoSem.Claim
import GoSem.ClaimJoined
import GoSem.ClaimMapViews
import Derived.JoinedTies
import Derived.KernelRfl
namespace Go.Proofs.Ytmnoddmecghjdaa
/- THE CELL 'sum', in the pinned program and in every row, IS THE sha256 OF THE DUMP (.gsa) THAT YtmnoddmecghjdaaProg.lean LOADS. Nothing in Lean hashes anything: it is a label: what it is worth is what the hold of that sum in a sandbox is worth. -/
noncomputable def Try.pinned : Pinned := { name := "ytmnoddmecghjdaa", sum := "175ae519bea8e8e382e3d1193f2d4241449a0794b97b9e86197c3c8307c03d85", checked := Try.checked }
namespace Rows
def none {H : Type} : Left H := { results := [], args := [] }

/-- 'kinoralaw05.BookWrites': WHATEVER THE INPUT: true; the input reads as it did. -/
def bookWritesSpec : ChangeSpec := { name := "bookWrites", fn := fun _ => fun
  | [d] => { results := [.lit (.bool true)], args := [d] }
  | _ => none }
def bookWritesRow : OpenClaim := { program := "ytmnoddmecghjdaa", sum := "175ae519bea8e8e382e3d1193f2d4241449a0794b97b9e86197c3c8307c03d85", func := "kinora/kinoralaw05.BookWrites", spec := "bookWrites", apart := false }
def BookWritesSaid : Prop := bookWritesRow.holds Try.pinned (OpenSpec.ofChange bookWritesSpec)

/-- ITS FALSE NEIGHBOUR: 'it returns false'. Refute it at one input. -/
def bookWritesWrong : ChangeSpec := { name := "bookWrites", fn := fun _ => fun
  | [d] => { results := [.lit (.bool false)], args := [d] }
  | _ => none }
def BookWritesWrongFalsely : Prop := bookWritesRow.holds Try.pinned (OpenSpec.ofChange bookWritesWrong)

/-- 'kinoralaw05.BookReads': WHATEVER THE INPUT: true; the input reads as it did. -/
def bookReadsSpec : ChangeSpec := { name := "bookReads", fn := fun _ => fun
  | [d1, d2] => { results := [.lit (.bool true)], args := [d1, d2] }
  | _ => none }
def bookReadsRow : OpenClaim := { program := "ytmnoddmecghjdaa", sum := "175ae519bea8e8e382e3d1193f2d4241449a0794b97b9e86197c3c8307c03d85", func := "kinora/kinoralaw05.BookReads", spec := "bookReads", apart := false }
def BookReadsSaid : Prop := bookReadsRow.holds Try.pinned (OpenSpec.ofChange bookReadsSpec)

/-- ITS FALSE NEIGHBOUR: 'it returns false'. Refute it at one input. -/
def bookReadsWrong : ChangeSpec := { name := "bookReads", fn := fun _ => fun
  | [d1, d2] => { results := [.lit (.bool false)], args := [d1, d2] }
  | _ => none }
def BookReadsWrongFalsely : Prop := bookReadsRow.holds Try.pinned (OpenSpec.ofChange bookReadsWrong)

/-- 'kinoralaw05.BookTopics': WHATEVER THE INPUT: true; the input reads as it did. -/
def bookTopicsSpec : ChangeSpec := { name := "bookTopics", fn := fun _ => fun
  | [d1, d2] => { results := [.lit (.bool true)], args := [d1, d2] }
  | _ => none }
def bookTopicsRow : OpenClaim := { program := "ytmnoddmecghjdaa", sum := "175ae519bea8e8e382e3d1193f2d4241449a0794b97b9e86197c3c8307c03d85", func := "kinora/kinoralaw05.BookTopics", spec := "bookTopics", apart := false }
def BookTopicsSaid : Prop := bookTopicsRow.holds Try.pinned (OpenSpec.ofChange bookTopicsSpec)

/-- ITS FALSE NEIGHBOUR: 'it returns false'. Refute it at one input. -/
def bookTopicsWrong : ChangeSpec := { name := "bookTopics", fn := fun _ => fun
  | [d1, d2] => { results := [.lit (.bool false)], args := [d1, d2] }
  | _ => none }
def BookTopicsWrongFalsely : Prop := bookTopicsRow.holds Try.pinned (OpenSpec.ofChange bookTopicsWrong)

/-- 'kinoralaw05.BookLearns': WHATEVER THE INPUT: true; the input reads as it did. -/
def bookLearnsSpec : ChangeSpec := { name := "bookLearns", fn := fun _ => fun
  | [d1, d2] => { results := [.lit (.bool true)], args := [d1, d2] }
  | _ => none }
def bookLearnsRow : OpenClaim := { program := "ytmnoddmecghjdaa", sum := "175ae519bea8e8e382e3d1193f2d4241449a0794b97b9e86197c3c8307c03d85", func := "kinora/kinoralaw05.BookLearns", spec := "bookLearns", apart := false }
def BookLearnsSaid : Prop := bookLearnsRow.holds Try.pinned (OpenSpec.ofChange bookLearnsSpec)

/-- ITS FALSE NEIGHBOUR: 'it returns false'. Refute it at one input. -/
def bookLearnsWrong : ChangeSpec := { name := "bookLearns", fn := fun _ => fun
  | [d1, d2] => { results := [.lit (.bool false)], args := [d1, d2] }
  | _ => none }
def BookLearnsWrongFalsely : Prop := bookLearnsRow.holds Try.pinned (OpenSpec.ofChange bookLearnsWrong)

/-- 'kinoralaw05.BookBack': WHATEVER THE INPUT: true; the input reads as it did. -/
def bookBackSpec : ChangeSpec := { name := "bookBack", fn := fun _ => fun
  | [d] => { results := [.lit (.bool true)], args := [d] }
  | _ => none }
def bookBackRow : OpenClaim := { program := "ytmnoddmecghjdaa", sum := "175ae519bea8e8e382e3d1193f2d4241449a0794b97b9e86197c3c8307c03d85", func := "kinora/kinoralaw05.BookBack", spec := "bookBack", apart := false }
def BookBackSaid : Prop := bookBackRow.holds Try.pinned (OpenSpec.ofChange bookBackSpec)

/-- ITS FALSE NEIGHBOUR: 'it returns false'. Refute it at one input. -/
def bookBackWrong : ChangeSpec := { name := "bookBack", fn := fun _ => fun
  | [d] => { results := [.lit (.bool false)], args := [d] }
  | _ => none }
def BookBackWrongFalsely : Prop := bookBackRow.holds Try.pinned (OpenSpec.ofChange bookBackWrong)

/-- 'kinoralaw05.BookNil': WHATEVER THE INPUT: true; the input reads as it did. -/
def bookNilSpec : ChangeSpec := { name := "bookNil", fn := fun _ => fun
  | [d] => { results := [.lit (.bool true)], args := [d] }
  | _ => none }
def bookNilRow : OpenClaim := { program := "ytmnoddmecghjdaa", sum := "175ae519bea8e8e382e3d1193f2d4241449a0794b97b9e86197c3c8307c03d85", func := "kinora/kinoralaw05.BookNil", spec := "bookNil", apart := false }
def BookNilSaid : Prop := bookNilRow.holds Try.pinned (OpenSpec.ofChange bookNilSpec)

/-- ITS FALSE NEIGHBOUR: 'it returns false'. Refute it at one input. -/
def bookNilWrong : ChangeSpec := { name := "bookNil", fn := fun _ => fun
  | [d] => { results := [.lit (.bool false)], args := [d] }
  | _ => none }
def BookNilWrongFalsely : Prop := bookNilRow.holds Try.pinned (OpenSpec.ofChange bookNilWrong)

/-- 'kinoralaw08.QuantWrites': WHATEVER THE INPUT: true; the input reads as it did. -/
def quantWritesSpec : ChangeSpec := { name := "quantWrites", fn := fun _ => fun
  | [d1, d2] => { results := [.lit (.bool true)], args := [d1, d2] }
  | _ => none }
def quantWritesRow : OpenClaim := { program := "ytmnoddmecghjdaa", sum := "175ae519bea8e8e382e3d1193f2d4241449a0794b97b9e86197c3c8307c03d85", func := "kinora/kinoralaw08.QuantWrites", spec := "quantWrites", unfollowed := true, recurses := true, apart := false }
def QuantWritesSaid : Prop := quantWritesRow.holds Try.pinned (OpenSpec.ofChange quantWritesSpec)

/-- ITS FALSE NEIGHBOUR: 'it returns false'. Refute it at one input. -/
def quantWritesWrong : ChangeSpec := { name := "quantWrites", fn := fun _ => fun
  | [d1, d2] => { results := [.lit (.bool false)], args := [d1, d2] }
  | _ => none }
def QuantWritesWrongFalsely : Prop := quantWritesRow.holds Try.pinned (OpenSpec.ofChange quantWritesWrong)

/-- 'kinoralaw08.QuantReads': WHATEVER THE INPUT: true; the input reads as it did. -/
def quantReadsSpec : ChangeSpec := { name := "quantReads", fn := fun _ => fun
  | [d1, d2, d3] => { results := [.lit (.bool true)], args := [d1, d2, d3] }
  | _ => none }
def quantReadsRow : OpenClaim := { program := "ytmnoddmecghjdaa", sum := "175ae519bea8e8e382e3d1193f2d4241449a0794b97b9e86197c3c8307c03d85", func := "kinora/kinoralaw08.QuantReads", spec := "quantReads", unfollowed := true, recurses := true, apart := false }
def QuantReadsSaid : Prop := quantReadsRow.holds Try.pinned (OpenSpec.ofChange quantReadsSpec)

/-- ITS FALSE NEIGHBOUR: 'it returns false'. Refute it at one input. -/
def quantReadsWrong : ChangeSpec := { name := "quantReads", fn := fun _ => fun
  | [d1, d2, d3] => { results := [.lit (.bool false)], args := [d1, d2, d3] }
  | _ => none }
def QuantReadsWrongFalsely : Prop := quantReadsRow.holds Try.pinned (OpenSpec.ofChange quantReadsWrong)

/-- 'kinoralaw08.QuantNil': WHATEVER THE INPUT: true; the input reads as it did. -/
def quantNilSpec : ChangeSpec := { name := "quantNil", fn := fun _ => fun
  | [d1, d2] => { results := [.lit (.bool true)], args := [d1, d2] }
  | _ => none }
def quantNilRow : OpenClaim := { program := "ytmnoddmecghjdaa", sum := "175ae519bea8e8e382e3d1193f2d4241449a0794b97b9e86197c3c8307c03d85", func := "kinora/kinoralaw08.QuantNil", spec := "quantNil", unfollowed := true, recurses := true, apart := false }
def QuantNilSaid : Prop := quantNilRow.holds Try.pinned (OpenSpec.ofChange quantNilSpec)

/-- ITS FALSE NEIGHBOUR: 'it returns false'. Refute it at one input. -/
def quantNilWrong : ChangeSpec := { name := "quantNil", fn := fun _ => fun
  | [d1, d2] => { results := [.lit (.bool false)], args := [d1, d2] }
  | _ => none }
def QuantNilWrongFalsely : Prop := quantNilRow.holds Try.pinned (OpenSpec.ofChange quantNilWrong)

/-- 'kinoralaw08.QuantSteps': WHATEVER THE INPUT: true; the input reads as it did. -/
def quantStepsSpec : ChangeSpec := { name := "quantSteps", fn := fun _ => fun
  | [d1, d2, d3] => { results := [.lit (.bool true)], args := [d1, d2, d3] }
  | _ => none }
def quantStepsRow : OpenClaim := { program := "ytmnoddmecghjdaa", sum := "175ae519bea8e8e382e3d1193f2d4241449a0794b97b9e86197c3c8307c03d85", func := "kinora/kinoralaw08.QuantSteps", spec := "quantSteps", unfollowed := true, recurses := true, apart := false }
def QuantStepsSaid : Prop := quantStepsRow.holds Try.pinned (OpenSpec.ofChange quantStepsSpec)

/-- ITS FALSE NEIGHBOUR: 'it returns false'. Refute it at one input. -/
def quantStepsWrong : ChangeSpec := { name := "quantSteps", fn := fun _ => fun
  | [d1, d2, d3] => { results := [.lit (.bool false)], args := [d1, d2, d3] }
  | _ => none }
def QuantStepsWrongFalsely : Prop := quantStepsRow.holds Try.pinned (OpenSpec.ofChange quantStepsWrong)

/-- 'kinoralaw08.QuantBack': WHATEVER THE INPUT: true; the input reads as it did. -/
def quantBackSpec : ChangeSpec := { name := "quantBack", fn := fun _ => fun
  | [d1, d2] => { results := [.lit (.bool true)], args := [d1, d2] }
  | _ => none }
def quantBackRow : OpenClaim := { program := "ytmnoddmecghjdaa", sum := "175ae519bea8e8e382e3d1193f2d4241449a0794b97b9e86197c3c8307c03d85", func := "kinora/kinoralaw08.QuantBack", spec := "quantBack", unfollowed := true, recurses := true, apart := false }
def QuantBackSaid : Prop := quantBackRow.holds Try.pinned (OpenSpec.ofChange quantBackSpec)

/-- ITS FALSE NEIGHBOUR: 'it returns false'. Refute it at one input. -/
def quantBackWrong : ChangeSpec := { name := "quantBack", fn := fun _ => fun
  | [d1, d2] => { results := [.lit (.bool false)], args := [d1, d2] }
  | _ => none }
def QuantBackWrongFalsely : Prop := quantBackRow.holds Try.pinned (OpenSpec.ofChange quantBackWrong)

/-- 'kinoralaw08.QuantBlocks': WHATEVER THE INPUT: true; the input reads as it did. -/
def quantBlocksSpec : ChangeSpec := { name := "quantBlocks", fn := fun _ => fun
  | [d1, d2] => { results := [.lit (.bool true)], args := [d1, d2] }
  | _ => none }
def quantBlocksRow : OpenClaim := { program := "ytmnoddmecghjdaa", sum := "175ae519bea8e8e382e3d1193f2d4241449a0794b97b9e86197c3c8307c03d85", func := "kinora/kinoralaw08.QuantBlocks", spec := "quantBlocks", unfollowed := true, recurses := true, apart := false }
def QuantBlocksSaid : Prop := quantBlocksRow.holds Try.pinned (OpenSpec.ofChange quantBlocksSpec)

/-- ITS FALSE NEIGHBOUR: 'it returns false'. Refute it at one input. -/
def quantBlocksWrong : ChangeSpec := { name := "quantBlocks", fn := fun _ => fun
  | [d1, d2] => { results := [.lit (.bool false)], args := [d1, d2] }
  | _ => none }
def QuantBlocksWrongFalsely : Prop := quantBlocksRow.holds Try.pinned (OpenSpec.ofChange quantBlocksWrong)

/- THE SECOND FORM. 'bulk': how many values and letters a reading holds, each counted each time it is reached (what is shared counts as often as it is met; a slice's spare places count too). A statement '..UptoSaid' is the law's where the arguments, and the package variables that the reading takes, are together of bulk at most 1048576: NARROWER than '..Said'. Prove '..Said' where nothing that the law and all that it calls make is longer than what came in: it says more and counts as full. Else prove '..UptoSaid'. A law counts once. -/
mutual
def uptoBulk {H : Type} : DataW H → Nat
  | .lit (.string bytes) => bytes.length + 1
  | .lit _ => 1
  | .nil => 1
  | .ptr d => uptoBulk d + 1
  | .slice elems spare => uptoBulkAll elems + uptoBulkAll spare + 1
  | .agg parts => uptoBulkAll parts + 1
  | .iface _ d => uptoBulk d + 1
  | .map entries => uptoBulkEntries entries + 1
  | .held _ => 1
def uptoBulkAll {H : Type} : List (DataW H) → Nat
  | [] => 0
  | d :: r => uptoBulk d + uptoBulkAll r
def uptoBulkEntries {H : Type} : List (Lit × DataW H) → Nat
  | [] => 0
  | x :: r => uptoBulkEntry x + uptoBulkEntries r
def uptoBulkEntry {H : Type} : Lit × DataW H → Nat
  | (.string bytes, d) => bytes.length + uptoBulk d + 1
  | (_, d) => uptoBulk d + 1
 end
def uptoSmall : (H : Type) → List (DataW H) → Bool := fun _ ds => decide (uptoBulkAll ds ≤ 1048576)
def OpenSpec.upto (s : _root_.Go.ChangeSpec) : _root_.Go.OpenSpec := { _root_.Go.OpenSpec.ofChange s with cond := some uptoSmall }

/-- 'kinoralaw05.BookWrites', WHERE WHAT IT READS IS OF BULK AT MOST 1048576: true; the input reads as it did. -/
def bookWritesUptoRow : OpenClaim := { program := "ytmnoddmecghjdaa", sum := "175ae519bea8e8e382e3d1193f2d4241449a0794b97b9e86197c3c8307c03d85", func := "kinora/kinoralaw05.BookWrites", spec := "bookWrites", apart := false, narrowed := true }
def BookWritesUptoSaid : Prop := bookWritesUptoRow.holds Try.pinned (OpenSpec.upto bookWritesSpec)

/-- 'kinoralaw05.BookReads', WHERE WHAT IT READS IS OF BULK AT MOST 1048576: true; the input reads as it did. -/
def bookReadsUptoRow : OpenClaim := { program := "ytmnoddmecghjdaa", sum := "175ae519bea8e8e382e3d1193f2d4241449a0794b97b9e86197c3c8307c03d85", func := "kinora/kinoralaw05.BookReads", spec := "bookReads", apart := false, narrowed := true }
def BookReadsUptoSaid : Prop := bookReadsUptoRow.holds Try.pinned (OpenSpec.upto bookReadsSpec)

/-- 'kinoralaw05.BookTopics', WHERE WHAT IT READS IS OF BULK AT MOST 1048576: true; the input reads as it did. -/
def bookTopicsUptoRow : OpenClaim := { program := "ytmnoddmecghjdaa", sum := "175ae519bea8e8e382e3d1193f2d4241449a0794b97b9e86197c3c8307c03d85", func := "kinora/kinoralaw05.BookTopics", spec := "bookTopics", apart := false, narrowed := true }
def BookTopicsUptoSaid : Prop := bookTopicsUptoRow.holds Try.pinned (OpenSpec.upto bookTopicsSpec)

/-- 'kinoralaw05.BookLearns', WHERE WHAT IT READS IS OF BULK AT MOST 1048576: true; the input reads as it did. -/
def bookLearnsUptoRow : OpenClaim := { program := "ytmnoddmecghjdaa", sum := "175ae519bea8e8e382e3d1193f2d4241449a0794b97b9e86197c3c8307c03d85", func := "kinora/kinoralaw05.BookLearns", spec := "bookLearns", apart := false, narrowed := true }
def BookLearnsUptoSaid : Prop := bookLearnsUptoRow.holds Try.pinned (OpenSpec.upto bookLearnsSpec)

/-- 'kinoralaw05.BookBack', WHERE WHAT IT READS IS OF BULK AT MOST 1048576: true; the input reads as it did. -/
def bookBackUptoRow : OpenClaim := { program := "ytmnoddmecghjdaa", sum := "175ae519bea8e8e382e3d1193f2d4241449a0794b97b9e86197c3c8307c03d85", func := "kinora/kinoralaw05.BookBack", spec := "bookBack", apart := false, narrowed := true }
def BookBackUptoSaid : Prop := bookBackUptoRow.holds Try.pinned (OpenSpec.upto bookBackSpec)

/-- 'kinoralaw05.BookNil', WHERE WHAT IT READS IS OF BULK AT MOST 1048576: true; the input reads as it did. -/
def bookNilUptoRow : OpenClaim := { program := "ytmnoddmecghjdaa", sum := "175ae519bea8e8e382e3d1193f2d4241449a0794b97b9e86197c3c8307c03d85", func := "kinora/kinoralaw05.BookNil", spec := "bookNil", apart := false, narrowed := true }
def BookNilUptoSaid : Prop := bookNilUptoRow.holds Try.pinned (OpenSpec.upto bookNilSpec)

/-- 'kinoralaw08.QuantWrites', WHERE WHAT IT READS IS OF BULK AT MOST 1048576: true; the input reads as it did. -/
def quantWritesUptoRow : OpenClaim := { program := "ytmnoddmecghjdaa", sum := "175ae519bea8e8e382e3d1193f2d4241449a0794b97b9e86197c3c8307c03d85", func := "kinora/kinoralaw08.QuantWrites", spec := "quantWrites", unfollowed := true, recurses := true, apart := false, narrowed := true }
def QuantWritesUptoSaid : Prop := quantWritesUptoRow.holds Try.pinned (OpenSpec.upto quantWritesSpec)

/-- 'kinoralaw08.QuantReads', WHERE WHAT IT READS IS OF BULK AT MOST 1048576: true; the input reads as it did. -/
def quantReadsUptoRow : OpenClaim := { program := "ytmnoddmecghjdaa", sum := "175ae519bea8e8e382e3d1193f2d4241449a0794b97b9e86197c3c8307c03d85", func := "kinora/kinoralaw08.QuantReads", spec := "quantReads", unfollowed := true, recurses := true, apart := false, narrowed := true }
def QuantReadsUptoSaid : Prop := quantReadsUptoRow.holds Try.pinned (OpenSpec.upto quantReadsSpec)

/-- 'kinoralaw08.QuantNil', WHERE WHAT IT READS IS OF BULK AT MOST 1048576: true; the input reads as it did. -/
def quantNilUptoRow : OpenClaim := { program := "ytmnoddmecghjdaa", sum := "175ae519bea8e8e382e3d1193f2d4241449a0794b97b9e86197c3c8307c03d85", func := "kinora/kinoralaw08.QuantNil", spec := "quantNil", unfollowed := true, recurses := true, apart := false, narrowed := true }
def QuantNilUptoSaid : Prop := quantNilUptoRow.holds Try.pinned (OpenSpec.upto quantNilSpec)

/-- 'kinoralaw08.QuantSteps', WHERE WHAT IT READS IS OF BULK AT MOST 1048576: true; the input reads as it did. -/
def quantStepsUptoRow : OpenClaim := { program := "ytmnoddmecghjdaa", sum := "175ae519bea8e8e382e3d1193f2d4241449a0794b97b9e86197c3c8307c03d85", func := "kinora/kinoralaw08.QuantSteps", spec := "quantSteps", unfollowed := true, recurses := true, apart := false, narrowed := true }
def QuantStepsUptoSaid : Prop := quantStepsUptoRow.holds Try.pinned (OpenSpec.upto quantStepsSpec)

/-- 'kinoralaw08.QuantBack', WHERE WHAT IT READS IS OF BULK AT MOST 1048576: true; the input reads as it did. -/
def quantBackUptoRow : OpenClaim := { program := "ytmnoddmecghjdaa", sum := "175ae519bea8e8e382e3d1193f2d4241449a0794b97b9e86197c3c8307c03d85", func := "kinora/kinoralaw08.QuantBack", spec := "quantBack", unfollowed := true, recurses := true, apart := false, narrowed := true }
def QuantBackUptoSaid : Prop := quantBackUptoRow.holds Try.pinned (OpenSpec.upto quantBackSpec)

/-- 'kinoralaw08.QuantBlocks', WHERE WHAT IT READS IS OF BULK AT MOST 1048576: true; the input reads as it did. -/
def quantBlocksUptoRow : OpenClaim := { program := "ytmnoddmecghjdaa", sum := "175ae519bea8e8e382e3d1193f2d4241449a0794b97b9e86197c3c8307c03d85", func := "kinora/kinoralaw08.QuantBlocks", spec := "quantBlocks", unfollowed := true, recurses := true, apart := false, narrowed := true }
def QuantBlocksUptoSaid : Prop := quantBlocksUptoRow.holds Try.pinned (OpenSpec.upto quantBlocksSpec)

end Rows
end Go.Proofs.Ytmnoddmecghjdaa
