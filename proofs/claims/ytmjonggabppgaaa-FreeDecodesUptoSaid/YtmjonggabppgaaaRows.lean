/-
  No cell of these rows narrows 'for every input' (looked for: loops, veiled, ifaces, maps, wideKeys, modest, calm, conditions, laid).
  DERIVED. THE GIVEN ROWS OF THIS SEAT. 7 by the template 'for every input the law returns true; each argument reads behind the call as it read before'; 0 by the template 'total and deterministic' (their statements: YtmjonggabppgaaaTotals.lean).
  GIVEN WITH THE SEED: the statements are not yours to turn. If you find one false, say at which input.
  Laid BY PROGRAM, IN A SANDBOX (cutbox-rows.mjs): the forced cells as the released guide's own fill.sh prints them over the translation 9e0cdb41348a3537… (all of the seat's roots in one cut). By AI agents, Wed Nov 11 2026. No macro, syntax, notation, axiom, sorry.
-/
import Derived.Test.YtmjonggabppgaaaChecked
import GoSem.Claim
import GoSem.ClaimJoined
import GoSem.ClaimMapViews
import Derived.JoinedTies
import Derived.KernelRfl
namespace Go.Proofs.Ytmjonggabppgaaa
/- THE CELL 'sum', in the pinned program and in every row, IS THE sha256 OF THE DUMP (.gsa) THAT YtmjonggabppgaaaProg.lean LOADS. Nothing in Lean hashes anything: it is a label: what it is worth is what the hold of that sum in a sandbox is worth. -/
noncomputable def Try.pinned : Pinned := { name := "ytmjonggabppgaaa", sum := "9e0cdb41348a3537acb4ccbc4502af3a4d697673e0e8b56481ed03431ac22212", checked := Try.checked }
namespace Rows
def none {H : Type} : Left H := { results := [], args := [] }

/-- 'espalierlaw10.FreeNumbers': WHATEVER THE INPUT: true; the input reads as it did. -/
def freeNumbersSpec : ChangeSpec := { name := "freeNumbers", fn := fun _ => fun
  | [] => { results := [.lit (.bool true)], args := [] }
  | _ => none }
def freeNumbersRow : OpenClaim := { program := "ytmjonggabppgaaa", sum := "9e0cdb41348a3537acb4ccbc4502af3a4d697673e0e8b56481ed03431ac22212", func := "espalier/espalierlaw10.FreeNumbers", spec := "freeNumbers", inPlace := ["slices.overlaps[espalier/free.entry]"], unfollowed := true, recurses := true, apart := false }
def FreeNumbersSaid : Prop := freeNumbersRow.holds Try.pinned (OpenSpec.ofChange freeNumbersSpec)

/-- ITS FALSE NEIGHBOUR: 'it returns false'. Refute it at one input. -/
def freeNumbersWrong : ChangeSpec := { name := "freeNumbers", fn := fun _ => fun
  | [] => { results := [.lit (.bool false)], args := [] }
  | _ => none }
def FreeNumbersWrongFalsely : Prop := freeNumbersRow.holds Try.pinned (OpenSpec.ofChange freeNumbersWrong)

/-- 'espalierlaw10.FreeEncodes': WHATEVER THE INPUT: true; the input reads as it did. -/
def freeEncodesSpec : ChangeSpec := { name := "freeEncodes", fn := fun _ => fun
  | [d1, d2, d3] => { results := [.lit (.bool true)], args := [d1, d2, d3] }
  | _ => none }
def freeEncodesRow : OpenClaim := { program := "ytmjonggabppgaaa", sum := "9e0cdb41348a3537acb4ccbc4502af3a4d697673e0e8b56481ed03431ac22212", func := "espalier/espalierlaw10.FreeEncodes", spec := "freeEncodes", inPlace := ["slices.overlaps[espalier/free.entry]"], unfollowed := true, recurses := true, apart := false }
def FreeEncodesSaid : Prop := freeEncodesRow.holds Try.pinned (OpenSpec.ofChange freeEncodesSpec)

/-- ITS FALSE NEIGHBOUR: 'it returns false'. Refute it at one input. -/
def freeEncodesWrong : ChangeSpec := { name := "freeEncodes", fn := fun _ => fun
  | [d1, d2, d3] => { results := [.lit (.bool false)], args := [d1, d2, d3] }
  | _ => none }
def FreeEncodesWrongFalsely : Prop := freeEncodesRow.holds Try.pinned (OpenSpec.ofChange freeEncodesWrong)

/-- 'espalierlaw10.FreeDecodes': WHATEVER THE INPUT: true; the input reads as it did. -/
def freeDecodesSpec : ChangeSpec := { name := "freeDecodes", fn := fun _ => fun
  | [d] => { results := [.lit (.bool true)], args := [d] }
  | _ => none }
def freeDecodesRow : OpenClaim := { program := "ytmjonggabppgaaa", sum := "9e0cdb41348a3537acb4ccbc4502af3a4d697673e0e8b56481ed03431ac22212", func := "espalier/espalierlaw10.FreeDecodes", spec := "freeDecodes", inPlace := ["slices.overlaps[espalier/free.entry]"], unfollowed := true, recurses := true, apart := false }
def FreeDecodesSaid : Prop := freeDecodesRow.holds Try.pinned (OpenSpec.ofChange freeDecodesSpec)

/-- ITS FALSE NEIGHBOUR: 'it returns false'. Refute it at one input. -/
def freeDecodesWrong : ChangeSpec := { name := "freeDecodes", fn := fun _ => fun
  | [d] => { results := [.lit (.bool false)], args := [d] }
  | _ => none }
def FreeDecodesWrongFalsely : Prop := freeDecodesRow.holds Try.pinned (OpenSpec.ofChange freeDecodesWrong)

/-- 'espalierlaw10.FreeMakes': WHATEVER THE INPUT: true; the input reads as it did. -/
def freeMakesSpec : ChangeSpec := { name := "freeMakes", fn := fun _ => fun
  | [d] => { results := [.lit (.bool true)], args := [d] }
  | _ => none }
def freeMakesRow : OpenClaim := { program := "ytmjonggabppgaaa", sum := "9e0cdb41348a3537acb4ccbc4502af3a4d697673e0e8b56481ed03431ac22212", func := "espalier/espalierlaw10.FreeMakes", spec := "freeMakes", inPlace := ["slices.overlaps[espalier/free.entry]"], unfollowed := true, recurses := true, apart := false }
def FreeMakesSaid : Prop := freeMakesRow.holds Try.pinned (OpenSpec.ofChange freeMakesSpec)

/-- ITS FALSE NEIGHBOUR: 'it returns false'. Refute it at one input. -/
def freeMakesWrong : ChangeSpec := { name := "freeMakes", fn := fun _ => fun
  | [d] => { results := [.lit (.bool false)], args := [d] }
  | _ => none }
def FreeMakesWrongFalsely : Prop := freeMakesRow.holds Try.pinned (OpenSpec.ofChange freeMakesWrong)

/-- 'espalierlaw10.FreePlays': WHATEVER THE INPUT: true; the input reads as it did. -/
def freePlaysSpec : ChangeSpec := { name := "freePlays", fn := fun _ => fun
  | [d1, d2, d3] => { results := [.lit (.bool true)], args := [d1, d2, d3] }
  | _ => none }
def freePlaysRow : OpenClaim := { program := "ytmjonggabppgaaa", sum := "9e0cdb41348a3537acb4ccbc4502af3a4d697673e0e8b56481ed03431ac22212", func := "espalier/espalierlaw10.FreePlays", spec := "freePlays", inPlace := ["slices.overlaps[espalier/free.entry]"], unfollowed := true, recurses := true, apart := false }
def FreePlaysSaid : Prop := freePlaysRow.holds Try.pinned (OpenSpec.ofChange freePlaysSpec)

/-- ITS FALSE NEIGHBOUR: 'it returns false'. Refute it at one input. -/
def freePlaysWrong : ChangeSpec := { name := "freePlays", fn := fun _ => fun
  | [d1, d2, d3] => { results := [.lit (.bool false)], args := [d1, d2, d3] }
  | _ => none }
def FreePlaysWrongFalsely : Prop := freePlaysRow.holds Try.pinned (OpenSpec.ofChange freePlaysWrong)

/-- 'espalierlaw10.FreeOnce': WHATEVER THE INPUT: true; the input reads as it did. -/
def freeOnceSpec : ChangeSpec := { name := "freeOnce", fn := fun _ => fun
  | [d] => { results := [.lit (.bool true)], args := [d] }
  | _ => none }
def freeOnceRow : OpenClaim := { program := "ytmjonggabppgaaa", sum := "9e0cdb41348a3537acb4ccbc4502af3a4d697673e0e8b56481ed03431ac22212", func := "espalier/espalierlaw10.FreeOnce", spec := "freeOnce", inPlace := ["slices.overlaps[espalier/free.entry]"], unfollowed := true, recurses := true, apart := false }
def FreeOnceSaid : Prop := freeOnceRow.holds Try.pinned (OpenSpec.ofChange freeOnceSpec)

/-- ITS FALSE NEIGHBOUR: 'it returns false'. Refute it at one input. -/
def freeOnceWrong : ChangeSpec := { name := "freeOnce", fn := fun _ => fun
  | [d] => { results := [.lit (.bool false)], args := [d] }
  | _ => none }
def FreeOnceWrongFalsely : Prop := freeOnceRow.holds Try.pinned (OpenSpec.ofChange freeOnceWrong)

/-- 'espalierlaw10.FreeMarks': WHATEVER THE INPUT: true; the input reads as it did. -/
def freeMarksSpec : ChangeSpec := { name := "freeMarks", fn := fun _ => fun
  | [d1, d2, d3, d4] => { results := [.lit (.bool true)], args := [d1, d2, d3, d4] }
  | _ => none }
def freeMarksRow : OpenClaim := { program := "ytmjonggabppgaaa", sum := "9e0cdb41348a3537acb4ccbc4502af3a4d697673e0e8b56481ed03431ac22212", func := "espalier/espalierlaw10.FreeMarks", spec := "freeMarks", inPlace := ["slices.overlaps[espalier/free.entry]"], unfollowed := true, recurses := true, apart := false }
def FreeMarksSaid : Prop := freeMarksRow.holds Try.pinned (OpenSpec.ofChange freeMarksSpec)

/-- ITS FALSE NEIGHBOUR: 'it returns false'. Refute it at one input. -/
def freeMarksWrong : ChangeSpec := { name := "freeMarks", fn := fun _ => fun
  | [d1, d2, d3, d4] => { results := [.lit (.bool false)], args := [d1, d2, d3, d4] }
  | _ => none }
def FreeMarksWrongFalsely : Prop := freeMarksRow.holds Try.pinned (OpenSpec.ofChange freeMarksWrong)

/- THE SECOND FORM. 'bulk': how many values and letters a reading holds, each counted each time it is reached (what is shared counts as often as it is met; a slice's spare places count too). A statement '..UptoSaid' is the law's where the arguments, and the package variables that the reading takes, are together of bulk at most 1048576: NARROWER than '..Said'. Prove '..Said' where nothing that the law and all that it calls make is longer than what came in: it says more and counts as full. Else prove '..UptoSaid'. A law counts once. -/
mutual
def uptoBulk {H : Type} : DataW H → Nat
  | .lit (.string bytes) => bytes.length + 1
  | .lit _ => 1
  | .nil => 1
  | .ptr d => uptoBulk d + 1
  | .slice elems spare => uptoBulkAll elems + uptoBulkAll spare + 1
  | .agg parts => uptoBulkAll parts + 1
  | .iface _ d => uptoBulk d + 1
  | .map entries => uptoBulkEntries entries + 1
  | .held _ => 1
def uptoBulkAll {H : Type} : List (DataW H) → Nat
  | [] => 0
  | d :: r => uptoBulk d + uptoBulkAll r
def uptoBulkEntries {H : Type} : List (Lit × DataW H) → Nat
  | [] => 0
  | x :: r => uptoBulkEntry x + uptoBulkEntries r
def uptoBulkEntry {H : Type} : Lit × DataW H → Nat
  | (.string bytes, d) => bytes.length + uptoBulk d + 1
  | (_, d) => uptoBulk d + 1
 end
def uptoSmall : (H : Type) → List (DataW H) → Bool := fun _ ds => decide (uptoBulkAll ds ≤ 1048576)
def OpenSpec.upto (s : _root_.Go.ChangeSpec) : _root_.Go.OpenSpec := { _root_.Go.OpenSpec.ofChange s with cond := some uptoSmall }

/-- 'espalierlaw10.FreeNumbers', WHERE WHAT IT READS IS OF BULK AT MOST 1048576: true; the input reads as it did. -/
def freeNumbersUptoRow : OpenClaim := { program := "ytmjonggabppgaaa", sum := "9e0cdb41348a3537acb4ccbc4502af3a4d697673e0e8b56481ed03431ac22212", func := "espalier/espalierlaw10.FreeNumbers", spec := "freeNumbers", inPlace := ["slices.overlaps[espalier/free.entry]"], unfollowed := true, recurses := true, apart := false, narrowed := true }
def FreeNumbersUptoSaid : Prop := freeNumbersUptoRow.holds Try.pinned (OpenSpec.upto freeNumbersSpec)

/-- 'espalierlaw10.FreeEncodes', WHERE WHAT IT READS IS OF BULK AT MOST 1048576: true; the input reads as it did. -/
def freeEncodesUptoRow : OpenClaim := { program := "ytmjonggabppgaaa", sum := "9e0cdb41348a3537acb4ccbc4502af3a4d697673e0e8b56481ed03431ac22212", func := "espalier/espalierlaw10.FreeEncodes", spec := "freeEncodes", inPlace := ["slices.overlaps[espalier/free.entry]"], unfollowed := true, recurses := true, apart := false, narrowed := true }
def FreeEncodesUptoSaid : Prop := freeEncodesUptoRow.holds Try.pinned (OpenSpec.upto freeEncodesSpec)

/-- 'espalierlaw10.FreeDecodes', WHERE WHAT IT READS IS OF BULK AT MOST 1048576: true; the input reads as it did. -/
def freeDecodesUptoRow : OpenClaim := { program := "ytmjonggabppgaaa", sum := "9e0cdb41348a3537acb4ccbc4502af3a4d697673e0e8b56481ed03431ac22212", func := "espalier/espalierlaw10.FreeDecodes", spec := "freeDecodes", inPlace := ["slices.overlaps[espalier/free.entry]"], unfollowed := true, recurses := true, apart := false, narrowed := true }
def FreeDecodesUptoSaid : Prop := freeDecodesUptoRow.holds Try.pinned (OpenSpec.upto freeDecodesSpec)

/-- 'espalierlaw10.FreeMakes', WHERE WHAT IT READS IS OF BULK AT MOST 1048576: true; the input reads as it did. -/
def freeMakesUptoRow : OpenClaim := { program := "ytmjonggabppgaaa", sum := "9e0cdb41348a3537acb4ccbc4502af3a4d697673e0e8b56481ed03431ac22212", func := "espalier/espalierlaw10.FreeMakes", spec := "freeMakes", inPlace := ["slices.overlaps[espalier/free.entry]"], unfollowed := true, recurses := true, apart := false, narrowed := true }
def FreeMakesUptoSaid : Prop := freeMakesUptoRow.holds Try.pinned (OpenSpec.upto freeMakesSpec)

/-- 'espalierlaw10.FreePlays', WHERE WHAT IT READS IS OF BULK AT MOST 1048576: true; the input reads as it did. -/
def freePlaysUptoRow : OpenClaim := { program := "ytmjonggabppgaaa", sum := "9e0cdb41348a3537acb4ccbc4502af3a4d697673e0e8b56481ed03431ac22212", func := "espalier/espalierlaw10.FreePlays", spec := "freePlays", inPlace := ["slices.overlaps[espalier/free.entry]"], unfollowed := true, recurses := true, apart := false, narrowed := true }
def FreePlaysUptoSaid : Prop := freePlaysUptoRow.holds Try.pinned (OpenSpec.upto freePlaysSpec)

/-- 'espalierlaw10.FreeOnce', WHERE WHAT IT READS IS OF BULK AT MOST 1048576: true; the input reads as it did. -/
def freeOnceUptoRow : OpenClaim := { program := "ytmjonggabppgaaa", sum := "9e0cdb41348a3537acb4ccbc4502af3a4d697673e0e8b56481ed03431ac22212", func := "espalier/espalierlaw10.FreeOnce", spec := "freeOnce", inPlace := ["slices.overlaps[espalier/free.entry]"], unfollowed := true, recurses := true, apart := false, narrowed := true }
def FreeOnceUptoSaid : Prop := freeOnceUptoRow.holds Try.pinned (OpenSpec.upto freeOnceSpec)

/-- 'espalierlaw10.FreeMarks', WHERE WHAT IT READS IS OF BULK AT MOST 1048576: true; the input reads as it did. -/
def freeMarksUptoRow : OpenClaim := { program := "ytmjonggabppgaaa", sum := "9e0cdb41348a3537acb4ccbc4502af3a4d697673e0e8b56481ed03431ac22212", func := "espalier/espalierlaw10.FreeMarks", spec := "freeMarks", inPlace := ["slices.overlaps[espalier/free.entry]"], unfollowed := true, recurses := true, apart := false, narrowed := true }
def FreeMarksUptoSaid : Prop := freeMarksUptoRow.holds Try.pinned (OpenSpec.upto freeMarksSpec)

end Rows
end Go.Proofs.Ytmjonggabppgaaa
