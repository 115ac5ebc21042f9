/-
  No cell of these rows narrows 'for every input' (looked for: loops, veiled, ifaces, maps, wideKeys, modest, calm, conditions, laid).
  DERIVED. THE GIVEN ROWS OF THIS SEAT. 5 by the template 'for every input the law returns true; each argument reads behind the call as it read before'; 0 by the template 'total and deterministic' (their statements: YtenddihggaehfaaGreatTotals.lean).
  GIVEN WITH THE SEED: the statements are not yours to turn. If you find one false, say at which input.
  Laid BY PROGRAM, IN A SANDBOX (cutbox-rows.mjs): the forced cells as the released guide's own fill.sh prints them over the translation f9629b17e1a65228… (all of the seat's roots in one cut). By AI agents, Wed Nov 11 2026. No macro, syntax, notation, axiom, sorry.
-/
import Derived.Test.YtenddihggaehfaaGreatChecked
import GoSem.Claim
import GoSem.ClaimJoined
import GoSem.ClaimMapViews
import Derived.JoinedTies
import Derived.KernelRfl
namespace Go.Proofs.YtenddihggaehfaaGreat
/- THE CELL 'sum', in the pinned program and in every row, IS THE sha256 OF THE DUMP (.gsa) THAT YtenddihggaehfaaGreatProg.lean LOADS. Nothing in Lean hashes anything: it is a label: what it is worth is what the hold of that sum in a sandbox is worth. -/
noncomputable def Tryz.pinned : Pinned := { name := "ytenddihggaehfaagreat", sum := "f9629b17e1a65228833e561f988e02c80bbf8f75bc3e241e99b843c5bb99882f", checked := Tryz.checked }
namespace Rows
def none {H : Type} : Left H := { results := [], args := [] }

/-- 'espalierlaw13.CursorNumbers': WHATEVER THE INPUT: true; the input reads as it did. -/
def cursorNumbersSpec : ChangeSpec := { name := "cursorNumbers", fn := fun _ => fun
  | [] => { results := [.lit (.bool true)], args := [] }
  | _ => none }
def cursorNumbersRow : OpenClaim := { program := "ytenddihggaehfaagreat", sum := "f9629b17e1a65228833e561f988e02c80bbf8f75bc3e241e99b843c5bb99882f", func := "espalier/espalierlaw13.CursorNumbers", spec := "cursorNumbers", inPlace := ["internal/bytealg.Compare"], unfollowed := true, recurses := true, apart := false }
def CursorNumbersSaid : Prop := cursorNumbersRow.holds Tryz.pinned (OpenSpec.ofChange cursorNumbersSpec)

/-- ITS FALSE NEIGHBOUR: 'it returns false'. Refute it at one input. -/
def cursorNumbersWrong : ChangeSpec := { name := "cursorNumbers", fn := fun _ => fun
  | [] => { results := [.lit (.bool false)], args := [] }
  | _ => none }
def CursorNumbersWrongFalsely : Prop := cursorNumbersRow.holds Tryz.pinned (OpenSpec.ofChange cursorNumbersWrong)

/-- 'espalierlaw14.BulkNames': WHATEVER THE INPUT: true; the input reads as it did. -/
def bulkNamesSpec : ChangeSpec := { name := "bulkNames", fn := fun _ => fun
  | [] => { results := [.lit (.bool true)], args := [] }
  | _ => none }
def bulkNamesRow : OpenClaim := { program := "ytenddihggaehfaagreat", sum := "f9629b17e1a65228833e561f988e02c80bbf8f75bc3e241e99b843c5bb99882f", func := "espalier/espalierlaw14.BulkNames", spec := "bulkNames", inPlace := ["internal/bytealg.Compare"], unfollowed := true, recurses := true, apart := false }
def BulkNamesSaid : Prop := bulkNamesRow.holds Tryz.pinned (OpenSpec.ofChange bulkNamesSpec)

/-- ITS FALSE NEIGHBOUR: 'it returns false'. Refute it at one input. -/
def bulkNamesWrong : ChangeSpec := { name := "bulkNames", fn := fun _ => fun
  | [] => { results := [.lit (.bool false)], args := [] }
  | _ => none }
def BulkNamesWrongFalsely : Prop := bulkNamesRow.holds Tryz.pinned (OpenSpec.ofChange bulkNamesWrong)

/-- 'espalierlaw11.PagerNames': WHATEVER THE INPUT: true; the input reads as it did. -/
def pagerNamesSpec : ChangeSpec := { name := "pagerNames", fn := fun _ => fun
  | [] => { results := [.lit (.bool true)], args := [] }
  | _ => none }
def pagerNamesRow : OpenClaim := { program := "ytenddihggaehfaagreat", sum := "f9629b17e1a65228833e561f988e02c80bbf8f75bc3e241e99b843c5bb99882f", func := "espalier/espalierlaw11.PagerNames", spec := "pagerNames", inPlace := ["slices.overlaps[espalier/free.entry]"], unfollowed := true, recurses := true, apart := false }
def PagerNamesSaid : Prop := pagerNamesRow.holds Tryz.pinned (OpenSpec.ofChange pagerNamesSpec)

/-- ITS FALSE NEIGHBOUR: 'it returns false'. Refute it at one input. -/
def pagerNamesWrong : ChangeSpec := { name := "pagerNames", fn := fun _ => fun
  | [] => { results := [.lit (.bool false)], args := [] }
  | _ => none }
def PagerNamesWrongFalsely : Prop := pagerNamesRow.holds Tryz.pinned (OpenSpec.ofChange pagerNamesWrong)

/-- 'espalierlaw12.TreeNames': WHATEVER THE INPUT: true; the input reads as it did. -/
def treeNamesSpec : ChangeSpec := { name := "treeNames", fn := fun _ => fun
  | [] => { results := [.lit (.bool true)], args := [] }
  | _ => none }
def treeNamesRow : OpenClaim := { program := "ytenddihggaehfaagreat", sum := "f9629b17e1a65228833e561f988e02c80bbf8f75bc3e241e99b843c5bb99882f", func := "espalier/espalierlaw12.TreeNames", spec := "treeNames", inPlace := ["internal/bytealg.Compare"], unfollowed := true, recurses := true, apart := false }
def TreeNamesSaid : Prop := treeNamesRow.holds Tryz.pinned (OpenSpec.ofChange treeNamesSpec)

/-- ITS FALSE NEIGHBOUR: 'it returns false'. Refute it at one input. -/
def treeNamesWrong : ChangeSpec := { name := "treeNames", fn := fun _ => fun
  | [] => { results := [.lit (.bool false)], args := [] }
  | _ => none }
def TreeNamesWrongFalsely : Prop := treeNamesRow.holds Tryz.pinned (OpenSpec.ofChange treeNamesWrong)

/-- 'espalierlaw12.TreeNeeds': WHATEVER THE INPUT: true; the input reads as it did. -/
def treeNeedsSpec : ChangeSpec := { name := "treeNeeds", fn := fun _ => fun
  | [d] => { results := [.lit (.bool true)], args := [d] }
  | _ => none }
def treeNeedsRow : OpenClaim := { program := "ytenddihggaehfaagreat", sum := "f9629b17e1a65228833e561f988e02c80bbf8f75bc3e241e99b843c5bb99882f", func := "espalier/espalierlaw12.TreeNeeds", spec := "treeNeeds", inPlace := ["internal/bytealg.Compare"], unfollowed := true, recurses := true, apart := false }
def TreeNeedsSaid : Prop := treeNeedsRow.holds Tryz.pinned (OpenSpec.ofChange treeNeedsSpec)

/-- ITS FALSE NEIGHBOUR: 'it returns false'. Refute it at one input. -/
def treeNeedsWrong : ChangeSpec := { name := "treeNeeds", fn := fun _ => fun
  | [d] => { results := [.lit (.bool false)], args := [d] }
  | _ => none }
def TreeNeedsWrongFalsely : Prop := treeNeedsRow.holds Tryz.pinned (OpenSpec.ofChange treeNeedsWrong)

/- THE SECOND FORM. 'bulk': how many values and letters a reading holds, each counted each time it is reached (what is shared counts as often as it is met; a slice's spare places count too). A statement '..UptoSaid' is the law's where the arguments, and the package variables that the reading takes, are together of bulk at most 1048576: NARROWER than '..Said'. Prove '..Said' where nothing that the law and all that it calls make is longer than what came in: it says more and counts as full. Else prove '..UptoSaid'. A law counts once. -/
mutual
def uptoBulk {H : Type} : DataW H → Nat
  | .lit (.string bytes) => bytes.length + 1
  | .lit _ => 1
  | .nil => 1
  | .ptr d => uptoBulk d + 1
  | .slice elems spare => uptoBulkAll elems + uptoBulkAll spare + 1
  | .agg parts => uptoBulkAll parts + 1
  | .iface _ d => uptoBulk d + 1
  | .map entries => uptoBulkEntries entries + 1
  | .held _ => 1
def uptoBulkAll {H : Type} : List (DataW H) → Nat
  | [] => 0
  | d :: r => uptoBulk d + uptoBulkAll r
def uptoBulkEntries {H : Type} : List (Lit × DataW H) → Nat
  | [] => 0
  | x :: r => uptoBulkEntry x + uptoBulkEntries r
def uptoBulkEntry {H : Type} : Lit × DataW H → Nat
  | (.string bytes, d) => bytes.length + uptoBulk d + 1
  | (_, d) => uptoBulk d + 1
 end
def uptoSmall : (H : Type) → List (DataW H) → Bool := fun _ ds => decide (uptoBulkAll ds ≤ 1048576)
def OpenSpec.upto (s : _root_.Go.ChangeSpec) : _root_.Go.OpenSpec := { _root_.Go.OpenSpec.ofChange s with cond := some uptoSmall }

/-- 'espalierlaw13.CursorNumbers', WHERE WHAT IT READS IS OF BULK AT MOST 1048576: true; the input reads as it did. -/
def cursorNumbersUptoRow : OpenClaim := { program := "ytenddihggaehfaagreat", sum := "f9629b17e1a65228833e561f988e02c80bbf8f75bc3e241e99b843c5bb99882f", func := "espalier/espalierlaw13.CursorNumbers", spec := "cursorNumbers", inPlace := ["internal/bytealg.Compare"], unfollowed := true, recurses := true, apart := false, narrowed := true }
def CursorNumbersUptoSaid : Prop := cursorNumbersUptoRow.holds Tryz.pinned (OpenSpec.upto cursorNumbersSpec)

/-- 'espalierlaw14.BulkNames', WHERE WHAT IT READS IS OF BULK AT MOST 1048576: true; the input reads as it did. -/
def bulkNamesUptoRow : OpenClaim := { program := "ytenddihggaehfaagreat", sum := "f9629b17e1a65228833e561f988e02c80bbf8f75bc3e241e99b843c5bb99882f", func := "espalier/espalierlaw14.BulkNames", spec := "bulkNames", inPlace := ["internal/bytealg.Compare"], unfollowed := true, recurses := true, apart := false, narrowed := true }
def BulkNamesUptoSaid : Prop := bulkNamesUptoRow.holds Tryz.pinned (OpenSpec.upto bulkNamesSpec)

/-- 'espalierlaw11.PagerNames', WHERE WHAT IT READS IS OF BULK AT MOST 1048576: true; the input reads as it did. -/
def pagerNamesUptoRow : OpenClaim := { program := "ytenddihggaehfaagreat", sum := "f9629b17e1a65228833e561f988e02c80bbf8f75bc3e241e99b843c5bb99882f", func := "espalier/espalierlaw11.PagerNames", spec := "pagerNames", inPlace := ["slices.overlaps[espalier/free.entry]"], unfollowed := true, recurses := true, apart := false, narrowed := true }
def PagerNamesUptoSaid : Prop := pagerNamesUptoRow.holds Tryz.pinned (OpenSpec.upto pagerNamesSpec)

/-- 'espalierlaw12.TreeNames', WHERE WHAT IT READS IS OF BULK AT MOST 1048576: true; the input reads as it did. -/
def treeNamesUptoRow : OpenClaim := { program := "ytenddihggaehfaagreat", sum := "f9629b17e1a65228833e561f988e02c80bbf8f75bc3e241e99b843c5bb99882f", func := "espalier/espalierlaw12.TreeNames", spec := "treeNames", inPlace := ["internal/bytealg.Compare"], unfollowed := true, recurses := true, apart := false, narrowed := true }
def TreeNamesUptoSaid : Prop := treeNamesUptoRow.holds Tryz.pinned (OpenSpec.upto treeNamesSpec)

/-- 'espalierlaw12.TreeNeeds', WHERE WHAT IT READS IS OF BULK AT MOST 1048576: true; the input reads as it did. -/
def treeNeedsUptoRow : OpenClaim := { program := "ytenddihggaehfaagreat", sum := "f9629b17e1a65228833e561f988e02c80bbf8f75bc3e241e99b843c5bb99882f", func := "espalier/espalierlaw12.TreeNeeds", spec := "treeNeeds", inPlace := ["internal/bytealg.Compare"], unfollowed := true, recurses := true, apart := false, narrowed := true }
def TreeNeedsUptoSaid : Prop := treeNeedsUptoRow.holds Tryz.pinned (OpenSpec.upto treeNeedsSpec)

end Rows
end Go.Proofs.YtenddihggaehfaaGreat
