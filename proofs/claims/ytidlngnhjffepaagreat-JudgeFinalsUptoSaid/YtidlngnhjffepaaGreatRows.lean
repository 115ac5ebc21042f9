/-
  No cell of these rows narrows 'for every input' (looked for: loops, veiled, ifaces, maps, wideKeys, modest, calm, conditions, laid).
  DERIVED. THE GIVEN ROWS OF THIS SEAT. 3 by the template 'for every input the law returns true; each argument reads behind the call as it read before'; 0 by the template 'total and deterministic' (their statements: YtidlngnhjffepaaGreatTotals.lean).
  GIVEN WITH THE SEED: the statements are not yours to turn. If you find one false, say at which input.
  Laid BY PROGRAM, IN A SANDBOX (cutbox-rows.mjs): the forced cells as the released guide's own fill.sh prints them over the translation d14eadaed98773a2… (all of the seat's roots in one cut). By AI agents, Wed Nov 11 2026. No macro, syntax, notation, axiom, sorry.
-/
import Derived.Test.YtidlngnhjffepaaGreatChecked
import GoSem.Claim
import GoSem.ClaimJoined
import GoSem.ClaimMapViews
import Derived.JoinedTies
import Derived.KernelRfl
namespace Go.Proofs.YtidlngnhjffepaaGreat
/- THE CELL 'sum', in the pinned program and in every row, IS THE sha256 OF THE DUMP (.gsa) THAT YtidlngnhjffepaaGreatProg.lean LOADS. Nothing in Lean hashes anything: it is a label: what it is worth is what the hold of that sum in a sandbox is worth. -/
noncomputable def Tryz.pinned : Pinned := { name := "ytidlngnhjffepaagreat", sum := "d14eadaed98773a217181cebc058ef9a8840dd386322747a59e4ffced894bfe8", checked := Tryz.checked }
namespace Rows
def none {H : Type} : Left H := { results := [], args := [] }

/-- 'espalierlaw28.JudgeSerials': WHATEVER THE INPUT: true; the input reads as it did. -/
def judgeSerialsSpec : ChangeSpec := { name := "judgeSerials", fn := fun _ => fun
  | [d1, d2] => { results := [.lit (.bool true)], args := [d1, d2] }
  | _ => none }
def judgeSerialsRow : OpenClaim := { program := "ytidlngnhjffepaagreat", sum := "d14eadaed98773a217181cebc058ef9a8840dd386322747a59e4ffced894bfe8", func := "espalier/espalierlaw28.JudgeSerials", spec := "judgeSerials", inPlace := ["maps.clone"], unfollowed := true, recurses := true, apart := false }
def JudgeSerialsSaid : Prop := judgeSerialsRow.holds Tryz.pinned (OpenSpec.ofChange judgeSerialsSpec)

/-- ITS FALSE NEIGHBOUR: 'it returns false'. Refute it at one input. -/
def judgeSerialsWrong : ChangeSpec := { name := "judgeSerials", fn := fun _ => fun
  | [d1, d2] => { results := [.lit (.bool false)], args := [d1, d2] }
  | _ => none }
def JudgeSerialsWrongFalsely : Prop := judgeSerialsRow.holds Tryz.pinned (OpenSpec.ofChange judgeSerialsWrong)

/-- 'espalierlaw28.JudgeFinals': WHATEVER THE INPUT: true; the input reads as it did. -/
def judgeFinalsSpec : ChangeSpec := { name := "judgeFinals", fn := fun _ => fun
  | [d1, d2] => { results := [.lit (.bool true)], args := [d1, d2] }
  | _ => none }
def judgeFinalsRow : OpenClaim := { program := "ytidlngnhjffepaagreat", sum := "d14eadaed98773a217181cebc058ef9a8840dd386322747a59e4ffced894bfe8", func := "espalier/espalierlaw28.JudgeFinals", spec := "judgeFinals", inPlace := ["maps.clone"], unfollowed := true, recurses := true, apart := false }
def JudgeFinalsSaid : Prop := judgeFinalsRow.holds Tryz.pinned (OpenSpec.ofChange judgeFinalsSpec)

/-- ITS FALSE NEIGHBOUR: 'it returns false'. Refute it at one input. -/
def judgeFinalsWrong : ChangeSpec := { name := "judgeFinals", fn := fun _ => fun
  | [d1, d2] => { results := [.lit (.bool false)], args := [d1, d2] }
  | _ => none }
def JudgeFinalsWrongFalsely : Prop := judgeFinalsRow.holds Tryz.pinned (OpenSpec.ofChange judgeFinalsWrong)

/-- 'espalierlaw28.JudgeOrders': WHATEVER THE INPUT: true; the input reads as it did. -/
def judgeOrdersSpec : ChangeSpec := { name := "judgeOrders", fn := fun _ => fun
  | [d1, d2] => { results := [.lit (.bool true)], args := [d1, d2] }
  | _ => none }
def judgeOrdersRow : OpenClaim := { program := "ytidlngnhjffepaagreat", sum := "d14eadaed98773a217181cebc058ef9a8840dd386322747a59e4ffced894bfe8", func := "espalier/espalierlaw28.JudgeOrders", spec := "judgeOrders", inPlace := ["maps.clone"], unfollowed := true, recurses := true, apart := false }
def JudgeOrdersSaid : Prop := judgeOrdersRow.holds Tryz.pinned (OpenSpec.ofChange judgeOrdersSpec)

/-- ITS FALSE NEIGHBOUR: 'it returns false'. Refute it at one input. -/
def judgeOrdersWrong : ChangeSpec := { name := "judgeOrders", fn := fun _ => fun
  | [d1, d2] => { results := [.lit (.bool false)], args := [d1, d2] }
  | _ => none }
def JudgeOrdersWrongFalsely : Prop := judgeOrdersRow.holds Tryz.pinned (OpenSpec.ofChange judgeOrdersWrong)

/- THE SECOND FORM. 'bulk': how many values and letters a reading holds, each counted each time it is reached (what is shared counts as often as it is met; a slice's spare places count too). A statement '..UptoSaid' is the law's where the arguments, and the package variables that the reading takes, are together of bulk at most 1048576: NARROWER than '..Said'. Prove '..Said' where nothing that the law and all that it calls make is longer than what came in: it says more and counts as full. Else prove '..UptoSaid'. A law counts once. -/
mutual
def uptoBulk {H : Type} : DataW H → Nat
  | .lit (.string bytes) => bytes.length + 1
  | .lit _ => 1
  | .nil => 1
  | .ptr d => uptoBulk d + 1
  | .slice elems spare => uptoBulkAll elems + uptoBulkAll spare + 1
  | .agg parts => uptoBulkAll parts + 1
  | .iface _ d => uptoBulk d + 1
  | .map entries => uptoBulkEntries entries + 1
  | .held _ => 1
def uptoBulkAll {H : Type} : List (DataW H) → Nat
  | [] => 0
  | d :: r => uptoBulk d + uptoBulkAll r
def uptoBulkEntries {H : Type} : List (Lit × DataW H) → Nat
  | [] => 0
  | x :: r => uptoBulkEntry x + uptoBulkEntries r
def uptoBulkEntry {H : Type} : Lit × DataW H → Nat
  | (.string bytes, d) => bytes.length + uptoBulk d + 1
  | (_, d) => uptoBulk d + 1
 end
def uptoSmall : (H : Type) → List (DataW H) → Bool := fun _ ds => decide (uptoBulkAll ds ≤ 1048576)
def OpenSpec.upto (s : _root_.Go.ChangeSpec) : _root_.Go.OpenSpec := { _root_.Go.OpenSpec.ofChange s with cond := some uptoSmall }

/-- 'espalierlaw28.JudgeSerials', WHERE WHAT IT READS IS OF BULK AT MOST 1048576: true; the input reads as it did. -/
def judgeSerialsUptoRow : OpenClaim := { program := "ytidlngnhjffepaagreat", sum := "d14eadaed98773a217181cebc058ef9a8840dd386322747a59e4ffced894bfe8", func := "espalier/espalierlaw28.JudgeSerials", spec := "judgeSerials", inPlace := ["maps.clone"], unfollowed := true, recurses := true, apart := false, narrowed := true }
def JudgeSerialsUptoSaid : Prop := judgeSerialsUptoRow.holds Tryz.pinned (OpenSpec.upto judgeSerialsSpec)

/-- 'espalierlaw28.JudgeFinals', WHERE WHAT IT READS IS OF BULK AT MOST 1048576: true; the input reads as it did. -/
def judgeFinalsUptoRow : OpenClaim := { program := "ytidlngnhjffepaagreat", sum := "d14eadaed98773a217181cebc058ef9a8840dd386322747a59e4ffced894bfe8", func := "espalier/espalierlaw28.JudgeFinals", spec := "judgeFinals", inPlace := ["maps.clone"], unfollowed := true, recurses := true, apart := false, narrowed := true }
def JudgeFinalsUptoSaid : Prop := judgeFinalsUptoRow.holds Tryz.pinned (OpenSpec.upto judgeFinalsSpec)

/-- 'espalierlaw28.JudgeOrders', WHERE WHAT IT READS IS OF BULK AT MOST 1048576: true; the input reads as it did. -/
def judgeOrdersUptoRow : OpenClaim := { program := "ytidlngnhjffepaagreat", sum := "d14eadaed98773a217181cebc058ef9a8840dd386322747a59e4ffced894bfe8", func := "espalier/espalierlaw28.JudgeOrders", spec := "judgeOrders", inPlace := ["maps.clone"], unfollowed := true, recurses := true, apart := false, narrowed := true }
def JudgeOrdersUptoSaid : Prop := judgeOrdersUptoRow.holds Tryz.pinned (OpenSpec.upto judgeOrdersSpec)

end Rows
end Go.Proofs.YtidlngnhjffepaaGreat
