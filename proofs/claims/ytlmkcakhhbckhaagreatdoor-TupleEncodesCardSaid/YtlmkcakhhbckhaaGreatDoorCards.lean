/-
  DERIVED. GIVEN WITH THE SEED: THE CARDS: each row of YtlmkcakhhbckhaaGreatDoorRows.lean that lists a variable, with what it lists TIED to the program's text (the seventh form; the later family's looks); each row that meets fmt, with fmt's text TOLD by the authors' own Lean function (tested against real Go, not proved from fmt's source: count such statements apart). THE CARD IS WHAT COUNTS. Prove the row's statement (the work); the ties are given (YtlmkcakhhbckhaaGreatDoorTie.lean); close each card by the builder's one call (the guide's Derived/Test/ToyasCard.lean, 'card_holds'). Laid BY PROGRAM, IN A SANDBOX (cutbox-door.mjs). By AI agents, Wed Nov 11 2026. No macro, syntax, notation, axiom, sorry.
-/
import Derived.Test.YtlmkcakhhbckhaaGreatDoorRows
import GoSem.ClaimSeven
namespace Go.Proofs.YtlmkcakhhbckhaaGreatDoor
namespace Rows

/-- THE TIED CARD OF 'espalierlaw02.TupleEncodes'. -/
def tupleEncodesCard : Claim7 := { stood := { row := tupleEncodesRow, standIns := [], harness := (true, "100689f5c934eaecac92b9c0ec3a7f0367262711dbb9d8c5306f0a6ccee1001b"), looks := true }, kinds := [], alts := [], laidByText := true, laidKinds := [.data, .data, .widerDeep, .widerDeep, .data, .data, .data, .data, .data, .data, .sentinel, .sentinel, .pinned, .pinned, .pinned], laidTests := true, laidLooks := .later }
def TupleEncodesCardSaid : Prop := Claim7.holds Tryz.pinned (.plain (OpenSpec.ofChange tupleEncodesSpec)) tupleEncodesCard

/-- THE TIED CARD OF 'espalierlaw02.TupleDecodes'. -/
def tupleDecodesCard : Claim7 := { stood := { row := tupleDecodesRow, standIns := [], harness := (true, "100689f5c934eaecac92b9c0ec3a7f0367262711dbb9d8c5306f0a6ccee1001b"), looks := true }, kinds := [], alts := [], laidByText := true, laidKinds := [.data, .data, .widerDeep, .widerDeep, .data, .data, .data, .data, .data, .data, .sentinel, .sentinel, .pinned, .pinned, .pinned], laidTests := true, laidLooks := .later }
def TupleDecodesCardSaid : Prop := Claim7.holds Tryz.pinned (.plain (OpenSpec.ofChange tupleDecodesSpec)) tupleDecodesCard

/-- THE TIED CARD OF 'espalierlaw02.TupleCompares'. -/
def tupleComparesCard : Claim7 := { stood := { row := tupleComparesRow, standIns := [], harness := (true, "100689f5c934eaecac92b9c0ec3a7f0367262711dbb9d8c5306f0a6ccee1001b"), looks := true }, kinds := [], alts := [], laidByText := true, laidKinds := [.data, .data, .widerDeep, .widerDeep, .data, .data, .data, .data, .data, .data, .sentinel, .sentinel, .pinned, .pinned, .pinned], laidTests := true, laidLooks := .later }
def TupleComparesCardSaid : Prop := Claim7.holds Tryz.pinned (.plain (OpenSpec.ofChange tupleComparesSpec)) tupleComparesCard

/-- THE SECOND FORM's CARD OF 'espalierlaw02.TupleEncodes'. -/
def tupleEncodesUptoCard : Claim7 := { stood := { row := tupleEncodesUptoRow, standIns := [], harness := (true, "100689f5c934eaecac92b9c0ec3a7f0367262711dbb9d8c5306f0a6ccee1001b"), looks := true }, kinds := [], alts := [], laidByText := true, laidKinds := [.data, .data, .widerDeep, .widerDeep, .data, .data, .data, .data, .data, .data, .sentinel, .sentinel, .pinned, .pinned, .pinned], laidTests := true, laidLooks := .later }
def TupleEncodesUptoCardSaid : Prop := Claim7.holds Tryz.pinned (.plain (OpenSpec.upto tupleEncodesSpec)) tupleEncodesUptoCard

/-- THE SECOND FORM's CARD OF 'espalierlaw02.TupleDecodes'. -/
def tupleDecodesUptoCard : Claim7 := { stood := { row := tupleDecodesUptoRow, standIns := [], harness := (true, "100689f5c934eaecac92b9c0ec3a7f0367262711dbb9d8c5306f0a6ccee1001b"), looks := true }, kinds := [], alts := [], laidByText := true, laidKinds := [.data, .data, .widerDeep, .widerDeep, .data, .data, .data, .data, .data, .data, .sentinel, .sentinel, .pinned, .pinned, .pinned], laidTests := true, laidLooks := .later }
def TupleDecodesUptoCardSaid : Prop := Claim7.holds Tryz.pinned (.plain (OpenSpec.upto tupleDecodesSpec)) tupleDecodesUptoCard

/-- THE SECOND FORM's CARD OF 'espalierlaw02.TupleCompares'. -/
def tupleComparesUptoCard : Claim7 := { stood := { row := tupleComparesUptoRow, standIns := [], harness := (true, "100689f5c934eaecac92b9c0ec3a7f0367262711dbb9d8c5306f0a6ccee1001b"), looks := true }, kinds := [], alts := [], laidByText := true, laidKinds := [.data, .data, .widerDeep, .widerDeep, .data, .data, .data, .data, .data, .data, .sentinel, .sentinel, .pinned, .pinned, .pinned], laidTests := true, laidLooks := .later }
def TupleComparesUptoCardSaid : Prop := Claim7.holds Tryz.pinned (.plain (OpenSpec.upto tupleComparesSpec)) tupleComparesUptoCard
end Rows
end Go.Proofs.YtlmkcakhhbckhaaGreatDoor
