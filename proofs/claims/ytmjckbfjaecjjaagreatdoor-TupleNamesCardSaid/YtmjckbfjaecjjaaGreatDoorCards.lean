/-
  DERIVED. GIVEN WITH THE SEED: THE CARDS: each row of YtmjckbfjaecjjaaGreatDoorRows.lean that lists a variable, with what it lists TIED to the program's text (the seventh form; the later family's looks); each row that meets fmt, with fmt's text TOLD by the authors' own Lean function (tested against real Go, not proved from fmt's source: count such statements apart). THE CARD IS WHAT COUNTS. Prove the row's statement (the work); the ties are given (YtmjckbfjaecjjaaGreatDoorTie.lean); close each card by the builder's one call (the guide's Derived/Test/ToyasCard.lean, 'card_holds'). Laid BY PROGRAM, IN A SANDBOX (cutbox-door.mjs). By AI agents, Wed Nov 11 2026. No macro, syntax, notation, axiom, sorry.
-/
import Derived.Test.YtmjckbfjaecjjaaGreatDoorRows
import GoSem.ClaimSeven
namespace Go.Proofs.YtmjckbfjaecjjaaGreatDoor
namespace Rows

/-- THE TIED CARD OF 'espalierlaw02.TupleNames'. -/
def tupleNamesCard : Claim7 := { stood := { row := tupleNamesRow, standIns := [], harness := (true, "b4d67ef670d733435a02317e28d7579fc916aa68d2eacf2b153d0316c0f0f6d8"), looks := true }, kinds := [], alts := [], laidByText := true, laidKinds := [.data, .data, .widerDeep, .widerDeep, .data, .data, .data, .data, .data, .data, .sentinel, .sentinel, .pinned, .pinned, .pinned], laidTests := true, laidLooks := .later }
def TupleNamesCardSaid : Prop := Claim7.holds Tryz.pinned (.plain (OpenSpec.ofChange tupleNamesSpec)) tupleNamesCard

/-- THE SECOND FORM's CARD OF 'espalierlaw02.TupleNames'. -/
def tupleNamesUptoCard : Claim7 := { stood := { row := tupleNamesUptoRow, standIns := [], harness := (true, "b4d67ef670d733435a02317e28d7579fc916aa68d2eacf2b153d0316c0f0f6d8"), looks := true }, kinds := [], alts := [], laidByText := true, laidKinds := [.data, .data, .widerDeep, .widerDeep, .data, .data, .data, .data, .data, .data, .sentinel, .sentinel, .pinned, .pinned, .pinned], laidTests := true, laidLooks := .later }
def TupleNamesUptoCardSaid : Prop := Claim7.holds Tryz.pinned (.plain (OpenSpec.upto tupleNamesSpec)) tupleNamesUptoCard
end Rows
end Go.Proofs.YtmjckbfjaecjjaaGreatDoor
