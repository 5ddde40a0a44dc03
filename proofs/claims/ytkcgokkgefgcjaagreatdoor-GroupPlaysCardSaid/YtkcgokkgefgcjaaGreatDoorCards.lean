/-
  DERIVED. GIVEN WITH THE SEED: THE CARDS: each row of YtkcgokkgefgcjaaGreatDoorRows.lean that lists a variable, with what it lists TIED to the program's text (the seventh form; the later family's looks); each row that meets fmt, with fmt's text TOLD by the authors' own Lean function (tested against real Go, not proved from fmt's source: count such statements apart). THE CARD IS WHAT COUNTS. Prove the row's statement (the work); the ties are given (YtkcgokkgefgcjaaGreatDoorTie.lean); close each card by the builder's one call (the guide's Derived/Test/ToyasCard.lean, 'card_holds'). Laid BY PROGRAM, IN A SANDBOX (cutbox-door.mjs). By AI agents, Wed Nov 11 2026. No macro, syntax, notation, axiom, sorry.
-/
import Derived.Test.YtkcgokkgefgcjaaGreatDoorRows
import GoSem.ClaimSeven
namespace Go.Proofs.YtkcgokkgefgcjaaGreatDoor
namespace Rows

/-- THE TIED CARD OF 'cordwainlaw17.GroupPlays'. -/
def groupPlaysCard : Claim7 := { stood := { row := groupPlaysRow, standIns := [], harness := (true, "01bfa283750235c37fbe440664585ae98c1af3ccb4a9e1486a1ab671fdcf7f4f"), looks := false }, kinds := [], alts := [], laidByText := true, laidKinds := [.data, .data, .data], laidTests := true, laidLooks := .later }
def GroupPlaysCardSaid : Prop := Claim7.holds Tryz.pinned (.plain (OpenSpec.ofChange groupPlaysSpec)) groupPlaysCard

/-- THE SECOND FORM's CARD OF 'cordwainlaw17.GroupPlays'. -/
def groupPlaysUptoCard : Claim7 := { stood := { row := groupPlaysUptoRow, standIns := [], harness := (true, "01bfa283750235c37fbe440664585ae98c1af3ccb4a9e1486a1ab671fdcf7f4f"), looks := false }, kinds := [], alts := [], laidByText := true, laidKinds := [.data, .data, .data], laidTests := true, laidLooks := .later }
def GroupPlaysUptoCardSaid : Prop := Claim7.holds Tryz.pinned (.plain (OpenSpec.upto groupPlaysSpec)) groupPlaysUptoCard
end Rows
end Go.Proofs.YtkcgokkgefgcjaaGreatDoor
