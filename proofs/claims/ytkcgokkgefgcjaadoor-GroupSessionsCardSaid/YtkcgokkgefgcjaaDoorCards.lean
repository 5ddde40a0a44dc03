/-
  DERIVED. GIVEN WITH THE SEED: THE CARDS: each row of YtkcgokkgefgcjaaDoorRows.lean that lists a variable, with what it lists TIED to the program's text (the seventh form; the later family's looks); each row that meets fmt, with fmt's text TOLD by the authors' own Lean function (tested against real Go, not proved from fmt's source: count such statements apart). THE CARD IS WHAT COUNTS. Prove the row's statement (the work); the ties are given (YtkcgokkgefgcjaaDoorTie.lean); close each card by the builder's one call (the guide's Derived/Test/ToyasCard.lean, 'card_holds'). Laid BY PROGRAM, IN A SANDBOX (cutbox-door.mjs). By AI agents, Wed Nov 11 2026. No macro, syntax, notation, axiom, sorry.
-/
import Derived.Test.YtkcgokkgefgcjaaDoorRows
import GoSem.ClaimSeven
namespace Go.Proofs.YtkcgokkgefgcjaaDoor
namespace Rows

/-- THE TIED CARD OF 'cordwainlaw17.GroupSessions'. -/
def groupSessionsCard : Claim7 := { stood := { row := groupSessionsRow, standIns := [], harness := (true, "9773730c519191cc8f422aa69b173d2d9222f7dacb8b171959a8dd4e50660c9d"), looks := false }, kinds := [], alts := [], laidByText := true, laidKinds := [.data, .data, .data], laidTests := true, laidLooks := .later }
def GroupSessionsCardSaid : Prop := Claim7.holds Tryd.pinned (.plain (OpenSpec.ofChange groupSessionsSpec)) groupSessionsCard

/-- THE TIED CARD OF 'cordwainlaw17.GroupOnce'. -/
def groupOnceCard : Claim7 := { stood := { row := groupOnceRow, standIns := [], harness := (true, "9773730c519191cc8f422aa69b173d2d9222f7dacb8b171959a8dd4e50660c9d"), looks := false }, kinds := [], alts := [], laidByText := true, laidKinds := [.data, .data, .data], laidTests := true, laidLooks := .later }
def GroupOnceCardSaid : Prop := Claim7.holds Tryd.pinned (.plain (OpenSpec.ofChange groupOnceSpec)) groupOnceCard

/-- THE TIED CARD OF 'cordwainlaw17.GroupSettles'. -/
def groupSettlesCard : Claim7 := { stood := { row := groupSettlesRow, standIns := [], harness := (true, "9773730c519191cc8f422aa69b173d2d9222f7dacb8b171959a8dd4e50660c9d"), looks := false }, kinds := [], alts := [], laidByText := true, laidKinds := [.data, .data, .data], laidTests := true, laidLooks := .later }
def GroupSettlesCardSaid : Prop := Claim7.holds Tryd.pinned (.plain (OpenSpec.ofChange groupSettlesSpec)) groupSettlesCard

/-- THE TIED CARD OF 'cordwainlaw17.GroupFences'. -/
def groupFencesCard : Claim7 := { stood := { row := groupFencesRow, standIns := [], harness := (true, "9773730c519191cc8f422aa69b173d2d9222f7dacb8b171959a8dd4e50660c9d"), looks := false }, kinds := [], alts := [], laidByText := true, laidKinds := [.data, .data, .data], laidTests := true, laidLooks := .later }
def GroupFencesCardSaid : Prop := Claim7.holds Tryd.pinned (.plain (OpenSpec.ofChange groupFencesSpec)) groupFencesCard

/-- THE TIED CARD OF 'cordwainlaw17.GroupFull'. -/
def groupFullCard : Claim7 := { stood := { row := groupFullRow, standIns := [], harness := (true, "9773730c519191cc8f422aa69b173d2d9222f7dacb8b171959a8dd4e50660c9d"), looks := false }, kinds := [], alts := [], laidByText := true, laidKinds := [.data, .data, .data], laidTests := true, laidLooks := .later }
def GroupFullCardSaid : Prop := Claim7.holds Tryd.pinned (.plain (OpenSpec.ofChange groupFullSpec)) groupFullCard

/-- THE SECOND FORM's CARD OF 'cordwainlaw17.GroupSessions'. -/
def groupSessionsUptoCard : Claim7 := { stood := { row := groupSessionsUptoRow, standIns := [], harness := (true, "9773730c519191cc8f422aa69b173d2d9222f7dacb8b171959a8dd4e50660c9d"), looks := false }, kinds := [], alts := [], laidByText := true, laidKinds := [.data, .data, .data], laidTests := true, laidLooks := .later }
def GroupSessionsUptoCardSaid : Prop := Claim7.holds Tryd.pinned (.plain (OpenSpec.upto groupSessionsSpec)) groupSessionsUptoCard

/-- THE SECOND FORM's CARD OF 'cordwainlaw17.GroupOnce'. -/
def groupOnceUptoCard : Claim7 := { stood := { row := groupOnceUptoRow, standIns := [], harness := (true, "9773730c519191cc8f422aa69b173d2d9222f7dacb8b171959a8dd4e50660c9d"), looks := false }, kinds := [], alts := [], laidByText := true, laidKinds := [.data, .data, .data], laidTests := true, laidLooks := .later }
def GroupOnceUptoCardSaid : Prop := Claim7.holds Tryd.pinned (.plain (OpenSpec.upto groupOnceSpec)) groupOnceUptoCard

/-- THE SECOND FORM's CARD OF 'cordwainlaw17.GroupSettles'. -/
def groupSettlesUptoCard : Claim7 := { stood := { row := groupSettlesUptoRow, standIns := [], harness := (true, "9773730c519191cc8f422aa69b173d2d9222f7dacb8b171959a8dd4e50660c9d"), looks := false }, kinds := [], alts := [], laidByText := true, laidKinds := [.data, .data, .data], laidTests := true, laidLooks := .later }
def GroupSettlesUptoCardSaid : Prop := Claim7.holds Tryd.pinned (.plain (OpenSpec.upto groupSettlesSpec)) groupSettlesUptoCard

/-- THE SECOND FORM's CARD OF 'cordwainlaw17.GroupFences'. -/
def groupFencesUptoCard : Claim7 := { stood := { row := groupFencesUptoRow, standIns := [], harness := (true, "9773730c519191cc8f422aa69b173d2d9222f7dacb8b171959a8dd4e50660c9d"), looks := false }, kinds := [], alts := [], laidByText := true, laidKinds := [.data, .data, .data], laidTests := true, laidLooks := .later }
def GroupFencesUptoCardSaid : Prop := Claim7.holds Tryd.pinned (.plain (OpenSpec.upto groupFencesSpec)) groupFencesUptoCard

/-- THE SECOND FORM's CARD OF 'cordwainlaw17.GroupFull'. -/
def groupFullUptoCard : Claim7 := { stood := { row := groupFullUptoRow, standIns := [], harness := (true, "9773730c519191cc8f422aa69b173d2d9222f7dacb8b171959a8dd4e50660c9d"), looks := false }, kinds := [], alts := [], laidByText := true, laidKinds := [.data, .data, .data], laidTests := true, laidLooks := .later }
def GroupFullUptoCardSaid : Prop := Claim7.holds Tryd.pinned (.plain (OpenSpec.upto groupFullSpec)) groupFullUptoCard
end Rows
end Go.Proofs.YtkcgokkgefgcjaaDoor
