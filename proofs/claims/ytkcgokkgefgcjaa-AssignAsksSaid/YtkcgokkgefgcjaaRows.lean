/-
  No cell of these rows narrows 'for every input' (looked for: loops, veiled, ifaces, maps, wideKeys, modest, calm, conditions, laid).
  DERIVED. THE GIVEN ROWS OF THIS SEAT. 4 by the template 'for every input the law returns true; each argument reads behind the call as it read before'; 0 by the template 'total and deterministic' (their statements: YtkcgokkgefgcjaaTotals.lean).
  GIVEN WITH THE SEED: the statements are not yours to turn. If you find one false, say at which input.
  Laid BY PROGRAM, IN A SANDBOX (cutbox-rows.mjs): the forced cells as the released guide's own fill.sh prints them over the translation d256f211f738e625… (all of the seat's roots in one cut). By AI agents, Wed Nov 11 2026. No macro, syntax, notation, axiom, sorry.
-/
import Derived.Test.YtkcgokkgefgcjaaChecked
import GoSem.Claim
import GoSem.ClaimJoined
import GoSem.ClaimMapViews
import Derived.JoinedTies
import Derived.KernelRfl
namespace Go.Proofs.Ytkcgokkgefgcjaa
/- THE CELL 'sum', in the pinned program and in every row, IS THE sha256 OF THE DUMP (.gsa) THAT YtkcgokkgefgcjaaProg.lean LOADS. Nothing in Lean hashes anything: it is a label: what it is worth is what the hold of that sum in a sandbox is worth. -/
noncomputable def Try.pinned : Pinned := { name := "ytkcgokkgefgcjaa", sum := "d256f211f738e625ab00fd16ba15679c4a95c8adab54b0fd690fb61e1355c273", checked := Try.checked }
namespace Rows
def none {H : Type} : Left H := { results := [], args := [] }

/-- 'cordwainlaw16.AssignOnce': WHATEVER THE INPUT: true; the input reads as it did. -/
def assignOnceSpec : ChangeSpec := { name := "assignOnce", fn := fun _ => fun
  | [d1, d2, d3, d4] => { results := [.lit (.bool true)], args := [d1, d2, d3, d4] }
  | _ => none }
def assignOnceRow : OpenClaim := { program := "ytkcgokkgefgcjaa", sum := "d256f211f738e625ab00fd16ba15679c4a95c8adab54b0fd690fb61e1355c273", func := "cordwain/cordwainlaw16.AssignOnce", spec := "assignOnce", unfollowed := true, recurses := true, apart := false }
def AssignOnceSaid : Prop := assignOnceRow.holds Try.pinned (OpenSpec.ofChange assignOnceSpec)

/-- ITS FALSE NEIGHBOUR: 'it returns false'. Refute it at one input. -/
def assignOnceWrong : ChangeSpec := { name := "assignOnce", fn := fun _ => fun
  | [d1, d2, d3, d4] => { results := [.lit (.bool false)], args := [d1, d2, d3, d4] }
  | _ => none }
def AssignOnceWrongFalsely : Prop := assignOnceRow.holds Try.pinned (OpenSpec.ofChange assignOnceWrong)

/-- 'cordwainlaw16.AssignEven': WHATEVER THE INPUT: true; the input reads as it did. -/
def assignEvenSpec : ChangeSpec := { name := "assignEven", fn := fun _ => fun
  | [d1, d2, d3] => { results := [.lit (.bool true)], args := [d1, d2, d3] }
  | _ => none }
def assignEvenRow : OpenClaim := { program := "ytkcgokkgefgcjaa", sum := "d256f211f738e625ab00fd16ba15679c4a95c8adab54b0fd690fb61e1355c273", func := "cordwain/cordwainlaw16.AssignEven", spec := "assignEven", unfollowed := true, recurses := true, apart := false }
def AssignEvenSaid : Prop := assignEvenRow.holds Try.pinned (OpenSpec.ofChange assignEvenSpec)

/-- ITS FALSE NEIGHBOUR: 'it returns false'. Refute it at one input. -/
def assignEvenWrong : ChangeSpec := { name := "assignEven", fn := fun _ => fun
  | [d1, d2, d3] => { results := [.lit (.bool false)], args := [d1, d2, d3] }
  | _ => none }
def AssignEvenWrongFalsely : Prop := assignEvenRow.holds Try.pinned (OpenSpec.ofChange assignEvenWrong)

/-- 'cordwainlaw16.AssignRows': WHATEVER THE INPUT: true; the input reads as it did. -/
def assignRowsSpec : ChangeSpec := { name := "assignRows", fn := fun _ => fun
  | [d1, d2] => { results := [.lit (.bool true)], args := [d1, d2] }
  | _ => none }
def assignRowsRow : OpenClaim := { program := "ytkcgokkgefgcjaa", sum := "d256f211f738e625ab00fd16ba15679c4a95c8adab54b0fd690fb61e1355c273", func := "cordwain/cordwainlaw16.AssignRows", spec := "assignRows", unfollowed := true, recurses := true, apart := false }
def AssignRowsSaid : Prop := assignRowsRow.holds Try.pinned (OpenSpec.ofChange assignRowsSpec)

/-- ITS FALSE NEIGHBOUR: 'it returns false'. Refute it at one input. -/
def assignRowsWrong : ChangeSpec := { name := "assignRows", fn := fun _ => fun
  | [d1, d2] => { results := [.lit (.bool false)], args := [d1, d2] }
  | _ => none }
def AssignRowsWrongFalsely : Prop := assignRowsRow.holds Try.pinned (OpenSpec.ofChange assignRowsWrong)

/-- 'cordwainlaw16.AssignAsks': WHATEVER THE INPUT: true; the input reads as it did. -/
def assignAsksSpec : ChangeSpec := { name := "assignAsks", fn := fun _ => fun
  | [d1, d2, d3, d4, d5] => { results := [.lit (.bool true)], args := [d1, d2, d3, d4, d5] }
  | _ => none }
def assignAsksRow : OpenClaim := { program := "ytkcgokkgefgcjaa", sum := "d256f211f738e625ab00fd16ba15679c4a95c8adab54b0fd690fb61e1355c273", func := "cordwain/cordwainlaw16.AssignAsks", spec := "assignAsks", unfollowed := true, recurses := true, apart := false }
def AssignAsksSaid : Prop := assignAsksRow.holds Try.pinned (OpenSpec.ofChange assignAsksSpec)

/-- ITS FALSE NEIGHBOUR: 'it returns false'. Refute it at one input. -/
def assignAsksWrong : ChangeSpec := { name := "assignAsks", fn := fun _ => fun
  | [d1, d2, d3, d4, d5] => { results := [.lit (.bool false)], args := [d1, d2, d3, d4, d5] }
  | _ => none }
def AssignAsksWrongFalsely : Prop := assignAsksRow.holds Try.pinned (OpenSpec.ofChange assignAsksWrong)

/- THE SECOND FORM. 'bulk': how many values and letters a reading holds, each counted each time it is reached (what is shared counts as often as it is met; a slice's spare places count too). A statement '..UptoSaid' is the law's where the arguments, and the package variables that the reading takes, are together of bulk at most 1048576: NARROWER than '..Said'. Prove '..Said' where nothing that the law and all that it calls make is longer than what came in: it says more and counts as full. Else prove '..UptoSaid'. A law counts once. -/
mutual
def uptoBulk {H : Type} : DataW H → Nat
  | .lit (.string bytes) => bytes.length + 1
  | .lit _ => 1
  | .nil => 1
  | .ptr d => uptoBulk d + 1
  | .slice elems spare => uptoBulkAll elems + uptoBulkAll spare + 1
  | .agg parts => uptoBulkAll parts + 1
  | .iface _ d => uptoBulk d + 1
  | .map entries => uptoBulkEntries entries + 1
  | .held _ => 1
def uptoBulkAll {H : Type} : List (DataW H) → Nat
  | [] => 0
  | d :: r => uptoBulk d + uptoBulkAll r
def uptoBulkEntries {H : Type} : List (Lit × DataW H) → Nat
  | [] => 0
  | x :: r => uptoBulkEntry x + uptoBulkEntries r
def uptoBulkEntry {H : Type} : Lit × DataW H → Nat
  | (.string bytes, d) => bytes.length + uptoBulk d + 1
  | (_, d) => uptoBulk d + 1
 end
def uptoSmall : (H : Type) → List (DataW H) → Bool := fun _ ds => decide (uptoBulkAll ds ≤ 1048576)
def OpenSpec.upto (s : _root_.Go.ChangeSpec) : _root_.Go.OpenSpec := { _root_.Go.OpenSpec.ofChange s with cond := some uptoSmall }

/-- 'cordwainlaw16.AssignOnce', WHERE WHAT IT READS IS OF BULK AT MOST 1048576: true; the input reads as it did. -/
def assignOnceUptoRow : OpenClaim := { program := "ytkcgokkgefgcjaa", sum := "d256f211f738e625ab00fd16ba15679c4a95c8adab54b0fd690fb61e1355c273", func := "cordwain/cordwainlaw16.AssignOnce", spec := "assignOnce", unfollowed := true, recurses := true, apart := false, narrowed := true }
def AssignOnceUptoSaid : Prop := assignOnceUptoRow.holds Try.pinned (OpenSpec.upto assignOnceSpec)

/-- 'cordwainlaw16.AssignEven', WHERE WHAT IT READS IS OF BULK AT MOST 1048576: true; the input reads as it did. -/
def assignEvenUptoRow : OpenClaim := { program := "ytkcgokkgefgcjaa", sum := "d256f211f738e625ab00fd16ba15679c4a95c8adab54b0fd690fb61e1355c273", func := "cordwain/cordwainlaw16.AssignEven", spec := "assignEven", unfollowed := true, recurses := true, apart := false, narrowed := true }
def AssignEvenUptoSaid : Prop := assignEvenUptoRow.holds Try.pinned (OpenSpec.upto assignEvenSpec)

/-- 'cordwainlaw16.AssignRows', WHERE WHAT IT READS IS OF BULK AT MOST 1048576: true; the input reads as it did. -/
def assignRowsUptoRow : OpenClaim := { program := "ytkcgokkgefgcjaa", sum := "d256f211f738e625ab00fd16ba15679c4a95c8adab54b0fd690fb61e1355c273", func := "cordwain/cordwainlaw16.AssignRows", spec := "assignRows", unfollowed := true, recurses := true, apart := false, narrowed := true }
def AssignRowsUptoSaid : Prop := assignRowsUptoRow.holds Try.pinned (OpenSpec.upto assignRowsSpec)

/-- 'cordwainlaw16.AssignAsks', WHERE WHAT IT READS IS OF BULK AT MOST 1048576: true; the input reads as it did. -/
def assignAsksUptoRow : OpenClaim := { program := "ytkcgokkgefgcjaa", sum := "d256f211f738e625ab00fd16ba15679c4a95c8adab54b0fd690fb61e1355c273", func := "cordwain/cordwainlaw16.AssignAsks", spec := "assignAsks", unfollowed := true, recurses := true, apart := false, narrowed := true }
def AssignAsksUptoSaid : Prop := assignAsksUptoRow.holds Try.pinned (OpenSpec.upto assignAsksSpec)

end Rows
end Go.Proofs.Ytkcgokkgefgcjaa
