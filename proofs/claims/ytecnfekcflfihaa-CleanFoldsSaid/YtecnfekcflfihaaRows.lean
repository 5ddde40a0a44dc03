/-
  No cell of these rows narrows 'for every input' (looked for: loops, veiled, ifaces, maps, wideKeys, modest, calm, conditions, laid).
  DERIVED. THE GIVEN ROWS OF THIS SEAT. 10 by the template 'for every input the law returns true; each argument reads behind the call as it read before'; 0 by the template 'total and deterministic' (their statements: YtecnfekcflfihaaTotals.lean).
  GIVEN WITH THE SEED: the statements are not yours to turn. If you find one false, say at which input.
  Laid BY PROGRAM, IN A SANDBOX (cutbox-rows.mjs): the forced cells as the released guide's own fill.sh prints them over the translation c09c781c34733113… (all of the seat's roots in one cut). By AI agents, Wed Nov 11 2026. No macro, syntax, notation, axiom, sorry.
-/
import Derived.Test.YtecnfekcflfihaaChecked
import GoSem.Claim
import GoSem.ClaimJoined
import GoSem.ClaimMapViews
import Derived.JoinedTies
import Derived.KernelRfl
namespace Go.Proofs.Ytecnfekcflfihaa
/- THE CELL 'sum', in the pinned program and in every row, IS THE sha256 OF THE DUMP (.gsa) THAT YtecnfekcflfihaaProg.lean LOADS. Nothing in Lean hashes anything: it is a label: what it is worth is what the hold of that sum in a sandbox is worth. -/
noncomputable def Try.pinned : Pinned := { name := "ytecnfekcflfihaa", sum := "c09c781c347331138a5a93bfe5061034912a123ddc5954f12cd0d3ef639c2305", checked := Try.checked }
namespace Rows
def none {H : Type} : Left H := { results := [], args := [] }

/-- 'cordwainlaw14.CleanAsks': WHATEVER THE INPUT: true; the input reads as it did. -/
def cleanAsksSpec : ChangeSpec := { name := "cleanAsks", fn := fun _ => fun
  | [d1, d2, d3, d4] => { results := [.lit (.bool true)], args := [d1, d2, d3, d4] }
  | _ => none }
def cleanAsksRow : OpenClaim := { program := "ytecnfekcflfihaa", sum := "c09c781c347331138a5a93bfe5061034912a123ddc5954f12cd0d3ef639c2305", func := "cordwain/cordwainlaw14.CleanAsks", spec := "cleanAsks", apart := false }
def CleanAsksSaid : Prop := cleanAsksRow.holds Try.pinned (OpenSpec.ofChange cleanAsksSpec)

/-- ITS FALSE NEIGHBOUR: 'it returns false'. Refute it at one input. -/
def cleanAsksWrong : ChangeSpec := { name := "cleanAsks", fn := fun _ => fun
  | [d1, d2, d3, d4] => { results := [.lit (.bool false)], args := [d1, d2, d3, d4] }
  | _ => none }
def CleanAsksWrongFalsely : Prop := cleanAsksRow.holds Try.pinned (OpenSpec.ofChange cleanAsksWrong)

/-- 'cordwainlaw14.CleanParts': WHATEVER THE INPUT: true; the input reads as it did. -/
def cleanPartsSpec : ChangeSpec := { name := "cleanParts", fn := fun _ => fun
  | [d1, d2, d3, d4, d5, d6, d7] => { results := [.lit (.bool true)], args := [d1, d2, d3, d4, d5, d6, d7] }
  | _ => none }
def cleanPartsRow : OpenClaim := { program := "ytecnfekcflfihaa", sum := "c09c781c347331138a5a93bfe5061034912a123ddc5954f12cd0d3ef639c2305", func := "cordwain/cordwainlaw14.CleanParts", spec := "cleanParts", apart := false }
def CleanPartsSaid : Prop := cleanPartsRow.holds Try.pinned (OpenSpec.ofChange cleanPartsSpec)

/-- ITS FALSE NEIGHBOUR: 'it returns false'. Refute it at one input. -/
def cleanPartsWrong : ChangeSpec := { name := "cleanParts", fn := fun _ => fun
  | [d1, d2, d3, d4, d5, d6, d7] => { results := [.lit (.bool false)], args := [d1, d2, d3, d4, d5, d6, d7] }
  | _ => none }
def CleanPartsWrongFalsely : Prop := cleanPartsRow.holds Try.pinned (OpenSpec.ofChange cleanPartsWrong)

/-- 'cordwainlaw14.CleanGrace': WHATEVER THE INPUT: true; the input reads as it did. -/
def cleanGraceSpec : ChangeSpec := { name := "cleanGrace", fn := fun _ => fun
  | [d1, d2, d3, d4] => { results := [.lit (.bool true)], args := [d1, d2, d3, d4] }
  | _ => none }
def cleanGraceRow : OpenClaim := { program := "ytecnfekcflfihaa", sum := "c09c781c347331138a5a93bfe5061034912a123ddc5954f12cd0d3ef639c2305", func := "cordwain/cordwainlaw14.CleanGrace", spec := "cleanGrace", apart := false }
def CleanGraceSaid : Prop := cleanGraceRow.holds Try.pinned (OpenSpec.ofChange cleanGraceSpec)

/-- ITS FALSE NEIGHBOUR: 'it returns false'. Refute it at one input. -/
def cleanGraceWrong : ChangeSpec := { name := "cleanGrace", fn := fun _ => fun
  | [d1, d2, d3, d4] => { results := [.lit (.bool false)], args := [d1, d2, d3, d4] }
  | _ => none }
def CleanGraceWrongFalsely : Prop := cleanGraceRow.holds Try.pinned (OpenSpec.ofChange cleanGraceWrong)

/-- 'cordwainlaw14.CleanKeeps': WHATEVER THE INPUT: true; the input reads as it did. -/
def cleanKeepsSpec : ChangeSpec := { name := "cleanKeeps", fn := fun _ => fun
  | [d1, d2, d3] => { results := [.lit (.bool true)], args := [d1, d2, d3] }
  | _ => none }
def cleanKeepsRow : OpenClaim := { program := "ytecnfekcflfihaa", sum := "c09c781c347331138a5a93bfe5061034912a123ddc5954f12cd0d3ef639c2305", func := "cordwain/cordwainlaw14.CleanKeeps", spec := "cleanKeeps", apart := false }
def CleanKeepsSaid : Prop := cleanKeepsRow.holds Try.pinned (OpenSpec.ofChange cleanKeepsSpec)

/-- ITS FALSE NEIGHBOUR: 'it returns false'. Refute it at one input. -/
def cleanKeepsWrong : ChangeSpec := { name := "cleanKeeps", fn := fun _ => fun
  | [d1, d2, d3] => { results := [.lit (.bool false)], args := [d1, d2, d3] }
  | _ => none }
def CleanKeepsWrongFalsely : Prop := cleanKeepsRow.holds Try.pinned (OpenSpec.ofChange cleanKeepsWrong)

/-- 'cordwainlaw14.CleanAll': WHATEVER THE INPUT: true; the input reads as it did. -/
def cleanAllSpec : ChangeSpec := { name := "cleanAll", fn := fun _ => fun
  | [d1, d2] => { results := [.lit (.bool true)], args := [d1, d2] }
  | _ => none }
def cleanAllRow : OpenClaim := { program := "ytecnfekcflfihaa", sum := "c09c781c347331138a5a93bfe5061034912a123ddc5954f12cd0d3ef639c2305", func := "cordwain/cordwainlaw14.CleanAll", spec := "cleanAll", apart := false }
def CleanAllSaid : Prop := cleanAllRow.holds Try.pinned (OpenSpec.ofChange cleanAllSpec)

/-- ITS FALSE NEIGHBOUR: 'it returns false'. Refute it at one input. -/
def cleanAllWrong : ChangeSpec := { name := "cleanAll", fn := fun _ => fun
  | [d1, d2] => { results := [.lit (.bool false)], args := [d1, d2] }
  | _ => none }
def CleanAllWrongFalsely : Prop := cleanAllRow.holds Try.pinned (OpenSpec.ofChange cleanAllWrong)

/-- 'cordwainlaw13.FoldAsks': WHATEVER THE INPUT: true; the input reads as it did. -/
def foldAsksSpec : ChangeSpec := { name := "foldAsks", fn := fun _ => fun
  | [d1, d2] => { results := [.lit (.bool true)], args := [d1, d2] }
  | _ => none }
def foldAsksRow : OpenClaim := { program := "ytecnfekcflfihaa", sum := "c09c781c347331138a5a93bfe5061034912a123ddc5954f12cd0d3ef639c2305", func := "cordwain/cordwainlaw13.FoldAsks", spec := "foldAsks", unfollowed := true, recurses := true, apart := false }
def FoldAsksSaid : Prop := foldAsksRow.holds Try.pinned (OpenSpec.ofChange foldAsksSpec)

/-- ITS FALSE NEIGHBOUR: 'it returns false'. Refute it at one input. -/
def foldAsksWrong : ChangeSpec := { name := "foldAsks", fn := fun _ => fun
  | [d1, d2] => { results := [.lit (.bool false)], args := [d1, d2] }
  | _ => none }
def FoldAsksWrongFalsely : Prop := foldAsksRow.holds Try.pinned (OpenSpec.ofChange foldAsksWrong)

/-- 'cordwainlaw13.FoldLast': WHATEVER THE INPUT: true; the input reads as it did. -/
def foldLastSpec : ChangeSpec := { name := "foldLast", fn := fun _ => fun
  | [d] => { results := [.lit (.bool true)], args := [d] }
  | _ => none }
def foldLastRow : OpenClaim := { program := "ytecnfekcflfihaa", sum := "c09c781c347331138a5a93bfe5061034912a123ddc5954f12cd0d3ef639c2305", func := "cordwain/cordwainlaw13.FoldLast", spec := "foldLast", unfollowed := true, recurses := true, apart := false }
def FoldLastSaid : Prop := foldLastRow.holds Try.pinned (OpenSpec.ofChange foldLastSpec)

/-- ITS FALSE NEIGHBOUR: 'it returns false'. Refute it at one input. -/
def foldLastWrong : ChangeSpec := { name := "foldLast", fn := fun _ => fun
  | [d] => { results := [.lit (.bool false)], args := [d] }
  | _ => none }
def FoldLastWrongFalsely : Prop := foldLastRow.holds Try.pinned (OpenSpec.ofChange foldLastWrong)

/-- 'cordwainlaw13.FoldRestricts': WHATEVER THE INPUT: true; the input reads as it did. -/
def foldRestrictsSpec : ChangeSpec := { name := "foldRestricts", fn := fun _ => fun
  | [d1, d2, d3, d4, d5] => { results := [.lit (.bool true)], args := [d1, d2, d3, d4, d5] }
  | _ => none }
def foldRestrictsRow : OpenClaim := { program := "ytecnfekcflfihaa", sum := "c09c781c347331138a5a93bfe5061034912a123ddc5954f12cd0d3ef639c2305", func := "cordwain/cordwainlaw13.FoldRestricts", spec := "foldRestricts", unfollowed := true, recurses := true, apart := false }
def FoldRestrictsSaid : Prop := foldRestrictsRow.holds Try.pinned (OpenSpec.ofChange foldRestrictsSpec)

/-- ITS FALSE NEIGHBOUR: 'it returns false'. Refute it at one input. -/
def foldRestrictsWrong : ChangeSpec := { name := "foldRestricts", fn := fun _ => fun
  | [d1, d2, d3, d4, d5] => { results := [.lit (.bool false)], args := [d1, d2, d3, d4, d5] }
  | _ => none }
def FoldRestrictsWrongFalsely : Prop := foldRestrictsRow.holds Try.pinned (OpenSpec.ofChange foldRestrictsWrong)

/-- 'cordwainlaw13.FoldWhole': WHATEVER THE INPUT: true; the input reads as it did. -/
def foldWholeSpec : ChangeSpec := { name := "foldWhole", fn := fun _ => fun
  | [d1, d2] => { results := [.lit (.bool true)], args := [d1, d2] }
  | _ => none }
def foldWholeRow : OpenClaim := { program := "ytecnfekcflfihaa", sum := "c09c781c347331138a5a93bfe5061034912a123ddc5954f12cd0d3ef639c2305", func := "cordwain/cordwainlaw13.FoldWhole", spec := "foldWhole", unfollowed := true, recurses := true, apart := false }
def FoldWholeSaid : Prop := foldWholeRow.holds Try.pinned (OpenSpec.ofChange foldWholeSpec)

/-- ITS FALSE NEIGHBOUR: 'it returns false'. Refute it at one input. -/
def foldWholeWrong : ChangeSpec := { name := "foldWhole", fn := fun _ => fun
  | [d1, d2] => { results := [.lit (.bool false)], args := [d1, d2] }
  | _ => none }
def FoldWholeWrongFalsely : Prop := foldWholeRow.holds Try.pinned (OpenSpec.ofChange foldWholeWrong)

/-- 'cordwainlaw14.CleanFolds': WHATEVER THE INPUT: true; the input reads as it did. -/
def cleanFoldsSpec : ChangeSpec := { name := "cleanFolds", fn := fun _ => fun
  | [d1, d2, d3] => { results := [.lit (.bool true)], args := [d1, d2, d3] }
  | _ => none }
def cleanFoldsRow : OpenClaim := { program := "ytecnfekcflfihaa", sum := "c09c781c347331138a5a93bfe5061034912a123ddc5954f12cd0d3ef639c2305", func := "cordwain/cordwainlaw14.CleanFolds", spec := "cleanFolds", unfollowed := true, recurses := true, apart := false }
def CleanFoldsSaid : Prop := cleanFoldsRow.holds Try.pinned (OpenSpec.ofChange cleanFoldsSpec)

/-- ITS FALSE NEIGHBOUR: 'it returns false'. Refute it at one input. -/
def cleanFoldsWrong : ChangeSpec := { name := "cleanFolds", fn := fun _ => fun
  | [d1, d2, d3] => { results := [.lit (.bool false)], args := [d1, d2, d3] }
  | _ => none }
def CleanFoldsWrongFalsely : Prop := cleanFoldsRow.holds Try.pinned (OpenSpec.ofChange cleanFoldsWrong)

/- THE SECOND FORM. 'bulk': how many values and letters a reading holds, each counted each time it is reached (what is shared counts as often as it is met; a slice's spare places count too). A statement '..UptoSaid' is the law's where the arguments, and the package variables that the reading takes, are together of bulk at most 1048576: NARROWER than '..Said'. Prove '..Said' where nothing that the law and all that it calls make is longer than what came in: it says more and counts as full. Else prove '..UptoSaid'. A law counts once. -/
mutual
def uptoBulk {H : Type} : DataW H → Nat
  | .lit (.string bytes) => bytes.length + 1
  | .lit _ => 1
  | .nil => 1
  | .ptr d => uptoBulk d + 1
  | .slice elems spare => uptoBulkAll elems + uptoBulkAll spare + 1
  | .agg parts => uptoBulkAll parts + 1
  | .iface _ d => uptoBulk d + 1
  | .map entries => uptoBulkEntries entries + 1
  | .held _ => 1
def uptoBulkAll {H : Type} : List (DataW H) → Nat
  | [] => 0
  | d :: r => uptoBulk d + uptoBulkAll r
def uptoBulkEntries {H : Type} : List (Lit × DataW H) → Nat
  | [] => 0
  | x :: r => uptoBulkEntry x + uptoBulkEntries r
def uptoBulkEntry {H : Type} : Lit × DataW H → Nat
  | (.string bytes, d) => bytes.length + uptoBulk d + 1
  | (_, d) => uptoBulk d + 1
 end
def uptoSmall : (H : Type) → List (DataW H) → Bool := fun _ ds => decide (uptoBulkAll ds ≤ 1048576)
def OpenSpec.upto (s : _root_.Go.ChangeSpec) : _root_.Go.OpenSpec := { _root_.Go.OpenSpec.ofChange s with cond := some uptoSmall }

/-- 'cordwainlaw14.CleanAsks', WHERE WHAT IT READS IS OF BULK AT MOST 1048576: true; the input reads as it did. -/
def cleanAsksUptoRow : OpenClaim := { program := "ytecnfekcflfihaa", sum := "c09c781c347331138a5a93bfe5061034912a123ddc5954f12cd0d3ef639c2305", func := "cordwain/cordwainlaw14.CleanAsks", spec := "cleanAsks", apart := false, narrowed := true }
def CleanAsksUptoSaid : Prop := cleanAsksUptoRow.holds Try.pinned (OpenSpec.upto cleanAsksSpec)

/-- 'cordwainlaw14.CleanParts', WHERE WHAT IT READS IS OF BULK AT MOST 1048576: true; the input reads as it did. -/
def cleanPartsUptoRow : OpenClaim := { program := "ytecnfekcflfihaa", sum := "c09c781c347331138a5a93bfe5061034912a123ddc5954f12cd0d3ef639c2305", func := "cordwain/cordwainlaw14.CleanParts", spec := "cleanParts", apart := false, narrowed := true }
def CleanPartsUptoSaid : Prop := cleanPartsUptoRow.holds Try.pinned (OpenSpec.upto cleanPartsSpec)

/-- 'cordwainlaw14.CleanGrace', WHERE WHAT IT READS IS OF BULK AT MOST 1048576: true; the input reads as it did. -/
def cleanGraceUptoRow : OpenClaim := { program := "ytecnfekcflfihaa", sum := "c09c781c347331138a5a93bfe5061034912a123ddc5954f12cd0d3ef639c2305", func := "cordwain/cordwainlaw14.CleanGrace", spec := "cleanGrace", apart := false, narrowed := true }
def CleanGraceUptoSaid : Prop := cleanGraceUptoRow.holds Try.pinned (OpenSpec.upto cleanGraceSpec)

/-- 'cordwainlaw14.CleanKeeps', WHERE WHAT IT READS IS OF BULK AT MOST 1048576: true; the input reads as it did. -/
def cleanKeepsUptoRow : OpenClaim := { program := "ytecnfekcflfihaa", sum := "c09c781c347331138a5a93bfe5061034912a123ddc5954f12cd0d3ef639c2305", func := "cordwain/cordwainlaw14.CleanKeeps", spec := "cleanKeeps", apart := false, narrowed := true }
def CleanKeepsUptoSaid : Prop := cleanKeepsUptoRow.holds Try.pinned (OpenSpec.upto cleanKeepsSpec)

/-- 'cordwainlaw14.CleanAll', WHERE WHAT IT READS IS OF BULK AT MOST 1048576: true; the input reads as it did. -/
def cleanAllUptoRow : OpenClaim := { program := "ytecnfekcflfihaa", sum := "c09c781c347331138a5a93bfe5061034912a123ddc5954f12cd0d3ef639c2305", func := "cordwain/cordwainlaw14.CleanAll", spec := "cleanAll", apart := false, narrowed := true }
def CleanAllUptoSaid : Prop := cleanAllUptoRow.holds Try.pinned (OpenSpec.upto cleanAllSpec)

/-- 'cordwainlaw13.FoldAsks', WHERE WHAT IT READS IS OF BULK AT MOST 1048576: true; the input reads as it did. -/
def foldAsksUptoRow : OpenClaim := { program := "ytecnfekcflfihaa", sum := "c09c781c347331138a5a93bfe5061034912a123ddc5954f12cd0d3ef639c2305", func := "cordwain/cordwainlaw13.FoldAsks", spec := "foldAsks", unfollowed := true, recurses := true, apart := false, narrowed := true }
def FoldAsksUptoSaid : Prop := foldAsksUptoRow.holds Try.pinned (OpenSpec.upto foldAsksSpec)

/-- 'cordwainlaw13.FoldLast', WHERE WHAT IT READS IS OF BULK AT MOST 1048576: true; the input reads as it did. -/
def foldLastUptoRow : OpenClaim := { program := "ytecnfekcflfihaa", sum := "c09c781c347331138a5a93bfe5061034912a123ddc5954f12cd0d3ef639c2305", func := "cordwain/cordwainlaw13.FoldLast", spec := "foldLast", unfollowed := true, recurses := true, apart := false, narrowed := true }
def FoldLastUptoSaid : Prop := foldLastUptoRow.holds Try.pinned (OpenSpec.upto foldLastSpec)

/-- 'cordwainlaw13.FoldRestricts', WHERE WHAT IT READS IS OF BULK AT MOST 1048576: true; the input reads as it did. -/
def foldRestrictsUptoRow : OpenClaim := { program := "ytecnfekcflfihaa", sum := "c09c781c347331138a5a93bfe5061034912a123ddc5954f12cd0d3ef639c2305", func := "cordwain/cordwainlaw13.FoldRestricts", spec := "foldRestricts", unfollowed := true, recurses := true, apart := false, narrowed := true }
def FoldRestrictsUptoSaid : Prop := foldRestrictsUptoRow.holds Try.pinned (OpenSpec.upto foldRestrictsSpec)

/-- 'cordwainlaw13.FoldWhole', WHERE WHAT IT READS IS OF BULK AT MOST 1048576: true; the input reads as it did. -/
def foldWholeUptoRow : OpenClaim := { program := "ytecnfekcflfihaa", sum := "c09c781c347331138a5a93bfe5061034912a123ddc5954f12cd0d3ef639c2305", func := "cordwain/cordwainlaw13.FoldWhole", spec := "foldWhole", unfollowed := true, recurses := true, apart := false, narrowed := true }
def FoldWholeUptoSaid : Prop := foldWholeUptoRow.holds Try.pinned (OpenSpec.upto foldWholeSpec)

/-- 'cordwainlaw14.CleanFolds', WHERE WHAT IT READS IS OF BULK AT MOST 1048576: true; the input reads as it did. -/
def cleanFoldsUptoRow : OpenClaim := { program := "ytecnfekcflfihaa", sum := "c09c781c347331138a5a93bfe5061034912a123ddc5954f12cd0d3ef639c2305", func := "cordwain/cordwainlaw14.CleanFolds", spec := "cleanFolds", unfollowed := true, recurses := true, apart := false, narrowed := true }
def CleanFoldsUptoSaid : Prop := cleanFoldsUptoRow.holds Try.pinned (OpenSpec.upto cleanFoldsSpec)

end Rows
end Go.Proofs.Ytecnfekcflfihaa
