/-
  No cell of these rows narrows 'for every input' (looked for: loops, veiled, ifaces, maps, wideKeys, modest, calm, conditions, laid).
  DERIVED. THE GIVEN ROWS OF THIS SEAT. 10 by the template 'for every input the law returns true; each argument reads behind the call as it read before'; 0 by the template 'total and deterministic' (their statements: YtakodondlmiklaaTotals.lean).
  GIVEN WITH THE SEED: the statements are not yours to turn. If you find one false, say at which input.
  Laid BY PROGRAM, IN A SANDBOX (cutbox-rows.mjs): the forced cells as the released guide's own fill.sh prints them over the translation 7557b268e2992db6… (all of the seat's roots in one cut). By AI agents, Wed Nov 11 2026. No macro, syntax, notation, axiom, sorry.
-/
import Derived.Test.YtakodondlmiklaaChecked
import GoSem.Claim
import GoSem.ClaimJoined
import GoSem.ClaimMapViews
import Derived.JoinedTies
import Derived.KernelRfl
namespace Go.Proofs.Ytakodondlmiklaa
/- THE CELL 'sum', in the pinned program and in every row, IS THE sha256 OF THE DUMP (.gsa) THAT YtakodondlmiklaaProg.lean LOADS. Nothing in Lean hashes anything: it is a label: what it is worth is what the hold of that sum in a sandbox is worth. -/
noncomputable def Try.pinned : Pinned := { name := "ytakodondlmiklaa", sum := "7557b268e2992db6f085b1282cac89f5820b3fbf23da40781e542ecdd340bd1f", checked := Try.checked }
namespace Rows
def none {H : Type} : Left H := { results := [], args := [] }

/-- 'cordwainlaw1.NumAsks': WHATEVER THE INPUT: true; the input reads as it did. -/
def numAsksSpec : ChangeSpec := { name := "numAsks", fn := fun _ => fun
  | [d1, d2, d3] => { results := [.lit (.bool true)], args := [d1, d2, d3] }
  | _ => none }
def numAsksRow : OpenClaim := { program := "ytakodondlmiklaa", sum := "7557b268e2992db6f085b1282cac89f5820b3fbf23da40781e542ecdd340bd1f", func := "cordwain/cordwainlaw1.NumAsks", spec := "numAsks", apart := false }
def NumAsksSaid : Prop := numAsksRow.holds Try.pinned (OpenSpec.ofChange numAsksSpec)

/-- ITS FALSE NEIGHBOUR: 'it returns false'. Refute it at one input. -/
def numAsksWrong : ChangeSpec := { name := "numAsks", fn := fun _ => fun
  | [d1, d2, d3] => { results := [.lit (.bool false)], args := [d1, d2, d3] }
  | _ => none }
def NumAsksWrongFalsely : Prop := numAsksRow.holds Try.pinned (OpenSpec.ofChange numAsksWrong)

/-- 'cordwainlaw1.NumBack': WHATEVER THE INPUT: true; the input reads as it did. -/
def numBackSpec : ChangeSpec := { name := "numBack", fn := fun _ => fun
  | [d1, d2, d3] => { results := [.lit (.bool true)], args := [d1, d2, d3] }
  | _ => none }
def numBackRow : OpenClaim := { program := "ytakodondlmiklaa", sum := "7557b268e2992db6f085b1282cac89f5820b3fbf23da40781e542ecdd340bd1f", func := "cordwain/cordwainlaw1.NumBack", spec := "numBack", apart := false }
def NumBackSaid : Prop := numBackRow.holds Try.pinned (OpenSpec.ofChange numBackSpec)

/-- ITS FALSE NEIGHBOUR: 'it returns false'. Refute it at one input. -/
def numBackWrong : ChangeSpec := { name := "numBack", fn := fun _ => fun
  | [d1, d2, d3] => { results := [.lit (.bool false)], args := [d1, d2, d3] }
  | _ => none }
def NumBackWrongFalsely : Prop := numBackRow.holds Try.pinned (OpenSpec.ofChange numBackWrong)

/-- 'cordwainlaw1.NumLengths': WHATEVER THE INPUT: true; the input reads as it did. -/
def numLengthsSpec : ChangeSpec := { name := "numLengths", fn := fun _ => fun
  | [d1, d2] => { results := [.lit (.bool true)], args := [d1, d2] }
  | _ => none }
def numLengthsRow : OpenClaim := { program := "ytakodondlmiklaa", sum := "7557b268e2992db6f085b1282cac89f5820b3fbf23da40781e542ecdd340bd1f", func := "cordwain/cordwainlaw1.NumLengths", spec := "numLengths", apart := false }
def NumLengthsSaid : Prop := numLengthsRow.holds Try.pinned (OpenSpec.ofChange numLengthsSpec)

/-- ITS FALSE NEIGHBOUR: 'it returns false'. Refute it at one input. -/
def numLengthsWrong : ChangeSpec := { name := "numLengths", fn := fun _ => fun
  | [d1, d2] => { results := [.lit (.bool false)], args := [d1, d2] }
  | _ => none }
def NumLengthsWrongFalsely : Prop := numLengthsRow.holds Try.pinned (OpenSpec.ofChange numLengthsWrong)

/-- 'cordwainlaw11.RetainOver': WHATEVER THE INPUT: true; the input reads as it did. -/
def retainOverSpec : ChangeSpec := { name := "retainOver", fn := fun _ => fun
  | [d1, d2, d3, d4] => { results := [.lit (.bool true)], args := [d1, d2, d3, d4] }
  | _ => none }
def retainOverRow : OpenClaim := { program := "ytakodondlmiklaa", sum := "7557b268e2992db6f085b1282cac89f5820b3fbf23da40781e542ecdd340bd1f", func := "cordwain/cordwainlaw11.RetainOver", spec := "retainOver", apart := false }
def RetainOverSaid : Prop := retainOverRow.holds Try.pinned (OpenSpec.ofChange retainOverSpec)

/-- ITS FALSE NEIGHBOUR: 'it returns false'. Refute it at one input. -/
def retainOverWrong : ChangeSpec := { name := "retainOver", fn := fun _ => fun
  | [d1, d2, d3, d4] => { results := [.lit (.bool false)], args := [d1, d2, d3, d4] }
  | _ => none }
def RetainOverWrongFalsely : Prop := retainOverRow.holds Try.pinned (OpenSpec.ofChange retainOverWrong)

/-- 'cordwainlaw11.RetainRolls': WHATEVER THE INPUT: true; the input reads as it did. -/
def retainRollsSpec : ChangeSpec := { name := "retainRolls", fn := fun _ => fun
  | [d1, d2, d3, d4, d5, d6] => { results := [.lit (.bool true)], args := [d1, d2, d3, d4, d5, d6] }
  | _ => none }
def retainRollsRow : OpenClaim := { program := "ytakodondlmiklaa", sum := "7557b268e2992db6f085b1282cac89f5820b3fbf23da40781e542ecdd340bd1f", func := "cordwain/cordwainlaw11.RetainRolls", spec := "retainRolls", apart := false }
def RetainRollsSaid : Prop := retainRollsRow.holds Try.pinned (OpenSpec.ofChange retainRollsSpec)

/-- ITS FALSE NEIGHBOUR: 'it returns false'. Refute it at one input. -/
def retainRollsWrong : ChangeSpec := { name := "retainRolls", fn := fun _ => fun
  | [d1, d2, d3, d4, d5, d6] => { results := [.lit (.bool false)], args := [d1, d2, d3, d4, d5, d6] }
  | _ => none }
def RetainRollsWrongFalsely : Prop := retainRollsRow.holds Try.pinned (OpenSpec.ofChange retainRollsWrong)

/-- 'cordwainlaw2.CrcSums': WHATEVER THE INPUT: true; the input reads as it did. -/
def crcSumsSpec : ChangeSpec := { name := "crcSums", fn := fun _ => fun
  | [d] => { results := [.lit (.bool true)], args := [d] }
  | _ => none }
def crcSumsRow : OpenClaim := { program := "ytakodondlmiklaa", sum := "7557b268e2992db6f085b1282cac89f5820b3fbf23da40781e542ecdd340bd1f", func := "cordwain/cordwainlaw2.CrcSums", spec := "crcSums", apart := false }
def CrcSumsSaid : Prop := crcSumsRow.holds Try.pinned (OpenSpec.ofChange crcSumsSpec)

/-- ITS FALSE NEIGHBOUR: 'it returns false'. Refute it at one input. -/
def crcSumsWrong : ChangeSpec := { name := "crcSums", fn := fun _ => fun
  | [d] => { results := [.lit (.bool false)], args := [d] }
  | _ => none }
def CrcSumsWrongFalsely : Prop := crcSumsRow.holds Try.pinned (OpenSpec.ofChange crcSumsWrong)

/-- 'cordwainlaw2.CrcGoes': WHATEVER THE INPUT: true; the input reads as it did. -/
def crcGoesSpec : ChangeSpec := { name := "crcGoes", fn := fun _ => fun
  | [d1, d2, d3] => { results := [.lit (.bool true)], args := [d1, d2, d3] }
  | _ => none }
def crcGoesRow : OpenClaim := { program := "ytakodondlmiklaa", sum := "7557b268e2992db6f085b1282cac89f5820b3fbf23da40781e542ecdd340bd1f", func := "cordwain/cordwainlaw2.CrcGoes", spec := "crcGoes", apart := false }
def CrcGoesSaid : Prop := crcGoesRow.holds Try.pinned (OpenSpec.ofChange crcGoesSpec)

/-- ITS FALSE NEIGHBOUR: 'it returns false'. Refute it at one input. -/
def crcGoesWrong : ChangeSpec := { name := "crcGoes", fn := fun _ => fun
  | [d1, d2, d3] => { results := [.lit (.bool false)], args := [d1, d2, d3] }
  | _ => none }
def CrcGoesWrongFalsely : Prop := crcGoesRow.holds Try.pinned (OpenSpec.ofChange crcGoesWrong)

/-- 'cordwainlaw11.RetainAsks': WHATEVER THE INPUT: true; the input reads as it did. -/
def retainAsksSpec : ChangeSpec := { name := "retainAsks", fn := fun _ => fun
  | [d1, d2, d3, d4, d5] => { results := [.lit (.bool true)], args := [d1, d2, d3, d4, d5] }
  | _ => none }
def retainAsksRow : OpenClaim := { program := "ytakodondlmiklaa", sum := "7557b268e2992db6f085b1282cac89f5820b3fbf23da40781e542ecdd340bd1f", func := "cordwain/cordwainlaw11.RetainAsks", spec := "retainAsks", apart := false }
def RetainAsksSaid : Prop := retainAsksRow.holds Try.pinned (OpenSpec.ofChange retainAsksSpec)

/-- ITS FALSE NEIGHBOUR: 'it returns false'. Refute it at one input. -/
def retainAsksWrong : ChangeSpec := { name := "retainAsks", fn := fun _ => fun
  | [d1, d2, d3, d4, d5] => { results := [.lit (.bool false)], args := [d1, d2, d3, d4, d5] }
  | _ => none }
def RetainAsksWrongFalsely : Prop := retainAsksRow.holds Try.pinned (OpenSpec.ofChange retainAsksWrong)

/-- 'cordwainlaw11.RetainTrims': WHATEVER THE INPUT: true; the input reads as it did. -/
def retainTrimsSpec : ChangeSpec := { name := "retainTrims", fn := fun _ => fun
  | [d1, d2] => { results := [.lit (.bool true)], args := [d1, d2] }
  | _ => none }
def retainTrimsRow : OpenClaim := { program := "ytakodondlmiklaa", sum := "7557b268e2992db6f085b1282cac89f5820b3fbf23da40781e542ecdd340bd1f", func := "cordwain/cordwainlaw11.RetainTrims", spec := "retainTrims", apart := false }
def RetainTrimsSaid : Prop := retainTrimsRow.holds Try.pinned (OpenSpec.ofChange retainTrimsSpec)

/-- ITS FALSE NEIGHBOUR: 'it returns false'. Refute it at one input. -/
def retainTrimsWrong : ChangeSpec := { name := "retainTrims", fn := fun _ => fun
  | [d1, d2] => { results := [.lit (.bool false)], args := [d1, d2] }
  | _ => none }
def RetainTrimsWrongFalsely : Prop := retainTrimsRow.holds Try.pinned (OpenSpec.ofChange retainTrimsWrong)

/-- 'cordwainlaw1.NumWalks': WHATEVER THE INPUT: true; the input reads as it did. -/
def numWalksSpec : ChangeSpec := { name := "numWalks", fn := fun _ => fun
  | [d1, d2, d3] => { results := [.lit (.bool true)], args := [d1, d2, d3] }
  | _ => none }
def numWalksRow : OpenClaim := { program := "ytakodondlmiklaa", sum := "7557b268e2992db6f085b1282cac89f5820b3fbf23da40781e542ecdd340bd1f", func := "cordwain/cordwainlaw1.NumWalks", spec := "numWalks", unfollowed := true, recurses := true, apart := false }
def NumWalksSaid : Prop := numWalksRow.holds Try.pinned (OpenSpec.ofChange numWalksSpec)

/-- ITS FALSE NEIGHBOUR: 'it returns false'. Refute it at one input. -/
def numWalksWrong : ChangeSpec := { name := "numWalks", fn := fun _ => fun
  | [d1, d2, d3] => { results := [.lit (.bool false)], args := [d1, d2, d3] }
  | _ => none }
def NumWalksWrongFalsely : Prop := numWalksRow.holds Try.pinned (OpenSpec.ofChange numWalksWrong)

/- THE SECOND FORM. 'bulk': how many values and letters a reading holds, each counted each time it is reached (what is shared counts as often as it is met; a slice's spare places count too). A statement '..UptoSaid' is the law's where the arguments, and the package variables that the reading takes, are together of bulk at most 1048576: NARROWER than '..Said'. Prove '..Said' where nothing that the law and all that it calls make is longer than what came in: it says more and counts as full. Else prove '..UptoSaid'. A law counts once. -/
mutual
def uptoBulk {H : Type} : DataW H → Nat
  | .lit (.string bytes) => bytes.length + 1
  | .lit _ => 1
  | .nil => 1
  | .ptr d => uptoBulk d + 1
  | .slice elems spare => uptoBulkAll elems + uptoBulkAll spare + 1
  | .agg parts => uptoBulkAll parts + 1
  | .iface _ d => uptoBulk d + 1
  | .map entries => uptoBulkEntries entries + 1
  | .held _ => 1
def uptoBulkAll {H : Type} : List (DataW H) → Nat
  | [] => 0
  | d :: r => uptoBulk d + uptoBulkAll r
def uptoBulkEntries {H : Type} : List (Lit × DataW H) → Nat
  | [] => 0
  | x :: r => uptoBulkEntry x + uptoBulkEntries r
def uptoBulkEntry {H : Type} : Lit × DataW H → Nat
  | (.string bytes, d) => bytes.length + uptoBulk d + 1
  | (_, d) => uptoBulk d + 1
 end
def uptoSmall : (H : Type) → List (DataW H) → Bool := fun _ ds => decide (uptoBulkAll ds ≤ 1048576)
def OpenSpec.upto (s : _root_.Go.ChangeSpec) : _root_.Go.OpenSpec := { _root_.Go.OpenSpec.ofChange s with cond := some uptoSmall }

/-- 'cordwainlaw1.NumAsks', WHERE WHAT IT READS IS OF BULK AT MOST 1048576: true; the input reads as it did. -/
def numAsksUptoRow : OpenClaim := { program := "ytakodondlmiklaa", sum := "7557b268e2992db6f085b1282cac89f5820b3fbf23da40781e542ecdd340bd1f", func := "cordwain/cordwainlaw1.NumAsks", spec := "numAsks", apart := false, narrowed := true }
def NumAsksUptoSaid : Prop := numAsksUptoRow.holds Try.pinned (OpenSpec.upto numAsksSpec)

/-- 'cordwainlaw1.NumBack', WHERE WHAT IT READS IS OF BULK AT MOST 1048576: true; the input reads as it did. -/
def numBackUptoRow : OpenClaim := { program := "ytakodondlmiklaa", sum := "7557b268e2992db6f085b1282cac89f5820b3fbf23da40781e542ecdd340bd1f", func := "cordwain/cordwainlaw1.NumBack", spec := "numBack", apart := false, narrowed := true }
def NumBackUptoSaid : Prop := numBackUptoRow.holds Try.pinned (OpenSpec.upto numBackSpec)

/-- 'cordwainlaw1.NumLengths', WHERE WHAT IT READS IS OF BULK AT MOST 1048576: true; the input reads as it did. -/
def numLengthsUptoRow : OpenClaim := { program := "ytakodondlmiklaa", sum := "7557b268e2992db6f085b1282cac89f5820b3fbf23da40781e542ecdd340bd1f", func := "cordwain/cordwainlaw1.NumLengths", spec := "numLengths", apart := false, narrowed := true }
def NumLengthsUptoSaid : Prop := numLengthsUptoRow.holds Try.pinned (OpenSpec.upto numLengthsSpec)

/-- 'cordwainlaw11.RetainOver', WHERE WHAT IT READS IS OF BULK AT MOST 1048576: true; the input reads as it did. -/
def retainOverUptoRow : OpenClaim := { program := "ytakodondlmiklaa", sum := "7557b268e2992db6f085b1282cac89f5820b3fbf23da40781e542ecdd340bd1f", func := "cordwain/cordwainlaw11.RetainOver", spec := "retainOver", apart := false, narrowed := true }
def RetainOverUptoSaid : Prop := retainOverUptoRow.holds Try.pinned (OpenSpec.upto retainOverSpec)

/-- 'cordwainlaw11.RetainRolls', WHERE WHAT IT READS IS OF BULK AT MOST 1048576: true; the input reads as it did. -/
def retainRollsUptoRow : OpenClaim := { program := "ytakodondlmiklaa", sum := "7557b268e2992db6f085b1282cac89f5820b3fbf23da40781e542ecdd340bd1f", func := "cordwain/cordwainlaw11.RetainRolls", spec := "retainRolls", apart := false, narrowed := true }
def RetainRollsUptoSaid : Prop := retainRollsUptoRow.holds Try.pinned (OpenSpec.upto retainRollsSpec)

/-- 'cordwainlaw2.CrcSums', WHERE WHAT IT READS IS OF BULK AT MOST 1048576: true; the input reads as it did. -/
def crcSumsUptoRow : OpenClaim := { program := "ytakodondlmiklaa", sum := "7557b268e2992db6f085b1282cac89f5820b3fbf23da40781e542ecdd340bd1f", func := "cordwain/cordwainlaw2.CrcSums", spec := "crcSums", apart := false, narrowed := true }
def CrcSumsUptoSaid : Prop := crcSumsUptoRow.holds Try.pinned (OpenSpec.upto crcSumsSpec)

/-- 'cordwainlaw2.CrcGoes', WHERE WHAT IT READS IS OF BULK AT MOST 1048576: true; the input reads as it did. -/
def crcGoesUptoRow : OpenClaim := { program := "ytakodondlmiklaa", sum := "7557b268e2992db6f085b1282cac89f5820b3fbf23da40781e542ecdd340bd1f", func := "cordwain/cordwainlaw2.CrcGoes", spec := "crcGoes", apart := false, narrowed := true }
def CrcGoesUptoSaid : Prop := crcGoesUptoRow.holds Try.pinned (OpenSpec.upto crcGoesSpec)

/-- 'cordwainlaw11.RetainAsks', WHERE WHAT IT READS IS OF BULK AT MOST 1048576: true; the input reads as it did. -/
def retainAsksUptoRow : OpenClaim := { program := "ytakodondlmiklaa", sum := "7557b268e2992db6f085b1282cac89f5820b3fbf23da40781e542ecdd340bd1f", func := "cordwain/cordwainlaw11.RetainAsks", spec := "retainAsks", apart := false, narrowed := true }
def RetainAsksUptoSaid : Prop := retainAsksUptoRow.holds Try.pinned (OpenSpec.upto retainAsksSpec)

/-- 'cordwainlaw11.RetainTrims', WHERE WHAT IT READS IS OF BULK AT MOST 1048576: true; the input reads as it did. -/
def retainTrimsUptoRow : OpenClaim := { program := "ytakodondlmiklaa", sum := "7557b268e2992db6f085b1282cac89f5820b3fbf23da40781e542ecdd340bd1f", func := "cordwain/cordwainlaw11.RetainTrims", spec := "retainTrims", apart := false, narrowed := true }
def RetainTrimsUptoSaid : Prop := retainTrimsUptoRow.holds Try.pinned (OpenSpec.upto retainTrimsSpec)

/-- 'cordwainlaw1.NumWalks', WHERE WHAT IT READS IS OF BULK AT MOST 1048576: true; the input reads as it did. -/
def numWalksUptoRow : OpenClaim := { program := "ytakodondlmiklaa", sum := "7557b268e2992db6f085b1282cac89f5820b3fbf23da40781e542ecdd340bd1f", func := "cordwain/cordwainlaw1.NumWalks", spec := "numWalks", unfollowed := true, recurses := true, apart := false, narrowed := true }
def NumWalksUptoSaid : Prop := numWalksUptoRow.holds Try.pinned (OpenSpec.upto numWalksSpec)

end Rows
end Go.Proofs.Ytakodondlmiklaa
