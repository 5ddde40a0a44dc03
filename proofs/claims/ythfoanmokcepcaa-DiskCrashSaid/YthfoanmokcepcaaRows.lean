/-
  No cell of these rows narrows 'for every input' (looked for: loops, veiled, ifaces, maps, wideKeys, modest, calm, conditions, laid).
  DERIVED. THE GIVEN ROWS OF THIS SEAT. 7 by the template 'for every input the law returns true; each argument reads behind the call as it read before'; 0 by the template 'total and deterministic' (their statements: YthfoanmokcepcaaTotals.lean).
  GIVEN WITH THE SEED: the statements are not yours to turn. If you find one false, say at which input.
  Laid BY PROGRAM, IN A SANDBOX (cutbox-rows.mjs): the forced cells as the released guide's own fill.sh prints them over the translation 9b9c50dc3db097fb… (all of the seat's roots in one cut). By AI agents, Wed Nov 11 2026. No macro, syntax, notation, axiom, sorry.
-/
import Derived.Test.YthfoanmokcepcaaChecked
import GoSem.Claim
import GoSem.ClaimJoined
import GoSem.ClaimMapViews
import Derived.JoinedTies
import Derived.KernelRfl
namespace Go.Proofs.Ythfoanmokcepcaa
/- THE CELL 'sum', in the pinned program and in every row, IS THE sha256 OF THE DUMP (.gsa) THAT YthfoanmokcepcaaProg.lean LOADS. Nothing in Lean hashes anything: it is a label: what it is worth is what the hold of that sum in a sandbox is worth. -/
noncomputable def Try.pinned : Pinned := { name := "ythfoanmokcepcaa", sum := "9b9c50dc3db097fb4f62681c6b8ea6c86147a951d4dbcf0e7fb767ef35e8df90", checked := Try.checked }
namespace Rows
def none {H : Type} : Left H := { results := [], args := [] }

/-- 'cordwainlaw4.DiskTails': WHATEVER THE INPUT: true; the input reads as it did. -/
def diskTailsSpec : ChangeSpec := { name := "diskTails", fn := fun _ => fun
  | [d1, d2, d3] => { results := [.lit (.bool true)], args := [d1, d2, d3] }
  | _ => none }
def diskTailsRow : OpenClaim := { program := "ythfoanmokcepcaa", sum := "9b9c50dc3db097fb4f62681c6b8ea6c86147a951d4dbcf0e7fb767ef35e8df90", func := "cordwain/cordwainlaw4.DiskTails", spec := "diskTails", inPlace := ["maps.clone"], unfollowed := true, recurses := true, apart := false }
def DiskTailsSaid : Prop := diskTailsRow.holds Try.pinned (OpenSpec.ofChange diskTailsSpec)

/-- ITS FALSE NEIGHBOUR: 'it returns false'. Refute it at one input. -/
def diskTailsWrong : ChangeSpec := { name := "diskTails", fn := fun _ => fun
  | [d1, d2, d3] => { results := [.lit (.bool false)], args := [d1, d2, d3] }
  | _ => none }
def DiskTailsWrongFalsely : Prop := diskTailsRow.holds Try.pinned (OpenSpec.ofChange diskTailsWrong)

/-- 'cordwainlaw4.DiskRenames': WHATEVER THE INPUT: true; the input reads as it did. -/
def diskRenamesSpec : ChangeSpec := { name := "diskRenames", fn := fun _ => fun
  | [d1, d2, d3, d4] => { results := [.lit (.bool true)], args := [d1, d2, d3, d4] }
  | _ => none }
def diskRenamesRow : OpenClaim := { program := "ythfoanmokcepcaa", sum := "9b9c50dc3db097fb4f62681c6b8ea6c86147a951d4dbcf0e7fb767ef35e8df90", func := "cordwain/cordwainlaw4.DiskRenames", spec := "diskRenames", inPlace := ["maps.clone"], unfollowed := true, recurses := true, apart := false }
def DiskRenamesSaid : Prop := diskRenamesRow.holds Try.pinned (OpenSpec.ofChange diskRenamesSpec)

/-- ITS FALSE NEIGHBOUR: 'it returns false'. Refute it at one input. -/
def diskRenamesWrong : ChangeSpec := { name := "diskRenames", fn := fun _ => fun
  | [d1, d2, d3, d4] => { results := [.lit (.bool false)], args := [d1, d2, d3, d4] }
  | _ => none }
def DiskRenamesWrongFalsely : Prop := diskRenamesRow.holds Try.pinned (OpenSpec.ofChange diskRenamesWrong)

/-- 'cordwainlaw4.DiskNothing': WHATEVER THE INPUT: true; the input reads as it did. -/
def diskNothingSpec : ChangeSpec := { name := "diskNothing", fn := fun _ => fun
  | [d1, d2] => { results := [.lit (.bool true)], args := [d1, d2] }
  | _ => none }
def diskNothingRow : OpenClaim := { program := "ythfoanmokcepcaa", sum := "9b9c50dc3db097fb4f62681c6b8ea6c86147a951d4dbcf0e7fb767ef35e8df90", func := "cordwain/cordwainlaw4.DiskNothing", spec := "diskNothing", inPlace := ["maps.clone"], unfollowed := true, recurses := true, apart := false }
def DiskNothingSaid : Prop := diskNothingRow.holds Try.pinned (OpenSpec.ofChange diskNothingSpec)

/-- ITS FALSE NEIGHBOUR: 'it returns false'. Refute it at one input. -/
def diskNothingWrong : ChangeSpec := { name := "diskNothing", fn := fun _ => fun
  | [d1, d2] => { results := [.lit (.bool false)], args := [d1, d2] }
  | _ => none }
def DiskNothingWrongFalsely : Prop := diskNothingRow.holds Try.pinned (OpenSpec.ofChange diskNothingWrong)

/-- 'cordwainlaw4.DiskRoom': WHATEVER THE INPUT: true; the input reads as it did. -/
def diskRoomSpec : ChangeSpec := { name := "diskRoom", fn := fun _ => fun
  | [d1, d2, d3] => { results := [.lit (.bool true)], args := [d1, d2, d3] }
  | _ => none }
def diskRoomRow : OpenClaim := { program := "ythfoanmokcepcaa", sum := "9b9c50dc3db097fb4f62681c6b8ea6c86147a951d4dbcf0e7fb767ef35e8df90", func := "cordwain/cordwainlaw4.DiskRoom", spec := "diskRoom", inPlace := ["maps.clone"], unfollowed := true, recurses := true, apart := false }
def DiskRoomSaid : Prop := diskRoomRow.holds Try.pinned (OpenSpec.ofChange diskRoomSpec)

/-- ITS FALSE NEIGHBOUR: 'it returns false'. Refute it at one input. -/
def diskRoomWrong : ChangeSpec := { name := "diskRoom", fn := fun _ => fun
  | [d1, d2, d3] => { results := [.lit (.bool false)], args := [d1, d2, d3] }
  | _ => none }
def DiskRoomWrongFalsely : Prop := diskRoomRow.holds Try.pinned (OpenSpec.ofChange diskRoomWrong)

/-- 'cordwainlaw4.DiskSafe': WHATEVER THE INPUT: true; the input reads as it did. -/
def diskSafeSpec : ChangeSpec := { name := "diskSafe", fn := fun _ => fun
  | [d1, d2, d3, d4] => { results := [.lit (.bool true)], args := [d1, d2, d3, d4] }
  | _ => none }
def diskSafeRow : OpenClaim := { program := "ythfoanmokcepcaa", sum := "9b9c50dc3db097fb4f62681c6b8ea6c86147a951d4dbcf0e7fb767ef35e8df90", func := "cordwain/cordwainlaw4.DiskSafe", spec := "diskSafe", inPlace := ["maps.clone"], unfollowed := true, recurses := true, apart := false }
def DiskSafeSaid : Prop := diskSafeRow.holds Try.pinned (OpenSpec.ofChange diskSafeSpec)

/-- ITS FALSE NEIGHBOUR: 'it returns false'. Refute it at one input. -/
def diskSafeWrong : ChangeSpec := { name := "diskSafe", fn := fun _ => fun
  | [d1, d2, d3, d4] => { results := [.lit (.bool false)], args := [d1, d2, d3, d4] }
  | _ => none }
def DiskSafeWrongFalsely : Prop := diskSafeRow.holds Try.pinned (OpenSpec.ofChange diskSafeWrong)

/-- 'cordwainlaw4.DiskPlays': WHATEVER THE INPUT: true; the input reads as it did. -/
def diskPlaysSpec : ChangeSpec := { name := "diskPlays", fn := fun _ => fun
  | [d1, d2, d3] => { results := [.lit (.bool true)], args := [d1, d2, d3] }
  | _ => none }
def diskPlaysRow : OpenClaim := { program := "ythfoanmokcepcaa", sum := "9b9c50dc3db097fb4f62681c6b8ea6c86147a951d4dbcf0e7fb767ef35e8df90", func := "cordwain/cordwainlaw4.DiskPlays", spec := "diskPlays", inPlace := ["maps.clone"], unfollowed := true, recurses := true, apart := false }
def DiskPlaysSaid : Prop := diskPlaysRow.holds Try.pinned (OpenSpec.ofChange diskPlaysSpec)

/-- ITS FALSE NEIGHBOUR: 'it returns false'. Refute it at one input. -/
def diskPlaysWrong : ChangeSpec := { name := "diskPlays", fn := fun _ => fun
  | [d1, d2, d3] => { results := [.lit (.bool false)], args := [d1, d2, d3] }
  | _ => none }
def DiskPlaysWrongFalsely : Prop := diskPlaysRow.holds Try.pinned (OpenSpec.ofChange diskPlaysWrong)

/-- 'cordwainlaw4.DiskCrash': WHATEVER THE INPUT: true; the input reads as it did. -/
def diskCrashSpec : ChangeSpec := { name := "diskCrash", fn := fun _ => fun
  | [d1, d2, d3, d4, d5] => { results := [.lit (.bool true)], args := [d1, d2, d3, d4, d5] }
  | _ => none }
def diskCrashRow : OpenClaim := { program := "ythfoanmokcepcaa", sum := "9b9c50dc3db097fb4f62681c6b8ea6c86147a951d4dbcf0e7fb767ef35e8df90", func := "cordwain/cordwainlaw4.DiskCrash", spec := "diskCrash", inPlace := ["maps.clone"], unfollowed := true, recurses := true, apart := false }
def DiskCrashSaid : Prop := diskCrashRow.holds Try.pinned (OpenSpec.ofChange diskCrashSpec)

/-- ITS FALSE NEIGHBOUR: 'it returns false'. Refute it at one input. -/
def diskCrashWrong : ChangeSpec := { name := "diskCrash", fn := fun _ => fun
  | [d1, d2, d3, d4, d5] => { results := [.lit (.bool false)], args := [d1, d2, d3, d4, d5] }
  | _ => none }
def DiskCrashWrongFalsely : Prop := diskCrashRow.holds Try.pinned (OpenSpec.ofChange diskCrashWrong)

/- THE SECOND FORM. 'bulk': how many values and letters a reading holds, each counted each time it is reached (what is shared counts as often as it is met; a slice's spare places count too). A statement '..UptoSaid' is the law's where the arguments, and the package variables that the reading takes, are together of bulk at most 1048576: NARROWER than '..Said'. Prove '..Said' where nothing that the law and all that it calls make is longer than what came in: it says more and counts as full. Else prove '..UptoSaid'. A law counts once. -/
mutual
def uptoBulk {H : Type} : DataW H → Nat
  | .lit (.string bytes) => bytes.length + 1
  | .lit _ => 1
  | .nil => 1
  | .ptr d => uptoBulk d + 1
  | .slice elems spare => uptoBulkAll elems + uptoBulkAll spare + 1
  | .agg parts => uptoBulkAll parts + 1
  | .iface _ d => uptoBulk d + 1
  | .map entries => uptoBulkEntries entries + 1
  | .held _ => 1
def uptoBulkAll {H : Type} : List (DataW H) → Nat
  | [] => 0
  | d :: r => uptoBulk d + uptoBulkAll r
def uptoBulkEntries {H : Type} : List (Lit × DataW H) → Nat
  | [] => 0
  | x :: r => uptoBulkEntry x + uptoBulkEntries r
def uptoBulkEntry {H : Type} : Lit × DataW H → Nat
  | (.string bytes, d) => bytes.length + uptoBulk d + 1
  | (_, d) => uptoBulk d + 1
 end
def uptoSmall : (H : Type) → List (DataW H) → Bool := fun _ ds => decide (uptoBulkAll ds ≤ 1048576)
def OpenSpec.upto (s : _root_.Go.ChangeSpec) : _root_.Go.OpenSpec := { _root_.Go.OpenSpec.ofChange s with cond := some uptoSmall }

/-- 'cordwainlaw4.DiskTails', WHERE WHAT IT READS IS OF BULK AT MOST 1048576: true; the input reads as it did. -/
def diskTailsUptoRow : OpenClaim := { program := "ythfoanmokcepcaa", sum := "9b9c50dc3db097fb4f62681c6b8ea6c86147a951d4dbcf0e7fb767ef35e8df90", func := "cordwain/cordwainlaw4.DiskTails", spec := "diskTails", inPlace := ["maps.clone"], unfollowed := true, recurses := true, apart := false, narrowed := true }
def DiskTailsUptoSaid : Prop := diskTailsUptoRow.holds Try.pinned (OpenSpec.upto diskTailsSpec)

/-- 'cordwainlaw4.DiskRenames', WHERE WHAT IT READS IS OF BULK AT MOST 1048576: true; the input reads as it did. -/
def diskRenamesUptoRow : OpenClaim := { program := "ythfoanmokcepcaa", sum := "9b9c50dc3db097fb4f62681c6b8ea6c86147a951d4dbcf0e7fb767ef35e8df90", func := "cordwain/cordwainlaw4.DiskRenames", spec := "diskRenames", inPlace := ["maps.clone"], unfollowed := true, recurses := true, apart := false, narrowed := true }
def DiskRenamesUptoSaid : Prop := diskRenamesUptoRow.holds Try.pinned (OpenSpec.upto diskRenamesSpec)

/-- 'cordwainlaw4.DiskNothing', WHERE WHAT IT READS IS OF BULK AT MOST 1048576: true; the input reads as it did. -/
def diskNothingUptoRow : OpenClaim := { program := "ythfoanmokcepcaa", sum := "9b9c50dc3db097fb4f62681c6b8ea6c86147a951d4dbcf0e7fb767ef35e8df90", func := "cordwain/cordwainlaw4.DiskNothing", spec := "diskNothing", inPlace := ["maps.clone"], unfollowed := true, recurses := true, apart := false, narrowed := true }
def DiskNothingUptoSaid : Prop := diskNothingUptoRow.holds Try.pinned (OpenSpec.upto diskNothingSpec)

/-- 'cordwainlaw4.DiskRoom', WHERE WHAT IT READS IS OF BULK AT MOST 1048576: true; the input reads as it did. -/
def diskRoomUptoRow : OpenClaim := { program := "ythfoanmokcepcaa", sum := "9b9c50dc3db097fb4f62681c6b8ea6c86147a951d4dbcf0e7fb767ef35e8df90", func := "cordwain/cordwainlaw4.DiskRoom", spec := "diskRoom", inPlace := ["maps.clone"], unfollowed := true, recurses := true, apart := false, narrowed := true }
def DiskRoomUptoSaid : Prop := diskRoomUptoRow.holds Try.pinned (OpenSpec.upto diskRoomSpec)

/-- 'cordwainlaw4.DiskSafe', WHERE WHAT IT READS IS OF BULK AT MOST 1048576: true; the input reads as it did. -/
def diskSafeUptoRow : OpenClaim := { program := "ythfoanmokcepcaa", sum := "9b9c50dc3db097fb4f62681c6b8ea6c86147a951d4dbcf0e7fb767ef35e8df90", func := "cordwain/cordwainlaw4.DiskSafe", spec := "diskSafe", inPlace := ["maps.clone"], unfollowed := true, recurses := true, apart := false, narrowed := true }
def DiskSafeUptoSaid : Prop := diskSafeUptoRow.holds Try.pinned (OpenSpec.upto diskSafeSpec)

/-- 'cordwainlaw4.DiskPlays', WHERE WHAT IT READS IS OF BULK AT MOST 1048576: true; the input reads as it did. -/
def diskPlaysUptoRow : OpenClaim := { program := "ythfoanmokcepcaa", sum := "9b9c50dc3db097fb4f62681c6b8ea6c86147a951d4dbcf0e7fb767ef35e8df90", func := "cordwain/cordwainlaw4.DiskPlays", spec := "diskPlays", inPlace := ["maps.clone"], unfollowed := true, recurses := true, apart := false, narrowed := true }
def DiskPlaysUptoSaid : Prop := diskPlaysUptoRow.holds Try.pinned (OpenSpec.upto diskPlaysSpec)

/-- 'cordwainlaw4.DiskCrash', WHERE WHAT IT READS IS OF BULK AT MOST 1048576: true; the input reads as it did. -/
def diskCrashUptoRow : OpenClaim := { program := "ythfoanmokcepcaa", sum := "9b9c50dc3db097fb4f62681c6b8ea6c86147a951d4dbcf0e7fb767ef35e8df90", func := "cordwain/cordwainlaw4.DiskCrash", spec := "diskCrash", inPlace := ["maps.clone"], unfollowed := true, recurses := true, apart := false, narrowed := true }
def DiskCrashUptoSaid : Prop := diskCrashUptoRow.holds Try.pinned (OpenSpec.upto diskCrashSpec)

end Rows
end Go.Proofs.Ythfoanmokcepcaa
