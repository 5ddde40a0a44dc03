/-
  No cell of these rows narrows 'for every input' (looked for: loops, veiled, ifaces, maps, wideKeys, modest, calm, conditions, laid).
  DERIVED. THE GIVEN ROWS OF THIS SEAT. 7 by the template 'for every input the law returns true; each argument reads behind the call as it read before'; 0 by the template 'total and deterministic' (their statements: YtmdgkjjdcfpjiaaTotals.lean).
  GIVEN WITH THE SEED: the statements are not yours to turn. If you find one false, say at which input.
  Laid BY PROGRAM, IN A SANDBOX (cutbox-rows.mjs): the forced cells as the released guide's own fill.sh prints them over the translation d2dea582f327cb79… (all of the seat's roots in one cut). By AI agents, Wed Nov 11 2026. No macro, syntax, notation, axiom, sorry.
-/
import Derived.Test.YtmdgkjjdcfpjiaaChecked
import GoSem.Claim
import GoSem.ClaimJoined
import GoSem.ClaimMapViews
import Derived.JoinedTies
import Derived.KernelRfl
namespace Go.Proofs.Ytmdgkjjdcfpjiaa
/- THE CELL 'sum', in the pinned program and in every row, IS THE sha256 OF THE DUMP (.gsa) THAT YtmdgkjjdcfpjiaaProg.lean LOADS. Nothing in Lean hashes anything: it is a label: what it is worth is what the hold of that sum in a sandbox is worth. -/
noncomputable def Try.pinned : Pinned := { name := "ytmdgkjjdcfpjiaa", sum := "d2dea582f327cb7908d248954ddb73425e74b36419bcfc674a031d16c1bdff60", checked := Try.checked }
namespace Rows
def none {H : Type} : Left H := { results := [], args := [] }

/-- 'cordwainlaw10.ProducerOnce': WHATEVER THE INPUT: true; the input reads as it did. -/
def producerOnceSpec : ChangeSpec := { name := "producerOnce", fn := fun _ => fun
  | [d1, d2] => { results := [.lit (.bool true)], args := [d1, d2] }
  | _ => none }
def producerOnceRow : OpenClaim := { program := "ytmdgkjjdcfpjiaa", sum := "d2dea582f327cb7908d248954ddb73425e74b36419bcfc674a031d16c1bdff60", func := "cordwain/cordwainlaw10.ProducerOnce", spec := "producerOnce", plainKeys := false, apart := false }
def ProducerOnceSaid : Prop := producerOnceRow.holds Try.pinned (OpenSpec.ofChange producerOnceSpec)

/-- ITS FALSE NEIGHBOUR: 'it returns false'. Refute it at one input. -/
def producerOnceWrong : ChangeSpec := { name := "producerOnce", fn := fun _ => fun
  | [d1, d2] => { results := [.lit (.bool false)], args := [d1, d2] }
  | _ => none }
def ProducerOnceWrongFalsely : Prop := producerOnceRow.holds Try.pinned (OpenSpec.ofChange producerOnceWrong)

/-- 'cordwainlaw10.ProducerEpochs': WHATEVER THE INPUT: true; the input reads as it did. -/
def producerEpochsSpec : ChangeSpec := { name := "producerEpochs", fn := fun _ => fun
  | [d1, d2, d3] => { results := [.lit (.bool true)], args := [d1, d2, d3] }
  | _ => none }
def producerEpochsRow : OpenClaim := { program := "ytmdgkjjdcfpjiaa", sum := "d2dea582f327cb7908d248954ddb73425e74b36419bcfc674a031d16c1bdff60", func := "cordwain/cordwainlaw10.ProducerEpochs", spec := "producerEpochs", plainKeys := false, apart := false }
def ProducerEpochsSaid : Prop := producerEpochsRow.holds Try.pinned (OpenSpec.ofChange producerEpochsSpec)

/-- ITS FALSE NEIGHBOUR: 'it returns false'. Refute it at one input. -/
def producerEpochsWrong : ChangeSpec := { name := "producerEpochs", fn := fun _ => fun
  | [d1, d2, d3] => { results := [.lit (.bool false)], args := [d1, d2, d3] }
  | _ => none }
def ProducerEpochsWrongFalsely : Prop := producerEpochsRow.holds Try.pinned (OpenSpec.ofChange producerEpochsWrong)

/-- 'cordwainlaw24.ClientProduces': WHATEVER THE INPUT: true; the input reads as it did. -/
def clientProducesSpec : ChangeSpec := { name := "clientProduces", fn := fun _ => fun
  | [d1, d2, d3] => { results := [.lit (.bool true)], args := [d1, d2, d3] }
  | _ => none }
def clientProducesRow : OpenClaim := { program := "ytmdgkjjdcfpjiaa", sum := "d2dea582f327cb7908d248954ddb73425e74b36419bcfc674a031d16c1bdff60", func := "cordwain/cordwainlaw24.ClientProduces", spec := "clientProduces", plainKeys := false, apart := false }
def ClientProducesSaid : Prop := clientProducesRow.holds Try.pinned (OpenSpec.ofChange clientProducesSpec)

/-- ITS FALSE NEIGHBOUR: 'it returns false'. Refute it at one input. -/
def clientProducesWrong : ChangeSpec := { name := "clientProduces", fn := fun _ => fun
  | [d1, d2, d3] => { results := [.lit (.bool false)], args := [d1, d2, d3] }
  | _ => none }
def ClientProducesWrongFalsely : Prop := clientProducesRow.holds Try.pinned (OpenSpec.ofChange clientProducesWrong)

/-- 'cordwainlaw24.ClientAgain': WHATEVER THE INPUT: true; the input reads as it did. -/
def clientAgainSpec : ChangeSpec := { name := "clientAgain", fn := fun _ => fun
  | [d1, d2, d3, d4] => { results := [.lit (.bool true)], args := [d1, d2, d3, d4] }
  | _ => none }
def clientAgainRow : OpenClaim := { program := "ytmdgkjjdcfpjiaa", sum := "d2dea582f327cb7908d248954ddb73425e74b36419bcfc674a031d16c1bdff60", func := "cordwain/cordwainlaw24.ClientAgain", spec := "clientAgain", plainKeys := false, apart := false }
def ClientAgainSaid : Prop := clientAgainRow.holds Try.pinned (OpenSpec.ofChange clientAgainSpec)

/-- ITS FALSE NEIGHBOUR: 'it returns false'. Refute it at one input. -/
def clientAgainWrong : ChangeSpec := { name := "clientAgain", fn := fun _ => fun
  | [d1, d2, d3, d4] => { results := [.lit (.bool false)], args := [d1, d2, d3, d4] }
  | _ => none }
def ClientAgainWrongFalsely : Prop := clientAgainRow.holds Try.pinned (OpenSpec.ofChange clientAgainWrong)

/-- 'cordwainlaw10.ProducerApart': WHATEVER THE INPUT: true; the input reads as it did. -/
def producerApartSpec : ChangeSpec := { name := "producerApart", fn := fun _ => fun
  | [d1, d2] => { results := [.lit (.bool true)], args := [d1, d2] }
  | _ => none }
def producerApartRow : OpenClaim := { program := "ytmdgkjjdcfpjiaa", sum := "d2dea582f327cb7908d248954ddb73425e74b36419bcfc674a031d16c1bdff60", func := "cordwain/cordwainlaw10.ProducerApart", spec := "producerApart", unfollowed := true, recurses := true, plainKeys := false, apart := false }
def ProducerApartSaid : Prop := producerApartRow.holds Try.pinned (OpenSpec.ofChange producerApartSpec)

/-- ITS FALSE NEIGHBOUR: 'it returns false'. Refute it at one input. -/
def producerApartWrong : ChangeSpec := { name := "producerApart", fn := fun _ => fun
  | [d1, d2] => { results := [.lit (.bool false)], args := [d1, d2] }
  | _ => none }
def ProducerApartWrongFalsely : Prop := producerApartRow.holds Try.pinned (OpenSpec.ofChange producerApartWrong)

/-- 'cordwainlaw10.ProducerNothing': WHATEVER THE INPUT: true; the input reads as it did. -/
def producerNothingSpec : ChangeSpec := { name := "producerNothing", fn := fun _ => fun
  | [d1, d2] => { results := [.lit (.bool true)], args := [d1, d2] }
  | _ => none }
def producerNothingRow : OpenClaim := { program := "ytmdgkjjdcfpjiaa", sum := "d2dea582f327cb7908d248954ddb73425e74b36419bcfc674a031d16c1bdff60", func := "cordwain/cordwainlaw10.ProducerNothing", spec := "producerNothing", unfollowed := true, recurses := true, plainKeys := false, apart := false }
def ProducerNothingSaid : Prop := producerNothingRow.holds Try.pinned (OpenSpec.ofChange producerNothingSpec)

/-- ITS FALSE NEIGHBOUR: 'it returns false'. Refute it at one input. -/
def producerNothingWrong : ChangeSpec := { name := "producerNothing", fn := fun _ => fun
  | [d1, d2] => { results := [.lit (.bool false)], args := [d1, d2] }
  | _ => none }
def ProducerNothingWrongFalsely : Prop := producerNothingRow.holds Try.pinned (OpenSpec.ofChange producerNothingWrong)

/-- 'cordwainlaw10.ProducerPlays': WHATEVER THE INPUT: true; the input reads as it did. -/
def producerPlaysSpec : ChangeSpec := { name := "producerPlays", fn := fun _ => fun
  | [d] => { results := [.lit (.bool true)], args := [d] }
  | _ => none }
def producerPlaysRow : OpenClaim := { program := "ytmdgkjjdcfpjiaa", sum := "d2dea582f327cb7908d248954ddb73425e74b36419bcfc674a031d16c1bdff60", func := "cordwain/cordwainlaw10.ProducerPlays", spec := "producerPlays", unfollowed := true, recurses := true, plainKeys := false, apart := false }
def ProducerPlaysSaid : Prop := producerPlaysRow.holds Try.pinned (OpenSpec.ofChange producerPlaysSpec)

/-- ITS FALSE NEIGHBOUR: 'it returns false'. Refute it at one input. -/
def producerPlaysWrong : ChangeSpec := { name := "producerPlays", fn := fun _ => fun
  | [d] => { results := [.lit (.bool false)], args := [d] }
  | _ => none }
def ProducerPlaysWrongFalsely : Prop := producerPlaysRow.holds Try.pinned (OpenSpec.ofChange producerPlaysWrong)

/- THE SECOND FORM. 'bulk': how many values and letters a reading holds, each counted each time it is reached (what is shared counts as often as it is met; a slice's spare places count too). A statement '..UptoSaid' is the law's where the arguments, and the package variables that the reading takes, are together of bulk at most 1048576: NARROWER than '..Said'. Prove '..Said' where nothing that the law and all that it calls make is longer than what came in: it says more and counts as full. Else prove '..UptoSaid'. A law counts once. -/
mutual
def uptoBulk {H : Type} : DataW H → Nat
  | .lit (.string bytes) => bytes.length + 1
  | .lit _ => 1
  | .nil => 1
  | .ptr d => uptoBulk d + 1
  | .slice elems spare => uptoBulkAll elems + uptoBulkAll spare + 1
  | .agg parts => uptoBulkAll parts + 1
  | .iface _ d => uptoBulk d + 1
  | .map entries => uptoBulkEntries entries + 1
  | .held _ => 1
def uptoBulkAll {H : Type} : List (DataW H) → Nat
  | [] => 0
  | d :: r => uptoBulk d + uptoBulkAll r
def uptoBulkEntries {H : Type} : List (Lit × DataW H) → Nat
  | [] => 0
  | x :: r => uptoBulkEntry x + uptoBulkEntries r
def uptoBulkEntry {H : Type} : Lit × DataW H → Nat
  | (.string bytes, d) => bytes.length + uptoBulk d + 1
  | (_, d) => uptoBulk d + 1
 end
def uptoSmall : (H : Type) → List (DataW H) → Bool := fun _ ds => decide (uptoBulkAll ds ≤ 1048576)
def OpenSpec.upto (s : _root_.Go.ChangeSpec) : _root_.Go.OpenSpec := { _root_.Go.OpenSpec.ofChange s with cond := some uptoSmall }

/-- 'cordwainlaw10.ProducerOnce', WHERE WHAT IT READS IS OF BULK AT MOST 1048576: true; the input reads as it did. -/
def producerOnceUptoRow : OpenClaim := { program := "ytmdgkjjdcfpjiaa", sum := "d2dea582f327cb7908d248954ddb73425e74b36419bcfc674a031d16c1bdff60", func := "cordwain/cordwainlaw10.ProducerOnce", spec := "producerOnce", plainKeys := false, apart := false, narrowed := true }
def ProducerOnceUptoSaid : Prop := producerOnceUptoRow.holds Try.pinned (OpenSpec.upto producerOnceSpec)

/-- 'cordwainlaw10.ProducerEpochs', WHERE WHAT IT READS IS OF BULK AT MOST 1048576: true; the input reads as it did. -/
def producerEpochsUptoRow : OpenClaim := { program := "ytmdgkjjdcfpjiaa", sum := "d2dea582f327cb7908d248954ddb73425e74b36419bcfc674a031d16c1bdff60", func := "cordwain/cordwainlaw10.ProducerEpochs", spec := "producerEpochs", plainKeys := false, apart := false, narrowed := true }
def ProducerEpochsUptoSaid : Prop := producerEpochsUptoRow.holds Try.pinned (OpenSpec.upto producerEpochsSpec)

/-- 'cordwainlaw24.ClientProduces', WHERE WHAT IT READS IS OF BULK AT MOST 1048576: true; the input reads as it did. -/
def clientProducesUptoRow : OpenClaim := { program := "ytmdgkjjdcfpjiaa", sum := "d2dea582f327cb7908d248954ddb73425e74b36419bcfc674a031d16c1bdff60", func := "cordwain/cordwainlaw24.ClientProduces", spec := "clientProduces", plainKeys := false, apart := false, narrowed := true }
def ClientProducesUptoSaid : Prop := clientProducesUptoRow.holds Try.pinned (OpenSpec.upto clientProducesSpec)

/-- 'cordwainlaw24.ClientAgain', WHERE WHAT IT READS IS OF BULK AT MOST 1048576: true; the input reads as it did. -/
def clientAgainUptoRow : OpenClaim := { program := "ytmdgkjjdcfpjiaa", sum := "d2dea582f327cb7908d248954ddb73425e74b36419bcfc674a031d16c1bdff60", func := "cordwain/cordwainlaw24.ClientAgain", spec := "clientAgain", plainKeys := false, apart := false, narrowed := true }
def ClientAgainUptoSaid : Prop := clientAgainUptoRow.holds Try.pinned (OpenSpec.upto clientAgainSpec)

/-- 'cordwainlaw10.ProducerApart', WHERE WHAT IT READS IS OF BULK AT MOST 1048576: true; the input reads as it did. -/
def producerApartUptoRow : OpenClaim := { program := "ytmdgkjjdcfpjiaa", sum := "d2dea582f327cb7908d248954ddb73425e74b36419bcfc674a031d16c1bdff60", func := "cordwain/cordwainlaw10.ProducerApart", spec := "producerApart", unfollowed := true, recurses := true, plainKeys := false, apart := false, narrowed := true }
def ProducerApartUptoSaid : Prop := producerApartUptoRow.holds Try.pinned (OpenSpec.upto producerApartSpec)

/-- 'cordwainlaw10.ProducerNothing', WHERE WHAT IT READS IS OF BULK AT MOST 1048576: true; the input reads as it did. -/
def producerNothingUptoRow : OpenClaim := { program := "ytmdgkjjdcfpjiaa", sum := "d2dea582f327cb7908d248954ddb73425e74b36419bcfc674a031d16c1bdff60", func := "cordwain/cordwainlaw10.ProducerNothing", spec := "producerNothing", unfollowed := true, recurses := true, plainKeys := false, apart := false, narrowed := true }
def ProducerNothingUptoSaid : Prop := producerNothingUptoRow.holds Try.pinned (OpenSpec.upto producerNothingSpec)

/-- 'cordwainlaw10.ProducerPlays', WHERE WHAT IT READS IS OF BULK AT MOST 1048576: true; the input reads as it did. -/
def producerPlaysUptoRow : OpenClaim := { program := "ytmdgkjjdcfpjiaa", sum := "d2dea582f327cb7908d248954ddb73425e74b36419bcfc674a031d16c1bdff60", func := "cordwain/cordwainlaw10.ProducerPlays", spec := "producerPlays", unfollowed := true, recurses := true, plainKeys := false, apart := false, narrowed := true }
def ProducerPlaysUptoSaid : Prop := producerPlaysUptoRow.holds Try.pinned (OpenSpec.upto producerPlaysSpec)

end Rows
end Go.Proofs.Ytmdgkjjdcfpjiaa
