-- printed for this claim by a program of the session's own (pr2.py) over the kit's printer; not trusted: Lean checks it
import Derived.Test.YtmdgkjjdcfpjiaaProg
import Derived.Below
import Derived.Deep.Draws
import Derived.Deep.AppendLies
import Derived.Maps.AppendAt
import Derived.OwnWalk
import Derived.Laws.BytesArg
import Derived.Laws.MakeOwn
import Derived.Laws.OwnMore
import Derived.Deep.OwnRows
import Derived.Tactics
import Derived.Lib.ConvBytes
import Derived.Laws.Slices
import Derived.WalkKit
import Derived.KernelRfl
import Derived.RowKit3
import Derived.Deep.LoopGhost
import Derived.Deep.QuietTactic
import Derived.BigQuiet
import Derived.WideLaws
import Derived.Deep.DeepCutAuto
import Derived.Deep.CutBlock
import Derived.Deep.RegionHeld3
import Derived.Laws.Rows
import Derived.Lib.AppendStr
import Derived.ArgAppend
import Derived.Laws.IdiomCopy
import Derived.OrdersHeld
import Derived.Laws.BitsLemmas
import Derived.RowKit
import Derived.Test.YtmdgkjjdcfpjiaaWWords
import Derived.Test.YtmdgkjjdcfpjiaaWLast
import Derived.Test.YtmdgkjjdcfpjiaaWTab
import Derived.Test.YtmdgkjjdcfpjiaaWFour
import Derived.Test.YtmdgkjjdcfpjiaaWQPut
import Derived.Test.YtmdgkjjdcfpjiaaWApart
import Derived.Test.YtmdgkjjdcfpjiaaWArr
import Derived.Test.YtmdgkjjdcfpjiaaWZeros
import Derived.Test.YtmdgkjjdcfpjiaaWFoot
import Derived.Test.YtmdgkjjdcfpjiaaWKept
import Derived.Test.YtmdgkjjdcfpjiaaWShare
import Derived.Test.YtmdgkjjdcfpjiaaWN
import Derived.Test.YtmdgkjjdcfpjiaaWFootNe
import Derived.Test.YtmdgkjjdcfpjiaaWAt
import Derived.Test.YtmdgkjjdcfpjiaaWEqStruct
import Derived.Test.YtmdgkjjdcfpjiaaWRepsOne
import Derived.Test.YtmdgkjjdcfpjiaaWInv
import Derived.Test.YtmdgkjjdcfpjiaaWInvWords
import Derived.Test.YtmdgkjjdcfpjiaaWGuard
import Derived.Test.YtmdgkjjdcfpjiaaWNEv
import Derived.Test.YtmdgkjjdcfpjiaaWMore
namespace Go.Proofs.Ytmdgkjjdcfpjiaa.PPut
open Go.RowKit Go.Proofs.YtmdgkjjdcfpjiaaW.PrintWords Go.Proofs.YtmdgkjjdcfpjiaaW.PrintLast Go.Proofs.YtmdgkjjdcfpjiaaW.PrintMore
attribute [local go_sem] max2_int min2_int max_two min_two max_three min_three max_four min_four   -- for this text's walks alone
set_option linter.unusedVariables false
set_option linter.unusedSimpArgs false



def errW : Option Int → Value
  | none => .nilIface
  | some c => .iface 0 (.int .i64 c)
theorem errW_none : errW none = .nilIface := rfl
theorem errW_some (c : Int) : errW (some c) = .iface 0 (.int .i64 c) := rfl

theorem info5 : (Try.prog.info? 5).map (fun i => (i.zero, i.size, i.bytes)) = some (some (.int .u8 0), 1, 1) := by kernel_rfl
-- the values' own types

end Go.Proofs.Ytmdgkjjdcfpjiaa.PPut
