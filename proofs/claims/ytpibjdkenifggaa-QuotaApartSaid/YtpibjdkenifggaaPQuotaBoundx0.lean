-- printed for this claim by a program of the session's own (pr2.py) over the kit's printer; not trusted: Lean checks it
import Derived.Test.YtpibjdkenifggaaProg
import Derived.Below
import Derived.Deep.Draws
import Derived.Deep.AppendLies
import Derived.Maps.AppendAt
import Derived.OwnWalk
import Derived.Laws.BytesArg
import Derived.Laws.MakeOwn
import Derived.Laws.OwnMore
import Derived.Deep.OwnRows
import Derived.Tactics
import Derived.Lib.ConvBytes
import Derived.Laws.Slices
import Derived.WalkKit
import Derived.KernelRfl
import Derived.RowKit3
import Derived.Deep.LoopGhost
import Derived.Deep.QuietTactic
import Derived.BigQuiet
import Derived.WideLaws
import Derived.Deep.DeepCutAuto
import Derived.Deep.CutBlock
import Derived.Deep.RegionHeld3
import Derived.Laws.Rows
import Derived.Lib.AppendStr
import Derived.ArgAppend
import Derived.Laws.IdiomCopy
import Derived.OrdersHeld
import Derived.Laws.BitsLemmas
import Derived.RowKit
import Derived.Test.YtpibjdkenifggaaWWords
import Derived.Test.YtpibjdkenifggaaWLast
import Derived.Test.YtpibjdkenifggaaWTab
import Derived.Test.YtpibjdkenifggaaWFour
import Derived.Test.YtpibjdkenifggaaWQPut
import Derived.Test.YtpibjdkenifggaaWApart
import Derived.Test.YtpibjdkenifggaaWArr
import Derived.Test.YtpibjdkenifggaaWZeros
import Derived.Test.YtpibjdkenifggaaWFoot
import Derived.Test.YtpibjdkenifggaaWKept
import Derived.Test.YtpibjdkenifggaaWShare
import Derived.Test.YtpibjdkenifggaaWN
import Derived.Test.YtpibjdkenifggaaWFootNe
import Derived.Test.YtpibjdkenifggaaWAt
import Derived.Test.YtpibjdkenifggaaWEqStruct
import Derived.Test.YtpibjdkenifggaaWRepsOne
import Derived.Test.YtpibjdkenifggaaWInv
import Derived.Test.YtpibjdkenifggaaWInvWords
import Derived.Test.YtpibjdkenifggaaWGuard
import Derived.Test.YtpibjdkenifggaaWNEv
import Derived.Test.YtpibjdkenifggaaWMore
namespace Go.Proofs.Ytpibjdkenifggaa.PQuotaBound
open Go.RowKit Go.Proofs.YtpibjdkenifggaaW.PrintWords Go.Proofs.YtpibjdkenifggaaW.PrintLast Go.Proofs.YtpibjdkenifggaaW.PrintMore
attribute [local go_sem] max2_int min2_int max_two min_two max_three min_three max_four min_four   -- for this text's walks alone
set_option linter.unusedVariables false
set_option linter.unusedSimpArgs false



def errW : Option Int → Value
  | none => .nilIface
  | some c => .iface 0 (.int .i64 c)
theorem errW_none : errW none = .nilIface := rfl
theorem errW_some (c : Int) : errW (some c) = .iface 0 (.int .i64 c) := rfl

-- the values' own types

end Go.Proofs.Ytpibjdkenifggaa.PQuotaBound
