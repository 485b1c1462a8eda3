-- Printed for this seat by a program of this session (wip/tools/give.py).
import Derived.Test.YtidgljajegoffaaProg
import Derived.Below
import Derived.Deep.Draws
import Derived.Deep.AppendLies
import Derived.Maps.AppendAt
import Derived.OwnWalk
import Derived.Laws.BytesArg
import Derived.Laws.MakeOwn
import Derived.Laws.OwnMore
import Derived.Deep.OwnRows
import Derived.Tactics
import Derived.Lib.ConvBytes
import Derived.Laws.Slices
import Derived.WalkKit
import Derived.KernelRfl
import Derived.RowKit3
import Derived.Deep.LoopGhost
import Derived.Deep.QuietTactic
import Derived.BigQuiet
import Derived.WideLaws
import Derived.Deep.DeepCutAuto
import Derived.Deep.CutBlock
import Derived.Deep.RegionHeld3
import Derived.Laws.Rows
import Derived.Lib.AppendStr
import Derived.ArgAppend
import Derived.Laws.IdiomCopy
import Derived.OrdersHeld
import Derived.Laws.BitsLemmas
import Derived.RowKit
import Derived.Test.YtidgljajegoffaaWWords
import Derived.Test.YtidgljajegoffaaWLast
import Derived.Test.YtidgljajegoffaaWTab
import Derived.Test.YtidgljajegoffaaWFour
import Derived.Test.YtidgljajegoffaaWQPut
import Derived.Test.YtidgljajegoffaaWApart
import Derived.Test.YtidgljajegoffaaWArr
import Derived.Test.YtidgljajegoffaaWZeros
import Derived.Test.YtidgljajegoffaaWFoot
import Derived.Test.YtidgljajegoffaaWKept
import Derived.Test.YtidgljajegoffaaWShare
import Derived.Test.YtidgljajegoffaaWN
import Derived.Test.YtidgljajegoffaaWFootNe
import Derived.Test.YtidgljajegoffaaWAt
import Derived.Test.YtidgljajegoffaaWEqStruct
import Derived.Test.YtidgljajegoffaaWRepsOne
import Derived.Test.YtidgljajegoffaaWInv
import Derived.Test.YtidgljajegoffaaWInvWords
import Derived.Test.YtidgljajegoffaaWGuard
import Derived.Test.YtidgljajegoffaaWNEv
import Derived.Test.YtidgljajegoffaaWMore
namespace Go.Proofs.Ytidgljajegoffaa.QSmall
open Go.RowKit Go.Proofs.YtidgljajegoffaaW.PrintWords Go.Proofs.YtidgljajegoffaaW.PrintLast Go.Proofs.YtidgljajegoffaaW.PrintMore
attribute [local go_sem] max2_int min2_int max_two min_two max_three min_three max_four min_four   -- for this text's walks alone
set_option linter.unusedVariables false
set_option linter.unusedSimpArgs false



def errW : Option Int → Value
  | none => .nilIface
  | some c => .iface 0 (.int .i64 c)
theorem errW_none : errW none = .nilIface := rfl
theorem errW_some (c : Int) : errW (some c) = .iface 0 (.int .i64 c) := rfl

-- the values' own types

end Go.Proofs.Ytidgljajegoffaa.QSmall
