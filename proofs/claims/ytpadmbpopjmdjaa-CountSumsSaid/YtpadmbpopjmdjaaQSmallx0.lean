-- Printed for this seat by a program of this session (wip/tools/give.py).
import Derived.Test.YtpadmbpopjmdjaaProg
import Derived.Below
import Derived.Deep.Draws
import Derived.Deep.AppendLies
import Derived.Maps.AppendAt
import Derived.OwnWalk
import Derived.Laws.BytesArg
import Derived.Laws.MakeOwn
import Derived.Laws.OwnMore
import Derived.Deep.OwnRows
import Derived.Tactics
import Derived.Lib.ConvBytes
import Derived.Laws.Slices
import Derived.WalkKit
import Derived.KernelRfl
import Derived.RowKit3
import Derived.Deep.LoopGhost
import Derived.Deep.QuietTactic
import Derived.BigQuiet
import Derived.WideLaws
import Derived.Deep.DeepCutAuto
import Derived.Deep.CutBlock
import Derived.Deep.RegionHeld3
import Derived.Laws.Rows
import Derived.Lib.AppendStr
import Derived.ArgAppend
import Derived.Laws.IdiomCopy
import Derived.OrdersHeld
import Derived.Laws.BitsLemmas
import Derived.RowKit
import Derived.Test.YtpadmbpopjmdjaaWWords
import Derived.Test.YtpadmbpopjmdjaaWLast
import Derived.Test.YtpadmbpopjmdjaaWTab
import Derived.Test.YtpadmbpopjmdjaaWFour
import Derived.Test.YtpadmbpopjmdjaaWQPut
import Derived.Test.YtpadmbpopjmdjaaWApart
import Derived.Test.YtpadmbpopjmdjaaWArr
import Derived.Test.YtpadmbpopjmdjaaWZeros
import Derived.Test.YtpadmbpopjmdjaaWFoot
import Derived.Test.YtpadmbpopjmdjaaWKept
import Derived.Test.YtpadmbpopjmdjaaWShare
import Derived.Test.YtpadmbpopjmdjaaWN
import Derived.Test.YtpadmbpopjmdjaaWFootNe
import Derived.Test.YtpadmbpopjmdjaaWAt
import Derived.Test.YtpadmbpopjmdjaaWEqStruct
import Derived.Test.YtpadmbpopjmdjaaWRepsOne
import Derived.Test.YtpadmbpopjmdjaaWInv
import Derived.Test.YtpadmbpopjmdjaaWInvWords
import Derived.Test.YtpadmbpopjmdjaaWGuard
import Derived.Test.YtpadmbpopjmdjaaWNEv
import Derived.Test.YtpadmbpopjmdjaaWMore
namespace Go.Proofs.Ytpadmbpopjmdjaa.QSmall
open Go.RowKit Go.Proofs.YtpadmbpopjmdjaaW.PrintWords Go.Proofs.YtpadmbpopjmdjaaW.PrintLast Go.Proofs.YtpadmbpopjmdjaaW.PrintMore
attribute [local go_sem] max2_int min2_int max_two min_two max_three min_three max_four min_four   -- for this text's walks alone
set_option linter.unusedVariables false
set_option linter.unusedSimpArgs false



def errW : Option Int → Value
  | none => .nilIface
  | some c => .iface 0 (.int .i64 c)
theorem errW_none : errW none = .nilIface := rfl
theorem errW_some (c : Int) : errW (some c) = .iface 0 (.int .i64 c) := rfl

theorem info3 : (Try.prog.info? 3).map (fun i => (i.zero, i.size, i.bytes)) = some (some (.int .i64 0), 1, 8) := by kernel_rfl
-- the values' own types

end Go.Proofs.Ytpadmbpopjmdjaa.QSmall
