-- Printed for this seat by a program of this session (wip/tools/give.py).
import Derived.Test.YtdkfhpgbiohhoaaProg
import Derived.Below
import Derived.Deep.Draws
import Derived.Deep.AppendLies
import Derived.Maps.AppendAt
import Derived.OwnWalk
import Derived.Laws.BytesArg
import Derived.Laws.MakeOwn
import Derived.Laws.OwnMore
import Derived.Deep.OwnRows
import Derived.Tactics
import Derived.Lib.ConvBytes
import Derived.Laws.Slices
import Derived.WalkKit
import Derived.KernelRfl
import Derived.RowKit3
import Derived.Deep.LoopGhost
import Derived.Deep.QuietTactic
import Derived.BigQuiet
import Derived.WideLaws
import Derived.Deep.DeepCutAuto
import Derived.Deep.CutBlock
import Derived.Deep.RegionHeld3
import Derived.Laws.Rows
import Derived.Lib.AppendStr
import Derived.ArgAppend
import Derived.Laws.IdiomCopy
import Derived.OrdersHeld
import Derived.Laws.BitsLemmas
import Derived.RowKit
import Derived.Test.YtdkfhpgbiohhoaaWWords
import Derived.Test.YtdkfhpgbiohhoaaWLast
import Derived.Test.YtdkfhpgbiohhoaaWTab
import Derived.Test.YtdkfhpgbiohhoaaWFour
import Derived.Test.YtdkfhpgbiohhoaaWQPut
import Derived.Test.YtdkfhpgbiohhoaaWApart
import Derived.Test.YtdkfhpgbiohhoaaWArr
import Derived.Test.YtdkfhpgbiohhoaaWZeros
import Derived.Test.YtdkfhpgbiohhoaaWFoot
import Derived.Test.YtdkfhpgbiohhoaaWKept
import Derived.Test.YtdkfhpgbiohhoaaWShare
import Derived.Test.YtdkfhpgbiohhoaaWN
import Derived.Test.YtdkfhpgbiohhoaaWFootNe
import Derived.Test.YtdkfhpgbiohhoaaWAt
import Derived.Test.YtdkfhpgbiohhoaaWEqStruct
import Derived.Test.YtdkfhpgbiohhoaaWRepsOne
import Derived.Test.YtdkfhpgbiohhoaaWInv
import Derived.Test.YtdkfhpgbiohhoaaWInvWords
import Derived.Test.YtdkfhpgbiohhoaaWGuard
import Derived.Test.YtdkfhpgbiohhoaaWNEv
import Derived.Test.YtdkfhpgbiohhoaaWMore
namespace Go.Proofs.Ytdkfhpgbiohhoaa.QSmall
open Go.RowKit Go.Proofs.YtdkfhpgbiohhoaaW.PrintWords Go.Proofs.YtdkfhpgbiohhoaaW.PrintLast Go.Proofs.YtdkfhpgbiohhoaaW.PrintMore
attribute [local go_sem] max2_int min2_int max_two min_two max_three min_three max_four min_four   -- for this text's walks alone
set_option linter.unusedVariables false
set_option linter.unusedSimpArgs false



def errW : Option Int → Value
  | none => .nilIface
  | some c => .iface 0 (.int .i64 c)
theorem errW_none : errW none = .nilIface := rfl
theorem errW_some (c : Int) : errW (some c) = .iface 0 (.int .i64 c) := rfl

theorem info3 : (Try.prog.info? 3).map (fun i => (i.zero, i.size, i.bytes)) = some (some (.int .i64 0), 1, 8) := by kernel_rfl
-- the values' own types

end Go.Proofs.Ytdkfhpgbiohhoaa.QSmall
