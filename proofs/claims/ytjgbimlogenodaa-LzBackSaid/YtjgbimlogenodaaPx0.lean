/- Walks: each Go function that is told here comes to what the plain function beside it says, wherever that one answers. Written by a program of this session (wip/tools/pr.sh), after the manner of print.sh. -/
import Derived.Test.YtjgbimlogenodaaProg
import Derived.Below
import Derived.Deep.Draws
import Derived.Deep.AppendLies
import Derived.Maps.AppendAt
import Derived.OwnWalk
import Derived.Laws.BytesArg
import Derived.Laws.MakeOwn
import Derived.Laws.OwnMore
import Derived.Deep.OwnRows
import Derived.Tactics
import Derived.Lib.ConvBytes
import Derived.Laws.Slices
import Derived.WalkKit
import Derived.KernelRfl
import Derived.RowKit3
import Derived.Deep.LoopGhost
import Derived.Deep.QuietTactic
import Derived.BigQuiet
import Derived.WideLaws
import Derived.Deep.DeepCutAuto
import Derived.Deep.CutBlock
import Derived.Deep.RegionHeld3
import Derived.Laws.Rows
import Derived.Lib.AppendStr
import Derived.ArgAppend
import Derived.Laws.IdiomCopy
import Derived.OrdersHeld
import Derived.Laws.BitsLemmas
import Derived.RowKit
import Derived.Lib.SliceRun
import Derived.Lib.SlBytesConst
import Derived.Maps.OwnSet
import Derived.Test.YtjgbimlogenodaaWWords
import Derived.Test.YtjgbimlogenodaaWLast
import Derived.Test.YtjgbimlogenodaaWTab
import Derived.Test.YtjgbimlogenodaaWFour
import Derived.Test.YtjgbimlogenodaaWQPut
import Derived.Test.YtjgbimlogenodaaWApart
import Derived.Test.YtjgbimlogenodaaWArr
import Derived.Test.YtjgbimlogenodaaWZeros
import Derived.Test.YtjgbimlogenodaaWFoot
import Derived.Test.YtjgbimlogenodaaWKept
import Derived.Test.YtjgbimlogenodaaWShare
import Derived.Test.YtjgbimlogenodaaWN
import Derived.Test.YtjgbimlogenodaaWFootNe
import Derived.Test.YtjgbimlogenodaaWAt
import Derived.Test.YtjgbimlogenodaaWEqStruct
import Derived.Test.YtjgbimlogenodaaWRepsOne
import Derived.Test.YtjgbimlogenodaaWInv
import Derived.Test.YtjgbimlogenodaaWInvWords
import Derived.Test.YtjgbimlogenodaaWGuard
import Derived.Test.YtjgbimlogenodaaWNEv
import Derived.Test.YtjgbimlogenodaaWMore
namespace Go.Proofs.Ytjgbimlogenodaa.P
open Go.RowKit Go.Proofs.YtjgbimlogenodaaW.PrintWords Go.Proofs.YtjgbimlogenodaaW.PrintLast Go.Proofs.YtjgbimlogenodaaW.PrintMore
attribute [local go_sem] max2_int min2_int max_two min_two max_three min_three max_four min_four   -- for this text's walks alone
set_option linter.unusedVariables false
set_option linter.unusedSimpArgs false



def errW : Option Int → Value
  | none => .nilIface
  | some c => .iface 0 (.int .i64 c)
theorem errW_none : errW none = .nilIface := rfl
theorem errW_some (c : Int) : errW (some c) = .iface 0 (.int .i64 c) := rfl

theorem info5 : (Try.prog.info? 5).map (fun i => (i.zero, i.size, i.bytes)) = some (some (.int .u8 0), 1, 1) := by kernel_rfl
-- the values' own types

end Go.Proofs.Ytjgbimlogenodaa.P
