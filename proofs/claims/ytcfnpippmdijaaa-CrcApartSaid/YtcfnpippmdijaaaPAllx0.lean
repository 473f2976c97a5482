-- Written by this session's own program (wip/px_patch.py over a scratch copy of the kit's print), not by the kit's print.sh
import Derived.Test.YtcfnpippmdijaaaProg
import Derived.Below
import Derived.Deep.Draws
import Derived.Deep.AppendLies
import Derived.Maps.AppendAt
import Derived.OwnWalk
import Derived.Laws.BytesArg
import Derived.Laws.MakeOwn
import Derived.Laws.OwnMore
import Derived.Deep.OwnRows
import Derived.Tactics
import Derived.Lib.ConvBytes
import Derived.Laws.Slices
import Derived.WalkKit
import Derived.KernelRfl
import Derived.RowKit3
import Derived.Deep.LoopGhost
import Derived.Deep.QuietTactic
import Derived.BigQuiet
import Derived.WideLaws
import Derived.Deep.DeepCutAuto
import Derived.Deep.CutBlock
import Derived.Deep.RegionHeld3
import Derived.Laws.Rows
import Derived.Lib.AppendStr
import Derived.ArgAppend
import Derived.Laws.IdiomCopy
import Derived.OrdersHeld
import Derived.Laws.BitsLemmas
import Derived.RowKit
import Derived.Lib.SlBytesConst
import Derived.Test.YtcfnpippmdijaaaWWords
import Derived.Test.YtcfnpippmdijaaaWLast
import Derived.Test.YtcfnpippmdijaaaWTab
import Derived.Test.YtcfnpippmdijaaaWFour
import Derived.Test.YtcfnpippmdijaaaWQPut
import Derived.Test.YtcfnpippmdijaaaWApart
import Derived.Test.YtcfnpippmdijaaaWArr
import Derived.Test.YtcfnpippmdijaaaWZeros
import Derived.Test.YtcfnpippmdijaaaWFoot
import Derived.Test.YtcfnpippmdijaaaWKept
import Derived.Test.YtcfnpippmdijaaaWShare
import Derived.Test.YtcfnpippmdijaaaWN
import Derived.Test.YtcfnpippmdijaaaWFootNe
import Derived.Test.YtcfnpippmdijaaaWAt
import Derived.Test.YtcfnpippmdijaaaWEqStruct
import Derived.Test.YtcfnpippmdijaaaWRepsOne
import Derived.Test.YtcfnpippmdijaaaWInv
import Derived.Test.YtcfnpippmdijaaaWInvWords
import Derived.Test.YtcfnpippmdijaaaWGuard
import Derived.Test.YtcfnpippmdijaaaWNEv
import Derived.Test.YtcfnpippmdijaaaWMore
namespace Go.Proofs.Ytcfnpippmdijaaa.PAll
open Go.RowKit Go.Proofs.YtcfnpippmdijaaaW.PrintWords Go.Proofs.YtcfnpippmdijaaaW.PrintLast Go.Proofs.YtcfnpippmdijaaaW.PrintMore
attribute [local go_sem] max2_int min2_int max_two min_two max_three min_three max_four min_four   -- for this text's walks alone
set_option linter.unusedVariables false
set_option linter.unusedSimpArgs false



def errW : Option Int → Value
  | none => .nilIface
  | some c => .iface 0 (.int .i64 c)
theorem errW_none : errW none = .nilIface := rfl
theorem errW_some (c : Int) : errW (some c) = .iface 0 (.int .i64 c) := rfl

theorem info5 : (Try.prog.info? 5).map (fun i => (i.zero, i.size, i.bytes)) = some (some (.int .u8 0), 1, 1) := by kernel_rfl
-- the values' own types

end Go.Proofs.Ytcfnpippmdijaaa.PAll
