-- PRINTED BY print.sh 35421559b90ae4d0a3588c463048766b98c2df88dd9212a6774a882060cdf62d: not written by this session
import Derived.Test.YtpecclcihefbaaaDoorProg
import Derived.Below
import Derived.Deep.Draws
import Derived.Deep.AppendLies
import Derived.Maps.AppendAt
import Derived.OwnWalk
import Derived.Laws.BytesArg
import Derived.Laws.MakeOwn
import Derived.Laws.OwnMore
import Derived.Deep.OwnRows
import Derived.Tactics
import Derived.Lib.ConvBytes
import Derived.Laws.Slices
import Derived.WalkKit
import Derived.KernelRfl
import Derived.RowKit3
import Derived.Deep.LoopGhost
import Derived.Deep.QuietTactic
import Derived.BigQuiet
import Derived.WideLaws
import Derived.Deep.DeepCutAuto
import Derived.Deep.CutBlock
import Derived.Deep.RegionHeld3
import Derived.Laws.Rows
import Derived.Lib.AppendStr
import Derived.ArgAppend
import Derived.Laws.IdiomCopy
import Derived.OrdersHeld
import Derived.Laws.BitsLemmas
import Derived.RowKit
import Derived.Test.YtpecclcihefbaaaDoorWWords
import Derived.Test.YtpecclcihefbaaaDoorWLast
import Derived.Test.YtpecclcihefbaaaDoorWTab
import Derived.Test.YtpecclcihefbaaaDoorWFour
import Derived.Test.YtpecclcihefbaaaDoorWQPut
import Derived.Test.YtpecclcihefbaaaDoorWApart
import Derived.Test.YtpecclcihefbaaaDoorWArr
import Derived.Test.YtpecclcihefbaaaDoorWZeros
import Derived.Test.YtpecclcihefbaaaDoorWFoot
import Derived.Test.YtpecclcihefbaaaDoorWKept
import Derived.Test.YtpecclcihefbaaaDoorWShare
import Derived.Test.YtpecclcihefbaaaDoorWN
import Derived.Test.YtpecclcihefbaaaDoorWFootNe
import Derived.Test.YtpecclcihefbaaaDoorWAt
import Derived.Test.YtpecclcihefbaaaDoorWEqStruct
import Derived.Test.YtpecclcihefbaaaDoorWRepsOne
import Derived.Test.YtpecclcihefbaaaDoorWInv
import Derived.Test.YtpecclcihefbaaaDoorWInvWords
import Derived.Test.YtpecclcihefbaaaDoorWGuard
import Derived.Test.YtpecclcihefbaaaDoorWNEv
import Derived.Test.YtpecclcihefbaaaDoorWMore
namespace Go.Proofs.YtpecclcihefbaaaDoor.PRight
open Go.RowKit Go.Proofs.YtpecclcihefbaaaDoorW.PrintWords Go.Proofs.YtpecclcihefbaaaDoorW.PrintLast Go.Proofs.YtpecclcihefbaaaDoorW.PrintMore
attribute [local go_sem] max2_int min2_int max_two min_two max_three min_three max_four min_four   -- for this text's walks alone
set_option linter.unusedVariables false
set_option linter.unusedSimpArgs false



def errW : Option Int → Value
  | none => .nilIface
  | some c => .iface 0 (.int .i64 c)
theorem errW_none : errW none = .nilIface := rfl
theorem errW_some (c : Int) : errW (some c) = .iface 0 (.int .i64 c) := rfl

theorem info5 : (Tryd.prog.info? 5).map (fun i => (i.zero, i.size, i.bytes)) = some (some (.int .u8 0), 1, 1) := by kernel_rfl
-- the values' own types

end Go.Proofs.YtpecclcihefbaaaDoor.PRight
