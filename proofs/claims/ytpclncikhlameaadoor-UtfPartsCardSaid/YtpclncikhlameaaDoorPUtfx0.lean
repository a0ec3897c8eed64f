-- Written by a program of this session (a turned copy of the print): the machine's side.
import Derived.Test.YtpclncikhlameaaDoorProg
import Derived.Below
import Derived.Deep.Draws
import Derived.Deep.AppendLies
import Derived.Maps.AppendAt
import Derived.OwnWalk
import Derived.Laws.BytesArg
import Derived.Laws.MakeOwn
import Derived.Laws.OwnMore
import Derived.Deep.OwnRows
import Derived.Tactics
import Derived.Lib.ConvBytes
import Derived.Laws.Slices
import Derived.WalkKit
import Derived.KernelRfl
import Derived.RowKit3
import Derived.Deep.LoopGhost
import Derived.Deep.QuietTactic
import Derived.BigQuiet
import Derived.WideLaws
import Derived.Deep.DeepCutAuto
import Derived.Deep.CutBlock
import Derived.Deep.RegionHeld3
import Derived.Laws.Rows
import Derived.Lib.AppendStr
import Derived.ArgAppend
import Derived.Laws.IdiomCopy
import Derived.OrdersHeld
import Derived.Laws.BitsLemmas
import Derived.RowKit
import Derived.Test.YtpclncikhlameaaDoorHandA
import Derived.Test.YtpclncikhlameaaDoorHandB
import Derived.Test.YtpclncikhlameaaDoorWWords
import Derived.Test.YtpclncikhlameaaDoorWLast
import Derived.Test.YtpclncikhlameaaDoorWTab
import Derived.Test.YtpclncikhlameaaDoorWFour
import Derived.Test.YtpclncikhlameaaDoorWQPut
import Derived.Test.YtpclncikhlameaaDoorWApart
import Derived.Test.YtpclncikhlameaaDoorWArr
import Derived.Test.YtpclncikhlameaaDoorWZeros
import Derived.Test.YtpclncikhlameaaDoorWFoot
import Derived.Test.YtpclncikhlameaaDoorWKept
import Derived.Test.YtpclncikhlameaaDoorWShare
import Derived.Test.YtpclncikhlameaaDoorWN
import Derived.Test.YtpclncikhlameaaDoorWFootNe
import Derived.Test.YtpclncikhlameaaDoorWAt
import Derived.Test.YtpclncikhlameaaDoorWEqStruct
import Derived.Test.YtpclncikhlameaaDoorWRepsOne
import Derived.Test.YtpclncikhlameaaDoorWInv
import Derived.Test.YtpclncikhlameaaDoorWInvWords
import Derived.Test.YtpclncikhlameaaDoorWGuard
import Derived.Test.YtpclncikhlameaaDoorWNEv
import Derived.Test.YtpclncikhlameaaDoorWMore
namespace Go.Proofs.YtpclncikhlameaaDoor.PUtf
open Go.RowKit Go.Proofs.YtpclncikhlameaaDoorW.PrintWords Go.Proofs.YtpclncikhlameaaDoorW.PrintLast Go.Proofs.YtpclncikhlameaaDoorW.PrintMore Go.Proofs.YtpclncikhlameaaDoor.Hand
attribute [local go_sem] max2_int min2_int max_two min_two max_three min_three max_four min_four   -- for this text's walks alone
set_option linter.unusedVariables false
set_option linter.unusedSimpArgs false



def errW : Option Int → Value
  | none => .nilIface
  | some c => .iface 0 (.int .i64 c)
theorem errW_none : errW none = .nilIface := rfl
theorem errW_some (c : Int) : errW (some c) = .iface 0 (.int .i64 c) := rfl

theorem info5 : (Tryd.prog.info? 5).map (fun i => (i.zero, i.size, i.bytes)) = some (some (.int .u8 0), 1, 1) := by kernel_rfl
-- the values' own types

end Go.Proofs.YtpclncikhlameaaDoor.PUtf
