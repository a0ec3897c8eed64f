-- Written by a program of this session (a turned copy of the print): the machine's side.
import Derived.Test.YtnfobcedbfbbiaaDoorProg
import Derived.Below
import Derived.Deep.Draws
import Derived.Deep.AppendLies
import Derived.Maps.AppendAt
import Derived.OwnWalk
import Derived.Laws.BytesArg
import Derived.Laws.MakeOwn
import Derived.Laws.OwnMore
import Derived.Deep.OwnRows
import Derived.Tactics
import Derived.Lib.ConvBytes
import Derived.Laws.Slices
import Derived.WalkKit
import Derived.KernelRfl
import Derived.RowKit3
import Derived.Deep.LoopGhost
import Derived.Deep.QuietTactic
import Derived.BigQuiet
import Derived.WideLaws
import Derived.Deep.DeepCutAuto
import Derived.Deep.CutBlock
import Derived.Deep.RegionHeld3
import Derived.Laws.Rows
import Derived.Lib.AppendStr
import Derived.ArgAppend
import Derived.Laws.IdiomCopy
import Derived.OrdersHeld
import Derived.Laws.BitsLemmas
import Derived.RowKit
import Derived.Test.YtnfobcedbfbbiaaDoorHandA
import Derived.Test.YtnfobcedbfbbiaaDoorWWords
import Derived.Test.YtnfobcedbfbbiaaDoorWLast
import Derived.Test.YtnfobcedbfbbiaaDoorWTab
import Derived.Test.YtnfobcedbfbbiaaDoorWFour
import Derived.Test.YtnfobcedbfbbiaaDoorWQPut
import Derived.Test.YtnfobcedbfbbiaaDoorWApart
import Derived.Test.YtnfobcedbfbbiaaDoorWArr
import Derived.Test.YtnfobcedbfbbiaaDoorWZeros
import Derived.Test.YtnfobcedbfbbiaaDoorWFoot
import Derived.Test.YtnfobcedbfbbiaaDoorWKept
import Derived.Test.YtnfobcedbfbbiaaDoorWShare
import Derived.Test.YtnfobcedbfbbiaaDoorWN
import Derived.Test.YtnfobcedbfbbiaaDoorWFootNe
import Derived.Test.YtnfobcedbfbbiaaDoorWAt
import Derived.Test.YtnfobcedbfbbiaaDoorWEqStruct
import Derived.Test.YtnfobcedbfbbiaaDoorWRepsOne
import Derived.Test.YtnfobcedbfbbiaaDoorWInv
import Derived.Test.YtnfobcedbfbbiaaDoorWInvWords
import Derived.Test.YtnfobcedbfbbiaaDoorWGuard
import Derived.Test.YtnfobcedbfbbiaaDoorWNEv
import Derived.Test.YtnfobcedbfbbiaaDoorWMore
namespace Go.Proofs.YtnfobcedbfbbiaaDoor.PIx
open Go.RowKit Go.Proofs.YtnfobcedbfbbiaaDoorW.PrintWords Go.Proofs.YtnfobcedbfbbiaaDoorW.PrintLast Go.Proofs.YtnfobcedbfbbiaaDoorW.PrintMore Go.Proofs.YtnfobcedbfbbiaaDoor.Hand
attribute [local go_sem] max2_int min2_int max_two min_two max_three min_three max_four min_four   -- for this text's walks alone
set_option linter.unusedVariables false
set_option linter.unusedSimpArgs false



def errW : Option Int → Value
  | none => .nilIface
  | some c => .iface 0 (.int .i64 c)
theorem errW_none : errW none = .nilIface := rfl
theorem errW_some (c : Int) : errW (some c) = .iface 0 (.int .i64 c) := rfl

theorem info5 : (Tryd.prog.info? 5).map (fun i => (i.zero, i.size, i.bytes)) = some (some (.int .u8 0), 1, 1) := by kernel_rfl
-- the values' own types

end Go.Proofs.YtnfobcedbfbbiaaDoor.PIx
