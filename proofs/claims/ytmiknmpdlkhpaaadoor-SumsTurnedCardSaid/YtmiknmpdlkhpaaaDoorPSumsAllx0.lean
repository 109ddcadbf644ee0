-- PRINTED by print.py (a twelfth state) out of the translation. Not trusted: Lean checks it.
import Derived.Test.YtmiknmpdlkhpaaaDoorProg
import Derived.Below
import Derived.Deep.Draws
import Derived.Deep.AppendLies
import Derived.Maps.AppendAt
import Derived.OwnWalk
import Derived.Laws.BytesArg
import Derived.Laws.MakeOwn
import Derived.Laws.OwnMore
import Derived.Deep.OwnRows
import Derived.Tactics
import Derived.Lib.ConvBytes
import Derived.Laws.Slices
import Derived.WalkKit
import Derived.KernelRfl
import Derived.RowKit3
import Derived.Deep.LoopGhost
import Derived.Deep.QuietTactic
import Derived.BigQuiet
import Derived.WideLaws
import Derived.Deep.DeepCutAuto
import Derived.Deep.CutBlock
import Derived.Deep.RegionHeld3
import Derived.Laws.Rows
import Derived.Lib.AppendStr
import Derived.ArgAppend
import Derived.Laws.IdiomCopy
import Derived.OrdersHeld
import Derived.Laws.BitsLemmas
import Derived.RowKit
import Derived.Test.YtmiknmpdlkhpaaaDoorCrc
import Derived.Test.YtmiknmpdlkhpaaaDoorHalf
import Derived.Test.YtmiknmpdlkhpaaaDoorWWords
import Derived.Test.YtmiknmpdlkhpaaaDoorWLast
import Derived.Test.YtmiknmpdlkhpaaaDoorWTab
import Derived.Test.YtmiknmpdlkhpaaaDoorWFour
import Derived.Test.YtmiknmpdlkhpaaaDoorWQPut
import Derived.Test.YtmiknmpdlkhpaaaDoorWApart
import Derived.Test.YtmiknmpdlkhpaaaDoorWArr
import Derived.Test.YtmiknmpdlkhpaaaDoorWZeros
import Derived.Test.YtmiknmpdlkhpaaaDoorWFoot
import Derived.Test.YtmiknmpdlkhpaaaDoorWKept
import Derived.Test.YtmiknmpdlkhpaaaDoorWShare
import Derived.Test.YtmiknmpdlkhpaaaDoorWN
import Derived.Test.YtmiknmpdlkhpaaaDoorWFootNe
import Derived.Test.YtmiknmpdlkhpaaaDoorWAt
import Derived.Test.YtmiknmpdlkhpaaaDoorWEqStruct
import Derived.Test.YtmiknmpdlkhpaaaDoorWRepsOne
import Derived.Test.YtmiknmpdlkhpaaaDoorWInv
import Derived.Test.YtmiknmpdlkhpaaaDoorWInvWords
import Derived.Test.YtmiknmpdlkhpaaaDoorWGuard
import Derived.Test.YtmiknmpdlkhpaaaDoorWNEv
import Derived.Test.YtmiknmpdlkhpaaaDoorWMore
namespace Go.Proofs.YtmiknmpdlkhpaaaDoor.PSumsAll
open Go.RowKit Go.Proofs.YtmiknmpdlkhpaaaDoorW.PrintWords Go.Proofs.YtmiknmpdlkhpaaaDoorW.PrintLast Go.Proofs.YtmiknmpdlkhpaaaDoorW.PrintMore
attribute [local go_sem] max2_int min2_int max_two min_two max_three min_three max_four min_four   -- for this text's walks alone
set_option linter.unusedVariables false
set_option linter.unusedSimpArgs false



def errW : Option Int → Value
  | none => .nilIface
  | some c => .iface 0 (.int .i64 c)
theorem errW_none : errW none = .nilIface := rfl
theorem errW_some (c : Int) : errW (some c) = .iface 0 (.int .i64 c) := rfl

theorem info5 : (Tryd.prog.info? 5).map (fun i => (i.zero, i.size, i.bytes)) = some (some (.int .u8 0), 1, 1) := by kernel_rfl
-- the values' own types

end Go.Proofs.YtmiknmpdlkhpaaaDoor.PSumsAll
