/- Printed by this session's myprint.py out of the translation: functions of the program as Lean functions, and that the program's calls come to them. -/
import Derived.Test.YtaddlkokencbkaaProg
import Derived.Below
import Derived.Deep.Draws
import Derived.Deep.AppendLies
import Derived.Maps.AppendAt
import Derived.OwnWalk
import Derived.Laws.BytesArg
import Derived.Laws.MakeOwn
import Derived.Laws.OwnMore
import Derived.Deep.OwnRows
import Derived.Tactics
import Derived.Lib.ConvBytes
import Derived.Laws.Slices
import Derived.WalkKit
import Derived.KernelRfl
import Derived.RowKit3
import Derived.Deep.LoopGhost
import Derived.Deep.QuietTactic
import Derived.BigQuiet
import Derived.WideLaws
import Derived.Deep.DeepCutAuto
import Derived.Deep.CutBlock
import Derived.Deep.RegionHeld3
import Derived.Laws.Rows
import Derived.Lib.AppendStr
import Derived.ArgAppend
import Derived.Laws.IdiomCopy
import Derived.OrdersHeld
import Derived.Laws.BitsLemmas
import Derived.RowKit
import Derived.Test.YtaddlkokencbkaaWWords
import Derived.Test.YtaddlkokencbkaaWLast
import Derived.Test.YtaddlkokencbkaaWTab
import Derived.Test.YtaddlkokencbkaaWFour
import Derived.Test.YtaddlkokencbkaaWQPut
import Derived.Test.YtaddlkokencbkaaWApart
import Derived.Test.YtaddlkokencbkaaWArr
import Derived.Test.YtaddlkokencbkaaWZeros
import Derived.Test.YtaddlkokencbkaaWFoot
import Derived.Test.YtaddlkokencbkaaWKept
import Derived.Test.YtaddlkokencbkaaWShare
import Derived.Test.YtaddlkokencbkaaWN
import Derived.Test.YtaddlkokencbkaaWFootNe
import Derived.Test.YtaddlkokencbkaaWAt
import Derived.Test.YtaddlkokencbkaaWEqStruct
import Derived.Test.YtaddlkokencbkaaWRepsOne
import Derived.Test.YtaddlkokencbkaaWInv
import Derived.Test.YtaddlkokencbkaaWInvWords
import Derived.Test.YtaddlkokencbkaaWGuard
import Derived.Test.YtaddlkokencbkaaWNEv
import Derived.Test.YtaddlkokencbkaaWMore
namespace Go.Proofs.Ytaddlkokencbkaa.U
open Go.RowKit Go.Proofs.YtaddlkokencbkaaW.PrintWords Go.Proofs.YtaddlkokencbkaaW.PrintLast Go.Proofs.YtaddlkokencbkaaW.PrintMore
attribute [local go_sem] max2_int min2_int max_two min_two max_three min_three max_four min_four   -- for this text's walks alone
set_option linter.unusedVariables false
set_option linter.unusedSimpArgs false



def errW : Option Int → Value
  | none => .nilIface
  | some c => .iface 0 (.int .i64 c)
theorem errW_none : errW none = .nilIface := rfl
theorem errW_some (c : Int) : errW (some c) = .iface 0 (.int .i64 c) := rfl

-- the values' own types

end Go.Proofs.Ytaddlkokencbkaa.U
