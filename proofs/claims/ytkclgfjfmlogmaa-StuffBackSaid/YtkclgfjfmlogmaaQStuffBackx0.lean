-- Written by a program out of the translation, over contracts proved by hand.
import Derived.Test.YtkclgfjfmlogmaaProg
import Derived.Below
import Derived.Deep.Draws
import Derived.Deep.AppendLies
import Derived.Maps.AppendAt
import Derived.OwnWalk
import Derived.Laws.BytesArg
import Derived.Laws.MakeOwn
import Derived.Laws.OwnMore
import Derived.Deep.OwnRows
import Derived.Tactics
import Derived.Lib.ConvBytes
import Derived.Laws.Slices
import Derived.WalkKit
import Derived.KernelRfl
import Derived.RowKit3
import Derived.Deep.LoopGhost
import Derived.Deep.QuietTactic
import Derived.BigQuiet
import Derived.WideLaws
import Derived.Deep.DeepCutAuto
import Derived.Deep.CutBlock
import Derived.Deep.RegionHeld3
import Derived.Laws.Rows
import Derived.Lib.AppendStr
import Derived.ArgAppend
import Derived.Laws.IdiomCopy
import Derived.OrdersHeld
import Derived.Laws.BitsLemmas
import Derived.RowKit
import Derived.Test.YtkclgfjfmlogmaaStuffWalksD
import Derived.Test.YtkclgfjfmlogmaaWWords
import Derived.Test.YtkclgfjfmlogmaaWLast
import Derived.Test.YtkclgfjfmlogmaaWTab
import Derived.Test.YtkclgfjfmlogmaaWFour
import Derived.Test.YtkclgfjfmlogmaaWQPut
import Derived.Test.YtkclgfjfmlogmaaWApart
import Derived.Test.YtkclgfjfmlogmaaWArr
import Derived.Test.YtkclgfjfmlogmaaWZeros
import Derived.Test.YtkclgfjfmlogmaaWFoot
import Derived.Test.YtkclgfjfmlogmaaWKept
import Derived.Test.YtkclgfjfmlogmaaWShare
import Derived.Test.YtkclgfjfmlogmaaWN
import Derived.Test.YtkclgfjfmlogmaaWFootNe
import Derived.Test.YtkclgfjfmlogmaaWAt
import Derived.Test.YtkclgfjfmlogmaaWEqStruct
import Derived.Test.YtkclgfjfmlogmaaWRepsOne
import Derived.Test.YtkclgfjfmlogmaaWInv
import Derived.Test.YtkclgfjfmlogmaaWInvWords
import Derived.Test.YtkclgfjfmlogmaaWGuard
import Derived.Test.YtkclgfjfmlogmaaWNEv
import Derived.Test.YtkclgfjfmlogmaaWMore
namespace Go.Proofs.Ytkclgfjfmlogmaa.QStuffBack
open Go.RowKit Go.Proofs.Ytkclgfjfmlogmaa.Plug Go.Proofs.YtkclgfjfmlogmaaW.PrintWords Go.Proofs.YtkclgfjfmlogmaaW.PrintLast Go.Proofs.YtkclgfjfmlogmaaW.PrintMore
attribute [local go_sem] max2_int min2_int max_two min_two max_three min_three max_four min_four   -- for this text's walks alone
set_option linter.unusedVariables false
set_option linter.unusedSimpArgs false



def errW : Option Int → Value
  | none => .nilIface
  | some c => .iface 0 (.int .i64 c)
theorem errW_none : errW none = .nilIface := rfl
theorem errW_some (c : Int) : errW (some c) = .iface 0 (.int .i64 c) := rfl

-- the values' own types

end Go.Proofs.Ytkclgfjfmlogmaa.QStuffBack
