-- Written by a program out of the translation, over contracts proved by hand.
import Derived.Test.YtdjlbdpajnlonaaProg
import Derived.Below
import Derived.Deep.Draws
import Derived.Deep.AppendLies
import Derived.Maps.AppendAt
import Derived.OwnWalk
import Derived.Laws.BytesArg
import Derived.Laws.MakeOwn
import Derived.Laws.OwnMore
import Derived.Deep.OwnRows
import Derived.Tactics
import Derived.Lib.ConvBytes
import Derived.Laws.Slices
import Derived.WalkKit
import Derived.KernelRfl
import Derived.RowKit3
import Derived.Deep.LoopGhost
import Derived.Deep.QuietTactic
import Derived.BigQuiet
import Derived.WideLaws
import Derived.Deep.DeepCutAuto
import Derived.Deep.CutBlock
import Derived.Deep.RegionHeld3
import Derived.Laws.Rows
import Derived.Lib.AppendStr
import Derived.ArgAppend
import Derived.Laws.IdiomCopy
import Derived.OrdersHeld
import Derived.Laws.BitsLemmas
import Derived.RowKit
import Derived.Test.YtdjlbdpajnlonaaFrameA
import Derived.Test.YtdjlbdpajnlonaaWWords
import Derived.Test.YtdjlbdpajnlonaaWLast
import Derived.Test.YtdjlbdpajnlonaaWTab
import Derived.Test.YtdjlbdpajnlonaaWFour
import Derived.Test.YtdjlbdpajnlonaaWQPut
import Derived.Test.YtdjlbdpajnlonaaWApart
import Derived.Test.YtdjlbdpajnlonaaWArr
import Derived.Test.YtdjlbdpajnlonaaWZeros
import Derived.Test.YtdjlbdpajnlonaaWFoot
import Derived.Test.YtdjlbdpajnlonaaWKept
import Derived.Test.YtdjlbdpajnlonaaWShare
import Derived.Test.YtdjlbdpajnlonaaWN
import Derived.Test.YtdjlbdpajnlonaaWFootNe
import Derived.Test.YtdjlbdpajnlonaaWAt
import Derived.Test.YtdjlbdpajnlonaaWEqStruct
import Derived.Test.YtdjlbdpajnlonaaWRepsOne
import Derived.Test.YtdjlbdpajnlonaaWInv
import Derived.Test.YtdjlbdpajnlonaaWInvWords
import Derived.Test.YtdjlbdpajnlonaaWGuard
import Derived.Test.YtdjlbdpajnlonaaWNEv
import Derived.Test.YtdjlbdpajnlonaaWMore
namespace Go.Proofs.Ytdjlbdpajnlonaa.QFr
open Go.RowKit Go.Proofs.Ytdjlbdpajnlonaa.Plug Go.Proofs.YtdjlbdpajnlonaaW.PrintWords Go.Proofs.YtdjlbdpajnlonaaW.PrintLast Go.Proofs.YtdjlbdpajnlonaaW.PrintMore
attribute [local go_sem] max2_int min2_int max_two min_two max_three min_three max_four min_four   -- for this text's walks alone
set_option linter.unusedVariables false
set_option linter.unusedSimpArgs false



def errW : Option Int → Value
  | none => .nilIface
  | some c => .iface 0 (.int .i64 c)
theorem errW_none : errW none = .nilIface := rfl
theorem errW_some (c : Int) : errW (some c) = .iface 0 (.int .i64 c) := rfl

-- the values' own types

end Go.Proofs.Ytdjlbdpajnlonaa.QFr
