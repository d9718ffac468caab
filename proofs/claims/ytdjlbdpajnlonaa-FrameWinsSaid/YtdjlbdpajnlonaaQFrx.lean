-- Written by a program out of the translation, over contracts proved by hand.
import Derived.Test.YtdjlbdpajnlonaaQFrx0
import Derived.Test.YtdjlbdpajnlonaaQFrx1
import Derived.Test.YtdjlbdpajnlonaaQFrx2
import Derived.Test.YtdjlbdpajnlonaaQFrx3
import Derived.Test.YtdjlbdpajnlonaaQFrx4
import Derived.Test.YtdjlbdpajnlonaaQFrx5
namespace Go.Proofs.Ytdjlbdpajnlonaa.QFr
open Go.RowKit Go.Proofs.Ytdjlbdpajnlonaa.Plug Go.Proofs.YtdjlbdpajnlonaaW.PrintWords Go.Proofs.YtdjlbdpajnlonaaW.PrintLast Go.Proofs.YtdjlbdpajnlonaaW.PrintMore
attribute [local go_sem] max2_int min2_int max_two min_two max_three min_three max_four min_four   -- for this text's walks alone
set_option linter.unusedVariables false
set_option linter.unusedSimpArgs false

end Go.Proofs.Ytdjlbdpajnlonaa.QFr
