-- Written by a program out of the translation, over contracts proved by hand.
import Derived.Test.YtkclgfjfmlogmaaQStuffBackx0
import Derived.Test.YtkclgfjfmlogmaaQStuffBackx1
import Derived.Test.YtkclgfjfmlogmaaQStuffBackx2
namespace Go.Proofs.Ytkclgfjfmlogmaa.QStuffBack
open Go.RowKit Go.Proofs.Ytkclgfjfmlogmaa.Plug Go.Proofs.YtkclgfjfmlogmaaW.PrintWords Go.Proofs.YtkclgfjfmlogmaaW.PrintLast Go.Proofs.YtkclgfjfmlogmaaW.PrintMore
attribute [local go_sem] max2_int min2_int max_two min_two max_three min_three max_four min_four   -- for this text's walks alone
set_option linter.unusedVariables false
set_option linter.unusedSimpArgs false

end Go.Proofs.Ytkclgfjfmlogmaa.QStuffBack
