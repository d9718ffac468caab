-- Written by a program out of the translation, over contracts proved by hand.
import Derived.Test.YtkdnldoebghclaaQFrx0
import Derived.Test.YtkdnldoebghclaaQFrx1
import Derived.Test.YtkdnldoebghclaaQFrx2
import Derived.Test.YtkdnldoebghclaaQFrx3
namespace Go.Proofs.Ytkdnldoebghclaa.QFr
open Go.RowKit Go.Proofs.Ytkdnldoebghclaa.Plug Go.Proofs.YtkdnldoebghclaaW.PrintWords Go.Proofs.YtkdnldoebghclaaW.PrintLast Go.Proofs.YtkdnldoebghclaaW.PrintMore
attribute [local go_sem] max2_int min2_int max_two min_two max_three min_three max_four min_four   -- for this text's walks alone
set_option linter.unusedVariables false
set_option linter.unusedSimpArgs false

end Go.Proofs.Ytkdnldoebghclaa.QFr
