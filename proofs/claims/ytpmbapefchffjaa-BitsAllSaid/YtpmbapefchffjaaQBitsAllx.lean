-- Written by a program out of the translation, over contracts proved by hand.
import Derived.Test.YtpmbapefchffjaaQBitsAllx0
import Derived.Test.YtpmbapefchffjaaQBitsAllx1
namespace Go.Proofs.Ytpmbapefchffjaa.QBitsAll
open Go.RowKit Go.Proofs.Ytpmbapefchffjaa.Plug Go.Proofs.YtpmbapefchffjaaW.PrintWords Go.Proofs.YtpmbapefchffjaaW.PrintLast Go.Proofs.YtpmbapefchffjaaW.PrintMore
attribute [local go_sem] max2_int min2_int max_two min_two max_three min_three max_four min_four   -- for this text's walks alone
set_option linter.unusedVariables false
set_option linter.unusedSimpArgs false

end Go.Proofs.Ytpmbapefchffjaa.QBitsAll
