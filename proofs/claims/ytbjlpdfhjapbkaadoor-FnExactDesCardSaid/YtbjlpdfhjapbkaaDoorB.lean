-- Written by a program of this session (a scratch copy of the print with functions taken as proved): Lean checks it.
import Derived.Test.YtbjlpdfhjapbkaaDoorB0
import Derived.Test.YtbjlpdfhjapbkaaDoorB1
import Derived.Test.YtbjlpdfhjapbkaaDoorB2
import Derived.Test.YtbjlpdfhjapbkaaDoorB3
namespace Go.Proofs.YtbjlpdfhjapbkaaDoor.B
open Go.RowKit Go.Proofs.YtbjlpdfhjapbkaaDoorW.PrintWords Go.Proofs.YtbjlpdfhjapbkaaDoorW.PrintLast Go.Proofs.YtbjlpdfhjapbkaaDoorW.PrintMore
attribute [local go_sem] max2_int min2_int max_two min_two max_three min_three max_four min_four   -- for this text's walks alone
set_option linter.unusedVariables false
set_option linter.unusedSimpArgs false

end Go.Proofs.YtbjlpdfhjapbkaaDoor.B
