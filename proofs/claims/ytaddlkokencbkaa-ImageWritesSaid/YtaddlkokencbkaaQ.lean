/- Printed by this session's myprint.py out of the translation: functions of the program as Lean functions, and that the program's calls come to them. -/
import Derived.Test.YtaddlkokencbkaaQ0
import Derived.Test.YtaddlkokencbkaaQ1
import Derived.Test.YtaddlkokencbkaaQ2
import Derived.Test.YtaddlkokencbkaaQ3
import Derived.Test.YtaddlkokencbkaaQ4
import Derived.Test.YtaddlkokencbkaaQ5
import Derived.Test.YtaddlkokencbkaaQ6
namespace Go.Proofs.Ytaddlkokencbkaa.Q
open Go.RowKit Go.Proofs.YtaddlkokencbkaaW.PrintWords Go.Proofs.YtaddlkokencbkaaW.PrintLast Go.Proofs.YtaddlkokencbkaaW.PrintMore
attribute [local go_sem] max2_int min2_int max_two min_two max_three min_three max_four min_four   -- for this text's walks alone
set_option linter.unusedVariables false
set_option linter.unusedSimpArgs false

end Go.Proofs.Ytaddlkokencbkaa.Q
