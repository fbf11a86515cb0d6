/- One plain sentence: names for the loaded program. Conditions: none. -/
import Derived.Test.YtcefidpmlnfheaaProg
import Derived.Test.YtcefidpmlnfheaaEng9
set_option linter.all false
set_option linter.unusedSimpArgs false
set_option linter.unusedVariables false
set_option linter.unusedSectionVars false
namespace Go.Proofs.Ytcefidpmlnfheaa
open Go Go.Eng
theorem mixed : Try.prog.follows .mixedOrders = true := by kernel_rfl
end Go.Proofs.Ytcefidpmlnfheaa
