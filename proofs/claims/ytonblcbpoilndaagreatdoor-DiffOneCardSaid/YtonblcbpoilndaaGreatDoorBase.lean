/- One plain sentence: names for the loaded program. Conditions: none. -/
import Derived.Test.YtonblcbpoilndaaGreatDoorProg
import Derived.Test.YtonblcbpoilndaaGreatDoorLib5
set_option linter.all false
set_option linter.unusedSimpArgs false
set_option linter.unusedVariables false
set_option linter.unusedSectionVars false
namespace Go.Proofs.YtonblcbpoilndaaGreatDoor
open Go Go.Eng
theorem mixed : Tryz.prog.follows .mixedOrders = true := by kernel_rfl
end Go.Proofs.YtonblcbpoilndaaGreatDoor
