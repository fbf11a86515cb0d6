/- One plain sentence: the law ConfigDeep: what a call of it does. Conditions: that its arguments are values, and what the library's tables hold. -/
import Derived.Test.YtjblfcfdeaagpaaGreatDoorXC5
set_option linter.all false
set_option linter.unusedSimpArgs false
set_option linter.unusedVariables false
set_option linter.unusedSectionVars false
namespace Go.Proofs.YtjblfcfdeaagpaaGreatDoor
open Go.RowKit Go.Eng
set_option maxRecDepth 100000
theorem walk6 (a0 : Int) (w : World) (h0 : -9223372036854775808 ≤ a0 ∧ a0 ≤ 9223372036854775807) (hT : TabI w) :
    Calls Tryz.prog 6 #[i64 a0] w fun e w' => e = .returned (.bool true) ∧ Below w.heap.size w w' := by
  letI := noX
  exact (callF_calls (args := [i64 a0]) (Tryz.call6 _ _) (cdeep_true (K := fun v w' => v = .bool true ∧ Below w.heap.size w w') hT h0 fun w' hx => ⟨rfl, hx.below⟩)).mono fun e w' h => by
    cases e with
    | returned v => obtain ⟨rfl, hb⟩ := h; exact ⟨rfl, hb⟩
    | panicked l => exact h.elim
    | outgrown => exact h.elim
end Go.Proofs.YtjblfcfdeaagpaaGreatDoor
