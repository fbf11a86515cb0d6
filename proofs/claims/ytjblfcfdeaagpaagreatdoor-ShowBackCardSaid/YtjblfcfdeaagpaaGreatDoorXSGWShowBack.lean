/- One plain sentence: the law ShowBack: what a call of it does. Conditions: that its arguments are values, and what the library's tables hold. -/
import Derived.Test.YtjblfcfdeaagpaaGreatDoorXS4
set_option linter.all false
set_option linter.unusedSimpArgs false
set_option linter.unusedVariables false
set_option linter.unusedSectionVars false
namespace Go.Proofs.YtjblfcfdeaagpaaGreatDoor
open Go.RowKit Go.Eng
set_option maxRecDepth 100000
theorem walk4 (s0 : Str) (w : World) (h0 : s0.length ≤ 9223372036854775807) (hT : TabI w) :
    Calls Tryz.prog 4 #[str s0] w fun e w' => e = .returned (.bool true) ∧ Below w.heap.size w w' := by
  letI := noX
  exact (callF_calls (args := [str s0]) (Tryz.call4 _ _) (sback_true (K := fun v w' => v = .bool true ∧ Below w.heap.size w w') hT h0 fun w' hx => ⟨rfl, hx.below⟩)).mono fun e w' h => by
    cases e with
    | returned v => obtain ⟨rfl, hb⟩ := h; exact ⟨rfl, hb⟩
    | panicked l => exact h.elim
    | outgrown => exact h.elim
end Go.Proofs.YtjblfcfdeaagpaaGreatDoor
