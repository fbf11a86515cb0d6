/- One plain sentence: the law EvalNumbers: what a call of it does. Conditions: that its arguments are values, and what the library's tables hold. -/
import Derived.Test.YtghhmpppnmoeoaaGreatDoorXNumbers6
set_option linter.all false
set_option linter.unusedSimpArgs false
set_option linter.unusedVariables false
set_option linter.unusedSectionVars false
namespace Go.Proofs.YtghhmpppnmoeoaaGreatDoor
open Go.RowKit Go.Eng
set_option maxRecDepth 100000
theorem walk4 (a0 : Int) (a1 : Int) (a2 : Int) (w : World) (h0 : -9223372036854775808 ≤ a0 ∧ a0 ≤ 9223372036854775807) (h1 : -9223372036854775808 ≤ a1 ∧ a1 ≤ 9223372036854775807) (h2 : -9223372036854775808 ≤ a2 ∧ a2 ≤ 9223372036854775807) (hT : TabE w) :
    Calls Tryz.prog 4 #[i64 a0, i64 a1, i64 a2] w fun e w' => e = .returned (.bool true) ∧ Below w.heap.size w w' := by
  letI := noX
  exact (callF_calls (args := [i64 a0, i64 a1, i64 a2]) (Tryz.call4 _ _) (numbers_true (K := fun v w' => v = .bool true ∧ Below w.heap.size w w') hT h0 h1 h2 fun w' hx => ⟨rfl, hx.below⟩)).mono fun e w' h => by
    cases e with
    | returned v => obtain ⟨rfl, hb⟩ := h; exact ⟨rfl, hb⟩
    | panicked l => exact h.elim
    | outgrown => exact h.elim
end Go.Proofs.YtghhmpppnmoeoaaGreatDoor
