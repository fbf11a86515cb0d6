/- One plain sentence: the law EvalShapes: what a call of it does. Conditions: that its arguments are values, and what the library's tables hold. -/
import Derived.Test.YtghhmpppnmoeoaaGreatDoorXShapes6
set_option linter.all false
set_option linter.unusedSimpArgs false
set_option linter.unusedVariables false
set_option linter.unusedSectionVars false
namespace Go.Proofs.YtghhmpppnmoeoaaGreatDoor
open Go.RowKit Go.Eng
set_option maxRecDepth 100000
theorem walk5 (T0 : TypeId) (b0 : Value) (l0 : List Int) (a1 : Int) (w : World) (h0 : SlAt w T0 b0 l0.length (l0.map i64) ∧ l0.length ≤ 9223372036854775807) (y0 : ∀ n ∈ l0, I63 n) (h1 : -9223372036854775808 ≤ a1 ∧ a1 ≤ 9223372036854775807) (hT : TabE w) :
    Calls Tryz.prog 5 #[b0, i64 a1] w fun e w' => e = .returned (.bool true) ∧ Below w.heap.size w w' := by
  letI := noX
  exact (callF_calls (args := [b0, i64 a1]) (Tryz.call5 _ _) (shapes_true (K := fun v w' => v = .bool true ∧ Below w.heap.size w w') hT h0 y0 h1 fun w' hx => ⟨rfl, hx.below⟩)).mono fun e w' h => by
    cases e with
    | returned v => obtain ⟨rfl, hb⟩ := h; exact ⟨rfl, hb⟩
    | panicked l => exact h.elim
    | outgrown => exact h.elim
end Go.Proofs.YtghhmpppnmoeoaaGreatDoor
