/- One plain sentence: the law SyntaxDeep: what a call of it does. Conditions: that its arguments are values, and what the library's tables hold. -/
import Derived.Test.YtofhaneggcpdaaaDoorPD4
set_option linter.all false
set_option linter.unusedSimpArgs false
set_option linter.unusedVariables false
set_option linter.unusedSectionVars false
namespace Go.Proofs.YtofhaneggcpdaaaDoor
open Go.RowKit Go.Eng
set_option maxRecDepth 100000
theorem walk4 (a0 : Int) (a1 : Int) (w : World) (h0 : -9223372036854775808 ≤ a0 ∧ a0 ≤ 9223372036854775807) (h1 : -9223372036854775808 ≤ a1 ∧ a1 ≤ 9223372036854775807) (hT : TabI w) :
    Calls Tryd.prog 4 #[i64 a0, i64 a1] w fun e w' => e = .returned (.bool true) ∧ Below w.heap.size w w' := by
  letI := noX
  exact (callF_calls (args := [i64 a0, i64 a1]) (Tryd.call4 _ _) (deep_true (K := fun v w' => v = .bool true ∧ Below w.heap.size w w') hT h0 h1 fun w' hx => ⟨rfl, hx.below⟩)).mono fun e w' h => by
    cases e with
    | returned v => obtain ⟨rfl, hb⟩ := h; exact ⟨rfl, hb⟩
    | panicked l => exact h.elim
    | outgrown => exact h.elim
end Go.Proofs.YtofhaneggcpdaaaDoor
