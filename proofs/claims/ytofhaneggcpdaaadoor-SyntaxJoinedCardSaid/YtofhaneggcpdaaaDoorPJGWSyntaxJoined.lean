/- One plain sentence: the law SyntaxJoined: what a call of it does. Conditions: that its arguments are values, and what the library's tables hold. -/
import Derived.Test.YtofhaneggcpdaaaDoorPJ5
set_option linter.all false
set_option linter.unusedSimpArgs false
set_option linter.unusedVariables false
set_option linter.unusedSectionVars false
namespace Go.Proofs.YtofhaneggcpdaaaDoor
open Go.RowKit Go.Eng
set_option maxRecDepth 100000
theorem walk5 (s0 : Str) (s1 : Str) (w : World) (h0 : s0.length ≤ 9223372036854775807) (h1 : s1.length ≤ 9223372036854775807) (hT : TabI w) :
    Calls Tryd.prog 5 #[str s0, str s1] w fun e w' => e = .returned (.bool true) ∧ Below w.heap.size w w' := by
  letI := noX
  exact (callF_calls (args := [str s0, str s1]) (Tryd.call5 _ _) (joined_true (K := fun v w' => v = .bool true ∧ Below w.heap.size w w') hT h0 h1 fun w' hx => ⟨rfl, hx.below⟩)).mono fun e w' h => by
    cases e with
    | returned v => obtain ⟨rfl, hb⟩ := h; exact ⟨rfl, hb⟩
    | panicked l => exact h.elim
    | outgrown => exact h.elim
end Go.Proofs.YtofhaneggcpdaaaDoor
