/- One plain sentence: the law FuncsCall: what a call of it does. Conditions: that its arguments are values, and what the library's tables hold. -/
import Derived.Test.YtdkikjcpgihjlaaGreatDoorNG6
set_option linter.all false
set_option linter.unusedSimpArgs false
set_option linter.unusedVariables false
set_option linter.unusedSectionVars false
namespace Go.Proofs.YtdkikjcpgihjlaaGreatDoor
open Go.RowKit Go.Eng
set_option maxRecDepth 100000
theorem walk3 (s0 : Str) (b1 : Value) (l1 : List JV) (w : World) (h0 : s0.length ≤ 9223372036854775807) (h1 : ItemsAt w b1 l1) (hT : TabF w) :
    Calls Tryz.prog 3 #[str s0, b1] w fun e w' => e = .returned (.bool true) ∧ Below w.heap.size w w' := by
  letI := noX
  exact (callF_calls (args := [str s0, b1]) (Tryz.call3 _ _) (fcall_true (K := fun v w' => v = .bool true ∧ Below w.heap.size w w') hT h0 h1 fun w' hx => ⟨rfl, hx.below⟩)).mono fun e w' h => by
    cases e with
    | returned v => obtain ⟨rfl, hb⟩ := h; exact ⟨rfl, hb⟩
    | panicked l => exact h.elim
    | outgrown => exact h.elim
end Go.Proofs.YtdkikjcpgihjlaaGreatDoor
