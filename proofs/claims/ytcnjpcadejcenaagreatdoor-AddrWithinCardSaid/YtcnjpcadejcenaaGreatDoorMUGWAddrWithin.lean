/- One plain sentence: the law AddrWithin: what a call of it does. Conditions: that its arguments are values, and what the library's tables hold. -/
import Derived.Test.YtcnjpcadejcenaaGreatDoorMU6
set_option linter.all false
set_option linter.unusedSimpArgs false
set_option linter.unusedVariables false
set_option linter.unusedSectionVars false
namespace Go.Proofs.YtcnjpcadejcenaaGreatDoor
open Go.RowKit Go.Eng
set_option maxRecDepth 100000
theorem walk14 (a0 : AV) (cs0 : List Value) (T1 : TypeId) (b1 : Value) (l1 : List Str) (w : World) (h0 : ARep w a0 cs0) (h1 : SlAt w T1 b1 l1.length (l1.map str) ∧ l1.length ≤ 9223372036854775807) (hT : TabA w) :
    Calls Tryz.prog 14 #[.agg cs0.toArray, b1] w fun e w' => e = .returned (.bool true) ∧ Below w.heap.size w w' := by
  letI := noX
  exact (callF_calls (args := [.agg cs0.toArray, b1]) (Tryz.call14 _ _) (within_true (K := fun v w' => v = .bool true ∧ Below w.heap.size w w') hT h0 h1 fun w' hx => ⟨rfl, hx.below⟩)).mono fun e w' h => by
    cases e with
    | returned v => obtain ⟨rfl, hb⟩ := h; exact ⟨rfl, hb⟩
    | panicked l => exact h.elim
    | outgrown => exact h.elim
end Go.Proofs.YtcnjpcadejcenaaGreatDoor
