/- One plain sentence: the law AddrOrder: what a call of it does. Conditions: that its arguments are values, and what the library's tables hold. -/
import Derived.Test.YtcnjpcadejcenaaGreatDoorMU6
set_option linter.all false
set_option linter.unusedSimpArgs false
set_option linter.unusedVariables false
set_option linter.unusedSectionVars false
namespace Go.Proofs.YtcnjpcadejcenaaGreatDoor
open Go.RowKit Go.Eng
set_option maxRecDepth 100000
theorem walk13 (a0 : AV) (cs0 : List Value) (a1 : AV) (cs1 : List Value) (a2 : AV) (cs2 : List Value) (w : World) (h0 : ARep w a0 cs0) (h1 : ARep w a1 cs1) (h2 : ARep w a2 cs2) (hT : TabA w) :
    Calls Tryz.prog 13 #[.agg cs0.toArray, .agg cs1.toArray, .agg cs2.toArray] w fun e w' => e = .returned (.bool true) ∧ Below w.heap.size w w' := by
  letI := noX
  exact (callF_calls (args := [.agg cs0.toArray, .agg cs1.toArray, .agg cs2.toArray]) (Tryz.call13 _ _) (aorder_true (K := fun v w' => v = .bool true ∧ Below w.heap.size w w') hT h0 h1 h2 fun w' hx => ⟨rfl, hx.below⟩)).mono fun e w' h => by
    cases e with
    | returned v => obtain ⟨rfl, hb⟩ := h; exact ⟨rfl, hb⟩
    | panicked l => exact h.elim
    | outgrown => exact h.elim
end Go.Proofs.YtcnjpcadejcenaaGreatDoor
