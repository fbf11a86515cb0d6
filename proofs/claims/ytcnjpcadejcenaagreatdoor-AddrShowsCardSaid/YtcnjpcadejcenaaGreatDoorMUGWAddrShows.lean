/- One plain sentence: the law AddrShows: what a call of it does. Conditions: that its arguments are values, and what the library's tables hold. -/
import Derived.Test.YtcnjpcadejcenaaGreatDoorMU6
set_option linter.all false
set_option linter.unusedSimpArgs false
set_option linter.unusedVariables false
set_option linter.unusedSectionVars false
namespace Go.Proofs.YtcnjpcadejcenaaGreatDoor
open Go.RowKit Go.Eng
set_option maxRecDepth 100000
theorem walk11 (a0 : AV) (cs0 : List Value) (w : World) (h0 : ARep w a0 cs0 ∧ a0.key.length ≤ 140737488355328) (hT : TabA w) :
    Calls Tryz.prog 11 #[.agg cs0.toArray] w fun e w' => e = .returned (.bool true) ∧ Below w.heap.size w w' := by
  letI := noX
  exact (callF_calls (args := [.agg cs0.toArray]) (Tryz.call11 _ _) (shows_true (K := fun v w' => v = .bool true ∧ Below w.heap.size w w') hT h0 fun w' hx => ⟨rfl, hx.below⟩)).mono fun e w' h => by
    cases e with
    | returned v => obtain ⟨rfl, hb⟩ := h; exact ⟨rfl, hb⟩
    | panicked l => exact h.elim
    | outgrown => exact h.elim
end Go.Proofs.YtcnjpcadejcenaaGreatDoor
