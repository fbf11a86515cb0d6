/- One plain sentence: the law StateKeeps: what a call of it does. Conditions: that its arguments are values, and what the library's tables hold. -/
import Derived.Test.YtnoepcndjljolaaGreatDoorMZ5
set_option linter.all false
set_option linter.unusedSimpArgs false
set_option linter.unusedVariables false
set_option linter.unusedSectionVars false
namespace Go.Proofs.YtnoepcndjljolaaGreatDoor
open Go.RowKit Go.Eng
set_option maxRecDepth 100000
theorem walk4 (a0 : Int) (l0 : List RV) (cs0 : List Value) (x1 : RV) (cs1 : List Value) (s2 : Str) (w : World) (h0 : StRepP (fun k => k < w.heap.size) w a0 l0 cs0) (y0 : l0.length ≤ 9223372036854775807) (z0 : ∀ x ∈ l0, x.deps.length ≤ 8796093022208) (h1 : RRepP (fun k => k < w.heap.size) w x1 cs1) (z1 : x1.deps.length ≤ 8796093022208) (h2 : s2.length ≤ 9223372036854775807) (hT : TabA w) :
    Calls Tryz.prog 4 #[.agg cs0.toArray, .agg cs1.toArray, str s2] w fun e w' => e = .returned (.bool true) ∧ Below w.heap.size w w' := by
  letI := noX
  exact (callF_calls (args := [.agg cs0.toArray, .agg cs1.toArray, str s2]) (Tryz.call4 _ _) (keeps_true (K := fun v w' => v = .bool true ∧ Below w.heap.size w w') hT h0 y0 z0 h1 z1 h2 fun w' hx => ⟨rfl, hx.below⟩)).mono fun e w' h => by
    cases e with
    | returned v => obtain ⟨rfl, hb⟩ := h; exact ⟨rfl, hb⟩
    | panicked l => exact h.elim
    | outgrown => exact h.elim
end Go.Proofs.YtnoepcndjljolaaGreatDoor
