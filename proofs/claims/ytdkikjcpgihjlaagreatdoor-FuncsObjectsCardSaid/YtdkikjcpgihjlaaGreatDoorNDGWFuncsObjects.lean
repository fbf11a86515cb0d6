/- One plain sentence: the law FuncsObjects: what a call of it does. Conditions: that its arguments are values, and what the library's tables hold. -/
import Derived.Test.YtdkikjcpgihjlaaGreatDoorND5
set_option linter.all false
set_option linter.unusedSimpArgs false
set_option linter.unusedVariables false
set_option linter.unusedSectionVars false
namespace Go.Proofs.YtdkikjcpgihjlaaGreatDoor
open Go.RowKit Go.Eng
set_option maxRecDepth 100000
theorem walk6 (j0 : JV) (cs0 : List Value) (j1 : JV) (cs1 : List Value) (s2 : Str) (w : World) (h0 : VRep w j0 cs0) (h1 : VRep w j1 cs1) (h2 : s2.length ≤ 9223372036854775807) (hT : TabF w) :
    Calls Tryz.prog 6 #[.agg cs0.toArray, .agg cs1.toArray, str s2] w fun e w' => e = .returned (.bool true) ∧ Below w.heap.size w w' := by
  letI := noX
  exact (callF_calls (args := [.agg cs0.toArray, .agg cs1.toArray, str s2]) (Tryz.call6 _ _) (fobjects_true (K := fun v w' => v = .bool true ∧ Below w.heap.size w w') hT h0 h1 h2 fun w' hx => ⟨rfl, hx.below⟩)).mono fun e w' h => by
    cases e with
    | returned v => obtain ⟨rfl, hb⟩ := h; exact ⟨rfl, hb⟩
    | panicked l => exact h.elim
    | outgrown => exact h.elim
end Go.Proofs.YtdkikjcpgihjlaaGreatDoor
