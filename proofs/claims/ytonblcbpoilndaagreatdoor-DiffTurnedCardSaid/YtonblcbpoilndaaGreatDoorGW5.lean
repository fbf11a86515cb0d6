/- One plain sentence: the law DiffTurned: what a call of it does. Conditions: that its arguments are values. -/
import Derived.Test.YtonblcbpoilndaaGreatDoorVW5
import Derived.Test.YtonblcbpoilndaaGreatDoorVD
import Derived.Below
set_option linter.all false
set_option linter.unusedSimpArgs false
set_option linter.unusedVariables false
set_option linter.unusedSectionVars false
namespace Go.Proofs.YtonblcbpoilndaaGreatDoor
open Go.RowKit Go.Eng
set_option maxRecDepth 100000
theorem walk5 (j0 : JV) (cs0 : List Value) (j1 : JV) (cs1 : List Value) (w : World) (h0 : VRep w j0 cs0) (h1 : VRep w j1 cs1) :
    Calls Tryz.prog 5 #[.agg cs0.toArray, .agg cs1.toArray] w fun e w' => e = .returned (.bool true) ∧ Below w.heap.size w w' := by
  letI := noX
  exact (callF_calls (args := [.agg cs0.toArray, .agg cs1.toArray]) (Tryz.call5 _ _) (turned_true (K := fun v w' => v = .bool true ∧ Below w.heap.size w w') h0 h1 fun w' hx => ⟨rfl, hx.below⟩)).mono fun e w' h => by
    cases e with
    | returned v => obtain ⟨rfl, hb⟩ := h; exact ⟨rfl, hb⟩
    | panicked l => exact h.elim
    | outgrown => exact h.elim
end Go.Proofs.YtonblcbpoilndaaGreatDoor
