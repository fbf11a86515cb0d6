/- One plain sentence: the law DiffChooses: what a call of it does. Conditions: that its arguments are values. -/
import Derived.Test.YtonblcbpoilndaaGreatDoorVD
import Derived.Below
set_option linter.all false
set_option linter.unusedSimpArgs false
set_option linter.unusedVariables false
set_option linter.unusedSectionVars false
namespace Go.Proofs.YtonblcbpoilndaaGreatDoor
open Go.RowKit Go.Eng
set_option maxRecDepth 100000
theorem walk4 (x y : Bool) (a b : JV) (cs ds : List Value) (w : World) (h : VRep w a cs) (h' : VRep w b ds) :
    Calls Tryz.prog 4 #[.agg #[.bool x, .bool y], .agg cs.toArray, .agg ds.toArray] w fun e w' => e = .returned (.bool true) ∧ Below w.heap.size w w' := by
  letI := noX
  exact (callF_calls (args := [.agg #[.bool x, .bool y], .agg cs.toArray, .agg ds.toArray]) (Tryz.call4 _ _) (chooses_true (K := fun v w' => v = .bool true ∧ Below w.heap.size w w') h h' fun w' hx => ⟨rfl, hx.below⟩)).mono fun e w' h => by
    cases e with
    | returned v => obtain ⟨rfl, hb⟩ := h; exact ⟨rfl, hb⟩
    | panicked l => exact h.elim
    | outgrown => exact h.elim
end Go.Proofs.YtonblcbpoilndaaGreatDoor
