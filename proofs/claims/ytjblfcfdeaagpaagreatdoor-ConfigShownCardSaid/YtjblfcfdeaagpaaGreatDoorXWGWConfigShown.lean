/- One plain sentence: the law ConfigShown: what a call of it does. Conditions: that its arguments are values, and what the library's tables hold. -/
import Derived.Test.YtjblfcfdeaagpaaGreatDoorXW6
set_option linter.all false
set_option linter.unusedSimpArgs false
set_option linter.unusedVariables false
set_option linter.unusedSectionVars false
namespace Go.Proofs.YtjblfcfdeaagpaaGreatDoor
open Go.RowKit Go.Eng
set_option maxRecDepth 100000
theorem walk9 (tA0 tB0 : TypeId) (ta0 tb0 : Value) (la0 lb0 : List Str) (w : World) (ha0 : SlAt w tA0 ta0 la0.length (la0.map str)) (hb0 : SlAt w tB0 tb0 lb0.length (lb0.map str)) (hc0 : ∀ s ∈ la0, s.length ≤ 9223372036854775807) (hT : TabI w) :
    Calls Tryz.prog 9 #[.agg [ta0, tb0].toArray] w fun e w' => e = .returned (.bool true) ∧ Below w.heap.size w w' := by
  letI := noX
  exact (callF_calls (args := [.agg [ta0, tb0].toArray]) (Tryz.call9 _ _) (cshown_true (K := fun v w' => v = .bool true ∧ Below w.heap.size w w') hT ha0 hb0 hc0 fun w' hx => ⟨rfl, hx.below⟩)).mono fun e w' h => by
    cases e with
    | returned v => obtain ⟨rfl, hb⟩ := h; exact ⟨rfl, hb⟩
    | panicked l => exact h.elim
    | outgrown => exact h.elim
end Go.Proofs.YtjblfcfdeaagpaaGreatDoor
