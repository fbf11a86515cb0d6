/- One plain sentence: the law StoreOnce: what a call of it does. Conditions: that its arguments are values, and what the library's tables hold. -/
import Derived.Test.YtpiaegojabkioaaGreatDoorNH5
set_option linter.all false
set_option linter.unusedSimpArgs false
set_option linter.unusedVariables false
set_option linter.unusedSectionVars false
namespace Go.Proofs.YtpiaegojabkioaaGreatDoor
open Go.RowKit Go.Eng
set_option maxRecDepth 100000
theorem walk3 (T0 : TypeId) (b0 : Value) (l0 : List Str) (T1 : TypeId) (b1 : Value) (l1 : List Int) (w : World) (h0 : SlAt w T0 b0 l0.length (l0.map str) ∧ l0.length ≤ 9223372036854775807) (h1 : SlAt w T1 b1 l1.length (l1.map i64) ∧ l1.length ≤ 9223372036854775807) (hT : TabA w) :
    Calls Tryz.prog 3 #[b0, b1] w fun e w' => e = .returned (.bool true) ∧ Below w.heap.size w w' := by
  letI := noX
  exact (callF_calls (args := [b0, b1]) (Tryz.call3 _ _) (Fx.once_true (K := fun v w' => v = .bool true ∧ Below w.heap.size w w') hT h0 h1 fun w' hx => ⟨rfl, hx.below⟩)).mono fun e w' h => by
    cases e with
    | returned v => obtain ⟨rfl, hb⟩ := h; exact ⟨rfl, hb⟩
    | panicked l => exact h.elim
    | outgrown => exact h.elim
end Go.Proofs.YtpiaegojabkioaaGreatDoor
