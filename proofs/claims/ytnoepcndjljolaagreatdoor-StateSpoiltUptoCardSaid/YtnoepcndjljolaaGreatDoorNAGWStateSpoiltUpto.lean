/- One plain sentence: the law StateSpoilt: what a call of it does. Conditions: that its arguments are values, and what the library's tables hold. -/
import Derived.Test.YtnoepcndjljolaaGreatDoorNA5
set_option linter.all false
set_option linter.unusedSimpArgs false
set_option linter.unusedVariables false
set_option linter.unusedSectionVars false
namespace Go.Proofs.YtnoepcndjljolaaGreatDoor
open Go.RowKit Go.Eng
set_option maxRecDepth 100000
theorem walk3 (a0 : Int) (l0 : List RV) (cs0 : List Value) (a1 : Int) (b2 : UInt8) (w : World) (h0 : StRepP (fun k => k < w.heap.size) w a0 l0 cs0) (y0 : l0.length ≤ 9223372036854775807) (z0 : ∀ x ∈ l0, (∀ s ∈ x.deps, 0 < s.length) → x.deps.length ≤ 1000000) (h1 : -9223372036854775808 ≤ a1 ∧ a1 ≤ 9223372036854775807) (hT : TabA w) :
    Calls Tryz.prog 3 #[.agg cs0.toArray, i64 a1, .int .u8 (b2.toNat : Nat)] w fun e w' => e = .returned (.bool true) ∧ Below w.heap.size w w' := by
  letI := noX
  exact (callF_calls (args := [.agg cs0.toArray, i64 a1, .int .u8 (b2.toNat : Nat)]) (Tryz.call3 _ _) (spoilt_true (K := fun v w' => v = .bool true ∧ Below w.heap.size w w') hT h0 y0 z0 h1 fun w' hx => ⟨rfl, hx.below⟩)).mono fun e w' h => by
    cases e with
    | returned v => obtain ⟨rfl, hb⟩ := h; exact ⟨rfl, hb⟩
    | panicked l => exact h.elim
    | outgrown => exact h.elim
end Go.Proofs.YtnoepcndjljolaaGreatDoor
