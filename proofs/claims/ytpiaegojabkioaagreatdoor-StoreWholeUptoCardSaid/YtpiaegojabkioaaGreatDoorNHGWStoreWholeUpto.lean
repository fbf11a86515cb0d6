/- One plain sentence: the law StoreWhole: what a call of it does. Conditions: that its arguments are values, and what the library's tables hold. -/
import Derived.Test.YtpiaegojabkioaaGreatDoorNH5
set_option linter.all false
set_option linter.unusedSimpArgs false
set_option linter.unusedVariables false
set_option linter.unusedSectionVars false
namespace Go.Proofs.YtpiaegojabkioaaGreatDoor
open Go.RowKit Go.Eng
set_option maxRecDepth 100000
theorem walk5 (a0 : Int) (l0 : List RV) (cs0 : List Value) (a1 : Int) (l1 : List RV) (cs1 : List Value) (T2 : TypeId) (b2 : Value) (l2 : List Int) (w : World) (h0 : StRepP (fun k => k < w.heap.size) w a0 l0 cs0) (y0 : l0.length ≤ 9223372036854775807) (z0 : ∀ x ∈ l0, (∀ s ∈ x.deps, 0 < s.length) → x.deps.length ≤ 1000000) (h1 : StRepP (fun k => k < w.heap.size) w a1 l1 cs1) (y1 : l1.length ≤ 9223372036854775807) (z1 : ∀ x ∈ l1, (∀ s ∈ x.deps, 0 < s.length) → x.deps.length ≤ 1000000) (h2 : SlAt w T2 b2 l2.length (l2.map i64) ∧ l2.length ≤ 1048576) (hT : TabA w) :
    Calls Tryz.prog 5 #[.agg cs0.toArray, .agg cs1.toArray, b2] w fun e w' => e = .returned (.bool true) ∧ Below w.heap.size w w' := by
  letI := noX
  exact (callF_calls (args := [.agg cs0.toArray, .agg cs1.toArray, b2]) (Tryz.call5 _ _) (Fx.whole_true (K := fun v w' => v = .bool true ∧ Below w.heap.size w w') hT h0 y0 z0 h1 y1 z1 h2 fun w' hx => ⟨rfl, hx.below⟩)).mono fun e w' h => by
    cases e with
    | returned v => obtain ⟨rfl, hb⟩ := h; exact ⟨rfl, hb⟩
    | panicked l => exact h.elim
    | outgrown => exact h.elim
end Go.Proofs.YtpiaegojabkioaaGreatDoor
