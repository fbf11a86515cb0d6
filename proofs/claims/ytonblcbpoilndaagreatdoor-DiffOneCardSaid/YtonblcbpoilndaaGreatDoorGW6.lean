/- One plain sentence: the law DiffOne: what a call of it does. Conditions: that its arguments are values. -/
import Derived.Test.YtonblcbpoilndaaGreatDoorVW6
import Derived.Test.YtonblcbpoilndaaGreatDoorVD
import Derived.Below
import Derived.RowKit
import Derived.ChangeMaps5
set_option linter.all false
set_option linter.unusedSimpArgs false
set_option linter.unusedVariables false
set_option linter.unusedSectionVars false
namespace Go.Proofs.YtonblcbpoilndaaGreatDoor
open Go.RowKit Go.Eng
set_option maxRecDepth 100000
section
variable {H : Type} {enc : TypeId × Value → H} {w : World} {base : Nat} {spare : Nat → Bool} {held : Bool}
theorem open_s {v : Value} {d : DataW H} {ps : List MemPlace} {r : Reach} {b0 : Nat} (hval : Value.okWide Tryz.prog w r b0 9 v) (h : DataW.Trod enc Tryz.prog w base spare held 9 v d ps) : ∃ s : Str, v = str s ∧ s.length ≤ 9223372036854775807 := by
  obtain ⟨s, rfl, _, _, hs⟩ := Go.ChangeMaps.open_string Tryz.underlying9 hval h
  exact ⟨s.data.toList, by simp [ofL], by unfold maxLen at hs; simpa using hs⟩
theorem open_b {v : Value} {d : DataW H} {ps : List MemPlace} {r : Reach} {b0 : Nat} (hval : Value.okWide Tryz.prog w r b0 4 v) (h : DataW.Trod enc Tryz.prog w base spare held 4 v d ps) : ∃ b : Bool, v = .bool b := by
  obtain ⟨b, rfl, _⟩ := open_bool Tryz.underlying4 hval h
  exact ⟨b, rfl⟩
end
theorem walk6 (j0 : JV) (cs0 : List Value) (s1 : Str) (x2 : Bool) (w : World) (h0 : VRep w j0 cs0) (h1 : s1.length ≤ 9223372036854775807) :
    Calls Tryz.prog 6 #[.agg cs0.toArray, str s1, .bool x2] w fun e w' => e = .returned (.bool true) ∧ Below w.heap.size w w' := by
  letI := noX
  exact (callF_calls (args := [.agg cs0.toArray, str s1, .bool x2]) (Tryz.call6 _ _) (one_true (K := fun v w' => v = .bool true ∧ Below w.heap.size w w') h0 h1 fun w' hx => ⟨rfl, hx.below⟩)).mono fun e w' h => by
    cases e with
    | returned v => obtain ⟨rfl, hb⟩ := h; exact ⟨rfl, hb⟩
    | panicked l => exact h.elim
    | outgrown => exact h.elim
end Go.Proofs.YtonblcbpoilndaaGreatDoor
