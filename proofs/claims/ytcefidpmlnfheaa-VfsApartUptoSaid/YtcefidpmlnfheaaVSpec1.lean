/- One plain sentence: contracts of the small functions of package vfs. Conditions: those that each states. -/
import Derived.Test.YtcefidpmlnfheaaVModel
import Derived.Test.YtcefidpmlnfheaaWt1
set_option linter.all false
set_option linter.unusedSimpArgs false
set_option linter.unusedVariables false
set_option linter.unusedSectionVars false
namespace Go.Proofs.Ytcefidpmlnfheaa
open Go Go.Eng Go.Vfs
set_option maxRecDepth 100000

theorem elem_u8 : ElemT Try.prog 27 5 1 1 := ⟨by kernel_rfl, by kernel_rfl, by decide⟩

/-- slices.Clone of bytes -/
theorem clone_bytes {w : World} {v : Value} {l : Str} {T : TypeId} {K : Value → World → Prop} (h : Byt w T v l) (hl : l.length ≤ 1000000000000)
    (hK : ∀ v' w', Byt w' 5 v' l → Ext w w' → K v' w') : callF Try.prog 31 [v] w K := by
  refine W31_ok ?_
  unfold W31
  obtain ⟨p, cap, rfl, hcap, hnil, hcells⟩ := h
  cases p with
  | none =>
    obtain ⟨h0, _⟩ := hnil rfl
    have : l = [] := List.eq_nil_of_length_eq_zero h0
    subst this
    simp only [eqW, Option.isNone_none, Bool.false_xor, condW_true]
    exact hK _ _ (SlAt.nil _ _) (Chg.refl _ _)
  | some a =>
    simp only [eqW, condW_false, bslW, putW]
    have hsrc : Byt (w.alloc (.cells ([] : List Value).toArray 5)) T (.slice (some a) l.length cap) l := SlAt.ext ⟨_, _, rfl, hcap, hnil, hcells⟩ (by repeat (first | assumption | exact Chg.refl _ _ | refine Chg.drew ?_ | refine Chg.alloc ?_ _ | refine Chg.set ?_ (by first | exact .inl rfl | exact .inr (by omega) | exact .inr (by simp only [size_set, size_alloc, size_drew]; omega) | (left; simp; done)) _ | exact Chg.of_ext (by assumption)))
    have hown := own_new (w := w) (base := w.heap.size) (e := 5) (size := 1) (n := 0) (cs := []) (Nat.le_refl _) rfl (by omega)
    refine append_own elem_u8 (base := w.heap.size) hown hsrc (by simp [u8s]) (u8s_one l) (by omega) (by omega) (by simp) ?_
    intro v' w' hown hc _
    have h1 := hown.sl
    simp only [Nat.zero_add, List.nil_append] at h1
    refine hK v' w' h1 (Chg.then (S := fun _ => False) (T := OwnS _ w.heap.size 5) (by repeat (first | assumption | exact Chg.refl _ _ | refine Chg.drew ?_ | refine Chg.alloc ?_ _ | refine Chg.set ?_ (by first | exact .inl rfl | exact .inr (by omega) | exact .inr (by simp only [size_set, size_alloc, size_drew]; omega) | (left; simp; done)) _ | exact Chg.of_ext (by assumption))) hc ?_)
    intro k hk hs
    exact absurd hs.1 (by omega)
end Go.Proofs.Ytcefidpmlnfheaa
