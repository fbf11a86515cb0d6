/- One plain sentence: the law VfsSure holds for every input of bulk at most 1048576. Conditions: that bulk. -/
import Derived.Test.YtcefidpmlnfheaaVDec
import Derived.Test.YtcefidpmlnfheaaVSure
import Derived.WalkKit
import Derived.ProofKit
import Derived.OpenShut
import Derived.JoinedCond
import Derived.Carry
set_option linter.all false
set_option linter.unusedSimpArgs false
set_option linter.unusedVariables false
set_option linter.unusedSectionVars false
namespace Go.Proofs.Ytcefidpmlnfheaa.lawSure
open Go.ChangeShapes Go.WideShapes Go.ChangeAt Go.RowKit Go.Eng
set_option linter.unusedVariables false

theorem own : ownKnob Try.prog.godebug = none := by kernel_rfl

set_option maxRecDepth 100000 in
theorem contract (H : Type) (enc : TypeId × Value → H) (W : World) (base : Nat) (args : Array Value) (ds gs : List (DataW H)) (before : List MemPlace)
    (hval : ∀ (j : Nat) t v, Try.f4.params[j]? = some t → args[j]? = some v → Value.okWide Try.prog W .any base t v)
    (hW : DataW.Whole enc Try.prog Try.f4.params.toList Rows.vfsSureSpec.vars false W args.toList ds gs before) (hk : Rows.uptoSmall H (ds ++ gs) = true) :
    Calls Try.prog 4 args W fun e W' => ∃ v, e = .returned v ∧ Rows.vfsSureSpec.post enc Try.prog Try.f4 false true false false W args v W' := by
  have hlt : ∀ p ∈ before, p.block < W.heap.size := fun p hp => hW.lt p hp
  have hW' := hW
  obtain ⟨p, q, hA0, hV, rfl, hfz, hnd⟩ := hW
  have hA : DataW.TrodAll enc Try.prog W 0 (fun _ => true) true Try.f4.params.toList args.toList ds p := hA0
  rw [Try.params4] at hA hval
  obtain ⟨v0, vs0, d0, ds0, p0, q0, hargs, rfl, rfl, h0, r0⟩ := trodAll_cons hA
  obtain ⟨v1, vs1, d1, ds1, p1, q1, rfl, rfl, rfl, h1, r1⟩ := trodAll_cons r0
  obtain ⟨v2, vs2, d2, ds2, p2, q2, rfl, rfl, rfl, h2, r2⟩ := trodAll_cons r1
  obtain ⟨rfl, rfl, rfl⟩ := trodAll_nil r2
  obtain rfl : args = #[v0, v1, v2] := by cases args; simp_all
  obtain ⟨rfl, rfl⟩ := trodVars_none hV
  clear hA0
  simp only [List.append_nil] at hW' hlt
  have hcellsv0 : v0.cells.toList = [v0] := by
    have hok := hval 0 34 v0 rfl rfl
    unfold Value.okWide at hok
    rw [Try.underlying34] at hok
    unfold Cell.okWide at hok
    rw [Try.underlying34] at hok
    unfold Cell.ok at hok
    rw [Try.underlying34] at hok
    cases v0 <;> first | rfl | exact hok.elim
  have hcellsv1 : v1.cells.toList = [v1] := by
    have hok := hval 1 35 v1 rfl rfl
    unfold Value.okWide at hok
    rw [Try.underlying35] at hok
    unfold Cell.okWide at hok
    rw [Try.underlying35] at hok
    unfold Cell.ok at hok
    rw [Try.underlying35] at hok
    cases v1 <;> first | rfl | exact hok.elim
  have hcellsv2 : v2.cells.toList = [v2] := by
    have hok := hval 2 27 v2 rfl rfl
    unfold Value.okWide at hok
    rw [Try.underlying27] at hok
    unfold Cell.okWide at hok
    rw [Try.underlying27] at hok
    unfold Cell.ok at hok
    rw [Try.underlying27] at hok
    cases v2 <;> first | rfl | exact hok.elim
  have h00 := h0
  obtain ⟨fuel, hf⟩ := h00
  rw [hcellsv0] at hf
  have h11 := h1
  obtain ⟨fuel1, hf1⟩ := h11
  rw [hcellsv1] at hf1
  have h22 := h2
  obtain ⟨fuel2, hf2⟩ := h22
  rw [hcellsv2] at hf2
  have hb : Rows.uptoBulk d0 ≤ 1048576 := by
    have h2 : Rows.uptoBulkAll ([d0, d1, d2] ++ []) ≤ 1048576 := of_decide_eq_true hk
    simp only [List.append_nil, Rows.uptoBulkAll] at h2
    omega
  obtain ⟨l, hl⟩ := open_script hf hb
  obtain ⟨T1, keep, hkeep⟩ := open_i64s (H := H) Try.underlying35 Try.underlying3 (by kernel_rfl) hf1
  obtain ⟨p9, c9, T2, data, rfl, hdata, _⟩ := open_byt (H := H) Try.underlying27 Try.underlying5 (by kernel_rfl) hf2
  have walk := callF_calls (args := [v0, v1, .slice p9 data.length c9]) (Try.call4 _ _) (sure_true (K := fun v w' => v = .bool true ∧ Below W.heap.size W w') hl hkeep hdata fun w' hx => ⟨rfl, hx.below⟩)
  refine walk.mono fun e W' h => ?_
  obtain ⟨v, rfl, rfl, hg⟩ := h
  have harg : DataW.Trod enc Try.prog W' 0 (fun b => decide (b < W.heap.size)) true 34 v0 d0 p0 :=
    Below.trod (by kernel_rfl) (by kernel_rfl) (of_decide_eq_true (by kernel_rfl)) h0 hg fun x hx => hlt x (by simp only [List.mem_append]; exact .inl hx)
  have harg1 : DataW.Trod enc Try.prog W' 0 (fun b => decide (b < W.heap.size)) true 35 v1 d1 p1 :=
    Below.trod (by kernel_rfl) (by kernel_rfl) (of_decide_eq_true (by kernel_rfl)) h1 hg fun x hx => hlt x (by simp only [List.mem_append]; exact .inr (.inl hx))
  have harg2 : DataW.Trod enc Try.prog W' 0 (fun b => decide (b < W.heap.size)) true 27 (.slice p9 data.length c9) d2 p2 :=
    Below.trod (by kernel_rfl) (by kernel_rfl) (of_decide_eq_true (by kernel_rfl)) h2 hg fun x hx => hlt x (by simp only [List.mem_append]; exact .inr (.inr (by simpa using hx)))
  exact ⟨_, rfl, _, _, _, [], _, [], hW', trodAll_cons_mk (shut_bool Try.underlying4 _) trodAll_mk0, trodAll_cons_mk harg (trodAll_cons_mk harg1 (trodAll_cons_mk harg2 trodAll_mk0)), rfl, hg.frame _, fun h => by cases h⟩

set_option maxRecDepth 100000 in
theorem lifted (os : Os) (started : os.Started) (H : Type) (enc : TypeId × Value → H) (F : Stop.Interp) :
    ReturnsInHanded {} Try.checked os 4 .any ((Rows.OpenSpec.upto Rows.vfsSureSpec).pre6 enc Try.prog Try.f4 Rows.vfsSureUptoRow.domain false) (((Rows.OpenSpec.upto Rows.vfsSureSpec).at F).post enc Try.prog Try.f4 false true false false) := by
  refine returnsInHanded_of_cond (C := Try.checked) (s := Rows.OpenSpec.upto Rows.vfsSureSpec) (k := Rows.uptoSmall) rfl own started (by kernel_rfl) Try.func4
    (OpenSpec.witness (enc := enc) (C := Try.checked) (s := Rows.OpenSpec.upto Rows.vfsSureSpec) (k := Rows.uptoSmall) rfl false ⟨#[], #[.slice none 0 0, .slice none 0 0, .slice none 0 0], []⟩ 8 (by kernel_rfl) (by kernel_rfl) (by kernel_rfl)
      (x := ([.nil, .nil, .nil], [], [])) (by kernel_rfl) rfl (by kernel_rfl)) ?_
  intro W base args ds gs before hval hW _ hk _
  exact contract H enc W base args ds gs before hval hW hk

theorem over : Rows.vfsSureUptoRow.holds Try.pinned (Rows.OpenSpec.upto Rows.vfsSureSpec) :=
  OpenClaim.holds_of_cond 4 Try.f4 rfl rfl rfl rfl rfl rfl rfl ⟨rfl, rfl, rfl, rfl, rfl⟩ rfl rfl rfl rfl rfl (by kernel_rfl) Try.func4 (by kernel_rfl)
    (of_decide_eq_true (by kernel_rfl)) (by unfold Func.isWrapper; first | (rw [if_pos (by decide +kernel)]; kernel_rfl) | (rw [if_neg (by decide +kernel)]; exact ⟨rfl, rfl⟩))
    (fun os started H enc _ F => lifted os started H enc F)

theorem proved : Rows.VfsSureUptoSaid :=
  over
#print axioms proved
end Go.Proofs.Ytcefidpmlnfheaa.lawSure
