/- One plain sentence: the law VfsApart holds for every input of bulk at most 1048576. Conditions: that bulk. -/
import Derived.Test.YtcefidpmlnfheaaVDec
import Derived.Test.YtcefidpmlnfheaaVApart
import Derived.WalkKit
import Derived.ProofKit
import Derived.OpenShut
import Derived.JoinedCond
import Derived.Carry
set_option linter.all false
set_option linter.unusedSimpArgs false
set_option linter.unusedVariables false
set_option linter.unusedSectionVars false
namespace Go.Proofs.Ytcefidpmlnfheaa.lawApart
open Go.ChangeShapes Go.WideShapes Go.ChangeAt Go.RowKit Go.Eng
set_option linter.unusedVariables false

theorem own : ownKnob Try.prog.godebug = none := by kernel_rfl

set_option maxRecDepth 100000 in
theorem contract (H : Type) (enc : TypeId × Value → H) (W : World) (base : Nat) (args : Array Value) (ds gs : List (DataW H)) (before : List MemPlace)
    (hval : ∀ (j : Nat) t v, Try.f7.params[j]? = some t → args[j]? = some v → Value.okWide Try.prog W .any base t v)
    (hW : DataW.Whole enc Try.prog Try.f7.params.toList Rows.vfsApartSpec.vars false W args.toList ds gs before) (hk : Rows.uptoSmall H (ds ++ gs) = true) :
    Calls Try.prog 7 args W fun e W' => ∃ v, e = .returned v ∧ Rows.vfsApartSpec.post enc Try.prog Try.f7 false true false false W args v W' := by
  have hlt : ∀ p ∈ before, p.block < W.heap.size := fun p hp => hW.lt p hp
  have hW' := hW
  obtain ⟨p, q, hA0, hV, rfl, hfz, hnd⟩ := hW
  have hA : DataW.TrodAll enc Try.prog W 0 (fun _ => true) true Try.f7.params.toList args.toList ds p := hA0
  rw [Try.params7] at hA hval
  obtain ⟨v0, vs0, d0, ds0, p0, q0, hargs, rfl, rfl, h0, r0⟩ := trodAll_cons hA
  obtain ⟨v1, vs1, d1, ds1, p1, q1, rfl, rfl, rfl, h1, r1⟩ := trodAll_cons r0
  obtain ⟨v2, vs2, d2, ds2, p2, q2, rfl, rfl, rfl, h2, r2⟩ := trodAll_cons r1
  obtain ⟨rfl, rfl, rfl⟩ := trodAll_nil r2
  obtain rfl : args = #[v0, v1, v2] := by cases args; simp_all
  obtain ⟨rfl, rfl⟩ := trodVars_none hV
  clear hA0
  simp only [List.append_nil] at hW' hlt
  have hcellsv0 : v0.cells.toList = [v0] := by
    have hok := hval 0 34 v0 rfl rfl
    unfold Value.okWide at hok
    rw [Try.underlying34] at hok
    unfold Cell.okWide at hok
    rw [Try.underlying34] at hok
    unfold Cell.ok at hok
    rw [Try.underlying34] at hok
    cases v0 <;> first | rfl | exact hok.elim
  obtain ⟨a2, rfl, rfl, rfl, wf2⟩ := open_int Try.underlying3 (hval 2 3 v2 rfl rfl) h2
  have hc57 : Try.prog.cellsOf 57 = 2 := by kernel_rfl
  have hc27 : Try.prog.cellsOf 27 = 1 := by kernel_rfl
  obtain ⟨c0, c1, rfl⟩ : ∃ c0 c1, v1 = .agg [c0, c1].toArray := by
    have hok := hval 1 57 v1 rfl rfl
    unfold Value.okWide at hok
    rw [Try.underlying57] at hok
    obtain ⟨cs, rfl, hsz, _⟩ := hok
    rw [hc57] at hsz
    obtain ⟨cl⟩ := cs
    match cl, hsz with
    | [c0, c1], _ => exact ⟨c0, c1, rfl⟩
  have h00 := h0
  obtain ⟨fuel, hf⟩ := h00
  rw [hcellsv0] at hf
  have h11 := h1
  obtain ⟨fuel1, hf1⟩ := h11
  have hcc : (Value.agg [c0, c1].toArray).cells.toList = [c0, c1] := rfl
  rw [hcc] at hf1
  obtain ⟨xs, n1, _, hx1, hl1, hlen1, hel⟩ := DataW.trod_array Try.underlying57 hf1
  match xs, hlen1 with
  | [(da1, pa1), (db1, pb1)], _ =>
  have fa := hel 0 (by omega)
  have fb := hel 1 (by omega)
  simp only [hc27, Nat.zero_mul, Nat.one_mul, List.drop_zero, List.drop_succ_cons, List.take_succ_cons, List.take_zero, List.getElem?_cons_zero, List.getElem?_cons_succ] at fa fb
  have hd1 : d1 = .agg [da1, db1] := by have := congrArg Prod.fst hx1; simpa using this
  have hb : Rows.uptoBulk d0 ≤ 1048576 := by
    have h2 : Rows.uptoBulkAll ([d0, d1, .lit (.int .i64 a2)] ++ []) ≤ 1048576 := of_decide_eq_true hk
    simp only [List.append_nil, Rows.uptoBulkAll] at h2
    omega
  have hb1 : Rows.uptoBulk da1 ≤ 1048576 ∧ Rows.uptoBulk db1 ≤ 1048576 := by
    have h2 : Rows.uptoBulkAll ([d0, d1, .lit (.int .i64 a2)] ++ []) ≤ 1048576 := of_decide_eq_true hk
    rw [hd1] at h2
    simp only [List.append_nil, Rows.uptoBulkAll, Rows.uptoBulk] at h2
    omega
  obtain ⟨l, hl⟩ := open_script hf hb
  obtain ⟨pA, cA, TA, la, rfl, hda, hla⟩ := open_byt (H := H) Try.underlying27 Try.underlying5 (by kernel_rfl) fa
  obtain ⟨pB, cB, TB, lb, rfl, hdb, hlb⟩ := open_byt (H := H) Try.underlying27 Try.underlying5 (by kernel_rfl) fb
  have bound : ∀ (lx : List UInt8) (dx : DataW H), ((lx = [] ∧ dx = .nil) ∨ ∃ ds rest, dx = .slice ds rest ∧ ds.length = lx.length) → Rows.uptoBulk dx ≤ 1048576 → lx.length ≤ 1048576 := by
    intro lx dx h hb
    rcases h with ⟨rfl, _⟩ | ⟨ds, rest, rfl, hds⟩
    · simp
    · simp only [Rows.uptoBulk] at hb
      have := bulk_len ds
      omega
  have b1 := bound la da1 hla hb1.1
  have b2 := bound lb db1 hlb hb1.2
  have hlaw := apart_true (w := W) (v := v0) (l := l) (pa := pA) (pb := pB) (ca := cA) (cb := cB) (da := la) (db := lb) (Ta := TA) (Tb := TB) (kk := a2) (K := fun v w' => v = .bool true ∧ Below W.heap.size W w') hl hda hdb b1 b2 (fun w' hx => ⟨rfl, hx.below⟩)
  unfold callF at hlaw
  rw [Try.call7] at hlaw
  have walk : Calls Try.prog 7 #[v0, .agg [.slice pA la.length cA, .slice pB lb.length cB].toArray, .int .i64 a2] W (fun e w' => ∃ v, e = .returned v ∧ (v = .bool true ∧ Below W.heap.size W w')) := hlaw
  clear hlaw
  refine walk.mono fun e W' h => ?_
  obtain ⟨v, rfl, rfl, hg⟩ := h
  have harg : DataW.Trod enc Try.prog W' 0 (fun b => decide (b < W.heap.size)) true 34 v0 d0 p0 :=
    Below.trod (by kernel_rfl) (by kernel_rfl) (of_decide_eq_true (by kernel_rfl)) h0 hg fun x hx => hlt x (by simp only [List.mem_append]; exact .inl hx)
  have harg1 : DataW.Trod enc Try.prog W' 0 (fun b => decide (b < W.heap.size)) true 57 (.agg [.slice pA la.length cA, .slice pB lb.length cB].toArray) d1 p1 :=
    Below.trod (by kernel_rfl) (by kernel_rfl) (of_decide_eq_true (by kernel_rfl)) h1 hg fun x hx => hlt x (by simp only [List.mem_append]; exact .inr (.inl hx))
  exact ⟨_, rfl, _, _, _, [], _, [], hW', trodAll_cons_mk (shut_bool Try.underlying4 _) trodAll_mk0, trodAll_cons_mk harg (trodAll_cons_mk harg1 (trodAll_cons_mk (shut_int Try.underlying3 wf2) trodAll_mk0)), rfl, hg.frame _, fun h => by cases h⟩

set_option maxRecDepth 100000 in
theorem lifted (os : Os) (started : os.Started) (H : Type) (enc : TypeId × Value → H) (F : Stop.Interp) :
    ReturnsInHanded {} Try.checked os 7 .any ((Rows.OpenSpec.upto Rows.vfsApartSpec).pre6 enc Try.prog Try.f7 Rows.vfsApartUptoRow.domain false) (((Rows.OpenSpec.upto Rows.vfsApartSpec).at F).post enc Try.prog Try.f7 false true false false) := by
  refine returnsInHanded_of_cond (C := Try.checked) (s := Rows.OpenSpec.upto Rows.vfsApartSpec) (k := Rows.uptoSmall) rfl own started (by kernel_rfl) Try.func7
    (OpenSpec.witness (enc := enc) (C := Try.checked) (s := Rows.OpenSpec.upto Rows.vfsApartSpec) (k := Rows.uptoSmall) rfl false ⟨#[], #[.slice none 0 0, .agg #[.slice none 0 0, .slice none 0 0], .int .i64 0], []⟩ 8 (by kernel_rfl) (by kernel_rfl) (by kernel_rfl)
      (x := ([.nil, .agg [.nil, .nil], .lit (.int .i64 0)], [], [])) (by kernel_rfl) rfl (by kernel_rfl)) ?_
  intro W base args ds gs before hval hW _ hk _
  exact contract H enc W base args ds gs before hval hW hk

theorem over : Rows.vfsApartUptoRow.holds Try.pinned (Rows.OpenSpec.upto Rows.vfsApartSpec) :=
  OpenClaim.holds_of_cond 7 Try.f7 rfl rfl rfl rfl rfl rfl rfl ⟨rfl, rfl, rfl, rfl, rfl⟩ rfl rfl rfl rfl rfl (by kernel_rfl) Try.func7 (by kernel_rfl)
    (of_decide_eq_true (by kernel_rfl)) (by unfold Func.isWrapper; first | (rw [if_pos (by decide +kernel)]; kernel_rfl) | (rw [if_neg (by decide +kernel)]; exact ⟨rfl, rfl⟩))
    (fun os started H enc _ F => lifted os started H enc F)

theorem proved : Rows.VfsApartUptoSaid :=
  over
#print axioms proved
end Go.Proofs.Ytcefidpmlnfheaa.lawApart
