/- One plain sentence: contracts of the program's values: what a key holds, and the keys by which two values differ. Conditions: those that each states. -/
import Derived.Test.YtonblcbpoilndaaGreatDoorVC2
set_option linter.all false
set_option linter.unusedSimpArgs false
set_option linter.unusedVariables false
set_option linter.unusedSectionVars false
namespace Go.Proofs.YtonblcbpoilndaaGreatDoor
open Go Go.Eng Go.Num
set_option maxRecDepth 100000
section
variable [HX]
theorem get_p {v : JV} {cs : List Value} {k : Str} {w : World} {K : Value → World → Prop} (h : VRep w v cs) (k6 : v.k = 6) (hl : v.ks.length = v.xs.length) (hfew : fewM v = true) (hr : Rise v.ks)
    (hK : ∀ cs' w', Ext w w' → VRep w' ((getM v k).getD JV.null) cs' → K (.tuple #[.agg cs'.toArray, .bool (getM v k).isSome]) w') : callF Tryz.prog 48 [.agg cs.toArray, str k] w K := by
  have hfew2 := hfew
  rw [fewM_eq, fewL_all] at hfew2
  simp only [Bool.and_eq_true, decide_eq_true_eq, List.all_eq_true] at hfew2
  obtain ⟨⟨f1, f2⟩, f3⟩ := hfew2
  refine W48_ok ?_
  unfold W48
  refine box_val h fun a w1 sv kv hB hx _ => ?_
  refine alloc_new fun b w2 hb hz2 hbb hx2 => ?_
  have hB0 := hB
  have hB := hB.ext hx2
  have hgb : w1.heap.size ≤ b := by omega
  simp only [wsv, wsg, wsh, wsl, cond_true, cond_false, exists_eq_left', Option.some.injEq, Option.isSome_some, List.getElem?_toArray, List.getElem?_cons_zero, List.getElem?_cons_succ, List.length_cons, List.length_nil, List.set_cons_zero, List.set_cons_succ, List.getD_cons_zero, List.getD_cons_succ, Nat.zero_add, Nat.add_zero, Nat.reduceAdd, Nat.reduceLT, Nat.lt_add_one, Nat.zero_lt_succ, decide_true, decide_false, ne_eq, reduceCtorEq, wsh, hB.hb]
  obtain ⟨T2, hk2⟩ := hB.keys
  refine search_p hk2 f2 hr fun i hi0 _ _ hile => ?_
  have e6 : decide (v.k = 6) = true := decide_eq_true k6
  cases hx0 : idxK v.ks k with
  | none =>
    have hg : getM v k = none := by unfold getM; rw [if_pos k6, hx0]
    rw [hg] at hK
    simp only [Option.isSome_none]
    simp only [wsv, wsg, wsh, wsl, cond_true, cond_false, exists_eq_left', Option.some.injEq, Option.isSome_some, List.getElem?_toArray, List.getElem?_cons_zero, List.getElem?_cons_succ, List.length_cons, List.length_nil, List.set_cons_zero, List.set_cons_succ, List.getD_cons_zero, List.getD_cons_succ, Nat.zero_add, Nat.add_zero, Nat.reduceAdd, Nat.reduceLT, Nat.lt_add_one, Nat.zero_lt_succ, decide_true, decide_false, ne_eq, reduceCtorEq, wsh, hB.hb, e6]
    intros
    (try simp only [wsv, wsg, wsh, wsl, cond_true, cond_false, exists_eq_left', Option.some.injEq, Option.isSome_some, List.getElem?_toArray, List.getElem?_cons_zero, List.getElem?_cons_succ, List.length_cons, List.length_nil, List.set_cons_zero, List.set_cons_succ, List.getD_cons_zero, List.getD_cons_succ, Nat.zero_add, Nat.add_zero, Nat.reduceAdd, Nat.reduceLT, Nat.lt_add_one, Nat.zero_lt_succ, decide_true, decide_false, ne_eq, reduceCtorEq, wsh, hB.hb, e6])
    refine ret_val (K := fun r w => K (.tuple #[r, .bool false]) w) hbb rfl hgb hx2 (vrep_null w1) fun w4 hx4 _ h4 => ?_
    exact hK _ w4 (hx.trans hx4) h4
  | some j =>
    obtain rfl : j = i := by
      rcases hi0 with h | h
      · rw [h] at hx0; cases hx0
      · rw [h] at hx0; exact (Option.some.inj hx0).symm
    obtain ⟨x, hxi⟩ : ∃ x, v.xs[j]? = some x := ⟨_, List.getElem?_eq_getElem (by
      have := (List.getElem?_eq_some_iff.1 (idxK_spec hx0)).1
      omega)⟩
    have hg : getM v k = some x := by unfold getM; rw [if_pos k6, hx0]; exact hxi
    rw [hg] at hK
    simp only [Option.isSome_some]
    simp only [wsv, wsg, wsh, wsl, cond_true, cond_false, exists_eq_left', Option.some.injEq, Option.isSome_some, List.getElem?_toArray, List.getElem?_cons_zero, List.getElem?_cons_succ, List.length_cons, List.length_nil, List.set_cons_zero, List.set_cons_succ, List.getD_cons_zero, List.getD_cons_succ, Nat.zero_add, Nat.add_zero, Nat.reduceAdd, Nat.reduceLT, Nat.lt_add_one, Nat.zero_lt_succ, decide_true, decide_false, ne_eq, reduceCtorEq, wsh, hB.hb, e6]
    intros
    (try simp only [wsv, wsg, wsh, wsl, cond_true, cond_false, exists_eq_left', Option.some.injEq, Option.isSome_some, List.getElem?_toArray, List.getElem?_cons_zero, List.getElem?_cons_succ, List.length_cons, List.length_nil, List.set_cons_zero, List.set_cons_succ, List.getD_cons_zero, List.getD_cons_succ, Nat.zero_add, Nat.add_zero, Nat.reduceAdd, Nat.reduceLT, Nat.lt_add_one, Nat.zero_lt_succ, decide_true, decide_false, ne_eq, reduceCtorEq, wsh, hB.hb, e6])
    refine hB0.item_old hx2 hxi fun cs2 h2 => ?_
    refine clone_p x (f3 x (List.mem_of_getElem? hxi)) (h2.ext hx2) fun cs3 w3 hx3 h3 => ?_
    have hb3 := hx3.at hbb id
    refine ret_agg (K := fun r w => K (.tuple #[r, .bool true]) w) hb3 h3.rep.len rfl h3.rep.all_one fun w4 hc4 => ?_
    have hx4 : Ext w1 w4 := (hx2.trans hx3).new hc4 hgb
    refine hK _ w4 (hx.trans hx4) (VRepP.rep (VRepP.chg hc4 (fun q hq _ e => ?_) h3))
    have : w2.heap.size ≤ q := hq
    omega
end
end Go.Proofs.YtonblcbpoilndaaGreatDoor
