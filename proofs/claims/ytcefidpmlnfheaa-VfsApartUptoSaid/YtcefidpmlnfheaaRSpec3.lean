/- One plain sentence: contracts of the document's answer for the file system: a step, a removal, arming. Conditions: those that each states. -/
import Derived.Test.YtcefidpmlnfheaaRSpec2
import Derived.Test.YtcefidpmlnfheaaLib4
set_option linter.all false
set_option linter.unusedSimpArgs false
set_option linter.unusedVariables false
set_option linter.unusedSectionVars false
namespace Go.Proofs.Ytcefidpmlnfheaa
open Go Go.Eng Go.Vfs
set_option maxRecDepth 100000

abbrev rl (p : Option Addr) (n c : Nat) (s : MS) : List Value := [.slice p n c, i64 s.steps, i64 s.left, .bool s.dead]
abbrev rv (p : Option Addr) (n c : Nat) (s : MS) : Value := .agg (rl p n c s).toArray
abbrev rz : List Value := [.slice none 0 0, i64 0, i64 0, .bool false]
theorem rl_one (p : Option Addr) (n c : Nat) (s : MS) : (rl p n c s).all one1 = true := rfl

theorem new_ref {w : World} {K : Value → World → Prop} (hK : ∀ v w', RefV w' v newM → Ext w w' → K v w') : callF Try.prog 19 [] w K := by
  refine W19_ok ?_
  unfold W19
  simp (disch := omega) only [Bool.and_true, Bool.and_false, Bool.true_and, Bool.false_and, Bool.or_true, Bool.or_false, Bool.true_or, Bool.false_or, put_nil, put_map, put_int, put_str, put_bool, put_ptr, put_slice, Nat.lt_add_one, Nat.zero_lt_succ, Nat.reduceLT, bin_add, bin_sub, bin_mul, bin_quo, bin_rem, bin_eql, bin_neq, bin_lss, bin_leq, bin_gtr, bin_geq, bin_sadd, bin_seq, bin_sne, bin_slt, bin_sgt, bin_sge, bin_sle, nil_ptr, fld_ptr, ld_one, ld_agg, st_int, st_bool, st_str, st_slice, st_ptr, st_map, st_agg, stc_nil, stc_cons, one_int, one_bool, one_str, one_slice, one_ptr, one_map, ext_tuple, ixa_slice, ixa_arr, ixs_str, lens_str, lenl_sl, un_not, un_neg, cvt_int, min_int, max_int, alloc_go, box_agg, box_int, box_bool, box_str, box_slice, box_ptr, box_map, bd_none, bd_some, sls_str, sll_sl, isB_t, isB_f, cond_true, cond_false, pick_t, pick_f, pick_or, pick_and, condW_true, condW_false, cellsAt, add_mk, cell_eq, cellO_some, frozen_eq, frO_zero, heap_set_same, heap_set_other, setO_some, heap_anew, heap_aold, heap_drew, size_drew, size_set, size_alloc, exists_eq_left', Option.some.injEq, true_and, and_true, Option.isSome_some, Option.map_some, List.getElem?_toArray, List.getElem?_cons_zero, List.getElem?_cons_succ, List.size_toArray, List.length_cons, List.length_nil, List.setIfInBounds_toArray, List.set_cons_zero, List.set_cons_succ, List.getD_cons_zero, List.getD_cons_succ, Nat.zero_add, Nat.add_zero, Nat.reduceAdd, Bool.not_true, Bool.not_false, ne_eq, not_true_eq_false, not_false_eq_true, reduceCtorEq, decide_true, decide_false]
  exact hK _ _ ⟨none, 0, rfl, SlAt.nil _ _⟩ (by repeat (first | assumption | exact Chg.refl _ _ | refine Chg.drew ?_ | refine Chg.alloc ?_ _ | refine Chg.set ?_ (by first | exact .inl rfl | exact .inr (by omega) | exact .inr (by simp only [size_set, size_alloc, size_drew]; omega) | (left; simp; done)) _ | exact Chg.of_ext (by assumption)))

theorem step_ref {p : Option Addr} {n c : Nat} {s : MS} {w : World} {K : Value → World → Prop} (hK : ∀ w', Ext w w' → K (.tuple [rv p n c (stepM s).1, i64 (stepM s).2].toArray) w') : callF Try.prog 41 [rv p n c s] w K := by
  obtain ⟨fs, st, lf, d⟩ := s
  refine W41_ok ?_
  unfold W41
  refine box_new fun a w1 ha hz1 hba hx1 => ?_
  refine alloc_new fun b w2 hb hz2 hbb hx2 => ?_
  have hba := hx2.at hba id
  have hx := hx1.trans hx2
  have hab : a ≠ b := by omega
  have fin : ∀ s' : MS, ∀ e : Int, stepM ⟨fs, st, lf, d⟩ = (s', e) → ∀ w3 w4, Ext w w3 → Chg (fun k => k = b) w3 w4 → K (.tuple [rv p n c s', i64 e].toArray) w4 := by
    intro s' e he w3 w4 h3 h4
    have := hK w4 (h3.new h4 (by omega))
    rw [he] at this
    exact this
  clear hK
  have hdead : stepM ⟨fs, st, lf, d⟩ = (⟨fs, st, lf, true⟩, 5) → stW 1 (.pointer (some ⟨a, 3, none⟩)) (.bool true) w2 (fun w5 => ldW true 4 (.pointer (some ⟨a, 0, none⟩)) w5 fun t12 => stW 4 (.pointer (some ⟨b, 0, none⟩)) t12 w5 fun w6 => ldW true 4 (.pointer (some ⟨b, 0, none⟩)) w6 fun r7 => K (.tuple #[r7, .int .i64 5]) w6) := by
    intro he
    refine st_at hba rfl (by simp) fun w3 _ hba hc3 => ?_
    have hbb := hc3.at hbb (Ne.symm hab)
    refine ld_all (l := rl p n c ⟨fs, st, lf, true⟩) hba rfl ?_
    exact ret_agg (K := fun r w6 => K (.tuple #[r, .int .i64 5]) w6) hbb rfl rfl rfl fun w4 hc4 => fin _ _ he w3 w4 (hx.new hc3 (by omega)) hc4
  simp only [Bool.and_true, Bool.and_false, Bool.true_and, Bool.false_and, Bool.or_true, Bool.or_false, Bool.true_or, Bool.false_or, put_nil, put_map, put_int, put_str, put_bool, put_ptr, put_slice, Nat.lt_add_one, Nat.zero_lt_succ, Nat.reduceLT, bin_add, bin_sub, bin_mul, bin_quo, bin_rem, bin_eql, bin_neq, bin_lss, bin_leq, bin_gtr, bin_geq, bin_sadd, bin_seq, bin_sne, bin_slt, bin_sgt, bin_sge, bin_sle, nil_ptr, fld_ptr, ld_one, one_int, one_bool, one_str, one_slice, one_ptr, one_map, ext_tuple, ixa_slice, ixa_arr, ixs_str, lens_str, lenl_sl, un_not, un_neg, cvt_int, min_int, max_int, bd_none, bd_some, sls_str, sll_sl, isB_t, isB_f, cond_true, cond_false, pick_t, pick_f, pick_or, pick_and, condW_true, condW_false, add_mk, cell_eq, cellO_some, frozen_eq, frO_zero, setO_some, heap_drew, size_drew, size_set, size_alloc, exists_eq_left', Option.some.injEq, true_and, and_true, Option.isSome_some, Option.map_some, List.getElem?_toArray, List.getElem?_cons_zero, List.getElem?_cons_succ, List.size_toArray, List.length_cons, List.length_nil, List.setIfInBounds_toArray, List.set_cons_zero, List.set_cons_succ, List.getD_cons_zero, List.getD_cons_succ, Nat.zero_add, Nat.add_zero, Nat.reduceAdd, Bool.not_true, Bool.not_false, ne_eq, not_true_eq_false, not_false_eq_true, reduceCtorEq, decide_true, decide_false, hba, hbb]
  cases d with
  | true =>
    (try simp only [Bool.and_true, Bool.and_false, Bool.true_and, Bool.false_and, Bool.or_true, Bool.or_false, Bool.true_or, Bool.false_or, put_nil, put_map, put_int, put_str, put_bool, put_ptr, put_slice, Nat.lt_add_one, Nat.zero_lt_succ, Nat.reduceLT, bin_add, bin_sub, bin_mul, bin_quo, bin_rem, bin_eql, bin_neq, bin_lss, bin_leq, bin_gtr, bin_geq, bin_sadd, bin_seq, bin_sne, bin_slt, bin_sgt, bin_sge, bin_sle, nil_ptr, fld_ptr, ld_one, one_int, one_bool, one_str, one_slice, one_ptr, one_map, ext_tuple, ixa_slice, ixa_arr, ixs_str, lens_str, lenl_sl, un_not, un_neg, cvt_int, min_int, max_int, bd_none, bd_some, sls_str, sll_sl, isB_t, isB_f, cond_true, cond_false, pick_t, pick_f, pick_or, pick_and, condW_true, condW_false, add_mk, cell_eq, cellO_some, frozen_eq, frO_zero, setO_some, heap_drew, size_drew, size_set, size_alloc, exists_eq_left', Option.some.injEq, true_and, and_true, Option.isSome_some, Option.map_some, List.getElem?_toArray, List.getElem?_cons_zero, List.getElem?_cons_succ, List.size_toArray, List.length_cons, List.length_nil, List.setIfInBounds_toArray, List.set_cons_zero, List.set_cons_succ, List.getD_cons_zero, List.getD_cons_succ, Nat.zero_add, Nat.add_zero, Nat.reduceAdd, Bool.not_true, Bool.not_false, ne_eq, not_true_eq_false, not_false_eq_true, reduceCtorEq, decide_true, decide_false])
    refine GdW.f fun g => ?_
    (try simp only [Bool.and_true, Bool.and_false, Bool.true_and, Bool.false_and, Bool.or_true, Bool.or_false, Bool.true_or, Bool.false_or, put_nil, put_map, put_int, put_str, put_bool, put_ptr, put_slice, Nat.lt_add_one, Nat.zero_lt_succ, Nat.reduceLT, bin_add, bin_sub, bin_mul, bin_quo, bin_rem, bin_eql, bin_neq, bin_lss, bin_leq, bin_gtr, bin_geq, bin_sadd, bin_seq, bin_sne, bin_slt, bin_sgt, bin_sge, bin_sle, nil_ptr, fld_ptr, ld_one, one_int, one_bool, one_str, one_slice, one_ptr, one_map, ext_tuple, ixa_slice, ixa_arr, ixs_str, lens_str, lenl_sl, un_not, un_neg, cvt_int, min_int, max_int, bd_none, bd_some, sls_str, sll_sl, isB_t, isB_f, cond_true, cond_false, pick_t, pick_f, pick_or, pick_and, condW_true, condW_false, add_mk, cell_eq, cellO_some, frozen_eq, frO_zero, setO_some, heap_drew, size_drew, size_set, size_alloc, exists_eq_left', Option.some.injEq, true_and, and_true, Option.isSome_some, Option.map_some, List.getElem?_toArray, List.getElem?_cons_zero, List.getElem?_cons_succ, List.size_toArray, List.length_cons, List.length_nil, List.setIfInBounds_toArray, List.set_cons_zero, List.set_cons_succ, List.getD_cons_zero, List.getD_cons_succ, Nat.zero_add, Nat.add_zero, Nat.reduceAdd, Bool.not_true, Bool.not_false, ne_eq, not_true_eq_false, not_false_eq_true, reduceCtorEq, decide_true, decide_false])
    exact hdead (by simp [stepM])
  | false =>
    (try simp only [Bool.and_true, Bool.and_false, Bool.true_and, Bool.false_and, Bool.or_true, Bool.or_false, Bool.true_or, Bool.false_or, put_nil, put_map, put_int, put_str, put_bool, put_ptr, put_slice, Nat.lt_add_one, Nat.zero_lt_succ, Nat.reduceLT, bin_add, bin_sub, bin_mul, bin_quo, bin_rem, bin_eql, bin_neq, bin_lss, bin_leq, bin_gtr, bin_geq, bin_sadd, bin_seq, bin_sne, bin_slt, bin_sgt, bin_sge, bin_sle, nil_ptr, fld_ptr, ld_one, one_int, one_bool, one_str, one_slice, one_ptr, one_map, ext_tuple, ixa_slice, ixa_arr, ixs_str, lens_str, lenl_sl, un_not, un_neg, cvt_int, min_int, max_int, bd_none, bd_some, sls_str, sll_sl, isB_t, isB_f, cond_true, cond_false, pick_t, pick_f, pick_or, pick_and, condW_true, condW_false, add_mk, cell_eq, cellO_some, frozen_eq, frO_zero, setO_some, heap_drew, size_drew, size_set, size_alloc, exists_eq_left', Option.some.injEq, true_and, and_true, Option.isSome_some, Option.map_some, List.getElem?_toArray, List.getElem?_cons_zero, List.getElem?_cons_succ, List.size_toArray, List.length_cons, List.length_nil, List.setIfInBounds_toArray, List.set_cons_zero, List.set_cons_succ, List.getD_cons_zero, List.getD_cons_succ, Nat.zero_add, Nat.add_zero, Nat.reduceAdd, Bool.not_true, Bool.not_false, ne_eq, not_true_eq_false, not_false_eq_true, reduceCtorEq, decide_true, decide_false])
    refine GdW.t ?_
    intro g
    (try simp only [Bool.and_true, Bool.and_false, Bool.true_and, Bool.false_and, Bool.or_true, Bool.or_false, Bool.true_or, Bool.false_or, put_nil, put_map, put_int, put_str, put_bool, put_ptr, put_slice, Nat.lt_add_one, Nat.zero_lt_succ, Nat.reduceLT, bin_add, bin_sub, bin_mul, bin_quo, bin_rem, bin_eql, bin_neq, bin_lss, bin_leq, bin_gtr, bin_geq, bin_sadd, bin_seq, bin_sne, bin_slt, bin_sgt, bin_sge, bin_sle, nil_ptr, fld_ptr, ld_one, one_int, one_bool, one_str, one_slice, one_ptr, one_map, ext_tuple, ixa_slice, ixa_arr, ixs_str, lens_str, lenl_sl, un_not, un_neg, cvt_int, min_int, max_int, bd_none, bd_some, sls_str, sll_sl, isB_t, isB_f, cond_true, cond_false, pick_t, pick_f, pick_or, pick_and, condW_true, condW_false, add_mk, cell_eq, cellO_some, frozen_eq, frO_zero, setO_some, heap_drew, size_drew, size_set, size_alloc, exists_eq_left', Option.some.injEq, true_and, and_true, Option.isSome_some, Option.map_some, List.getElem?_toArray, List.getElem?_cons_zero, List.getElem?_cons_succ, List.size_toArray, List.length_cons, List.length_nil, List.setIfInBounds_toArray, List.set_cons_zero, List.set_cons_succ, List.getD_cons_zero, List.getD_cons_succ, Nat.zero_add, Nat.add_zero, Nat.reduceAdd, Bool.not_true, Bool.not_false, ne_eq, not_true_eq_false, not_false_eq_true, reduceCtorEq, decide_true, decide_false])
    by_cases h0 : lf = 0
    · have e0 : decide (lf = 0) = true := decide_eq_true h0
      (try simp only [Bool.and_true, Bool.and_false, Bool.true_and, Bool.false_and, Bool.or_true, Bool.or_false, Bool.true_or, Bool.false_or, put_nil, put_map, put_int, put_str, put_bool, put_ptr, put_slice, Nat.lt_add_one, Nat.zero_lt_succ, Nat.reduceLT, bin_add, bin_sub, bin_mul, bin_quo, bin_rem, bin_eql, bin_neq, bin_lss, bin_leq, bin_gtr, bin_geq, bin_sadd, bin_seq, bin_sne, bin_slt, bin_sgt, bin_sge, bin_sle, nil_ptr, fld_ptr, ld_one, one_int, one_bool, one_str, one_slice, one_ptr, one_map, ext_tuple, ixa_slice, ixa_arr, ixs_str, lens_str, lenl_sl, un_not, un_neg, cvt_int, min_int, max_int, bd_none, bd_some, sls_str, sll_sl, isB_t, isB_f, cond_true, cond_false, pick_t, pick_f, pick_or, pick_and, condW_true, condW_false, add_mk, cell_eq, cellO_some, frozen_eq, frO_zero, setO_some, heap_drew, size_drew, size_set, size_alloc, exists_eq_left', Option.some.injEq, true_and, and_true, Option.isSome_some, Option.map_some, List.getElem?_toArray, List.getElem?_cons_zero, List.getElem?_cons_succ, List.size_toArray, List.length_cons, List.length_nil, List.setIfInBounds_toArray, List.set_cons_zero, List.set_cons_succ, List.getD_cons_zero, List.getD_cons_succ, Nat.zero_add, Nat.add_zero, Nat.reduceAdd, Bool.not_true, Bool.not_false, ne_eq, not_true_eq_false, not_false_eq_true, reduceCtorEq, decide_true, decide_false, e0])
      exact hdead (by simp [stepM, h0])
    · have e0 : decide (lf = 0) = false := decide_eq_false h0
      have e : stepM ⟨fs, st, lf, false⟩ = (⟨fs, IntKind.i64.wrap (st + 1), if lf > 0 then IntKind.i64.wrap (lf - 1) else lf, false⟩, 0) := by simp [stepM, h0]
      (try simp only [Bool.and_true, Bool.and_false, Bool.true_and, Bool.false_and, Bool.or_true, Bool.or_false, Bool.true_or, Bool.false_or, put_nil, put_map, put_int, put_str, put_bool, put_ptr, put_slice, Nat.lt_add_one, Nat.zero_lt_succ, Nat.reduceLT, bin_add, bin_sub, bin_mul, bin_quo, bin_rem, bin_eql, bin_neq, bin_lss, bin_leq, bin_gtr, bin_geq, bin_sadd, bin_seq, bin_sne, bin_slt, bin_sgt, bin_sge, bin_sle, nil_ptr, fld_ptr, ld_one, one_int, one_bool, one_str, one_slice, one_ptr, one_map, ext_tuple, ixa_slice, ixa_arr, ixs_str, lens_str, lenl_sl, un_not, un_neg, cvt_int, min_int, max_int, bd_none, bd_some, sls_str, sll_sl, isB_t, isB_f, cond_true, cond_false, pick_t, pick_f, pick_or, pick_and, condW_true, condW_false, add_mk, cell_eq, cellO_some, frozen_eq, frO_zero, setO_some, heap_drew, size_drew, size_set, size_alloc, exists_eq_left', Option.some.injEq, true_and, and_true, Option.isSome_some, Option.map_some, List.getElem?_toArray, List.getElem?_cons_zero, List.getElem?_cons_succ, List.size_toArray, List.length_cons, List.length_nil, List.setIfInBounds_toArray, List.set_cons_zero, List.set_cons_succ, List.getD_cons_zero, List.getD_cons_succ, Nat.zero_add, Nat.add_zero, Nat.reduceAdd, Bool.not_true, Bool.not_false, ne_eq, not_true_eq_false, not_false_eq_true, reduceCtorEq, decide_true, decide_false, e0, hba])
      refine JoinW.cut (fun _ w' => w'.heap[a]? = some (.cells [.slice p n c, i64 st, i64 (if lf > 0 then IntKind.i64.wrap (lf - 1) else lf), .bool false].toArray 38 (0, 0)) ∧ Chg (fun k => k = a) w2 w') ?_ ?_
      · simp only [Bool.and_true, Bool.and_false, Bool.true_and, Bool.false_and, Bool.or_true, Bool.or_false, Bool.true_or, Bool.false_or, put_nil, put_map, put_int, put_str, put_bool, put_ptr, put_slice, Nat.lt_add_one, Nat.zero_lt_succ, Nat.reduceLT, bin_add, bin_sub, bin_mul, bin_quo, bin_rem, bin_eql, bin_neq, bin_lss, bin_leq, bin_gtr, bin_geq, bin_sadd, bin_seq, bin_sne, bin_slt, bin_sgt, bin_sge, bin_sle, nil_ptr, fld_ptr, ld_one, one_int, one_bool, one_str, one_slice, one_ptr, one_map, ext_tuple, ixa_slice, ixa_arr, ixs_str, lens_str, lenl_sl, un_not, un_neg, cvt_int, min_int, max_int, bd_none, bd_some, sls_str, sll_sl, isB_t, isB_f, cond_true, cond_false, pick_t, pick_f, pick_or, pick_and, condW_true, condW_false, add_mk, cell_eq, cellO_some, frozen_eq, frO_zero, setO_some, heap_drew, size_drew, size_set, size_alloc, exists_eq_left', Option.some.injEq, true_and, and_true, Option.isSome_some, Option.map_some, List.getElem?_toArray, List.getElem?_cons_zero, List.getElem?_cons_succ, List.size_toArray, List.length_cons, List.length_nil, List.setIfInBounds_toArray, List.set_cons_zero, List.set_cons_succ, List.getD_cons_zero, List.getD_cons_succ, Nat.zero_add, Nat.add_zero, Nat.reduceAdd, Bool.not_true, Bool.not_false, ne_eq, not_true_eq_false, not_false_eq_true, reduceCtorEq, decide_true, decide_false, condW_dec]
        refine ⟨fun h1 => ?_, fun h1 => ⟨?_, Chg.refl _ _⟩⟩
        · refine st_at hba rfl (by simp) fun w3 _ hba hc3 => ⟨?_, hc3⟩
          rw [hba, if_pos h1]; rfl
        · rw [hba, if_neg (by omega)]
      · rintro s8 g8 w3 ⟨hba, hc3⟩
        simp only [Bool.and_true, Bool.and_false, Bool.true_and, Bool.false_and, Bool.or_true, Bool.or_false, Bool.true_or, Bool.false_or, put_nil, put_map, put_int, put_str, put_bool, put_ptr, put_slice, Nat.lt_add_one, Nat.zero_lt_succ, Nat.reduceLT, bin_add, bin_sub, bin_mul, bin_quo, bin_rem, bin_eql, bin_neq, bin_lss, bin_leq, bin_gtr, bin_geq, bin_sadd, bin_seq, bin_sne, bin_slt, bin_sgt, bin_sge, bin_sle, nil_ptr, fld_ptr, ld_one, one_int, one_bool, one_str, one_slice, one_ptr, one_map, ext_tuple, ixa_slice, ixa_arr, ixs_str, lens_str, lenl_sl, un_not, un_neg, cvt_int, min_int, max_int, bd_none, bd_some, sls_str, sll_sl, isB_t, isB_f, cond_true, cond_false, pick_t, pick_f, pick_or, pick_and, condW_true, condW_false, add_mk, cell_eq, cellO_some, frozen_eq, frO_zero, setO_some, heap_drew, size_drew, size_set, size_alloc, exists_eq_left', Option.some.injEq, true_and, and_true, Option.isSome_some, Option.map_some, List.getElem?_toArray, List.getElem?_cons_zero, List.getElem?_cons_succ, List.size_toArray, List.length_cons, List.length_nil, List.setIfInBounds_toArray, List.set_cons_zero, List.set_cons_succ, List.getD_cons_zero, List.getD_cons_succ, Nat.zero_add, Nat.add_zero, Nat.reduceAdd, Bool.not_true, Bool.not_false, ne_eq, not_true_eq_false, not_false_eq_true, reduceCtorEq, decide_true, decide_false, hba]
        have hbb := hc3.at hbb (Ne.symm hab)
        refine st_at hba rfl (by simp) fun w4 _ hba hc4 => ?_
        have hbb := hc4.at hbb (Ne.symm hab)
        refine ld_all (l := rl p n c ⟨fs, IntKind.i64.wrap (st + 1), if lf > 0 then IntKind.i64.wrap (lf - 1) else lf, false⟩) hba rfl ?_
        exact ret_agg (K := fun r w6 => K (.tuple #[r, .int .i64 0]) w6) hbb rfl rfl rfl fun w5 hc5 => fin _ _ e w4 w5 ((hx.new hc3 (by omega)).new hc4 (by omega)) hc5

/-- the frame of a call: its file system, and what it hands back -/
structure Frm (w w' : World) (a b : Nat) (l z : List Value) : Prop where
  ba : w'.heap[a]? = some (.cells l.toArray 38 (0, 0))
  bb : w'.heap[b]? = some (.cells z.toArray 38 (0, 0))
  ne : a ≠ b
  ga : w.heap.size ≤ a
  gb : w.heap.size ≤ b
  ext : Ext w w'
theorem Frm.more {w w' w2 : World} {a b : Nat} {l z : List Value} (h : Frm w w' a b l z) (hx : Ext w' w2) : Frm w w2 a b l z := ⟨hx.at h.ba id, hx.at h.bb id, h.ne, h.ga, h.gb, h.ext.trans hx⟩
theorem frm_new {w : World} {l : List Value} {KK : Value → Value → World → Prop} (h : ∀ a b w', Frm w w' a b l rz → KK (.pointer (some ⟨a, 0, none⟩)) (.pointer (some ⟨b, 0, none⟩)) w') :
    boxW 38 (.agg l.toArray) w fun t2 w1 => allocW 38 [(.slice none 0 0), (.int .i64 0), (.int .i64 0), (.bool false)] w1 fun t4 w2 => KK t2 t4 w2 := by
  refine box_new fun a w1 ha hz1 hba hx1 => ?_
  refine alloc_new fun b w2 hb hz2 hbb hx2 => ?_
  exact h a b w2 ⟨hx2.at hba id, hbb, by omega, by omega, by omega, hx1.trans hx2⟩
theorem Frm.set_all {w w' : World} {a b : Nat} {l l2 z : List Value} {K : World → Prop} (h : Frm w w' a b l z) (hl : l.length = 4) (hl2 : l2.length = 4) (h1 : l2.all one1 = true) (hK : ∀ w2, Frm w w2 a b l2 z → K w2) : stW 4 (.pointer (some ⟨a, 0, none⟩)) (.agg l2.toArray) w' K :=
  st_agg_at h.ba hl2 hl h1 fun w2 _ hb hc => hK w2 ⟨hb, hc.at h.bb (Ne.symm h.ne), h.ne, h.ga, h.gb, h.ext.new hc h.ga⟩
theorem Frm.set_one {w w' : World} {a b off : Nat} {l z : List Value} {v : Value} {K : World → Prop} (h : Frm w w' a b l z) (h1 : one1 v = true) (ho : off < l.length) (hK : ∀ w2, Frm w w2 a b (l.set off v) z → Chg (fun k => k = a) w' w2 → K w2) : stW 1 (.pointer (some ⟨a, off, none⟩)) v w' K :=
  st_at h.ba h1 (by simpa using ho) fun w2 _ hb hc => hK w2 ⟨by simpa using hb, hc.at h.bb (Ne.symm h.ne), h.ne, h.ga, h.gb, h.ext.new hc h.ga⟩ hc
/-- the end of a call -/
theorem Frm.ret {w w' : World} {a b : Nat} {l : List Value} {e : Value} {K : Value → World → Prop} (h : Frm w w' a b l rz) (hl : l.length = 4) (h1 : l.all one1 = true) (hK : ∀ w2, Chg (fun k => k = b) w' w2 → Ext w w2 → K (.tuple #[.agg l.toArray, e]) w2) :
    ldW true 4 (.pointer (some ⟨a, 0, none⟩)) w' fun t => stW 4 (.pointer (some ⟨b, 0, none⟩)) t w' fun w5 => ldW true 4 (.pointer (some ⟨b, 0, none⟩)) w5 fun r => K (.tuple #[r, e]) w5 :=
  ld_all h.ba hl (ret_agg (K := fun r w6 => K (.tuple #[r, e]) w6) h.bb hl rfl h1 fun w2 hc => hK w2 hc (h.ext.new hc h.gb))

theorem sl_keep {w w2 : World} {b : Nat} {v : Value} {l : Files} {z : List Value} (h : FsL w v l) (hb : w.heap[b]? = some (.cells z.toArray 38 (0, 0))) (hc : Chg (fun k => k = b) w w2) : FsL w2 v l :=
  SlAt.chg h hc (by rintro k c fr rfl e; rw [hb] at e; cases e)

/-- Remove -/
theorem remove_ref {v : Value} {s : MS} {p : Str} {w : World} {K : Value → World → Prop} (h : RefV w v s) (hs : Ok s) (hp : p.length ≤ 9223372036854775807)
    (hK : ∀ v' w', RefV w' v' (removeM s p).1 → Ext w w' → K (.tuple #[v', i64 (removeM s p).2]) w') : callF Try.prog 37 [v, str p] w K := by
  have hR := h
  obtain ⟨sp, sc, rfl, hl⟩ := h
  refine W37_ok ?_
  unfold W37
  refine frm_new fun a b w2 hF => ?_
  refine good_ref hp ?_
  unfold removeM at hK
  have hend : ∀ w3 e, Frm w w3 a b (rl sp s.files.length sc s) rz → (∀ v' w', RefV w' v' s → Ext w w' → K (.tuple #[v', i64 e]) w') →
      ldW true 4 (.pointer (some ⟨a, 0, none⟩)) w3 fun t => stW 4 (.pointer (some ⟨b, 0, none⟩)) t w3 fun w5 => ldW true 4 (.pointer (some ⟨b, 0, none⟩)) w5 fun r => K (.tuple #[r, i64 e]) w5 :=
    fun w3 e hF hk => hF.ret rfl rfl fun w4 hc hx => hk _ _ ⟨sp, sc, rfl, SlAt.ext hl hx⟩ hx
  cases hg : good p with
  | false =>
    rw [if_pos hg] at hK
    (try simp only [Bool.and_true, Bool.and_false, Bool.true_and, Bool.false_and, Bool.or_true, Bool.or_false, Bool.true_or, Bool.false_or, put_nil, put_map, put_int, put_str, put_bool, put_ptr, put_slice, Nat.lt_add_one, Nat.zero_lt_succ, Nat.reduceLT, bin_add, bin_sub, bin_mul, bin_quo, bin_rem, bin_eql, bin_neq, bin_lss, bin_leq, bin_gtr, bin_geq, bin_sadd, bin_seq, bin_sne, bin_slt, bin_sgt, bin_sge, bin_sle, nil_ptr, fld_ptr, ld_one, one_int, one_bool, one_str, one_slice, one_ptr, one_map, ext_tuple, ixa_slice, ixa_arr, ixs_str, lens_str, lenl_sl, un_not, un_neg, cvt_int, min_int, max_int, bd_none, bd_some, sls_str, sll_sl, isB_t, isB_f, cond_true, cond_false, pick_t, pick_f, pick_or, pick_and, condW_true, condW_false, add_mk, cell_eq, cellO_some, frozen_eq, frO_zero, setO_some, heap_drew, size_drew, size_set, size_alloc, exists_eq_left', Option.some.injEq, true_and, and_true, Option.isSome_some, Option.map_some, List.getElem?_toArray, List.getElem?_cons_zero, List.getElem?_cons_succ, List.size_toArray, List.length_cons, List.length_nil, List.setIfInBounds_toArray, List.set_cons_zero, List.set_cons_succ, List.getD_cons_zero, List.getD_cons_succ, Nat.zero_add, Nat.add_zero, Nat.reduceAdd, Bool.not_true, Bool.not_false, ne_eq, not_true_eq_false, not_false_eq_true, reduceCtorEq, decide_true, decide_false])
    exact hend _ 6 hF hK
  | true =>
    rw [if_neg (by simp [hg])] at hK
    (try simp only [Bool.and_true, Bool.and_false, Bool.true_and, Bool.false_and, Bool.or_true, Bool.or_false, Bool.true_or, Bool.false_or, put_nil, put_map, put_int, put_str, put_bool, put_ptr, put_slice, Nat.lt_add_one, Nat.zero_lt_succ, Nat.reduceLT, bin_add, bin_sub, bin_mul, bin_quo, bin_rem, bin_eql, bin_neq, bin_lss, bin_leq, bin_gtr, bin_geq, bin_sadd, bin_seq, bin_sne, bin_slt, bin_sgt, bin_sge, bin_sle, nil_ptr, fld_ptr, ld_one, one_int, one_bool, one_str, one_slice, one_ptr, one_map, ext_tuple, ixa_slice, ixa_arr, ixs_str, lens_str, lenl_sl, un_not, un_neg, cvt_int, min_int, max_int, bd_none, bd_some, sls_str, sll_sl, isB_t, isB_f, cond_true, cond_false, pick_t, pick_f, pick_or, pick_and, condW_true, condW_false, add_mk, cell_eq, cellO_some, frozen_eq, frO_zero, setO_some, heap_drew, size_drew, size_set, size_alloc, exists_eq_left', Option.some.injEq, true_and, and_true, Option.isSome_some, Option.map_some, List.getElem?_toArray, List.getElem?_cons_zero, List.getElem?_cons_succ, List.size_toArray, List.length_cons, List.length_nil, List.setIfInBounds_toArray, List.set_cons_zero, List.set_cons_succ, List.getD_cons_zero, List.getD_cons_succ, Nat.zero_add, Nat.add_zero, Nat.reduceAdd, Bool.not_true, Bool.not_false, ne_eq, not_true_eq_false, not_false_eq_true, reduceCtorEq, decide_true, decide_false])
    refine ld_all hF.ba rfl ?_
    refine at_ref (hR.ext hF.ext) hs.few fun r w3 hx3 hr => ?_
    have hF := hF.more hx3
    rcases hr with ⟨rfl, hn⟩ | ⟨i, x, rfl, hget, hlk⟩
    · rw [hn] at hK
      have e : decide ((-1 : Int) < 0) = true := by decide
      simp only [Bool.and_true, Bool.and_false, Bool.true_and, Bool.false_and, Bool.or_true, Bool.or_false, Bool.true_or, Bool.false_or, put_nil, put_map, put_int, put_str, put_bool, put_ptr, put_slice, Nat.lt_add_one, Nat.zero_lt_succ, Nat.reduceLT, bin_add, bin_sub, bin_mul, bin_quo, bin_rem, bin_eql, bin_neq, bin_lss, bin_leq, bin_gtr, bin_geq, bin_sadd, bin_seq, bin_sne, bin_slt, bin_sgt, bin_sge, bin_sle, nil_ptr, fld_ptr, ld_one, one_int, one_bool, one_str, one_slice, one_ptr, one_map, ext_tuple, ixa_slice, ixa_arr, ixs_str, lens_str, lenl_sl, un_not, un_neg, cvt_int, min_int, max_int, bd_none, bd_some, sls_str, sll_sl, isB_t, isB_f, cond_true, cond_false, pick_t, pick_f, pick_or, pick_and, condW_true, condW_false, add_mk, cell_eq, cellO_some, frozen_eq, frO_zero, setO_some, heap_drew, size_drew, size_set, size_alloc, exists_eq_left', Option.some.injEq, true_and, and_true, Option.isSome_some, Option.map_some, List.getElem?_toArray, List.getElem?_cons_zero, List.getElem?_cons_succ, List.size_toArray, List.length_cons, List.length_nil, List.setIfInBounds_toArray, List.set_cons_zero, List.set_cons_succ, List.getD_cons_zero, List.getD_cons_succ, Nat.zero_add, Nat.add_zero, Nat.reduceAdd, Bool.not_true, Bool.not_false, ne_eq, not_true_eq_false, not_false_eq_true, reduceCtorEq, decide_true, decide_false, e]
      exact hend _ 4 hF hK
    · rw [hlk] at hK
      have e : decide ((i : Int) < 0) = false := decide_eq_false (by omega)
      simp only [Bool.and_true, Bool.and_false, Bool.true_and, Bool.false_and, Bool.or_true, Bool.or_false, Bool.true_or, Bool.false_or, put_nil, put_map, put_int, put_str, put_bool, put_ptr, put_slice, Nat.lt_add_one, Nat.zero_lt_succ, Nat.reduceLT, bin_add, bin_sub, bin_mul, bin_quo, bin_rem, bin_eql, bin_neq, bin_lss, bin_leq, bin_gtr, bin_geq, bin_sadd, bin_seq, bin_sne, bin_slt, bin_sgt, bin_sge, bin_sle, nil_ptr, fld_ptr, ld_one, one_int, one_bool, one_str, one_slice, one_ptr, one_map, ext_tuple, ixa_slice, ixa_arr, ixs_str, lens_str, lenl_sl, un_not, un_neg, cvt_int, min_int, max_int, bd_none, bd_some, sls_str, sll_sl, isB_t, isB_f, cond_true, cond_false, pick_t, pick_f, pick_or, pick_and, condW_true, condW_false, add_mk, cell_eq, cellO_some, frozen_eq, frO_zero, setO_some, heap_drew, size_drew, size_set, size_alloc, exists_eq_left', Option.some.injEq, true_and, and_true, Option.isSome_some, Option.map_some, List.getElem?_toArray, List.getElem?_cons_zero, List.getElem?_cons_succ, List.size_toArray, List.length_cons, List.length_nil, List.setIfInBounds_toArray, List.set_cons_zero, List.set_cons_succ, List.getD_cons_zero, List.getD_cons_succ, Nat.zero_add, Nat.add_zero, Nat.reduceAdd, Bool.not_true, Bool.not_false, ne_eq, not_true_eq_false, not_false_eq_true, reduceCtorEq, decide_true, decide_false, e]
      refine ld_all hF.ba rfl ?_
      refine step_ref (s := s) fun w4 hx4 => ?_
      have hF := hF.more hx4
      simp only [Bool.and_true, Bool.and_false, Bool.true_and, Bool.false_and, Bool.or_true, Bool.or_false, Bool.true_or, Bool.false_or, put_nil, put_map, put_int, put_str, put_bool, put_ptr, put_slice, Nat.lt_add_one, Nat.zero_lt_succ, Nat.reduceLT, bin_add, bin_sub, bin_mul, bin_quo, bin_rem, bin_eql, bin_neq, bin_lss, bin_leq, bin_gtr, bin_geq, bin_sadd, bin_seq, bin_sne, bin_slt, bin_sgt, bin_sge, bin_sle, nil_ptr, fld_ptr, ld_one, one_int, one_bool, one_str, one_slice, one_ptr, one_map, ext_tuple, ixa_slice, ixa_arr, ixs_str, lens_str, lenl_sl, un_not, un_neg, cvt_int, min_int, max_int, bd_none, bd_some, sls_str, sll_sl, isB_t, isB_f, cond_true, cond_false, pick_t, pick_f, pick_or, pick_and, condW_true, condW_false, add_mk, cell_eq, cellO_some, frozen_eq, frO_zero, setO_some, heap_drew, size_drew, size_set, size_alloc, exists_eq_left', Option.some.injEq, true_and, and_true, Option.isSome_some, Option.map_some, List.getElem?_toArray, List.getElem?_cons_zero, List.getElem?_cons_succ, List.size_toArray, List.length_cons, List.length_nil, List.setIfInBounds_toArray, List.set_cons_zero, List.set_cons_succ, List.getD_cons_zero, List.getD_cons_succ, Nat.zero_add, Nat.add_zero, Nat.reduceAdd, Bool.not_true, Bool.not_false, ne_eq, not_true_eq_false, not_false_eq_true, reduceCtorEq, decide_true, decide_false]
      refine hF.set_all (l2 := rl sp s.files.length sc (stepM s).1) rfl rfl rfl fun w5 hF => ?_
      simp only [condW_dec]
      refine ⟨fun h0 => ?_, fun h0 => ?_⟩
      · have h0 : (stepM s).2 ≠ 0 := by simpa using h0
        simp only [if_pos h0] at hK
        refine hF.ret rfl rfl fun w4 hc hx => hK _ _ ⟨sp, sc, ?_, ?_⟩ hx
        · rw [step_files]
        · rw [step_files]; exact SlAt.ext hl hx
      · have h0 : (stepM s).2 = 0 := by simpa using h0
        simp only [h0, ne_eq, not_true_eq_false, if_false] at hK
        (try simp only [Bool.and_true, Bool.and_false, Bool.true_and, Bool.false_and, Bool.or_true, Bool.or_false, Bool.true_or, Bool.false_or, put_nil, put_map, put_int, put_str, put_bool, put_ptr, put_slice, Nat.lt_add_one, Nat.zero_lt_succ, Nat.reduceLT, bin_add, bin_sub, bin_mul, bin_quo, bin_rem, bin_eql, bin_neq, bin_lss, bin_leq, bin_gtr, bin_geq, bin_sadd, bin_seq, bin_sne, bin_slt, bin_sgt, bin_sge, bin_sle, nil_ptr, fld_ptr, ld_one, one_int, one_bool, one_str, one_slice, one_ptr, one_map, ext_tuple, ixa_slice, ixa_arr, ixs_str, lens_str, lenl_sl, un_not, un_neg, cvt_int, min_int, max_int, bd_none, bd_some, sls_str, sll_sl, isB_t, isB_f, cond_true, cond_false, pick_t, pick_f, pick_or, pick_and, condW_true, condW_false, add_mk, cell_eq, cellO_some, frozen_eq, frO_zero, setO_some, heap_drew, size_drew, size_set, size_alloc, exists_eq_left', Option.some.injEq, true_and, and_true, Option.isSome_some, Option.map_some, List.getElem?_toArray, List.getElem?_cons_zero, List.getElem?_cons_succ, List.size_toArray, List.length_cons, List.length_nil, List.setIfInBounds_toArray, List.set_cons_zero, List.set_cons_succ, List.getD_cons_zero, List.getD_cons_succ, Nat.zero_add, Nat.add_zero, Nat.reduceAdd, Bool.not_true, Bool.not_false, ne_eq, not_true_eq_false, not_false_eq_true, reduceCtorEq, decide_true, decide_false, hF.ba])
        refine without_ref (SlAt.ext hl hF.ext) (by have := hs.few; omega) fun u w6 hu hx6 => ?_
        have hF := hF.more hx6
        obtain ⟨up, uc, rfl, _⟩ := hu.shape
        refine hF.set_one rfl (by simp) fun w7 hF7 hc7 => ?_
        have hu := sl_keep hu hF.ba hc7
        refine hF7.ret rfl rfl fun w8 hc hx => hK _ _ ⟨up, uc, rfl, sl_keep hu hF7.bb hc⟩ hx
end Go.Proofs.Ytcefidpmlnfheaa
