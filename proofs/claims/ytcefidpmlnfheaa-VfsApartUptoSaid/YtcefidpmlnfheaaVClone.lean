/- One plain sentence: Clone leaves a second file system that is alike. Conditions: those that each states. -/
import Derived.Test.YtcefidpmlnfheaaVLaw0
import Derived.Test.YtcefidpmlnfheaaLib4
import Derived.Laws.Externs
import Derived.MapKept
set_option linter.all false
set_option linter.unusedSimpArgs false
set_option linter.unusedVariables false
set_option linter.unusedSectionVars false
namespace Go.Proofs.Ytcefidpmlnfheaa
open Go Go.Eng Go.Vfs
set_option maxRecDepth 100000

theorem run_assert (t xT k e : TypeId) (v : Value) (w : World) (h : Try.prog.underlying t = some (.map k e)) : (Instr.typeAssert (.iface t v) xT t false).run Try.prog w = .ok v w := by
  simp [Instr.typeAssert, run_underlying h, go_sem, Result.andThen]
theorem run_mclone {r : Nat} {es : Array MapEntry} {clock : Nat} (t : TypeId) (w : World) (hb : w.heap[r]? = some (.map es clock)) :
    (Extern.MapsClone.clone #[.iface t (.map (some r))]).run Try.prog w = .ok (.iface t (.map (some w.heap.size))) (w.alloc (.map es clock)) := by
  have e : Extern.MapsClone.clone #[.iface t (.map (some r))] = (getObj r >>= fun o => match o with
      | .map entries clock => (newObj (.map entries clock) >>= fun n => pure (.iface t (.map (some n))))
      | _ => stuck "maps.clone: a map expected") := rfl
  rw [e]
  simp [MapKept.run_getObj_map hb, Result.andThen, go_sem]

theorem clone_map {w : World} {m : Nat} {A : List (Str × Value)} {K : Value → World → Prop} (h : MapAt w m A) (hK : ∀ m' w', m' = w.heap.size → MapAt w' m' A → Ext w w' → K (.map (some m')) w') :
    callF Try.prog 43 [.map (some m)] w K := by
  refine W43_ok ?_
  unfold W43
  obtain ⟨es, clock, hb, he⟩ := h
  simp only [eqW, condW_false]
  unfold callF
  rw [run_callFunc_extern Try.func49 (by kernel_rfl) (by kernel_rfl) (by kernel_rfl) (e := Extern.MapsClone.clone) (by kernel_rfl)]
  rw [show ([Value.iface 62 (.map (some m))] : List Value).toArray = #[.iface 62 (.map (some m))] from rfl, run_mclone 62 w hb]
  simp only [Result.andThen, Res]
  refine ⟨_, run_assert 62 20 9 69 _ _ (by kernel_rfl), ?_⟩
  exact hK _ _ rfl ⟨es, clock, heap_anew _ _ _ rfl, he⟩ (Chg.alloc (Chg.refl _ _) _)

theorem fclone {w0 w : World} {b m : Nat} {s : MS} {K : Value → World → Prop} (h : Fs w0 w b m s) (hK : ∀ b' m' w', Fs w w' b' m' s → K (fp b') w') : callF Try.prog 27 [fp b] w K := by
  refine W27_ok ?_
  unfold W27
  have hb := h.fs.blk
  (try simp only [Bool.and_true, Bool.and_false, Bool.true_and, Bool.false_and, Bool.or_true, Bool.or_false, Bool.true_or, Bool.false_or, put_nil, put_map, put_int, put_str, put_bool, put_ptr, put_slice, Nat.lt_add_one, Nat.zero_lt_succ, Nat.reduceLT, bin_add, bin_sub, bin_mul, bin_quo, bin_rem, bin_eql, bin_neq, bin_lss, bin_leq, bin_gtr, bin_geq, bin_sadd, bin_seq, bin_sne, bin_slt, bin_sgt, bin_sge, bin_sle, nil_ptr, fld_ptr, ld_one, one_int, one_bool, one_str, one_slice, one_ptr, one_map, ext_tuple, ixa_slice, ixa_arr, ixs_str, lens_str, lenl_sl, un_not, un_neg, cvt_int, min_int, max_int, bd_none, bd_some, sls_str, sll_sl, isB_t, isB_f, cond_true, cond_false, pick_t, pick_f, pick_or, pick_and, condW_true, condW_false, add_mk, cell_eq, cellO_some, frozen_eq, frO_zero, setO_some, heap_drew, size_drew, size_set, size_alloc, exists_eq_left', Option.some.injEq, true_and, and_true, Option.isSome_some, Option.map_some, List.getElem?_toArray, List.getElem?_cons_zero, List.getElem?_cons_succ, List.size_toArray, List.length_cons, List.length_nil, List.setIfInBounds_toArray, List.set_cons_zero, List.set_cons_succ, List.getD_cons_zero, List.getD_cons_succ, Nat.zero_add, Nat.add_zero, Nat.reduceAdd, Bool.not_true, Bool.not_false, ne_eq, not_true_eq_false, not_false_eq_true, reduceCtorEq, decide_true, decide_false])
  refine ld_all (l := [.map (some m), i64 s.steps, i64 s.left, .bool s.dead]) hb rfl ?_
  refine alloc_new fun a w1 ha hz1 hba hx1 => ?_
  refine st_agg_at hba rfl rfl rfl fun w2 hz2 hba hc2 => ?_
  have hx2 : Ext w w2 := hx1.new hc2 (by omega)
  have h2 := h.more hx2
  have hb2 := h2.fs.blk
  (try simp only [Bool.and_true, Bool.and_false, Bool.true_and, Bool.false_and, Bool.or_true, Bool.or_false, Bool.true_or, Bool.false_or, put_nil, put_map, put_int, put_str, put_bool, put_ptr, put_slice, Nat.lt_add_one, Nat.zero_lt_succ, Nat.reduceLT, bin_add, bin_sub, bin_mul, bin_quo, bin_rem, bin_eql, bin_neq, bin_lss, bin_leq, bin_gtr, bin_geq, bin_sadd, bin_seq, bin_sne, bin_slt, bin_sgt, bin_sge, bin_sle, nil_ptr, fld_ptr, ld_one, one_int, one_bool, one_str, one_slice, one_ptr, one_map, ext_tuple, ixa_slice, ixa_arr, ixs_str, lens_str, lenl_sl, un_not, un_neg, cvt_int, min_int, max_int, bd_none, bd_some, sls_str, sll_sl, isB_t, isB_f, cond_true, cond_false, pick_t, pick_f, pick_or, pick_and, condW_true, condW_false, add_mk, cell_eq, cellO_some, frozen_eq, frO_zero, setO_some, heap_drew, size_drew, size_set, size_alloc, exists_eq_left', Option.some.injEq, true_and, and_true, Option.isSome_some, Option.map_some, List.getElem?_toArray, List.getElem?_cons_zero, List.getElem?_cons_succ, List.size_toArray, List.length_cons, List.length_nil, List.setIfInBounds_toArray, List.set_cons_zero, List.set_cons_succ, List.getD_cons_zero, List.getD_cons_succ, Nat.zero_add, Nat.add_zero, Nat.reduceAdd, Bool.not_true, Bool.not_false, ne_eq, not_true_eq_false, not_false_eq_true, reduceCtorEq, decide_true, decide_false, hb2])
  obtain ⟨A, hA, hl, hf⟩ := h2.fs.fil
  refine clone_map hA fun m' w3 hm' hA3 hx3 => ?_
  have hba3 := hx3.at hba id
  (try simp only [Bool.and_true, Bool.and_false, Bool.true_and, Bool.false_and, Bool.or_true, Bool.or_false, Bool.true_or, Bool.false_or, put_nil, put_map, put_int, put_str, put_bool, put_ptr, put_slice, Nat.lt_add_one, Nat.zero_lt_succ, Nat.reduceLT, bin_add, bin_sub, bin_mul, bin_quo, bin_rem, bin_eql, bin_neq, bin_lss, bin_leq, bin_gtr, bin_geq, bin_sadd, bin_seq, bin_sne, bin_slt, bin_sgt, bin_sge, bin_sle, nil_ptr, fld_ptr, ld_one, one_int, one_bool, one_str, one_slice, one_ptr, one_map, ext_tuple, ixa_slice, ixa_arr, ixs_str, lens_str, lenl_sl, un_not, un_neg, cvt_int, min_int, max_int, bd_none, bd_some, sls_str, sll_sl, isB_t, isB_f, cond_true, cond_false, pick_t, pick_f, pick_or, pick_and, condW_true, condW_false, add_mk, cell_eq, cellO_some, frozen_eq, frO_zero, setO_some, heap_drew, size_drew, size_set, size_alloc, exists_eq_left', Option.some.injEq, true_and, and_true, Option.isSome_some, Option.map_some, List.getElem?_toArray, List.getElem?_cons_zero, List.getElem?_cons_succ, List.size_toArray, List.length_cons, List.length_nil, List.setIfInBounds_toArray, List.set_cons_zero, List.set_cons_succ, List.getD_cons_zero, List.getD_cons_succ, Nat.zero_add, Nat.add_zero, Nat.reduceAdd, Bool.not_true, Bool.not_false, ne_eq, not_true_eq_false, not_false_eq_true, reduceCtorEq, decide_true, decide_false])
  refine st_at hba3 rfl (by simp) fun w4 hz4 hba4 hc4 => ?_
  have hgm : w.heap.size ≤ m' := by omega
  have hne : m' ≠ a := by have := at_lt hba; omega
  have hsep : Sep w3 (fun k => k = a) := by rintro k c fr rfl e; rw [hba3] at e; cases e
  refine hK a m' w4 ⟨⟨by simpa using hba4, A, hA3.chg hc4 hne, hl, fun p => ((hf p).chg hx3 (Sep.none _)).chg hc4 hsep⟩, h.ok, by omega, hgm, (hx2.trans hx3).new hc4 (by omega)⟩
end Go.Proofs.Ytcefidpmlnfheaa
