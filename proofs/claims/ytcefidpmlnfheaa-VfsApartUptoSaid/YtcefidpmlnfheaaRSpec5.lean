/- One plain sentence: the document's answer for a loss of power. Conditions: those that each states. -/
import Derived.Test.YtcefidpmlnfheaaRSpec4
set_option linter.all false
set_option linter.unusedSimpArgs false
set_option linter.unusedVariables false
set_option linter.unusedSectionVars false
namespace Go.Proofs.Ytcefidpmlnfheaa
open Go Go.Eng Go.Vfs
set_option maxRecDepth 100000
set_option maxHeartbeats 400000

theorem new_ref' {w : World} {K : Value → World → Prop} (hK : ∀ w', Ext w w' → K (rv none 0 0 newM) w') : callF Try.prog 19 [] w K := by
  refine W19_ok ?_
  unfold W19
  simp (disch := omega) only [Bool.and_true, Bool.and_false, Bool.true_and, Bool.false_and, Bool.or_true, Bool.or_false, Bool.true_or, Bool.false_or, put_nil, put_map, put_int, put_str, put_bool, put_ptr, put_slice, Nat.lt_add_one, Nat.zero_lt_succ, Nat.reduceLT, bin_add, bin_sub, bin_mul, bin_quo, bin_rem, bin_eql, bin_neq, bin_lss, bin_leq, bin_gtr, bin_geq, bin_sadd, bin_seq, bin_sne, bin_slt, bin_sgt, bin_sge, bin_sle, nil_ptr, fld_ptr, ld_one, ld_agg, st_int, st_bool, st_str, st_slice, st_ptr, st_map, st_agg, stc_nil, stc_cons, one_int, one_bool, one_str, one_slice, one_ptr, one_map, ext_tuple, ixa_slice, ixa_arr, ixs_str, lens_str, lenl_sl, un_not, un_neg, cvt_int, min_int, max_int, alloc_go, box_agg, box_int, box_bool, box_str, box_slice, box_ptr, box_map, bd_none, bd_some, sls_str, sll_sl, isB_t, isB_f, cond_true, cond_false, pick_t, pick_f, pick_or, pick_and, condW_true, condW_false, cellsAt, add_mk, cell_eq, cellO_some, frozen_eq, frO_zero, heap_set_same, heap_set_other, setO_some, heap_anew, heap_aold, heap_drew, size_drew, size_set, size_alloc, exists_eq_left', Option.some.injEq, true_and, and_true, Option.isSome_some, Option.map_some, List.getElem?_toArray, List.getElem?_cons_zero, List.getElem?_cons_succ, List.size_toArray, List.length_cons, List.length_nil, List.setIfInBounds_toArray, List.set_cons_zero, List.set_cons_succ, List.getD_cons_zero, List.getD_cons_succ, Nat.zero_add, Nat.add_zero, Nat.reduceAdd, Bool.not_true, Bool.not_false, ne_eq, not_true_eq_false, not_false_eq_true, reduceCtorEq, decide_true, decide_false]
  exact hK _ (by repeat (first | assumption | exact Chg.refl _ _ | refine Chg.drew ?_ | refine Chg.alloc ?_ _ | refine Chg.set ?_ (by first | exact .inl rfl | exact .inr (by omega) | exact .inr (by simp only [size_set, size_alloc, size_drew]; omega) | (left; simp; done)) _ | exact Chg.of_ext (by assumption)))

theorem crash_ref {v kv : Value} {keep : List Int} {T : TypeId} {s : MS} {w : World} {K : Value → World → Prop} (h : RefV w v s) (hs : Ok s) (hk : SlAt w T kv keep.length (keep.map i64))
    (hK : ∀ v' w', RefV w' v' (crashM s keep) → Ext w w' → K v' w') : callF Try.prog 22 [v, kv] w K := by
  obtain ⟨sp, sc, rfl, hl⟩ := h
  refine W22_ok ?_
  unfold W22
  refine frm_new fun a b w2 hF => ?_
  refine new_ref' fun w3 hx3 => ?_
  have hF := hF.more hx3
  have hla := at_lt hF.ba
  have hlb := at_lt hF.bb
  refine alloc_new fun c w4 hc4 hz4 hbc hx4 => ?_
  have hgc : w.heap.size ≤ c := by have := hF.ext.size; omega
  have hF := hF.more hx4
  refine st_agg_at hbc rfl rfl rfl fun w5 hz5 hbc hc5 => ?_
  have hF : Frm w w5 a b (rl sp s.files.length sc s) rz := ⟨hc5.at hF.ba (by omega), hc5.at hF.bb (by omega), hF.ne, hF.ga, hF.gb, hF.ext.new hc5 hgc⟩
  have hca : c ≠ a := by omega
  have hcb : c ≠ b := by omega
  have hca5 : a < w5.heap.size := at_lt hF.ba
  have hcb5 : b < w5.heap.size := at_lt hF.bb
  have hcc5 : c < w5.heap.size := at_lt hbc
  generalize hbase : w5.heap.size = base at hca5 hcb5 hcc5
  have h64 := hs.few
  -- one file is appended to what goes out
  have hap : ∀ (y : Str × MF) (u : Value) (out : Files) (w6 : World) (KK : World → Prop), Frm w w6 a b (rl sp s.files.length sc s) rz → w6.heap[c]? = some (.cells [u, i64 0, i64 (-1), .bool false].toArray 38 (0, 0)) → base ≤ w6.heap.size → out.length ≤ 64 → Own w6 base RT 4 u out.length (fcs out) →
      (∀ u' w8, Frm w w8 a b (rl sp s.files.length sc s) rz → w8.heap[c]? = some (.cells [u', i64 0, i64 (-1), .bool false].toArray 38 (0, 0)) → base ≤ w8.heap.size → Own w8 base RT 4 u' (out ++ [y]).length (fcs (out ++ [y])) → KK w8) →
      semE Try.prog (Builtin.append_ #[36, 36] 36 #[u, .slice (some ⟨w6.heap.size, 0, none⟩) 1 1]) (w6.alloc (.cells (fc y).toArray RT)) fun t36 w14 => stW 1 (.pointer (some ⟨c, 0, none⟩)) t36 w14 KK := by
    intro y u out w6 KK hF hbc hb hlen hu hk
    refine app_file (y := y) hu hb (by omega) fun u' w7 hu' hc7 => ?_
    have no : ∀ k, k < base → ¬ OwnS w6 base RT k := fun k hk e => by have := e.1; omega
    have hF7 : Frm w w7 a b (rl sp s.files.length sc s) rz := ⟨hc7.at hF.ba (no _ hca5), hc7.at hF.bb (no _ hcb5), hF.ne, hF.ga, hF.gb, hF.ext.then hc7 fun k hk e => by have := e.1; have := hF.ga; omega⟩
    have hbc7 := hc7.at hbc (no _ hcc5)
    obtain ⟨up, uc, rfl, _⟩ := hu'.sl.shape
    refine st_at hbc7 rfl (by simp) fun w8 hz8 hbc8 hc8 => ?_
    refine hk _ w8 ⟨hc8.at hF7.ba (by omega), hc8.at hF7.bb (by omega), hF7.ne, hF7.ga, hF7.gb, hF7.ext.new hc8 hgc⟩ hbc8 (by have := hc7.size; omega) ?_
    refine hu'.chg hc8 fun k hk e => ?_
    have := hk.1
    omega
  clear hx3 hx4 hc5
  simp only [Bool.and_true, Bool.and_false, Bool.true_and, Bool.false_and, Bool.or_true, Bool.or_false, Bool.true_or, Bool.false_or, put_nil, put_map, put_int, put_str, put_bool, put_ptr, put_slice, Nat.lt_add_one, Nat.zero_lt_succ, Nat.reduceLT, bin_add, bin_sub, bin_mul, bin_quo, bin_rem, bin_eql, bin_neq, bin_lss, bin_leq, bin_gtr, bin_geq, bin_sadd, bin_seq, bin_sne, bin_slt, bin_sgt, bin_sge, bin_sle, nil_ptr, fld_ptr, ld_one, one_int, one_bool, one_str, one_slice, one_ptr, one_map, ext_tuple, ixa_slice, ixa_arr, ixs_str, lens_str, lenl_sl, un_not, un_neg, cvt_int, min_int, max_int, bd_none, bd_some, sls_str, sll_sl, isB_t, isB_f, cond_true, cond_false, pick_t, pick_f, pick_or, pick_and, condW_true, condW_false, add_mk, cell_eq, cellO_some, frozen_eq, frO_zero, setO_some, heap_drew, size_drew, size_set, size_alloc, exists_eq_left', Option.some.injEq, true_and, and_true, Option.isSome_some, Option.map_some, List.getElem?_toArray, List.getElem?_cons_zero, List.getElem?_cons_succ, List.size_toArray, List.length_cons, List.length_nil, List.setIfInBounds_toArray, List.set_cons_zero, List.set_cons_succ, List.getD_cons_zero, List.getD_cons_succ, Nat.zero_add, Nat.add_zero, Nat.reduceAdd, Bool.not_true, Bool.not_false, ne_eq, not_true_eq_false, not_false_eq_true, reduceCtorEq, decide_true, decide_false, hF.ba]
  refine LoopW.go (fun st w' => ∃ i u, i ≤ s.files.length ∧ st = [i64 (kAft keep (s.files.take i) 0 : Nat), i64 (i : Nat)] ∧ Frm w w' a b (rl sp s.files.length sc s) rz ∧ w'.heap[c]? = some (.cells [u, i64 0, i64 (-1), .bool false].toArray 38 (0, 0)) ∧ base ≤ w'.heap.size ∧
      Own w' base RT 4 u (crashL keep (s.files.take i) 0).length (fcs (crashL keep (s.files.take i) 0))) (fun st _ => match st with | [_, .int _ i] => s.files.length - i.toNat | _ => 0)
    ⟨0, _, Nat.zero_le _, rfl, hF, hbc, by omega, own_nil _ _⟩ ?_
  clear hF hbc
  rintro st g w7 ⟨i, u, hi, rfl, hF, hbc, hbw, hu⟩
  simp only [Bool.and_true, Bool.and_false, Bool.true_and, Bool.false_and, Bool.or_true, Bool.or_false, Bool.true_or, Bool.false_or, put_nil, put_map, put_int, put_str, put_bool, put_ptr, put_slice, Nat.lt_add_one, Nat.zero_lt_succ, Nat.reduceLT, bin_add, bin_sub, bin_mul, bin_quo, bin_rem, bin_eql, bin_neq, bin_lss, bin_leq, bin_gtr, bin_geq, bin_sadd, bin_seq, bin_sne, bin_slt, bin_sgt, bin_sge, bin_sle, nil_ptr, fld_ptr, ld_one, one_int, one_bool, one_str, one_slice, one_ptr, one_map, ext_tuple, ixa_slice, ixa_arr, ixs_str, lens_str, lenl_sl, un_not, un_neg, cvt_int, min_int, max_int, bd_none, bd_some, sls_str, sll_sl, isB_t, isB_f, cond_true, cond_false, pick_t, pick_f, pick_or, pick_and, condW_true, condW_false, add_mk, cell_eq, cellO_some, frozen_eq, frO_zero, setO_some, heap_drew, size_drew, size_set, size_alloc, exists_eq_left', Option.some.injEq, true_and, and_true, Option.isSome_some, Option.map_some, List.getElem?_toArray, List.getElem?_cons_zero, List.getElem?_cons_succ, List.size_toArray, List.length_cons, List.length_nil, List.setIfInBounds_toArray, List.set_cons_zero, List.set_cons_succ, List.getD_cons_zero, List.getD_cons_succ, Nat.zero_add, Nat.add_zero, Nat.reduceAdd, Bool.not_true, Bool.not_false, ne_eq, not_true_eq_false, not_false_eq_true, reduceCtorEq, decide_true, decide_false, condW_dec]
  refine ⟨fun hlt => ?_, fun hge => ?_⟩
  · have hlt : i < s.files.length := by omega
    obtain ⟨⟨p, x⟩, hget⟩ : ∃ y, s.files[i]? = some y := ⟨_, List.getElem?_eq_getElem hlt⟩
    have hmem : (p, x) ∈ s.files := List.mem_of_getElem? hget
    have hkA : kAft keep (s.files.take i) 0 ≤ 64 := by have := kAft_le keep (s.files.take i) 0; rw [List.length_take] at this; omega
    have hkN : kAft keep (s.files.take (i + 1)) 0 = (crash1 keep x (kAft keep (s.files.take i) 0)).2 := by rw [take_next hget, kAft_app]; rfl
    have hcN : crashL keep (s.files.take (i + 1)) 0 = crashL keep (s.files.take i) 0 ++ one p (crash1 keep x (kAft keep (s.files.take i) 0)).1 := by
      rw [take_next hget, crash_app, crash_cons]; simp [crashL]
    have hol : (crashL keep (s.files.take i) 0).length ≤ 64 := by have h1 := (crash_keys keep (s.files.take i) 0).length_le; simp only [List.length_map, List.length_take] at h1; omega
    generalize hkk : kAft keep (s.files.take i) 0 = kk at *
    generalize crashL keep (s.files.take i) 0 = out at *
    refine JoinW.cut (fun s8 w' => ∃ u, s8 = [i64 ((crash1 keep x kk).2 : Nat)] ∧ Frm w w' a b (rl sp s.files.length sc s) rz ∧ w'.heap[c]? = some (.cells [u, i64 0, i64 (-1), .bool false].toArray 38 (0, 0)) ∧ base ≤ w'.heap.size ∧
      Own w' base RT 4 u (out ++ one p (crash1 keep x kk).1).length (fcs (out ++ one p (crash1 keep x kk).1))) ?_ ?_
    · simp only [Bool.and_true, Bool.and_false, Bool.true_and, Bool.false_and, Bool.or_true, Bool.or_false, Bool.true_or, Bool.false_or, put_nil, put_map, put_int, put_str, put_bool, put_ptr, put_slice, Nat.lt_add_one, Nat.zero_lt_succ, Nat.reduceLT, bin_add, bin_sub, bin_mul, bin_quo, bin_rem, bin_eql, bin_neq, bin_lss, bin_leq, bin_gtr, bin_geq, bin_sadd, bin_seq, bin_sne, bin_slt, bin_sgt, bin_sge, bin_sle, nil_ptr, fld_ptr, ld_one, one_int, one_bool, one_str, one_slice, one_ptr, one_map, ext_tuple, ixa_slice, ixa_arr, ixs_str, lens_str, lenl_sl, un_not, un_neg, cvt_int, min_int, max_int, bd_none, bd_some, sls_str, sll_sl, isB_t, isB_f, cond_true, cond_false, pick_t, pick_f, pick_or, pick_and, condW_true, condW_false, add_mk, cell_eq, cellO_some, frozen_eq, frO_zero, setO_some, heap_drew, size_drew, size_set, size_alloc, exists_eq_left', Option.some.injEq, true_and, and_true, Option.isSome_some, Option.map_some, List.getElem?_toArray, List.getElem?_cons_zero, List.getElem?_cons_succ, List.size_toArray, List.length_cons, List.length_nil, List.setIfInBounds_toArray, List.set_cons_zero, List.set_cons_succ, List.getD_cons_zero, List.getD_cons_succ, Nat.zero_add, Nat.add_zero, Nat.reduceAdd, Bool.not_true, Bool.not_false, ne_eq, not_true_eq_false, not_false_eq_true, reduceCtorEq, decide_true, decide_false, hF.ba]
      refine ixf (SlAt.ext hl hF.ext) hget fun bb o cc fr hbb q0 q1 q2 q3 => ?_
      have hld : ∀ K : Value → Prop, K (.agg (fc (p, x)).toArray) → ldW true 4 (.pointer (some ⟨bb, o, none⟩)) w7 K := by
        intro K hk
        simp (disch := omega) only [Bool.and_true, Bool.and_false, Bool.true_and, Bool.false_and, Bool.or_true, Bool.or_false, Bool.true_or, Bool.false_or, put_nil, put_map, put_int, put_str, put_bool, put_ptr, put_slice, Nat.lt_add_one, Nat.zero_lt_succ, Nat.reduceLT, bin_add, bin_sub, bin_mul, bin_quo, bin_rem, bin_eql, bin_neq, bin_lss, bin_leq, bin_gtr, bin_geq, bin_sadd, bin_seq, bin_sne, bin_slt, bin_sgt, bin_sge, bin_sle, nil_ptr, fld_ptr, ld_one, ld_agg, st_int, st_bool, st_str, st_slice, st_ptr, st_map, st_agg, stc_nil, stc_cons, one_int, one_bool, one_str, one_slice, one_ptr, one_map, ext_tuple, ixa_slice, ixa_arr, ixs_str, lens_str, lenl_sl, un_not, un_neg, cvt_int, min_int, max_int, alloc_go, box_agg, box_int, box_bool, box_str, box_slice, box_ptr, box_map, bd_none, bd_some, sls_str, sll_sl, isB_t, isB_f, cond_true, cond_false, pick_t, pick_f, pick_or, pick_and, condW_true, condW_false, cellsAt, add_mk, cell_eq, cellO_some, frozen_eq, frO_zero, heap_set_same, heap_set_other, setO_some, heap_anew, heap_aold, heap_drew, size_drew, size_set, size_alloc, exists_eq_left', Option.some.injEq, true_and, and_true, Option.isSome_some, Option.map_some, List.getElem?_toArray, List.getElem?_cons_zero, List.getElem?_cons_succ, List.size_toArray, List.length_cons, List.length_nil, List.setIfInBounds_toArray, List.set_cons_zero, List.set_cons_succ, List.getD_cons_zero, List.getD_cons_succ, Nat.zero_add, Nat.add_zero, Nat.reduceAdd, Bool.not_true, Bool.not_false, ne_eq, not_true_eq_false, not_false_eq_true, reduceCtorEq, decide_true, decide_false, hbb, q0, q1, q2, q3]
        exact hk
      refine hld _ ?_
      refine alloc_new fun d w8 hd8 hz8 hbd hx8 => ?_
      refine st_agg_at hbd rfl rfl rfl fun w9 hz9 hbd hc9 => ?_
      have hx9 : Ext w7 w9 := hx8.new hc9 (by omega)
      have hF := hF.more hx9
      have hbc := hx9.at hbc id
      have hu := hu.ext hx9
      have hbw : base ≤ w9.heap.size := by omega
      clear hc9 hx8
      simp only [Bool.and_true, Bool.and_false, Bool.true_and, Bool.false_and, Bool.or_true, Bool.or_false, Bool.true_or, Bool.false_or, put_nil, put_map, put_int, put_str, put_bool, put_ptr, put_slice, Nat.lt_add_one, Nat.zero_lt_succ, Nat.reduceLT, bin_add, bin_sub, bin_mul, bin_quo, bin_rem, bin_eql, bin_neq, bin_lss, bin_leq, bin_gtr, bin_geq, bin_sadd, bin_seq, bin_sne, bin_slt, bin_sgt, bin_sge, bin_sle, nil_ptr, fld_ptr, ld_one, one_int, one_bool, one_str, one_slice, one_ptr, one_map, ext_tuple, ixa_slice, ixa_arr, ixs_str, lens_str, lenl_sl, un_not, un_neg, cvt_int, min_int, max_int, bd_none, bd_some, sls_str, sll_sl, isB_t, isB_f, cond_true, cond_false, pick_t, pick_f, pick_or, pick_and, condW_true, condW_false, add_mk, cell_eq, cellO_some, frozen_eq, frO_zero, setO_some, heap_drew, size_drew, size_set, size_alloc, exists_eq_left', Option.some.injEq, true_and, and_true, Option.isSome_some, Option.map_some, List.getElem?_toArray, List.getElem?_cons_zero, List.getElem?_cons_succ, List.size_toArray, List.length_cons, List.length_nil, List.setIfInBounds_toArray, List.set_cons_zero, List.set_cons_succ, List.getD_cons_zero, List.getD_cons_succ, Nat.zero_add, Nat.add_zero, Nat.reduceAdd, Bool.not_true, Bool.not_false, ne_eq, not_true_eq_false, not_false_eq_true, reduceCtorEq, decide_true, decide_false, hbd]
      refine GdW.meet [bif x.saved then .bool (decide (x.safe = x.data)) else undef] (fun h => ?_) (fun h => ?_) (fun g => ?_)
      · have h : x.saved = true := by simpa [isB] using h
        rw [h]; exact ⟨rfl, rfl⟩
      · have h : x.saved = false := by simpa [isB] using h
        rw [h]; rfl
      have hpick : ∀ K : Value → Prop, K (.bool (sureM x)) → pickW (.bool x.saved) ([bif x.saved then .bool (decide (x.safe = x.data)) else undef].getD 0 undef) (.bool false) K := by
        intro K hk
        unfold sureM at hk
        cases hh : x.saved <;> (rw [hh] at hk; simpa [pickW] using hk)
      refine hpick _ ?_
      clear hpick
      cases hsu : sureM x with
      | true =>
        simp only [Bool.and_true, Bool.and_false, Bool.true_and, Bool.false_and, Bool.or_true, Bool.or_false, Bool.true_or, Bool.false_or, put_nil, put_map, put_int, put_str, put_bool, put_ptr, put_slice, Nat.lt_add_one, Nat.zero_lt_succ, Nat.reduceLT, bin_add, bin_sub, bin_mul, bin_quo, bin_rem, bin_eql, bin_neq, bin_lss, bin_leq, bin_gtr, bin_geq, bin_sadd, bin_seq, bin_sne, bin_slt, bin_sgt, bin_sge, bin_sle, nil_ptr, fld_ptr, ld_one, one_int, one_bool, one_str, one_slice, one_ptr, one_map, ext_tuple, ixa_slice, ixa_arr, ixs_str, lens_str, lenl_sl, un_not, un_neg, cvt_int, min_int, max_int, bd_none, bd_some, sls_str, sll_sl, isB_t, isB_f, cond_true, cond_false, pick_t, pick_f, pick_or, pick_and, condW_true, condW_false, add_mk, cell_eq, cellO_some, frozen_eq, frO_zero, setO_some, heap_drew, size_drew, size_set, size_alloc, exists_eq_left', Option.some.injEq, true_and, and_true, Option.isSome_some, Option.map_some, List.getElem?_toArray, List.getElem?_cons_zero, List.getElem?_cons_succ, List.size_toArray, List.length_cons, List.length_nil, List.setIfInBounds_toArray, List.set_cons_zero, List.set_cons_succ, List.getD_cons_zero, List.getD_cons_succ, Nat.zero_add, Nat.add_zero, Nat.reduceAdd, Bool.not_true, Bool.not_false, ne_eq, not_true_eq_false, not_false_eq_true, reduceCtorEq, decide_true, decide_false, hbc]
        refine ld_all (l := fc (p, x)) hbd rfl ?_
        refine put_whole rfl rfl ?_
        refine hap (p, x) u out w9 _ hF hbc hbw hol hu fun u' w10 hF hbc hbw hu' => ?_
        have hcr : crash1 keep x kk = (some x, kk) := by unfold crash1; rw [if_pos hsu, ← sure_eq hsu]
        rw [hcr]
        exact ⟨u', rfl, hF, hbc, hbw, hu'⟩
      | false =>
        simp only [Bool.and_true, Bool.and_false, Bool.true_and, Bool.false_and, Bool.or_true, Bool.or_false, Bool.true_or, Bool.false_or, put_nil, put_map, put_int, put_str, put_bool, put_ptr, put_slice, Nat.lt_add_one, Nat.zero_lt_succ, Nat.reduceLT, bin_add, bin_sub, bin_mul, bin_quo, bin_rem, bin_eql, bin_neq, bin_lss, bin_leq, bin_gtr, bin_geq, bin_sadd, bin_seq, bin_sne, bin_slt, bin_sgt, bin_sge, bin_sle, nil_ptr, fld_ptr, ld_one, one_int, one_bool, one_str, one_slice, one_ptr, one_map, ext_tuple, ixa_slice, ixa_arr, ixs_str, lens_str, lenl_sl, un_not, un_neg, cvt_int, min_int, max_int, bd_none, bd_some, sls_str, sll_sl, isB_t, isB_f, cond_true, cond_false, pick_t, pick_f, pick_or, pick_and, condW_true, condW_false, add_mk, cell_eq, cellO_some, frozen_eq, frO_zero, setO_some, heap_drew, size_drew, size_set, size_alloc, exists_eq_left', Option.some.injEq, true_and, and_true, Option.isSome_some, Option.map_some, List.getElem?_toArray, List.getElem?_cons_zero, List.getElem?_cons_succ, List.size_toArray, List.length_cons, List.length_nil, List.setIfInBounds_toArray, List.set_cons_zero, List.set_cons_succ, List.getD_cons_zero, List.getD_cons_succ, Nat.zero_add, Nat.add_zero, Nat.reduceAdd, Bool.not_true, Bool.not_false, ne_eq, not_true_eq_false, not_false_eq_true, reduceCtorEq, decide_true, decide_false]
        refine JoinW.cut (fun s10 w' => s10 = [i64 (keepAt keep kk)] ∧ w' = w9) ?_ ?_
        · rw [lenl_at (hk.ext hF.ext)]
          simp only [Bool.and_true, Bool.and_false, Bool.true_and, Bool.false_and, Bool.or_true, Bool.or_false, Bool.true_or, Bool.false_or, put_nil, put_map, put_int, put_str, put_bool, put_ptr, put_slice, Nat.lt_add_one, Nat.zero_lt_succ, Nat.reduceLT, bin_add, bin_sub, bin_mul, bin_quo, bin_rem, bin_eql, bin_neq, bin_lss, bin_leq, bin_gtr, bin_geq, bin_sadd, bin_seq, bin_sne, bin_slt, bin_sgt, bin_sge, bin_sle, nil_ptr, fld_ptr, ld_one, one_int, one_bool, one_str, one_slice, one_ptr, one_map, ext_tuple, ixa_slice, ixa_arr, ixs_str, lens_str, lenl_sl, un_not, un_neg, cvt_int, min_int, max_int, bd_none, bd_some, sls_str, sll_sl, isB_t, isB_f, cond_true, cond_false, pick_t, pick_f, pick_or, pick_and, condW_true, condW_false, add_mk, cell_eq, cellO_some, frozen_eq, frO_zero, setO_some, heap_drew, size_drew, size_set, size_alloc, exists_eq_left', Option.some.injEq, true_and, and_true, Option.isSome_some, Option.map_some, List.getElem?_toArray, List.getElem?_cons_zero, List.getElem?_cons_succ, List.size_toArray, List.length_cons, List.length_nil, List.setIfInBounds_toArray, List.set_cons_zero, List.set_cons_succ, List.getD_cons_zero, List.getD_cons_succ, Nat.zero_add, Nat.add_zero, Nat.reduceAdd, Bool.not_true, Bool.not_false, ne_eq, not_true_eq_false, not_false_eq_true, reduceCtorEq, decide_true, decide_false, condW_dec]
          refine ⟨fun hlt => ?_, fun hge => ?_⟩
          · have hlt : kk < keep.length := by omega
            refine ixa_ld (hk.ext hF.ext) (by simp) (x := i64 (keepAt keep kk)) (by simp [keepAt, hlt]) ?_
            first | rfl | exact ⟨rfl, rfl⟩
          · have : keepAt keep kk = 0 := by unfold keepAt; rw [List.getD_eq_getElem?_getD, List.getElem?_eq_none (by omega)]; rfl
            simp [this]
        · rintro s10 g10 w11 ⟨rfl, rfl⟩
          have hwr : IntKind.i64.wrap ((kk : Int) + 1) = ((kk + 1 : Nat) : Int) := by rw [wrap_id (by omega) (by omega)]; simp
          simp only [Bool.and_true, Bool.and_false, Bool.true_and, Bool.false_and, Bool.or_true, Bool.or_false, Bool.true_or, Bool.false_or, put_nil, put_map, put_int, put_str, put_bool, put_ptr, put_slice, Nat.lt_add_one, Nat.zero_lt_succ, Nat.reduceLT, bin_add, bin_sub, bin_mul, bin_quo, bin_rem, bin_eql, bin_neq, bin_lss, bin_leq, bin_gtr, bin_geq, bin_sadd, bin_seq, bin_sne, bin_slt, bin_sgt, bin_sge, bin_sle, nil_ptr, fld_ptr, ld_one, one_int, one_bool, one_str, one_slice, one_ptr, one_map, ext_tuple, ixa_slice, ixa_arr, ixs_str, lens_str, lenl_sl, un_not, un_neg, cvt_int, min_int, max_int, bd_none, bd_some, sls_str, sll_sl, isB_t, isB_f, cond_true, cond_false, pick_t, pick_f, pick_or, pick_and, condW_true, condW_false, add_mk, cell_eq, cellO_some, frozen_eq, frO_zero, setO_some, heap_drew, size_drew, size_set, size_alloc, exists_eq_left', Option.some.injEq, true_and, and_true, Option.isSome_some, Option.map_some, List.getElem?_toArray, List.getElem?_cons_zero, List.getElem?_cons_succ, List.size_toArray, List.length_cons, List.length_nil, List.setIfInBounds_toArray, List.set_cons_zero, List.set_cons_succ, List.getD_cons_zero, List.getD_cons_succ, Nat.zero_add, Nat.add_zero, Nat.reduceAdd, Bool.not_true, Bool.not_false, ne_eq, not_true_eq_false, not_false_eq_true, reduceCtorEq, decide_true, decide_false, condW_dec, hbd, hbc, hwr]
          refine ⟨fun h1 => ?_, fun h1 => ?_⟩
          · have hmn : (if (x.data.length : Int) < keepAt keep kk then (x.data.length : Int) else keepAt keep kk) = ((min (keepAt keep kk).toNat x.data.length : Nat) : Int) := by
              split <;> omega
            rw [hmn]
            refine ⟨by omega, by omega, ?_⟩
            have htk : List.drop 0 (List.take ((min (keepAt keep kk).toNat x.data.length : Nat) : Int).toNat x.data) = x.data.take (keepAt keep kk).toNat := by
              rw [List.drop_zero, Int.toNat_natCast, List.take_eq_take_iff]; simp
            (try rw [htk])
            (try simp only [Bool.and_true, Bool.and_false, Bool.true_and, Bool.false_and, Bool.or_true, Bool.or_false, Bool.true_or, Bool.false_or, put_nil, put_map, put_int, put_str, put_bool, put_ptr, put_slice, Nat.lt_add_one, Nat.zero_lt_succ, Nat.reduceLT, bin_add, bin_sub, bin_mul, bin_quo, bin_rem, bin_eql, bin_neq, bin_lss, bin_leq, bin_gtr, bin_geq, bin_sadd, bin_seq, bin_sne, bin_slt, bin_sgt, bin_sge, bin_sle, nil_ptr, fld_ptr, ld_one, one_int, one_bool, one_str, one_slice, one_ptr, one_map, ext_tuple, ixa_slice, ixa_arr, ixs_str, lens_str, lenl_sl, un_not, un_neg, cvt_int, min_int, max_int, bd_none, bd_some, sls_str, sll_sl, isB_t, isB_f, cond_true, cond_false, pick_t, pick_f, pick_or, pick_and, condW_true, condW_false, add_mk, cell_eq, cellO_some, frozen_eq, frO_zero, setO_some, heap_drew, size_drew, size_set, size_alloc, exists_eq_left', Option.some.injEq, true_and, and_true, Option.isSome_some, Option.map_some, List.getElem?_toArray, List.getElem?_cons_zero, List.getElem?_cons_succ, List.size_toArray, List.length_cons, List.length_nil, List.setIfInBounds_toArray, List.set_cons_zero, List.set_cons_succ, List.getD_cons_zero, List.getD_cons_succ, Nat.zero_add, Nat.add_zero, Nat.reduceAdd, Bool.not_true, Bool.not_false, ne_eq, not_true_eq_false, not_false_eq_true, reduceCtorEq, decide_true, decide_false])
            refine put_whole rfl rfl ?_
            refine hap (p, ⟨x.data.take (keepAt keep kk).toNat, x.data.take (keepAt keep kk).toNat, true⟩) u out w11 _ hF hbc hbw hol hu fun u' w10 hF hbc hbw hu' => ?_
            have hcr : crash1 keep x kk = (some ⟨x.data.take (keepAt keep kk).toNat, x.data.take (keepAt keep kk).toNat, true⟩, kk + 1) := by simp [crash1, hsu, h1]
            rw [hcr]
            exact ⟨u', rfl, hF, hbc, hbw, hu'⟩
          · cases hsa : x.saved with
            | true =>
              (try simp only [Bool.and_true, Bool.and_false, Bool.true_and, Bool.false_and, Bool.or_true, Bool.or_false, Bool.true_or, Bool.false_or, put_nil, put_map, put_int, put_str, put_bool, put_ptr, put_slice, Nat.lt_add_one, Nat.zero_lt_succ, Nat.reduceLT, bin_add, bin_sub, bin_mul, bin_quo, bin_rem, bin_eql, bin_neq, bin_lss, bin_leq, bin_gtr, bin_geq, bin_sadd, bin_seq, bin_sne, bin_slt, bin_sgt, bin_sge, bin_sle, nil_ptr, fld_ptr, ld_one, one_int, one_bool, one_str, one_slice, one_ptr, one_map, ext_tuple, ixa_slice, ixa_arr, ixs_str, lens_str, lenl_sl, un_not, un_neg, cvt_int, min_int, max_int, bd_none, bd_some, sls_str, sll_sl, isB_t, isB_f, cond_true, cond_false, pick_t, pick_f, pick_or, pick_and, condW_true, condW_false, add_mk, cell_eq, cellO_some, frozen_eq, frO_zero, setO_some, heap_drew, size_drew, size_set, size_alloc, exists_eq_left', Option.some.injEq, true_and, and_true, Option.isSome_some, Option.map_some, List.getElem?_toArray, List.getElem?_cons_zero, List.getElem?_cons_succ, List.size_toArray, List.length_cons, List.length_nil, List.setIfInBounds_toArray, List.set_cons_zero, List.set_cons_succ, List.getD_cons_zero, List.getD_cons_succ, Nat.zero_add, Nat.add_zero, Nat.reduceAdd, Bool.not_true, Bool.not_false, ne_eq, not_true_eq_false, not_false_eq_true, reduceCtorEq, decide_true, decide_false])
              refine put_whole rfl rfl ?_
              refine hap (p, ⟨x.safe, x.safe, true⟩) u out w11 _ hF hbc hbw hol hu fun u' w10 hF hbc hbw hu' => ?_
              have hcr : crash1 keep x kk = (some ⟨x.safe, x.safe, true⟩, kk + 1) := by simp [crash1, hsu, h1, hsa]
              rw [hcr]
              exact ⟨u', rfl, hF, hbc, hbw, hu'⟩
            | false =>
              (try simp only [Bool.and_true, Bool.and_false, Bool.true_and, Bool.false_and, Bool.or_true, Bool.or_false, Bool.true_or, Bool.false_or, put_nil, put_map, put_int, put_str, put_bool, put_ptr, put_slice, Nat.lt_add_one, Nat.zero_lt_succ, Nat.reduceLT, bin_add, bin_sub, bin_mul, bin_quo, bin_rem, bin_eql, bin_neq, bin_lss, bin_leq, bin_gtr, bin_geq, bin_sadd, bin_seq, bin_sne, bin_slt, bin_sgt, bin_sge, bin_sle, nil_ptr, fld_ptr, ld_one, one_int, one_bool, one_str, one_slice, one_ptr, one_map, ext_tuple, ixa_slice, ixa_arr, ixs_str, lens_str, lenl_sl, un_not, un_neg, cvt_int, min_int, max_int, bd_none, bd_some, sls_str, sll_sl, isB_t, isB_f, cond_true, cond_false, pick_t, pick_f, pick_or, pick_and, condW_true, condW_false, add_mk, cell_eq, cellO_some, frozen_eq, frO_zero, setO_some, heap_drew, size_drew, size_set, size_alloc, exists_eq_left', Option.some.injEq, true_and, and_true, Option.isSome_some, Option.map_some, List.getElem?_toArray, List.getElem?_cons_zero, List.getElem?_cons_succ, List.size_toArray, List.length_cons, List.length_nil, List.setIfInBounds_toArray, List.set_cons_zero, List.set_cons_succ, List.getD_cons_zero, List.getD_cons_succ, Nat.zero_add, Nat.add_zero, Nat.reduceAdd, Bool.not_true, Bool.not_false, ne_eq, not_true_eq_false, not_false_eq_true, reduceCtorEq, decide_true, decide_false])
              have hcr : crash1 keep x kk = (none, kk + 1) := by simp [crash1, hsu, h1, hsa]
              rw [hcr]
              (try rw [hbc])
              exact ⟨u, rfl, hF, rfl, hbw, by simpa [one] using hu⟩
    · rintro s8 g8 w8 ⟨u', rfl, hF, hbc, hbw, hu'⟩
      have hw : IntKind.i64.wrap ((i : Int) + 1) = ((i + 1 : Nat) : Int) := by rw [wrap_id (by omega) (by omega)]; simp
      simp only [Bool.and_true, Bool.and_false, Bool.true_and, Bool.false_and, Bool.or_true, Bool.or_false, Bool.true_or, Bool.false_or, put_nil, put_map, put_int, put_str, put_bool, put_ptr, put_slice, Nat.lt_add_one, Nat.zero_lt_succ, Nat.reduceLT, bin_add, bin_sub, bin_mul, bin_quo, bin_rem, bin_eql, bin_neq, bin_lss, bin_leq, bin_gtr, bin_geq, bin_sadd, bin_seq, bin_sne, bin_slt, bin_sgt, bin_sge, bin_sle, nil_ptr, fld_ptr, ld_one, one_int, one_bool, one_str, one_slice, one_ptr, one_map, ext_tuple, ixa_slice, ixa_arr, ixs_str, lens_str, lenl_sl, un_not, un_neg, cvt_int, min_int, max_int, bd_none, bd_some, sls_str, sll_sl, isB_t, isB_f, cond_true, cond_false, pick_t, pick_f, pick_or, pick_and, condW_true, condW_false, add_mk, cell_eq, cellO_some, frozen_eq, frO_zero, setO_some, heap_drew, size_drew, size_set, size_alloc, exists_eq_left', Option.some.injEq, true_and, and_true, Option.isSome_some, Option.map_some, List.getElem?_toArray, List.getElem?_cons_zero, List.getElem?_cons_succ, List.size_toArray, List.length_cons, List.length_nil, List.setIfInBounds_toArray, List.set_cons_zero, List.set_cons_succ, List.getD_cons_zero, List.getD_cons_succ, Nat.zero_add, Nat.add_zero, Nat.reduceAdd, Bool.not_true, Bool.not_false, ne_eq, not_true_eq_false, not_false_eq_true, reduceCtorEq, decide_true, decide_false, hw]
      rw [← hcN] at hu'
      exact ⟨⟨i + 1, u', by omega, by rw [hkN], hF, hbc, hbw, hu'⟩, by simp only [Int.toNat_natCast]; omega⟩
  · rw [List.take_of_length_le (by omega)] at hu
    refine ld_all (l := [u, i64 0, i64 (-1), .bool false]) hbc rfl ?_
    obtain ⟨up, uc, rfl, _⟩ := hu.sl.shape
    refine ret_agg hF.bb rfl rfl rfl fun w8 hc8 => ?_
    refine hK _ _ ⟨up, uc, rfl, ?_⟩ (hF.ext.new hc8 hF.gb)
    exact sl_keep hu.sl hF.bb hc8
end Go.Proofs.Ytcefidpmlnfheaa
