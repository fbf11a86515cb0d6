/- One plain sentence: what Crash leaves is the document's. Conditions: those that each states. -/
import Derived.Test.YtcefidpmlnfheaaVSpec4
set_option linter.all false
set_option linter.unusedSimpArgs false
set_option linter.unusedVariables false
set_option linter.unusedSectionVars false
namespace Go.Proofs.Ytcefidpmlnfheaa
open Go Go.Eng Go.Vfs
set_option maxRecDepth 100000

theorem addr_zero (a : Addr) : a.add 0 = a := by
  unfold Addr.add
  simp

theorem sl_off0 (p : Option Addr) (c : Nat) : (if c = 0 then p else Option.map (fun x => x.add (0 * 1)) p) = p := by
  cases p with
  | none => simp
  | some a => simp [addr_zero]
/-- v[:h] -/
theorem sl_pre {w : World} {T : TypeId} {p : Option Addr} {n h cap : Nat} {cs : List Value} (hsl : SlAt w T (.slice p n cap) n cs) (hl : cs.length = n) (hh : h ≤ n) : SlAt w T (.slice p h cap) h (cs.take h) ∧ n ≤ cap := by
  obtain ⟨p', cap', e, h1, h2, h3⟩ := hsl
  cases e
  refine ⟨⟨p, cap, rfl, by omega, fun e => ⟨by have := (h2 e).1; omega, (h2 e).2⟩, fun hne => ?_⟩, h1⟩
  obtain ⟨b, off, c, fr, e1, e2, e3⟩ := h3 (fun e => hne (by rw [e]; simp))
  refine ⟨b, off, c, fr, e1, e2, fun i hi => ?_⟩
  rw [List.length_take] at hi
  rw [e3 i (by omega), List.getElem?_take_of_lt (by omega)]

def crash1 (keep : List Int) (x : MF) (k : Nat) : Option MF × Nat :=
  if sureM x = true then (some ⟨x.safe, x.safe, true⟩, k)
  else if 1 ≤ keepAt keep k then (some ⟨x.data.take (keepAt keep k).toNat, x.data.take (keepAt keep k).toNat, true⟩, k + 1)
  else if x.saved = true then (some ⟨x.safe, x.safe, true⟩, k + 1)
  else (none, k + 1)
def kAft (keep : List Int) : Files → Nat → Nat
  | [], k => k
  | (_, x) :: r, k => kAft keep r (crash1 keep x k).2
def one (p : Str) : Option MF → Files
  | some y => [(p, y)]
  | none => []
theorem sure_eq {x : MF} (h : sureM x = true) : x = ⟨x.safe, x.safe, true⟩ := by
  obtain ⟨d, s, v⟩ := x
  simp only [sureM, Bool.and_eq_true, decide_eq_true_eq] at h
  obtain ⟨rfl, rfl⟩ := h
  rfl
theorem crash_cons (keep : List Int) (p : Str) (x : MF) (r : Files) (k : Nat) : crashL keep ((p, x) :: r) k = one p (crash1 keep x k).1 ++ crashL keep r (crash1 keep x k).2 := by
  simp only [crashL, crash1]
  split
  · rename_i h
    have := sure_eq h
    simp only [one]
    rw [← this]
    rfl
  · split
    · rfl
    · split <;> rfl
theorem crash_app (keep : List Int) : ∀ (a b : Files) (k : Nat), crashL keep (a ++ b) k = crashL keep a k ++ crashL keep b (kAft keep a k)
  | [], _, _ => rfl
  | (p, x) :: r, b, k => by rw [List.cons_append, crash_cons, crash_cons, crash_app keep r b, List.append_assoc]; rfl
theorem kAft_app (keep : List Int) : ∀ (a b : Files) (k : Nat), kAft keep (a ++ b) k = kAft keep b (kAft keep a k)
  | [], _, _ => rfl
  | (p, x) :: r, b, k => by rw [List.cons_append]; exact kAft_app keep r b _
theorem crash1_le (keep : List Int) (x : MF) (k : Nat) : (crash1 keep x k).2 ≤ k + 1 := by
  unfold crash1; (repeat' split) <;> simp
theorem kAft_le (keep : List Int) : ∀ (a : Files) (k : Nat), kAft keep a k ≤ k + a.length
  | [], _ => Nat.le_refl _
  | (_, x) :: r, k => by have h1 := crash1_le keep x k; have h2 := kAft_le keep r (crash1 keep x k).2; simp only [kAft, List.length_cons]; omega

theorem wo_id {l : Files} {p : Str} (h : p ∉ l.map (·.1)) : wo l p = l := by
  induction l with
  | nil => rfl
  | cons y r ih =>
    obtain ⟨k, x⟩ := y
    have hpk : k ≠ p := fun e => h (by simp [e])
    simp only [wo, if_neg hpk]
    rw [ih (fun e => h (by simp [e]))]
theorem less_asymm {a b : Str} (h : Op.bytesLess a b = true) : Op.bytesLess b a = false := by
  cases hb : Op.bytesLess b a with
  | false => rfl
  | true => have := less_trans h hb; rw [less_irrefl] at this; cases this
theorem ins_last {l : Files} {p : Str} {x : MF} (h : ∀ y ∈ l, Op.bytesLess y.1 p = true) : ins l p x = l ++ [(p, x)] := by
  induction l with
  | nil => rfl
  | cons y r ih =>
    obtain ⟨k, u⟩ := y
    have hk : Op.bytesLess p k = false := less_asymm (h _ List.mem_cons_self)
    simp only [ins, hk, Bool.false_eq_true, if_false, List.cons_append]
    rw [ih (fun z hz => h z (List.mem_cons_of_mem _ hz))]
theorem wth_last {l : Files} {p : Str} {x : MF} (h : ∀ y ∈ l, Op.bytesLess y.1 p = true) : wth l p x = l ++ [(p, x)] := by
  unfold wth
  rw [wo_id, ins_last h]
  intro hm
  obtain ⟨y, hy, rfl⟩ := List.mem_map.1 hm
  have := h y hy
  rw [less_irrefl] at this
  cases this
/-- what stands ahead in a rising list is less -/
theorem srt_ahead {l : Files} (hs : Srt l) {i : Nat} {p : Str} {x : MF} (hi : l[i]? = some (p, x)) : ∀ y ∈ l.take i, Op.bytesLess y.1 p = true := by
  intro y hy
  have h1 : l = l.take i ++ l.drop i := (List.take_append_drop i l).symm
  unfold Srt at hs
  rw [h1, List.map_append] at hs
  refine (List.pairwise_append.1 hs).2.2 y.1 (List.mem_map_of_mem hy) p ?_
  have : (p, x) ∈ l.drop i := by
    refine List.mem_of_getElem? (i := 0) ?_
    rw [List.getElem?_drop]; exact hi
  exact List.mem_map.2 ⟨_, this, rfl⟩
theorem crash_ahead (keep : List Int) {l : Files} (hs : Srt l) {i : Nat} {p : Str} {x : MF} (hi : l[i]? = some (p, x)) : ∀ y ∈ crashL keep (l.take i) 0, Op.bytesLess y.1 p = true := by
  intro y hy
  have := (crash_keys keep (l.take i) 0).subset (List.mem_map_of_mem hy)
  obtain ⟨z, hz, e⟩ := List.mem_map.1 this
  rw [← e]
  exact srt_ahead hs hi z hz

theorem sure_len {s : MS} (h : Ok s) {p : Str} {x : MF} (hx : (p, x) ∈ s.files) (keep : List Int) (k : Nat) {y : MF} {k' : Nat} (hy : crash1 keep x k = (some y, k')) : y.data.length ≤ 65536 := by
  have := h.each _ hx
  simp only at this
  unfold crash1 at hy
  split at hy
  · cases hy; exact this.2.2
  · split at hy
    · cases hy; exact Nat.le_trans (by rw [List.length_take]; exact Nat.min_le_right _ _) this.2.1
    · split at hy
      · cases hy; exact this.2.2
      · cases hy

theorem crash_fs {b m : Nat} {s : MS} {kv : Value} {keep : List Int} {T : TypeId} {w : World} {K : Value → World → Prop} (h : FsB w b m s) (hs : Ok s) (hk : SlAt w T kv keep.length (keep.map i64))
    (hK : ∀ b2 m2 w', FsB w' b2 m2 (crashM s keep) → Ext w w' → w.heap.size ≤ b2 → w.heap.size ≤ m2 → K (.pointer (some ⟨b2, 0, none⟩)) w') : callF Try.prog 16 [.pointer (some ⟨b, 0, none⟩), kv] w K := by
  refine W16_ok ?_
  unfold W16
  refine new_fs fun b2 m2 w1 hf2 hx1 hb2 hm2 => ?_
  refine paths_fs (h.ext hx1) hs fun pv w2 hpv hx2 => ?_
  have hx12 := hx1.trans hx2
  rw [lenl_at hpv]
  have h64 := hs.few
  refine LoopW.go (fun st w' => ∃ i, i ≤ s.files.length ∧ st = [i64 (kAft keep (s.files.take i) 0), i64 i] ∧ FsB w' b2 m2 { newM with files := crashL keep (s.files.take i) 0 } ∧ Ext w w' ∧ Chg (fun k => k = b2 ∨ k = m2) w2 w')
    (fun st _ => match st with | [_, .int _ i] => s.files.length - i.toNat | _ => 0) ?_ ?_
  · exact ⟨0, Nat.zero_le _, rfl, hf2.ext hx2, hx12, Chg.refl _ _⟩
  · rintro st g w4 ⟨i, hi, rfl, hf4, hx4, hc4⟩
    have hpv4 : SlAt w4 9 pv s.files.length (s.files.map fun x => str x.1) := by
      refine hpv.chg hc4 ?_
      rintro k c fr (rfl | rfl) e
      · have := (hf2.ext hx2).blk; rw [e] at this; cases this
      · obtain ⟨A, ⟨es, cl, hm, _⟩, _⟩ := (hf2.ext hx2).fil; rw [e] at hm; cases hm
    have hf1 := h.ext hx4
    have hfb := hf1.blk
    have hk4 := hk.ext hx4
    simp (disch := omega) only [Bool.and_true, Bool.and_false, Bool.true_and, Bool.false_and, Bool.or_true, Bool.or_false, Bool.true_or, Bool.false_or, put_nil, put_map, put_int, put_str, put_bool, put_ptr, put_slice, Nat.lt_add_one, Nat.zero_lt_succ, Nat.reduceLT, bin_add, bin_sub, bin_mul, bin_quo, bin_rem, bin_eql, bin_neq, bin_lss, bin_leq, bin_gtr, bin_geq, bin_sadd, bin_seq, bin_sne, bin_slt, bin_sgt, bin_sge, bin_sle, nil_ptr, fld_ptr, ld_one, ld_agg, st_int, st_bool, st_str, st_slice, st_ptr, st_map, st_agg, stc_nil, stc_cons, one_int, one_bool, one_str, one_slice, one_ptr, one_map, ext_tuple, ixa_slice, ixa_arr, ixs_str, lens_str, lenl_sl, un_not, un_neg, cvt_int, min_int, max_int, alloc_go, box_agg, box_int, box_bool, box_str, box_slice, box_ptr, box_map, bd_none, bd_some, sls_str, sll_sl, isB_t, isB_f, cond_true, cond_false, pick_t, pick_f, pick_or, pick_and, condW_true, condW_false, cellsAt, add_mk, cell_eq, cellO_some, frozen_eq, frO_zero, heap_set_same, heap_set_other, setO_some, heap_anew, heap_aold, heap_drew, size_drew, size_set, size_alloc, exists_eq_left', Option.some.injEq, true_and, and_true, Option.isSome_some, Option.map_some, List.getElem?_toArray, List.getElem?_cons_zero, List.getElem?_cons_succ, List.size_toArray, List.length_cons, List.length_nil, List.setIfInBounds_toArray, List.set_cons_zero, List.set_cons_succ, List.getD_cons_zero, List.getD_cons_succ, Nat.zero_add, Nat.add_zero, Nat.reduceAdd, Bool.not_true, Bool.not_false, ne_eq, not_true_eq_false, not_false_eq_true, reduceCtorEq, decide_true, decide_false, condW_dec]
    refine ⟨fun hlt => ?_, fun hge => ?_⟩
    · have hlt : i < s.files.length := by omega
      obtain ⟨⟨p, x⟩, hget⟩ : ∃ y, s.files[i]? = some y := ⟨_, List.getElem?_eq_getElem hlt⟩
      have hmem : (p, x) ∈ s.files := List.mem_of_getElem? hget
      have hlk : lkM s.files p = some x := mem_lk hs.srt hmem
      have htake : s.files.take (i + 1) = s.files.take i ++ [(p, x)] := by rw [List.take_add_one, hget]; rfl
      have hkA : kAft keep (s.files.take i) 0 ≤ 64 := by have := kAft_le keep (s.files.take i) 0; rw [List.length_take] at this; omega
      have hkN : kAft keep (s.files.take (i + 1)) 0 = (crash1 keep x (kAft keep (s.files.take i) 0)).2 := by rw [htake, kAft_app]; rfl
      have hcN : crashL keep (s.files.take (i + 1)) 0 = crashL keep (s.files.take i) 0 ++ one p (crash1 keep x (kAft keep (s.files.take i) 0)).1 := by
        rw [htake, crash_app, crash_cons]; simp [crashL]
      have hahead := crash_ahead keep hs.srt hget
      generalize hkk : kAft keep (s.files.take i) 0 = kk at *
      refine JoinW.cut (fun s5 w' => s5 = [i64 (crash1 keep x kk).2] ∧ FsB w' b2 m2 { newM with files := crashL keep (s.files.take (i + 1)) 0 } ∧ Chg (fun k => k = b2 ∨ k = m2) w4 w') ?_ ?_
      · refine ixa_ld hpv4 (by simp) (x := str p) (by simp [hget]) ?_
        simp (disch := omega) only [Bool.and_true, Bool.and_false, Bool.true_and, Bool.false_and, Bool.or_true, Bool.or_false, Bool.true_or, Bool.false_or, put_nil, put_map, put_int, put_str, put_bool, put_ptr, put_slice, Nat.lt_add_one, Nat.zero_lt_succ, Nat.reduceLT, bin_add, bin_sub, bin_mul, bin_quo, bin_rem, bin_eql, bin_neq, bin_lss, bin_leq, bin_gtr, bin_geq, bin_sadd, bin_seq, bin_sne, bin_slt, bin_sgt, bin_sge, bin_sle, nil_ptr, fld_ptr, ld_one, ld_agg, st_int, st_bool, st_str, st_slice, st_ptr, st_map, st_agg, stc_nil, stc_cons, one_int, one_bool, one_str, one_slice, one_ptr, one_map, ext_tuple, ixa_slice, ixa_arr, ixs_str, lens_str, lenl_sl, un_not, un_neg, cvt_int, min_int, max_int, alloc_go, box_agg, box_int, box_bool, box_str, box_slice, box_ptr, box_map, bd_none, bd_some, sls_str, sll_sl, isB_t, isB_f, cond_true, cond_false, pick_t, pick_f, pick_or, pick_and, condW_true, condW_false, cellsAt, add_mk, cell_eq, cellO_some, frozen_eq, frO_zero, heap_set_same, heap_set_other, setO_some, heap_anew, heap_aold, heap_drew, size_drew, size_set, size_alloc, exists_eq_left', Option.some.injEq, true_and, and_true, Option.isSome_some, Option.map_some, List.getElem?_toArray, List.getElem?_cons_zero, List.getElem?_cons_succ, List.size_toArray, List.length_cons, List.length_nil, List.setIfInBounds_toArray, List.set_cons_zero, List.set_cons_succ, List.getD_cons_zero, List.getD_cons_succ, Nat.zero_add, Nat.add_zero, Nat.reduceAdd, Bool.not_true, Bool.not_false, ne_eq, not_true_eq_false, not_false_eq_true, reduceCtorEq, decide_true, decide_false, hfb]
        refine look_fs1 hf1 fun v hv => ?_
        rw [hlk] at hv
        simp only [Option.getD_some] at hv
        have hv0 := hv
        obtain ⟨dp, dc, sp, sc, rfl, hv1, hv2⟩ := hv
        simp (disch := omega) only [Bool.and_true, Bool.and_false, Bool.true_and, Bool.false_and, Bool.or_true, Bool.or_false, Bool.true_or, Bool.false_or, put_nil, put_map, put_int, put_str, put_bool, put_ptr, put_slice, Nat.lt_add_one, Nat.zero_lt_succ, Nat.reduceLT, bin_add, bin_sub, bin_mul, bin_quo, bin_rem, bin_eql, bin_neq, bin_lss, bin_leq, bin_gtr, bin_geq, bin_sadd, bin_seq, bin_sne, bin_slt, bin_sgt, bin_sge, bin_sle, nil_ptr, fld_ptr, ld_one, ld_agg, st_int, st_bool, st_str, st_slice, st_ptr, st_map, st_agg, stc_nil, stc_cons, one_int, one_bool, one_str, one_slice, one_ptr, one_map, ext_tuple, ixa_slice, ixa_arr, ixs_str, lens_str, lenl_sl, un_not, un_neg, cvt_int, min_int, max_int, alloc_go, box_agg, box_int, box_bool, box_str, box_slice, box_ptr, box_map, bd_none, bd_some, sls_str, sll_sl, isB_t, isB_f, cond_true, cond_false, pick_t, pick_f, pick_or, pick_and, condW_true, condW_false, cellsAt, add_mk, cell_eq, cellO_some, frozen_eq, frO_zero, heap_set_same, heap_set_other, setO_some, heap_anew, heap_aold, heap_drew, size_drew, size_set, size_alloc, exists_eq_left', Option.some.injEq, true_and, and_true, Option.isSome_some, Option.map_some, List.getElem?_toArray, List.getElem?_cons_zero, List.getElem?_cons_succ, List.size_toArray, List.length_cons, List.length_nil, List.setIfInBounds_toArray, List.set_cons_zero, List.set_cons_succ, List.getD_cons_zero, List.getD_cons_succ, Nat.zero_add, Nat.add_zero, Nat.reduceAdd, Bool.not_true, Bool.not_false, ne_eq, not_true_eq_false, not_false_eq_true, reduceCtorEq, decide_true, decide_false, hfb]
        generalize hw7 : (World.setCell _ _ _) = w7
        have hx7 : Ext w4 w7 := by subst hw7; exact (by repeat (first | assumption | exact Chg.refl _ _ | refine Chg.drew ?_ | refine Chg.alloc ?_ _ | refine Chg.set ?_ (by first | exact .inl rfl | exact .inr (by omega) | exact .inr (by simp only [size_set, size_alloc, size_drew]; omega) | (left; simp; done)) _ | exact Chg.of_ext (by assumption)))
        have hbl : w7.heap[w4.heap.size]? = some (.cells #[.slice dp x.data.length dc, .slice sp x.safe.length sc, i64 (sv x.saved)] 69 (0, 0)) := by
          subst hw7; simp (disch := omega) only [Bool.and_true, Bool.and_false, Bool.true_and, Bool.false_and, Bool.or_true, Bool.or_false, Bool.true_or, Bool.false_or, put_nil, put_map, put_int, put_str, put_bool, put_ptr, put_slice, Nat.lt_add_one, Nat.zero_lt_succ, Nat.reduceLT, bin_add, bin_sub, bin_mul, bin_quo, bin_rem, bin_eql, bin_neq, bin_lss, bin_leq, bin_gtr, bin_geq, bin_sadd, bin_seq, bin_sne, bin_slt, bin_sgt, bin_sge, bin_sle, nil_ptr, fld_ptr, ld_one, ld_agg, st_int, st_bool, st_str, st_slice, st_ptr, st_map, st_agg, stc_nil, stc_cons, one_int, one_bool, one_str, one_slice, one_ptr, one_map, ext_tuple, ixa_slice, ixa_arr, ixs_str, lens_str, lenl_sl, un_not, un_neg, cvt_int, min_int, max_int, alloc_go, box_agg, box_int, box_bool, box_str, box_slice, box_ptr, box_map, bd_none, bd_some, sls_str, sll_sl, isB_t, isB_f, cond_true, cond_false, pick_t, pick_f, pick_or, pick_and, condW_true, condW_false, cellsAt, add_mk, cell_eq, cellO_some, frozen_eq, frO_zero, heap_set_same, heap_set_other, setO_some, heap_anew, heap_aold, heap_drew, size_drew, size_set, size_alloc, exists_eq_left', Option.some.injEq, true_and, and_true, Option.isSome_some, Option.map_some, List.getElem?_toArray, List.getElem?_cons_zero, List.getElem?_cons_succ, List.size_toArray, List.length_cons, List.length_nil, List.setIfInBounds_toArray, List.set_cons_zero, List.set_cons_succ, List.getD_cons_zero, List.getD_cons_succ, Nat.zero_add, Nat.add_zero, Nat.reduceAdd, Bool.not_true, Bool.not_false, ne_eq, not_true_eq_false, not_false_eq_true, reduceCtorEq, decide_true, decide_false, hfb]
        clear hw7
        have hl7 : w4.heap.size < w7.heap.size := (Array.getElem?_eq_some_iff.1 hbl).1
        have hwr : IntKind.i64.wrap ((kk : Int) + 1) = ((kk + 1 : Nat) : Int) := by rw [wrap_id (by omega) (by omega)]; simp
        rw [hwr]
        refine JoinW.cut (fun s8 w' => ∃ sf k' dsl ssl n, s8 = [i64 (k' : Nat)] ∧ crash1 keep x kk = (some ⟨sf, sf, true⟩, k') ∧ w'.heap[w4.heap.size]? = some (.cells #[dsl, ssl, n] 69 (0, 0)) ∧ Byt w' UT ssl sf ∧ Ext w4 w') ?_ ?_
        · refine sure_fs (x := x) ⟨dp, dc, sp, sc, rfl, hv1.ext hx7, hv2.ext hx7⟩ fun w9 hx9 => ?_
          have hbl9 : w9.heap[w4.heap.size]? = _ := (hx9.heap _ hl7 id).trans hbl
          have hx49 := hx7.trans hx9
          cases hsu : sureM x with
          | true =>
            simp (disch := omega) only [Bool.and_true, Bool.and_false, Bool.true_and, Bool.false_and, Bool.or_true, Bool.or_false, Bool.true_or, Bool.false_or, put_nil, put_map, put_int, put_str, put_bool, put_ptr, put_slice, Nat.lt_add_one, Nat.zero_lt_succ, Nat.reduceLT, bin_add, bin_sub, bin_mul, bin_quo, bin_rem, bin_eql, bin_neq, bin_lss, bin_leq, bin_gtr, bin_geq, bin_sadd, bin_seq, bin_sne, bin_slt, bin_sgt, bin_sge, bin_sle, nil_ptr, fld_ptr, ld_one, ld_agg, st_int, st_bool, st_str, st_slice, st_ptr, st_map, st_agg, stc_nil, stc_cons, one_int, one_bool, one_str, one_slice, one_ptr, one_map, ext_tuple, ixa_slice, ixa_arr, ixs_str, lens_str, lenl_sl, un_not, un_neg, cvt_int, min_int, max_int, alloc_go, box_agg, box_int, box_bool, box_str, box_slice, box_ptr, box_map, bd_none, bd_some, sls_str, sll_sl, isB_t, isB_f, cond_true, cond_false, pick_t, pick_f, pick_or, pick_and, condW_true, condW_false, cellsAt, add_mk, cell_eq, cellO_some, frozen_eq, frO_zero, heap_set_same, heap_set_other, setO_some, heap_anew, heap_aold, heap_drew, size_drew, size_set, size_alloc, exists_eq_left', Option.some.injEq, true_and, and_true, Option.isSome_some, Option.map_some, List.getElem?_toArray, List.getElem?_cons_zero, List.getElem?_cons_succ, List.size_toArray, List.length_cons, List.length_nil, List.setIfInBounds_toArray, List.set_cons_zero, List.set_cons_succ, List.getD_cons_zero, List.getD_cons_succ, Nat.zero_add, Nat.add_zero, Nat.reduceAdd, Bool.not_true, Bool.not_false, ne_eq, not_true_eq_false, not_false_eq_true, reduceCtorEq, decide_true, decide_false]
            exact ⟨x.safe, kk, _, _, _, rfl, by simp [crash1, hsu], hbl9, hv2.ext hx49, hx49⟩
          | false =>
            simp (disch := omega) only [Bool.and_true, Bool.and_false, Bool.true_and, Bool.false_and, Bool.or_true, Bool.or_false, Bool.true_or, Bool.false_or, put_nil, put_map, put_int, put_str, put_bool, put_ptr, put_slice, Nat.lt_add_one, Nat.zero_lt_succ, Nat.reduceLT, bin_add, bin_sub, bin_mul, bin_quo, bin_rem, bin_eql, bin_neq, bin_lss, bin_leq, bin_gtr, bin_geq, bin_sadd, bin_seq, bin_sne, bin_slt, bin_sgt, bin_sge, bin_sle, nil_ptr, fld_ptr, ld_one, ld_agg, st_int, st_bool, st_str, st_slice, st_ptr, st_map, st_agg, stc_nil, stc_cons, one_int, one_bool, one_str, one_slice, one_ptr, one_map, ext_tuple, ixa_slice, ixa_arr, ixs_str, lens_str, lenl_sl, un_not, un_neg, cvt_int, min_int, max_int, alloc_go, box_agg, box_int, box_bool, box_str, box_slice, box_ptr, box_map, bd_none, bd_some, sls_str, sll_sl, isB_t, isB_f, cond_true, cond_false, pick_t, pick_f, pick_or, pick_and, condW_true, condW_false, cellsAt, add_mk, cell_eq, cellO_some, frozen_eq, frO_zero, heap_set_same, heap_set_other, setO_some, heap_anew, heap_aold, heap_drew, size_drew, size_set, size_alloc, exists_eq_left', Option.some.injEq, true_and, and_true, Option.isSome_some, Option.map_some, List.getElem?_toArray, List.getElem?_cons_zero, List.getElem?_cons_succ, List.size_toArray, List.length_cons, List.length_nil, List.setIfInBounds_toArray, List.set_cons_zero, List.set_cons_succ, List.getD_cons_zero, List.getD_cons_succ, Nat.zero_add, Nat.add_zero, Nat.reduceAdd, Bool.not_true, Bool.not_false, ne_eq, not_true_eq_false, not_false_eq_true, reduceCtorEq, decide_true, decide_false]
            refine JoinW.cut (fun s10 w' => s10 = [i64 (keepAt keep kk)] ∧ w' = w9) ?_ ?_
            · rw [lenl_at (hk4.ext hx49)]
              simp (disch := omega) only [Bool.and_true, Bool.and_false, Bool.true_and, Bool.false_and, Bool.or_true, Bool.or_false, Bool.true_or, Bool.false_or, put_nil, put_map, put_int, put_str, put_bool, put_ptr, put_slice, Nat.lt_add_one, Nat.zero_lt_succ, Nat.reduceLT, bin_add, bin_sub, bin_mul, bin_quo, bin_rem, bin_eql, bin_neq, bin_lss, bin_leq, bin_gtr, bin_geq, bin_sadd, bin_seq, bin_sne, bin_slt, bin_sgt, bin_sge, bin_sle, nil_ptr, fld_ptr, ld_one, ld_agg, st_int, st_bool, st_str, st_slice, st_ptr, st_map, st_agg, stc_nil, stc_cons, one_int, one_bool, one_str, one_slice, one_ptr, one_map, ext_tuple, ixa_slice, ixa_arr, ixs_str, lens_str, lenl_sl, un_not, un_neg, cvt_int, min_int, max_int, alloc_go, box_agg, box_int, box_bool, box_str, box_slice, box_ptr, box_map, bd_none, bd_some, sls_str, sll_sl, isB_t, isB_f, cond_true, cond_false, pick_t, pick_f, pick_or, pick_and, condW_true, condW_false, cellsAt, add_mk, cell_eq, cellO_some, frozen_eq, frO_zero, heap_set_same, heap_set_other, setO_some, heap_anew, heap_aold, heap_drew, size_drew, size_set, size_alloc, exists_eq_left', Option.some.injEq, true_and, and_true, Option.isSome_some, Option.map_some, List.getElem?_toArray, List.getElem?_cons_zero, List.getElem?_cons_succ, List.size_toArray, List.length_cons, List.length_nil, List.setIfInBounds_toArray, List.set_cons_zero, List.set_cons_succ, List.getD_cons_zero, List.getD_cons_succ, Nat.zero_add, Nat.add_zero, Nat.reduceAdd, Bool.not_true, Bool.not_false, ne_eq, not_true_eq_false, not_false_eq_true, reduceCtorEq, decide_true, decide_false, condW_dec]
              refine ⟨fun hlt => ?_, fun hge => ?_⟩
              · have hlt : kk < keep.length := by omega
                refine ixa_ld (hk4.ext hx49) (by simp) (x := i64 (keepAt keep kk)) (by simp [keepAt, hlt]) ?_
                first | rfl | exact ⟨rfl, rfl⟩
              · have : keepAt keep kk = 0 := by unfold keepAt; rw [List.getD_eq_getElem?_getD, List.getElem?_eq_none (by omega)]; rfl
                simp [this]
            · rintro s10 g10 w11 ⟨rfl, rfl⟩
              simp (disch := omega) only [Bool.and_true, Bool.and_false, Bool.true_and, Bool.false_and, Bool.or_true, Bool.or_false, Bool.true_or, Bool.false_or, put_nil, put_map, put_int, put_str, put_bool, put_ptr, put_slice, Nat.lt_add_one, Nat.zero_lt_succ, Nat.reduceLT, bin_add, bin_sub, bin_mul, bin_quo, bin_rem, bin_eql, bin_neq, bin_lss, bin_leq, bin_gtr, bin_geq, bin_sadd, bin_seq, bin_sne, bin_slt, bin_sgt, bin_sge, bin_sle, nil_ptr, fld_ptr, ld_one, ld_agg, st_int, st_bool, st_str, st_slice, st_ptr, st_map, st_agg, stc_nil, stc_cons, one_int, one_bool, one_str, one_slice, one_ptr, one_map, ext_tuple, ixa_slice, ixa_arr, ixs_str, lens_str, lenl_sl, un_not, un_neg, cvt_int, min_int, max_int, alloc_go, box_agg, box_int, box_bool, box_str, box_slice, box_ptr, box_map, bd_none, bd_some, sls_str, sll_sl, isB_t, isB_f, cond_true, cond_false, pick_t, pick_f, pick_or, pick_and, condW_true, condW_false, cellsAt, add_mk, cell_eq, cellO_some, frozen_eq, frO_zero, heap_set_same, heap_set_other, setO_some, heap_anew, heap_aold, heap_drew, size_drew, size_set, size_alloc, exists_eq_left', Option.some.injEq, true_and, and_true, Option.isSome_some, Option.map_some, List.getElem?_toArray, List.getElem?_cons_zero, List.getElem?_cons_succ, List.size_toArray, List.length_cons, List.length_nil, List.setIfInBounds_toArray, List.set_cons_zero, List.set_cons_succ, List.getD_cons_zero, List.getD_cons_succ, Nat.zero_add, Nat.add_zero, Nat.reduceAdd, Bool.not_true, Bool.not_false, ne_eq, not_true_eq_false, not_false_eq_true, reduceCtorEq, decide_true, decide_false, condW_dec, hbl9]
              refine ⟨fun h1 => ?_, fun h1 => ?_⟩
              · have hmn : (if (x.data.length : Int) < keepAt keep kk then (x.data.length : Int) else keepAt keep kk) = ((min (keepAt keep kk).toNat x.data.length : Nat) : Int) := by
                  split <;> omega
                rw [hmn]
                simp only [sl_off0, Nat.sub_zero, Int.toNat_natCast]
                have hv' := sl_pre (h := min (keepAt keep kk).toNat x.data.length) (hv1.ext hx49) (by rw [u8s_length]) (Nat.min_le_right _ _)
                refine ⟨by omega, by omega, ?_⟩
                have hv' := hv'.1
                have hcs : (u8s x.data).take (min (keepAt keep kk).toNat x.data.length) = u8s (x.data.take (keepAt keep kk).toNat) := by
                  simp only [u8s, ← List.map_take]
                  congr 1
                  rw [List.take_eq_take_iff]; simp
                have hln : min (keepAt keep kk).toNat x.data.length = (x.data.take (keepAt keep kk).toNat).length := by rw [List.length_take]
                rw [hcs, hln] at hv'
                rw [hln]
                generalize hws : (World.setCell _ _ _) = ws
                have hcset : Chg (fun k => k = w4.heap.size) w11 ws := by subst hws; exact (by repeat (first | assumption | exact Chg.refl _ _ | refine Chg.drew ?_ | refine Chg.alloc ?_ _ | refine Chg.set ?_ (by first | exact .inl rfl | exact .inr (by omega) | exact .inr (by simp only [size_set, size_alloc, size_drew]; omega) | (left; simp; done)) _ | exact Chg.of_ext (by assumption)))
                refine ⟨x.data.take (keepAt keep kk).toNat, kk + 1, .slice dp x.data.length dc, .slice dp (x.data.take (keepAt keep kk).toNat).length dc, i64 (sv x.saved), rfl, by simp [crash1, hsu, h1], rfl, Byt.chg hv' hcset ?_, hx49.then hcset fun k hk e => by omega⟩
                rintro k c fr rfl e
                rw [hbl9] at e; cases e
              · cases hsa : x.saved with
                | false =>
                  have hcr : crash1 keep x kk = (none, kk + 1) := by simp [crash1, hsu, h1, hsa]
                  rw [hcN, hcr]
                  refine ⟨fun _ => ⟨by simp, ?_, Chg.of_ext hx49⟩, fun h => absurd rfl h⟩
                  simp only [one, List.append_nil]
                  exact hf4.ext hx49
                | true =>
                  exact ⟨fun h => absurd h (by decide), fun _ => ⟨x.safe, kk + 1, _, _, _, rfl, by simp [crash1, hsu, h1, hsa], rfl, hv2.ext hx49, hx49⟩⟩
        · rintro s8 g8 w13 ⟨sf, k', dsl, ssl, n, rfl, hcr, hbl13, hsf, hx13⟩
          have hf13 := hf4.ext hx13
          have hfb13 := hf13.blk
          have hl13 : w4.heap.size < w13.heap.size := (Array.getElem?_eq_some_iff.1 hbl13).1
          have hsl : sf.length ≤ 65536 := sure_len hs hmem keep kk hcr
          simp (disch := omega) only [Bool.and_true, Bool.and_false, Bool.true_and, Bool.false_and, Bool.or_true, Bool.or_false, Bool.true_or, Bool.false_or, put_nil, put_map, put_int, put_str, put_bool, put_ptr, put_slice, Nat.lt_add_one, Nat.zero_lt_succ, Nat.reduceLT, bin_add, bin_sub, bin_mul, bin_quo, bin_rem, bin_eql, bin_neq, bin_lss, bin_leq, bin_gtr, bin_geq, bin_sadd, bin_seq, bin_sne, bin_slt, bin_sgt, bin_sge, bin_sle, nil_ptr, fld_ptr, ld_one, ld_agg, st_int, st_bool, st_str, st_slice, st_ptr, st_map, st_agg, stc_nil, stc_cons, one_int, one_bool, one_str, one_slice, one_ptr, one_map, ext_tuple, ixa_slice, ixa_arr, ixs_str, lens_str, lenl_sl, un_not, un_neg, cvt_int, min_int, max_int, alloc_go, box_agg, box_int, box_bool, box_str, box_slice, box_ptr, box_map, bd_none, bd_some, sls_str, sll_sl, isB_t, isB_f, cond_true, cond_false, pick_t, pick_f, pick_or, pick_and, condW_true, condW_false, cellsAt, add_mk, cell_eq, cellO_some, frozen_eq, frO_zero, heap_set_same, heap_set_other, setO_some, heap_anew, heap_aold, heap_drew, size_drew, size_set, size_alloc, exists_eq_left', Option.some.injEq, true_and, and_true, Option.isSome_some, Option.map_some, List.getElem?_toArray, List.getElem?_cons_zero, List.getElem?_cons_succ, List.size_toArray, List.length_cons, List.length_nil, List.setIfInBounds_toArray, List.set_cons_zero, List.set_cons_succ, List.getD_cons_zero, List.getD_cons_succ, Nat.zero_add, Nat.add_zero, Nat.reduceAdd, Bool.not_true, Bool.not_false, ne_eq, not_true_eq_false, not_false_eq_true, reduceCtorEq, decide_true, decide_false, hfb13, hbl13]
          have hxd : Ext w13 w13.drew := (by repeat (first | assumption | exact Chg.refl _ _ | refine Chg.drew ?_ | refine Chg.alloc ?_ _ | refine Chg.set ?_ (by first | exact .inl rfl | exact .inr (by omega) | exact .inr (by simp only [size_set, size_alloc, size_drew]; omega) | (left; simp; done)) _ | exact Chg.of_ext (by assumption)))
          refine clone_bytes (hsf.ext hxd) (by omega) fun v1 w14 hv1' hx14 => ?_
          have hx14' := hxd.trans hx14
          have hb14 : w14.heap[w4.heap.size]? = _ := (hx14'.heap _ hl13 id).trans hbl13
          have hf14 := hf13.ext hx14'
          have hfb14 := hf14.blk
          simp (disch := omega) only [Bool.and_true, Bool.and_false, Bool.true_and, Bool.false_and, Bool.or_true, Bool.or_false, Bool.true_or, Bool.false_or, put_nil, put_map, put_int, put_str, put_bool, put_ptr, put_slice, Nat.lt_add_one, Nat.zero_lt_succ, Nat.reduceLT, bin_add, bin_sub, bin_mul, bin_quo, bin_rem, bin_eql, bin_neq, bin_lss, bin_leq, bin_gtr, bin_geq, bin_sadd, bin_seq, bin_sne, bin_slt, bin_sgt, bin_sge, bin_sle, nil_ptr, fld_ptr, ld_one, ld_agg, st_int, st_bool, st_str, st_slice, st_ptr, st_map, st_agg, stc_nil, stc_cons, one_int, one_bool, one_str, one_slice, one_ptr, one_map, ext_tuple, ixa_slice, ixa_arr, ixs_str, lens_str, lenl_sl, un_not, un_neg, cvt_int, min_int, max_int, alloc_go, box_agg, box_int, box_bool, box_str, box_slice, box_ptr, box_map, bd_none, bd_some, sls_str, sll_sl, isB_t, isB_f, cond_true, cond_false, pick_t, pick_f, pick_or, pick_and, condW_true, condW_false, cellsAt, add_mk, cell_eq, cellO_some, frozen_eq, frO_zero, heap_set_same, heap_set_other, setO_some, heap_anew, heap_aold, heap_drew, size_drew, size_set, size_alloc, exists_eq_left', Option.some.injEq, true_and, and_true, Option.isSome_some, Option.map_some, List.getElem?_toArray, List.getElem?_cons_zero, List.getElem?_cons_succ, List.size_toArray, List.length_cons, List.length_nil, List.setIfInBounds_toArray, List.set_cons_zero, List.set_cons_succ, List.getD_cons_zero, List.getD_cons_succ, Nat.zero_add, Nat.add_zero, Nat.reduceAdd, Bool.not_true, Bool.not_false, ne_eq, not_true_eq_false, not_false_eq_true, reduceCtorEq, decide_true, decide_false, hfb14, hb14]
          refine clone_bytes (hsf.ext hx14') (by omega) fun v2 w15 hv2' hx15 => ?_
          have hf15 := hf14.ext hx15
          have hfb15 := hf15.blk
          obtain ⟨p1, c1, rfl, _⟩ := hv1'.shape
          obtain ⟨p2, c2, rfl, _⟩ := hv2'.shape
          simp (disch := omega) only [Bool.and_true, Bool.and_false, Bool.true_and, Bool.false_and, Bool.or_true, Bool.or_false, Bool.true_or, Bool.false_or, put_nil, put_map, put_int, put_str, put_bool, put_ptr, put_slice, Nat.lt_add_one, Nat.zero_lt_succ, Nat.reduceLT, bin_add, bin_sub, bin_mul, bin_quo, bin_rem, bin_eql, bin_neq, bin_lss, bin_leq, bin_gtr, bin_geq, bin_sadd, bin_seq, bin_sne, bin_slt, bin_sgt, bin_sge, bin_sle, nil_ptr, fld_ptr, ld_one, ld_agg, st_int, st_bool, st_str, st_slice, st_ptr, st_map, st_agg, stc_nil, stc_cons, one_int, one_bool, one_str, one_slice, one_ptr, one_map, ext_tuple, ixa_slice, ixa_arr, ixs_str, lens_str, lenl_sl, un_not, un_neg, cvt_int, min_int, max_int, alloc_go, box_agg, box_int, box_bool, box_str, box_slice, box_ptr, box_map, bd_none, bd_some, sls_str, sll_sl, isB_t, isB_f, cond_true, cond_false, pick_t, pick_f, pick_or, pick_and, condW_true, condW_false, cellsAt, add_mk, cell_eq, cellO_some, frozen_eq, frO_zero, heap_set_same, heap_set_other, setO_some, heap_anew, heap_aold, heap_drew, size_drew, size_set, size_alloc, exists_eq_left', Option.some.injEq, true_and, and_true, Option.isSome_some, Option.map_some, List.getElem?_toArray, List.getElem?_cons_zero, List.getElem?_cons_succ, List.size_toArray, List.length_cons, List.length_nil, List.setIfInBounds_toArray, List.set_cons_zero, List.set_cons_succ, List.getD_cons_zero, List.getD_cons_succ, Nat.zero_add, Nat.add_zero, Nat.reduceAdd, Bool.not_true, Bool.not_false, ne_eq, not_true_eq_false, not_false_eq_true, reduceCtorEq, decide_true, decide_false, hfb15]
          refine put_fs (x := ⟨sf, sf, true⟩) hf15 (List.Pairwise.sublist (crash_keys keep _ _) (List.Pairwise.sublist ((List.take_sublist _ _).map _) hs.srt)) ⟨p1, c1, p2, c2, rfl, hv1'.ext hx15, hv2'⟩ fun w17 hf17 hc17 => ?_
          rw [hcN, hcr]
          refine ⟨rfl, ?_, Chg.then (S := fun k => k = b2 ∨ k = m2) (Chg.of_ext ((hx13.trans hx14').trans hx15)) hc17 fun _ _ e => e⟩
          have : wth (crashL keep (s.files.take i) 0) p ⟨sf, sf, true⟩ = crashL keep (s.files.take i) 0 ++ one p (some ⟨sf, sf, true⟩) := wth_last hahead
          rw [← this]
          exact hf17
      · rintro s5 g5 w' ⟨rfl, hf', hc'⟩
        have hwr : IntKind.i64.wrap ((i : Int) + 1) = ((i + 1 : Nat) : Int) := by rw [wrap_id (by omega) (by omega)]; simp
        simp (disch := omega) only [Bool.and_true, Bool.and_false, Bool.true_and, Bool.false_and, Bool.or_true, Bool.or_false, Bool.true_or, Bool.false_or, put_nil, put_map, put_int, put_str, put_bool, put_ptr, put_slice, Nat.lt_add_one, Nat.zero_lt_succ, Nat.reduceLT, bin_add, bin_sub, bin_mul, bin_quo, bin_rem, bin_eql, bin_neq, bin_lss, bin_leq, bin_gtr, bin_geq, bin_sadd, bin_seq, bin_sne, bin_slt, bin_sgt, bin_sge, bin_sle, nil_ptr, fld_ptr, ld_one, ld_agg, st_int, st_bool, st_str, st_slice, st_ptr, st_map, st_agg, stc_nil, stc_cons, one_int, one_bool, one_str, one_slice, one_ptr, one_map, ext_tuple, ixa_slice, ixa_arr, ixs_str, lens_str, lenl_sl, un_not, un_neg, cvt_int, min_int, max_int, alloc_go, box_agg, box_int, box_bool, box_str, box_slice, box_ptr, box_map, bd_none, bd_some, sls_str, sll_sl, isB_t, isB_f, cond_true, cond_false, pick_t, pick_f, pick_or, pick_and, condW_true, condW_false, cellsAt, add_mk, cell_eq, cellO_some, frozen_eq, frO_zero, heap_set_same, heap_set_other, setO_some, heap_anew, heap_aold, heap_drew, size_drew, size_set, size_alloc, exists_eq_left', Option.some.injEq, true_and, and_true, Option.isSome_some, Option.map_some, List.getElem?_toArray, List.getElem?_cons_zero, List.getElem?_cons_succ, List.size_toArray, List.length_cons, List.length_nil, List.setIfInBounds_toArray, List.set_cons_zero, List.set_cons_succ, List.getD_cons_zero, List.getD_cons_succ, Nat.zero_add, Nat.add_zero, Nat.reduceAdd, Bool.not_true, Bool.not_false, ne_eq, not_true_eq_false, not_false_eq_true, reduceCtorEq, decide_true, decide_false, hwr]
        refine ⟨⟨i + 1, by omega, by rw [hkN], hf', ?_, ?_⟩, ?_⟩
        · exact hx4.then hc' fun k hk e => by omega
        · exact hc4.trans hc'
        · simp only [Int.toNat_natCast]; omega
    · have : i = s.files.length := by omega
      subst this
      rw [List.take_length] at hf4
      exact hK b2 m2 w4 hf4 hx4 hb2 hm2
end Go.Proofs.Ytcefidpmlnfheaa
