/- One plain sentence: VfsSure answers true. Conditions: those that each states. -/
import Derived.Test.YtcefidpmlnfheaaVBuilt
set_option linter.all false
set_option linter.unusedSimpArgs false
set_option linter.unusedVariables false
set_option linter.unusedSectionVars false
namespace Go.Proofs.Ytcefidpmlnfheaa
open Go Go.Eng Go.Vfs
set_option maxRecDepth 100000
set_option maxHeartbeats 1000000

theorem lk_crash (keep : List Int) {l : Files} (hs : Srt l) {p : Str} {x : MF} (h : lkM l p = some x) : ∃ k, lkM (crashL keep l 0) p = (crash1 keep x k).1 := by
  have key : ∀ (l : Files) (k0 : Nat), Srt l → lkM l p = some x → ∃ k, lkM (crashL keep l k0) p = (crash1 keep x k).1 := by
    intro l
    induction l with
    | nil => intro _ _ h; cases h
    | cons y r ih =>
      obtain ⟨q, z⟩ := y
      intro k0 hs h
      rw [crash_cons, lk_app]
      simp only [lkM] at h
      by_cases hq : q = p
      · subst hq
        rw [if_pos rfl] at h
        cases h
        refine ⟨k0, ?_⟩
        have hno : lkM (crashL keep r (crash1 keep x k0).2) q = none := by
          rw [lk_none]
          intro hm
          have := (crash_keys keep r (crash1 keep x k0).2).subset hm
          have := (List.pairwise_cons.1 hs).1 q this
          rw [less_irrefl] at this
          cases this
        rw [hno]
        cases (crash1 keep x k0).1 <;> simp [one, lkM]
      · rw [if_neg hq] at h
        obtain ⟨k, hk⟩ := ih (crash1 keep z k0).2 hs.tail h
        refine ⟨k, ?_⟩
        rw [hk]
        cases (crash1 keep z k0).1 with
        | none => simp [one, lkM]
        | some u => simp [one, lkM, hq]
  exact key l 0 hs h
theorem lk_crash_none (keep : List Int) {l : Files} {p : Str} (h : lkM l p = none) : lkM (crashL keep l 0) p = none := by
  rw [lk_none] at h ⊢
  exact fun hm => h ((crash_keys keep l 0).subset hm)

def newS : Str := [110, 101, 119]
def oldS : Str := [111, 108, 100]
theorem new_good : good newS = true := by decide +kernel
theorem old_good : good oldS = true := by decide +kernel
theorem new_old : newS ≠ oldS := by decide

/-- a state that lives for ever -/
structure Alive (s : MS) : Prop where
  left : s.left = -1
  dead : s.dead = false
theorem alive_crash (s : MS) (keep : List Int) : Alive (crashM s keep) := ⟨rfl, rfl⟩
theorem alive_step {s : MS} (h : Alive s) : (stepM s).2 = 0 ∧ Alive (stepM s).1 := by
  unfold stepM
  rw [if_neg (by rw [h.left, h.dead]; simp)]
  exact ⟨rfl, by simp [h.left], h.dead⟩
theorem sure_write {s : MS} (h : Alive s) (ho : Ok s) {data : Str} (hd : data.length ≤ 65536) :
    ((writeM s newS data false).2 = 3 ∧ (writeM s newS data false).1 = s ∧ s.files.length = 64) ∨
    ((writeM s newS data false).2 = 0 ∧ Alive (writeM s newS data false).1 ∧ (writeM s newS data false).1.files = wth s.files newS ⟨data, ((lkM s.files newS).map (·.safe)).getD [], ((lkM s.files newS).map (·.saved)).getD false⟩) := by
  unfold writeM
  rw [if_neg (by rw [new_good]; decide)]
  by_cases hr : data.length > 65536 ∨ (lkM s.files newS = none ∧ 64 ≤ s.files.length)
  · rw [if_pos hr]
    refine .inl ⟨rfl, rfl, ?_⟩
    have := ho.few
    rcases hr with hr | hr <;> omega
  · rw [if_neg hr, if_neg (by simp), if_neg (by simp [(alive_step h).1])]
    exact .inr ⟨rfl, ⟨(alive_step h).2.left, (alive_step h).2.dead⟩, rfl⟩
theorem sure_sync {s : MS} (h : Alive s) {x : MF} (hx : lkM s.files newS = some x) :
    (syncM s newS).2 = 0 ∧ Alive (syncM s newS).1 ∧ (syncM s newS).1.files = wth s.files newS ⟨x.data, x.data, true⟩ := by
  unfold syncM
  rw [if_neg (by rw [new_good]; decide), hx]
  simp only [(alive_step h).1, ne_eq, not_true_eq_false, if_false]
  exact ⟨trivial, ⟨(alive_step h).2.left, (alive_step h).2.dead⟩, trivial⟩
theorem sure_rename {s : MS} (h : Alive s) {x : MF} (hx : lkM s.files newS = some x) :
    (renameM s newS oldS).2 = 0 ∧ (renameM s newS oldS).1.files = wth (wo s.files newS) oldS x := by
  unfold renameM
  rw [if_neg (by rw [new_good, old_good]; decide), hx]
  simp only [(alive_step h).1, ne_eq, not_true_eq_false, if_false]
  exact ⟨trivial, trivial⟩
/-- what stands behind a loss of power where all was sure -/
theorem sure_crash {s : MS} {keep : List Int} {p : Str} {d : Str} (hs : Srt s.files) (h : lkM s.files p = some ⟨d, d, true⟩) : lkM (crashM s keep).files p = some ⟨d, d, true⟩ := by
  obtain ⟨k, hk⟩ := lk_crash keep hs h
  show lkM (crashL keep s.files 0) p = _
  rw [hk]
  simp [crash1, sureM]
/-- .. where a write was not synced -/
theorem half_crash {s : MS} {keep : List Int} {p : Str} {d e : Str} (hs : Srt s.files) (h : lkM s.files p = some ⟨d, e, true⟩) :
    ∃ u, (lkM (crashM s keep).files p = some ⟨u, u, true⟩) ∧ (u = e ∨ ∃ n, u = d.take n) := by
  obtain ⟨k, hk⟩ := lk_crash keep hs h
  show ∃ u, lkM (crashL keep s.files 0) p = _ ∧ _
  rw [hk]
  unfold crash1
  by_cases h1 : sureM ⟨d, e, true⟩ = true
  · rw [if_pos h1]; exact ⟨e, rfl, .inl rfl⟩
  · rw [if_neg h1]
    by_cases h2 : 1 ≤ keepAt keep k
    · rw [if_pos h2]; exact ⟨_, rfl, .inr ⟨_, rfl⟩⟩
    · rw [if_neg h2, if_pos rfl]; exact ⟨e, rfl, .inl rfl⟩

theorem Byt.pre {w : World} {T : TypeId} {v : Value} {l : Str} {h : Nat} {K : Value → Prop} (hb : Byt w T v l) (hh : h ≤ l.length) (hK : ∀ v', Byt w T v' (l.take h) → K v') : sllW 1 v none (some (i64 h)) none K := by
  obtain ⟨p, cap, rfl, _⟩ := SlAt.shape hb
  have h2 := sl_pre (h := h) hb (u8s_length l) hh
  rw [sll_sl]
  simp only [bd_none, bd_some, sl_off0, Nat.sub_zero, Int.toNat_natCast]
  refine ⟨by omega, by have := h2.2; omega, hK _ ?_⟩
  have hl : (l.take h).length = h := by rw [List.length_take]; omega
  have hu : (u8s l).take h = u8s (l.take h) := by simp only [u8s, List.map_take]
  simp only [Byt, hl, ← hu]
  exact h2.1

theorem sure_true {w : World} {v kv dv : Value} {l : Sc} {keep : List Int} {T1 T2 : TypeId} {data0 : Str} {K : Value → World → Prop} (hs : ScrV w v l) (hk : SlAt w T1 kv keep.length (keep.map i64)) (hd0 : Byt w T2 dv data0)
    (hK : ∀ w', Ext w w' → K (.bool true) w') : callF Try.prog 4 [v, kv, dv] w K := by
  refine W4_ok ?_
  unfold W4
  refine awake_true fun w1 hx1 => ?_
  (try simp only [Bool.and_true, Bool.and_false, Bool.true_and, Bool.false_and, Bool.or_true, Bool.or_false, Bool.true_or, Bool.false_or, put_nil, put_map, put_int, put_str, put_bool, put_ptr, put_slice, Nat.lt_add_one, Nat.zero_lt_succ, Nat.reduceLT, bin_add, bin_sub, bin_mul, bin_quo, bin_rem, bin_eql, bin_neq, bin_lss, bin_leq, bin_gtr, bin_geq, bin_sadd, bin_seq, bin_sne, bin_slt, bin_sgt, bin_sge, bin_sle, nil_ptr, fld_ptr, ld_one, one_int, one_bool, one_str, one_slice, one_ptr, one_map, ext_tuple, ixa_slice, ixa_arr, ixs_str, lens_str, lenl_sl, un_not, un_neg, cvt_int, min_int, max_int, bd_none, bd_some, sls_str, sll_sl, isB_t, isB_f, cond_true, cond_false, pick_t, pick_f, pick_or, pick_and, condW_true, condW_false, add_mk, cell_eq, cellO_some, frozen_eq, frO_zero, setO_some, heap_drew, size_drew, size_set, size_alloc, exists_eq_left', Option.some.injEq, true_and, and_true, Option.isSome_some, Option.map_some, List.getElem?_toArray, List.getElem?_cons_zero, List.getElem?_cons_succ, List.size_toArray, List.length_cons, List.length_nil, List.setIfInBounds_toArray, List.set_cons_zero, List.set_cons_succ, List.getD_cons_zero, List.getD_cons_succ, Nat.zero_add, Nat.add_zero, Nat.reduceAdd, Bool.not_true, Bool.not_false, ne_eq, not_true_eq_false, not_false_eq_true, reduceCtorEq, decide_true, decide_false])
  refine built_spec (hs.ext hx1) fun b0 m0 s0 v2 w2 h2 hr2 => ?_
  have h2 : Fs w w2 b0 m0 s0 := ⟨h2.fs, h2.ok, by have := h2.gb; have := hx1.size; omega, by have := h2.gm; have := hx1.size; omega, hx1.trans h2.ext⟩
  (try simp only [Bool.and_true, Bool.and_false, Bool.true_and, Bool.false_and, Bool.or_true, Bool.or_false, Bool.true_or, Bool.false_or, put_nil, put_map, put_int, put_str, put_bool, put_ptr, put_slice, Nat.lt_add_one, Nat.zero_lt_succ, Nat.reduceLT, bin_add, bin_sub, bin_mul, bin_quo, bin_rem, bin_eql, bin_neq, bin_lss, bin_leq, bin_gtr, bin_geq, bin_sadd, bin_seq, bin_sne, bin_slt, bin_sgt, bin_sge, bin_sle, nil_ptr, fld_ptr, ld_one, one_int, one_bool, one_str, one_slice, one_ptr, one_map, ext_tuple, ixa_slice, ixa_arr, ixs_str, lens_str, lenl_sl, un_not, un_neg, cvt_int, min_int, max_int, bd_none, bd_some, sls_str, sll_sl, isB_t, isB_f, cond_true, cond_false, pick_t, pick_f, pick_or, pick_and, condW_true, condW_false, add_mk, cell_eq, cellO_some, frozen_eq, frO_zero, setO_some, heap_drew, size_drew, size_set, size_alloc, exists_eq_left', Option.some.injEq, true_and, and_true, Option.isSome_some, Option.map_some, List.getElem?_toArray, List.getElem?_cons_zero, List.getElem?_cons_succ, List.size_toArray, List.length_cons, List.length_nil, List.setIfInBounds_toArray, List.set_cons_zero, List.set_cons_succ, List.getD_cons_zero, List.getD_cons_succ, Nat.zero_add, Nat.add_zero, Nat.reduceAdd, Bool.not_true, Bool.not_false, ne_eq, not_true_eq_false, not_false_eq_true, reduceCtorEq, decide_true, decide_false])
  refine alloc_new fun a w3 ha hz3 hba hx3 => ?_
  have h3 := h2.more hx3
  have hga : w.heap.size ≤ a := by have := h2.ext.size; omega
  refine Lp.set h3 hba rfl hga (hr2.ext hx3) fun w4 h4 _ => ?_
  (try simp only [Bool.and_true, Bool.and_false, Bool.true_and, Bool.false_and, Bool.or_true, Bool.or_false, Bool.true_or, Bool.false_or, put_nil, put_map, put_int, put_str, put_bool, put_ptr, put_slice, Nat.lt_add_one, Nat.zero_lt_succ, Nat.reduceLT, bin_add, bin_sub, bin_mul, bin_quo, bin_rem, bin_eql, bin_neq, bin_lss, bin_leq, bin_gtr, bin_geq, bin_sadd, bin_seq, bin_sne, bin_slt, bin_sgt, bin_sge, bin_sle, nil_ptr, fld_ptr, ld_one, one_int, one_bool, one_str, one_slice, one_ptr, one_map, ext_tuple, ixa_slice, ixa_arr, ixs_str, lens_str, lenl_sl, un_not, un_neg, cvt_int, min_int, max_int, bd_none, bd_some, sls_str, sll_sl, isB_t, isB_f, cond_true, cond_false, pick_t, pick_f, pick_or, pick_and, condW_true, condW_false, add_mk, cell_eq, cellO_some, frozen_eq, frO_zero, setO_some, heap_drew, size_drew, size_set, size_alloc, exists_eq_left', Option.some.injEq, true_and, and_true, Option.isSome_some, Option.map_some, List.getElem?_toArray, List.getElem?_cons_zero, List.getElem?_cons_succ, List.size_toArray, List.length_cons, List.length_nil, List.setIfInBounds_toArray, List.set_cons_zero, List.set_cons_succ, List.getD_cons_zero, List.getD_cons_succ, Nat.zero_add, Nat.add_zero, Nat.reduceAdd, Bool.not_true, Bool.not_false, ne_eq, not_true_eq_false, not_false_eq_true, reduceCtorEq, decide_true, decide_false])
  refine fcrash (keep := []) h4.fs (SlAt.nil _ 0) fun b m w5 h5 => ?_
  have hsz := h4.fs.ext.size
  have h5 : Fs w w5 b m (crashM s0 []) := ⟨h5.fs, h5.ok, by have := h5.gb; omega, by have := h5.gm; omega, h4.fs.ext.trans h5.ext⟩
  have hal := alive_crash s0 []
  generalize crashM s0 [] = s at *
  have hd5 := SlAt.ext hd0 h5.ext
  rw [lenl_at hd5]
  have hmn : (if (1000 : Int) < (data0.length : Int) then (1000 : Int) else (data0.length : Int)) = ((min 1000 data0.length : Nat) : Int) := by split <;> omega
  simp only [Bool.and_true, Bool.and_false, Bool.true_and, Bool.false_and, Bool.or_true, Bool.or_false, Bool.true_or, Bool.false_or, put_nil, put_map, put_int, put_str, put_bool, put_ptr, put_slice, Nat.lt_add_one, Nat.zero_lt_succ, Nat.reduceLT, bin_add, bin_sub, bin_mul, bin_quo, bin_rem, bin_eql, bin_neq, bin_lss, bin_leq, bin_gtr, bin_geq, bin_sadd, bin_seq, bin_sne, bin_slt, bin_sgt, bin_sge, bin_sle, nil_ptr, fld_ptr, ld_one, one_int, one_bool, one_str, one_slice, one_ptr, one_map, ext_tuple, ixa_slice, ixa_arr, ixs_str, lens_str, lenl_sl, un_not, un_neg, cvt_int, min_int, max_int, bd_none, bd_some, sls_str, sll_sl, isB_t, isB_f, cond_true, cond_false, pick_t, pick_f, pick_or, pick_and, condW_true, condW_false, add_mk, cell_eq, cellO_some, frozen_eq, frO_zero, setO_some, heap_drew, size_drew, size_set, size_alloc, exists_eq_left', Option.some.injEq, true_and, and_true, Option.isSome_some, Option.map_some, List.getElem?_toArray, List.getElem?_cons_zero, List.getElem?_cons_succ, List.size_toArray, List.length_cons, List.length_nil, List.setIfInBounds_toArray, List.set_cons_zero, List.set_cons_succ, List.getD_cons_zero, List.getD_cons_succ, Nat.zero_add, Nat.add_zero, Nat.reduceAdd, Bool.not_true, Bool.not_false, ne_eq, not_true_eq_false, not_false_eq_true, reduceCtorEq, decide_true, decide_false, hmn]
  refine Byt.pre hd5 (Nat.min_le_right _ _) fun dv' hd => ?_
  have hdl : (data0.take (min 1000 data0.length)).length ≤ 1000 := by rw [List.length_take]; omega
  generalize data0.take (min 1000 data0.length) = data at *
  (try simp only [Bool.and_true, Bool.and_false, Bool.true_and, Bool.false_and, Bool.or_true, Bool.or_false, Bool.true_or, Bool.false_or, put_nil, put_map, put_int, put_str, put_bool, put_ptr, put_slice, Nat.lt_add_one, Nat.zero_lt_succ, Nat.reduceLT, bin_add, bin_sub, bin_mul, bin_quo, bin_rem, bin_eql, bin_neq, bin_lss, bin_leq, bin_gtr, bin_geq, bin_sadd, bin_seq, bin_sne, bin_slt, bin_sgt, bin_sge, bin_sle, nil_ptr, fld_ptr, ld_one, one_int, one_bool, one_str, one_slice, one_ptr, one_map, ext_tuple, ixa_slice, ixa_arr, ixs_str, lens_str, lenl_sl, un_not, un_neg, cvt_int, min_int, max_int, bd_none, bd_some, sls_str, sll_sl, isB_t, isB_f, cond_true, cond_false, pick_t, pick_f, pick_or, pick_and, condW_true, condW_false, add_mk, cell_eq, cellO_some, frozen_eq, frO_zero, setO_some, heap_drew, size_drew, size_set, size_alloc, exists_eq_left', Option.some.injEq, true_and, and_true, Option.isSome_some, Option.map_some, List.getElem?_toArray, List.getElem?_cons_zero, List.getElem?_cons_succ, List.size_toArray, List.length_cons, List.length_nil, List.setIfInBounds_toArray, List.set_cons_zero, List.set_cons_succ, List.getD_cons_zero, List.getD_cons_succ, Nat.zero_add, Nat.add_zero, Nat.reduceAdd, Bool.not_true, Bool.not_false, ne_eq, not_true_eq_false, not_false_eq_true, reduceCtorEq, decide_true, decide_false, eq_pn])
  refine GdW.t ?_
  refine fwrite (p := newS) h5 hd fun w6 h6 hc6 => ?_
  have hd6 := Byt.mut hd h5.fs hc6
  have hk6 : SlAt w6 T1 kv keep.length (keep.map i64) := SlAt.ext hk h6.ext
  rcases sure_write hal h5.ok (data := data) (by omega) with ⟨c6, f6, n6⟩ | ⟨c6, al6, f6⟩
  · rw [c6]
    have e30 : decide (¬ ((3 : Int) = 0)) = true := by decide
    (try simp only [Bool.and_true, Bool.and_false, Bool.true_and, Bool.false_and, Bool.or_true, Bool.or_false, Bool.true_or, Bool.false_or, put_nil, put_map, put_int, put_str, put_bool, put_ptr, put_slice, Nat.lt_add_one, Nat.zero_lt_succ, Nat.reduceLT, bin_add, bin_sub, bin_mul, bin_quo, bin_rem, bin_eql, bin_neq, bin_lss, bin_leq, bin_gtr, bin_geq, bin_sadd, bin_seq, bin_sne, bin_slt, bin_sgt, bin_sge, bin_sle, nil_ptr, fld_ptr, ld_one, one_int, one_bool, one_str, one_slice, one_ptr, one_map, ext_tuple, ixa_slice, ixa_arr, ixs_str, lens_str, lenl_sl, un_not, un_neg, cvt_int, min_int, max_int, bd_none, bd_some, sls_str, sll_sl, isB_t, isB_f, cond_true, cond_false, pick_t, pick_f, pick_or, pick_and, condW_true, condW_false, add_mk, cell_eq, cellO_some, frozen_eq, frO_zero, setO_some, heap_drew, size_drew, size_set, size_alloc, exists_eq_left', Option.some.injEq, true_and, and_true, Option.isSome_some, Option.map_some, List.getElem?_toArray, List.getElem?_cons_zero, List.getElem?_cons_succ, List.size_toArray, List.length_cons, List.length_nil, List.setIfInBounds_toArray, List.set_cons_zero, List.set_cons_succ, List.getD_cons_zero, List.getD_cons_succ, Nat.zero_add, Nat.add_zero, Nat.reduceAdd, Bool.not_true, Bool.not_false, ne_eq, not_true_eq_false, not_false_eq_true, reduceCtorEq, decide_true, decide_false])
    intro g
    (try simp only [Bool.and_true, Bool.and_false, Bool.true_and, Bool.false_and, Bool.or_true, Bool.or_false, Bool.true_or, Bool.false_or, put_nil, put_map, put_int, put_str, put_bool, put_ptr, put_slice, Nat.lt_add_one, Nat.zero_lt_succ, Nat.reduceLT, bin_add, bin_sub, bin_mul, bin_quo, bin_rem, bin_eql, bin_neq, bin_lss, bin_leq, bin_gtr, bin_geq, bin_sadd, bin_seq, bin_sne, bin_slt, bin_sgt, bin_sge, bin_sle, nil_ptr, fld_ptr, ld_one, one_int, one_bool, one_str, one_slice, one_ptr, one_map, ext_tuple, ixa_slice, ixa_arr, ixs_str, lens_str, lenl_sl, un_not, un_neg, cvt_int, min_int, max_int, bd_none, bd_some, sls_str, sll_sl, isB_t, isB_f, cond_true, cond_false, pick_t, pick_f, pick_or, pick_and, condW_true, condW_false, add_mk, cell_eq, cellO_some, frozen_eq, frO_zero, setO_some, heap_drew, size_drew, size_set, size_alloc, exists_eq_left', Option.some.injEq, true_and, and_true, Option.isSome_some, Option.map_some, List.getElem?_toArray, List.getElem?_cons_zero, List.getElem?_cons_succ, List.size_toArray, List.length_cons, List.length_nil, List.setIfInBounds_toArray, List.set_cons_zero, List.set_cons_succ, List.getD_cons_zero, List.getD_cons_succ, Nat.zero_add, Nat.add_zero, Nat.reduceAdd, Bool.not_true, Bool.not_false, ne_eq, not_true_eq_false, not_false_eq_true, reduceCtorEq, decide_true, decide_false, ne_pn, e30])
    refine GdW.t ?_
    refine paths_fs h6.fs h6.ok fun pv w7 hpv hx7 => ?_
    rw [lenl_at hpv, f6, n6]
    (try simp only [Bool.and_true, Bool.and_false, Bool.true_and, Bool.false_and, Bool.or_true, Bool.or_false, Bool.true_or, Bool.false_or, put_nil, put_map, put_int, put_str, put_bool, put_ptr, put_slice, Nat.lt_add_one, Nat.zero_lt_succ, Nat.reduceLT, bin_add, bin_sub, bin_mul, bin_quo, bin_rem, bin_eql, bin_neq, bin_lss, bin_leq, bin_gtr, bin_geq, bin_sadd, bin_seq, bin_sne, bin_slt, bin_sgt, bin_sge, bin_sle, nil_ptr, fld_ptr, ld_one, one_int, one_bool, one_str, one_slice, one_ptr, one_map, ext_tuple, ixa_slice, ixa_arr, ixs_str, lens_str, lenl_sl, un_not, un_neg, cvt_int, min_int, max_int, bd_none, bd_some, sls_str, sll_sl, isB_t, isB_f, cond_true, cond_false, pick_t, pick_f, pick_or, pick_and, condW_true, condW_false, add_mk, cell_eq, cellO_some, frozen_eq, frO_zero, setO_some, heap_drew, size_drew, size_set, size_alloc, exists_eq_left', Option.some.injEq, true_and, and_true, Option.isSome_some, Option.map_some, List.getElem?_toArray, List.getElem?_cons_zero, List.getElem?_cons_succ, List.size_toArray, List.length_cons, List.length_nil, List.setIfInBounds_toArray, List.set_cons_zero, List.set_cons_succ, List.getD_cons_zero, List.getD_cons_succ, Nat.zero_add, Nat.add_zero, Nat.reduceAdd, Bool.not_true, Bool.not_false, ne_eq, not_true_eq_false, not_false_eq_true, reduceCtorEq, decide_true, decide_false])
    intro g
    (try simp only [Bool.and_true, Bool.and_false, Bool.true_and, Bool.false_and, Bool.or_true, Bool.or_false, Bool.true_or, Bool.false_or, put_nil, put_map, put_int, put_str, put_bool, put_ptr, put_slice, Nat.lt_add_one, Nat.zero_lt_succ, Nat.reduceLT, bin_add, bin_sub, bin_mul, bin_quo, bin_rem, bin_eql, bin_neq, bin_lss, bin_leq, bin_gtr, bin_geq, bin_sadd, bin_seq, bin_sne, bin_slt, bin_sgt, bin_sge, bin_sle, nil_ptr, fld_ptr, ld_one, one_int, one_bool, one_str, one_slice, one_ptr, one_map, ext_tuple, ixa_slice, ixa_arr, ixs_str, lens_str, lenl_sl, un_not, un_neg, cvt_int, min_int, max_int, bd_none, bd_some, sls_str, sll_sl, isB_t, isB_f, cond_true, cond_false, pick_t, pick_f, pick_or, pick_and, condW_true, condW_false, add_mk, cell_eq, cellO_some, frozen_eq, frO_zero, setO_some, heap_drew, size_drew, size_set, size_alloc, exists_eq_left', Option.some.injEq, true_and, and_true, Option.isSome_some, Option.map_some, List.getElem?_toArray, List.getElem?_cons_zero, List.getElem?_cons_succ, List.size_toArray, List.length_cons, List.length_nil, List.setIfInBounds_toArray, List.set_cons_zero, List.set_cons_succ, List.getD_cons_zero, List.getD_cons_succ, Nat.zero_add, Nat.add_zero, Nat.reduceAdd, Bool.not_true, Bool.not_false, ne_eq, not_true_eq_false, not_false_eq_true, reduceCtorEq, decide_true, decide_false])
    exact hK _ (h6.more hx7).ext
  rw [c6]
  (try simp only [Bool.and_true, Bool.and_false, Bool.true_and, Bool.false_and, Bool.or_true, Bool.or_false, Bool.true_or, Bool.false_or, put_nil, put_map, put_int, put_str, put_bool, put_ptr, put_slice, Nat.lt_add_one, Nat.zero_lt_succ, Nat.reduceLT, bin_add, bin_sub, bin_mul, bin_quo, bin_rem, bin_eql, bin_neq, bin_lss, bin_leq, bin_gtr, bin_geq, bin_sadd, bin_seq, bin_sne, bin_slt, bin_sgt, bin_sge, bin_sle, nil_ptr, fld_ptr, ld_one, one_int, one_bool, one_str, one_slice, one_ptr, one_map, ext_tuple, ixa_slice, ixa_arr, ixs_str, lens_str, lenl_sl, un_not, un_neg, cvt_int, min_int, max_int, bd_none, bd_some, sls_str, sll_sl, isB_t, isB_f, cond_true, cond_false, pick_t, pick_f, pick_or, pick_and, condW_true, condW_false, add_mk, cell_eq, cellO_some, frozen_eq, frO_zero, setO_some, heap_drew, size_drew, size_set, size_alloc, exists_eq_left', Option.some.injEq, true_and, and_true, Option.isSome_some, Option.map_some, List.getElem?_toArray, List.getElem?_cons_zero, List.getElem?_cons_succ, List.size_toArray, List.length_cons, List.length_nil, List.setIfInBounds_toArray, List.set_cons_zero, List.set_cons_succ, List.getD_cons_zero, List.getD_cons_succ, Nat.zero_add, Nat.add_zero, Nat.reduceAdd, Bool.not_true, Bool.not_false, ne_eq, not_true_eq_false, not_false_eq_true, reduceCtorEq, decide_true, decide_false])
  intro g
  (try simp only [Bool.and_true, Bool.and_false, Bool.true_and, Bool.false_and, Bool.or_true, Bool.or_false, Bool.true_or, Bool.false_or, put_nil, put_map, put_int, put_str, put_bool, put_ptr, put_slice, Nat.lt_add_one, Nat.zero_lt_succ, Nat.reduceLT, bin_add, bin_sub, bin_mul, bin_quo, bin_rem, bin_eql, bin_neq, bin_lss, bin_leq, bin_gtr, bin_geq, bin_sadd, bin_seq, bin_sne, bin_slt, bin_sgt, bin_sge, bin_sle, nil_ptr, fld_ptr, ld_one, one_int, one_bool, one_str, one_slice, one_ptr, one_map, ext_tuple, ixa_slice, ixa_arr, ixs_str, lens_str, lenl_sl, un_not, un_neg, cvt_int, min_int, max_int, bd_none, bd_some, sls_str, sll_sl, isB_t, isB_f, cond_true, cond_false, pick_t, pick_f, pick_or, pick_and, condW_true, condW_false, add_mk, cell_eq, cellO_some, frozen_eq, frO_zero, setO_some, heap_drew, size_drew, size_set, size_alloc, exists_eq_left', Option.some.injEq, true_and, and_true, Option.isSome_some, Option.map_some, List.getElem?_toArray, List.getElem?_cons_zero, List.getElem?_cons_succ, List.size_toArray, List.length_cons, List.length_nil, List.setIfInBounds_toArray, List.set_cons_zero, List.set_cons_succ, List.getD_cons_zero, List.getD_cons_succ, Nat.zero_add, Nat.add_zero, Nat.reduceAdd, Bool.not_true, Bool.not_false, ne_eq, not_true_eq_false, not_false_eq_true, reduceCtorEq, decide_true, decide_false])
  generalize (writeM s newS data false).1 = s6 at *
  have k6 : lkM s6.files newS = some ⟨data, ((lkM s.files newS).map (·.safe)).getD [], ((lkM s.files newS).map (·.saved)).getD false⟩ := by rw [f6, lk_wth, if_pos rfl]
  refine fsync (p := newS) h6 fun w7 h7 hc7 => ?_
  obtain ⟨c7, al7, f7⟩ := sure_sync al6 k6
  have hd7 := Byt.mut hd6 h6.fs hc7
  have hk7 : SlAt w7 T1 kv keep.length (keep.map i64) := SlAt.ext hk h7.ext
  rw [c7]
  (try simp only [Bool.and_true, Bool.and_false, Bool.true_and, Bool.false_and, Bool.or_true, Bool.or_false, Bool.true_or, Bool.false_or, put_nil, put_map, put_int, put_str, put_bool, put_ptr, put_slice, Nat.lt_add_one, Nat.zero_lt_succ, Nat.reduceLT, bin_add, bin_sub, bin_mul, bin_quo, bin_rem, bin_eql, bin_neq, bin_lss, bin_leq, bin_gtr, bin_geq, bin_sadd, bin_seq, bin_sne, bin_slt, bin_sgt, bin_sge, bin_sle, nil_ptr, fld_ptr, ld_one, one_int, one_bool, one_str, one_slice, one_ptr, one_map, ext_tuple, ixa_slice, ixa_arr, ixs_str, lens_str, lenl_sl, un_not, un_neg, cvt_int, min_int, max_int, bd_none, bd_some, sls_str, sll_sl, isB_t, isB_f, cond_true, cond_false, pick_t, pick_f, pick_or, pick_and, condW_true, condW_false, add_mk, cell_eq, cellO_some, frozen_eq, frO_zero, setO_some, heap_drew, size_drew, size_set, size_alloc, exists_eq_left', Option.some.injEq, true_and, and_true, Option.isSome_some, Option.map_some, List.getElem?_toArray, List.getElem?_cons_zero, List.getElem?_cons_succ, List.size_toArray, List.length_cons, List.length_nil, List.setIfInBounds_toArray, List.set_cons_zero, List.set_cons_succ, List.getD_cons_zero, List.getD_cons_succ, Nat.zero_add, Nat.add_zero, Nat.reduceAdd, Bool.not_true, Bool.not_false, ne_eq, not_true_eq_false, not_false_eq_true, reduceCtorEq, decide_true, decide_false])
  generalize (syncM s6 newS).1 = s7 at *
  have k7 : lkM s7.files newS = some ⟨data, data, true⟩ := by rw [f7, lk_wth, if_pos rfl]
  clear k6 f6 f7
  refine fcrash h7 hk7 fun b8 m8 w8 h8 => ?_
  have q8 := sure_crash (keep := keep) h7.ok.srt k7
  refine fread (p := newS) h8 fun bv w9 hbv hx9 => ?_
  rw [q8] at hbv ⊢
  simp only [Option.getD_some] at hbv
  have hx79 := h8.ext.trans hx9
  have h9 := h7.more hx79
  have hd9 := SlAt.ext hd7 hx79
  have hk9 : SlAt w9 T1 kv keep.length (keep.map i64) := SlAt.ext hk h9.ext
  have edd : decide (data ≠ data) = false := decide_eq_false (fun h => h rfl)
  (try simp only [Bool.and_true, Bool.and_false, Bool.true_and, Bool.false_and, Bool.or_true, Bool.or_false, Bool.true_or, Bool.false_or, put_nil, put_map, put_int, put_str, put_bool, put_ptr, put_slice, Nat.lt_add_one, Nat.zero_lt_succ, Nat.reduceLT, bin_add, bin_sub, bin_mul, bin_quo, bin_rem, bin_eql, bin_neq, bin_lss, bin_leq, bin_gtr, bin_geq, bin_sadd, bin_seq, bin_sne, bin_slt, bin_sgt, bin_sge, bin_sle, nil_ptr, fld_ptr, ld_one, one_int, one_bool, one_str, one_slice, one_ptr, one_map, ext_tuple, ixa_slice, ixa_arr, ixs_str, lens_str, lenl_sl, un_not, un_neg, cvt_int, min_int, max_int, bd_none, bd_some, sls_str, sll_sl, isB_t, isB_f, cond_true, cond_false, pick_t, pick_f, pick_or, pick_and, condW_true, condW_false, add_mk, cell_eq, cellO_some, frozen_eq, frO_zero, setO_some, heap_drew, size_drew, size_set, size_alloc, exists_eq_left', Option.some.injEq, true_and, and_true, Option.isSome_some, Option.map_some, List.getElem?_toArray, List.getElem?_cons_zero, List.getElem?_cons_succ, List.size_toArray, List.length_cons, List.length_nil, List.setIfInBounds_toArray, List.set_cons_zero, List.set_cons_succ, List.getD_cons_zero, List.getD_cons_succ, Nat.zero_add, Nat.add_zero, Nat.reduceAdd, Bool.not_true, Bool.not_false, ne_eq, not_true_eq_false, not_false_eq_true, reduceCtorEq, decide_true, decide_false])
  refine GdW.t ?_
  rw [conv_b hbv, conv_b hd9]
  (try simp only [Bool.and_true, Bool.and_false, Bool.true_and, Bool.false_and, Bool.or_true, Bool.or_false, Bool.true_or, Bool.false_or, put_nil, put_map, put_int, put_str, put_bool, put_ptr, put_slice, Nat.lt_add_one, Nat.zero_lt_succ, Nat.reduceLT, bin_add, bin_sub, bin_mul, bin_quo, bin_rem, bin_eql, bin_neq, bin_lss, bin_leq, bin_gtr, bin_geq, bin_sadd, bin_seq, bin_sne, bin_slt, bin_sgt, bin_sge, bin_sle, nil_ptr, fld_ptr, ld_one, one_int, one_bool, one_str, one_slice, one_ptr, one_map, ext_tuple, ixa_slice, ixa_arr, ixs_str, lens_str, lenl_sl, un_not, un_neg, cvt_int, min_int, max_int, bd_none, bd_some, sls_str, sll_sl, isB_t, isB_f, cond_true, cond_false, pick_t, pick_f, pick_or, pick_and, condW_true, condW_false, add_mk, cell_eq, cellO_some, frozen_eq, frO_zero, setO_some, heap_drew, size_drew, size_set, size_alloc, exists_eq_left', Option.some.injEq, true_and, and_true, Option.isSome_some, Option.map_some, List.getElem?_toArray, List.getElem?_cons_zero, List.getElem?_cons_succ, List.size_toArray, List.length_cons, List.length_nil, List.setIfInBounds_toArray, List.set_cons_zero, List.set_cons_succ, List.getD_cons_zero, List.getD_cons_succ, Nat.zero_add, Nat.add_zero, Nat.reduceAdd, Bool.not_true, Bool.not_false, ne_eq, not_true_eq_false, not_false_eq_true, reduceCtorEq, decide_true, decide_false, edd])
  intro g
  (try simp only [bslW])
  (try simp only [Bool.and_true, Bool.and_false, Bool.true_and, Bool.false_and, Bool.or_true, Bool.or_false, Bool.true_or, Bool.false_or, put_nil, put_map, put_int, put_str, put_bool, put_ptr, put_slice, Nat.lt_add_one, Nat.zero_lt_succ, Nat.reduceLT, bin_add, bin_sub, bin_mul, bin_quo, bin_rem, bin_eql, bin_neq, bin_lss, bin_leq, bin_gtr, bin_geq, bin_sadd, bin_seq, bin_sne, bin_slt, bin_sgt, bin_sge, bin_sle, nil_ptr, fld_ptr, ld_one, one_int, one_bool, one_str, one_slice, one_ptr, one_map, ext_tuple, ixa_slice, ixa_arr, ixs_str, lens_str, lenl_sl, un_not, un_neg, cvt_int, min_int, max_int, bd_none, bd_some, sls_str, sll_sl, isB_t, isB_f, cond_true, cond_false, pick_t, pick_f, pick_or, pick_and, condW_true, condW_false, add_mk, cell_eq, cellO_some, frozen_eq, frO_zero, setO_some, heap_drew, size_drew, size_set, size_alloc, exists_eq_left', Option.some.injEq, true_and, and_true, Option.isSome_some, Option.map_some, List.getElem?_toArray, List.getElem?_cons_zero, List.getElem?_cons_succ, List.size_toArray, List.length_cons, List.length_nil, List.setIfInBounds_toArray, List.set_cons_zero, List.set_cons_succ, List.getD_cons_zero, List.getD_cons_succ, Nat.zero_add, Nat.add_zero, Nat.reduceAdd, Bool.not_true, Bool.not_false, ne_eq, not_true_eq_false, not_false_eq_true, reduceCtorEq, decide_true, decide_false])
  have hbx := byt_lit [120] w9 (by simp)
  have hown := own_new (w := w9) (base := w9.heap.size) (e := UT) (size := 1) (n := 1) (cs := u8s [120]) (Nat.le_refl _) rfl (by omega)
  have hxa : Ext w9 (w9.alloc (.cells (u8s [120]).toArray UT)) := (by repeat (first | assumption | exact Chg.refl _ _ | refine Chg.drew ?_ | refine Chg.alloc ?_ _ | refine Chg.set ?_ (by first | exact .inl rfl | exact .inr (by omega) | exact .inr (by simp only [size_set, size_alloc, size_drew]; omega) | (left; simp; done)) _ | exact Chg.of_ext (by assumption)))
  refine append_own elem_u8 (base := w9.heap.size) hown (SlAt.ext hd9 hxa) (by rw [u8s_length]; omega) (u8s_one data) (by omega) (by omega) (by rw [size_alloc]; omega) fun tv w10 htv hc10 _ => ?_
  have hxa10 : Ext w9 w10 := hxa.then hc10 fun k hk e => by have := e.1; omega
  have htv : Byt w10 UT tv ([120] ++ data) := by
    have := htv.sl
    rw [← u8s_app] at this
    simp only [Byt, List.length_append, List.length_cons, List.length_nil]
    exact this
  have h10 := h9.more hxa10
  have hd10 := SlAt.ext hd9 hxa10
  refine fwrite (p := newS) h10 htv fun w11 h11 hc11 => ?_
  have hd11 := Byt.mut hd10 h10.fs hc11
  have hk11 : SlAt w11 T1 kv keep.length (keep.map i64) := SlAt.ext hk h11.ext
  have h3n : ¬ ((writeM s7 newS ([120] ++ data) false).2 = 3) := by
    have hnot : ¬ (([120] ++ data).length > 65536 ∨ (lkM s7.files newS = none ∧ 64 ≤ s7.files.length)) := by
      rintro (h | h)
      · simp only [List.length_append, List.length_cons, List.length_nil] at h; omega
      · rw [k7] at h; cases h.1
    unfold writeM
    rw [if_neg (by rw [new_good]; decide), if_neg hnot, if_neg (by simp), if_neg (by simp [(alive_step al7).1])]
    simp
  rcases sure_write al7 h10.ok (data := [120] ++ data) (by simp only [List.length_append, List.length_cons, List.length_nil]; omega) with ⟨c11, _, _⟩ | ⟨c11, al11, f11⟩
  · exact absurd c11 h3n
  rw [c11]
  (try simp only [Bool.and_true, Bool.and_false, Bool.true_and, Bool.false_and, Bool.or_true, Bool.or_false, Bool.true_or, Bool.false_or, put_nil, put_map, put_int, put_str, put_bool, put_ptr, put_slice, Nat.lt_add_one, Nat.zero_lt_succ, Nat.reduceLT, bin_add, bin_sub, bin_mul, bin_quo, bin_rem, bin_eql, bin_neq, bin_lss, bin_leq, bin_gtr, bin_geq, bin_sadd, bin_seq, bin_sne, bin_slt, bin_sgt, bin_sge, bin_sle, nil_ptr, fld_ptr, ld_one, one_int, one_bool, one_str, one_slice, one_ptr, one_map, ext_tuple, ixa_slice, ixa_arr, ixs_str, lens_str, lenl_sl, un_not, un_neg, cvt_int, min_int, max_int, bd_none, bd_some, sls_str, sll_sl, isB_t, isB_f, cond_true, cond_false, pick_t, pick_f, pick_or, pick_and, condW_true, condW_false, add_mk, cell_eq, cellO_some, frozen_eq, frO_zero, setO_some, heap_drew, size_drew, size_set, size_alloc, exists_eq_left', Option.some.injEq, true_and, and_true, Option.isSome_some, Option.map_some, List.getElem?_toArray, List.getElem?_cons_zero, List.getElem?_cons_succ, List.size_toArray, List.length_cons, List.length_nil, List.setIfInBounds_toArray, List.set_cons_zero, List.set_cons_succ, List.getD_cons_zero, List.getD_cons_succ, Nat.zero_add, Nat.add_zero, Nat.reduceAdd, Bool.not_true, Bool.not_false, ne_eq, not_true_eq_false, not_false_eq_true, reduceCtorEq, decide_true, decide_false])
  have k11 : lkM (writeM s7 newS ([120] ++ data) false).1.files newS = some ⟨[120] ++ data, data, true⟩ := by rw [f11, lk_wth, if_pos rfl, k7]; rfl
  generalize (writeM s7 newS ([120] ++ data) false).1 = s11 at *
  clear f11 h3n
  refine fcrash h11 hk11 fun b12 m12 w12 h12 => ?_
  obtain ⟨u, q12, hu⟩ := half_crash (keep := keep) h11.ok.srt k11
  refine fread (p := newS) h12 fun bu w13 hbu hx13 => ?_
  rw [q12] at hbu ⊢
  simp only [Option.getD_some] at hbu
  have hx1113 := h12.ext.trans hx13
  have h13 := h11.more hx1113
  have hd13 := SlAt.ext hd11 hx1113
  (try simp only [Bool.and_true, Bool.and_false, Bool.true_and, Bool.false_and, Bool.or_true, Bool.or_false, Bool.true_or, Bool.false_or, put_nil, put_map, put_int, put_str, put_bool, put_ptr, put_slice, Nat.lt_add_one, Nat.zero_lt_succ, Nat.reduceLT, bin_add, bin_sub, bin_mul, bin_quo, bin_rem, bin_eql, bin_neq, bin_lss, bin_leq, bin_gtr, bin_geq, bin_sadd, bin_seq, bin_sne, bin_slt, bin_sgt, bin_sge, bin_sle, nil_ptr, fld_ptr, ld_one, one_int, one_bool, one_str, one_slice, one_ptr, one_map, ext_tuple, ixa_slice, ixa_arr, ixs_str, lens_str, lenl_sl, un_not, un_neg, cvt_int, min_int, max_int, bd_none, bd_some, sls_str, sll_sl, isB_t, isB_f, cond_true, cond_false, pick_t, pick_f, pick_or, pick_and, condW_true, condW_false, add_mk, cell_eq, cellO_some, frozen_eq, frO_zero, setO_some, heap_drew, size_drew, size_set, size_alloc, exists_eq_left', Option.some.injEq, true_and, and_true, Option.isSome_some, Option.map_some, List.getElem?_toArray, List.getElem?_cons_zero, List.getElem?_cons_succ, List.size_toArray, List.length_cons, List.length_nil, List.setIfInBounds_toArray, List.set_cons_zero, List.set_cons_succ, List.getD_cons_zero, List.getD_cons_succ, Nat.zero_add, Nat.add_zero, Nat.reduceAdd, Bool.not_true, Bool.not_false, ne_eq, not_true_eq_false, not_false_eq_true, reduceCtorEq, decide_true, decide_false])
  rw [conv_b hd13]
  (try simp only [Bool.and_true, Bool.and_false, Bool.true_and, Bool.false_and, Bool.or_true, Bool.or_false, Bool.true_or, Bool.false_or, put_nil, put_map, put_int, put_str, put_bool, put_ptr, put_slice, Nat.lt_add_one, Nat.zero_lt_succ, Nat.reduceLT, bin_add, bin_sub, bin_mul, bin_quo, bin_rem, bin_eql, bin_neq, bin_lss, bin_leq, bin_gtr, bin_geq, bin_sadd, bin_seq, bin_sne, bin_slt, bin_sgt, bin_sge, bin_sle, nil_ptr, fld_ptr, ld_one, one_int, one_bool, one_str, one_slice, one_ptr, one_map, ext_tuple, ixa_slice, ixa_arr, ixs_str, lens_str, lenl_sl, un_not, un_neg, cvt_int, min_int, max_int, bd_none, bd_some, sls_str, sll_sl, isB_t, isB_f, cond_true, cond_false, pick_t, pick_f, pick_or, pick_and, condW_true, condW_false, add_mk, cell_eq, cellO_some, frozen_eq, frO_zero, setO_some, heap_drew, size_drew, size_set, size_alloc, exists_eq_left', Option.some.injEq, true_and, and_true, Option.isSome_some, Option.map_some, List.getElem?_toArray, List.getElem?_cons_zero, List.getElem?_cons_succ, List.size_toArray, List.length_cons, List.length_nil, List.setIfInBounds_toArray, List.set_cons_zero, List.set_cons_succ, List.getD_cons_zero, List.getD_cons_succ, Nat.zero_add, Nat.add_zero, Nat.reduceAdd, Bool.not_true, Bool.not_false, ne_eq, not_true_eq_false, not_false_eq_true, reduceCtorEq, decide_true, decide_false])
  have hmax : IntKind.i64.max = 9223372036854775807 := by decide
  refine ⟨by rw [hmax]; simp only [List.length_cons, List.length_nil] at *; omega, ?_⟩
  have hxd : Ext w13 w13.drew := (by repeat (first | assumption | exact Chg.refl _ _ | refine Chg.drew ?_ | refine Chg.alloc ?_ _ | refine Chg.set ?_ (by first | exact .inl rfl | exact .inr (by omega) | exact .inr (by simp only [size_set, size_alloc, size_drew]; omega) | (left; simp; done)) _ | exact Chg.of_ext (by assumption)))
  have h14 := h13.more hxd
  have hd14 := SlAt.ext hd13 hxd
  have hbu := hbu.ext hxd
  generalize w13.drew = w14 at *
  (try simp only [isB_t, isB_f])
  refine GqW.t bu rfl ?_
  refine GqW.t (str u) (by rw [conv_b hbu]) ?_
  refine GqW.t dv' rfl ?_
  refine GqW.t (str data) (by rw [conv_b hd14]) ?_
  refine GqW.t (.bool (decide (u ≠ data))) (by rw [bin_sne]) ?_
  refine GqW.t (.bool (decide (u ≠ data))) rfl ?_
  have hrest : ∀ (KK : Value → Prop), KK (.bool false) → (GqW (isB (.bool (decide (u ≠ data))) true) (fun k28 => k28 bu) fun t92 =>
      GqW (isB (.bool (decide (u ≠ data))) true) (fun k29 => lenlW t92 k29) fun t93 =>
      GqW (isB (.bool (decide (u ≠ data))) true) (fun k30 => k30 (str ([120] ++ data))) fun t94 =>
      GqW (isB (.bool (decide (u ≠ data))) true) (fun k31 => lensW t94 k31) fun t95 =>
      GqW (isB (.bool (decide (u ≠ data))) true) (fun k32 => binW .gtr t93 t95 k32) fun t96 =>
      GqW (isB (.bool (decide (u ≠ data))) true) (fun k33 => k33 t96) fun t97 =>
      GqW (isB t97 false) (fun k34 => k34 bu) fun t98 =>
      GqW (isB t97 false) (fun k35 => semQ Try.prog (convert 27 9 t98) w14 k35) fun t99 =>
      GqW (isB t97 false) (fun k36 => k36 (str ([120] ++ data))) fun t100 =>
      GqW (isB t97 false) (fun k37 => k37 bu) fun t101 =>
      GqW (isB t97 false) (fun k38 => lenlW t101 k38) fun t102 =>
      GqW (isB t97 false) (fun k39 => slsW t100 none (some t102) k39) fun t103 =>
      GqW (isB t97 false) (fun k40 => binW .neq t99 t103 k40) fun t104 =>
      GqW (isB (.bool (decide (u ≠ data))) true) (fun k41 => pickW t97 (.bool true) t104 k41) fun t105 =>
      GqW true (fun k42 => pickW (.bool (decide (u ≠ data))) t105 (.bool false) k42) fun t106 => KK t106) := by
    intro KK hk
    by_cases hud : u = data
    · have e : decide (u ≠ data) = false := decide_eq_false (fun h => h hud)
      rw [e]
      refine GqW.f ?_
      refine GqW.f ?_
      refine GqW.f ?_
      refine GqW.f ?_
      refine GqW.f ?_
      refine GqW.f ?_
      refine GqW.f ?_
      refine GqW.f ?_
      refine GqW.f ?_
      refine GqW.f ?_
      refine GqW.f ?_
      refine GqW.f ?_
      refine GqW.f ?_
      refine GqW.f ?_
      exact GqW.t (.bool false) rfl hk
    · have e : decide (u ≠ data) = true := decide_eq_true hud
      rw [e]
      obtain ⟨n, hun⟩ := hu.resolve_left hud
      have hul : u.length ≤ ([120] ++ data).length := by rw [hun, List.length_take]; exact Nat.min_le_right _ _
      have htk : ([120] ++ data).take u.length = u := by
        rw [hun, List.length_take, List.take_eq_take_iff]
        simp
      refine GqW.t bu rfl ?_
      refine GqW.t (i64 u.length) (by rw [lenl_at hbu]) ?_
      refine GqW.t (str ([120] ++ data)) rfl ?_
      refine GqW.t (i64 ([120] ++ data).length) (by rw [lens_str]) ?_
      refine GqW.t (.bool false) (by rw [bin_gtr]; exact congrArg Value.bool (decide_eq_false (by omega))) ?_
      refine GqW.t (.bool false) rfl ?_
      refine GqW.t bu rfl ?_
      refine GqW.t (str u) (by rw [conv_b hbu]) ?_
      refine GqW.t (str ([120] ++ data)) rfl ?_
      refine GqW.t bu rfl ?_
      refine GqW.t (i64 u.length) (by rw [lenl_at hbu]) ?_
      refine GqW.t (str u) (by
        rw [sls_str]
        simp only [bd_none, bd_some]
        refine ⟨by omega, by omega, ?_⟩
        rw [Int.toNat_natCast, htk, List.drop_zero]) ?_
      refine GqW.t (.bool false) (by rw [bin_sne]; exact congrArg Value.bool (decide_eq_false (fun h => h rfl))) ?_
      refine GqW.t (.bool false) rfl ?_
      exact GqW.t (.bool false) rfl hk
  refine hrest _ ?_
  clear hrest
  (try simp only [Bool.and_true, Bool.and_false, Bool.true_and, Bool.false_and, Bool.or_true, Bool.or_false, Bool.true_or, Bool.false_or, put_nil, put_map, put_int, put_str, put_bool, put_ptr, put_slice, Nat.lt_add_one, Nat.zero_lt_succ, Nat.reduceLT, bin_add, bin_sub, bin_mul, bin_quo, bin_rem, bin_eql, bin_neq, bin_lss, bin_leq, bin_gtr, bin_geq, bin_sadd, bin_seq, bin_sne, bin_slt, bin_sgt, bin_sge, bin_sle, nil_ptr, fld_ptr, ld_one, one_int, one_bool, one_str, one_slice, one_ptr, one_map, ext_tuple, ixa_slice, ixa_arr, ixs_str, lens_str, lenl_sl, un_not, un_neg, cvt_int, min_int, max_int, bd_none, bd_some, sls_str, sll_sl, isB_t, isB_f, cond_true, cond_false, pick_t, pick_f, pick_or, pick_and, condW_true, condW_false, add_mk, cell_eq, cellO_some, frozen_eq, frO_zero, setO_some, heap_drew, size_drew, size_set, size_alloc, exists_eq_left', Option.some.injEq, true_and, and_true, Option.isSome_some, Option.map_some, List.getElem?_toArray, List.getElem?_cons_zero, List.getElem?_cons_succ, List.size_toArray, List.length_cons, List.length_nil, List.setIfInBounds_toArray, List.set_cons_zero, List.set_cons_succ, List.getD_cons_zero, List.getD_cons_succ, Nat.zero_add, Nat.add_zero, Nat.reduceAdd, Bool.not_true, Bool.not_false, ne_eq, not_true_eq_false, not_false_eq_true, reduceCtorEq, decide_true, decide_false])
  refine fsync (p := newS) h14 fun w15 h15 hc15 => ?_
  obtain ⟨c15, al15, f15⟩ := sure_sync al11 k11
  have hk15 : SlAt w15 T1 kv keep.length (keep.map i64) := SlAt.ext hk h15.ext
  generalize (syncM s11 newS).1 = s15 at *
  have k15 : lkM s15.files newS = some ⟨[120] ++ data, [120] ++ data, true⟩ := by rw [f15, lk_wth, if_pos rfl]
  clear k11 f15
  refine frename (p := newS) (q := oldS) h15 fun w16 h16 hc16 => ?_
  obtain ⟨c16, f16⟩ := sure_rename al15 k15
  have hk16 : SlAt w16 T1 kv keep.length (keep.map i64) := SlAt.ext hk h16.ext
  rw [c16]
  (try simp only [Bool.and_true, Bool.and_false, Bool.true_and, Bool.false_and, Bool.or_true, Bool.or_false, Bool.true_or, Bool.false_or, put_nil, put_map, put_int, put_str, put_bool, put_ptr, put_slice, Nat.lt_add_one, Nat.zero_lt_succ, Nat.reduceLT, bin_add, bin_sub, bin_mul, bin_quo, bin_rem, bin_eql, bin_neq, bin_lss, bin_leq, bin_gtr, bin_geq, bin_sadd, bin_seq, bin_sne, bin_slt, bin_sgt, bin_sge, bin_sle, nil_ptr, fld_ptr, ld_one, one_int, one_bool, one_str, one_slice, one_ptr, one_map, ext_tuple, ixa_slice, ixa_arr, ixs_str, lens_str, lenl_sl, un_not, un_neg, cvt_int, min_int, max_int, bd_none, bd_some, sls_str, sll_sl, isB_t, isB_f, cond_true, cond_false, pick_t, pick_f, pick_or, pick_and, condW_true, condW_false, add_mk, cell_eq, cellO_some, frozen_eq, frO_zero, setO_some, heap_drew, size_drew, size_set, size_alloc, exists_eq_left', Option.some.injEq, true_and, and_true, Option.isSome_some, Option.map_some, List.getElem?_toArray, List.getElem?_cons_zero, List.getElem?_cons_succ, List.size_toArray, List.length_cons, List.length_nil, List.setIfInBounds_toArray, List.set_cons_zero, List.set_cons_succ, List.getD_cons_zero, List.getD_cons_succ, Nat.zero_add, Nat.add_zero, Nat.reduceAdd, Bool.not_true, Bool.not_false, ne_eq, not_true_eq_false, not_false_eq_true, reduceCtorEq, decide_true, decide_false])
  generalize (renameM s15 newS oldS).1 = s16 at *
  have k16 : lkM s16.files oldS = some ⟨[120] ++ data, [120] ++ data, true⟩ := by rw [f16, lk_wth, if_pos rfl]
  have n16 : lkM s16.files newS = none := by rw [f16, lk_wth, if_neg new_old, lk_wo, if_pos rfl]
  refine fcrash h16 hk16 fun b17 m17 w17 h17 => ?_
  have q17 := sure_crash (keep := keep) h16.ok.srt k16
  have z17 : lkM (crashM s16 keep).files newS = none := lk_crash_none keep n16
  refine fread (p := oldS) h17 fun b18 w18 hb18 hx18 => ?_
  rw [q17] at hb18 ⊢
  simp only [Option.getD_some] at hb18
  (try simp only [Bool.and_true, Bool.and_false, Bool.true_and, Bool.false_and, Bool.or_true, Bool.or_false, Bool.true_or, Bool.false_or, put_nil, put_map, put_int, put_str, put_bool, put_ptr, put_slice, Nat.lt_add_one, Nat.zero_lt_succ, Nat.reduceLT, bin_add, bin_sub, bin_mul, bin_quo, bin_rem, bin_eql, bin_neq, bin_lss, bin_leq, bin_gtr, bin_geq, bin_sadd, bin_seq, bin_sne, bin_slt, bin_sgt, bin_sge, bin_sle, nil_ptr, fld_ptr, ld_one, one_int, one_bool, one_str, one_slice, one_ptr, one_map, ext_tuple, ixa_slice, ixa_arr, ixs_str, lens_str, lenl_sl, un_not, un_neg, cvt_int, min_int, max_int, bd_none, bd_some, sls_str, sll_sl, isB_t, isB_f, cond_true, cond_false, pick_t, pick_f, pick_or, pick_and, condW_true, condW_false, add_mk, cell_eq, cellO_some, frozen_eq, frO_zero, setO_some, heap_drew, size_drew, size_set, size_alloc, exists_eq_left', Option.some.injEq, true_and, and_true, Option.isSome_some, Option.map_some, List.getElem?_toArray, List.getElem?_cons_zero, List.getElem?_cons_succ, List.size_toArray, List.length_cons, List.length_nil, List.setIfInBounds_toArray, List.set_cons_zero, List.set_cons_succ, List.getD_cons_zero, List.getD_cons_succ, Nat.zero_add, Nat.add_zero, Nat.reduceAdd, Bool.not_true, Bool.not_false, ne_eq, not_true_eq_false, not_false_eq_true, reduceCtorEq, decide_true, decide_false])
  refine fread (p := newS) (h17.more hx18) fun b19 w19 hb19 hx19 => ?_
  rw [z17]
  (try simp only [Bool.and_true, Bool.and_false, Bool.true_and, Bool.false_and, Bool.or_true, Bool.or_false, Bool.true_or, Bool.false_or, put_nil, put_map, put_int, put_str, put_bool, put_ptr, put_slice, Nat.lt_add_one, Nat.zero_lt_succ, Nat.reduceLT, bin_add, bin_sub, bin_mul, bin_quo, bin_rem, bin_eql, bin_neq, bin_lss, bin_leq, bin_gtr, bin_geq, bin_sadd, bin_seq, bin_sne, bin_slt, bin_sgt, bin_sge, bin_sle, nil_ptr, fld_ptr, ld_one, one_int, one_bool, one_str, one_slice, one_ptr, one_map, ext_tuple, ixa_slice, ixa_arr, ixs_str, lens_str, lenl_sl, un_not, un_neg, cvt_int, min_int, max_int, bd_none, bd_some, sls_str, sll_sl, isB_t, isB_f, cond_true, cond_false, pick_t, pick_f, pick_or, pick_and, condW_true, condW_false, add_mk, cell_eq, cellO_some, frozen_eq, frO_zero, setO_some, heap_drew, size_drew, size_set, size_alloc, exists_eq_left', Option.some.injEq, true_and, and_true, Option.isSome_some, Option.map_some, List.getElem?_toArray, List.getElem?_cons_zero, List.getElem?_cons_succ, List.size_toArray, List.length_cons, List.length_nil, List.setIfInBounds_toArray, List.set_cons_zero, List.set_cons_succ, List.getD_cons_zero, List.getD_cons_succ, Nat.zero_add, Nat.add_zero, Nat.reduceAdd, Bool.not_true, Bool.not_false, ne_eq, not_true_eq_false, not_false_eq_true, reduceCtorEq, decide_true, decide_false])
  refine GdW.t ?_
  (try simp only [Bool.and_true, Bool.and_false, Bool.true_and, Bool.false_and, Bool.or_true, Bool.or_false, Bool.true_or, Bool.false_or, put_nil, put_map, put_int, put_str, put_bool, put_ptr, put_slice, Nat.lt_add_one, Nat.zero_lt_succ, Nat.reduceLT, bin_add, bin_sub, bin_mul, bin_quo, bin_rem, bin_eql, bin_neq, bin_lss, bin_leq, bin_gtr, bin_geq, bin_sadd, bin_seq, bin_sne, bin_slt, bin_sgt, bin_sge, bin_sle, nil_ptr, fld_ptr, ld_one, one_int, one_bool, one_str, one_slice, one_ptr, one_map, ext_tuple, ixa_slice, ixa_arr, ixs_str, lens_str, lenl_sl, un_not, un_neg, cvt_int, min_int, max_int, bd_none, bd_some, sls_str, sll_sl, isB_t, isB_f, cond_true, cond_false, pick_t, pick_f, pick_or, pick_and, condW_true, condW_false, add_mk, cell_eq, cellO_some, frozen_eq, frO_zero, setO_some, heap_drew, size_drew, size_set, size_alloc, exists_eq_left', Option.some.injEq, true_and, and_true, Option.isSome_some, Option.map_some, List.getElem?_toArray, List.getElem?_cons_zero, List.getElem?_cons_succ, List.size_toArray, List.length_cons, List.length_nil, List.setIfInBounds_toArray, List.set_cons_zero, List.set_cons_succ, List.getD_cons_zero, List.getD_cons_succ, Nat.zero_add, Nat.add_zero, Nat.reduceAdd, Bool.not_true, Bool.not_false, ne_eq, not_true_eq_false, not_false_eq_true, reduceCtorEq, decide_true, decide_false])
  intro g
  (try simp only [Bool.and_true, Bool.and_false, Bool.true_and, Bool.false_and, Bool.or_true, Bool.or_false, Bool.true_or, Bool.false_or, put_nil, put_map, put_int, put_str, put_bool, put_ptr, put_slice, Nat.lt_add_one, Nat.zero_lt_succ, Nat.reduceLT, bin_add, bin_sub, bin_mul, bin_quo, bin_rem, bin_eql, bin_neq, bin_lss, bin_leq, bin_gtr, bin_geq, bin_sadd, bin_seq, bin_sne, bin_slt, bin_sgt, bin_sge, bin_sle, nil_ptr, fld_ptr, ld_one, one_int, one_bool, one_str, one_slice, one_ptr, one_map, ext_tuple, ixa_slice, ixa_arr, ixs_str, lens_str, lenl_sl, un_not, un_neg, cvt_int, min_int, max_int, bd_none, bd_some, sls_str, sll_sl, isB_t, isB_f, cond_true, cond_false, pick_t, pick_f, pick_or, pick_and, condW_true, condW_false, add_mk, cell_eq, cellO_some, frozen_eq, frO_zero, setO_some, heap_drew, size_drew, size_set, size_alloc, exists_eq_left', Option.some.injEq, true_and, and_true, Option.isSome_some, Option.map_some, List.getElem?_toArray, List.getElem?_cons_zero, List.getElem?_cons_succ, List.size_toArray, List.length_cons, List.length_nil, List.setIfInBounds_toArray, List.set_cons_zero, List.set_cons_succ, List.getD_cons_zero, List.getD_cons_succ, Nat.zero_add, Nat.add_zero, Nat.reduceAdd, Bool.not_true, Bool.not_false, ne_eq, not_true_eq_false, not_false_eq_true, reduceCtorEq, decide_true, decide_false])
  refine GdW.t ?_
  rw [conv_b (SlAt.ext hb18 hx19)]
  have eww : decide (([120] ++ data : Str) = [120] ++ data) = true := decide_eq_true rfl
  (try simp only [Bool.and_true, Bool.and_false, Bool.true_and, Bool.false_and, Bool.or_true, Bool.or_false, Bool.true_or, Bool.false_or, put_nil, put_map, put_int, put_str, put_bool, put_ptr, put_slice, Nat.lt_add_one, Nat.zero_lt_succ, Nat.reduceLT, bin_add, bin_sub, bin_mul, bin_quo, bin_rem, bin_eql, bin_neq, bin_lss, bin_leq, bin_gtr, bin_geq, bin_sadd, bin_seq, bin_sne, bin_slt, bin_sgt, bin_sge, bin_sle, nil_ptr, fld_ptr, ld_one, one_int, one_bool, one_str, one_slice, one_ptr, one_map, ext_tuple, ixa_slice, ixa_arr, ixs_str, lens_str, lenl_sl, un_not, un_neg, cvt_int, min_int, max_int, bd_none, bd_some, sls_str, sll_sl, isB_t, isB_f, cond_true, cond_false, pick_t, pick_f, pick_or, pick_and, condW_true, condW_false, add_mk, cell_eq, cellO_some, frozen_eq, frO_zero, setO_some, heap_drew, size_drew, size_set, size_alloc, exists_eq_left', Option.some.injEq, true_and, and_true, Option.isSome_some, Option.map_some, List.getElem?_toArray, List.getElem?_cons_zero, List.getElem?_cons_succ, List.size_toArray, List.length_cons, List.length_nil, List.setIfInBounds_toArray, List.set_cons_zero, List.set_cons_succ, List.getD_cons_zero, List.getD_cons_succ, Nat.zero_add, Nat.add_zero, Nat.reduceAdd, Bool.not_true, Bool.not_false, ne_eq, not_true_eq_false, not_false_eq_true, reduceCtorEq, decide_true, decide_false])
  intro g
  (try simp only [Bool.and_true, Bool.and_false, Bool.true_and, Bool.false_and, Bool.or_true, Bool.or_false, Bool.true_or, Bool.false_or, put_nil, put_map, put_int, put_str, put_bool, put_ptr, put_slice, Nat.lt_add_one, Nat.zero_lt_succ, Nat.reduceLT, bin_add, bin_sub, bin_mul, bin_quo, bin_rem, bin_eql, bin_neq, bin_lss, bin_leq, bin_gtr, bin_geq, bin_sadd, bin_seq, bin_sne, bin_slt, bin_sgt, bin_sge, bin_sle, nil_ptr, fld_ptr, ld_one, one_int, one_bool, one_str, one_slice, one_ptr, one_map, ext_tuple, ixa_slice, ixa_arr, ixs_str, lens_str, lenl_sl, un_not, un_neg, cvt_int, min_int, max_int, bd_none, bd_some, sls_str, sll_sl, isB_t, isB_f, cond_true, cond_false, pick_t, pick_f, pick_or, pick_and, condW_true, condW_false, add_mk, cell_eq, cellO_some, frozen_eq, frO_zero, setO_some, heap_drew, size_drew, size_set, size_alloc, exists_eq_left', Option.some.injEq, true_and, and_true, Option.isSome_some, Option.map_some, List.getElem?_toArray, List.getElem?_cons_zero, List.getElem?_cons_succ, List.size_toArray, List.length_cons, List.length_nil, List.setIfInBounds_toArray, List.set_cons_zero, List.set_cons_succ, List.getD_cons_zero, List.getD_cons_succ, Nat.zero_add, Nat.add_zero, Nat.reduceAdd, Bool.not_true, Bool.not_false, ne_eq, not_true_eq_false, not_false_eq_true, reduceCtorEq, decide_true, decide_false])
  exact hK _ (h16.ext.trans (h17.ext.trans (hx18.trans hx19)))
end Go.Proofs.Ytcefidpmlnfheaa
