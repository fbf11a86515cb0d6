/- One plain sentence: one call of a script, played on the file system and on the document's answer, leaves both alike. Conditions: those that each states. -/
import Derived.Test.YtcefidpmlnfheaaVLaw0
import Derived.Test.YtcefidpmlnfheaaRSpec5
set_option linter.all false
set_option linter.unusedSimpArgs false
set_option linter.unusedVariables false
set_option linter.unusedSectionVars false
namespace Go.Proofs.Ytcefidpmlnfheaa
open Go Go.Eng Go.Vfs
set_option maxRecDepth 100000
set_option maxHeartbeats 1000000

structure OpM where
  kind : Int
  p : Str
  q : Str
  data : Str
  n : Int
  more : Int
def playM (s : MS) (o : OpM) : MS :=
  if o.kind = 1 then (writeM s o.p o.data false).1
  else if o.kind = 2 then (writeM s o.p o.data true).1
  else if o.kind = 3 then (syncM s o.p).1
  else if o.kind = 4 then (renameM s o.p o.q).1
  else if o.kind = 5 then (removeM s o.p).1
  else if o.kind = 6 then (armM s o.n).1
  else if o.kind = 7 then crashM s [o.n, o.more]
  else s
abbrev ol (dp : Option Addr) (dc : Nat) (o : OpM) : List Value := [i64 o.kind, str o.p, str o.q, .slice dp o.data.length dc, i64 o.n, i64 o.more]
def OpV (w : World) (t : Value) (o : OpM) : Prop := ∃ dp dc T, t = .agg (ol dp dc o).toArray ∧ Byt w T (.slice dp o.data.length dc) o.data
structure OpOk (o : OpM) : Prop where
  p : o.p.length ≤ 9223372036854775807
  q : o.q.length ≤ 9223372036854775807
  d : o.data.length ≤ 140737488355328
theorem OpV.ext {w w' : World} {t : Value} {o : OpM} (h : OpV w t o) (hx : Ext w w') : OpV w' t o := by
  obtain ⟨dp, dc, T, e, hb⟩ := h
  exact ⟨dp, dc, T, e, SlAt.ext hb hx⟩

theorem FsB.sepR {w : World} {b m : Nat} {s : MS} (h : FsB w b m s) : ∀ k c fr, M2 b m k → w.heap[k]? ≠ some (.cells c RT fr) := by
  rintro k c fr (rfl | rfl) e
  · rw [h.blk] at e; cases e
  · obtain ⟨A, ⟨es, cl, hm, _⟩, _⟩ := h.fil
    rw [hm] at e; cases e
theorem FsL.mut {w w' : World} {b m : Nat} {s : MS} {v : Value} {l : Files} (h : FsL w v l) (hf : FsB w b m s) (hc : Chg (M2 b m) w w') : FsL w' v l := SlAt.chg h hc hf.sepR
theorem RefV.mut {w w' : World} {b m : Nat} {s s2 : MS} {v : Value} (h : RefV w v s2) (hf : FsB w b m s) (hc : Chg (M2 b m) w w') : RefV w' v s2 := h.chg hc hf.sepR

/-- the frame of Play -/
structure PF (w w' : World) (a d r : Nat) (l o : List Value) : Prop where
  ba : w'.heap[a]? = some (.cells l.toArray 38 (0, 0))
  bd : w'.heap[d]? = some (.cells o.toArray 48 (0, 0))
  br : w'.heap[r]? = some (.cells rz.toArray 38 (0, 0))
  ad : a ≠ d
  ar : a ≠ r
  dr : d ≠ r
  ga : w.heap.size ≤ a
  gd : w.heap.size ≤ d
  gr : w.heap.size ≤ r
theorem PF.chg {S : Nat → Prop} {w w1 w2 : World} {a d r : Nat} {l o : List Value} (h : PF w w1 a d r l o) (hc : Chg S w1 w2) (ha : ¬ S a) (hd : ¬ S d) (hr : ¬ S r) : PF w w2 a d r l o :=
  ⟨hc.at h.ba ha, hc.at h.bd hd, hc.at h.br hr, h.ad, h.ar, h.dr, h.ga, h.gd, h.gr⟩
theorem PF.more {w w1 w2 : World} {a d r : Nat} {l o : List Value} (h : PF w w1 a d r l o) (hx : Ext w1 w2) : PF w w2 a d r l o := h.chg hx id id id
theorem PF.mut {w w1 w2 : World} {a d r b m : Nat} {l o : List Value} (h : PF w w1 a d r l o) (hc : Chg (M2 b m) w1 w2) (hb : b < w.heap.size) (hm : m < w.heap.size) : PF w w2 a d r l o :=
  h.chg hc (by have := h.ga; unfold M2; omega) (by have := h.gd; unfold M2; omega) (by have := h.gr; unfold M2; omega)
theorem PF.set_all {w w1 : World} {a d r : Nat} {l l2 o : List Value} {K : World → Prop} (h : PF w w1 a d r l o) (hl : l.length = 4) (hl2 : l2.length = 4) (h1 : l2.all one1 = true) (hK : ∀ w2, PF w w2 a d r l2 o → Chg (fun k => k = a) w1 w2 → K w2) : stW 4 (.pointer (some ⟨a, 0, none⟩)) (.agg l2.toArray) w1 K :=
  st_agg_at h.ba hl2 hl h1 fun w2 _ hb hc => hK w2 ⟨hb, hc.at h.bd (Ne.symm h.ad), hc.at h.br (Ne.symm h.ar), h.ad, h.ar, h.dr, h.ga, h.gd, h.gr⟩ hc

/-- the pair of file systems -/
structure Two (w0 w w' : World) (b m b' m' : Nat) (v' : Value) (s' : MS) : Prop where
  fs : Fs w0 w' b' m' s'
  ref : RefV w' v' s'
  chg : Chg (M2 b m) w w'
  new : (b' = b ∧ m' = m) ∨ (w.heap.size ≤ b' ∧ w.heap.size ≤ m')

theorem data_new {w : World} {dv : Value} {l : Str} {T : TypeId} {K : Value → World → Prop} (h : Byt w T dv l) (hl : l.length ≤ 140737488355328) (hK : ∀ v' w', Byt w' UT v' l → Ext w w' → K v' w') :
    bslW 5 0 [] [] w fun t5 w1 => semE Try.prog (Builtin.append_ #[27, 27] 27 #[t5, dv]) w1 fun t7 w2 => K t7 w2 := by
  simp only [bslW, putW]
  have hx : Ext w (w.alloc (.cells ([] : List Value).toArray UT)) := (by repeat (first | assumption | exact Chg.refl _ _ | refine Chg.drew ?_ | refine Chg.alloc ?_ _ | refine Chg.set ?_ (by first | exact .inl rfl | exact .inr (by omega) | exact .inr (by simp only [size_set, size_alloc, size_drew]; omega) | (left; simp; done)) _ | exact Chg.of_ext (by assumption)))
  have hown := own_new (w := w) (base := w.heap.size) (e := UT) (size := 1) (n := 0) (cs := []) (Nat.le_refl _) rfl (by omega)
  refine append_own elem_u8 (base := w.heap.size) hown (SlAt.ext h hx) (by simp [u8s]) (u8s_one l) (by omega) (by omega) (by simp) ?_
  intro v' w' hown hc _
  have h1 := hown.sl
  simp only [Nat.zero_add, List.nil_append] at h1
  refine hK v' w' h1 (Chg.then (S := fun _ => False) (T := OwnS _ w.heap.size UT) hx hc ?_)
  intro k hk hs
  exact absurd hs.1 (by omega)

theorem Fs.side {w0 w w' : World} {b m a : Nat} {s : MS} {z : List Value} (h : Fs w0 w b m s) (hb : w.heap[a]? = some (.cells z.toArray 38 (0, 0))) (hc : Chg (fun k => k = a) w w') (ha : w0.heap.size ≤ a) : Fs w0 w' b m s := by
  refine ⟨h.fs.chg hc ?_ ?_ ?_, h.ok, h.gb, h.gm, h.ext.new hc ha⟩
  · intro e; have h1 := h.fs.blk; rw [e, hb] at h1; cases h1
  · intro e; obtain ⟨A, ⟨es, cl, hm, _⟩, _⟩ := h.fs.fil; rw [e, hb] at hm; cases hm
  · rintro k c fr rfl e; rw [hb] at e; cases e
theorem FsL.side {w w' : World} {a : Nat} {v : Value} {l : Files} {z : List Value} {T : TypeId} (h : FsL w v l) (hb : w.heap[a]? = some (.cells z.toArray T (0, 0))) (hT : T ≠ RT) (hc : Chg (fun k => k = a) w w') : FsL w' v l :=
  SlAt.chg h hc (by rintro k c fr rfl e; rw [hb] at e; cases e; exact hT rfl)

theorem play_spec {w0 w : World} {b m : Nat} {s : MS} {v t : Value} {o : OpM} {K : Value → World → Prop} (h : Fs w0 w b m s) (hr : RefV w v s) (ho : OpV w t o) (hok : OpOk o)
    (hK : ∀ b' m' v' w', Two w0 w w' b m b' m' v' (playM s o) → K (.tuple #[fp b', v', .bool true]) w') : callF Try.prog 20 [fp b, v, t] w K := by
  obtain ⟨sp, sc, rfl, hl⟩ := hr
  obtain ⟨dp, dc, T, rfl, hd⟩ := ho
  have hbw := h.fs.lt
  have hmw := h.fs.mlt
  refine W20_ok ?_
  unfold W20
  refine box_new fun a w1 ha hz1 hba hx1 => ?_
  refine box_new fun d w2 hd2 hz2 hbd hx2 => ?_
  refine alloc_new fun r w3 hr3 hz3 hbr hx3 => ?_
  have hP : PF w w3 a d r (rl sp s.files.length sc s) (ol dp dc o) := ⟨hx3.at (hx2.at hba id) id, hx3.at hbd id, hbr, by omega, by omega, by omega, by omega, by omega, by omega⟩
  have hx := (hx1.trans hx2).trans hx3
  clear hx1 hx2 hx3 hba hbd hbr
  have hext : Ext w3 (w3.alloc (.cells ([] : List Value).toArray UT)) := (by repeat (first | assumption | exact Chg.refl _ _ | refine Chg.drew ?_ | refine Chg.alloc ?_ _ | refine Chg.set ?_ (by first | exact .inl rfl | exact .inr (by omega) | exact .inr (by simp only [size_set, size_alloc, size_drew]; omega) | (left; simp; done)) _ | exact Chg.of_ext (by assumption)))
  have hfld : ∀ K : Value → World → Prop, (bslW 5 0 [] [] w3 fun t15 w4 => semE Try.prog (Builtin.append_ #[27, 27] 27 #[t15, .slice dp o.data.length dc]) w4 fun t18 w5 => K t18 w5) →
      bslW 5 0 [] [] w3 fun t15 w4 => fldW 3 (.pointer (some ⟨d, 0, none⟩)) fun t16 => ldW false 1 t16 w4 fun t17 => semE Try.prog (Builtin.append_ #[27, 27] 27 #[t15, t17]) w4 fun t18 w5 => K t18 w5 := by
    intro K hk
    simp only [bslW, putW] at hk ⊢
    have hbd := hext.at hP.bd id
    simp only [Bool.and_true, Bool.and_false, Bool.true_and, Bool.false_and, Bool.or_true, Bool.or_false, Bool.true_or, Bool.false_or, put_nil, put_map, put_int, put_str, put_bool, put_ptr, put_slice, Nat.lt_add_one, Nat.zero_lt_succ, Nat.reduceLT, bin_add, bin_sub, bin_mul, bin_quo, bin_rem, bin_eql, bin_neq, bin_lss, bin_leq, bin_gtr, bin_geq, bin_sadd, bin_seq, bin_sne, bin_slt, bin_sgt, bin_sge, bin_sle, nil_ptr, fld_ptr, ld_one, one_int, one_bool, one_str, one_slice, one_ptr, one_map, ext_tuple, ixa_slice, ixa_arr, ixs_str, lens_str, lenl_sl, un_not, un_neg, cvt_int, min_int, max_int, bd_none, bd_some, sls_str, sll_sl, isB_t, isB_f, cond_true, cond_false, pick_t, pick_f, pick_or, pick_and, condW_true, condW_false, add_mk, cell_eq, cellO_some, frozen_eq, frO_zero, setO_some, heap_drew, size_drew, size_set, size_alloc, exists_eq_left', Option.some.injEq, true_and, and_true, Option.isSome_some, Option.map_some, List.getElem?_toArray, List.getElem?_cons_zero, List.getElem?_cons_succ, List.size_toArray, List.length_cons, List.length_nil, List.setIfInBounds_toArray, List.set_cons_zero, List.set_cons_succ, List.getD_cons_zero, List.getD_cons_succ, Nat.zero_add, Nat.add_zero, Nat.reduceAdd, Bool.not_true, Bool.not_false, ne_eq, not_true_eq_false, not_false_eq_true, reduceCtorEq, decide_true, decide_false, hbd]
    exact hk
  refine hfld _ ?_
  refine data_new (SlAt.ext hd hx) hok.d fun tv w5 htv hx5 => ?_
  have hP := hP.more hx5
  have hx := hx.trans hx5
  have h5 := h.more hx
  have hl5 := SlAt.ext hl hx
  have hd5 := SlAt.ext hd hx
  clear hext hfld
  refine JoinW.cut (fun s6 w' => ∃ b' m' e sp' sc', s6 = [fp b', i64 e, i64 e] ∧ PF w w' a d r (rl sp' (playM s o).files.length sc' (playM s o)) (ol dp dc o) ∧ Fs w0 w' b' m' (playM s o) ∧ FsL w' (.slice sp' (playM s o).files.length sc') (playM s o).files ∧ Chg (M2 b m) w w' ∧ ((b' = b ∧ m' = m) ∨ (w.heap.size ≤ b' ∧ w.heap.size ≤ m'))) ?_ ?_
  · have hw0 : w0.heap.size ≤ w.heap.size := h.ext.size
    have fin : ∀ (e : Int) (w8 : World) (v8 : Value), PF w w8 a d r (rl sp s.files.length sc s) (ol dp dc o) → Fs w0 w8 b m (playM s o) → RefV w8 v8 (playM s o) → Chg (M2 b m) w w8 →
        stW 4 (.pointer (some ⟨a, 0, none⟩)) v8 w8 fun w9 => ∃ b' m' e' sp' sc', [fp b, i64 e, i64 e] = [fp b', i64 e', i64 e'] ∧ PF w w9 a d r (rl sp' (playM s o).files.length sc' (playM s o)) (ol dp dc o) ∧ Fs w0 w9 b' m' (playM s o) ∧ FsL w9 (.slice sp' (playM s o).files.length sc') (playM s o).files ∧ Chg (M2 b m) w w9 ∧ ((b' = b ∧ m' = m) ∨ (w.heap.size ≤ b' ∧ w.heap.size ≤ m')) := by
      rintro e w8 v8 hP hf ⟨sp', sc', rfl, hl'⟩ hc
      refine hP.set_all rfl rfl rfl fun w9 hP9 hc9 => ?_
      have := hP.ga
      exact ⟨b, m, e, sp', sc', rfl, hP9, hf.side hP.ba hc9 (by omega), FsL.side hl' hP.ba (by decide) hc9, hc.then hc9 fun k hk e => by omega, .inl ⟨rfl, rfl⟩⟩
    have hxm : Chg (M2 b m) w w5 := Chg.of_ext hx
    have mut5 : ∀ {w7 : World}, Chg (M2 b m) w5 w7 → Chg (M2 b m) w w7 := fun hc => hxm.trans hc
    simp only [Bool.and_true, Bool.and_false, Bool.true_and, Bool.false_and, Bool.or_true, Bool.or_false, Bool.true_or, Bool.false_or, put_nil, put_map, put_int, put_str, put_bool, put_ptr, put_slice, Nat.lt_add_one, Nat.zero_lt_succ, Nat.reduceLT, bin_add, bin_sub, bin_mul, bin_quo, bin_rem, bin_eql, bin_neq, bin_lss, bin_leq, bin_gtr, bin_geq, bin_sadd, bin_seq, bin_sne, bin_slt, bin_sgt, bin_sge, bin_sle, nil_ptr, fld_ptr, ld_one, one_int, one_bool, one_str, one_slice, one_ptr, one_map, ext_tuple, ixa_slice, ixa_arr, ixs_str, lens_str, lenl_sl, un_not, un_neg, cvt_int, min_int, max_int, bd_none, bd_some, sls_str, sll_sl, isB_t, isB_f, cond_true, cond_false, pick_t, pick_f, pick_or, pick_and, condW_true, condW_false, add_mk, cell_eq, cellO_some, frozen_eq, frO_zero, setO_some, heap_drew, size_drew, size_set, size_alloc, exists_eq_left', Option.some.injEq, true_and, and_true, Option.isSome_some, Option.map_some, List.getElem?_toArray, List.getElem?_cons_zero, List.getElem?_cons_succ, List.size_toArray, List.length_cons, List.length_nil, List.setIfInBounds_toArray, List.set_cons_zero, List.set_cons_succ, List.getD_cons_zero, List.getD_cons_succ, Nat.zero_add, Nat.add_zero, Nat.reduceAdd, Bool.not_true, Bool.not_false, ne_eq, not_true_eq_false, not_false_eq_true, reduceCtorEq, decide_true, decide_false, condW_dec, hP.bd]
    refine ⟨fun hk => ?_, fun hk1 => ⟨fun hk => ?_, fun hk2 => ⟨fun hk => ?_, fun hk3 => ⟨fun hk => ?_, fun hk4 => ⟨fun hk => ?_, fun hk5 => ⟨fun hk => ?_, fun hk6 => ⟨fun hk => ?_, fun hk7 => ?_⟩⟩⟩⟩⟩⟩⟩
    · have hp : playM s o = (writeM s o.p o.data false).1 := by simp [playM, hk]
      rw [hp] at fin ⊢
      refine fwrite h5 htv fun w7 h7 hc7 => ?_
      have hP7 := hP.mut hc7 hbw hmw
      refine ld_all hP7.ba rfl ?_
      simp only [Bool.and_true, Bool.and_false, Bool.true_and, Bool.false_and, Bool.or_true, Bool.or_false, Bool.true_or, Bool.false_or, put_nil, put_map, put_int, put_str, put_bool, put_ptr, put_slice, Nat.lt_add_one, Nat.zero_lt_succ, Nat.reduceLT, bin_add, bin_sub, bin_mul, bin_quo, bin_rem, bin_eql, bin_neq, bin_lss, bin_leq, bin_gtr, bin_geq, bin_sadd, bin_seq, bin_sne, bin_slt, bin_sgt, bin_sge, bin_sle, nil_ptr, fld_ptr, ld_one, one_int, one_bool, one_str, one_slice, one_ptr, one_map, ext_tuple, ixa_slice, ixa_arr, ixs_str, lens_str, lenl_sl, un_not, un_neg, cvt_int, min_int, max_int, bd_none, bd_some, sls_str, sll_sl, isB_t, isB_f, cond_true, cond_false, pick_t, pick_f, pick_or, pick_and, condW_true, condW_false, add_mk, cell_eq, cellO_some, frozen_eq, frO_zero, setO_some, heap_drew, size_drew, size_set, size_alloc, exists_eq_left', Option.some.injEq, true_and, and_true, Option.isSome_some, Option.map_some, List.getElem?_toArray, List.getElem?_cons_zero, List.getElem?_cons_succ, List.size_toArray, List.length_cons, List.length_nil, List.setIfInBounds_toArray, List.set_cons_zero, List.set_cons_succ, List.getD_cons_zero, List.getD_cons_succ, Nat.zero_add, Nat.add_zero, Nat.reduceAdd, Bool.not_true, Bool.not_false, ne_eq, not_true_eq_false, not_false_eq_true, reduceCtorEq, decide_true, decide_false, hP7.bd]
      rw [conv_b (Byt.mut hd5 h5.fs hc7)]
      refine write_ref ⟨sp, sc, rfl, FsL.mut hl5 h5.fs hc7⟩ h.ok hok.p fun v8 w8 hv8 hx8 => ?_
      simp only [Bool.and_true, Bool.and_false, Bool.true_and, Bool.false_and, Bool.or_true, Bool.or_false, Bool.true_or, Bool.false_or, put_nil, put_map, put_int, put_str, put_bool, put_ptr, put_slice, Nat.lt_add_one, Nat.zero_lt_succ, Nat.reduceLT, bin_add, bin_sub, bin_mul, bin_quo, bin_rem, bin_eql, bin_neq, bin_lss, bin_leq, bin_gtr, bin_geq, bin_sadd, bin_seq, bin_sne, bin_slt, bin_sgt, bin_sge, bin_sle, nil_ptr, fld_ptr, ld_one, one_int, one_bool, one_str, one_slice, one_ptr, one_map, ext_tuple, ixa_slice, ixa_arr, ixs_str, lens_str, lenl_sl, un_not, un_neg, cvt_int, min_int, max_int, bd_none, bd_some, sls_str, sll_sl, isB_t, isB_f, cond_true, cond_false, pick_t, pick_f, pick_or, pick_and, condW_true, condW_false, add_mk, cell_eq, cellO_some, frozen_eq, frO_zero, setO_some, heap_drew, size_drew, size_set, size_alloc, exists_eq_left', Option.some.injEq, true_and, and_true, Option.isSome_some, Option.map_some, List.getElem?_toArray, List.getElem?_cons_zero, List.getElem?_cons_succ, List.size_toArray, List.length_cons, List.length_nil, List.setIfInBounds_toArray, List.set_cons_zero, List.set_cons_succ, List.getD_cons_zero, List.getD_cons_succ, Nat.zero_add, Nat.add_zero, Nat.reduceAdd, Bool.not_true, Bool.not_false, ne_eq, not_true_eq_false, not_false_eq_true, reduceCtorEq, decide_true, decide_false]
      exact fin _ w8 v8 (hP7.more hx8) (h7.more hx8) hv8 ((mut5 hc7).trans (Chg.of_ext hx8))
    · have hp : playM s o = (writeM s o.p o.data true).1 := by simp [playM, hk]
      rw [hp] at fin ⊢
      refine fcreate h5 htv fun w7 h7 hc7 => ?_
      have hP7 := hP.mut hc7 hbw hmw
      refine ld_all hP7.ba rfl ?_
      simp only [Bool.and_true, Bool.and_false, Bool.true_and, Bool.false_and, Bool.or_true, Bool.or_false, Bool.true_or, Bool.false_or, put_nil, put_map, put_int, put_str, put_bool, put_ptr, put_slice, Nat.lt_add_one, Nat.zero_lt_succ, Nat.reduceLT, bin_add, bin_sub, bin_mul, bin_quo, bin_rem, bin_eql, bin_neq, bin_lss, bin_leq, bin_gtr, bin_geq, bin_sadd, bin_seq, bin_sne, bin_slt, bin_sgt, bin_sge, bin_sle, nil_ptr, fld_ptr, ld_one, one_int, one_bool, one_str, one_slice, one_ptr, one_map, ext_tuple, ixa_slice, ixa_arr, ixs_str, lens_str, lenl_sl, un_not, un_neg, cvt_int, min_int, max_int, bd_none, bd_some, sls_str, sll_sl, isB_t, isB_f, cond_true, cond_false, pick_t, pick_f, pick_or, pick_and, condW_true, condW_false, add_mk, cell_eq, cellO_some, frozen_eq, frO_zero, setO_some, heap_drew, size_drew, size_set, size_alloc, exists_eq_left', Option.some.injEq, true_and, and_true, Option.isSome_some, Option.map_some, List.getElem?_toArray, List.getElem?_cons_zero, List.getElem?_cons_succ, List.size_toArray, List.length_cons, List.length_nil, List.setIfInBounds_toArray, List.set_cons_zero, List.set_cons_succ, List.getD_cons_zero, List.getD_cons_succ, Nat.zero_add, Nat.add_zero, Nat.reduceAdd, Bool.not_true, Bool.not_false, ne_eq, not_true_eq_false, not_false_eq_true, reduceCtorEq, decide_true, decide_false, hP7.bd]
      rw [conv_b (Byt.mut hd5 h5.fs hc7)]
      refine write_ref ⟨sp, sc, rfl, FsL.mut hl5 h5.fs hc7⟩ h.ok hok.p fun v8 w8 hv8 hx8 => ?_
      simp only [Bool.and_true, Bool.and_false, Bool.true_and, Bool.false_and, Bool.or_true, Bool.or_false, Bool.true_or, Bool.false_or, put_nil, put_map, put_int, put_str, put_bool, put_ptr, put_slice, Nat.lt_add_one, Nat.zero_lt_succ, Nat.reduceLT, bin_add, bin_sub, bin_mul, bin_quo, bin_rem, bin_eql, bin_neq, bin_lss, bin_leq, bin_gtr, bin_geq, bin_sadd, bin_seq, bin_sne, bin_slt, bin_sgt, bin_sge, bin_sle, nil_ptr, fld_ptr, ld_one, one_int, one_bool, one_str, one_slice, one_ptr, one_map, ext_tuple, ixa_slice, ixa_arr, ixs_str, lens_str, lenl_sl, un_not, un_neg, cvt_int, min_int, max_int, bd_none, bd_some, sls_str, sll_sl, isB_t, isB_f, cond_true, cond_false, pick_t, pick_f, pick_or, pick_and, condW_true, condW_false, add_mk, cell_eq, cellO_some, frozen_eq, frO_zero, setO_some, heap_drew, size_drew, size_set, size_alloc, exists_eq_left', Option.some.injEq, true_and, and_true, Option.isSome_some, Option.map_some, List.getElem?_toArray, List.getElem?_cons_zero, List.getElem?_cons_succ, List.size_toArray, List.length_cons, List.length_nil, List.setIfInBounds_toArray, List.set_cons_zero, List.set_cons_succ, List.getD_cons_zero, List.getD_cons_succ, Nat.zero_add, Nat.add_zero, Nat.reduceAdd, Bool.not_true, Bool.not_false, ne_eq, not_true_eq_false, not_false_eq_true, reduceCtorEq, decide_true, decide_false]
      exact fin _ w8 v8 (hP7.more hx8) (h7.more hx8) hv8 ((mut5 hc7).trans (Chg.of_ext hx8))
    · have hp : playM s o = (syncM s o.p).1 := by simp [playM, hk]
      rw [hp] at fin ⊢
      refine fsync h5 fun w7 h7 hc7 => ?_
      have hP7 := hP.mut hc7 hbw hmw
      refine ld_all hP7.ba rfl ?_
      simp only [Bool.and_true, Bool.and_false, Bool.true_and, Bool.false_and, Bool.or_true, Bool.or_false, Bool.true_or, Bool.false_or, put_nil, put_map, put_int, put_str, put_bool, put_ptr, put_slice, Nat.lt_add_one, Nat.zero_lt_succ, Nat.reduceLT, bin_add, bin_sub, bin_mul, bin_quo, bin_rem, bin_eql, bin_neq, bin_lss, bin_leq, bin_gtr, bin_geq, bin_sadd, bin_seq, bin_sne, bin_slt, bin_sgt, bin_sge, bin_sle, nil_ptr, fld_ptr, ld_one, one_int, one_bool, one_str, one_slice, one_ptr, one_map, ext_tuple, ixa_slice, ixa_arr, ixs_str, lens_str, lenl_sl, un_not, un_neg, cvt_int, min_int, max_int, bd_none, bd_some, sls_str, sll_sl, isB_t, isB_f, cond_true, cond_false, pick_t, pick_f, pick_or, pick_and, condW_true, condW_false, add_mk, cell_eq, cellO_some, frozen_eq, frO_zero, setO_some, heap_drew, size_drew, size_set, size_alloc, exists_eq_left', Option.some.injEq, true_and, and_true, Option.isSome_some, Option.map_some, List.getElem?_toArray, List.getElem?_cons_zero, List.getElem?_cons_succ, List.size_toArray, List.length_cons, List.length_nil, List.setIfInBounds_toArray, List.set_cons_zero, List.set_cons_succ, List.getD_cons_zero, List.getD_cons_succ, Nat.zero_add, Nat.add_zero, Nat.reduceAdd, Bool.not_true, Bool.not_false, ne_eq, not_true_eq_false, not_false_eq_true, reduceCtorEq, decide_true, decide_false, hP7.bd]
      refine sync_ref ⟨sp, sc, rfl, FsL.mut hl5 h5.fs hc7⟩ h.ok hok.p fun v8 w8 hv8 hx8 => ?_
      simp only [Bool.and_true, Bool.and_false, Bool.true_and, Bool.false_and, Bool.or_true, Bool.or_false, Bool.true_or, Bool.false_or, put_nil, put_map, put_int, put_str, put_bool, put_ptr, put_slice, Nat.lt_add_one, Nat.zero_lt_succ, Nat.reduceLT, bin_add, bin_sub, bin_mul, bin_quo, bin_rem, bin_eql, bin_neq, bin_lss, bin_leq, bin_gtr, bin_geq, bin_sadd, bin_seq, bin_sne, bin_slt, bin_sgt, bin_sge, bin_sle, nil_ptr, fld_ptr, ld_one, one_int, one_bool, one_str, one_slice, one_ptr, one_map, ext_tuple, ixa_slice, ixa_arr, ixs_str, lens_str, lenl_sl, un_not, un_neg, cvt_int, min_int, max_int, bd_none, bd_some, sls_str, sll_sl, isB_t, isB_f, cond_true, cond_false, pick_t, pick_f, pick_or, pick_and, condW_true, condW_false, add_mk, cell_eq, cellO_some, frozen_eq, frO_zero, setO_some, heap_drew, size_drew, size_set, size_alloc, exists_eq_left', Option.some.injEq, true_and, and_true, Option.isSome_some, Option.map_some, List.getElem?_toArray, List.getElem?_cons_zero, List.getElem?_cons_succ, List.size_toArray, List.length_cons, List.length_nil, List.setIfInBounds_toArray, List.set_cons_zero, List.set_cons_succ, List.getD_cons_zero, List.getD_cons_succ, Nat.zero_add, Nat.add_zero, Nat.reduceAdd, Bool.not_true, Bool.not_false, ne_eq, not_true_eq_false, not_false_eq_true, reduceCtorEq, decide_true, decide_false]
      exact fin _ w8 v8 (hP7.more hx8) (h7.more hx8) hv8 ((mut5 hc7).trans (Chg.of_ext hx8))
    · have hp : playM s o = (renameM s o.p o.q).1 := by simp [playM, hk]
      rw [hp] at fin ⊢
      refine frename h5 fun w7 h7 hc7 => ?_
      have hP7 := hP.mut hc7 hbw hmw
      refine ld_all hP7.ba rfl ?_
      simp only [Bool.and_true, Bool.and_false, Bool.true_and, Bool.false_and, Bool.or_true, Bool.or_false, Bool.true_or, Bool.false_or, put_nil, put_map, put_int, put_str, put_bool, put_ptr, put_slice, Nat.lt_add_one, Nat.zero_lt_succ, Nat.reduceLT, bin_add, bin_sub, bin_mul, bin_quo, bin_rem, bin_eql, bin_neq, bin_lss, bin_leq, bin_gtr, bin_geq, bin_sadd, bin_seq, bin_sne, bin_slt, bin_sgt, bin_sge, bin_sle, nil_ptr, fld_ptr, ld_one, one_int, one_bool, one_str, one_slice, one_ptr, one_map, ext_tuple, ixa_slice, ixa_arr, ixs_str, lens_str, lenl_sl, un_not, un_neg, cvt_int, min_int, max_int, bd_none, bd_some, sls_str, sll_sl, isB_t, isB_f, cond_true, cond_false, pick_t, pick_f, pick_or, pick_and, condW_true, condW_false, add_mk, cell_eq, cellO_some, frozen_eq, frO_zero, setO_some, heap_drew, size_drew, size_set, size_alloc, exists_eq_left', Option.some.injEq, true_and, and_true, Option.isSome_some, Option.map_some, List.getElem?_toArray, List.getElem?_cons_zero, List.getElem?_cons_succ, List.size_toArray, List.length_cons, List.length_nil, List.setIfInBounds_toArray, List.set_cons_zero, List.set_cons_succ, List.getD_cons_zero, List.getD_cons_succ, Nat.zero_add, Nat.add_zero, Nat.reduceAdd, Bool.not_true, Bool.not_false, ne_eq, not_true_eq_false, not_false_eq_true, reduceCtorEq, decide_true, decide_false, hP7.bd]
      refine rename_ref ⟨sp, sc, rfl, FsL.mut hl5 h5.fs hc7⟩ h.ok hok.p hok.q fun v8 w8 hv8 hx8 => ?_
      simp only [Bool.and_true, Bool.and_false, Bool.true_and, Bool.false_and, Bool.or_true, Bool.or_false, Bool.true_or, Bool.false_or, put_nil, put_map, put_int, put_str, put_bool, put_ptr, put_slice, Nat.lt_add_one, Nat.zero_lt_succ, Nat.reduceLT, bin_add, bin_sub, bin_mul, bin_quo, bin_rem, bin_eql, bin_neq, bin_lss, bin_leq, bin_gtr, bin_geq, bin_sadd, bin_seq, bin_sne, bin_slt, bin_sgt, bin_sge, bin_sle, nil_ptr, fld_ptr, ld_one, one_int, one_bool, one_str, one_slice, one_ptr, one_map, ext_tuple, ixa_slice, ixa_arr, ixs_str, lens_str, lenl_sl, un_not, un_neg, cvt_int, min_int, max_int, bd_none, bd_some, sls_str, sll_sl, isB_t, isB_f, cond_true, cond_false, pick_t, pick_f, pick_or, pick_and, condW_true, condW_false, add_mk, cell_eq, cellO_some, frozen_eq, frO_zero, setO_some, heap_drew, size_drew, size_set, size_alloc, exists_eq_left', Option.some.injEq, true_and, and_true, Option.isSome_some, Option.map_some, List.getElem?_toArray, List.getElem?_cons_zero, List.getElem?_cons_succ, List.size_toArray, List.length_cons, List.length_nil, List.setIfInBounds_toArray, List.set_cons_zero, List.set_cons_succ, List.getD_cons_zero, List.getD_cons_succ, Nat.zero_add, Nat.add_zero, Nat.reduceAdd, Bool.not_true, Bool.not_false, ne_eq, not_true_eq_false, not_false_eq_true, reduceCtorEq, decide_true, decide_false]
      exact fin _ w8 v8 (hP7.more hx8) (h7.more hx8) hv8 ((mut5 hc7).trans (Chg.of_ext hx8))
    · have hp : playM s o = (removeM s o.p).1 := by simp [playM, hk]
      rw [hp] at fin ⊢
      refine fremove h5 fun w7 h7 hc7 => ?_
      have hP7 := hP.mut hc7 hbw hmw
      refine ld_all hP7.ba rfl ?_
      simp only [Bool.and_true, Bool.and_false, Bool.true_and, Bool.false_and, Bool.or_true, Bool.or_false, Bool.true_or, Bool.false_or, put_nil, put_map, put_int, put_str, put_bool, put_ptr, put_slice, Nat.lt_add_one, Nat.zero_lt_succ, Nat.reduceLT, bin_add, bin_sub, bin_mul, bin_quo, bin_rem, bin_eql, bin_neq, bin_lss, bin_leq, bin_gtr, bin_geq, bin_sadd, bin_seq, bin_sne, bin_slt, bin_sgt, bin_sge, bin_sle, nil_ptr, fld_ptr, ld_one, one_int, one_bool, one_str, one_slice, one_ptr, one_map, ext_tuple, ixa_slice, ixa_arr, ixs_str, lens_str, lenl_sl, un_not, un_neg, cvt_int, min_int, max_int, bd_none, bd_some, sls_str, sll_sl, isB_t, isB_f, cond_true, cond_false, pick_t, pick_f, pick_or, pick_and, condW_true, condW_false, add_mk, cell_eq, cellO_some, frozen_eq, frO_zero, setO_some, heap_drew, size_drew, size_set, size_alloc, exists_eq_left', Option.some.injEq, true_and, and_true, Option.isSome_some, Option.map_some, List.getElem?_toArray, List.getElem?_cons_zero, List.getElem?_cons_succ, List.size_toArray, List.length_cons, List.length_nil, List.setIfInBounds_toArray, List.set_cons_zero, List.set_cons_succ, List.getD_cons_zero, List.getD_cons_succ, Nat.zero_add, Nat.add_zero, Nat.reduceAdd, Bool.not_true, Bool.not_false, ne_eq, not_true_eq_false, not_false_eq_true, reduceCtorEq, decide_true, decide_false, hP7.bd]
      refine remove_ref ⟨sp, sc, rfl, FsL.mut hl5 h5.fs hc7⟩ h.ok hok.p fun v8 w8 hv8 hx8 => ?_
      simp only [Bool.and_true, Bool.and_false, Bool.true_and, Bool.false_and, Bool.or_true, Bool.or_false, Bool.true_or, Bool.false_or, put_nil, put_map, put_int, put_str, put_bool, put_ptr, put_slice, Nat.lt_add_one, Nat.zero_lt_succ, Nat.reduceLT, bin_add, bin_sub, bin_mul, bin_quo, bin_rem, bin_eql, bin_neq, bin_lss, bin_leq, bin_gtr, bin_geq, bin_sadd, bin_seq, bin_sne, bin_slt, bin_sgt, bin_sge, bin_sle, nil_ptr, fld_ptr, ld_one, one_int, one_bool, one_str, one_slice, one_ptr, one_map, ext_tuple, ixa_slice, ixa_arr, ixs_str, lens_str, lenl_sl, un_not, un_neg, cvt_int, min_int, max_int, bd_none, bd_some, sls_str, sll_sl, isB_t, isB_f, cond_true, cond_false, pick_t, pick_f, pick_or, pick_and, condW_true, condW_false, add_mk, cell_eq, cellO_some, frozen_eq, frO_zero, setO_some, heap_drew, size_drew, size_set, size_alloc, exists_eq_left', Option.some.injEq, true_and, and_true, Option.isSome_some, Option.map_some, List.getElem?_toArray, List.getElem?_cons_zero, List.getElem?_cons_succ, List.size_toArray, List.length_cons, List.length_nil, List.setIfInBounds_toArray, List.set_cons_zero, List.set_cons_succ, List.getD_cons_zero, List.getD_cons_succ, Nat.zero_add, Nat.add_zero, Nat.reduceAdd, Bool.not_true, Bool.not_false, ne_eq, not_true_eq_false, not_false_eq_true, reduceCtorEq, decide_true, decide_false]
      exact fin _ w8 v8 (hP7.more hx8) (h7.more hx8) hv8 ((mut5 hc7).trans (Chg.of_ext hx8))
    · have hp : playM s o = (armM s o.n).1 := by simp [playM, hk]
      rw [hp] at fin ⊢
      refine farm h5 fun w7 h7 hc7 => ?_
      have hP7 := hP.mut hc7 hbw hmw
      refine ld_all hP7.ba rfl ?_
      simp only [Bool.and_true, Bool.and_false, Bool.true_and, Bool.false_and, Bool.or_true, Bool.or_false, Bool.true_or, Bool.false_or, put_nil, put_map, put_int, put_str, put_bool, put_ptr, put_slice, Nat.lt_add_one, Nat.zero_lt_succ, Nat.reduceLT, bin_add, bin_sub, bin_mul, bin_quo, bin_rem, bin_eql, bin_neq, bin_lss, bin_leq, bin_gtr, bin_geq, bin_sadd, bin_seq, bin_sne, bin_slt, bin_sgt, bin_sge, bin_sle, nil_ptr, fld_ptr, ld_one, one_int, one_bool, one_str, one_slice, one_ptr, one_map, ext_tuple, ixa_slice, ixa_arr, ixs_str, lens_str, lenl_sl, un_not, un_neg, cvt_int, min_int, max_int, bd_none, bd_some, sls_str, sll_sl, isB_t, isB_f, cond_true, cond_false, pick_t, pick_f, pick_or, pick_and, condW_true, condW_false, add_mk, cell_eq, cellO_some, frozen_eq, frO_zero, setO_some, heap_drew, size_drew, size_set, size_alloc, exists_eq_left', Option.some.injEq, true_and, and_true, Option.isSome_some, Option.map_some, List.getElem?_toArray, List.getElem?_cons_zero, List.getElem?_cons_succ, List.size_toArray, List.length_cons, List.length_nil, List.setIfInBounds_toArray, List.set_cons_zero, List.set_cons_succ, List.getD_cons_zero, List.getD_cons_succ, Nat.zero_add, Nat.add_zero, Nat.reduceAdd, Bool.not_true, Bool.not_false, ne_eq, not_true_eq_false, not_false_eq_true, reduceCtorEq, decide_true, decide_false, hP7.bd]
      refine arm_ref ⟨sp, sc, rfl, FsL.mut hl5 h5.fs hc7⟩ fun v8 w8 hv8 hx8 => ?_
      simp only [Bool.and_true, Bool.and_false, Bool.true_and, Bool.false_and, Bool.or_true, Bool.or_false, Bool.true_or, Bool.false_or, put_nil, put_map, put_int, put_str, put_bool, put_ptr, put_slice, Nat.lt_add_one, Nat.zero_lt_succ, Nat.reduceLT, bin_add, bin_sub, bin_mul, bin_quo, bin_rem, bin_eql, bin_neq, bin_lss, bin_leq, bin_gtr, bin_geq, bin_sadd, bin_seq, bin_sne, bin_slt, bin_sgt, bin_sge, bin_sle, nil_ptr, fld_ptr, ld_one, one_int, one_bool, one_str, one_slice, one_ptr, one_map, ext_tuple, ixa_slice, ixa_arr, ixs_str, lens_str, lenl_sl, un_not, un_neg, cvt_int, min_int, max_int, bd_none, bd_some, sls_str, sll_sl, isB_t, isB_f, cond_true, cond_false, pick_t, pick_f, pick_or, pick_and, condW_true, condW_false, add_mk, cell_eq, cellO_some, frozen_eq, frO_zero, setO_some, heap_drew, size_drew, size_set, size_alloc, exists_eq_left', Option.some.injEq, true_and, and_true, Option.isSome_some, Option.map_some, List.getElem?_toArray, List.getElem?_cons_zero, List.getElem?_cons_succ, List.size_toArray, List.length_cons, List.length_nil, List.setIfInBounds_toArray, List.set_cons_zero, List.set_cons_succ, List.getD_cons_zero, List.getD_cons_succ, Nat.zero_add, Nat.add_zero, Nat.reduceAdd, Bool.not_true, Bool.not_false, ne_eq, not_true_eq_false, not_false_eq_true, reduceCtorEq, decide_true, decide_false]
      exact fin _ w8 v8 (hP7.more hx8) (h7.more hx8) hv8 ((mut5 hc7).trans (Chg.of_ext hx8))
    · have hp : playM s o = crashM s [o.n, o.more] := by simp [playM, hk]
      rw [hp] at fin ⊢
      simp only [bslW]
      simp only [Bool.and_true, Bool.and_false, Bool.true_and, Bool.false_and, Bool.or_true, Bool.or_false, Bool.true_or, Bool.false_or, put_nil, put_map, put_int, put_str, put_bool, put_ptr, put_slice, Nat.lt_add_one, Nat.zero_lt_succ, Nat.reduceLT, bin_add, bin_sub, bin_mul, bin_quo, bin_rem, bin_eql, bin_neq, bin_lss, bin_leq, bin_gtr, bin_geq, bin_sadd, bin_seq, bin_sne, bin_slt, bin_sgt, bin_sge, bin_sle, nil_ptr, fld_ptr, ld_one, one_int, one_bool, one_str, one_slice, one_ptr, one_map, ext_tuple, ixa_slice, ixa_arr, ixs_str, lens_str, lenl_sl, un_not, un_neg, cvt_int, min_int, max_int, bd_none, bd_some, sls_str, sll_sl, isB_t, isB_f, cond_true, cond_false, pick_t, pick_f, pick_or, pick_and, condW_true, condW_false, add_mk, cell_eq, cellO_some, frozen_eq, frO_zero, setO_some, heap_drew, size_drew, size_set, size_alloc, exists_eq_left', Option.some.injEq, true_and, and_true, Option.isSome_some, Option.map_some, List.getElem?_toArray, List.getElem?_cons_zero, List.getElem?_cons_succ, List.size_toArray, List.length_cons, List.length_nil, List.setIfInBounds_toArray, List.set_cons_zero, List.set_cons_succ, List.getD_cons_zero, List.getD_cons_succ, Nat.zero_add, Nat.add_zero, Nat.reduceAdd, Bool.not_true, Bool.not_false, ne_eq, not_true_eq_false, not_false_eq_true, reduceCtorEq, decide_true, decide_false]
      have hxa : Ext w5 (w5.alloc (.cells #[i64 o.n, i64 o.more] 3)) := (by repeat (first | assumption | exact Chg.refl _ _ | refine Chg.drew ?_ | refine Chg.alloc ?_ _ | refine Chg.set ?_ (by first | exact .inl rfl | exact .inr (by omega) | exact .inr (by simp only [size_set, size_alloc, size_drew]; omega) | (left; simp; done)) _ | exact Chg.of_ext (by assumption)))
      refine fcrash (keep := [o.n, o.more]) (h5.more hxa) (ints_lit [o.n, o.more] w5 (by simp)) fun b7 m7 w7 h7 => ?_
      have hx7 : Ext w5 w7 := hxa.trans h7.ext
      have hP7 := hP.more hx7
      refine ld_all hP7.ba rfl ?_
      simp only [Bool.and_true, Bool.and_false, Bool.true_and, Bool.false_and, Bool.or_true, Bool.or_false, Bool.true_or, Bool.false_or, put_nil, put_map, put_int, put_str, put_bool, put_ptr, put_slice, Nat.lt_add_one, Nat.zero_lt_succ, Nat.reduceLT, bin_add, bin_sub, bin_mul, bin_quo, bin_rem, bin_eql, bin_neq, bin_lss, bin_leq, bin_gtr, bin_geq, bin_sadd, bin_seq, bin_sne, bin_slt, bin_sgt, bin_sge, bin_sle, nil_ptr, fld_ptr, ld_one, one_int, one_bool, one_str, one_slice, one_ptr, one_map, ext_tuple, ixa_slice, ixa_arr, ixs_str, lens_str, lenl_sl, un_not, un_neg, cvt_int, min_int, max_int, bd_none, bd_some, sls_str, sll_sl, isB_t, isB_f, cond_true, cond_false, pick_t, pick_f, pick_or, pick_and, condW_true, condW_false, add_mk, cell_eq, cellO_some, frozen_eq, frO_zero, setO_some, heap_drew, size_drew, size_set, size_alloc, exists_eq_left', Option.some.injEq, true_and, and_true, Option.isSome_some, Option.map_some, List.getElem?_toArray, List.getElem?_cons_zero, List.getElem?_cons_succ, List.size_toArray, List.length_cons, List.length_nil, List.setIfInBounds_toArray, List.set_cons_zero, List.set_cons_succ, List.getD_cons_zero, List.getD_cons_succ, Nat.zero_add, Nat.add_zero, Nat.reduceAdd, Bool.not_true, Bool.not_false, ne_eq, not_true_eq_false, not_false_eq_true, reduceCtorEq, decide_true, decide_false, hP7.bd]
      have hxb : Ext w7 (w7.alloc (.cells #[i64 o.n, i64 o.more] 3)) := (by repeat (first | assumption | exact Chg.refl _ _ | refine Chg.drew ?_ | refine Chg.alloc ?_ _ | refine Chg.set ?_ (by first | exact .inl rfl | exact .inr (by omega) | exact .inr (by simp only [size_set, size_alloc, size_drew]; omega) | (left; simp; done)) _ | exact Chg.of_ext (by assumption)))
      refine crash_ref (keep := [o.n, o.more]) ⟨sp, sc, rfl, SlAt.ext hl5 (hx7.trans hxb)⟩ h.ok (ints_lit [o.n, o.more] w7 (by simp)) fun v8 w8 hv8 hx8 => ?_
      have hx78 := hxb.trans hx8
      have hP8 := hP7.more hx78
      obtain ⟨sp', sc', rfl, hl'⟩ := hv8
      refine hP8.set_all rfl rfl rfl fun w9 hP9 hc9 => ?_
      have hga := hP8.ga
      have h8 := h7.more hx78
      have hs : w.heap.size ≤ (w5.alloc (.cells #[i64 o.n, i64 o.more] 3)).heap.size := Nat.le_trans hx.size hxa.size
      have hgb := h8.gb
      have hgm := h8.gm
      have h9 : Fs w w8 b7 m7 (crashM s [o.n, o.more]) := ⟨h8.fs, h8.ok, by omega, by omega, (hx.trans hx7).trans hx78⟩
      have h9 := h9.side hP8.ba hc9 hga
      have hb0 := h9.gb
      have hm0 := h9.gm
      simp only [Bool.and_true, Bool.and_false, Bool.true_and, Bool.false_and, Bool.or_true, Bool.or_false, Bool.true_or, Bool.false_or, put_nil, put_map, put_int, put_str, put_bool, put_ptr, put_slice, Nat.lt_add_one, Nat.zero_lt_succ, Nat.reduceLT, bin_add, bin_sub, bin_mul, bin_quo, bin_rem, bin_eql, bin_neq, bin_lss, bin_leq, bin_gtr, bin_geq, bin_sadd, bin_seq, bin_sne, bin_slt, bin_sgt, bin_sge, bin_sle, nil_ptr, fld_ptr, ld_one, one_int, one_bool, one_str, one_slice, one_ptr, one_map, ext_tuple, ixa_slice, ixa_arr, ixs_str, lens_str, lenl_sl, un_not, un_neg, cvt_int, min_int, max_int, bd_none, bd_some, sls_str, sll_sl, isB_t, isB_f, cond_true, cond_false, pick_t, pick_f, pick_or, pick_and, condW_true, condW_false, add_mk, cell_eq, cellO_some, frozen_eq, frO_zero, setO_some, heap_drew, size_drew, size_set, size_alloc, exists_eq_left', Option.some.injEq, true_and, and_true, Option.isSome_some, Option.map_some, List.getElem?_toArray, List.getElem?_cons_zero, List.getElem?_cons_succ, List.size_toArray, List.length_cons, List.length_nil, List.setIfInBounds_toArray, List.set_cons_zero, List.set_cons_succ, List.getD_cons_zero, List.getD_cons_succ, Nat.zero_add, Nat.add_zero, Nat.reduceAdd, Bool.not_true, Bool.not_false, ne_eq, not_true_eq_false, not_false_eq_true, reduceCtorEq, decide_true, decide_false, eq_pn]
      exact ⟨b7, m7, 0, sp', sc', rfl, hP9, ⟨h9.fs, h9.ok, by omega, by omega, h.ext.trans h9.ext⟩, FsL.side hl' hP8.ba (by decide) hc9, Chg.of_ext h9.ext, .inr ⟨by omega, by omega⟩⟩
    · have hp : playM s o = s := by simp [playM, hk1, hk2, hk3, hk4, hk5, hk6, hk7]
      clear fin
      rw [hp] at hK
      refine fread h5 fun bv w7 hbv hx7 => ?_
      simp only [Bool.and_true, Bool.and_false, Bool.true_and, Bool.false_and, Bool.or_true, Bool.or_false, Bool.true_or, Bool.false_or, put_nil, put_map, put_int, put_str, put_bool, put_ptr, put_slice, Nat.lt_add_one, Nat.zero_lt_succ, Nat.reduceLT, bin_add, bin_sub, bin_mul, bin_quo, bin_rem, bin_eql, bin_neq, bin_lss, bin_leq, bin_gtr, bin_geq, bin_sadd, bin_seq, bin_sne, bin_slt, bin_sgt, bin_sge, bin_sle, nil_ptr, fld_ptr, ld_one, one_int, one_bool, one_str, one_slice, one_ptr, one_map, ext_tuple, ixa_slice, ixa_arr, ixs_str, lens_str, lenl_sl, un_not, un_neg, cvt_int, min_int, max_int, bd_none, bd_some, sls_str, sll_sl, isB_t, isB_f, cond_true, cond_false, pick_t, pick_f, pick_or, pick_and, condW_true, condW_false, add_mk, cell_eq, cellO_some, frozen_eq, frO_zero, setO_some, heap_drew, size_drew, size_set, size_alloc, exists_eq_left', Option.some.injEq, true_and, and_true, Option.isSome_some, Option.map_some, List.getElem?_toArray, List.getElem?_cons_zero, List.getElem?_cons_succ, List.size_toArray, List.length_cons, List.length_nil, List.setIfInBounds_toArray, List.set_cons_zero, List.set_cons_succ, List.getD_cons_zero, List.getD_cons_succ, Nat.zero_add, Nat.add_zero, Nat.reduceAdd, Bool.not_true, Bool.not_false, ne_eq, not_true_eq_false, not_false_eq_true, reduceCtorEq, decide_true, decide_false]
      have hP7 := hP.more hx7
      refine ld_all hP7.ba rfl ?_
      simp only [Bool.and_true, Bool.and_false, Bool.true_and, Bool.false_and, Bool.or_true, Bool.or_false, Bool.true_or, Bool.false_or, put_nil, put_map, put_int, put_str, put_bool, put_ptr, put_slice, Nat.lt_add_one, Nat.zero_lt_succ, Nat.reduceLT, bin_add, bin_sub, bin_mul, bin_quo, bin_rem, bin_eql, bin_neq, bin_lss, bin_leq, bin_gtr, bin_geq, bin_sadd, bin_seq, bin_sne, bin_slt, bin_sgt, bin_sge, bin_sle, nil_ptr, fld_ptr, ld_one, one_int, one_bool, one_str, one_slice, one_ptr, one_map, ext_tuple, ixa_slice, ixa_arr, ixs_str, lens_str, lenl_sl, un_not, un_neg, cvt_int, min_int, max_int, bd_none, bd_some, sls_str, sll_sl, isB_t, isB_f, cond_true, cond_false, pick_t, pick_f, pick_or, pick_and, condW_true, condW_false, add_mk, cell_eq, cellO_some, frozen_eq, frO_zero, setO_some, heap_drew, size_drew, size_set, size_alloc, exists_eq_left', Option.some.injEq, true_and, and_true, Option.isSome_some, Option.map_some, List.getElem?_toArray, List.getElem?_cons_zero, List.getElem?_cons_succ, List.size_toArray, List.length_cons, List.length_nil, List.setIfInBounds_toArray, List.set_cons_zero, List.set_cons_succ, List.getD_cons_zero, List.getD_cons_succ, Nat.zero_add, Nat.add_zero, Nat.reduceAdd, Bool.not_true, Bool.not_false, ne_eq, not_true_eq_false, not_false_eq_true, reduceCtorEq, decide_true, decide_false, hP7.bd]
      refine at_ref ⟨sp, sc, rfl, SlAt.ext hl5 hx7⟩ h.ok.few fun rr w8 hx8 hrr => ?_
      have hxd : Ext w8 w8.drew := (by repeat (first | assumption | exact Chg.refl _ _ | refine Chg.drew ?_ | refine Chg.alloc ?_ _ | refine Chg.set ?_ (by first | exact .inl rfl | exact .inr (by omega) | exact .inr (by simp only [size_set, size_alloc, size_drew]; omega) | (left; simp; done)) _ | exact Chg.of_ext (by assumption)))
      have hP8 := hP7.more (hx8.trans hxd)
      have hbv := hbv.ext (hx8.trans hxd)
      have h8 := (h5.more hx7).more (hx8.trans hxd)
      have hl8 := SlAt.ext hl5 (hx7.trans (hx8.trans hxd))
      have hx80 := hx.trans (hx7.trans (hx8.trans hxd))
      generalize w8.drew = w9 at *
      refine ld_all hP8.ba rfl ?_
      have hpos : decide (0 ≤ rr) = (lkM s.files o.p).isSome := by
        rcases hrr with ⟨rfl, hn⟩ | ⟨i, x, rfl, hget, hlk⟩
        · rw [hn]; rfl
        · rw [hlk]; exact decide_eq_true (by omega)
      have hend : ∀ w10, w10.heap[r]? = some (.cells (rl sp s.files.length sc s).toArray 38 (0, 0)) → Chg (fun k => k = r) w9 w10 → ldW true 4 (.pointer (some ⟨r, 0, none⟩)) w10 fun r57 => K (.tuple #[fp b, r57, .bool true]) w10 := by
        intro w10 hb10 hc10
        refine ld_all hb10 rfl ?_
        have hgr := hP8.gr
        have h10 := h8.side hP8.br hc10 (by have := h.ext.size; omega)
        exact hK b m _ w10 ⟨h10, ⟨sp, sc, rfl, FsL.side hl8 hP8.br (by decide) hc10⟩, Chg.of_ext (hx80.new hc10 hgr), .inl ⟨rfl, rfl⟩⟩
      have heq : eqW .bool false (.bool (lkM s.files o.p).isSome) (.bool (decide (0 ≤ rr))) = fun K => K (.bool true) := by
        rw [hpos]; funext K; simp [eqW]
      have hge : ∀ K : Value → Prop, binW .geq (i64 rr) (.int .i64 0) K ↔ K (.bool (decide (0 ≤ rr))) := fun K => bin_geq _ _ _ _
      rw [hge, heq]
      have hu1 : isB undef true = false := rfl
      have hu2 : isB undef false = false := rfl
      rcases hrr with ⟨rfl, hn⟩ | ⟨i, x, rfl, hget, hlk⟩
      · rw [hn] at hbv
        simp only [isB_t, isB_f]
        refine GqW.t (i64 (-1)) rfl ?_
        refine GqW.t (.bool true) (by rw [bin_lss]; rfl) ?_
        refine GqW.t (.bool true) rfl ?_
        refine GqW.t bv rfl ?_
        refine GqW.t (i64 0) (by rw [lenl_at hbv]; rfl) ?_
        refine GqW.t (.bool true) (by rw [bin_eql]; rfl) ?_
        refine GqW.t (.bool true) rfl ?_
        refine GqW.t (.bool true) rfl ?_
        refine GqW.f ?_
        refine GqW.f ?_
        refine GqW.f ?_
        refine GqW.f ?_
        refine GqW.f ?_
        refine GqW.f ?_
        refine GqW.f ?_
        refine GqW.f ?_
        refine GqW.f ?_
        refine GqW.f ?_
        refine GqW.f ?_
        refine GqW.f ?_
        refine GqW.f ?_
        refine GqW.t (.bool true) rfl ?_
        simp only [pick_t]
        refine st_agg_at hP8.br rfl rfl rfl fun w10 _ hb10 hc10 => ?_
        exact ⟨(fun h => by cases h), (fun h => by cases h), (fun h => by cases h), hend w10 hb10 hc10⟩
      · rw [hlk] at hbv
        simp only [Option.getD_some] at hbv
        simp only [isB_t, isB_f]
        refine GqW.t (i64 (i : Nat)) rfl ?_
        refine GqW.t (.bool false) (by rw [bin_lss]; exact congrArg Value.bool (decide_eq_false (by omega))) ?_
        refine GqW.t (.bool false) rfl ?_
        refine GqW.f ?_
        refine GqW.f ?_
        refine GqW.f ?_
        refine GqW.t (.bool false) rfl ?_
        refine GqW.t (.bool false) rfl ?_
        refine GqW.t (i64 (i : Nat)) rfl ?_
        refine GqW.t (.bool true) (by rw [bin_geq]; exact congrArg Value.bool (decide_eq_true (by omega))) ?_
        refine GqW.t (.bool true) rfl ?_
        refine GqW.t bv rfl ?_
        refine GqW.t (str x.data) (by rw [conv_b hbv]) ?_
        refine GqW.t (.pointer (some ⟨a, 0, none⟩)) rfl ?_
        refine GqW.t (.slice sp s.files.length sc) (by simp only [Bool.and_true, Bool.and_false, Bool.true_and, Bool.false_and, Bool.or_true, Bool.or_false, Bool.true_or, Bool.false_or, put_nil, put_map, put_int, put_str, put_bool, put_ptr, put_slice, Nat.lt_add_one, Nat.zero_lt_succ, Nat.reduceLT, bin_add, bin_sub, bin_mul, bin_quo, bin_rem, bin_eql, bin_neq, bin_lss, bin_leq, bin_gtr, bin_geq, bin_sadd, bin_seq, bin_sne, bin_slt, bin_sgt, bin_sge, bin_sle, nil_ptr, fld_ptr, ld_one, one_int, one_bool, one_str, one_slice, one_ptr, one_map, ext_tuple, ixa_slice, ixa_arr, ixs_str, lens_str, lenl_sl, un_not, un_neg, cvt_int, min_int, max_int, bd_none, bd_some, sls_str, sll_sl, isB_t, isB_f, cond_true, cond_false, pick_t, pick_f, pick_or, pick_and, condW_true, condW_false, add_mk, cell_eq, cellO_some, frozen_eq, frO_zero, setO_some, heap_drew, size_drew, size_set, size_alloc, exists_eq_left', Option.some.injEq, true_and, and_true, Option.isSome_some, Option.map_some, List.getElem?_toArray, List.getElem?_cons_zero, List.getElem?_cons_succ, List.size_toArray, List.length_cons, List.length_nil, List.setIfInBounds_toArray, List.set_cons_zero, List.set_cons_succ, List.getD_cons_zero, List.getD_cons_succ, Nat.zero_add, Nat.add_zero, Nat.reduceAdd, Bool.not_true, Bool.not_false, ne_eq, not_true_eq_false, not_false_eq_true, reduceCtorEq, decide_true, decide_false, hP8.ba]) ?_
        refine GqW.t (i64 (i : Nat)) rfl ?_
        obtain ⟨px, ⟨bb, oo, cc, fr, rfl, hbb, q1⟩, hpx⟩ := ixa_val (ixf (K := fun z => ∃ b o c fr, z = .pointer (some ⟨b, o, none⟩) ∧ w9.heap[b]? = some (.cells c RT fr) ∧ c[o + 1]? = some (str x.data)) hl8 hget fun b o c fr hb h0 h1 _ _ => ⟨b, o, c, fr, rfl, hb, h1⟩)
        refine GqW.t _ (hpx _ rfl) ?_
        refine GqW.t (.pointer (some ⟨bb, oo + 1, none⟩)) (by simp only [Bool.and_true, Bool.and_false, Bool.true_and, Bool.false_and, Bool.or_true, Bool.or_false, Bool.true_or, Bool.false_or, put_nil, put_map, put_int, put_str, put_bool, put_ptr, put_slice, Nat.lt_add_one, Nat.zero_lt_succ, Nat.reduceLT, bin_add, bin_sub, bin_mul, bin_quo, bin_rem, bin_eql, bin_neq, bin_lss, bin_leq, bin_gtr, bin_geq, bin_sadd, bin_seq, bin_sne, bin_slt, bin_sgt, bin_sge, bin_sle, nil_ptr, fld_ptr, ld_one, one_int, one_bool, one_str, one_slice, one_ptr, one_map, ext_tuple, ixa_slice, ixa_arr, ixs_str, lens_str, lenl_sl, un_not, un_neg, cvt_int, min_int, max_int, bd_none, bd_some, sls_str, sll_sl, isB_t, isB_f, cond_true, cond_false, pick_t, pick_f, pick_or, pick_and, condW_true, condW_false, add_mk, cell_eq, cellO_some, frozen_eq, frO_zero, setO_some, heap_drew, size_drew, size_set, size_alloc, exists_eq_left', Option.some.injEq, true_and, and_true, Option.isSome_some, Option.map_some, List.getElem?_toArray, List.getElem?_cons_zero, List.getElem?_cons_succ, List.size_toArray, List.length_cons, List.length_nil, List.setIfInBounds_toArray, List.set_cons_zero, List.set_cons_succ, List.getD_cons_zero, List.getD_cons_succ, Nat.zero_add, Nat.add_zero, Nat.reduceAdd, Bool.not_true, Bool.not_false, ne_eq, not_true_eq_false, not_false_eq_true, reduceCtorEq, decide_true, decide_false]) ?_
        refine GqW.t (str x.data) (by simp only [Bool.and_true, Bool.and_false, Bool.true_and, Bool.false_and, Bool.or_true, Bool.or_false, Bool.true_or, Bool.false_or, put_nil, put_map, put_int, put_str, put_bool, put_ptr, put_slice, Nat.lt_add_one, Nat.zero_lt_succ, Nat.reduceLT, bin_add, bin_sub, bin_mul, bin_quo, bin_rem, bin_eql, bin_neq, bin_lss, bin_leq, bin_gtr, bin_geq, bin_sadd, bin_seq, bin_sne, bin_slt, bin_sgt, bin_sge, bin_sle, nil_ptr, fld_ptr, ld_one, one_int, one_bool, one_str, one_slice, one_ptr, one_map, ext_tuple, ixa_slice, ixa_arr, ixs_str, lens_str, lenl_sl, un_not, un_neg, cvt_int, min_int, max_int, bd_none, bd_some, sls_str, sll_sl, isB_t, isB_f, cond_true, cond_false, pick_t, pick_f, pick_or, pick_and, condW_true, condW_false, add_mk, cell_eq, cellO_some, frozen_eq, frO_zero, setO_some, heap_drew, size_drew, size_set, size_alloc, exists_eq_left', Option.some.injEq, true_and, and_true, Option.isSome_some, Option.map_some, List.getElem?_toArray, List.getElem?_cons_zero, List.getElem?_cons_succ, List.size_toArray, List.length_cons, List.length_nil, List.setIfInBounds_toArray, List.set_cons_zero, List.set_cons_succ, List.getD_cons_zero, List.getD_cons_succ, Nat.zero_add, Nat.add_zero, Nat.reduceAdd, Bool.not_true, Bool.not_false, ne_eq, not_true_eq_false, not_false_eq_true, reduceCtorEq, decide_true, decide_false, hbb, q1]) ?_
        refine GqW.t (.bool true) (by simp only [Bool.and_true, Bool.and_false, Bool.true_and, Bool.false_and, Bool.or_true, Bool.or_false, Bool.true_or, Bool.false_or, put_nil, put_map, put_int, put_str, put_bool, put_ptr, put_slice, Nat.lt_add_one, Nat.zero_lt_succ, Nat.reduceLT, bin_add, bin_sub, bin_mul, bin_quo, bin_rem, bin_eql, bin_neq, bin_lss, bin_leq, bin_gtr, bin_geq, bin_sadd, bin_seq, bin_sne, bin_slt, bin_sgt, bin_sge, bin_sle, nil_ptr, fld_ptr, ld_one, one_int, one_bool, one_str, one_slice, one_ptr, one_map, ext_tuple, ixa_slice, ixa_arr, ixs_str, lens_str, lenl_sl, un_not, un_neg, cvt_int, min_int, max_int, bd_none, bd_some, sls_str, sll_sl, isB_t, isB_f, cond_true, cond_false, pick_t, pick_f, pick_or, pick_and, condW_true, condW_false, add_mk, cell_eq, cellO_some, frozen_eq, frO_zero, setO_some, heap_drew, size_drew, size_set, size_alloc, exists_eq_left', Option.some.injEq, true_and, and_true, Option.isSome_some, Option.map_some, List.getElem?_toArray, List.getElem?_cons_zero, List.getElem?_cons_succ, List.size_toArray, List.length_cons, List.length_nil, List.setIfInBounds_toArray, List.set_cons_zero, List.set_cons_succ, List.getD_cons_zero, List.getD_cons_succ, Nat.zero_add, Nat.add_zero, Nat.reduceAdd, Bool.not_true, Bool.not_false, ne_eq, not_true_eq_false, not_false_eq_true, reduceCtorEq, decide_true, decide_false]) ?_
        refine GqW.t (.bool true) rfl ?_
        refine GqW.t (.bool true) rfl ?_
        simp only [pick_t]
        refine st_agg_at hP8.br rfl rfl rfl fun w10 _ hb10 hc10 => ?_
        have hne : bb ≠ r := by intro e; rw [e, hP8.br] at hbb; cases hbb
        refine ⟨fun _ => ?_, fun _ => ?_, fun _ => ?_, hend w10 hb10 hc10⟩
        · have hbb := hc10.at hbb hne
          simp only [Bool.and_true, Bool.and_false, Bool.true_and, Bool.false_and, Bool.or_true, Bool.or_false, Bool.true_or, Bool.false_or, put_nil, put_map, put_int, put_str, put_bool, put_ptr, put_slice, Nat.lt_add_one, Nat.zero_lt_succ, Nat.reduceLT, bin_add, bin_sub, bin_mul, bin_quo, bin_rem, bin_eql, bin_neq, bin_lss, bin_leq, bin_gtr, bin_geq, bin_sadd, bin_seq, bin_sne, bin_slt, bin_sgt, bin_sge, bin_sle, nil_ptr, fld_ptr, ld_one, one_int, one_bool, one_str, one_slice, one_ptr, one_map, ext_tuple, ixa_slice, ixa_arr, ixs_str, lens_str, lenl_sl, un_not, un_neg, cvt_int, min_int, max_int, bd_none, bd_some, sls_str, sll_sl, isB_t, isB_f, cond_true, cond_false, pick_t, pick_f, pick_or, pick_and, condW_true, condW_false, add_mk, cell_eq, cellO_some, frozen_eq, frO_zero, setO_some, heap_drew, size_drew, size_set, size_alloc, exists_eq_left', Option.some.injEq, true_and, and_true, Option.isSome_some, Option.map_some, List.getElem?_toArray, List.getElem?_cons_zero, List.getElem?_cons_succ, List.size_toArray, List.length_cons, List.length_nil, List.setIfInBounds_toArray, List.set_cons_zero, List.set_cons_succ, List.getD_cons_zero, List.getD_cons_succ, Nat.zero_add, Nat.add_zero, Nat.reduceAdd, Bool.not_true, Bool.not_false, ne_eq, not_true_eq_false, not_false_eq_true, reduceCtorEq, decide_true, decide_false, hbb, q1]
        · have hba := hc10.at hP8.ba hP8.ar
          simp only [Bool.and_true, Bool.and_false, Bool.true_and, Bool.false_and, Bool.or_true, Bool.or_false, Bool.true_or, Bool.false_or, put_nil, put_map, put_int, put_str, put_bool, put_ptr, put_slice, Nat.lt_add_one, Nat.zero_lt_succ, Nat.reduceLT, bin_add, bin_sub, bin_mul, bin_quo, bin_rem, bin_eql, bin_neq, bin_lss, bin_leq, bin_gtr, bin_geq, bin_sadd, bin_seq, bin_sne, bin_slt, bin_sgt, bin_sge, bin_sle, nil_ptr, fld_ptr, ld_one, one_int, one_bool, one_str, one_slice, one_ptr, one_map, ext_tuple, ixa_slice, ixa_arr, ixs_str, lens_str, lenl_sl, un_not, un_neg, cvt_int, min_int, max_int, bd_none, bd_some, sls_str, sll_sl, isB_t, isB_f, cond_true, cond_false, pick_t, pick_f, pick_or, pick_and, condW_true, condW_false, add_mk, cell_eq, cellO_some, frozen_eq, frO_zero, setO_some, heap_drew, size_drew, size_set, size_alloc, exists_eq_left', Option.some.injEq, true_and, and_true, Option.isSome_some, Option.map_some, List.getElem?_toArray, List.getElem?_cons_zero, List.getElem?_cons_succ, List.size_toArray, List.length_cons, List.length_nil, List.setIfInBounds_toArray, List.set_cons_zero, List.set_cons_succ, List.getD_cons_zero, List.getD_cons_succ, Nat.zero_add, Nat.add_zero, Nat.reduceAdd, Bool.not_true, Bool.not_false, ne_eq, not_true_eq_false, not_false_eq_true, reduceCtorEq, decide_true, decide_false, hba]
        · rw [conv_b (Byt.chg hbv hc10 (by rintro k c fr rfl e; rw [hP8.br] at e; cases e))]
  · rintro s6 g6 w6 ⟨b', m', e, sp', sc', rfl, hP, hf, hl, hc, hnew⟩
    have hxd : Ext w6 w6.drew := (by repeat (first | assumption | exact Chg.refl _ _ | refine Chg.drew ?_ | refine Chg.alloc ?_ _ | refine Chg.set ?_ (by first | exact .inl rfl | exact .inr (by omega) | exact .inr (by simp only [size_set, size_alloc, size_drew]; omega) | (left; simp; done)) _ | exact Chg.of_ext (by assumption)))
    have hP := hP.more hxd
    have hf := hf.more hxd
    have hl := SlAt.ext hl hxd
    have hc := hc.trans (Chg.of_ext hxd)
    generalize w6.drew = w7 at *
    refine ld_all hP.ba rfl ?_
    have e1 : decide (e = e) = true := decide_eq_true rfl
    simp only [Bool.and_true, Bool.and_false, Bool.true_and, Bool.false_and, Bool.or_true, Bool.or_false, Bool.true_or, Bool.false_or, put_nil, put_map, put_int, put_str, put_bool, put_ptr, put_slice, Nat.lt_add_one, Nat.zero_lt_succ, Nat.reduceLT, bin_add, bin_sub, bin_mul, bin_quo, bin_rem, bin_eql, bin_neq, bin_lss, bin_leq, bin_gtr, bin_geq, bin_sadd, bin_seq, bin_sne, bin_slt, bin_sgt, bin_sge, bin_sle, nil_ptr, fld_ptr, ld_one, one_int, one_bool, one_str, one_slice, one_ptr, one_map, ext_tuple, ixa_slice, ixa_arr, ixs_str, lens_str, lenl_sl, un_not, un_neg, cvt_int, min_int, max_int, bd_none, bd_some, sls_str, sll_sl, isB_t, isB_f, cond_true, cond_false, pick_t, pick_f, pick_or, pick_and, condW_true, condW_false, add_mk, cell_eq, cellO_some, frozen_eq, frO_zero, setO_some, heap_drew, size_drew, size_set, size_alloc, exists_eq_left', Option.some.injEq, true_and, and_true, Option.isSome_some, Option.map_some, List.getElem?_toArray, List.getElem?_cons_zero, List.getElem?_cons_succ, List.size_toArray, List.length_cons, List.length_nil, List.setIfInBounds_toArray, List.set_cons_zero, List.set_cons_succ, List.getD_cons_zero, List.getD_cons_succ, Nat.zero_add, Nat.add_zero, Nat.reduceAdd, Bool.not_true, Bool.not_false, ne_eq, not_true_eq_false, not_false_eq_true, reduceCtorEq, decide_true, decide_false, e1]
    refine ret_agg hP.br rfl rfl rfl fun w8 hc8 => ?_
    have hgr := hP.gr
    have h8 := hf.side hP.br hc8 (by have := h.ext.size; omega)
    exact hK b' m' _ w8 ⟨h8, ⟨sp', sc', rfl, FsL.side hl hP.br (by decide) hc8⟩, hc.then hc8 fun k hk e => by omega, hnew⟩
end Go.Proofs.Ytcefidpmlnfheaa
