/- One plain sentence: what strings.ContainsAny answers for a text and the three bytes that no path may have. Conditions: none. -/
import Derived.Test.YtcefidpmlnfheaaWt1
import Derived.Test.YtcefidpmlnfheaaShelf
import Derived.Test.YtcefidpmlnfheaaVModel
import Derived.Lib.MapLaws
set_option linter.all false
set_option linter.unusedSimpArgs false
set_option linter.unusedVariables false
set_option linter.unusedSectionVars false
namespace Go.Proofs.Ytcefidpmlnfheaa
open Go Go.Eng
set_option maxRecDepth 100000

theorem of_calls {g : FuncId} {args : Array Value} {w : World} {K : Value → World → Prop} (hr : ∀ (ar : Array Value) (w : World), (callFunc g ar).run Try.prog w = .ok (.enter g ar) w)
    (h : Calls Try.prog g args w fun e w' => ∃ v, e = .returned v ∧ K v w') : callF Try.prog g args.toList w K := by
  unfold callF
  rw [show args.toList.toArray = args from by simp, hr]
  exact h

theorem get!_ofL (l : Str) (i : Nat) : (ofL l).get! i = l.getD i 0 := by
  simp only [ofL, ByteArray.get!, List.getD_eq_getElem?_getD]
  show (l.toArray)[i]! = _
  simp only [List.getElem!_toArray, List.getElem!_eq_getElem?_getD]
  rfl

theorem dec_facts (l : Str) (pos : Nat) (hp : pos < l.length) :
    ((l.getD pos 0).toNat < 128 → Utf8.decode (ofL l) pos = ((l.getD pos 0).toNat, 1)) ∧
    (128 ≤ (l.getD pos 0).toNat → 128 ≤ (Utf8.decode (ofL l) pos).1 ∧ ((Utf8.decode (ofL l) pos).1 < 55296 ∨ (57344 ≤ (Utf8.decode (ofL l) pos).1 ∧ (Utf8.decode (ofL l) pos).1 ≤ 1114111)) ∧ 1 ≤ (Utf8.decode (ofL l) pos).2 ∧
      pos + (Utf8.decode (ofL l) pos).2 ≤ l.length ∧ ∀ k, pos ≤ k → k < pos + (Utf8.decode (ofL l) pos).2 → 128 ≤ (l.getD k 0).toNat) := by
  have hd := Lib.decode_at (ofL l) pos
  rw [ofL_size] at hd
  simp only [get!_ofL] at hd
  have hb : ∀ i, (l.getD i 0).toNat < 256 := fun i => UInt8.toNat_lt _
  have h0 := hb pos
  have h1 := hb (pos + 1)
  have h2 := hb (pos + 2)
  have h3 := hb (pos + 3)
  have hs := Lib.decodeN_shape (l.length - pos) (l.getD pos 0).toNat (l.getD (pos + 1) 0).toNat (l.getD (pos + 2) 0).toNat (l.getD (pos + 3) 0).toNat
  rw [← hd] at hs
  have hasc : (l.getD pos 0).toNat < 128 → Utf8.decode (ofL l) pos = ((l.getD pos 0).toNat, 1) := fun h => by rw [hd]; unfold Lib.decodeN; rw [if_pos h]
  refine ⟨hasc, ?_⟩
  clear hasc
  generalize Utf8.decode (ofL l) pos = d at *
  obtain ⟨c, wd⟩ := d
  clear hd hb
  have one : ∀ k, pos ≤ k → k < pos + 1 → k = pos := fun k h1 h2 => by omega
  have two : ∀ k, pos ≤ k → k < pos + 2 → k = pos ∨ k = pos + 1 := fun k h1 h2 => by omega
  have three : ∀ k, pos ≤ k → k < pos + 3 → k = pos ∨ k = pos + 1 ∨ k = pos + 2 := fun k h1 h2 => by omega
  have four : ∀ k, pos ≤ k → k < pos + 4 → k = pos ∨ k = pos + 1 ∨ k = pos + 2 ∨ k = pos + 3 := fun k h1 h2 => by omega
  rcases hs with ⟨ha, he⟩ | ⟨ha, hn, q1, q2, he⟩ | ⟨ha, hn, q1, q2, q3, q4, he⟩ | ⟨ha, hn, q1, q2, q3, q4, q5, he⟩ | he <;> simp only [Prod.mk.injEq] at he <;> obtain ⟨rfl, rfl⟩ := he
  · exact fun h => by omega
  · refine fun h => ⟨q2, .inl (by omega), by omega, by omega, fun k hk1 hk2 => ?_⟩
    rcases two k hk1 hk2 with rfl | rfl <;> omega
  · refine fun h => ⟨by omega, by omega, by omega, by omega, fun k hk1 hk2 => ?_⟩
    rcases three k hk1 hk2 with rfl | rfl | rfl <;> omega
  · refine fun h => ⟨by omega, by omega, by omega, by omega, fun k hk1 hk2 => ?_⟩
    rcases four k hk1 hk2 with rfl | rfl | rfl | rfl <;> omega
  · refine fun h => ⟨by omega, by omega, by omega, by omega, fun k hk1 hk2 => ?_⟩
    rw [one k hk1 hk2]; exact h

/-- 'for .. range s' over a string -/
theorem range_str {T : TypeId} (hT : Try.prog.underlying T = some .string) {l : Str} {w : World} {K : Value → World → Prop}
    (hK : K (.pointer (some ⟨w.heap.size, 0, none⟩)) (w.alloc (.stringIter (ofL l) 0))) : semE Try.prog (Instr.range T (str l)) w K := by
  have hr : (Instr.range T (str l)).run Try.prog w = .ok (.pointer (some ⟨w.heap.size, 0, none⟩)) (w.alloc (.stringIter (ofL l) 0)) := by
    simp [Instr.range, run_bind, run_underlying' hT, run_pure, newObj, Sem.run]
  unfold semE
  rw [hr]
  exact hK
theorem next_str {r pos : Nat} {l : Str} {T : TypeId} {w : World} {K : Value → World → Prop} (hw : w.heap[r]? = some (.stringIter (ofL l) pos))
    (h0 : l.length ≤ pos → K (.tuple #[.bool false]) w)
    (h1 : pos < l.length → ∀ w', w'.heap[r]? = some (.stringIter (ofL l) (pos + (Utf8.decode (ofL l) pos).2)) → Chg (· = r) w w' → K (.tuple #[.bool true, i64 pos, .int .i32 (Utf8.decode (ofL l) pos).1]) w') :
    semE Try.prog (Instr.next (.pointer (some ⟨r, 0, none⟩)) true T) w K := by
  have hg : (getObj r).run Try.prog w = .ok (.stringIter (ofL l) pos) w := by simp [getObj, Sem.run, hw]
  have hlt : r < w.heap.size := (Array.getElem?_eq_some_iff.1 hw).1
  unfold semE
  simp only [Instr.next, run_bind, hg, ofL_size]
  by_cases hp : pos < l.length
  · have hset : (setObj r (.stringIter (ofL l) (pos + (Utf8.decode (ofL l) pos).2))).run Try.prog w = .ok () { w with heap := w.heap.setIfInBounds r (.stringIter (ofL l) (pos + (Utf8.decode (ofL l) pos).2)) } := by simp [setObj, Sem.run, hw]
    rw [if_pos hp]
    simp only [run_bind, hset, run_pure]
    exact h1 hp _ (by simp [hlt]) setObj_chg
  · rw [if_neg hp]
    simp only [run_pure]
    exact h0 (by omega)

def badL : Str := [0, 10, 32]

theorem index_byte {s : Str} {c : Int} {w : World} {K : Value → World → Prop} (hK : K (i64 (Lib.indexByte s c.toNat.toUInt8)) w) : callF Try.prog 69 [str s, .int .u8 c] w K := by
  refine of_calls (args := #[str s, .int .u8 c]) Try.call69 ((Try.strings_IndexByte (ofL s) c w).mono ?_)
  rintro e w' ⟨rfl, rfl⟩
  rw [ofL_data]
  exact ⟨_, rfl, hK⟩

theorem enc_facts {c : Int} (h0 : 128 ≤ c) (hv : c < 55296 ∨ (57344 ≤ c ∧ c ≤ 1114111)) : ∃ l : Str, Utf8.encode c = ofL l ∧ 2 ≤ l.length ∧ l.length ≤ 4 ∧ ∃ b, l[l.length - 1]? = some b ∧ 128 ≤ b.toNat := by
  obtain ⟨n, rfl⟩ := Int.eq_ofNat_of_zero_le (show 0 ≤ c by omega)
  have hval : Utf8.valid (n : Int) = true := by
    simp only [Utf8.valid, Bool.or_eq_true, Bool.and_eq_true, decide_eq_true_eq]
    omega
  have last : ∀ m : Nat, 128 ≤ (UInt8.ofNat (0x80 + m % 64)).toNat := by
    intro m
    rw [UInt8.toNat_ofNat']
    omega
  unfold Utf8.encode
  simp only [hval, if_true, Int.toNat_natCast]
  rw [if_neg (by omega)]
  split
  · exact ⟨[_, _], rfl, by simp, by simp, _, rfl, last _⟩
  · split
    · exact ⟨[_, _, _], rfl, by simp, by simp, _, rfl, last _⟩
    · exact ⟨[_, _, _, _], rfl, by simp, by simp, _, rfl, last _⟩

theorem cvs_int {k : IntKind} {c : Int} {K : Value → Prop} : cvsW (.int k c) K ↔ K (.string (Utf8.encode c)) := Iff.rfl

theorem idx_none (l : Str) (b : UInt8) (h : ∀ x ∈ l, x.toNat < 128) (hb : 128 ≤ b.toNat) : Lib.indexByte l b = -1 := by
  induction l with
  | nil => rfl
  | cons x l ih =>
    have hx := h x List.mem_cons_self
    have ih := ih fun y hy => h y (List.mem_cons_of_mem _ hy)
    have hne : (x == b) = false := by
      rw [beq_eq_false_iff_ne]
      intro e
      subst e
      omega
    simp [Lib.indexByte, hne, ih]

theorem idx_bad (n : Nat) (hn : n < 128) : (0 ≤ Lib.indexByte badL (n.toUInt8) ↔ n = 0 ∨ n = 10 ∨ n = 32) := by
  have : ∀ m : Fin 128, (0 ≤ Lib.indexByte badL (m.val.toUInt8) ↔ m.val = 0 ∨ m.val = 10 ∨ m.val = 32) := by decide +kernel
  exact this ⟨n, hn⟩

/-- is the rune one of the three? -/
theorem index_rune {c : Int} {w : World} {K : Value → World → Prop} (h0 : 0 ≤ c) (hv : c < 55296 ∨ (57344 ≤ c ∧ c ≤ 1114111))
    (hK : ∀ r : Int, ∀ w', (0 ≤ r ↔ c = 0 ∨ c = 10 ∨ c = 32) → Ext w w' → K (i64 r) w') : callF Try.prog 54 [str badL, .int .i32 c] w K := by
  refine W54_ok ?_
  unfold W54
  simp (disch := omega) only [Bool.and_true, Bool.and_false, Bool.true_and, Bool.false_and, Bool.or_true, Bool.or_false, Bool.true_or, Bool.false_or, put_nil, put_map, put_int, put_str, put_bool, put_ptr, put_slice, Nat.lt_add_one, Nat.zero_lt_succ, Nat.reduceLT, bin_add, bin_sub, bin_mul, bin_quo, bin_rem, bin_eql, bin_neq, bin_lss, bin_leq, bin_gtr, bin_geq, bin_sadd, bin_seq, bin_sne, bin_slt, bin_sgt, bin_sge, bin_sle, nil_ptr, fld_ptr, ld_one, ld_agg, st_int, st_bool, st_str, st_slice, st_ptr, st_map, st_agg, stc_nil, stc_cons, one_int, one_bool, one_str, one_slice, one_ptr, one_map, ext_tuple, ixa_slice, ixa_arr, ixs_str, lens_str, lenl_sl, un_not, un_neg, cvt_int, min_int, max_int, alloc_go, box_agg, box_int, box_bool, box_str, box_slice, box_ptr, box_map, bd_none, bd_some, sls_str, sll_sl, isB_t, isB_f, cond_true, cond_false, pick_t, pick_f, pick_or, pick_and, condW_true, condW_false, cellsAt, add_mk, cell_eq, cellO_some, frozen_eq, frO_zero, heap_set_same, heap_set_other, setO_some, heap_anew, heap_aold, heap_drew, size_drew, size_set, size_alloc, exists_eq_left', Option.some.injEq, true_and, and_true, Option.isSome_some, Option.map_some, List.getElem?_toArray, List.getElem?_cons_zero, List.getElem?_cons_succ, List.size_toArray, List.length_cons, List.length_nil, List.setIfInBounds_toArray, List.set_cons_zero, List.set_cons_succ, List.getD_cons_zero, List.getD_cons_succ, Nat.zero_add, Nat.add_zero, Nat.reduceAdd, Bool.not_true, Bool.not_false, ne_eq, not_true_eq_false, not_false_eq_true, reduceCtorEq, decide_true, decide_false, decide_eq_true h0]
  refine GdW.t ?_
  simp (disch := omega) only [Bool.and_true, Bool.and_false, Bool.true_and, Bool.false_and, Bool.or_true, Bool.or_false, Bool.true_or, Bool.false_or, put_nil, put_map, put_int, put_str, put_bool, put_ptr, put_slice, Nat.lt_add_one, Nat.zero_lt_succ, Nat.reduceLT, bin_add, bin_sub, bin_mul, bin_quo, bin_rem, bin_eql, bin_neq, bin_lss, bin_leq, bin_gtr, bin_geq, bin_sadd, bin_seq, bin_sne, bin_slt, bin_sgt, bin_sge, bin_sle, nil_ptr, fld_ptr, ld_one, ld_agg, st_int, st_bool, st_str, st_slice, st_ptr, st_map, st_agg, stc_nil, stc_cons, one_int, one_bool, one_str, one_slice, one_ptr, one_map, ext_tuple, ixa_slice, ixa_arr, ixs_str, lens_str, lenl_sl, un_not, un_neg, cvt_int, min_int, max_int, alloc_go, box_agg, box_int, box_bool, box_str, box_slice, box_ptr, box_map, bd_none, bd_some, sls_str, sll_sl, isB_t, isB_f, cond_true, cond_false, pick_t, pick_f, pick_or, pick_and, condW_true, condW_false, cellsAt, add_mk, cell_eq, cellO_some, frozen_eq, frO_zero, heap_set_same, heap_set_other, setO_some, heap_anew, heap_aold, heap_drew, size_drew, size_set, size_alloc, exists_eq_left', Option.some.injEq, true_and, and_true, Option.isSome_some, Option.map_some, List.getElem?_toArray, List.getElem?_cons_zero, List.getElem?_cons_succ, List.size_toArray, List.length_cons, List.length_nil, List.setIfInBounds_toArray, List.set_cons_zero, List.set_cons_succ, List.getD_cons_zero, List.getD_cons_succ, Nat.zero_add, Nat.add_zero, Nat.reduceAdd, Bool.not_true, Bool.not_false, ne_eq, not_true_eq_false, not_false_eq_true, reduceCtorEq, decide_true, decide_false]
  intro g
  by_cases hasc : c < 128
  · simp (disch := omega) only [Bool.and_true, Bool.and_false, Bool.true_and, Bool.false_and, Bool.or_true, Bool.or_false, Bool.true_or, Bool.false_or, put_nil, put_map, put_int, put_str, put_bool, put_ptr, put_slice, Nat.lt_add_one, Nat.zero_lt_succ, Nat.reduceLT, bin_add, bin_sub, bin_mul, bin_quo, bin_rem, bin_eql, bin_neq, bin_lss, bin_leq, bin_gtr, bin_geq, bin_sadd, bin_seq, bin_sne, bin_slt, bin_sgt, bin_sge, bin_sle, nil_ptr, fld_ptr, ld_one, ld_agg, st_int, st_bool, st_str, st_slice, st_ptr, st_map, st_agg, stc_nil, stc_cons, one_int, one_bool, one_str, one_slice, one_ptr, one_map, ext_tuple, ixa_slice, ixa_arr, ixs_str, lens_str, lenl_sl, un_not, un_neg, cvt_int, min_int, max_int, alloc_go, box_agg, box_int, box_bool, box_str, box_slice, box_ptr, box_map, bd_none, bd_some, sls_str, sll_sl, isB_t, isB_f, cond_true, cond_false, pick_t, pick_f, pick_or, pick_and, condW_true, condW_false, cellsAt, add_mk, cell_eq, cellO_some, frozen_eq, frO_zero, heap_set_same, heap_set_other, setO_some, heap_anew, heap_aold, heap_drew, size_drew, size_set, size_alloc, exists_eq_left', Option.some.injEq, true_and, and_true, Option.isSome_some, Option.map_some, List.getElem?_toArray, List.getElem?_cons_zero, List.getElem?_cons_succ, List.size_toArray, List.length_cons, List.length_nil, List.setIfInBounds_toArray, List.set_cons_zero, List.set_cons_succ, List.getD_cons_zero, List.getD_cons_succ, Nat.zero_add, Nat.add_zero, Nat.reduceAdd, Bool.not_true, Bool.not_false, ne_eq, not_true_eq_false, not_false_eq_true, reduceCtorEq, decide_true, decide_false, decide_eq_true hasc]
    refine index_byte ?_
    refine hK _ _ ?_ (Chg.refl _ _)
    have e1 : IntKind.u8.wrap c = c := by
      have e1 : (2 : Int) ^ 8 = 256 := by decide
      simp only [IntKind.wrap, IntKind.bits, IntKind.signed, Bool.false_and, e1]
      simp
      omega
    rw [e1, idx_bad c.toNat (by omega)]
    omega
  · have hno : ¬ (c = 0 ∨ c = 10 ∨ c = 32) := by omega
    simp (disch := omega) only [Bool.and_true, Bool.and_false, Bool.true_and, Bool.false_and, Bool.or_true, Bool.or_false, Bool.true_or, Bool.false_or, put_nil, put_map, put_int, put_str, put_bool, put_ptr, put_slice, Nat.lt_add_one, Nat.zero_lt_succ, Nat.reduceLT, bin_add, bin_sub, bin_mul, bin_quo, bin_rem, bin_eql, bin_neq, bin_lss, bin_leq, bin_gtr, bin_geq, bin_sadd, bin_seq, bin_sne, bin_slt, bin_sgt, bin_sge, bin_sle, nil_ptr, fld_ptr, ld_one, ld_agg, st_int, st_bool, st_str, st_slice, st_ptr, st_map, st_agg, stc_nil, stc_cons, one_int, one_bool, one_str, one_slice, one_ptr, one_map, ext_tuple, ixa_slice, ixa_arr, ixs_str, lens_str, lenl_sl, un_not, un_neg, cvt_int, min_int, max_int, alloc_go, box_agg, box_int, box_bool, box_str, box_slice, box_ptr, box_map, bd_none, bd_some, sls_str, sll_sl, isB_t, isB_f, cond_true, cond_false, pick_t, pick_f, pick_or, pick_and, condW_true, condW_false, cellsAt, add_mk, cell_eq, cellO_some, frozen_eq, frO_zero, heap_set_same, heap_set_other, setO_some, heap_anew, heap_aold, heap_drew, size_drew, size_set, size_alloc, exists_eq_left', Option.some.injEq, true_and, and_true, Option.isSome_some, Option.map_some, List.getElem?_toArray, List.getElem?_cons_zero, List.getElem?_cons_succ, List.size_toArray, List.length_cons, List.length_nil, List.setIfInBounds_toArray, List.set_cons_zero, List.set_cons_succ, List.getD_cons_zero, List.getD_cons_succ, Nat.zero_add, Nat.add_zero, Nat.reduceAdd, Bool.not_true, Bool.not_false, ne_eq, not_true_eq_false, not_false_eq_true, reduceCtorEq, decide_true, decide_false, decide_eq_false hasc, condW_dec]
    refine ⟨fun hF => ?_, fun hF => ?_⟩
    · subst hF
      refine range_str (by kernel_rfl) ?_
      refine LoopW.go (fun _ w' => ∃ pos, w'.heap[w.heap.size]? = some (.stringIter (ofL badL) pos) ∧ pos ≤ 3 ∧ Ext w w') (fun _ w' => match w'.heap[w.heap.size]? with | some (.stringIter _ pos) => 3 - pos | _ => 0) ?_ ?_
      · exact ⟨0, heap_anew _ _ _ rfl, by omega, (by repeat (first | assumption | exact Chg.refl _ _ | refine Chg.drew ?_ | refine Chg.alloc ?_ _ | refine Chg.set ?_ (by first | exact .inl rfl | exact .inr (by omega) | exact .inr (by simp only [size_set, size_alloc, size_drew]; omega) | (left; simp; done)) _ | exact Chg.of_ext (by assumption)))⟩
      · rintro s g w' ⟨pos, hw, hp, hx⟩
        refine next_str hw (fun hle => ?_) (fun hlt w1 hw1 hc => ?_)
        · simp (disch := omega) only [Bool.and_true, Bool.and_false, Bool.true_and, Bool.false_and, Bool.or_true, Bool.or_false, Bool.true_or, Bool.false_or, put_nil, put_map, put_int, put_str, put_bool, put_ptr, put_slice, Nat.lt_add_one, Nat.zero_lt_succ, Nat.reduceLT, bin_add, bin_sub, bin_mul, bin_quo, bin_rem, bin_eql, bin_neq, bin_lss, bin_leq, bin_gtr, bin_geq, bin_sadd, bin_seq, bin_sne, bin_slt, bin_sgt, bin_sge, bin_sle, nil_ptr, fld_ptr, ld_one, ld_agg, st_int, st_bool, st_str, st_slice, st_ptr, st_map, st_agg, stc_nil, stc_cons, one_int, one_bool, one_str, one_slice, one_ptr, one_map, ext_tuple, ixa_slice, ixa_arr, ixs_str, lens_str, lenl_sl, un_not, un_neg, cvt_int, min_int, max_int, alloc_go, box_agg, box_int, box_bool, box_str, box_slice, box_ptr, box_map, bd_none, bd_some, sls_str, sll_sl, isB_t, isB_f, cond_true, cond_false, pick_t, pick_f, pick_or, pick_and, condW_true, condW_false, cellsAt, add_mk, cell_eq, cellO_some, frozen_eq, frO_zero, heap_set_same, heap_set_other, setO_some, heap_anew, heap_aold, heap_drew, size_drew, size_set, size_alloc, exists_eq_left', Option.some.injEq, true_and, and_true, Option.isSome_some, Option.map_some, List.getElem?_toArray, List.getElem?_cons_zero, List.getElem?_cons_succ, List.size_toArray, List.length_cons, List.length_nil, List.setIfInBounds_toArray, List.set_cons_zero, List.set_cons_succ, List.getD_cons_zero, List.getD_cons_succ, Nat.zero_add, Nat.add_zero, Nat.reduceAdd, Bool.not_true, Bool.not_false, ne_eq, not_true_eq_false, not_false_eq_true, reduceCtorEq, decide_true, decide_false]
          exact hK (-1) _ (by omega) hx
        · have hlt' : pos < 3 := hlt
          have hd : Utf8.decode (ofL badL) pos = ((badL.getD pos 0).toNat, 1) ∧ (badL.getD pos 0).toNat < 128 := by
            have : (badL.getD pos 0).toNat < 128 := by
              rcases (show pos = 0 ∨ pos = 1 ∨ pos = 2 by omega) with rfl | rfl | rfl <;> decide
            exact ⟨(dec_facts badL pos hlt).1 this, this⟩
          have hne : ¬ (((Utf8.decode (ofL badL) pos).1 : Nat) : Int) = 65533 := by rw [hd.1]; have := hd.2; simp only; omega
          simp (disch := omega) only [Bool.and_true, Bool.and_false, Bool.true_and, Bool.false_and, Bool.or_true, Bool.or_false, Bool.true_or, Bool.false_or, put_nil, put_map, put_int, put_str, put_bool, put_ptr, put_slice, Nat.lt_add_one, Nat.zero_lt_succ, Nat.reduceLT, bin_add, bin_sub, bin_mul, bin_quo, bin_rem, bin_eql, bin_neq, bin_lss, bin_leq, bin_gtr, bin_geq, bin_sadd, bin_seq, bin_sne, bin_slt, bin_sgt, bin_sge, bin_sle, nil_ptr, fld_ptr, ld_one, ld_agg, st_int, st_bool, st_str, st_slice, st_ptr, st_map, st_agg, stc_nil, stc_cons, one_int, one_bool, one_str, one_slice, one_ptr, one_map, ext_tuple, ixa_slice, ixa_arr, ixs_str, lens_str, lenl_sl, un_not, un_neg, cvt_int, min_int, max_int, alloc_go, box_agg, box_int, box_bool, box_str, box_slice, box_ptr, box_map, bd_none, bd_some, sls_str, sll_sl, isB_t, isB_f, cond_true, cond_false, pick_t, pick_f, pick_or, pick_and, condW_true, condW_false, cellsAt, add_mk, cell_eq, cellO_some, frozen_eq, frO_zero, heap_set_same, heap_set_other, setO_some, heap_anew, heap_aold, heap_drew, size_drew, size_set, size_alloc, exists_eq_left', Option.some.injEq, true_and, and_true, Option.isSome_some, Option.map_some, List.getElem?_toArray, List.getElem?_cons_zero, List.getElem?_cons_succ, List.size_toArray, List.length_cons, List.length_nil, List.setIfInBounds_toArray, List.set_cons_zero, List.set_cons_succ, List.getD_cons_zero, List.getD_cons_succ, Nat.zero_add, Nat.add_zero, Nat.reduceAdd, Bool.not_true, Bool.not_false, ne_eq, not_true_eq_false, not_false_eq_true, reduceCtorEq, decide_true, decide_false, decide_eq_false hne]
          have hx1 : Ext w w1 := Chg.then hx hc fun k hk e => by omega
          rw [hd.1] at hw1
          refine ⟨⟨_, hw1, by simp only; omega, hx1⟩, ?_⟩
          rw [hw1, hw]
          simp only
          omega
    · refine of_calls (args := #[.int .i32 c]) Try.call70 ((Try.utf8_ValidRune c w).mono ?_)
      rintro e w' ⟨rfl, rfl⟩
      have hvr : Lib.validRune c = true := by simp only [Lib.validRune, decide_eq_true_eq]; omega
      refine ⟨_, rfl, ?_⟩
      rw [hvr]
      obtain ⟨l, hl, hl2, hl4, b, hb, hb128⟩ := enc_facts (show 128 ≤ c by omega) hv
      simp (disch := omega) only [Bool.and_true, Bool.and_false, Bool.true_and, Bool.false_and, Bool.or_true, Bool.or_false, Bool.true_or, Bool.false_or, put_nil, put_map, put_int, put_str, put_bool, put_ptr, put_slice, Nat.lt_add_one, Nat.zero_lt_succ, Nat.reduceLT, bin_add, bin_sub, bin_mul, bin_quo, bin_rem, bin_eql, bin_neq, bin_lss, bin_leq, bin_gtr, bin_geq, bin_sadd, bin_seq, bin_sne, bin_slt, bin_sgt, bin_sge, bin_sle, nil_ptr, fld_ptr, ld_one, ld_agg, st_int, st_bool, st_str, st_slice, st_ptr, st_map, st_agg, stc_nil, stc_cons, one_int, one_bool, one_str, one_slice, one_ptr, one_map, ext_tuple, ixa_slice, ixa_arr, ixs_str, lens_str, lenl_sl, un_not, un_neg, cvt_int, min_int, max_int, alloc_go, box_agg, box_int, box_bool, box_str, box_slice, box_ptr, box_map, bd_none, bd_some, sls_str, sll_sl, isB_t, isB_f, cond_true, cond_false, pick_t, pick_f, pick_or, pick_and, condW_true, condW_false, cellsAt, add_mk, cell_eq, cellO_some, frozen_eq, frO_zero, heap_set_same, heap_set_other, setO_some, heap_anew, heap_aold, heap_drew, size_drew, size_set, size_alloc, exists_eq_left', Option.some.injEq, true_and, and_true, Option.isSome_some, Option.map_some, List.getElem?_toArray, List.getElem?_cons_zero, List.getElem?_cons_succ, List.size_toArray, List.length_cons, List.length_nil, List.setIfInBounds_toArray, List.set_cons_zero, List.set_cons_succ, List.getD_cons_zero, List.getD_cons_succ, Nat.zero_add, Nat.add_zero, Nat.reduceAdd, Bool.not_true, Bool.not_false, ne_eq, not_true_eq_false, not_false_eq_true, reduceCtorEq, decide_true, decide_false, cvs_int, hl]
      rw [wrap_id (by omega) (by omega)]
      refine LoopW.go (fun s w'' => s = [i64 ((l.length : Int) - 1)] ∧ w'' = w') (fun _ _ => 0) ⟨rfl, rfl⟩ ?_
      rintro s g w'' ⟨rfl, rfl⟩
      simp (disch := omega) only [Bool.and_true, Bool.and_false, Bool.true_and, Bool.false_and, Bool.or_true, Bool.or_false, Bool.true_or, Bool.false_or, put_nil, put_map, put_int, put_str, put_bool, put_ptr, put_slice, Nat.lt_add_one, Nat.zero_lt_succ, Nat.reduceLT, bin_add, bin_sub, bin_mul, bin_quo, bin_rem, bin_eql, bin_neq, bin_lss, bin_leq, bin_gtr, bin_geq, bin_sadd, bin_seq, bin_sne, bin_slt, bin_sgt, bin_sge, bin_sle, nil_ptr, fld_ptr, ld_one, ld_agg, st_int, st_bool, st_str, st_slice, st_ptr, st_map, st_agg, stc_nil, stc_cons, one_int, one_bool, one_str, one_slice, one_ptr, one_map, ext_tuple, ixa_slice, ixa_arr, ixs_str, lens_str, lenl_sl, un_not, un_neg, cvt_int, min_int, max_int, alloc_go, box_agg, box_int, box_bool, box_str, box_slice, box_ptr, box_map, bd_none, bd_some, sls_str, sll_sl, isB_t, isB_f, cond_true, cond_false, pick_t, pick_f, pick_or, pick_and, condW_true, condW_false, cellsAt, add_mk, cell_eq, cellO_some, frozen_eq, frO_zero, heap_set_same, heap_set_other, setO_some, heap_anew, heap_aold, heap_drew, size_drew, size_set, size_alloc, exists_eq_left', Option.some.injEq, true_and, and_true, Option.isSome_some, Option.map_some, List.getElem?_toArray, List.getElem?_cons_zero, List.getElem?_cons_succ, List.size_toArray, List.length_cons, List.length_nil, List.setIfInBounds_toArray, List.set_cons_zero, List.set_cons_succ, List.getD_cons_zero, List.getD_cons_succ, Nat.zero_add, Nat.add_zero, Nat.reduceAdd, Bool.not_true, Bool.not_false, ne_eq, not_true_eq_false, not_false_eq_true, reduceCtorEq, decide_true, decide_false, condW_dec, show badL.length = 3 from rfl]
      refine ⟨fun h3 => ?_, fun _ => hK (-1) _ (by omega) (Chg.refl _ _)⟩
      refine JoinW.cut (fun _ _ => False) ?_ (fun _ _ _ h => h.elim)
      have hi : ((l.length : Int) - 1).toNat = l.length - 1 := by omega
      have hl23 : l.length = 2 ∨ l.length = 3 := by omega
      have hbyte : ∀ x : UInt8, x.toNat < 128 → ¬ ((x.toNat : Int) = b.toNat) := fun x hx e => by omega
      have hd : ∀ k, Lib.indexByte (badL.drop k) b = -1 := fun k => idx_none _ b (fun x hx => by
        have hx := List.mem_of_mem_drop hx
        simp only [badL, List.mem_cons, List.not_mem_nil, or_false] at hx
        rcases hx with rfl | rfl | rfl <;> decide) hb128
      have hbb : ((b.toNat : Int)).toNat.toUInt8 = b := by simp
      have fin : ∀ (x : UInt8) (k : Nat), x.toNat < 128 → k ≤ 3 → (¬ ((x.toNat : Int) = b.toNat) → callF Try.prog 69 [str (badL.drop k), .int .u8 b.toNat] w''.drew.drew fun t41 w12 =>
          binW BinOp.lss t41 (Value.int IntKind.i64 0) fun t43 => condW t43 (K (Value.int IntKind.i64 (-1)) w12) (binW BinOp.add t41 (Value.int IntKind.i64 1) fun t46 => binW BinOp.add (i64 ((l.length : Int) - 1)) t46 fun t47 => False)) := by
        intro x k _ _ _
        refine index_byte ?_
        rw [hbb, hd k]
        simp (disch := omega) only [Bool.and_true, Bool.and_false, Bool.true_and, Bool.false_and, Bool.or_true, Bool.or_false, Bool.true_or, Bool.false_or, put_nil, put_map, put_int, put_str, put_bool, put_ptr, put_slice, Nat.lt_add_one, Nat.zero_lt_succ, Nat.reduceLT, bin_add, bin_sub, bin_mul, bin_quo, bin_rem, bin_eql, bin_neq, bin_lss, bin_leq, bin_gtr, bin_geq, bin_sadd, bin_seq, bin_sne, bin_slt, bin_sgt, bin_sge, bin_sle, nil_ptr, fld_ptr, ld_one, ld_agg, st_int, st_bool, st_str, st_slice, st_ptr, st_map, st_agg, stc_nil, stc_cons, one_int, one_bool, one_str, one_slice, one_ptr, one_map, ext_tuple, ixa_slice, ixa_arr, ixs_str, lens_str, lenl_sl, un_not, un_neg, cvt_int, min_int, max_int, alloc_go, box_agg, box_int, box_bool, box_str, box_slice, box_ptr, box_map, bd_none, bd_some, sls_str, sll_sl, isB_t, isB_f, cond_true, cond_false, pick_t, pick_f, pick_or, pick_and, condW_true, condW_false, cellsAt, add_mk, cell_eq, cellO_some, frozen_eq, frO_zero, heap_set_same, heap_set_other, setO_some, heap_anew, heap_aold, heap_drew, size_drew, size_set, size_alloc, exists_eq_left', Option.some.injEq, true_and, and_true, Option.isSome_some, Option.map_some, List.getElem?_toArray, List.getElem?_cons_zero, List.getElem?_cons_succ, List.size_toArray, List.length_cons, List.length_nil, List.setIfInBounds_toArray, List.set_cons_zero, List.set_cons_succ, List.getD_cons_zero, List.getD_cons_succ, Nat.zero_add, Nat.add_zero, Nat.reduceAdd, Bool.not_true, Bool.not_false, ne_eq, not_true_eq_false, not_false_eq_true, reduceCtorEq, decide_true, decide_false, condW_dec]
        exact ⟨fun _ => hK (-1) _ (by omega) (by repeat (first | assumption | exact Chg.refl _ _ | refine Chg.drew ?_ | refine Chg.alloc ?_ _ | refine Chg.set ?_ (by first | exact .inl rfl | exact .inr (by omega) | exact .inr (by simp only [size_set, size_alloc, size_drew]; omega) | (left; simp; done)) _ | exact Chg.of_ext (by assumption))), fun h => absurd (by decide) h⟩
      simp only [hi, hb]
      rcases hl23 with h2 | h2
      · simp only [h2] at *
        refine ⟨by omega, 10, rfl, by omega, b, rfl, fun hne => ?_, fun h => h (hbyte 10 (by decide))⟩
        simp (disch := omega) only [Bool.and_true, Bool.and_false, Bool.true_and, Bool.false_and, Bool.or_true, Bool.or_false, Bool.true_or, Bool.false_or, put_nil, put_map, put_int, put_str, put_bool, put_ptr, put_slice, Nat.lt_add_one, Nat.zero_lt_succ, Nat.reduceLT, bin_add, bin_sub, bin_mul, bin_quo, bin_rem, bin_eql, bin_neq, bin_lss, bin_leq, bin_gtr, bin_geq, bin_sadd, bin_seq, bin_sne, bin_slt, bin_sgt, bin_sge, bin_sle, nil_ptr, fld_ptr, ld_one, ld_agg, st_int, st_bool, st_str, st_slice, st_ptr, st_map, st_agg, stc_nil, stc_cons, one_int, one_bool, one_str, one_slice, one_ptr, one_map, ext_tuple, ixa_slice, ixa_arr, ixs_str, lens_str, lenl_sl, un_not, un_neg, cvt_int, min_int, max_int, alloc_go, box_agg, box_int, box_bool, box_str, box_slice, box_ptr, box_map, bd_none, bd_some, sls_str, sll_sl, isB_t, isB_f, cond_true, cond_false, pick_t, pick_f, pick_or, pick_and, condW_true, condW_false, cellsAt, add_mk, cell_eq, cellO_some, frozen_eq, frO_zero, heap_set_same, heap_set_other, setO_some, heap_anew, heap_aold, heap_drew, size_drew, size_set, size_alloc, exists_eq_left', Option.some.injEq, true_and, and_true, Option.isSome_some, Option.map_some, List.getElem?_toArray, List.getElem?_cons_zero, List.getElem?_cons_succ, List.size_toArray, List.length_cons, List.length_nil, List.setIfInBounds_toArray, List.set_cons_zero, List.set_cons_succ, List.getD_cons_zero, List.getD_cons_succ, Nat.zero_add, Nat.add_zero, Nat.reduceAdd, Bool.not_true, Bool.not_false, ne_eq, not_true_eq_false, not_false_eq_true, reduceCtorEq, decide_true, decide_false]
        rw [show IntKind.i64.wrap (((2 : Nat) : Int) - 1 + 1) = 2 from by decide]
        exact ⟨by decide, by decide, by decide, fin 10 2 (by decide) (by omega) hne⟩
      · simp only [h2] at *
        refine ⟨by omega, 32, rfl, by omega, b, rfl, fun hne => ?_, fun h => h (hbyte 32 (by decide))⟩
        simp (disch := omega) only [Bool.and_true, Bool.and_false, Bool.true_and, Bool.false_and, Bool.or_true, Bool.or_false, Bool.true_or, Bool.false_or, put_nil, put_map, put_int, put_str, put_bool, put_ptr, put_slice, Nat.lt_add_one, Nat.zero_lt_succ, Nat.reduceLT, bin_add, bin_sub, bin_mul, bin_quo, bin_rem, bin_eql, bin_neq, bin_lss, bin_leq, bin_gtr, bin_geq, bin_sadd, bin_seq, bin_sne, bin_slt, bin_sgt, bin_sge, bin_sle, nil_ptr, fld_ptr, ld_one, ld_agg, st_int, st_bool, st_str, st_slice, st_ptr, st_map, st_agg, stc_nil, stc_cons, one_int, one_bool, one_str, one_slice, one_ptr, one_map, ext_tuple, ixa_slice, ixa_arr, ixs_str, lens_str, lenl_sl, un_not, un_neg, cvt_int, min_int, max_int, alloc_go, box_agg, box_int, box_bool, box_str, box_slice, box_ptr, box_map, bd_none, bd_some, sls_str, sll_sl, isB_t, isB_f, cond_true, cond_false, pick_t, pick_f, pick_or, pick_and, condW_true, condW_false, cellsAt, add_mk, cell_eq, cellO_some, frozen_eq, frO_zero, heap_set_same, heap_set_other, setO_some, heap_anew, heap_aold, heap_drew, size_drew, size_set, size_alloc, exists_eq_left', Option.some.injEq, true_and, and_true, Option.isSome_some, Option.map_some, List.getElem?_toArray, List.getElem?_cons_zero, List.getElem?_cons_succ, List.size_toArray, List.length_cons, List.length_nil, List.setIfInBounds_toArray, List.set_cons_zero, List.set_cons_succ, List.getD_cons_zero, List.getD_cons_succ, Nat.zero_add, Nat.add_zero, Nat.reduceAdd, Bool.not_true, Bool.not_false, ne_eq, not_true_eq_false, not_false_eq_true, reduceCtorEq, decide_true, decide_false]
        rw [show IntKind.i64.wrap (((3 : Nat) : Int) - 1 + 1) = 3 from by decide]
        exact ⟨by decide, by decide, by decide, fin 32 3 (by decide) (by omega) hne⟩

/-- strings.IndexAny(s, "\x00\n ") -/
theorem index_any {l : Str} {w : World} {K : Value → World → Prop} (hl : l.length ≤ 1000000) (hK : ∀ r : Int, ∀ w', (0 ≤ r ↔ l.any Vfs.badB = true) → Ext w w' → K (i64 r) w') : callF Try.prog 50 [str l, str badL] w K := by
  by_cases h8 : 8 < l.length
  · refine of_calls (args := #[str l, str badL]) Try.call50 ((Try.strings_IndexAny_long (by intro w; kernel_rfl) (ofL l) (ofL badL) w (by rw [ofL_size]; decide) (by rw [ofL_size]; exact h8) (by rw [ofL_size]; omega) (by rw [ofL_size]; decide) ?_).mono ?_)
    · intro j b hb
      rw [ofL_data] at hb
      have hm := List.mem_of_getElem? hb
      simp only [badL, List.mem_cons, List.not_mem_nil, or_false] at hm
      rcases hm with rfl | rfl | rfl <;> decide
    · rintro e w' ⟨rfl, rfl⟩
      rw [ofL_data, ofL_data]
      refine ⟨_, rfl, hK _ _ ?_ (by repeat (first | assumption | exact Chg.refl _ _ | refine Chg.drew ?_ | refine Chg.alloc ?_ _ | refine Chg.set ?_ (by first | exact .inl rfl | exact .inr (by omega) | exact .inr (by simp only [size_set, size_alloc, size_drew]; omega) | (left; simp; done)) _ | exact Chg.of_ext (by assumption)))⟩
      have key : ∀ m : Str, 0 ≤ Lib.indexAny m badL ↔ m.any Vfs.badB = true := by
        intro m
        induction m with
        | nil => simp [Lib.indexAny]
        | cons x m ih =>
          have hx : badL.contains x = Vfs.badB x := by simp [badL, Vfs.badB, Bool.or_assoc, beq_dec]
          simp only [Lib.indexAny, hx, List.any_cons]
          cases hb : Vfs.badB x with
          | true => simp
          | false =>
            have hge := Lib.indexAny_ge badL m
            simp only [Bool.false_eq_true, if_false, Bool.false_or, ← ih]
            by_cases h1 : Lib.indexAny m badL = -1
            · simp [h1]
            · rw [if_neg (by simpa using h1)]; omega
      exact key l
  · refine W50_ok ?_
    unfold W50
    simp (disch := omega) only [Bool.and_true, Bool.and_false, Bool.true_and, Bool.false_and, Bool.or_true, Bool.or_false, Bool.true_or, Bool.false_or, put_nil, put_map, put_int, put_str, put_bool, put_ptr, put_slice, Nat.lt_add_one, Nat.zero_lt_succ, Nat.reduceLT, bin_add, bin_sub, bin_mul, bin_quo, bin_rem, bin_eql, bin_neq, bin_lss, bin_leq, bin_gtr, bin_geq, bin_sadd, bin_seq, bin_sne, bin_slt, bin_sgt, bin_sge, bin_sle, nil_ptr, fld_ptr, ld_one, ld_agg, st_int, st_bool, st_str, st_slice, st_ptr, st_map, st_agg, stc_nil, stc_cons, one_int, one_bool, one_str, one_slice, one_ptr, one_map, ext_tuple, ixa_slice, ixa_arr, ixs_str, lens_str, lenl_sl, un_not, un_neg, cvt_int, min_int, max_int, alloc_go, box_agg, box_int, box_bool, box_str, box_slice, box_ptr, box_map, bd_none, bd_some, sls_str, sll_sl, isB_t, isB_f, cond_true, cond_false, pick_t, pick_f, pick_or, pick_and, condW_true, condW_false, cellsAt, add_mk, cell_eq, cellO_some, frozen_eq, frO_zero, heap_set_same, heap_set_other, setO_some, heap_anew, heap_aold, heap_drew, size_drew, size_set, size_alloc, exists_eq_left', Option.some.injEq, true_and, and_true, Option.isSome_some, Option.map_some, List.getElem?_toArray, List.getElem?_cons_zero, List.getElem?_cons_succ, List.size_toArray, List.length_cons, List.length_nil, List.setIfInBounds_toArray, List.set_cons_zero, List.set_cons_succ, List.getD_cons_zero, List.getD_cons_succ, Nat.zero_add, Nat.add_zero, Nat.reduceAdd, Bool.not_true, Bool.not_false, ne_eq, not_true_eq_false, not_false_eq_true, reduceCtorEq, decide_true, decide_false, show (badL = []) = False from by simp [badL], show badL.length = 3 from rfl, show (((3 : Nat) : Int) = 1) = False from by decide]
    refine JoinW.go ?_
    refine of_calls (args := #[i64 l.length]) Try.call55 ((Try.strings_shouldUseASCIISet l.length w).mono ?_)
    rintro e w' ⟨rfl, rfl⟩
    refine ⟨_, rfl, ?_⟩
    rw [decide_eq_false (show ¬ (8 < (l.length : Int)) by omega)]
    simp (disch := omega) only [Bool.and_true, Bool.and_false, Bool.true_and, Bool.false_and, Bool.or_true, Bool.or_false, Bool.true_or, Bool.false_or, put_nil, put_map, put_int, put_str, put_bool, put_ptr, put_slice, Nat.lt_add_one, Nat.zero_lt_succ, Nat.reduceLT, bin_add, bin_sub, bin_mul, bin_quo, bin_rem, bin_eql, bin_neq, bin_lss, bin_leq, bin_gtr, bin_geq, bin_sadd, bin_seq, bin_sne, bin_slt, bin_sgt, bin_sge, bin_sle, nil_ptr, fld_ptr, ld_one, ld_agg, st_int, st_bool, st_str, st_slice, st_ptr, st_map, st_agg, stc_nil, stc_cons, one_int, one_bool, one_str, one_slice, one_ptr, one_map, ext_tuple, ixa_slice, ixa_arr, ixs_str, lens_str, lenl_sl, un_not, un_neg, cvt_int, min_int, max_int, alloc_go, box_agg, box_int, box_bool, box_str, box_slice, box_ptr, box_map, bd_none, bd_some, sls_str, sll_sl, isB_t, isB_f, cond_true, cond_false, pick_t, pick_f, pick_or, pick_and, condW_true, condW_false, cellsAt, add_mk, cell_eq, cellO_some, frozen_eq, frO_zero, heap_set_same, heap_set_other, setO_some, heap_anew, heap_aold, heap_drew, size_drew, size_set, size_alloc, exists_eq_left', Option.some.injEq, true_and, and_true, Option.isSome_some, Option.map_some, List.getElem?_toArray, List.getElem?_cons_zero, List.getElem?_cons_succ, List.size_toArray, List.length_cons, List.length_nil, List.setIfInBounds_toArray, List.set_cons_zero, List.set_cons_succ, List.getD_cons_zero, List.getD_cons_succ, Nat.zero_add, Nat.add_zero, Nat.reduceAdd, Bool.not_true, Bool.not_false, ne_eq, not_true_eq_false, not_false_eq_true, reduceCtorEq, decide_true, decide_false]
    intro _
    refine range_str (by kernel_rfl) ?_
    refine LoopW.go (fun _ w1 => ∃ pos, w1.heap[w'.heap.size]? = some (.stringIter (ofL l) pos) ∧ pos ≤ l.length ∧ Ext w' w1 ∧ (l.take pos).any Vfs.badB = false)
      (fun _ w1 => match w1.heap[w'.heap.size]? with | some (.stringIter _ pos) => l.length - pos | _ => 0) ?_ ?_
    · exact ⟨0, heap_anew _ _ _ rfl, by omega, (by repeat (first | assumption | exact Chg.refl _ _ | refine Chg.drew ?_ | refine Chg.alloc ?_ _ | refine Chg.set ?_ (by first | exact .inl rfl | exact .inr (by omega) | exact .inr (by simp only [size_set, size_alloc, size_drew]; omega) | (left; simp; done)) _ | exact Chg.of_ext (by assumption))), rfl⟩
    · rintro s g w1 ⟨pos, hw, hp, hx, hno⟩
      refine next_str hw (fun hle => ?_) (fun hlt w2 hw2 hc => ?_)
      · simp (disch := omega) only [Bool.and_true, Bool.and_false, Bool.true_and, Bool.false_and, Bool.or_true, Bool.or_false, Bool.true_or, Bool.false_or, put_nil, put_map, put_int, put_str, put_bool, put_ptr, put_slice, Nat.lt_add_one, Nat.zero_lt_succ, Nat.reduceLT, bin_add, bin_sub, bin_mul, bin_quo, bin_rem, bin_eql, bin_neq, bin_lss, bin_leq, bin_gtr, bin_geq, bin_sadd, bin_seq, bin_sne, bin_slt, bin_sgt, bin_sge, bin_sle, nil_ptr, fld_ptr, ld_one, ld_agg, st_int, st_bool, st_str, st_slice, st_ptr, st_map, st_agg, stc_nil, stc_cons, one_int, one_bool, one_str, one_slice, one_ptr, one_map, ext_tuple, ixa_slice, ixa_arr, ixs_str, lens_str, lenl_sl, un_not, un_neg, cvt_int, min_int, max_int, alloc_go, box_agg, box_int, box_bool, box_str, box_slice, box_ptr, box_map, bd_none, bd_some, sls_str, sll_sl, isB_t, isB_f, cond_true, cond_false, pick_t, pick_f, pick_or, pick_and, condW_true, condW_false, cellsAt, add_mk, cell_eq, cellO_some, frozen_eq, frO_zero, heap_set_same, heap_set_other, setO_some, heap_anew, heap_aold, heap_drew, size_drew, size_set, size_alloc, exists_eq_left', Option.some.injEq, true_and, and_true, Option.isSome_some, Option.map_some, List.getElem?_toArray, List.getElem?_cons_zero, List.getElem?_cons_succ, List.size_toArray, List.length_cons, List.length_nil, List.setIfInBounds_toArray, List.set_cons_zero, List.set_cons_succ, List.getD_cons_zero, List.getD_cons_succ, Nat.zero_add, Nat.add_zero, Nat.reduceAdd, Bool.not_true, Bool.not_false, ne_eq, not_true_eq_false, not_false_eq_true, reduceCtorEq, decide_true, decide_false]
        rw [List.take_of_length_le hle] at hno
        exact hK (-1) _ (by simp [hno]) hx
      · have hx2 : Ext w' w2 := Chg.then hx hc fun k hk e => by omega
        obtain ⟨f1, f2⟩ := dec_facts l pos hlt
        have hget : l[pos]? = some (l.getD pos 0) := by simp [hlt]
        simp (disch := omega) only [Bool.and_true, Bool.and_false, Bool.true_and, Bool.false_and, Bool.or_true, Bool.or_false, Bool.true_or, Bool.false_or, put_nil, put_map, put_int, put_str, put_bool, put_ptr, put_slice, Nat.lt_add_one, Nat.zero_lt_succ, Nat.reduceLT, bin_add, bin_sub, bin_mul, bin_quo, bin_rem, bin_eql, bin_neq, bin_lss, bin_leq, bin_gtr, bin_geq, bin_sadd, bin_seq, bin_sne, bin_slt, bin_sgt, bin_sge, bin_sle, nil_ptr, fld_ptr, ld_one, ld_agg, st_int, st_bool, st_str, st_slice, st_ptr, st_map, st_agg, stc_nil, stc_cons, one_int, one_bool, one_str, one_slice, one_ptr, one_map, ext_tuple, ixa_slice, ixa_arr, ixs_str, lens_str, lenl_sl, un_not, un_neg, cvt_int, min_int, max_int, alloc_go, box_agg, box_int, box_bool, box_str, box_slice, box_ptr, box_map, bd_none, bd_some, sls_str, sll_sl, isB_t, isB_f, cond_true, cond_false, pick_t, pick_f, pick_or, pick_and, condW_true, condW_false, cellsAt, add_mk, cell_eq, cellO_some, frozen_eq, frO_zero, heap_set_same, heap_set_other, setO_some, heap_anew, heap_aold, heap_drew, size_drew, size_set, size_alloc, exists_eq_left', Option.some.injEq, true_and, and_true, Option.isSome_some, Option.map_some, List.getElem?_toArray, List.getElem?_cons_zero, List.getElem?_cons_succ, List.size_toArray, List.length_cons, List.length_nil, List.setIfInBounds_toArray, List.set_cons_zero, List.set_cons_succ, List.getD_cons_zero, List.getD_cons_succ, Nat.zero_add, Nat.add_zero, Nat.reduceAdd, Bool.not_true, Bool.not_false, ne_eq, not_true_eq_false, not_false_eq_true, reduceCtorEq, decide_true, decide_false]
        have hcv : (((Utf8.decode (ofL l) pos).1 : Nat) : Int) < 55296 ∨ (57344 ≤ (((Utf8.decode (ofL l) pos).1 : Nat) : Int) ∧ (((Utf8.decode (ofL l) pos).1 : Nat) : Int) ≤ 1114111) := by
          by_cases h : (l.getD pos 0).toNat < 128
          · rw [f1 h]; simp only; omega
          · have := (f2 (by omega)).2.1; omega
        refine index_rune (by omega) hcv fun r w3 hr hx3 => ?_
        simp (disch := omega) only [Bool.and_true, Bool.and_false, Bool.true_and, Bool.false_and, Bool.or_true, Bool.or_false, Bool.true_or, Bool.false_or, put_nil, put_map, put_int, put_str, put_bool, put_ptr, put_slice, Nat.lt_add_one, Nat.zero_lt_succ, Nat.reduceLT, bin_add, bin_sub, bin_mul, bin_quo, bin_rem, bin_eql, bin_neq, bin_lss, bin_leq, bin_gtr, bin_geq, bin_sadd, bin_seq, bin_sne, bin_slt, bin_sgt, bin_sge, bin_sle, nil_ptr, fld_ptr, ld_one, ld_agg, st_int, st_bool, st_str, st_slice, st_ptr, st_map, st_agg, stc_nil, stc_cons, one_int, one_bool, one_str, one_slice, one_ptr, one_map, ext_tuple, ixa_slice, ixa_arr, ixs_str, lens_str, lenl_sl, un_not, un_neg, cvt_int, min_int, max_int, alloc_go, box_agg, box_int, box_bool, box_str, box_slice, box_ptr, box_map, bd_none, bd_some, sls_str, sll_sl, isB_t, isB_f, cond_true, cond_false, pick_t, pick_f, pick_or, pick_and, condW_true, condW_false, cellsAt, add_mk, cell_eq, cellO_some, frozen_eq, frO_zero, heap_set_same, heap_set_other, setO_some, heap_anew, heap_aold, heap_drew, size_drew, size_set, size_alloc, exists_eq_left', Option.some.injEq, true_and, and_true, Option.isSome_some, Option.map_some, List.getElem?_toArray, List.getElem?_cons_zero, List.getElem?_cons_succ, List.size_toArray, List.length_cons, List.length_nil, List.setIfInBounds_toArray, List.set_cons_zero, List.set_cons_succ, List.getD_cons_zero, List.getD_cons_succ, Nat.zero_add, Nat.add_zero, Nat.reduceAdd, Bool.not_true, Bool.not_false, ne_eq, not_true_eq_false, not_false_eq_true, reduceCtorEq, decide_true, decide_false, condW_dec]
        have hbad : (((Utf8.decode (ofL l) pos).1 : Nat) : Int) = 0 ∨ (((Utf8.decode (ofL l) pos).1 : Nat) : Int) = 10 ∨ (((Utf8.decode (ofL l) pos).1 : Nat) : Int) = 32 → Vfs.badB (l.getD pos 0) = true := by
          intro h
          by_cases h1 : (l.getD pos 0).toNat < 128
          · rw [f1 h1] at h
            simp only at h
            generalize l.getD pos 0 = x at *
            have : ∀ y : UInt8, x.toNat = y.toNat → x = y := fun y e => UInt8.toNat_inj.1 e
            rcases h with h | h | h
            · rw [this 0 (by simp; omega)]; rfl
            · rw [this 10 (by simp; omega)]; rfl
            · rw [this 32 (by simp; omega)]; rfl
          · have := (f2 (by omega)).1; omega
        have hx4 : Ext w' w3 := hx2.trans hx3
        refine ⟨fun h0 => hK pos _ ?_ hx4, fun h0 => ?_⟩
        · refine ⟨fun _ => ?_, fun _ => by omega⟩
          exact List.any_eq_true.2 ⟨_, List.mem_of_getElem? hget, hbad (hr.1 h0)⟩
        · have hle : pos + (Utf8.decode (ofL l) pos).2 ≤ l.length ∧ 1 ≤ (Utf8.decode (ofL l) pos).2 ∧ (l.take (pos + (Utf8.decode (ofL l) pos).2)).any Vfs.badB = false := by
            by_cases h1 : (l.getD pos 0).toNat < 128
            · rw [f1 h1] at hr ⊢
              simp only at hr ⊢
              refine ⟨by omega, by omega, ?_⟩
              rw [List.take_succ_eq_append_getElem hlt, List.any_append, hno]
              have hxp : l[pos] = l.getD pos 0 := by simp [hlt]
              simp only [List.any_cons, List.any_nil, Bool.or_false, Bool.false_or, hxp]
              generalize l.getD pos 0 = x at *
              cases hb : Vfs.badB x with
              | false => rfl
              | true =>
                exfalso
                simp only [Vfs.badB, Bool.or_eq_true, beq_iff_eq] at hb
                refine h0 (hr.2 ?_)
                rcases hb with (rfl | rfl) | rfl
                · exact .inl rfl
                · exact .inr (.inl rfl)
                · exact .inr (.inr rfl)
            · obtain ⟨_, _, g1, g2, g3⟩ := f2 (by omega)
              refine ⟨g2, g1, ?_⟩
              rw [List.any_eq_false]
              intro y hy
              obtain ⟨k, hk⟩ := List.getElem?_of_mem hy
              rw [List.getElem?_take] at hk
              split at hk
              · rename_i hk2
                by_cases hkp : k < pos
                · have := List.any_eq_false.1 hno y (List.mem_of_getElem? (i := k) (by rw [List.getElem?_take, if_pos hkp]; exact hk))
                  exact this
                · have h5 := g3 k (by omega) hk2
                  have h6 : l.getD k 0 = y := by simp [hk]
                  rw [h6] at h5
                  intro hb
                  simp only [Vfs.badB, Bool.or_eq_true, beq_iff_eq] at hb
                  rcases hb with (rfl | rfl) | rfl <;> simp at h5
              · cases hk
          have hw3 : w3.heap[w'.heap.size]? = some (.stringIter (ofL l) (pos + (Utf8.decode (ofL l) pos).2)) := by
            rw [hx3.heap _ (Array.getElem?_eq_some_iff.1 hw2).1 id]; exact hw2
          refine ⟨⟨_, hw3, hle.1, hx4, hle.2.2⟩, ?_⟩
          rw [hw3, hw]
          simp only
          omega

/-- strings.ContainsAny(s, "\x00\n ") -/
theorem contains_any {l : Str} {w : World} {K : Value → World → Prop} (hl : l.length ≤ 1000000) (hK : ∀ w', Ext w w' → K (.bool (l.any Vfs.badB)) w') : callF Try.prog 44 [str l, str badL] w K := by
  refine W44_ok ?_
  unfold W44
  refine index_any hl fun r w' hr hx => ?_
  simp (disch := omega) only [Bool.and_true, Bool.and_false, Bool.true_and, Bool.false_and, Bool.or_true, Bool.or_false, Bool.true_or, Bool.false_or, put_nil, put_map, put_int, put_str, put_bool, put_ptr, put_slice, Nat.lt_add_one, Nat.zero_lt_succ, Nat.reduceLT, bin_add, bin_sub, bin_mul, bin_quo, bin_rem, bin_eql, bin_neq, bin_lss, bin_leq, bin_gtr, bin_geq, bin_sadd, bin_seq, bin_sne, bin_slt, bin_sgt, bin_sge, bin_sle, nil_ptr, fld_ptr, ld_one, ld_agg, st_int, st_bool, st_str, st_slice, st_ptr, st_map, st_agg, stc_nil, stc_cons, one_int, one_bool, one_str, one_slice, one_ptr, one_map, ext_tuple, ixa_slice, ixa_arr, ixs_str, lens_str, lenl_sl, un_not, un_neg, cvt_int, min_int, max_int, alloc_go, box_agg, box_int, box_bool, box_str, box_slice, box_ptr, box_map, bd_none, bd_some, sls_str, sll_sl, isB_t, isB_f, cond_true, cond_false, pick_t, pick_f, pick_or, pick_and, condW_true, condW_false, cellsAt, add_mk, cell_eq, cellO_some, frozen_eq, frO_zero, heap_set_same, heap_set_other, setO_some, heap_anew, heap_aold, heap_drew, size_drew, size_set, size_alloc, exists_eq_left', Option.some.injEq, true_and, and_true, Option.isSome_some, Option.map_some, List.getElem?_toArray, List.getElem?_cons_zero, List.getElem?_cons_succ, List.size_toArray, List.length_cons, List.length_nil, List.setIfInBounds_toArray, List.set_cons_zero, List.set_cons_succ, List.getD_cons_zero, List.getD_cons_succ, Nat.zero_add, Nat.add_zero, Nat.reduceAdd, Bool.not_true, Bool.not_false, ne_eq, not_true_eq_false, not_false_eq_true, reduceCtorEq, decide_true, decide_false]
  have : decide (0 ≤ r) = l.any Vfs.badB := by
    cases hb : l.any Vfs.badB with
    | true => exact decide_eq_true (hr.2 hb)
    | false => exact decide_eq_false fun h => by rw [hr.1 h] at hb; cases hb
  rw [this]
  exact hK w' hx
end Go.Proofs.Ytcefidpmlnfheaa
