/- One plain sentence: VfsLimits answers true. Conditions: none. -/
import Derived.Test.YtcefidpmlnfheaaVLaw0
set_option linter.all false
set_option linter.unusedSimpArgs false
set_option linter.unusedVariables false
set_option linter.unusedSectionVars false
namespace Go.Proofs.Ytcefidpmlnfheaa
open Go Go.Eng Go.Vfs
set_option maxRecDepth 100000

def nm (i : Nat) : Str := [102, UInt8.ofNat (97 + i / 8), UInt8.ofNat (97 + i % 8)]
theorem nm_less : ∀ i, i < 64 → ∀ j, j < i → Op.bytesLess (nm j) (nm i) = true := by decide +kernel
theorem nm_good : ∀ i, i < 64 → good (nm i) = true := by decide +kernel
def limF (i : Nat) : Files := (List.range i).map fun j => (nm j, ⟨[], [], false⟩)
def lim (i : Nat) : MS := ⟨limF i, i, -1, false⟩
theorem lim_less {i : Nat} (hi : i < 64) : ∀ y ∈ limF i, Op.bytesLess y.1 (nm i) = true := by
  intro y hy
  obtain ⟨j, hj, rfl⟩ := List.mem_map.1 hy
  exact nm_less i hi j (List.mem_range.1 hj)
theorem lim_none {i : Nat} (hi : i < 64) : lkM (limF i) (nm i) = none := by
  rw [lk_none]
  intro hm
  obtain ⟨y, hy, e⟩ := List.mem_map.1 hm
  have := lim_less hi y hy
  rw [e, less_irrefl] at this
  cases this
theorem lim_len (i : Nat) : (limF i).length = i := by simp [limF]
theorem lim_next {i : Nat} (hi : i < 64) : writeM (lim i) (nm i) [] false = (lim (i + 1), 0) := by
  have hw : IntKind.i64.wrap ((i : Int) + 1) = ((i + 1 : Nat) : Int) := by rw [wrap_id (by omega) (by omega)]; simp
  have hs : stepM (lim i) = (⟨limF i, ((i + 1 : Nat) : Int), -1, false⟩, 0) := by simp [stepM, lim, hw]
  have h1 : ¬ (([] : Str).length > 65536 ∨ (lkM (lim i).files (nm i) = none ∧ 64 ≤ (lim i).files.length)) := by
    simp only [List.length_nil, lim, lim_len]; omega
  unfold writeM
  rw [if_neg (by rw [nm_good i hi]; decide), if_neg h1, if_neg (by simp), hs, if_neg (by simp)]
  have : lkM (lim i).files (nm i) = none := lim_none hi
  rw [this]
  have h2 : wth (lim i).files (nm i) ⟨[], [], false⟩ = limF (i + 1) := by
    show wth (limF i) _ _ = _
    rw [wth_last (lim_less hi)]
    simp [limF, List.range_succ]
  simp only [Option.map_none, Option.getD_none, h2]
  rfl
theorem lim_srt : Srt (limF 64) := by
  unfold Srt limF
  rw [List.map_map]
  refine List.pairwise_map.2 ?_
  refine List.Pairwise.imp_of_mem (R := (· < ·)) (fun {a b} ha hb hab => ?_) List.pairwise_lt_range
  exact nm_less b (List.mem_range.1 hb) a hab
theorem lim_some {n : Nat} (hn : n < 64) : lkM (limF 64) (nm n) = some ⟨[], [], false⟩ :=
  mem_lk lim_srt (List.mem_map.2 ⟨n, List.mem_range.2 hn, rfl⟩)
def gS : Str := [103]
def longS : Str := [48, 49, 50, 51, 52, 53, 54, 55, 56, 57, 48, 49, 50, 51, 52, 53, 54, 55, 56, 57, 48, 49, 50, 51, 52, 53, 54, 55, 56, 57, 48, 49, 50, 51, 52, 53, 54, 55, 56, 57, 48, 49, 50, 51, 52, 53, 54, 55, 56, 57, 48, 49, 50, 51, 52, 53, 54, 55, 56, 57, 48, 49, 50, 51]
theorem lim_not {p : Str} (h : ∀ j, j < 64 → nm j ≠ p) : lkM (limF 64) p = none := by
  rw [lk_none]
  intro hm
  obtain ⟨y, hy, e⟩ := List.mem_map.1 hm
  obtain ⟨j, hj, rfl⟩ := List.mem_map.1 hy
  exact h j (List.mem_range.1 hj) e
theorem nm_g : ∀ j, nm j ≠ gS := by intro j e; simp [nm, gS] at e
theorem nm_long : ∀ j, nm j ≠ longS := by intro j e; simp [nm, longS] at e

/-- the plain machine's way through the law -/
theorem lim_way {n : Nat} (hn : n < 64) : ∃ s1 s2 s3 s4 : MS,
    writeM (lim 64) gS [] false = (lim 64, 3) ∧ writeM (lim 64) gS [] true = (lim 64, 3) ∧
    writeM (lim 64) (nm n) (List.replicate 65536 0) false = (s1, 0) ∧ writeM s1 (nm n) (List.replicate 65537 0) false = (s1, 3) ∧
    renameM s1 (nm n) longS = (s2, 0) ∧ writeM s2 gS [] false = (s2, 3) ∧ renameM s2 longS (longS ++ [52]) = (s2, 6) ∧
    removeM s2 longS = (s3, 0) ∧ writeM s3 gS [] false = (s4, 0) ∧ s4.files.length = 64 := by
  have gg : good gS = true := by decide +kernel
  have gl : good longS = true := by decide +kernel
  have gb : good (longS ++ [52]) = false := by decide +kernel
  have hgn : lkM (limF 64) gS = none := lim_not fun j _ => nm_g j
  have hln : lkM (limF 64) longS = none := lim_not fun j _ => nm_long j
  have e1 : writeM (lim 64) gS [] false = (lim 64, 3) := by
    unfold writeM
    rw [if_neg (by rw [gg]; decide), if_pos (.inr ⟨hgn, by simp only [lim, lim_len]; omega⟩)]
  have e2 : writeM (lim 64) gS [] true = (lim 64, 3) := by
    unfold writeM
    rw [if_neg (by rw [gg]; decide), if_pos (.inr ⟨hgn, by simp only [lim, lim_len]; omega⟩)]
  have st1 : stepM (lim 64) = (⟨limF 64, 65, -1, false⟩, 0) := by simp [stepM, lim]; decide
  have hsome := lim_some hn
  have e3 : writeM (lim 64) (nm n) (List.replicate 65536 0) false = (⟨wth (limF 64) (nm n) ⟨List.replicate 65536 0, [], false⟩, 65, -1, false⟩, 0) := by
    unfold writeM
    rw [if_neg (by rw [nm_good n hn]; decide), if_neg (by
      rw [List.length_replicate]
      rintro (h | h)
      · omega
      · rw [show (lim 64).files = limF 64 from rfl, hsome] at h; cases h.1), if_neg (by simp), st1, if_neg (by simp)]
    rw [show (lim 64).files = limF 64 from rfl, hsome]
    rfl
  have e4 : ∀ s : MS, writeM s (nm n) (List.replicate 65537 0) false = (s, 3) := by
    intro s
    unfold writeM
    rw [if_neg (by rw [nm_good n hn]; decide), if_pos (.inl (by rw [List.length_replicate]; omega))]
  generalize hx : (⟨List.replicate 65536 0, [], false⟩ : MF) = x at e3
  clear hx
  generalize hF1 : wth (limF 64) (nm n) x = F1 at e3
  have hs1 : Srt F1 := by rw [← hF1]; exact wth_srt _ _ lim_srt
  have hl1 : F1.length = 64 := by rw [← hF1, wth_len lim_srt, hsome]; simp [lim_len]
  have hk1 : lkM F1 (nm n) = some x := by rw [← hF1, lk_wth, if_pos rfl]
  have hg1 : lkM F1 gS = none := by rw [← hF1, lk_wth, if_neg (fun e => nm_g n e.symm)]; exact hgn
  have ho1 : lkM F1 longS = none := by rw [← hF1, lk_wth, if_neg (fun e => nm_long n e.symm)]; exact hln
  clear hF1
  have st2 : stepM ⟨F1, 65, -1, false⟩ = (⟨F1, 66, -1, false⟩, 0) := by simp [stepM]; decide
  have e5 : renameM ⟨F1, 65, -1, false⟩ (nm n) longS = (⟨wth (wo F1 (nm n)) longS x, 66, -1, false⟩, 0) := by
    unfold renameM
    rw [if_neg (by rw [nm_good n hn, gl]; decide), hk1]
    simp only [st2]
    rfl
  generalize hF2 : wth (wo F1 (nm n)) longS x = F2 at e5
  have hsw := wo_srt (nm n) hs1
  have hs2 : Srt F2 := by rw [← hF2]; exact wth_srt _ _ hsw
  have hl2 : F2.length = 64 := by
    have hwo : lkM (wo F1 (nm n)) longS = none := by rw [lk_wo, if_neg (fun e => nm_long n e.symm)]; exact ho1
    rw [← hF2, wth_len hsw, wo_len hs1, hwo, hk1]
    simp [hl1]
  have hk2 : lkM F2 longS = some x := by rw [← hF2, lk_wth, if_pos rfl]
  have hg2 : lkM F2 gS = none := by rw [← hF2, lk_wth, if_neg (by decide), lk_wo, if_neg (fun e => nm_g n e.symm)]; exact hg1
  clear hF2
  have e6 : writeM ⟨F2, 66, -1, false⟩ gS [] false = (⟨F2, 66, -1, false⟩, 3) := by
    unfold writeM
    rw [if_neg (by rw [gg]; decide), if_pos (.inr ⟨hg2, by show 64 ≤ F2.length; omega⟩)]
  have e7 : renameM ⟨F2, 66, -1, false⟩ longS (longS ++ [52]) = (⟨F2, 66, -1, false⟩, 6) := by
    unfold renameM
    rw [if_pos (.inr gb)]
  have st3 : stepM ⟨F2, 66, -1, false⟩ = (⟨F2, 67, -1, false⟩, 0) := by simp [stepM]; decide
  have e8 : removeM ⟨F2, 66, -1, false⟩ longS = (⟨wo F2 longS, 67, -1, false⟩, 0) := by
    unfold removeM
    rw [if_neg (by rw [gl]; decide), hk2]
    simp only [st3]
    rfl
  have hl3 : (wo F2 longS).length = 63 := by rw [wo_len hs2, hk2]; simp [hl2]
  have hg3 : lkM (wo F2 longS) gS = none := by rw [lk_wo, if_neg (by decide)]; exact hg2
  have hs3 := wo_srt longS hs2
  generalize wo F2 longS = F3 at *
  have st4 : stepM ⟨F3, 67, -1, false⟩ = (⟨F3, 68, -1, false⟩, 0) := by simp [stepM]; decide
  have e9 : writeM ⟨F3, 67, -1, false⟩ gS [] false = (⟨wth F3 gS ⟨[], [], false⟩, 68, -1, false⟩, 0) := by
    unfold writeM
    rw [if_neg (by rw [gg]; decide), if_neg (by
      rintro (h | h)
      · simp at h
      · have := h.2; simp only [hl3] at this; omega), if_neg (by simp), st4, if_neg (by simp)]
    simp only [hg3]
    rfl
  refine ⟨_, _, _, _, e1, e2, e3, e4 _, e5, e6, e7, e8, e9, ?_⟩
  show (wth F3 gS _).length = 64
  rw [wth_len hs3, hg3]
  simp [hl3]

theorem u8_wrap {x : Nat} (h : x < 256) : IntKind.u8.wrap (x : Int) = x := by
  simp only [IntKind.wrap, IntKind.bits, IntKind.signed]
  simp
  omega
theorem nm_bytes {i : Nat} (hi : i < 64) : (u8s (nm i)).toArray = #[.int .u8 102, .int .u8 ((97 + i / 8 : Nat) : Int), .int .u8 ((97 + i % 8 : Nat) : Int)] := by
  have h1 : (UInt8.ofNat (97 + i / 8)).toNat = 97 + i / 8 := by simp [UInt8.toNat_ofNat']; omega
  have h2 : (UInt8.ofNat (97 + i % 8)).toNat = 97 + i % 8 := by simp [UInt8.toNat_ofNat']; omega
  simp only [u8s, nm, List.map_cons, List.map_nil, h1, h2]
  rfl
theorem nm_w1 {i : Nat} (hi : i < 64) : IntKind.u8.wrap (IntKind.i64.wrap (97 + IntKind.i64.wrap ((i : Int).tdiv 8))) = ((97 + i / 8 : Nat) : Int) := by
  have e : (i : Int).tdiv 8 = ((i / 8 : Nat) : Int) := by rw [Int.tdiv_eq_ediv_of_nonneg (by omega)]; simp
  rw [e, wrap_id (n := ((i / 8 : Nat) : Int)) (by omega) (by omega), wrap_id (by omega) (by omega)]
  have : (97 + ((i / 8 : Nat) : Int)) = ((97 + i / 8 : Nat) : Int) := by simp
  rw [this, u8_wrap (by omega)]
theorem nm_w2 {i : Nat} (hi : i < 64) : IntKind.u8.wrap (IntKind.i64.wrap (97 + (i : Int).tmod 8)) = ((97 + i % 8 : Nat) : Int) := by
  have e : (i : Int).tmod 8 = ((i % 8 : Nat) : Int) := by rw [Int.tmod_eq_emod_of_nonneg (by omega)]; simp
  rw [e, wrap_id (by omega) (by omega)]
  have : (97 + ((i % 8 : Nat) : Int)) = ((97 + i % 8 : Nat) : Int) := by simp
  rw [this, u8_wrap (by omega)]
theorem n_of (a : Int) : ∃ n : Nat, n < 64 ∧ IntKind.i64.wrap ((IntKind.u64.wrap a).tmod 64) = n := by
  have h0 : 0 ≤ IntKind.u64.wrap a := by
    simp only [IntKind.wrap, IntKind.bits, IntKind.signed, Bool.false_and, Bool.false_eq_true, if_false]
    exact Int.emod_nonneg _ (by decide)
  refine ⟨((IntKind.u64.wrap a).tmod 64).toNat, ?_, ?_⟩
  · have := Int.tmod_lt_of_pos (IntKind.u64.wrap a) (b := 64) (by omega); omega
  · have h1 := Int.tmod_lt_of_pos (IntKind.u64.wrap a) (b := 64) (by omega)
    have h2 := Int.tmod_nonneg 64 h0
    rw [wrap_id (by omega) (by omega)]
    omega

/-- **VfsLimits answers true** -/
theorem limits_true {w : World} {a : Int} {K : Value → World → Prop} (hK : ∀ w', Ext w w' → K (.bool true) w') : callF Try.prog 3 [i64 a] w K := by
  refine W3_ok ?_
  unfold W3
  refine fnew fun b m w1 h1 => ?_
  refine awake_true fun w2 hx2 => ?_
  have h2 := h1.more hx2
  simp only [eq_pn]
  (try simp (disch := omega) only [Bool.and_true, Bool.and_false, Bool.true_and, Bool.false_and, Bool.or_true, Bool.or_false, Bool.true_or, Bool.false_or, put_nil, put_map, put_int, put_str, put_bool, put_ptr, put_slice, Nat.lt_add_one, Nat.zero_lt_succ, Nat.reduceLT, bin_add, bin_sub, bin_mul, bin_quo, bin_rem, bin_eql, bin_neq, bin_lss, bin_leq, bin_gtr, bin_geq, bin_sadd, bin_seq, bin_sne, bin_slt, bin_sgt, bin_sge, bin_sle, nil_ptr, fld_ptr, ld_one, ld_agg, st_int, st_bool, st_str, st_slice, st_ptr, st_map, st_agg, stc_nil, stc_cons, one_int, one_bool, one_str, one_slice, one_ptr, one_map, ext_tuple, ixa_slice, ixa_arr, ixs_str, lens_str, lenl_sl, un_not, un_neg, cvt_int, min_int, max_int, alloc_go, box_agg, box_int, box_bool, box_str, box_slice, box_ptr, box_map, bd_none, bd_some, sls_str, sll_sl, isB_t, isB_f, cond_true, cond_false, pick_t, pick_f, pick_or, pick_and, condW_true, condW_false, cellsAt, add_mk, cell_eq, cellO_some, frozen_eq, frO_zero, heap_set_same, heap_set_other, setO_some, heap_anew, heap_aold, heap_drew, size_drew, size_set, size_alloc, exists_eq_left', Option.some.injEq, true_and, and_true, Option.isSome_some, Option.map_some, List.getElem?_toArray, List.getElem?_cons_zero, List.getElem?_cons_succ, List.size_toArray, List.length_cons, List.length_nil, List.setIfInBounds_toArray, List.set_cons_zero, List.set_cons_succ, List.getD_cons_zero, List.getD_cons_succ, Nat.zero_add, Nat.add_zero, Nat.reduceAdd, Bool.not_true, Bool.not_false, ne_eq, not_true_eq_false, not_false_eq_true, reduceCtorEq, decide_true, decide_false])
  refine GdW.t ?_
  (try simp (disch := omega) only [Bool.and_true, Bool.and_false, Bool.true_and, Bool.false_and, Bool.or_true, Bool.or_false, Bool.true_or, Bool.false_or, put_nil, put_map, put_int, put_str, put_bool, put_ptr, put_slice, Nat.lt_add_one, Nat.zero_lt_succ, Nat.reduceLT, bin_add, bin_sub, bin_mul, bin_quo, bin_rem, bin_eql, bin_neq, bin_lss, bin_leq, bin_gtr, bin_geq, bin_sadd, bin_seq, bin_sne, bin_slt, bin_sgt, bin_sge, bin_sle, nil_ptr, fld_ptr, ld_one, ld_agg, st_int, st_bool, st_str, st_slice, st_ptr, st_map, st_agg, stc_nil, stc_cons, one_int, one_bool, one_str, one_slice, one_ptr, one_map, ext_tuple, ixa_slice, ixa_arr, ixs_str, lens_str, lenl_sl, un_not, un_neg, cvt_int, min_int, max_int, alloc_go, box_agg, box_int, box_bool, box_str, box_slice, box_ptr, box_map, bd_none, bd_some, sls_str, sll_sl, isB_t, isB_f, cond_true, cond_false, pick_t, pick_f, pick_or, pick_and, condW_true, condW_false, cellsAt, add_mk, cell_eq, cellO_some, frozen_eq, frO_zero, heap_set_same, heap_set_other, setO_some, heap_anew, heap_aold, heap_drew, size_drew, size_set, size_alloc, exists_eq_left', Option.some.injEq, true_and, and_true, Option.isSome_some, Option.map_some, List.getElem?_toArray, List.getElem?_cons_zero, List.getElem?_cons_succ, List.size_toArray, List.length_cons, List.length_nil, List.setIfInBounds_toArray, List.set_cons_zero, List.set_cons_succ, List.getD_cons_zero, List.getD_cons_succ, Nat.zero_add, Nat.add_zero, Nat.reduceAdd, Bool.not_true, Bool.not_false, ne_eq, not_true_eq_false, not_false_eq_true, reduceCtorEq, decide_true, decide_false])
  intro g
  (try simp (disch := omega) only [Bool.and_true, Bool.and_false, Bool.true_and, Bool.false_and, Bool.or_true, Bool.or_false, Bool.true_or, Bool.false_or, put_nil, put_map, put_int, put_str, put_bool, put_ptr, put_slice, Nat.lt_add_one, Nat.zero_lt_succ, Nat.reduceLT, bin_add, bin_sub, bin_mul, bin_quo, bin_rem, bin_eql, bin_neq, bin_lss, bin_leq, bin_gtr, bin_geq, bin_sadd, bin_seq, bin_sne, bin_slt, bin_sgt, bin_sge, bin_sle, nil_ptr, fld_ptr, ld_one, ld_agg, st_int, st_bool, st_str, st_slice, st_ptr, st_map, st_agg, stc_nil, stc_cons, one_int, one_bool, one_str, one_slice, one_ptr, one_map, ext_tuple, ixa_slice, ixa_arr, ixs_str, lens_str, lenl_sl, un_not, un_neg, cvt_int, min_int, max_int, alloc_go, box_agg, box_int, box_bool, box_str, box_slice, box_ptr, box_map, bd_none, bd_some, sls_str, sll_sl, isB_t, isB_f, cond_true, cond_false, pick_t, pick_f, pick_or, pick_and, condW_true, condW_false, cellsAt, add_mk, cell_eq, cellO_some, frozen_eq, frO_zero, heap_set_same, heap_set_other, setO_some, heap_anew, heap_aold, heap_drew, size_drew, size_set, size_alloc, exists_eq_left', Option.some.injEq, true_and, and_true, Option.isSome_some, Option.map_some, List.getElem?_toArray, List.getElem?_cons_zero, List.getElem?_cons_succ, List.size_toArray, List.length_cons, List.length_nil, List.setIfInBounds_toArray, List.set_cons_zero, List.set_cons_succ, List.getD_cons_zero, List.getD_cons_succ, Nat.zero_add, Nat.add_zero, Nat.reduceAdd, Bool.not_true, Bool.not_false, ne_eq, not_true_eq_false, not_false_eq_true, reduceCtorEq, decide_true, decide_false])
  refine LoopW.go (fun st w' => ∃ i, i ≤ 64 ∧ st = [i64 (i : Nat)] ∧ Fs w w' b m (lim i)) (fun st _ => match st with | [.int _ i] => 64 - i.toNat | _ => 0) ⟨0, by omega, rfl, h2⟩ ?_
  rintro st g w3 ⟨i, hi, rfl, h3⟩
  simp (disch := omega) only [Bool.and_true, Bool.and_false, Bool.true_and, Bool.false_and, Bool.or_true, Bool.or_false, Bool.true_or, Bool.false_or, put_nil, put_map, put_int, put_str, put_bool, put_ptr, put_slice, Nat.lt_add_one, Nat.zero_lt_succ, Nat.reduceLT, bin_add, bin_sub, bin_mul, bin_quo, bin_rem, bin_eql, bin_neq, bin_lss, bin_leq, bin_gtr, bin_geq, bin_sadd, bin_seq, bin_sne, bin_slt, bin_sgt, bin_sge, bin_sle, nil_ptr, fld_ptr, ld_one, ld_agg, st_int, st_bool, st_str, st_slice, st_ptr, st_map, st_agg, stc_nil, stc_cons, one_int, one_bool, one_str, one_slice, one_ptr, one_map, ext_tuple, ixa_slice, ixa_arr, ixs_str, lens_str, lenl_sl, un_not, un_neg, cvt_int, min_int, max_int, alloc_go, box_agg, box_int, box_bool, box_str, box_slice, box_ptr, box_map, bd_none, bd_some, sls_str, sll_sl, isB_t, isB_f, cond_true, cond_false, pick_t, pick_f, pick_or, pick_and, condW_true, condW_false, cellsAt, add_mk, cell_eq, cellO_some, frozen_eq, frO_zero, heap_set_same, heap_set_other, setO_some, heap_anew, heap_aold, heap_drew, size_drew, size_set, size_alloc, exists_eq_left', Option.some.injEq, true_and, and_true, Option.isSome_some, Option.map_some, List.getElem?_toArray, List.getElem?_cons_zero, List.getElem?_cons_succ, List.size_toArray, List.length_cons, List.length_nil, List.setIfInBounds_toArray, List.set_cons_zero, List.set_cons_succ, List.getD_cons_zero, List.getD_cons_succ, Nat.zero_add, Nat.add_zero, Nat.reduceAdd, Bool.not_true, Bool.not_false, ne_eq, not_true_eq_false, not_false_eq_true, reduceCtorEq, decide_true, decide_false, condW_dec]
  refine ⟨fun hlt => ?_, fun hge => ?_⟩
  · have hlt : i < 64 := by omega
    refine ⟨by decide, ?_⟩
    refine ⟨by decide, ?_⟩
    (try simp only [bslW])
    simp (disch := omega) only [Bool.and_true, Bool.and_false, Bool.true_and, Bool.false_and, Bool.or_true, Bool.or_false, Bool.true_or, Bool.false_or, put_nil, put_map, put_int, put_str, put_bool, put_ptr, put_slice, Nat.lt_add_one, Nat.zero_lt_succ, Nat.reduceLT, bin_add, bin_sub, bin_mul, bin_quo, bin_rem, bin_eql, bin_neq, bin_lss, bin_leq, bin_gtr, bin_geq, bin_sadd, bin_seq, bin_sne, bin_slt, bin_sgt, bin_sge, bin_sle, nil_ptr, fld_ptr, ld_one, ld_agg, st_int, st_bool, st_str, st_slice, st_ptr, st_map, st_agg, stc_nil, stc_cons, one_int, one_bool, one_str, one_slice, one_ptr, one_map, ext_tuple, ixa_slice, ixa_arr, ixs_str, lens_str, lenl_sl, un_not, un_neg, cvt_int, min_int, max_int, alloc_go, box_agg, box_int, box_bool, box_str, box_slice, box_ptr, box_map, bd_none, bd_some, sls_str, sll_sl, isB_t, isB_f, cond_true, cond_false, pick_t, pick_f, pick_or, pick_and, condW_true, condW_false, cellsAt, add_mk, cell_eq, cellO_some, frozen_eq, frO_zero, heap_set_same, heap_set_other, setO_some, heap_anew, heap_aold, heap_drew, size_drew, size_set, size_alloc, exists_eq_left', Option.some.injEq, true_and, and_true, Option.isSome_some, Option.map_some, List.getElem?_toArray, List.getElem?_cons_zero, List.getElem?_cons_succ, List.size_toArray, List.length_cons, List.length_nil, List.setIfInBounds_toArray, List.set_cons_zero, List.set_cons_succ, List.getD_cons_zero, List.getD_cons_succ, Nat.zero_add, Nat.add_zero, Nat.reduceAdd, Bool.not_true, Bool.not_false, ne_eq, not_true_eq_false, not_false_eq_true, reduceCtorEq, decide_true, decide_false]
    rw [nm_w1 hlt, nm_w2 hlt, ← nm_bytes hlt]
    have hb := byt_lit (nm i) w3 (by simp [nm])
    have hxa : Ext w3 (w3.alloc (.cells (u8s (nm i)).toArray UT)) := (by repeat (first | assumption | exact Chg.refl _ _ | refine Chg.drew ?_ | refine Chg.alloc ?_ _ | refine Chg.set ?_ (by first | exact .inl rfl | exact .inr (by omega) | exact .inr (by simp only [size_set, size_alloc, size_drew]; omega) | (left; simp; done)) _ | exact Chg.of_ext (by assumption)))
    rw [show (3 : Nat) = (nm i).length from rfl, conv_b hb]
    refine fwrite (data := []) (h3.more hxa) (SlAt.nil _ _) fun w4 h4 hc4 => ?_
    rw [lim_next hlt] at h4 ⊢
    have hw : IntKind.i64.wrap ((i : Int) + 1) = ((i + 1 : Nat) : Int) := by rw [wrap_id (by omega) (by omega)]; simp
    simp (disch := omega) only [Bool.and_true, Bool.and_false, Bool.true_and, Bool.false_and, Bool.or_true, Bool.or_false, Bool.true_or, Bool.false_or, put_nil, put_map, put_int, put_str, put_bool, put_ptr, put_slice, Nat.lt_add_one, Nat.zero_lt_succ, Nat.reduceLT, bin_add, bin_sub, bin_mul, bin_quo, bin_rem, bin_eql, bin_neq, bin_lss, bin_leq, bin_gtr, bin_geq, bin_sadd, bin_seq, bin_sne, bin_slt, bin_sgt, bin_sge, bin_sle, nil_ptr, fld_ptr, ld_one, ld_agg, st_int, st_bool, st_str, st_slice, st_ptr, st_map, st_agg, stc_nil, stc_cons, one_int, one_bool, one_str, one_slice, one_ptr, one_map, ext_tuple, ixa_slice, ixa_arr, ixs_str, lens_str, lenl_sl, un_not, un_neg, cvt_int, min_int, max_int, alloc_go, box_agg, box_int, box_bool, box_str, box_slice, box_ptr, box_map, bd_none, bd_some, sls_str, sll_sl, isB_t, isB_f, cond_true, cond_false, pick_t, pick_f, pick_or, pick_and, condW_true, condW_false, cellsAt, add_mk, cell_eq, cellO_some, frozen_eq, frO_zero, heap_set_same, heap_set_other, setO_some, heap_anew, heap_aold, heap_drew, size_drew, size_set, size_alloc, exists_eq_left', Option.some.injEq, true_and, and_true, Option.isSome_some, Option.map_some, List.getElem?_toArray, List.getElem?_cons_zero, List.getElem?_cons_succ, List.size_toArray, List.length_cons, List.length_nil, List.setIfInBounds_toArray, List.set_cons_zero, List.set_cons_succ, List.getD_cons_zero, List.getD_cons_succ, Nat.zero_add, Nat.add_zero, Nat.reduceAdd, Bool.not_true, Bool.not_false, ne_eq, not_true_eq_false, not_false_eq_true, reduceCtorEq, decide_true, decide_false, hw]
    exact ⟨⟨i + 1, by omega, rfl, h4⟩, by simp only [Int.toNat_natCast]; omega⟩
  · have : i = 64 := by omega
    subst this
    obtain ⟨n, hn, hnw⟩ := n_of a
    obtain ⟨s1, s2, s3, s4, e1, e2, e3, e4, e5, e6, e7, e8, e9, hl⟩ := lim_way hn
    refine ⟨by decide, ?_⟩
    rw [hnw]
    refine ⟨by decide, ?_⟩
    refine ⟨by decide, ?_⟩
    (try simp only [bslW])
    simp (disch := omega) only [Bool.and_true, Bool.and_false, Bool.true_and, Bool.false_and, Bool.or_true, Bool.or_false, Bool.true_or, Bool.false_or, put_nil, put_map, put_int, put_str, put_bool, put_ptr, put_slice, Nat.lt_add_one, Nat.zero_lt_succ, Nat.reduceLT, bin_add, bin_sub, bin_mul, bin_quo, bin_rem, bin_eql, bin_neq, bin_lss, bin_leq, bin_gtr, bin_geq, bin_sadd, bin_seq, bin_sne, bin_slt, bin_sgt, bin_sge, bin_sle, nil_ptr, fld_ptr, ld_one, ld_agg, st_int, st_bool, st_str, st_slice, st_ptr, st_map, st_agg, stc_nil, stc_cons, one_int, one_bool, one_str, one_slice, one_ptr, one_map, ext_tuple, ixa_slice, ixa_arr, ixs_str, lens_str, lenl_sl, un_not, un_neg, cvt_int, min_int, max_int, alloc_go, box_agg, box_int, box_bool, box_str, box_slice, box_ptr, box_map, bd_none, bd_some, sls_str, sll_sl, isB_t, isB_f, cond_true, cond_false, pick_t, pick_f, pick_or, pick_and, condW_true, condW_false, cellsAt, add_mk, cell_eq, cellO_some, frozen_eq, frO_zero, heap_set_same, heap_set_other, setO_some, heap_anew, heap_aold, heap_drew, size_drew, size_set, size_alloc, exists_eq_left', Option.some.injEq, true_and, and_true, Option.isSome_some, Option.map_some, List.getElem?_toArray, List.getElem?_cons_zero, List.getElem?_cons_succ, List.size_toArray, List.length_cons, List.length_nil, List.setIfInBounds_toArray, List.set_cons_zero, List.set_cons_succ, List.getD_cons_zero, List.getD_cons_succ, Nat.zero_add, Nat.add_zero, Nat.reduceAdd, Bool.not_true, Bool.not_false, ne_eq, not_true_eq_false, not_false_eq_true, reduceCtorEq, decide_true, decide_false]
    rw [nm_w1 hn, nm_w2 hn, ← nm_bytes hn]
    have hb := byt_lit (nm n) w3 (by simp [nm])
    have hxa : Ext w3 (w3.alloc (.cells (u8s (nm n)).toArray UT)) := (by repeat (first | assumption | exact Chg.refl _ _ | refine Chg.drew ?_ | refine Chg.alloc ?_ _ | refine Chg.set ?_ (by first | exact .inl rfl | exact .inr (by omega) | exact .inr (by simp only [size_set, size_alloc, size_drew]; omega) | (left; simp; done)) _ | exact Chg.of_ext (by assumption)))
    rw [show (3 : Nat) = (nm n).length from rfl, conv_b hb]
    refine fwrite (p := gS) (data := []) (h3.more hxa) (SlAt.nil _ _) fun w4 h4 hc4 => ?_
    rw [e1] at h4 ⊢
    (try simp (disch := omega) only [Bool.and_true, Bool.and_false, Bool.true_and, Bool.false_and, Bool.or_true, Bool.or_false, Bool.true_or, Bool.false_or, put_nil, put_map, put_int, put_str, put_bool, put_ptr, put_slice, Nat.lt_add_one, Nat.zero_lt_succ, Nat.reduceLT, bin_add, bin_sub, bin_mul, bin_quo, bin_rem, bin_eql, bin_neq, bin_lss, bin_leq, bin_gtr, bin_geq, bin_sadd, bin_seq, bin_sne, bin_slt, bin_sgt, bin_sge, bin_sle, nil_ptr, fld_ptr, ld_one, ld_agg, st_int, st_bool, st_str, st_slice, st_ptr, st_map, st_agg, stc_nil, stc_cons, one_int, one_bool, one_str, one_slice, one_ptr, one_map, ext_tuple, ixa_slice, ixa_arr, ixs_str, lens_str, lenl_sl, un_not, un_neg, cvt_int, min_int, max_int, alloc_go, box_agg, box_int, box_bool, box_str, box_slice, box_ptr, box_map, bd_none, bd_some, sls_str, sll_sl, isB_t, isB_f, cond_true, cond_false, pick_t, pick_f, pick_or, pick_and, condW_true, condW_false, cellsAt, add_mk, cell_eq, cellO_some, frozen_eq, frO_zero, heap_set_same, heap_set_other, setO_some, heap_anew, heap_aold, heap_drew, size_drew, size_set, size_alloc, exists_eq_left', Option.some.injEq, true_and, and_true, Option.isSome_some, Option.map_some, List.getElem?_toArray, List.getElem?_cons_zero, List.getElem?_cons_succ, List.size_toArray, List.length_cons, List.length_nil, List.setIfInBounds_toArray, List.set_cons_zero, List.set_cons_succ, List.getD_cons_zero, List.getD_cons_succ, Nat.zero_add, Nat.add_zero, Nat.reduceAdd, Bool.not_true, Bool.not_false, ne_eq, not_true_eq_false, not_false_eq_true, reduceCtorEq, decide_true, decide_false])
    refine GdW.t ?_
    refine fcreate (p := gS) (data := []) h4 (SlAt.nil _ _) fun w5 h5 hc5 => ?_
    rw [e2] at h5 ⊢
    (try simp (disch := omega) only [Bool.and_true, Bool.and_false, Bool.true_and, Bool.false_and, Bool.or_true, Bool.or_false, Bool.true_or, Bool.false_or, put_nil, put_map, put_int, put_str, put_bool, put_ptr, put_slice, Nat.lt_add_one, Nat.zero_lt_succ, Nat.reduceLT, bin_add, bin_sub, bin_mul, bin_quo, bin_rem, bin_eql, bin_neq, bin_lss, bin_leq, bin_gtr, bin_geq, bin_sadd, bin_seq, bin_sne, bin_slt, bin_sgt, bin_sge, bin_sle, nil_ptr, fld_ptr, ld_one, ld_agg, st_int, st_bool, st_str, st_slice, st_ptr, st_map, st_agg, stc_nil, stc_cons, one_int, one_bool, one_str, one_slice, one_ptr, one_map, ext_tuple, ixa_slice, ixa_arr, ixs_str, lens_str, lenl_sl, un_not, un_neg, cvt_int, min_int, max_int, alloc_go, box_agg, box_int, box_bool, box_str, box_slice, box_ptr, box_map, bd_none, bd_some, sls_str, sll_sl, isB_t, isB_f, cond_true, cond_false, pick_t, pick_f, pick_or, pick_and, condW_true, condW_false, cellsAt, add_mk, cell_eq, cellO_some, frozen_eq, frO_zero, heap_set_same, heap_set_other, setO_some, heap_anew, heap_aold, heap_drew, size_drew, size_set, size_alloc, exists_eq_left', Option.some.injEq, true_and, and_true, Option.isSome_some, Option.map_some, List.getElem?_toArray, List.getElem?_cons_zero, List.getElem?_cons_succ, List.size_toArray, List.length_cons, List.length_nil, List.setIfInBounds_toArray, List.set_cons_zero, List.set_cons_succ, List.getD_cons_zero, List.getD_cons_succ, Nat.zero_add, Nat.add_zero, Nat.reduceAdd, Bool.not_true, Bool.not_false, ne_eq, not_true_eq_false, not_false_eq_true, reduceCtorEq, decide_true, decide_false])
    intro g
    (try simp (disch := omega) only [Bool.and_true, Bool.and_false, Bool.true_and, Bool.false_and, Bool.or_true, Bool.or_false, Bool.true_or, Bool.false_or, put_nil, put_map, put_int, put_str, put_bool, put_ptr, put_slice, Nat.lt_add_one, Nat.zero_lt_succ, Nat.reduceLT, bin_add, bin_sub, bin_mul, bin_quo, bin_rem, bin_eql, bin_neq, bin_lss, bin_leq, bin_gtr, bin_geq, bin_sadd, bin_seq, bin_sne, bin_slt, bin_sgt, bin_sge, bin_sle, nil_ptr, fld_ptr, ld_one, ld_agg, st_int, st_bool, st_str, st_slice, st_ptr, st_map, st_agg, stc_nil, stc_cons, one_int, one_bool, one_str, one_slice, one_ptr, one_map, ext_tuple, ixa_slice, ixa_arr, ixs_str, lens_str, lenl_sl, un_not, un_neg, cvt_int, min_int, max_int, alloc_go, box_agg, box_int, box_bool, box_str, box_slice, box_ptr, box_map, bd_none, bd_some, sls_str, sll_sl, isB_t, isB_f, cond_true, cond_false, pick_t, pick_f, pick_or, pick_and, condW_true, condW_false, cellsAt, add_mk, cell_eq, cellO_some, frozen_eq, frO_zero, heap_set_same, heap_set_other, setO_some, heap_anew, heap_aold, heap_drew, size_drew, size_set, size_alloc, exists_eq_left', Option.some.injEq, true_and, and_true, Option.isSome_some, Option.map_some, List.getElem?_toArray, List.getElem?_cons_zero, List.getElem?_cons_succ, List.size_toArray, List.length_cons, List.length_nil, List.setIfInBounds_toArray, List.set_cons_zero, List.set_cons_succ, List.getD_cons_zero, List.getD_cons_succ, Nat.zero_add, Nat.add_zero, Nat.reduceAdd, Bool.not_true, Bool.not_false, ne_eq, not_true_eq_false, not_false_eq_true, reduceCtorEq, decide_true, decide_false])
    refine GdW.t ?_
    refine make_bytes (n := 65536) (by omega) fun v6 w6 hv6 hx6 => ?_
    refine fwrite (p := nm n) (h5.more hx6) hv6 fun w7 h7 hc7 => ?_
    rw [e3] at h7 ⊢
    (try simp (disch := omega) only [Bool.and_true, Bool.and_false, Bool.true_and, Bool.false_and, Bool.or_true, Bool.or_false, Bool.true_or, Bool.false_or, put_nil, put_map, put_int, put_str, put_bool, put_ptr, put_slice, Nat.lt_add_one, Nat.zero_lt_succ, Nat.reduceLT, bin_add, bin_sub, bin_mul, bin_quo, bin_rem, bin_eql, bin_neq, bin_lss, bin_leq, bin_gtr, bin_geq, bin_sadd, bin_seq, bin_sne, bin_slt, bin_sgt, bin_sge, bin_sle, nil_ptr, fld_ptr, ld_one, ld_agg, st_int, st_bool, st_str, st_slice, st_ptr, st_map, st_agg, stc_nil, stc_cons, one_int, one_bool, one_str, one_slice, one_ptr, one_map, ext_tuple, ixa_slice, ixa_arr, ixs_str, lens_str, lenl_sl, un_not, un_neg, cvt_int, min_int, max_int, alloc_go, box_agg, box_int, box_bool, box_str, box_slice, box_ptr, box_map, bd_none, bd_some, sls_str, sll_sl, isB_t, isB_f, cond_true, cond_false, pick_t, pick_f, pick_or, pick_and, condW_true, condW_false, cellsAt, add_mk, cell_eq, cellO_some, frozen_eq, frO_zero, heap_set_same, heap_set_other, setO_some, heap_anew, heap_aold, heap_drew, size_drew, size_set, size_alloc, exists_eq_left', Option.some.injEq, true_and, and_true, Option.isSome_some, Option.map_some, List.getElem?_toArray, List.getElem?_cons_zero, List.getElem?_cons_succ, List.size_toArray, List.length_cons, List.length_nil, List.setIfInBounds_toArray, List.set_cons_zero, List.set_cons_succ, List.getD_cons_zero, List.getD_cons_succ, Nat.zero_add, Nat.add_zero, Nat.reduceAdd, Bool.not_true, Bool.not_false, ne_eq, not_true_eq_false, not_false_eq_true, reduceCtorEq, decide_true, decide_false])
    intro g
    (try simp (disch := omega) only [Bool.and_true, Bool.and_false, Bool.true_and, Bool.false_and, Bool.or_true, Bool.or_false, Bool.true_or, Bool.false_or, put_nil, put_map, put_int, put_str, put_bool, put_ptr, put_slice, Nat.lt_add_one, Nat.zero_lt_succ, Nat.reduceLT, bin_add, bin_sub, bin_mul, bin_quo, bin_rem, bin_eql, bin_neq, bin_lss, bin_leq, bin_gtr, bin_geq, bin_sadd, bin_seq, bin_sne, bin_slt, bin_sgt, bin_sge, bin_sle, nil_ptr, fld_ptr, ld_one, ld_agg, st_int, st_bool, st_str, st_slice, st_ptr, st_map, st_agg, stc_nil, stc_cons, one_int, one_bool, one_str, one_slice, one_ptr, one_map, ext_tuple, ixa_slice, ixa_arr, ixs_str, lens_str, lenl_sl, un_not, un_neg, cvt_int, min_int, max_int, alloc_go, box_agg, box_int, box_bool, box_str, box_slice, box_ptr, box_map, bd_none, bd_some, sls_str, sll_sl, isB_t, isB_f, cond_true, cond_false, pick_t, pick_f, pick_or, pick_and, condW_true, condW_false, cellsAt, add_mk, cell_eq, cellO_some, frozen_eq, frO_zero, heap_set_same, heap_set_other, setO_some, heap_anew, heap_aold, heap_drew, size_drew, size_set, size_alloc, exists_eq_left', Option.some.injEq, true_and, and_true, Option.isSome_some, Option.map_some, List.getElem?_toArray, List.getElem?_cons_zero, List.getElem?_cons_succ, List.size_toArray, List.length_cons, List.length_nil, List.setIfInBounds_toArray, List.set_cons_zero, List.set_cons_succ, List.getD_cons_zero, List.getD_cons_succ, Nat.zero_add, Nat.add_zero, Nat.reduceAdd, Bool.not_true, Bool.not_false, ne_eq, not_true_eq_false, not_false_eq_true, reduceCtorEq, decide_true, decide_false])
    refine GdW.t ?_
    refine make_bytes (n := 65537) (by omega) fun v8 w8 hv8 hx8 => ?_
    refine fwrite (p := nm n) (h7.more hx8) hv8 fun w9 h9 hc9 => ?_
    rw [e4] at h9 ⊢
    (try simp (disch := omega) only [Bool.and_true, Bool.and_false, Bool.true_and, Bool.false_and, Bool.or_true, Bool.or_false, Bool.true_or, Bool.false_or, put_nil, put_map, put_int, put_str, put_bool, put_ptr, put_slice, Nat.lt_add_one, Nat.zero_lt_succ, Nat.reduceLT, bin_add, bin_sub, bin_mul, bin_quo, bin_rem, bin_eql, bin_neq, bin_lss, bin_leq, bin_gtr, bin_geq, bin_sadd, bin_seq, bin_sne, bin_slt, bin_sgt, bin_sge, bin_sle, nil_ptr, fld_ptr, ld_one, ld_agg, st_int, st_bool, st_str, st_slice, st_ptr, st_map, st_agg, stc_nil, stc_cons, one_int, one_bool, one_str, one_slice, one_ptr, one_map, ext_tuple, ixa_slice, ixa_arr, ixs_str, lens_str, lenl_sl, un_not, un_neg, cvt_int, min_int, max_int, alloc_go, box_agg, box_int, box_bool, box_str, box_slice, box_ptr, box_map, bd_none, bd_some, sls_str, sll_sl, isB_t, isB_f, cond_true, cond_false, pick_t, pick_f, pick_or, pick_and, condW_true, condW_false, cellsAt, add_mk, cell_eq, cellO_some, frozen_eq, frO_zero, heap_set_same, heap_set_other, setO_some, heap_anew, heap_aold, heap_drew, size_drew, size_set, size_alloc, exists_eq_left', Option.some.injEq, true_and, and_true, Option.isSome_some, Option.map_some, List.getElem?_toArray, List.getElem?_cons_zero, List.getElem?_cons_succ, List.size_toArray, List.length_cons, List.length_nil, List.setIfInBounds_toArray, List.set_cons_zero, List.set_cons_succ, List.getD_cons_zero, List.getD_cons_succ, Nat.zero_add, Nat.add_zero, Nat.reduceAdd, Bool.not_true, Bool.not_false, ne_eq, not_true_eq_false, not_false_eq_true, reduceCtorEq, decide_true, decide_false])
    intro g
    (try simp (disch := omega) only [Bool.and_true, Bool.and_false, Bool.true_and, Bool.false_and, Bool.or_true, Bool.or_false, Bool.true_or, Bool.false_or, put_nil, put_map, put_int, put_str, put_bool, put_ptr, put_slice, Nat.lt_add_one, Nat.zero_lt_succ, Nat.reduceLT, bin_add, bin_sub, bin_mul, bin_quo, bin_rem, bin_eql, bin_neq, bin_lss, bin_leq, bin_gtr, bin_geq, bin_sadd, bin_seq, bin_sne, bin_slt, bin_sgt, bin_sge, bin_sle, nil_ptr, fld_ptr, ld_one, ld_agg, st_int, st_bool, st_str, st_slice, st_ptr, st_map, st_agg, stc_nil, stc_cons, one_int, one_bool, one_str, one_slice, one_ptr, one_map, ext_tuple, ixa_slice, ixa_arr, ixs_str, lens_str, lenl_sl, un_not, un_neg, cvt_int, min_int, max_int, alloc_go, box_agg, box_int, box_bool, box_str, box_slice, box_ptr, box_map, bd_none, bd_some, sls_str, sll_sl, isB_t, isB_f, cond_true, cond_false, pick_t, pick_f, pick_or, pick_and, condW_true, condW_false, cellsAt, add_mk, cell_eq, cellO_some, frozen_eq, frO_zero, heap_set_same, heap_set_other, setO_some, heap_anew, heap_aold, heap_drew, size_drew, size_set, size_alloc, exists_eq_left', Option.some.injEq, true_and, and_true, Option.isSome_some, Option.map_some, List.getElem?_toArray, List.getElem?_cons_zero, List.getElem?_cons_succ, List.size_toArray, List.length_cons, List.length_nil, List.setIfInBounds_toArray, List.set_cons_zero, List.set_cons_succ, List.getD_cons_zero, List.getD_cons_succ, Nat.zero_add, Nat.add_zero, Nat.reduceAdd, Bool.not_true, Bool.not_false, ne_eq, not_true_eq_false, not_false_eq_true, reduceCtorEq, decide_true, decide_false])
    refine GdW.t ?_
    refine frename (p := nm n) (q := longS) h9 fun w10 h10 hc10 => ?_
    rw [e5] at h10 ⊢
    (try simp (disch := omega) only [Bool.and_true, Bool.and_false, Bool.true_and, Bool.false_and, Bool.or_true, Bool.or_false, Bool.true_or, Bool.false_or, put_nil, put_map, put_int, put_str, put_bool, put_ptr, put_slice, Nat.lt_add_one, Nat.zero_lt_succ, Nat.reduceLT, bin_add, bin_sub, bin_mul, bin_quo, bin_rem, bin_eql, bin_neq, bin_lss, bin_leq, bin_gtr, bin_geq, bin_sadd, bin_seq, bin_sne, bin_slt, bin_sgt, bin_sge, bin_sle, nil_ptr, fld_ptr, ld_one, ld_agg, st_int, st_bool, st_str, st_slice, st_ptr, st_map, st_agg, stc_nil, stc_cons, one_int, one_bool, one_str, one_slice, one_ptr, one_map, ext_tuple, ixa_slice, ixa_arr, ixs_str, lens_str, lenl_sl, un_not, un_neg, cvt_int, min_int, max_int, alloc_go, box_agg, box_int, box_bool, box_str, box_slice, box_ptr, box_map, bd_none, bd_some, sls_str, sll_sl, isB_t, isB_f, cond_true, cond_false, pick_t, pick_f, pick_or, pick_and, condW_true, condW_false, cellsAt, add_mk, cell_eq, cellO_some, frozen_eq, frO_zero, heap_set_same, heap_set_other, setO_some, heap_anew, heap_aold, heap_drew, size_drew, size_set, size_alloc, exists_eq_left', Option.some.injEq, true_and, and_true, Option.isSome_some, Option.map_some, List.getElem?_toArray, List.getElem?_cons_zero, List.getElem?_cons_succ, List.size_toArray, List.length_cons, List.length_nil, List.setIfInBounds_toArray, List.set_cons_zero, List.set_cons_succ, List.getD_cons_zero, List.getD_cons_succ, Nat.zero_add, Nat.add_zero, Nat.reduceAdd, Bool.not_true, Bool.not_false, ne_eq, not_true_eq_false, not_false_eq_true, reduceCtorEq, decide_true, decide_false])
    intro g
    (try simp (disch := omega) only [Bool.and_true, Bool.and_false, Bool.true_and, Bool.false_and, Bool.or_true, Bool.or_false, Bool.true_or, Bool.false_or, put_nil, put_map, put_int, put_str, put_bool, put_ptr, put_slice, Nat.lt_add_one, Nat.zero_lt_succ, Nat.reduceLT, bin_add, bin_sub, bin_mul, bin_quo, bin_rem, bin_eql, bin_neq, bin_lss, bin_leq, bin_gtr, bin_geq, bin_sadd, bin_seq, bin_sne, bin_slt, bin_sgt, bin_sge, bin_sle, nil_ptr, fld_ptr, ld_one, ld_agg, st_int, st_bool, st_str, st_slice, st_ptr, st_map, st_agg, stc_nil, stc_cons, one_int, one_bool, one_str, one_slice, one_ptr, one_map, ext_tuple, ixa_slice, ixa_arr, ixs_str, lens_str, lenl_sl, un_not, un_neg, cvt_int, min_int, max_int, alloc_go, box_agg, box_int, box_bool, box_str, box_slice, box_ptr, box_map, bd_none, bd_some, sls_str, sll_sl, isB_t, isB_f, cond_true, cond_false, pick_t, pick_f, pick_or, pick_and, condW_true, condW_false, cellsAt, add_mk, cell_eq, cellO_some, frozen_eq, frO_zero, heap_set_same, heap_set_other, setO_some, heap_anew, heap_aold, heap_drew, size_drew, size_set, size_alloc, exists_eq_left', Option.some.injEq, true_and, and_true, Option.isSome_some, Option.map_some, List.getElem?_toArray, List.getElem?_cons_zero, List.getElem?_cons_succ, List.size_toArray, List.length_cons, List.length_nil, List.setIfInBounds_toArray, List.set_cons_zero, List.set_cons_succ, List.getD_cons_zero, List.getD_cons_succ, Nat.zero_add, Nat.add_zero, Nat.reduceAdd, Bool.not_true, Bool.not_false, ne_eq, not_true_eq_false, not_false_eq_true, reduceCtorEq, decide_true, decide_false])
    refine GdW.t ?_
    refine fwrite (p := gS) (data := []) h10 (SlAt.nil _ _) fun w11 h11 hc11 => ?_
    rw [e6] at h11 ⊢
    (try simp (disch := omega) only [Bool.and_true, Bool.and_false, Bool.true_and, Bool.false_and, Bool.or_true, Bool.or_false, Bool.true_or, Bool.false_or, put_nil, put_map, put_int, put_str, put_bool, put_ptr, put_slice, Nat.lt_add_one, Nat.zero_lt_succ, Nat.reduceLT, bin_add, bin_sub, bin_mul, bin_quo, bin_rem, bin_eql, bin_neq, bin_lss, bin_leq, bin_gtr, bin_geq, bin_sadd, bin_seq, bin_sne, bin_slt, bin_sgt, bin_sge, bin_sle, nil_ptr, fld_ptr, ld_one, ld_agg, st_int, st_bool, st_str, st_slice, st_ptr, st_map, st_agg, stc_nil, stc_cons, one_int, one_bool, one_str, one_slice, one_ptr, one_map, ext_tuple, ixa_slice, ixa_arr, ixs_str, lens_str, lenl_sl, un_not, un_neg, cvt_int, min_int, max_int, alloc_go, box_agg, box_int, box_bool, box_str, box_slice, box_ptr, box_map, bd_none, bd_some, sls_str, sll_sl, isB_t, isB_f, cond_true, cond_false, pick_t, pick_f, pick_or, pick_and, condW_true, condW_false, cellsAt, add_mk, cell_eq, cellO_some, frozen_eq, frO_zero, heap_set_same, heap_set_other, setO_some, heap_anew, heap_aold, heap_drew, size_drew, size_set, size_alloc, exists_eq_left', Option.some.injEq, true_and, and_true, Option.isSome_some, Option.map_some, List.getElem?_toArray, List.getElem?_cons_zero, List.getElem?_cons_succ, List.size_toArray, List.length_cons, List.length_nil, List.setIfInBounds_toArray, List.set_cons_zero, List.set_cons_succ, List.getD_cons_zero, List.getD_cons_succ, Nat.zero_add, Nat.add_zero, Nat.reduceAdd, Bool.not_true, Bool.not_false, ne_eq, not_true_eq_false, not_false_eq_true, reduceCtorEq, decide_true, decide_false])
    intro g
    (try simp (disch := omega) only [Bool.and_true, Bool.and_false, Bool.true_and, Bool.false_and, Bool.or_true, Bool.or_false, Bool.true_or, Bool.false_or, put_nil, put_map, put_int, put_str, put_bool, put_ptr, put_slice, Nat.lt_add_one, Nat.zero_lt_succ, Nat.reduceLT, bin_add, bin_sub, bin_mul, bin_quo, bin_rem, bin_eql, bin_neq, bin_lss, bin_leq, bin_gtr, bin_geq, bin_sadd, bin_seq, bin_sne, bin_slt, bin_sgt, bin_sge, bin_sle, nil_ptr, fld_ptr, ld_one, ld_agg, st_int, st_bool, st_str, st_slice, st_ptr, st_map, st_agg, stc_nil, stc_cons, one_int, one_bool, one_str, one_slice, one_ptr, one_map, ext_tuple, ixa_slice, ixa_arr, ixs_str, lens_str, lenl_sl, un_not, un_neg, cvt_int, min_int, max_int, alloc_go, box_agg, box_int, box_bool, box_str, box_slice, box_ptr, box_map, bd_none, bd_some, sls_str, sll_sl, isB_t, isB_f, cond_true, cond_false, pick_t, pick_f, pick_or, pick_and, condW_true, condW_false, cellsAt, add_mk, cell_eq, cellO_some, frozen_eq, frO_zero, heap_set_same, heap_set_other, setO_some, heap_anew, heap_aold, heap_drew, size_drew, size_set, size_alloc, exists_eq_left', Option.some.injEq, true_and, and_true, Option.isSome_some, Option.map_some, List.getElem?_toArray, List.getElem?_cons_zero, List.getElem?_cons_succ, List.size_toArray, List.length_cons, List.length_nil, List.setIfInBounds_toArray, List.set_cons_zero, List.set_cons_succ, List.getD_cons_zero, List.getD_cons_succ, Nat.zero_add, Nat.add_zero, Nat.reduceAdd, Bool.not_true, Bool.not_false, ne_eq, not_true_eq_false, not_false_eq_true, reduceCtorEq, decide_true, decide_false])
    refine GdW.t ?_
    (try simp (disch := omega) only [Bool.and_true, Bool.and_false, Bool.true_and, Bool.false_and, Bool.or_true, Bool.or_false, Bool.true_or, Bool.false_or, put_nil, put_map, put_int, put_str, put_bool, put_ptr, put_slice, Nat.lt_add_one, Nat.zero_lt_succ, Nat.reduceLT, bin_add, bin_sub, bin_mul, bin_quo, bin_rem, bin_eql, bin_neq, bin_lss, bin_leq, bin_gtr, bin_geq, bin_sadd, bin_seq, bin_sne, bin_slt, bin_sgt, bin_sge, bin_sle, nil_ptr, fld_ptr, ld_one, ld_agg, st_int, st_bool, st_str, st_slice, st_ptr, st_map, st_agg, stc_nil, stc_cons, one_int, one_bool, one_str, one_slice, one_ptr, one_map, ext_tuple, ixa_slice, ixa_arr, ixs_str, lens_str, lenl_sl, un_not, un_neg, cvt_int, min_int, max_int, alloc_go, box_agg, box_int, box_bool, box_str, box_slice, box_ptr, box_map, bd_none, bd_some, sls_str, sll_sl, isB_t, isB_f, cond_true, cond_false, pick_t, pick_f, pick_or, pick_and, condW_true, condW_false, cellsAt, add_mk, cell_eq, cellO_some, frozen_eq, frO_zero, heap_set_same, heap_set_other, setO_some, heap_anew, heap_aold, heap_drew, size_drew, size_set, size_alloc, exists_eq_left', Option.some.injEq, true_and, and_true, Option.isSome_some, Option.map_some, List.getElem?_toArray, List.getElem?_cons_zero, List.getElem?_cons_succ, List.size_toArray, List.length_cons, List.length_nil, List.setIfInBounds_toArray, List.set_cons_zero, List.set_cons_succ, List.getD_cons_zero, List.getD_cons_succ, Nat.zero_add, Nat.add_zero, Nat.reduceAdd, Bool.not_true, Bool.not_false, ne_eq, not_true_eq_false, not_false_eq_true, reduceCtorEq, decide_true, decide_false])
    refine ⟨by decide, ?_⟩
    refine frename (p := longS) (q := longS ++ [52]) h11 fun w12 h12 hc12 => ?_
    rw [e7] at h12 ⊢
    (try simp (disch := omega) only [Bool.and_true, Bool.and_false, Bool.true_and, Bool.false_and, Bool.or_true, Bool.or_false, Bool.true_or, Bool.false_or, put_nil, put_map, put_int, put_str, put_bool, put_ptr, put_slice, Nat.lt_add_one, Nat.zero_lt_succ, Nat.reduceLT, bin_add, bin_sub, bin_mul, bin_quo, bin_rem, bin_eql, bin_neq, bin_lss, bin_leq, bin_gtr, bin_geq, bin_sadd, bin_seq, bin_sne, bin_slt, bin_sgt, bin_sge, bin_sle, nil_ptr, fld_ptr, ld_one, ld_agg, st_int, st_bool, st_str, st_slice, st_ptr, st_map, st_agg, stc_nil, stc_cons, one_int, one_bool, one_str, one_slice, one_ptr, one_map, ext_tuple, ixa_slice, ixa_arr, ixs_str, lens_str, lenl_sl, un_not, un_neg, cvt_int, min_int, max_int, alloc_go, box_agg, box_int, box_bool, box_str, box_slice, box_ptr, box_map, bd_none, bd_some, sls_str, sll_sl, isB_t, isB_f, cond_true, cond_false, pick_t, pick_f, pick_or, pick_and, condW_true, condW_false, cellsAt, add_mk, cell_eq, cellO_some, frozen_eq, frO_zero, heap_set_same, heap_set_other, setO_some, heap_anew, heap_aold, heap_drew, size_drew, size_set, size_alloc, exists_eq_left', Option.some.injEq, true_and, and_true, Option.isSome_some, Option.map_some, List.getElem?_toArray, List.getElem?_cons_zero, List.getElem?_cons_succ, List.size_toArray, List.length_cons, List.length_nil, List.setIfInBounds_toArray, List.set_cons_zero, List.set_cons_succ, List.getD_cons_zero, List.getD_cons_succ, Nat.zero_add, Nat.add_zero, Nat.reduceAdd, Bool.not_true, Bool.not_false, ne_eq, not_true_eq_false, not_false_eq_true, reduceCtorEq, decide_true, decide_false])
    intro g
    (try simp (disch := omega) only [Bool.and_true, Bool.and_false, Bool.true_and, Bool.false_and, Bool.or_true, Bool.or_false, Bool.true_or, Bool.false_or, put_nil, put_map, put_int, put_str, put_bool, put_ptr, put_slice, Nat.lt_add_one, Nat.zero_lt_succ, Nat.reduceLT, bin_add, bin_sub, bin_mul, bin_quo, bin_rem, bin_eql, bin_neq, bin_lss, bin_leq, bin_gtr, bin_geq, bin_sadd, bin_seq, bin_sne, bin_slt, bin_sgt, bin_sge, bin_sle, nil_ptr, fld_ptr, ld_one, ld_agg, st_int, st_bool, st_str, st_slice, st_ptr, st_map, st_agg, stc_nil, stc_cons, one_int, one_bool, one_str, one_slice, one_ptr, one_map, ext_tuple, ixa_slice, ixa_arr, ixs_str, lens_str, lenl_sl, un_not, un_neg, cvt_int, min_int, max_int, alloc_go, box_agg, box_int, box_bool, box_str, box_slice, box_ptr, box_map, bd_none, bd_some, sls_str, sll_sl, isB_t, isB_f, cond_true, cond_false, pick_t, pick_f, pick_or, pick_and, condW_true, condW_false, cellsAt, add_mk, cell_eq, cellO_some, frozen_eq, frO_zero, heap_set_same, heap_set_other, setO_some, heap_anew, heap_aold, heap_drew, size_drew, size_set, size_alloc, exists_eq_left', Option.some.injEq, true_and, and_true, Option.isSome_some, Option.map_some, List.getElem?_toArray, List.getElem?_cons_zero, List.getElem?_cons_succ, List.size_toArray, List.length_cons, List.length_nil, List.setIfInBounds_toArray, List.set_cons_zero, List.set_cons_succ, List.getD_cons_zero, List.getD_cons_succ, Nat.zero_add, Nat.add_zero, Nat.reduceAdd, Bool.not_true, Bool.not_false, ne_eq, not_true_eq_false, not_false_eq_true, reduceCtorEq, decide_true, decide_false])
    refine GdW.t ?_
    refine fremove (p := longS) h12 fun w13 h13 hc13 => ?_
    rw [e8] at h13 ⊢
    (try simp (disch := omega) only [Bool.and_true, Bool.and_false, Bool.true_and, Bool.false_and, Bool.or_true, Bool.or_false, Bool.true_or, Bool.false_or, put_nil, put_map, put_int, put_str, put_bool, put_ptr, put_slice, Nat.lt_add_one, Nat.zero_lt_succ, Nat.reduceLT, bin_add, bin_sub, bin_mul, bin_quo, bin_rem, bin_eql, bin_neq, bin_lss, bin_leq, bin_gtr, bin_geq, bin_sadd, bin_seq, bin_sne, bin_slt, bin_sgt, bin_sge, bin_sle, nil_ptr, fld_ptr, ld_one, ld_agg, st_int, st_bool, st_str, st_slice, st_ptr, st_map, st_agg, stc_nil, stc_cons, one_int, one_bool, one_str, one_slice, one_ptr, one_map, ext_tuple, ixa_slice, ixa_arr, ixs_str, lens_str, lenl_sl, un_not, un_neg, cvt_int, min_int, max_int, alloc_go, box_agg, box_int, box_bool, box_str, box_slice, box_ptr, box_map, bd_none, bd_some, sls_str, sll_sl, isB_t, isB_f, cond_true, cond_false, pick_t, pick_f, pick_or, pick_and, condW_true, condW_false, cellsAt, add_mk, cell_eq, cellO_some, frozen_eq, frO_zero, heap_set_same, heap_set_other, setO_some, heap_anew, heap_aold, heap_drew, size_drew, size_set, size_alloc, exists_eq_left', Option.some.injEq, true_and, and_true, Option.isSome_some, Option.map_some, List.getElem?_toArray, List.getElem?_cons_zero, List.getElem?_cons_succ, List.size_toArray, List.length_cons, List.length_nil, List.setIfInBounds_toArray, List.set_cons_zero, List.set_cons_succ, List.getD_cons_zero, List.getD_cons_succ, Nat.zero_add, Nat.add_zero, Nat.reduceAdd, Bool.not_true, Bool.not_false, ne_eq, not_true_eq_false, not_false_eq_true, reduceCtorEq, decide_true, decide_false])
    intro g
    (try simp (disch := omega) only [Bool.and_true, Bool.and_false, Bool.true_and, Bool.false_and, Bool.or_true, Bool.or_false, Bool.true_or, Bool.false_or, put_nil, put_map, put_int, put_str, put_bool, put_ptr, put_slice, Nat.lt_add_one, Nat.zero_lt_succ, Nat.reduceLT, bin_add, bin_sub, bin_mul, bin_quo, bin_rem, bin_eql, bin_neq, bin_lss, bin_leq, bin_gtr, bin_geq, bin_sadd, bin_seq, bin_sne, bin_slt, bin_sgt, bin_sge, bin_sle, nil_ptr, fld_ptr, ld_one, ld_agg, st_int, st_bool, st_str, st_slice, st_ptr, st_map, st_agg, stc_nil, stc_cons, one_int, one_bool, one_str, one_slice, one_ptr, one_map, ext_tuple, ixa_slice, ixa_arr, ixs_str, lens_str, lenl_sl, un_not, un_neg, cvt_int, min_int, max_int, alloc_go, box_agg, box_int, box_bool, box_str, box_slice, box_ptr, box_map, bd_none, bd_some, sls_str, sll_sl, isB_t, isB_f, cond_true, cond_false, pick_t, pick_f, pick_or, pick_and, condW_true, condW_false, cellsAt, add_mk, cell_eq, cellO_some, frozen_eq, frO_zero, heap_set_same, heap_set_other, setO_some, heap_anew, heap_aold, heap_drew, size_drew, size_set, size_alloc, exists_eq_left', Option.some.injEq, true_and, and_true, Option.isSome_some, Option.map_some, List.getElem?_toArray, List.getElem?_cons_zero, List.getElem?_cons_succ, List.size_toArray, List.length_cons, List.length_nil, List.setIfInBounds_toArray, List.set_cons_zero, List.set_cons_succ, List.getD_cons_zero, List.getD_cons_succ, Nat.zero_add, Nat.add_zero, Nat.reduceAdd, Bool.not_true, Bool.not_false, ne_eq, not_true_eq_false, not_false_eq_true, reduceCtorEq, decide_true, decide_false])
    refine GdW.t ?_
    refine fwrite (p := gS) (data := []) h13 (SlAt.nil _ _) fun w14 h14 hc14 => ?_
    rw [e9] at h14 ⊢
    (try simp (disch := omega) only [Bool.and_true, Bool.and_false, Bool.true_and, Bool.false_and, Bool.or_true, Bool.or_false, Bool.true_or, Bool.false_or, put_nil, put_map, put_int, put_str, put_bool, put_ptr, put_slice, Nat.lt_add_one, Nat.zero_lt_succ, Nat.reduceLT, bin_add, bin_sub, bin_mul, bin_quo, bin_rem, bin_eql, bin_neq, bin_lss, bin_leq, bin_gtr, bin_geq, bin_sadd, bin_seq, bin_sne, bin_slt, bin_sgt, bin_sge, bin_sle, nil_ptr, fld_ptr, ld_one, ld_agg, st_int, st_bool, st_str, st_slice, st_ptr, st_map, st_agg, stc_nil, stc_cons, one_int, one_bool, one_str, one_slice, one_ptr, one_map, ext_tuple, ixa_slice, ixa_arr, ixs_str, lens_str, lenl_sl, un_not, un_neg, cvt_int, min_int, max_int, alloc_go, box_agg, box_int, box_bool, box_str, box_slice, box_ptr, box_map, bd_none, bd_some, sls_str, sll_sl, isB_t, isB_f, cond_true, cond_false, pick_t, pick_f, pick_or, pick_and, condW_true, condW_false, cellsAt, add_mk, cell_eq, cellO_some, frozen_eq, frO_zero, heap_set_same, heap_set_other, setO_some, heap_anew, heap_aold, heap_drew, size_drew, size_set, size_alloc, exists_eq_left', Option.some.injEq, true_and, and_true, Option.isSome_some, Option.map_some, List.getElem?_toArray, List.getElem?_cons_zero, List.getElem?_cons_succ, List.size_toArray, List.length_cons, List.length_nil, List.setIfInBounds_toArray, List.set_cons_zero, List.set_cons_succ, List.getD_cons_zero, List.getD_cons_succ, Nat.zero_add, Nat.add_zero, Nat.reduceAdd, Bool.not_true, Bool.not_false, ne_eq, not_true_eq_false, not_false_eq_true, reduceCtorEq, decide_true, decide_false])
    intro g
    (try simp (disch := omega) only [Bool.and_true, Bool.and_false, Bool.true_and, Bool.false_and, Bool.or_true, Bool.or_false, Bool.true_or, Bool.false_or, put_nil, put_map, put_int, put_str, put_bool, put_ptr, put_slice, Nat.lt_add_one, Nat.zero_lt_succ, Nat.reduceLT, bin_add, bin_sub, bin_mul, bin_quo, bin_rem, bin_eql, bin_neq, bin_lss, bin_leq, bin_gtr, bin_geq, bin_sadd, bin_seq, bin_sne, bin_slt, bin_sgt, bin_sge, bin_sle, nil_ptr, fld_ptr, ld_one, ld_agg, st_int, st_bool, st_str, st_slice, st_ptr, st_map, st_agg, stc_nil, stc_cons, one_int, one_bool, one_str, one_slice, one_ptr, one_map, ext_tuple, ixa_slice, ixa_arr, ixs_str, lens_str, lenl_sl, un_not, un_neg, cvt_int, min_int, max_int, alloc_go, box_agg, box_int, box_bool, box_str, box_slice, box_ptr, box_map, bd_none, bd_some, sls_str, sll_sl, isB_t, isB_f, cond_true, cond_false, pick_t, pick_f, pick_or, pick_and, condW_true, condW_false, cellsAt, add_mk, cell_eq, cellO_some, frozen_eq, frO_zero, heap_set_same, heap_set_other, setO_some, heap_anew, heap_aold, heap_drew, size_drew, size_set, size_alloc, exists_eq_left', Option.some.injEq, true_and, and_true, Option.isSome_some, Option.map_some, List.getElem?_toArray, List.getElem?_cons_zero, List.getElem?_cons_succ, List.size_toArray, List.length_cons, List.length_nil, List.setIfInBounds_toArray, List.set_cons_zero, List.set_cons_succ, List.getD_cons_zero, List.getD_cons_succ, Nat.zero_add, Nat.add_zero, Nat.reduceAdd, Bool.not_true, Bool.not_false, ne_eq, not_true_eq_false, not_false_eq_true, reduceCtorEq, decide_true, decide_false])
    refine GdW.t ?_
    refine paths_fs h14.fs h14.ok fun v15 w15 hv15 hx15 => ?_
    rw [lenl_at hv15, hl]
    (try simp (disch := omega) only [Bool.and_true, Bool.and_false, Bool.true_and, Bool.false_and, Bool.or_true, Bool.or_false, Bool.true_or, Bool.false_or, put_nil, put_map, put_int, put_str, put_bool, put_ptr, put_slice, Nat.lt_add_one, Nat.zero_lt_succ, Nat.reduceLT, bin_add, bin_sub, bin_mul, bin_quo, bin_rem, bin_eql, bin_neq, bin_lss, bin_leq, bin_gtr, bin_geq, bin_sadd, bin_seq, bin_sne, bin_slt, bin_sgt, bin_sge, bin_sle, nil_ptr, fld_ptr, ld_one, ld_agg, st_int, st_bool, st_str, st_slice, st_ptr, st_map, st_agg, stc_nil, stc_cons, one_int, one_bool, one_str, one_slice, one_ptr, one_map, ext_tuple, ixa_slice, ixa_arr, ixs_str, lens_str, lenl_sl, un_not, un_neg, cvt_int, min_int, max_int, alloc_go, box_agg, box_int, box_bool, box_str, box_slice, box_ptr, box_map, bd_none, bd_some, sls_str, sll_sl, isB_t, isB_f, cond_true, cond_false, pick_t, pick_f, pick_or, pick_and, condW_true, condW_false, cellsAt, add_mk, cell_eq, cellO_some, frozen_eq, frO_zero, heap_set_same, heap_set_other, setO_some, heap_anew, heap_aold, heap_drew, size_drew, size_set, size_alloc, exists_eq_left', Option.some.injEq, true_and, and_true, Option.isSome_some, Option.map_some, List.getElem?_toArray, List.getElem?_cons_zero, List.getElem?_cons_succ, List.size_toArray, List.length_cons, List.length_nil, List.setIfInBounds_toArray, List.set_cons_zero, List.set_cons_succ, List.getD_cons_zero, List.getD_cons_succ, Nat.zero_add, Nat.add_zero, Nat.reduceAdd, Bool.not_true, Bool.not_false, ne_eq, not_true_eq_false, not_false_eq_true, reduceCtorEq, decide_true, decide_false])
    intro g
    (try simp (disch := omega) only [Bool.and_true, Bool.and_false, Bool.true_and, Bool.false_and, Bool.or_true, Bool.or_false, Bool.true_or, Bool.false_or, put_nil, put_map, put_int, put_str, put_bool, put_ptr, put_slice, Nat.lt_add_one, Nat.zero_lt_succ, Nat.reduceLT, bin_add, bin_sub, bin_mul, bin_quo, bin_rem, bin_eql, bin_neq, bin_lss, bin_leq, bin_gtr, bin_geq, bin_sadd, bin_seq, bin_sne, bin_slt, bin_sgt, bin_sge, bin_sle, nil_ptr, fld_ptr, ld_one, ld_agg, st_int, st_bool, st_str, st_slice, st_ptr, st_map, st_agg, stc_nil, stc_cons, one_int, one_bool, one_str, one_slice, one_ptr, one_map, ext_tuple, ixa_slice, ixa_arr, ixs_str, lens_str, lenl_sl, un_not, un_neg, cvt_int, min_int, max_int, alloc_go, box_agg, box_int, box_bool, box_str, box_slice, box_ptr, box_map, bd_none, bd_some, sls_str, sll_sl, isB_t, isB_f, cond_true, cond_false, pick_t, pick_f, pick_or, pick_and, condW_true, condW_false, cellsAt, add_mk, cell_eq, cellO_some, frozen_eq, frO_zero, heap_set_same, heap_set_other, setO_some, heap_anew, heap_aold, heap_drew, size_drew, size_set, size_alloc, exists_eq_left', Option.some.injEq, true_and, and_true, Option.isSome_some, Option.map_some, List.getElem?_toArray, List.getElem?_cons_zero, List.getElem?_cons_succ, List.size_toArray, List.length_cons, List.length_nil, List.setIfInBounds_toArray, List.set_cons_zero, List.set_cons_succ, List.getD_cons_zero, List.getD_cons_succ, Nat.zero_add, Nat.add_zero, Nat.reduceAdd, Bool.not_true, Bool.not_false, ne_eq, not_true_eq_false, not_false_eq_true, reduceCtorEq, decide_true, decide_false])
    exact hK _ (h14.more hx15).ext
end Go.Proofs.Ytcefidpmlnfheaa
