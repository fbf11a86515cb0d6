/- One plain sentence: the paths of a file system are the document's, rising. Conditions: those that each states. -/
import Derived.Test.YtcefidpmlnfheaaVSpec3
import Derived.Test.YtcefidpmlnfheaaWt2
import Derived.Test.YtcefidpmlnfheaaIter
set_option linter.all false
set_option linter.unusedSimpArgs false
set_option linter.unusedVariables false
set_option linter.unusedSectionVars false
namespace Go.Proofs.Ytcefidpmlnfheaa
open Go Go.Eng Go.Vfs Go.Maps
set_option maxRecDepth 100000

def anyR : Value → Option (DataW Unit × List MemPlace) := fun _ => some (.nil, [])

theorem owns_of_map {w : World} {m : Nat} {A : List (Str × Value)} (h : MapAt w m A) (hl : ∀ x ∈ A.map (·.1), x.length ≤ maxLen) (hs : A.length ≤ maxLen) :
    ∃ D : DataW Unit, w.ownsMap Try.prog 9 anyR m A.length D ∧ (strKeys D).Perm (A.map (·.1)) ∧ Maps.size D = A.length := by
  obtain ⟨es, clock, hb, he, hn, hborn, hclk⟩ := h
  have hlen : es.toList.length = A.length := by simpa using congrArg List.length he
  have hkeys : es.toList.map (·.key) = A.map (fun p => str p.1) := by
    have := congrArg (List.map Prod.fst) he
    simpa [List.map_map, Function.comp_def] using this
  have hrd : ∀ x ∈ es.toList, ∃ l : Str, x.key = str l ∧ l ∈ A.map (·.1) ∧ WideElems.rd Try.prog 9 anyR x = some (.string l, .nil) := by
    intro x hx
    have : x.key ∈ A.map (fun p => str p.1) := by rw [← hkeys]; exact List.mem_map_of_mem hx
    obtain ⟨p, hp, e⟩ := List.mem_map.1 this
    have hm : p.1 ∈ A.map (·.1) := List.mem_map_of_mem hp
    refine ⟨p.1, e.symm, hm, ?_⟩
    have hkm := WideMaps.keyOf_string_mk (P := Try.prog) (k := 9) (by kernel_rfl) (s := ofL p.1) (by rw [ofL_size]; exact hl _ hm)
    rw [ofL_data] at hkm
    unfold WideElems.rd
    rw [← e, hkm]
    rfl
  have hsz : es.size = A.length := by simpa using hlen
  refine ⟨.map ((es.toList.map (WideElems.rg Try.prog 9 anyR)).foldr DataW.insert []), ⟨es, clock, hb, ⟨by omega, ⟨hclk, hborn, ?_⟩, fun x hx => ?_⟩, by omega, rfl⟩, ?_, ?_⟩
  · rw [hkeys]
    have : (A.map (fun p => str p.1)) = (A.map (·.1)).map str := by rw [List.map_map]; rfl
    rw [this]
    refine List.Pairwise.map _ (fun a b hab e => hab ?_) hn
    exact str_inj.1 e
  · obtain ⟨l, _, _, hl⟩ := hrd x hx
    exact ⟨_, hl⟩
  · show (((es.toList.map (WideElems.rg Try.prog 9 anyR)).foldr DataW.insert []).map fun p => strOf p.1).Perm _
    refine ((WideShapes.sorted_perm _).map _).trans ?_
    rw [List.map_map]
    have : es.toList.map ((fun p : Lit × DataW Unit => strOf p.1) ∘ WideElems.rg Try.prog 9 anyR) = A.map (·.1) := by
      have h2 : (es.toList.map ((fun p : Lit × DataW Unit => strOf p.1) ∘ WideElems.rg Try.prog 9 anyR)).map str = (A.map (·.1)).map str := by
        rw [List.map_map, List.map_map]
        have h3 : es.toList.map (str ∘ ((fun p : Lit × DataW Unit => strOf p.1) ∘ WideElems.rg Try.prog 9 anyR)) = es.toList.map (·.key) := by
          refine List.map_congr_left fun x hx => ?_
          obtain ⟨l, h1, _, h3⟩ := hrd x hx
          simp only [Function.comp_apply, WideElems.rg_of h3, strOf]
          exact h1.symm
        rw [h3, hkeys]
        rfl
      exact (List.map_inj_right (fun a b e => str_inj.1 e)).1 h2
    rw [this]
  · show ((es.toList.map (WideElems.rg Try.prog 9 anyR)).foldr DataW.insert []).length = _
    rw [(WideShapes.sorted_perm _).length_eq, List.length_map, hlen]

theorem srt_sort {ss : List Str} {l : Files} (hp : ss.Perm (l.map (·.1))) (hs : Srt l) : ss.mergeSort (fun x y => decide (x ≤ y)) = l.map (·.1) := by
  have tr : ∀ a b c : List UInt8, decide (a ≤ b) = true → decide (b ≤ c) = true → decide (a ≤ c) = true := fun a b c h1 h2 => by simp only [decide_eq_true_eq] at *; exact List.le_trans h1 h2
  have to : ∀ a b : List UInt8, (decide (a ≤ b) || decide (b ≤ a)) = true := fun a b => by simp only [Bool.or_eq_true, decide_eq_true_eq]; exact List.le_total a b
  refine List.Perm.eq_of_pairwise (le := fun a b => decide (a ≤ b) = true) (fun a b _ _ h1 h2 => ?_) (List.pairwise_mergeSort tr to ss) (hs.imp fun {a b} h => ?_) ((List.mergeSort_perm ss _).trans hp)
  · simp only [decide_eq_true_eq] at h1 h2
    exact List.le_antisymm h1 h2
  · rw [Go.Proofs.bytesLess_eq, decide_eq_true_eq] at h
    exact decide_eq_true (List.le_of_lt h)

/-- (*FS).Paths -/
theorem paths_fs {b m : Nat} {s : MS} {w : World} {K : Value → World → Prop} (h : FsB w b m s) (hs : Ok s)
    (hK : ∀ v w', SlAt w' 9 v s.files.length (s.files.map fun x => str x.1) → Ext w w' → K v w') : callF Try.prog 14 [.pointer (some ⟨b, 0, none⟩)] w K := by
  have hb := h.blk
  refine W14_ok ?_
  unfold W14
  simp (disch := omega) only [Bool.and_true, Bool.and_false, Bool.true_and, Bool.false_and, Bool.or_true, Bool.or_false, Bool.true_or, Bool.false_or, put_nil, put_map, put_int, put_str, put_bool, put_ptr, put_slice, Nat.lt_add_one, Nat.zero_lt_succ, Nat.reduceLT, bin_add, bin_sub, bin_mul, bin_quo, bin_rem, bin_eql, bin_neq, bin_lss, bin_leq, bin_gtr, bin_geq, bin_sadd, bin_seq, bin_sne, bin_slt, bin_sgt, bin_sge, bin_sle, nil_ptr, fld_ptr, ld_one, ld_agg, st_int, st_bool, st_str, st_slice, st_ptr, st_map, st_agg, stc_nil, stc_cons, one_int, one_bool, one_str, one_slice, one_ptr, one_map, ext_tuple, ixa_slice, ixa_arr, ixs_str, lens_str, lenl_sl, un_not, un_neg, cvt_int, min_int, max_int, alloc_go, box_agg, box_int, box_bool, box_str, box_slice, box_ptr, box_map, bd_none, bd_some, sls_str, sll_sl, isB_t, isB_f, cond_true, cond_false, pick_t, pick_f, pick_or, pick_and, condW_true, condW_false, cellsAt, add_mk, cell_eq, cellO_some, frozen_eq, frO_zero, heap_set_same, heap_set_other, setO_some, heap_anew, heap_aold, heap_drew, size_drew, size_set, size_alloc, exists_eq_left', Option.some.injEq, true_and, and_true, Option.isSome_some, Option.map_some, List.getElem?_toArray, List.getElem?_cons_zero, List.getElem?_cons_succ, List.size_toArray, List.length_cons, List.length_nil, List.setIfInBounds_toArray, List.set_cons_zero, List.set_cons_succ, List.getD_cons_zero, List.getD_cons_succ, Nat.zero_add, Nat.add_zero, Nat.reduceAdd, Bool.not_true, Bool.not_false, ne_eq, not_true_eq_false, not_false_eq_true, reduceCtorEq, decide_true, decide_false, hb]
  obtain ⟨A, hA, hl, hf⟩ := h.fil
  have hperm : (A.map (·.1)).Perm (s.files.map (·.1)) := by
    refine (List.perm_ext_iff_of_nodup hA.nodup hs.srt.nodup).2 fun x => ?_
    rw [← alook_some, ((hf x).get).2]
    have := lk_none (l := s.files) (p := x)
    cases hx : lkM s.files x with
    | none => simp only [Option.isSome_none, Bool.false_eq_true, false_iff]; exact this.1 hx
    | some y => simp only [Option.isSome_some, true_iff]; exact List.mem_map_of_mem (lk_mem hx)
  have hgood : ∀ x ∈ A.map (·.1), x.length ≤ maxLen := by
    intro x hx
    obtain ⟨y, hy, rfl⟩ := List.mem_map.1 (hperm.mem_iff.1 hx)
    have := (hs.each y hy).1
    simp only [good, Bool.and_eq_true, decide_eq_true_eq] at this
    unfold maxLen; omega
  have h64 := hs.few
  obtain ⟨D, hD, hkeys, hsize⟩ := owns_of_map hA hgood (by unfold maxLen; omega)
  refine of_calls (args := #[.map (some m)]) Try.call33 ((callsIn_wide.1 (Try.maps_Keys_33 (some m) w)).mono ?_)
  rintro e w' ⟨rfl, rfl⟩
  refine ⟨_, rfl, ?_⟩
  refine of_calls (args := #[.func (.func 47) #[] #[.pointer (some ⟨w.heap.size, 0, none⟩)]]) Try.call32 ((callsIn_wide.1 (Try.slices_Sorted_keys_32_33 m _ D _ w hD (by unfold maxLen; omega) (by omega))).mono ?_)
  rintro e w' ⟨v, ss, rfl, hss, hown, hnil, hbel⟩
  refine ⟨_, rfl, ?_⟩
  have hsl := Own.sl hown
  have hp := (hss.trans hkeys).trans hperm
  rw [srt_sort hp hs.srt, hp.length_eq, List.length_map, List.map_map] at hsl
  exact hK _ _ hsl (Chg.trans (Chg.alloc (Chg.refl _ _) _) (Chg.of_below hbel))
end Go.Proofs.Ytcefidpmlnfheaa
