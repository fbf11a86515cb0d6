/- One plain sentence: contracts of the program's diff: the keys at which two objects differ, and the way it chooses. Conditions: those that each states. -/
import Derived.Test.YtonblcbpoilndaaGreatDoorVC6
set_option linter.all false
set_option linter.unusedSimpArgs false
set_option linter.unusedVariables false
set_option linter.unusedSectionVars false
namespace Go.Proofs.YtonblcbpoilndaaGreatDoor
open Go Go.Eng Go.Num
set_option maxRecDepth 100000
theorem getM_good {v : JV} (h : GoodV v) (k : Str) : plainM ((getM v k).getD JV.null) = true := by
  unfold getM
  split
  · split
    · rename_i i hi
      cases hx : v.xs[i]? with
      | none => rfl
      | some x => exact (h.item (List.mem_of_getElem? hx)).plain
    · rfl
  · rfl
theorem differs_eq {a b : JV} (ha : GoodV a) (hb : GoodV b) (k : Str) : differsM a b k = (!((getM a k).isSome == (getM b k).isSome) || !decide (cmpM ((getM a k).getD JV.null) ((getM b k).getD JV.null) = 0) || !knownM ((getM a k).getD JV.null)) := by
  unfold differsM
  have e := cmp_zero _ _ (getM_good ha k) (getM_good hb k)
  have e2 := same_iff ((getM a k).getD JV.null) ((getM b k).getD JV.null)
  by_cases h : (getM a k).getD JV.null = (getM b k).getD JV.null
  · rw [h] at e2 ⊢
    rw [e2.2 rfl, decide_eq_true ((cmp_zero _ _ (getM_good hb k) (getM_good hb k)).2 rfl)]
    simp
  · rw [decide_eq_false (fun x => h (e.1 x))]
    have : sameM ((getM a k).getD JV.null) ((getM b k).getD JV.null) = false := by
      cases hs : sameM ((getM a k).getD JV.null) ((getM b k).getD JV.null) with
      | false => rfl
      | true => exact absurd (e2.1 hs) h
    rw [this]
    simp
section
variable [HX]
theorem index_s {v f : Value} {T : TypeId} {l : List Str} {p : Str → Bool} {w : World} {K : Value → World → Prop} (h : SlAt w T v l.length (l.map str)) (hl : l.length ≤ 1000000)
    (hf : ∀ x ∈ l, ∀ {w : World} {K : Value → World → Prop}, K (.bool (p x)) w → callV Tryz.prog f [str x] w K)
    (hK : K (i64 (findI p l)) w) : callF Tryz.prog 79 [v, f] w K := by
  refine W79_ok ?_
  unfold W79
  rw [lenl_at h]
  refine loop_up l.length (fun i w' => w' = w ∧ (l.take i).any p = false) ⟨rfl, by simp⟩ ?_ ?_
  · rintro i w2 g L hi ⟨rfl, hno⟩ hL
    obtain ⟨x, hxi⟩ : ∃ x, l[i]? = some x := ⟨_, List.getElem?_eq_getElem hi⟩
    have hlt : ((i : Int) < (l.length : Int)) := by omega
    simp only [wsv, wsg, wsh, wsl, cond_true, cond_false, exists_eq_left', Option.some.injEq, Option.isSome_some, List.getElem?_toArray, List.getElem?_cons_zero, List.getElem?_cons_succ, List.length_cons, List.length_nil, List.set_cons_zero, List.set_cons_succ, List.getD_cons_zero, List.getD_cons_succ, Nat.zero_add, Nat.add_zero, Nat.reduceAdd, Nat.reduceLT, Nat.lt_add_one, Nat.zero_lt_succ, decide_true, decide_false, ne_eq, reduceCtorEq, hlt]
    refine text_ld h hxi ?_
    refine hf x (List.mem_of_getElem? hxi) ?_
    rw [condW_b]
    refine ⟨fun ht => ?_, fun hn => ?_⟩
    · have := hK
      unfold findI at this
      rw [findIdx_hit hno hxi ht] at this
      exact this
    · rw [up1 (by omega)]
      exact hL _ ⟨rfl, by rw [any_take hxi, hno, hn]; rfl⟩
  · rintro w2 g L ⟨rfl, hno⟩
    simp only [wsv, wsg, wsh, wsl, cond_true, cond_false, exists_eq_left', Option.some.injEq, Option.isSome_some, List.getElem?_toArray, List.getElem?_cons_zero, List.getElem?_cons_succ, List.length_cons, List.length_nil, List.set_cons_zero, List.set_cons_succ, List.getD_cons_zero, List.getD_cons_succ, Nat.zero_add, Nat.add_zero, Nat.reduceAdd, Nat.reduceLT, Nat.lt_add_one, Nat.zero_lt_succ, decide_true, decide_false, ne_eq, reduceCtorEq, Int.lt_irrefl]
    rw [List.take_length] at hno
    have := hK
    unfold findI at this
    rw [List.findIdx?_eq_none_iff.2 fun x hx => by simpa using List.any_eq_false.1 hno x hx] at this
    exact this
theorem contains_s {v f : Value} {T : TypeId} {l : List Str} {p : Str → Bool} {w : World} {K : Value → World → Prop} (h : SlAt w T v l.length (l.map str)) (hl : l.length ≤ 1000000)
    (hf : ∀ x ∈ l, ∀ {w : World} {K : Value → World → Prop}, K (.bool (p x)) w → callV Tryz.prog f [str x] w K)
    (hK : K (.bool (l.any p)) w) : callF Tryz.prog 40 [v, f] w K := by
  refine W40_ok ?_
  unfold W40
  refine index_s h hl hf ?_
  simp only [wsv, wsg, wsh, wsl, cond_true, cond_false, exists_eq_left', Option.some.injEq, Option.isSome_some, List.getElem?_toArray, List.getElem?_cons_zero, List.getElem?_cons_succ, List.length_cons, List.length_nil, List.set_cons_zero, List.set_cons_succ, List.getD_cons_zero, List.getD_cons_succ, Nat.zero_add, Nat.add_zero, Nat.reduceAdd, Nat.reduceLT, Nat.lt_add_one, Nat.zero_lt_succ, decide_true, decide_false, ne_eq, reduceCtorEq, findI_ge]
  exact hK
theorem isPre_forces (k : Str) : ([110, 101, 119, 95] : Str).isPrefixOf k = forcesM k := by
  unfold forcesM
  match k with
  | [] => rfl
  | [_] => simp [List.isPrefixOf]
  | [_, _] => simp [List.isPrefixOf]
  | [_, _, _] => simp [List.isPrefixOf]
  | a :: b :: c :: d :: r =>
    have hb : ∀ x y : UInt8, (x == y) = decide (y = x) := fun x y => by
      by_cases h : x = y
      · subst h; simp
      · rw [decide_eq_false (fun e => h e.symm)]; simpa using h
    simp [List.isPrefixOf, hb]
theorem forces_p {k : Str} {w : World} {K : Value → World → Prop} (hK : K (.bool (forcesM k)) w) : callF Tryz.prog 41 [str k] w K := by
  refine W41_ok ?_
  unfold W41
  refine of_calls (args := #[str k, str [110, 101, 119, 95]]) Tryz.call42 ((Tryz.strings_HasPrefix (ofL k) (ofL [110, 101, 119, 95]) w).mono ?_)
  rintro e w' ⟨rfl, rfl⟩
  refine ⟨_, rfl, ?_⟩
  rw [ofL_data, ofL_data]
  have : Lib.hasPrefix k [110, 101, 119, 95] = forcesM k := (isPre_forces k)
  rw [this]
  exact hK
theorem keys_p {a b : JV} {cs ds : List Value} {w : World} {K : Value → World → Prop} (h : VRep w a cs) (h' : VRep w b ds) (ka : a.k = 6) (kb : b.k = 6) (ga : GoodV a) (gb : GoodV b)
    (hK : ∀ v w', Ext w w' → SlAt w' ST v ((mrg a.ks b.ks).filter (differsM a b)).length (((mrg a.ks b.ks).filter (differsM a b)).map str) → K v w') : callF Tryz.prog 16 [.agg cs.toArray, .agg ds.toArray] w K := by
  obtain ⟨la1, la2, la3, la4, _⟩ := ga.lens
  obtain ⟨lb1, lb2, lb3, lb4, _⟩ := gb.lens
  have ra := keysOk_rise la4
  have rb := keysOk_rise lb4
  refine W16_ok ?_
  unfold W16
  refine box_val h fun x w1 sv kv hB hx _ => ?_
  refine box_val (h'.ext hx) fun y w2 sv' kv' hC hx2 _ => ?_
  have hB := hB.ext hx2
  have hx := hx.trans hx2
  clear hx2
  obtain ⟨Ta, hka⟩ := hB.keys
  obtain ⟨Tb, hkb⟩ := hC.keys
  obtain ⟨pa, qa, rfl, _⟩ := id hka
  obtain ⟨pb, qb, rfl, _⟩ := id hkb
  simp only [wsv, wsg, wsh, wsl, cond_true, cond_false, exists_eq_left', Option.some.injEq, Option.isSome_some, List.getElem?_toArray, List.getElem?_cons_zero, List.getElem?_cons_succ, List.length_cons, List.length_nil, List.set_cons_zero, List.set_cons_succ, List.getD_cons_zero, List.getD_cons_succ, Nat.zero_add, Nat.add_zero, Nat.reduceAdd, Nat.reduceLT, Nat.lt_add_one, Nat.zero_lt_succ, decide_true, decide_false, ne_eq, reduceCtorEq, wsh, hB.hb, hC.hb, ka, kb, not_true_eq_false]
  intros
  rw [bslW]
  simp only [wsv, wsg, wsh, wsl, cond_true, cond_false, exists_eq_left', Option.some.injEq, Option.isSome_some, List.getElem?_toArray, List.getElem?_cons_zero, List.getElem?_cons_succ, List.length_cons, List.length_nil, List.set_cons_zero, List.set_cons_succ, List.getD_cons_zero, List.getD_cons_succ, Nat.zero_add, Nat.add_zero, Nat.reduceAdd, Nat.reduceLT, Nat.lt_add_one, Nat.zero_lt_succ, decide_true, decide_false, ne_eq, reduceCtorEq]
  have hxa : Ext w2 (w2.alloc (.cells #[Value.slice pa a.ks.length qa, Value.slice pb b.ks.length qb] 33)) := Chg.alloc (Chg.refl _ _) _
  have hrow : SlAt (w2.alloc (.cells #[Value.slice pa a.ks.length qa, Value.slice pb b.ks.length qb] 33)) 33 (.slice (some ⟨w2.heap.size, 0, none⟩) 2 2) 2 [Value.slice pa a.ks.length qa, Value.slice pb b.ks.length qb] :=
    ⟨_, _, rfl, Nat.le_refl _, fun e => (by cases e), fun _ => ⟨_, _, _, _, rfl, heap_anew _ _ _ rfl, fun i _ => by rw [Nat.zero_add]; simp⟩⟩
  refine concat_p hrow (hka.ext hxa) (hkb.ext hxa) la2 lb2 fun v1 w6 hx6 hO6 => ?_
  refine sort_p hO6 (by rw [List.length_append]; omega) fun w7 hc7 hO7 => ?_
  have hO7' : Own w7 (w2.alloc (.cells #[Value.slice pa a.ks.length qa, Value.slice pb b.ks.length qb] 33)).heap.size ST 1 v1 ((a.ks ++ b.ks).mergeSort fun x y => decide (x ≤ y)).length (((a.ks ++ b.ks).mergeSort fun x y => decide (x ≤ y)).map str) := by
    rw [List.length_mergeSort]; exact hO7
  refine compact_p hO7' (by rw [List.length_mergeSort, List.length_append]; omega) fun v2 w8 hc8 hO8 => ?_
  rw [compact_merge ra rb] at hO8
  have hx7 : Ext w2 w7 := (hxa.trans hx6).then hc7 fun k hk e => by have := (hO6.block k e).1; have := hxa.size; omega
  have hx8 : Ext w2 w8 := hx7.then hc8 fun k hk e => by have := (hO6.block k e).1; have := hxa.size; omega
  have hm := hO8.sl
  have hmlen : (mrg a.ks b.ks).length ≤ 200000 := by
    have e := hO8.sl
    have : (Lib.compact ((a.ks ++ b.ks).mergeSort fun x y => decide (x ≤ y))).length ≤ ((a.ks ++ b.ks).mergeSort fun x y => decide (x ≤ y)).length := by
      unfold Lib.compact Lib.compactUpTo
      rw [List.length_map]
      exact Nat.le_trans (List.length_filter_le _ _) (by simp)
    rw [compact_merge ra rb, List.length_mergeSort, List.length_append] at this
    omega
  have hB := hB.ext hx8
  have hC := hC.ext hx8
  have hx := hx.trans hx8
  clear hO8 hc8 hx8 hO7' hc7 hO7 hx7 hO6 hx6 hrow hxa hka hkb
  generalize hml : mrg a.ks b.ks = m at *
  rw [lenl_at hm]
  refine ⟨fun s w' => ∃ (i : Nat) (v : Value), i ≤ m.length ∧ s = [v, i64 i] ∧ Ext w8 w' ∧ Own w' w8.heap.size ST 1 v ((m.take i).filter (differsM a b)).length (((m.take i).filter (differsM a b)).map str),
    fun s _ => match s with | [_, .int _ i] => m.length - i.toNat | _ => 0, ⟨0, _, Nat.zero_le _, rfl, Chg.refl _ _, ⟨by simp, .inl ⟨rfl, by simp⟩⟩⟩, ?_⟩
  rintro s g w9 ⟨i, v, hi, rfl, hx9, hO⟩
  rcases Nat.lt_or_ge i m.length with hlt | hge
  · obtain ⟨k, hk⟩ : ∃ k, m[i]? = some k := ⟨_, List.getElem?_eq_getElem hlt⟩
    have hltI : (i : Int) < (m.length : Int) := by omega
    have hB9 := hB.ext hx9
    have hC9 := hC.ext hx9
    have htk : (m.take (i + 1)).filter (differsM a b) = if differsM a b k then (m.take i).filter (differsM a b) ++ [k] else (m.take i).filter (differsM a b) := by
      rw [List.take_add_one, hk, Option.toList_some, List.filter_append]
      by_cases hd : differsM a b k = true <;> simp [List.filter, hd]
    have hflen : ((m.take i).filter (differsM a b)).length ≤ 200000 := Nat.le_trans (List.length_filter_le _ _) (by rw [List.length_take]; omega)
    simp only [List.getD_cons_zero, List.getD_cons_succ]
    rw [bin_lss, decide_eq_true hltI, condW_true]
    refine JoinW.cut (fun s w' => ∃ v', s = [v'] ∧ Ext w8 w' ∧ Own w' w8.heap.size ST 1 v' ((m.take (i + 1)).filter (differsM a b)).length (((m.take (i + 1)).filter (differsM a b)).map str)) ?_ ?_
    · refine text_ld (hm.ext hx9) hk ?_
      refine hB9.ld fun cs1 h1 => ?_
      refine get_p h1 ka (la3 ka) ga.few ra fun cs2 w3 hx3 h2 => ?_
      have hC3 := hC9.ext hx3
      have hx3' := hx9.trans hx3
      have hO3 := hO.ext hx3
      simp only [wsv, wsg, wsh, wsl, cond_true, cond_false, exists_eq_left', Option.some.injEq, Option.isSome_some, List.getElem?_toArray, List.getElem?_cons_zero, List.getElem?_cons_succ, List.length_cons, List.length_nil, List.set_cons_zero, List.set_cons_succ, List.getD_cons_zero, List.getD_cons_succ, Nat.zero_add, Nat.add_zero, Nat.reduceAdd, Nat.reduceLT, Nat.lt_add_one, Nat.zero_lt_succ, decide_true, decide_false, ne_eq, reduceCtorEq]
      refine copy_new h2 fun p w4 sp kp hP hx4 => ?_
      have hC4 := hC3.ext hx4
      have hx4' := hx3'.trans hx4
      have hO4 := hO3.ext hx4
      refine hC4.ld fun cs3 h3 => ?_
      refine get_p h3 kb (lb3 kb) gb.few rb fun cs4 w5 hx5 h4 => ?_
      have hP5 := hP.ext hx5
      have hx5' := hx4'.trans hx5
      have hO5 := hO4.ext hx5
      simp only [wsv, wsg, wsh, wsl, cond_true, cond_false, exists_eq_left', Option.some.injEq, Option.isSome_some, List.getElem?_toArray, List.getElem?_cons_zero, List.getElem?_cons_succ, List.length_cons, List.length_nil, List.set_cons_zero, List.set_cons_succ, List.getD_cons_zero, List.getD_cons_succ, Nat.zero_add, Nat.add_zero, Nat.reduceAdd, Nat.reduceLT, Nat.lt_add_one, Nat.zero_lt_succ, decide_true, decide_false, ne_eq, reduceCtorEq]
      refine copy_new h4 fun q w6 sq kq hQ hx6 => ?_
      have hP6 := hP5.ext hx6
      have hx6' := hx5'.trans hx6
      have hO6 := hO5.ext hx6
      have hd := differs_eq ga gb k
      generalize hu : (getM a k).getD JV.null = u at *
      generalize hv : (getM b k).getD JV.null = u' at *
      simp only [wsv, wsg, wsh, wsl, cond_true, cond_false, exists_eq_left', Option.some.injEq, Option.isSome_some, List.getElem?_toArray, List.getElem?_cons_zero, List.getElem?_cons_succ, List.length_cons, List.length_nil, List.set_cons_zero, List.set_cons_succ, List.getD_cons_zero, List.getD_cons_succ, Nat.zero_add, Nat.add_zero, Nat.reduceAdd, Nat.reduceLT, Nat.lt_add_one, Nat.zero_lt_succ, decide_true, decide_false, ne_eq, reduceCtorEq, ne_bb]
      refine GdW.act (!decide (cmpM u u' = 0)) (fun w' => Ext w6 w') (fun _ => Chg.refl _ _) ?_ ?_
      · intro hc J hJ
        refine hP6.ld fun cs5 h5 => ?_
        refine hQ.ld fun cs6 h6 => ?_
        refine equal_p h5 h6 fun w7 hx7 => ?_
        simp only [wsv, wsg, wsh, wsl, cond_true, cond_false, exists_eq_left', Option.some.injEq, Option.isSome_some, List.getElem?_toArray, List.getElem?_cons_zero, List.getElem?_cons_succ, List.length_cons, List.length_nil, List.set_cons_zero, List.set_cons_succ, List.getD_cons_zero, List.getD_cons_succ, Nat.zero_add, Nat.add_zero, Nat.reduceAdd, Nat.reduceLT, Nat.lt_add_one, Nat.zero_lt_succ, decide_true, decide_false, ne_eq, reduceCtorEq]
        exact hJ w7 hx7
      intro g w7 hx7
      have hP7 := hP6.ext hx7
      have hx7' := hx6'.trans hx7
      have hO7 := hO6.ext hx7
      simp only [wsv, wsg, wsh, wsl, cond_true, cond_false, exists_eq_left', Option.some.injEq, Option.isSome_some, List.getElem?_toArray, List.getElem?_cons_zero, List.getElem?_cons_succ, List.length_cons, List.length_nil, List.set_cons_zero, List.set_cons_succ, List.getD_cons_zero, List.getD_cons_succ, Nat.zero_add, Nat.add_zero, Nat.reduceAdd, Nat.reduceLT, Nat.lt_add_one, Nat.zero_lt_succ, decide_true, decide_false, ne_eq, reduceCtorEq]
      refine GdW.act (!knownM u) (fun w' => Ext w7 w') (fun _ => Chg.refl _ _) ?_ ?_
      · intro hc J hJ
        refine hP7.ld fun cs5 h5 => ?_
        refine known_p u h5 fun w10 hx10 => ?_
        simp only [wsv, wsg, wsh, wsl, cond_true, cond_false, exists_eq_left', Option.some.injEq, Option.isSome_some, List.getElem?_toArray, List.getElem?_cons_zero, List.getElem?_cons_succ, List.length_cons, List.length_nil, List.set_cons_zero, List.set_cons_succ, List.getD_cons_zero, List.getD_cons_succ, Nat.zero_add, Nat.add_zero, Nat.reduceAdd, Nat.reduceLT, Nat.lt_add_one, Nat.zero_lt_succ, decide_true, decide_false, ne_eq, reduceCtorEq]
        exact hJ w10 hx10
      intro g w10 hx10
      have hx10' := hx7'.trans hx10
      have hO10 := hO7.ext hx10
      simp only [wsv, wsg, wsh, wsl, cond_true, cond_false, exists_eq_left', Option.some.injEq, Option.isSome_some, List.getElem?_toArray, List.getElem?_cons_zero, List.getElem?_cons_succ, List.length_cons, List.length_nil, List.set_cons_zero, List.set_cons_succ, List.getD_cons_zero, List.getD_cons_succ, Nat.zero_add, Nat.add_zero, Nat.reduceAdd, Nat.reduceLT, Nat.lt_add_one, Nat.zero_lt_succ, decide_true, decide_false, ne_eq, reduceCtorEq]
      rw [← hd, condW_b]
      refine ⟨fun hd1 => ?_, fun hd0 => ?_⟩
      · refine row_s fun t6 w11 ht6 hx11 => ?_
        have hO11 := hO10.ext hx11
        have hx11' := hx10'.trans hx11
        refine append_own2 elem_s hO11 ht6 (m := 1) rfl (fun u hu => by simp only [List.mem_singleton] at hu; subst hu; rfl) (by omega) (by omega) hx11'.size fun v' w' h' hc _ => ?_
        refine ⟨v', rfl, hx11'.then hc fun k hk e => ?_, ?_⟩
        · have := (own_ge hO11 e).1; omega
        · rw [htk, if_pos hd1]; simpa using h'
      · refine ⟨v, rfl, hx10', ?_⟩
        rw [htk, if_neg (by rw [hd0]; simp)]
        exact hO10
    · rintro s gd w5 ⟨v5, rfl, hx5, hO5⟩
      simp only [List.getD_cons_zero, List.getD_cons_succ]
      rw [bin_add, up1 (by omega)]
      exact ⟨⟨i + 1, v5, hlt, rfl, hx5, hO5⟩, by simp only [Int.toNat_natCast]; omega⟩
  · obtain rfl : i = m.length := by omega
    simp only [List.getD_cons_zero, List.getD_cons_succ]
    rw [bin_lss, decide_eq_false (by omega), condW_false]
    rw [List.take_length] at hO
    exact hK _ w9 (hx.trans hx9) hO.sl
theorem choose_p {there swap : Bool} {a b : JV} {cs ds : List Value} {w : World} {K : Value → World → Prop} (h : VRep w a cs) (h' : VRep w b ds) (ka : a.k = 6) (kb : b.k = 6) (ga : GoodV a) (gb : GoodV b)
    (hml : ((mrg a.ks b.ks).filter (differsM a b)).length ≤ 1000000)
    (hK : ∀ w', Ext w w' → K (i64 (chooseM there ((mrg a.ks b.ks).filter (differsM a b)) swap)) w') : callF Tryz.prog 14 [.bool there, .agg cs.toArray, .agg ds.toArray, .bool swap] w K := by
  refine W14_ok ?_
  unfold W14
  refine box_val h fun x w1 sv kv hB hx _ => ?_
  refine box_val (h'.ext hx) fun y w2 sv' kv' hC hx2 _ => ?_
  have hB := hB.ext hx2
  have hx := hx.trans hx2
  clear hx2
  simp only [wsv, wsg, wsh, wsl, cond_true, cond_false, exists_eq_left', Option.some.injEq, Option.isSome_some, List.getElem?_toArray, List.getElem?_cons_zero, List.getElem?_cons_succ, List.length_cons, List.length_nil, List.set_cons_zero, List.set_cons_succ, List.getD_cons_zero, List.getD_cons_succ, Nat.zero_add, Nat.add_zero, Nat.reduceAdd, Nat.reduceLT, Nat.lt_add_one, Nat.zero_lt_succ, decide_true, decide_false, ne_eq, reduceCtorEq, condW_b]
  refine ⟨fun hn => ?_, fun hy => ?_⟩
  · have : there = false := by simpa using hn
    subst this
    exact hK w2 hx
  · have : there = true := by simpa using hy
    subst this
    refine hB.ld fun cs1 h1 => ?_
    refine hC.ld fun cs2 h2 => ?_
    refine keys_p h1 h2 ka kb ga gb fun v w3 hx3 hs => ?_
    generalize (mrg a.ks b.ks).filter (differsM a b) = l at *
    rw [lenl_at hs]
    simp only [wsv, wsg, wsh, wsl, cond_true, cond_false, exists_eq_left', Option.some.injEq, Option.isSome_some, List.getElem?_toArray, List.getElem?_cons_zero, List.getElem?_cons_succ, List.length_cons, List.length_nil, List.set_cons_zero, List.set_cons_succ, List.getD_cons_zero, List.getD_cons_succ, Nat.zero_add, Nat.add_zero, Nat.reduceAdd, Nat.reduceLT, Nat.lt_add_one, Nat.zero_lt_succ, decide_true, decide_false, ne_eq, reduceCtorEq, condW_dec]
    refine ⟨fun h0 => ?_, fun hne => ?_⟩
    · have : l = [] := List.eq_nil_of_length_eq_zero (by omega)
      subst this
      exact hK w3 (hx.trans hx3)
    · have hne : l ≠ [] := by rintro rfl; simp at hne
      refine contains_s (p := forcesM) hs hml (fun u _ => fun {w} {K} hK => callV_fn (forces_p hK)) ?_
      have := hK w3 (hx.trans hx3)
      unfold chooseM at this
      rw [if_pos rfl, if_neg hne] at this
      simp only [wsv, wsg, wsh, wsl, cond_true, cond_false, exists_eq_left', Option.some.injEq, Option.isSome_some, List.getElem?_toArray, List.getElem?_cons_zero, List.getElem?_cons_succ, List.length_cons, List.length_nil, List.set_cons_zero, List.set_cons_succ, List.getD_cons_zero, List.getD_cons_succ, Nat.zero_add, Nat.add_zero, Nat.reduceAdd, Nat.reduceLT, Nat.lt_add_one, Nat.zero_lt_succ, decide_true, decide_false, ne_eq, reduceCtorEq]
      cases hf : l.any forcesM with
      | false =>
        rw [hf, if_neg (by simp)] at this
        simp only [wsv, wsg, wsh, wsl, cond_true, cond_false, exists_eq_left', Option.some.injEq, Option.isSome_some, List.getElem?_toArray, List.getElem?_cons_zero, List.getElem?_cons_succ, List.length_cons, List.length_nil, List.set_cons_zero, List.set_cons_succ, List.getD_cons_zero, List.getD_cons_succ, Nat.zero_add, Nat.add_zero, Nat.reduceAdd, Nat.reduceLT, Nat.lt_add_one, Nat.zero_lt_succ, decide_true, decide_false, ne_eq, reduceCtorEq]
        exact this
      | true =>
        rw [hf, if_pos rfl] at this
        cases swap with
        | false => simp only [wsv, wsg, wsh, wsl, cond_true, cond_false, exists_eq_left', Option.some.injEq, Option.isSome_some, List.getElem?_toArray, List.getElem?_cons_zero, List.getElem?_cons_succ, List.length_cons, List.length_nil, List.set_cons_zero, List.set_cons_succ, List.getD_cons_zero, List.getD_cons_succ, Nat.zero_add, Nat.add_zero, Nat.reduceAdd, Nat.reduceLT, Nat.lt_add_one, Nat.zero_lt_succ, decide_true, decide_false, ne_eq, reduceCtorEq]; exact ⟨fun e => (by cases e), fun _ => this⟩
        | true => simp only [wsv, wsg, wsh, wsl, cond_true, cond_false, exists_eq_left', Option.some.injEq, Option.isSome_some, List.getElem?_toArray, List.getElem?_cons_zero, List.getElem?_cons_succ, List.length_cons, List.length_nil, List.set_cons_zero, List.set_cons_succ, List.getD_cons_zero, List.getD_cons_succ, Nat.zero_add, Nat.add_zero, Nat.reduceAdd, Nat.reduceLT, Nat.lt_add_one, Nat.zero_lt_succ, decide_true, decide_false, ne_eq, reduceCtorEq]; exact ⟨fun _ => this, fun e => (by cases e)⟩
end
end Go.Proofs.YtonblcbpoilndaaGreatDoor
