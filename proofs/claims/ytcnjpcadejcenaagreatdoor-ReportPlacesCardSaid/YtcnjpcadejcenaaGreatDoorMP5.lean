/- One plain sentence: weakest preconditions, contracts and plain laws that the claim rests on, text behind text. Conditions: those that each states. -/
import Derived.Test.YtcnjpcadejcenaaGreatDoorMP4
import Derived.Lib.ValidU
import Derived.Test.YtcnjpcadejcenaaGreatDoorMP2
import Derived.Test.YtcnjpcadejcenaaGreatDoorMP1
import Derived.Deep.Slices
import Derived.DataReads
import Derived.ChangeArms
import Derived.OpenShut
import Derived.Test.YtcnjpcadejcenaaGreatDoorRows
import Derived.Below
import Derived.RowKit
import Derived.ChangeMaps5
import Derived.MakeChecks
import Derived.Lib.LaidU8T
import Derived.Lib.LaidTab
import Derived.Lib.ItoaNum
set_option linter.all false
set_option linter.unusedSimpArgs false
set_option linter.unusedVariables false
set_option linter.unusedSectionVars false
namespace Go.Proofs.YtcnjpcadejcenaaGreatDoor
open Go Go.Eng Go.Num
set_option maxRecDepth 100000
theorem getM_good {v : JV} (h : GoodV v) (k : Str) : plainM ((getM v k).getD JV.null) = true := by
  unfold getM
  split
  · split
    · rename_i i hi
      cases hx : v.xs[i]? with
      | none => rfl
      | some x => exact (h.item (List.mem_of_getElem? hx)).plain
    · rfl
  · rfl
theorem differs_eq {a b : JV} (ha : GoodV a) (hb : GoodV b) (k : Str) : differsM a b k = (!((getM a k).isSome == (getM b k).isSome) || !decide (cmpM ((getM a k).getD JV.null) ((getM b k).getD JV.null) = 0) || !knownM ((getM a k).getD JV.null)) := by
  unfold differsM
  have e := cmp_zero _ _ (getM_good ha k) (getM_good hb k)
  have e2 := same_iff ((getM a k).getD JV.null) ((getM b k).getD JV.null)
  by_cases h : (getM a k).getD JV.null = (getM b k).getD JV.null
  · rw [h] at e2 ⊢
    rw [e2.2 rfl, decide_eq_true ((cmp_zero _ _ (getM_good hb k) (getM_good hb k)).2 rfl)]
    simp
  · rw [decide_eq_false (fun x => h (e.1 x))]
    have : sameM ((getM a k).getD JV.null) ((getM b k).getD JV.null) = false := by
      cases hs : sameM ((getM a k).getD JV.null) ((getM b k).getD JV.null) with
      | false => rfl
      | true => exact absurd (e2.1 hs) h
    rw [this]
    simp
section
variable [HX]
theorem index_s {v f : Value} {T : TypeId} {l : List Str} {p : Str → Bool} {w : World} {K : Value → World → Prop} (h : SlAt w T v l.length (l.map str)) (hl : l.length ≤ 1000000)
    (hf : ∀ x ∈ l, ∀ {w : World} {K : Value → World → Prop}, K (.bool (p x)) w → callV Tryz.prog f [str x] w K)
    (hK : K (i64 (findI p l)) w) : callF Tryz.prog 136 [v, f] w K := by
  refine W136_ok ?_
  unfold W136
  rw [lenl_at h]
  refine loop_up l.length (fun i w' => w' = w ∧ (l.take i).any p = false) ⟨rfl, by simp⟩ ?_ ?_
  · rintro i w2 g L hi ⟨rfl, hno⟩ hL
    obtain ⟨x, hxi⟩ : ∃ x, l[i]? = some x := ⟨_, List.getElem?_eq_getElem hi⟩
    have hlt : ((i : Int) < (l.length : Int)) := by omega
    simp only [wsv, wsg, wsh, wsl, cond_true, cond_false, exists_eq_left', Option.some.injEq, Option.isSome_some, List.getElem?_toArray, List.getElem?_cons_zero, List.getElem?_cons_succ, List.length_cons, List.length_nil, List.set_cons_zero, List.set_cons_succ, List.getD_cons_zero, List.getD_cons_succ, Nat.zero_add, Nat.add_zero, Nat.reduceAdd, Nat.reduceLT, Nat.lt_add_one, Nat.zero_lt_succ, decide_true, decide_false, ne_eq, reduceCtorEq, hlt]
    refine text_ld h hxi ?_
    refine hf x (List.mem_of_getElem? hxi) ?_
    rw [condW_b]
    refine ⟨fun ht => ?_, fun hn => ?_⟩
    · have := hK
      unfold findI at this
      rw [findIdx_hit hno hxi ht] at this
      exact this
    · rw [up1 (by omega)]
      exact hL _ ⟨rfl, by rw [any_take hxi, hno, hn]; rfl⟩
  · rintro w2 g L ⟨rfl, hno⟩
    simp only [wsv, wsg, wsh, wsl, cond_true, cond_false, exists_eq_left', Option.some.injEq, Option.isSome_some, List.getElem?_toArray, List.getElem?_cons_zero, List.getElem?_cons_succ, List.length_cons, List.length_nil, List.set_cons_zero, List.set_cons_succ, List.getD_cons_zero, List.getD_cons_succ, Nat.zero_add, Nat.add_zero, Nat.reduceAdd, Nat.reduceLT, Nat.lt_add_one, Nat.zero_lt_succ, decide_true, decide_false, ne_eq, reduceCtorEq, Int.lt_irrefl]
    rw [List.take_length] at hno
    have := hK
    unfold findI at this
    rw [List.findIdx?_eq_none_iff.2 fun x hx => by simpa using List.any_eq_false.1 hno x hx] at this
    exact this
theorem contains_s {v f : Value} {T : TypeId} {l : List Str} {p : Str → Bool} {w : World} {K : Value → World → Prop} (h : SlAt w T v l.length (l.map str)) (hl : l.length ≤ 1000000)
    (hf : ∀ x ∈ l, ∀ {w : World} {K : Value → World → Prop}, K (.bool (p x)) w → callV Tryz.prog f [str x] w K)
    (hK : K (.bool (l.any p)) w) : callF Tryz.prog 76 [v, f] w K := by
  refine W76_ok ?_
  unfold W76
  refine index_s h hl hf ?_
  simp only [wsv, wsg, wsh, wsl, cond_true, cond_false, exists_eq_left', Option.some.injEq, Option.isSome_some, List.getElem?_toArray, List.getElem?_cons_zero, List.getElem?_cons_succ, List.length_cons, List.length_nil, List.set_cons_zero, List.set_cons_succ, List.getD_cons_zero, List.getD_cons_succ, Nat.zero_add, Nat.add_zero, Nat.reduceAdd, Nat.reduceLT, Nat.lt_add_one, Nat.zero_lt_succ, decide_true, decide_false, ne_eq, reduceCtorEq, findI_ge]
  exact hK
theorem isPre_forces (k : Str) : ([110, 101, 119, 95] : Str).isPrefixOf k = forcesM k := by
  unfold forcesM
  match k with
  | [] => rfl
  | [_] => simp [List.isPrefixOf]
  | [_, _] => simp [List.isPrefixOf]
  | [_, _, _] => simp [List.isPrefixOf]
  | a :: b :: c :: d :: r =>
    have hb : ∀ x y : UInt8, (x == y) = decide (y = x) := fun x y => by
      by_cases h : x = y
      · subst h; simp
      · rw [decide_eq_false (fun e => h e.symm)]; simpa using h
    simp [List.isPrefixOf, hb]
theorem keys_p {a b : JV} {cs ds : List Value} {w : World} {K : Value → World → Prop} (h : VRep w a cs) (h' : VRep w b ds) (ka : a.k = 6) (kb : b.k = 6) (ga : GoodV a) (gb : GoodV b)
    (hK : ∀ v w', Ext w w' → SlAt w' ST v ((mrg a.ks b.ks).filter (differsM a b)).length (((mrg a.ks b.ks).filter (differsM a b)).map str) → K v w') : callF Tryz.prog 124 [.agg cs.toArray, .agg ds.toArray] w K := by
  obtain ⟨la1, la2, la3, la4, _⟩ := ga.lens
  obtain ⟨lb1, lb2, lb3, lb4, _⟩ := gb.lens
  have ra := keysOk_rise la4
  have rb := keysOk_rise lb4
  refine W124_ok ?_
  unfold W124
  refine box_val h fun x w1 sv kv hB hx _ => ?_
  refine box_val (h'.ext hx) fun y w2 sv' kv' hC hx2 _ => ?_
  have hB := hB.ext hx2
  have hx := hx.trans hx2
  clear hx2
  obtain ⟨Ta, hka⟩ := hB.keys
  obtain ⟨Tb, hkb⟩ := hC.keys
  obtain ⟨pa, qa, rfl, _⟩ := id hka
  obtain ⟨pb, qb, rfl, _⟩ := id hkb
  simp only [wsv, wsg, wsh, wsl, cond_true, cond_false, exists_eq_left', Option.some.injEq, Option.isSome_some, List.getElem?_toArray, List.getElem?_cons_zero, List.getElem?_cons_succ, List.length_cons, List.length_nil, List.set_cons_zero, List.set_cons_succ, List.getD_cons_zero, List.getD_cons_succ, Nat.zero_add, Nat.add_zero, Nat.reduceAdd, Nat.reduceLT, Nat.lt_add_one, Nat.zero_lt_succ, decide_true, decide_false, ne_eq, reduceCtorEq, wsh, hB.hb, hC.hb, ka, kb, not_true_eq_false]
  intros
  rw [bslW]
  simp only [wsv, wsg, wsh, wsl, cond_true, cond_false, exists_eq_left', Option.some.injEq, Option.isSome_some, List.getElem?_toArray, List.getElem?_cons_zero, List.getElem?_cons_succ, List.length_cons, List.length_nil, List.set_cons_zero, List.set_cons_succ, List.getD_cons_zero, List.getD_cons_succ, Nat.zero_add, Nat.add_zero, Nat.reduceAdd, Nat.reduceLT, Nat.lt_add_one, Nat.zero_lt_succ, decide_true, decide_false, ne_eq, reduceCtorEq]
  have hxa : Ext w2 (w2.alloc (.cells #[Value.slice pa a.ks.length qa, Value.slice pb b.ks.length qb] 24)) := Chg.alloc (Chg.refl _ _) _
  have hrow : SlAt (w2.alloc (.cells #[Value.slice pa a.ks.length qa, Value.slice pb b.ks.length qb] 24)) 24 (.slice (some ⟨w2.heap.size, 0, none⟩) 2 2) 2 [Value.slice pa a.ks.length qa, Value.slice pb b.ks.length qb] :=
    ⟨_, _, rfl, Nat.le_refl _, fun e => (by cases e), fun _ => ⟨_, _, _, _, rfl, heap_anew _ _ _ rfl, fun i _ => by rw [Nat.zero_add]; simp⟩⟩
  refine concat_p hrow (hka.ext hxa) (hkb.ext hxa) la2 lb2 fun v1 w6 hx6 hO6 => ?_
  refine sort_p hO6 (by rw [List.length_append]; omega) fun w7 hc7 hO7 => ?_
  have hO7' : Own w7 (w2.alloc (.cells #[Value.slice pa a.ks.length qa, Value.slice pb b.ks.length qb] 24)).heap.size ST 1 v1 ((a.ks ++ b.ks).mergeSort fun x y => decide (x ≤ y)).length (((a.ks ++ b.ks).mergeSort fun x y => decide (x ≤ y)).map str) := by
    rw [List.length_mergeSort]; exact hO7
  refine compact_p hO7' (by rw [List.length_mergeSort, List.length_append]; omega) fun v2 w8 hc8 hO8 => ?_
  rw [compact_merge ra rb] at hO8
  have hx7 : Ext w2 w7 := (hxa.trans hx6).then hc7 fun k hk e => by have := (hO6.block k e).1; have := hxa.size; omega
  have hx8 : Ext w2 w8 := hx7.then hc8 fun k hk e => by have := (hO6.block k e).1; have := hxa.size; omega
  have hm := hO8.sl
  have hmlen : (mrg a.ks b.ks).length ≤ 200000 := by
    have e := hO8.sl
    have : (Lib.compact ((a.ks ++ b.ks).mergeSort fun x y => decide (x ≤ y))).length ≤ ((a.ks ++ b.ks).mergeSort fun x y => decide (x ≤ y)).length := by
      unfold Lib.compact Lib.compactUpTo
      rw [List.length_map]
      exact Nat.le_trans (List.length_filter_le _ _) (by simp)
    rw [compact_merge ra rb, List.length_mergeSort, List.length_append] at this
    omega
  have hB := hB.ext hx8
  have hC := hC.ext hx8
  have hx := hx.trans hx8
  clear hO8 hc8 hx8 hO7' hc7 hO7 hx7 hO6 hx6 hrow hxa hka hkb
  generalize hml : mrg a.ks b.ks = m at *
  rw [lenl_at hm]
  refine ⟨fun s w' => ∃ (i : Nat) (v : Value), i ≤ m.length ∧ s = [v, i64 i] ∧ Ext w8 w' ∧ Own w' w8.heap.size ST 1 v ((m.take i).filter (differsM a b)).length (((m.take i).filter (differsM a b)).map str),
    fun s _ => match s with | [_, .int _ i] => m.length - i.toNat | _ => 0, ⟨0, _, Nat.zero_le _, rfl, Chg.refl _ _, ⟨by simp, .inl ⟨rfl, by simp⟩⟩⟩, ?_⟩
  rintro s g w9 ⟨i, v, hi, rfl, hx9, hO⟩
  rcases Nat.lt_or_ge i m.length with hlt | hge
  · obtain ⟨k, hk⟩ : ∃ k, m[i]? = some k := ⟨_, List.getElem?_eq_getElem hlt⟩
    have hltI : (i : Int) < (m.length : Int) := by omega
    have hB9 := hB.ext hx9
    have hC9 := hC.ext hx9
    have htk : (m.take (i + 1)).filter (differsM a b) = if differsM a b k then (m.take i).filter (differsM a b) ++ [k] else (m.take i).filter (differsM a b) := by
      rw [List.take_add_one, hk, Option.toList_some, List.filter_append]
      by_cases hd : differsM a b k = true <;> simp [List.filter, hd]
    have hflen : ((m.take i).filter (differsM a b)).length ≤ 200000 := Nat.le_trans (List.length_filter_le _ _) (by rw [List.length_take]; omega)
    simp only [List.getD_cons_zero, List.getD_cons_succ]
    rw [bin_lss, decide_eq_true hltI, condW_true]
    refine JoinW.cut (fun s w' => ∃ v', s = [v'] ∧ Ext w8 w' ∧ Own w' w8.heap.size ST 1 v' ((m.take (i + 1)).filter (differsM a b)).length (((m.take (i + 1)).filter (differsM a b)).map str)) ?_ ?_
    · refine text_ld (hm.ext hx9) hk ?_
      refine hB9.ld fun cs1 h1 => ?_
      refine get_p h1 ka (la3 ka) ga.few ra fun cs2 w3 hx3 h2 => ?_
      have hC3 := hC9.ext hx3
      have hx3' := hx9.trans hx3
      have hO3 := hO.ext hx3
      simp only [wsv, wsg, wsh, wsl, cond_true, cond_false, exists_eq_left', Option.some.injEq, Option.isSome_some, List.getElem?_toArray, List.getElem?_cons_zero, List.getElem?_cons_succ, List.length_cons, List.length_nil, List.set_cons_zero, List.set_cons_succ, List.getD_cons_zero, List.getD_cons_succ, Nat.zero_add, Nat.add_zero, Nat.reduceAdd, Nat.reduceLT, Nat.lt_add_one, Nat.zero_lt_succ, decide_true, decide_false, ne_eq, reduceCtorEq]
      refine copy_new h2 fun p w4 sp kp hP hx4 => ?_
      have hC4 := hC3.ext hx4
      have hx4' := hx3'.trans hx4
      have hO4 := hO3.ext hx4
      refine hC4.ld fun cs3 h3 => ?_
      refine get_p h3 kb (lb3 kb) gb.few rb fun cs4 w5 hx5 h4 => ?_
      have hP5 := hP.ext hx5
      have hx5' := hx4'.trans hx5
      have hO5 := hO4.ext hx5
      simp only [wsv, wsg, wsh, wsl, cond_true, cond_false, exists_eq_left', Option.some.injEq, Option.isSome_some, List.getElem?_toArray, List.getElem?_cons_zero, List.getElem?_cons_succ, List.length_cons, List.length_nil, List.set_cons_zero, List.set_cons_succ, List.getD_cons_zero, List.getD_cons_succ, Nat.zero_add, Nat.add_zero, Nat.reduceAdd, Nat.reduceLT, Nat.lt_add_one, Nat.zero_lt_succ, decide_true, decide_false, ne_eq, reduceCtorEq]
      refine copy_new h4 fun q w6 sq kq hQ hx6 => ?_
      have hP6 := hP5.ext hx6
      have hx6' := hx5'.trans hx6
      have hO6 := hO5.ext hx6
      have hd := differs_eq ga gb k
      generalize hu : (getM a k).getD JV.null = u at *
      generalize hv : (getM b k).getD JV.null = u' at *
      simp only [wsv, wsg, wsh, wsl, cond_true, cond_false, exists_eq_left', Option.some.injEq, Option.isSome_some, List.getElem?_toArray, List.getElem?_cons_zero, List.getElem?_cons_succ, List.length_cons, List.length_nil, List.set_cons_zero, List.set_cons_succ, List.getD_cons_zero, List.getD_cons_succ, Nat.zero_add, Nat.add_zero, Nat.reduceAdd, Nat.reduceLT, Nat.lt_add_one, Nat.zero_lt_succ, decide_true, decide_false, ne_eq, reduceCtorEq, ne_bb]
      refine GdW.act (!decide (cmpM u u' = 0)) (fun w' => Ext w6 w') (fun _ => Chg.refl _ _) ?_ ?_
      · intro hc J hJ
        refine hP6.ld fun cs5 h5 => ?_
        refine hQ.ld fun cs6 h6 => ?_
        refine equal_p h5 h6 fun w7 hx7 => ?_
        simp only [wsv, wsg, wsh, wsl, cond_true, cond_false, exists_eq_left', Option.some.injEq, Option.isSome_some, List.getElem?_toArray, List.getElem?_cons_zero, List.getElem?_cons_succ, List.length_cons, List.length_nil, List.set_cons_zero, List.set_cons_succ, List.getD_cons_zero, List.getD_cons_succ, Nat.zero_add, Nat.add_zero, Nat.reduceAdd, Nat.reduceLT, Nat.lt_add_one, Nat.zero_lt_succ, decide_true, decide_false, ne_eq, reduceCtorEq]
        exact hJ w7 hx7
      intro g w7 hx7
      have hP7 := hP6.ext hx7
      have hx7' := hx6'.trans hx7
      have hO7 := hO6.ext hx7
      simp only [wsv, wsg, wsh, wsl, cond_true, cond_false, exists_eq_left', Option.some.injEq, Option.isSome_some, List.getElem?_toArray, List.getElem?_cons_zero, List.getElem?_cons_succ, List.length_cons, List.length_nil, List.set_cons_zero, List.set_cons_succ, List.getD_cons_zero, List.getD_cons_succ, Nat.zero_add, Nat.add_zero, Nat.reduceAdd, Nat.reduceLT, Nat.lt_add_one, Nat.zero_lt_succ, decide_true, decide_false, ne_eq, reduceCtorEq]
      refine GdW.act (!knownM u) (fun w' => Ext w7 w') (fun _ => Chg.refl _ _) ?_ ?_
      · intro hc J hJ
        refine hP7.ld fun cs5 h5 => ?_
        refine known_p u h5 fun w10 hx10 => ?_
        simp only [wsv, wsg, wsh, wsl, cond_true, cond_false, exists_eq_left', Option.some.injEq, Option.isSome_some, List.getElem?_toArray, List.getElem?_cons_zero, List.getElem?_cons_succ, List.length_cons, List.length_nil, List.set_cons_zero, List.set_cons_succ, List.getD_cons_zero, List.getD_cons_succ, Nat.zero_add, Nat.add_zero, Nat.reduceAdd, Nat.reduceLT, Nat.lt_add_one, Nat.zero_lt_succ, decide_true, decide_false, ne_eq, reduceCtorEq]
        exact hJ w10 hx10
      intro g w10 hx10
      have hx10' := hx7'.trans hx10
      have hO10 := hO7.ext hx10
      simp only [wsv, wsg, wsh, wsl, cond_true, cond_false, exists_eq_left', Option.some.injEq, Option.isSome_some, List.getElem?_toArray, List.getElem?_cons_zero, List.getElem?_cons_succ, List.length_cons, List.length_nil, List.set_cons_zero, List.set_cons_succ, List.getD_cons_zero, List.getD_cons_succ, Nat.zero_add, Nat.add_zero, Nat.reduceAdd, Nat.reduceLT, Nat.lt_add_one, Nat.zero_lt_succ, decide_true, decide_false, ne_eq, reduceCtorEq]
      rw [← hd, condW_b]
      refine ⟨fun hd1 => ?_, fun hd0 => ?_⟩
      · refine row_s fun t6 w11 ht6 hx11 => ?_
        have hO11 := hO10.ext hx11
        have hx11' := hx10'.trans hx11
        refine append_own2 elem_s hO11 ht6 (m := 1) rfl (fun u hu => by simp only [List.mem_singleton] at hu; subst hu; rfl) (by omega) (by omega) hx11'.size fun v' w' h' hc _ => ?_
        refine ⟨v', rfl, hx11'.then hc fun k hk e => ?_, ?_⟩
        · have := (own_ge hO11 e).1; omega
        · rw [htk, if_pos hd1]; simpa using h'
      · refine ⟨v, rfl, hx10', ?_⟩
        rw [htk, if_neg (by rw [hd0]; simp)]
        exact hO10
    · rintro s gd w5 ⟨v5, rfl, hx5, hO5⟩
      simp only [List.getD_cons_zero, List.getD_cons_succ]
      rw [bin_add, up1 (by omega)]
      exact ⟨⟨i + 1, v5, hlt, rfl, hx5, hO5⟩, by simp only [Int.toNat_natCast]; omega⟩
  · obtain rfl : i = m.length := by omega
    simp only [List.getD_cons_zero, List.getD_cons_succ]
    rw [bin_lss, decide_eq_false (by omega), condW_false]
    rw [List.take_length] at hO
    exact hK _ w9 (hx.trans hx9) hO.sl
end
end Go.Proofs.YtcnjpcadejcenaaGreatDoor

namespace Go.Proofs.YtcnjpcadejcenaaGreatDoor
open Go Go.Eng Go.RowKit
set_option maxRecDepth 100000
theorem valid_iff : ∀ (n : Nat) (l : Str), l.length ≤ n → (Lib.validGoD n l = true ↔ Utf l) := by
  intro n
  induction n with
  | zero =>
    intro l h
    obtain rfl : l = [] := List.eq_nil_of_length_eq_zero (by omega)
    exact ⟨fun _ => .nil, fun _ => rfl⟩
  | succ n ih =>
    intro l h
    unfold Lib.validGoD
    by_cases h0 : l = []
    · rw [if_pos h0]; subst h0; exact ⟨fun _ => .nil, fun _ => rfl⟩
    rw [if_neg h0]
    have hpos : 0 < l.length := List.length_pos_iff.2 h0
    have hd : Lib.decodeL l = Utf8.decode (ofL l) 0 := rfl
    have head : Utf l → ∃ u r, Rn u ∧ Utf r ∧ l = u ++ r ∧ runeM l 0 = u.length := fun hu => by
      cases hu with
      | nil => exact absurd rfl h0
      | cons h1 h2 => exact ⟨_, _, h1, h2, rfl, h1.at (s := _ ++ _) (i := 0) (by rw [List.drop_zero])⟩
    by_cases hr : runeM l 0 = 0
    · rw [hd, rune_bad hpos hr, if_pos ⟨rfl, rfl⟩]
      refine ⟨fun e => (by cases e), fun hu => ?_⟩
      obtain ⟨u, r, h1, _, _, h4⟩ := head hu
      have := h1.pos
      omega
    · obtain ⟨c, hc⟩ := rune_good hpos hr
      rw [hd, hc.dec, if_neg (by
        rintro ⟨e1, e2⟩
        have e1 : c = 65533 := e1
        have := (hc.low e2).2
        omega)]
      have hf := hc.fits
      rw [ih (l.drop (runeM l 0)) (by rw [List.length_drop]; omega)]
      constructor
      · intro hu
        have := Utf.cons (Rn.of hr) hu
        rwa [List.drop_zero, List.take_append_drop] at this
      · intro hu
        obtain ⟨u, r, h1, h2, h3, h4⟩ := head hu
        rw [h4, h3, List.drop_left]
        exact h2
theorem valid_utf (l : Str) : Lib.validD l = utfM l := by
  have h1 := valid_iff l.length l (Nat.le_refl _)
  have h2 := utf_iff l
  unfold Lib.validD
  cases ha : Lib.validGoD l.length l <;> cases hb : utfM l <;> simp_all
/-- the library's tables of UTF-8 -/
def TabU (w : World) : Prop := Lib.Utf8Tabs (Tryz.laysValid_ren.g 3) (Tryz.laysValid_ren.g 4) w
theorem cell_ext {w w' : World} {b o : Nat} {v : Value} (hx : Ext w w') (h : w.cell? ⟨b, o, none⟩ = some v) : w'.cell? ⟨b, o, none⟩ = some v := by
  rw [cell_eq] at h ⊢
  cases hb : w.heap[b]? with
  | none => rw [hb] at h; cases h
  | some x => rw [hb] at h; rw [hx.at hb id]; exact h
theorem TabU.ext {w w' : World} (h : TabU w) (hx : Ext w w') : TabU w' := ⟨fun c hc => cell_ext hx (h.1 c hc), fun i hi => ⟨cell_ext hx (h.2 i hi).1, cell_ext hx (h.2 i hi).2⟩⟩
section
variable [HX]
theorem valid_p {s : Str} {w : World} {K : Value → World → Prop} (hT : TabU w) (hl : s.length ≤ 9223372036854775807) (hK : ∀ w', Ext w w' → K (.bool (utfM s)) w') : callF Tryz.prog 102 [str s] w K := by
  refine of_calls (args := #[str s]) Tryz.call102 ((Tryz.utf8_ValidString (ofL s) w (by rw [ofL_size]; exact hl) hT).mono ?_)
  rintro e w' ⟨rfl, hb⟩
  rw [ofL_data, valid_utf]
  exact ⟨_, rfl, hK w' (Chg.of_below hb)⟩
theorem bad_p {s : Str} {w : World} {K : Value → World → Prop} (hT : TabU w) (hl : s.length ≤ 9223372036854775807) (hK : ∀ w', Ext w w' → K (.bool (!utfM s)) w') : callF Tryz.prog 101 [str s] w K := by
  refine W101_ok ?_
  unfold W101
  refine valid_p hT hl fun w1 hx1 => ?_
  rw [un_not]
  exact hK w1 hx1
theorem index_sx {v f : Value} {T : TypeId} {l : List Str} {p : Str → Bool} {w : World} {K : Value → World → Prop} (h : SlAt w T v l.length (l.map str)) (hl : l.length ≤ 9223372036854775807)
    (hf : ∀ x ∈ l, ∀ {w1 : World} {K : Value → World → Prop}, Ext w w1 → (∀ w', Ext w1 w' → K (.bool (p x)) w') → callV Tryz.prog f [str x] w1 K)
    (hK : ∀ w', Ext w w' → K (i64 (findI p l)) w') : callF Tryz.prog 136 [v, f] w K := by
  refine W136_ok ?_
  unfold W136
  rw [lenl_at h]
  refine loop_up l.length (fun i w' => Ext w w' ∧ (l.take i).any p = false) ⟨Chg.refl _ _, by simp⟩ ?_ ?_
  · rintro i w2 g L hi ⟨hx2, hno⟩ hL
    obtain ⟨x, hxi⟩ : ∃ x, l[i]? = some x := ⟨_, List.getElem?_eq_getElem hi⟩
    have hlt : ((i : Int) < (l.length : Int)) := by omega
    simp only [wsv, wsg, wsh, wsl, cond_true, cond_false, exists_eq_left', Option.some.injEq, Option.isSome_some, List.getElem?_toArray, List.getElem?_cons_zero, List.getElem?_cons_succ, List.length_cons, List.length_nil, List.set_cons_zero, List.set_cons_succ, List.getD_cons_zero, List.getD_cons_succ, Nat.zero_add, Nat.add_zero, Nat.reduceAdd, Nat.reduceLT, Nat.lt_add_one, Nat.zero_lt_succ, decide_true, decide_false, ne_eq, reduceCtorEq, hlt]
    refine text_ld (h.ext hx2) hxi ?_
    refine hf x (List.mem_of_getElem? hxi) hx2 fun w3 hx3 => ?_
    rw [condW_b]
    refine ⟨fun ht => ?_, fun hn => ?_⟩
    · have := hK w3 (hx2.trans hx3)
      unfold findI at this
      rw [findIdx_hit hno hxi ht] at this
      exact this
    · rw [up1 (by omega)]
      exact hL _ ⟨hx2.trans hx3, by rw [any_take hxi, hno, hn]; rfl⟩
  · rintro w2 g L ⟨hx2, hno⟩
    simp only [wsv, wsg, wsh, wsl, cond_true, cond_false, exists_eq_left', Option.some.injEq, Option.isSome_some, List.getElem?_toArray, List.getElem?_cons_zero, List.getElem?_cons_succ, List.length_cons, List.length_nil, List.set_cons_zero, List.set_cons_succ, List.getD_cons_zero, List.getD_cons_succ, Nat.zero_add, Nat.add_zero, Nat.reduceAdd, Nat.reduceLT, Nat.lt_add_one, Nat.zero_lt_succ, decide_true, decide_false, ne_eq, reduceCtorEq, Int.lt_irrefl]
    rw [List.take_length] at hno
    have := hK w2 hx2
    unfold findI at this
    rw [List.findIdx?_eq_none_iff.2 fun x hx => by simpa using List.any_eq_false.1 hno x hx] at this
    exact this
theorem contains_sx {v f : Value} {T : TypeId} {l : List Str} {p : Str → Bool} {w : World} {K : Value → World → Prop} (h : SlAt w T v l.length (l.map str)) (hl : l.length ≤ 9223372036854775807)
    (hf : ∀ x ∈ l, ∀ {w1 : World} {K : Value → World → Prop}, Ext w w1 → (∀ w', Ext w1 w' → K (.bool (p x)) w') → callV Tryz.prog f [str x] w1 K)
    (hK : ∀ w', Ext w w' → K (.bool (l.any p)) w') : callF Tryz.prog 76 [v, f] w K := by
  refine W76_ok ?_
  unfold W76
  refine index_sx h hl hf fun w1 hx1 => ?_
  simp only [wsv, wsg, wsh, wsl, cond_true, cond_false, exists_eq_left', Option.some.injEq, Option.isSome_some, List.getElem?_toArray, List.getElem?_cons_zero, List.getElem?_cons_succ, List.length_cons, List.length_nil, List.set_cons_zero, List.set_cons_succ, List.getD_cons_zero, List.getD_cons_succ, Nat.zero_add, Nat.add_zero, Nat.reduceAdd, Nat.reduceLT, Nat.lt_add_one, Nat.zero_lt_succ, decide_true, decide_false, ne_eq, reduceCtorEq, findI_ge]
  exact hK w1 hx1
theorem any_not_utf (ks : List Str) : (!ks.any fun s => !utfM s) = ks.all utfM := by
  induction ks with
  | nil => rfl
  | cons x xs ih => simp only [List.any_cons, List.all_cons, Bool.not_or, Bool.not_not, ih]
theorem any_not_texts (xs : List JV) : (!xs.any fun x => !textsM x) = textsL xs := by
  induction xs with
  | nil => rfl
  | cons x xs ih => simp only [List.any_cons, Bool.not_or, Bool.not_not, ih, textsL]
theorem textsM_eq (v : JV) : textsM v = (utfM v.t && v.ks.all utfM && textsL v.xs) := by cases v; rfl
theorem texts_p (v : JV) : ∀ {w0 w : World} {cs : List Value} {K : Value → World → Prop}, TabU w0 → Ext w0 w → VRep w v cs → (∀ w', Ext w w' → K (.bool (textsM v)) w') → callF Tryz.prog 44 [.agg cs.toArray] w K := by
  induction v using JV.ind' with
  | h v ih =>
    intro w0 w cs K hT h0 h hK
    rw [textsM_eq] at hK
    refine W44_ok ?_
    unfold W44
    refine box_val h fun a w1 sv kv hB hx _ => ?_
    obtain ⟨f1, f2, f3, f4⟩ := hB.fits
    simp only [wsv, wsg, wsh, wsl, cond_true, cond_false, exists_eq_left', Option.some.injEq, Option.isSome_some, List.getElem?_toArray, List.getElem?_cons_zero, List.getElem?_cons_succ, List.length_cons, List.length_nil, List.set_cons_zero, List.set_cons_succ, List.getD_cons_zero, List.getD_cons_succ, Nat.zero_add, Nat.add_zero, Nat.reduceAdd, Nat.reduceLT, Nat.lt_add_one, Nat.zero_lt_succ, decide_true, decide_false, ne_eq, reduceCtorEq, wsh, hB.hb]
    refine callV_fn (bad_p (hT.ext (h0.trans hx)) f3 fun w2 hx2 => ?_)
    have hB2 := hB.ext hx2
    have hx2' := hx.trans hx2
    obtain ⟨Tk, hkv⟩ := hB2.keys
    simp only [wsv, wsg, wsh, wsl, cond_true, cond_false, exists_eq_left', Option.some.injEq, Option.isSome_some, List.getElem?_toArray, List.getElem?_cons_zero, List.getElem?_cons_succ, List.length_cons, List.length_nil, List.set_cons_zero, List.set_cons_succ, List.getD_cons_zero, List.getD_cons_succ, Nat.zero_add, Nat.add_zero, Nat.reduceAdd, Nat.reduceLT, Nat.lt_add_one, Nat.zero_lt_succ, decide_true, decide_false, ne_eq, reduceCtorEq, Bool.not_not]
    refine GdW.act (v.ks.all utfM) (fun w' => Ext w2 w') (fun _ => Chg.refl _ _) ?_ ?_
    · intro hc J hJ
      simp only [wsv, wsg, wsh, wsl, cond_true, cond_false, exists_eq_left', Option.some.injEq, Option.isSome_some, List.getElem?_toArray, List.getElem?_cons_zero, List.getElem?_cons_succ, List.length_cons, List.length_nil, List.set_cons_zero, List.set_cons_succ, List.getD_cons_zero, List.getD_cons_succ, Nat.zero_add, Nat.add_zero, Nat.reduceAdd, Nat.reduceLT, Nat.lt_add_one, Nat.zero_lt_succ, decide_true, decide_false, ne_eq, reduceCtorEq, wsh, hB2.hb]
      refine contains_sx (p := fun s => !utfM s) hkv f2 (fun x hxm {w3 K} hx3 hK => callV_fn (bad_p (hT.ext ((h0.trans hx2').trans hx3)) (f4 x hxm) hK)) fun w4 hx4 => ?_
      simp only [wsv, wsg, wsh, wsl, cond_true, cond_false, exists_eq_left', Option.some.injEq, Option.isSome_some, List.getElem?_toArray, List.getElem?_cons_zero, List.getElem?_cons_succ, List.length_cons, List.length_nil, List.set_cons_zero, List.set_cons_succ, List.getD_cons_zero, List.getD_cons_succ, Nat.zero_add, Nat.add_zero, Nat.reduceAdd, Nat.reduceLT, Nat.lt_add_one, Nat.zero_lt_succ, decide_true, decide_false, ne_eq, reduceCtorEq, any_not_utf]
      exact hJ w4 hx4
    intro g w4 hx4
    have hB4 := hB2.ext hx4
    have hx4' := hx2'.trans hx4
    simp only [wsv, wsg, wsh, wsl, cond_true, cond_false, exists_eq_left', Option.some.injEq, Option.isSome_some, List.getElem?_toArray, List.getElem?_cons_zero, List.getElem?_cons_succ, List.length_cons, List.length_nil, List.set_cons_zero, List.set_cons_succ, List.getD_cons_zero, List.getD_cons_succ, Nat.zero_add, Nat.add_zero, Nat.reduceAdd, Nat.reduceLT, Nat.lt_add_one, Nat.zero_lt_succ, decide_true, decide_false, ne_eq, reduceCtorEq]
    refine GdW.act (textsL v.xs) (fun w' => Ext w4 w') (fun _ => Chg.refl _ _) ?_ ?_
    · intro hc J hJ
      simp only [wsv, wsg, wsh, wsl, cond_true, cond_false, exists_eq_left', Option.some.injEq, Option.isSome_some, List.getElem?_toArray, List.getElem?_cons_zero, List.getElem?_cons_succ, List.length_cons, List.length_nil, List.set_cons_zero, List.set_cons_succ, List.getD_cons_zero, List.getD_cons_succ, Nat.zero_add, Nat.add_zero, Nat.reduceAdd, Nat.reduceLT, Nat.lt_add_one, Nat.zero_lt_succ, decide_true, decide_false, ne_eq, reduceCtorEq, wsh, hB4.hb]
      refine contains_x (p := fun x => !textsM x) hB4.itemsAt ?_ fun w5 hx5 => ?_
      · intro x hxm cs w5 K hx5 hr hK
        refine callV_fn ?_
        refine W103_ok ?_
        unfold W103
        refine box_val hr fun b w6 sv kv hB6 hx6 _ => ?_
        refine hB6.ld fun cs2 h2 => ?_
        refine ih x hxm hT (((h0.trans hx4').trans hx5).trans hx6) h2 fun w7 hx7 => ?_
        rw [un_not]
        exact hK w7 (hx6.trans hx7)
      · simp only [wsv, wsg, wsh, wsl, cond_true, cond_false, exists_eq_left', Option.some.injEq, Option.isSome_some, List.getElem?_toArray, List.getElem?_cons_zero, List.getElem?_cons_succ, List.length_cons, List.length_nil, List.set_cons_zero, List.set_cons_succ, List.getD_cons_zero, List.getD_cons_succ, Nat.zero_add, Nat.add_zero, Nat.reduceAdd, Nat.reduceLT, Nat.lt_add_one, Nat.zero_lt_succ, decide_true, decide_false, ne_eq, reduceCtorEq, any_not_texts]
        exact hJ w5 hx5
    intro g w5 hx5
    simp only [wsv, wsg, wsh, wsl, cond_true, cond_false, exists_eq_left', Option.some.injEq, Option.isSome_some, List.getElem?_toArray, List.getElem?_cons_zero, List.getElem?_cons_succ, List.length_cons, List.length_nil, List.set_cons_zero, List.set_cons_succ, List.getD_cons_zero, List.getD_cons_succ, Nat.zero_add, Nat.add_zero, Nat.reduceAdd, Nat.reduceLT, Nat.lt_add_one, Nat.zero_lt_succ, decide_true, decide_false, ne_eq, reduceCtorEq]
    exact hK w5 (hx4'.trans hx5)
end
end Go.Proofs.YtcnjpcadejcenaaGreatDoor

namespace Go.Proofs.YtcnjpcadejcenaaGreatDoor
open Go Go.Eng Go.RowKit
set_option maxRecDepth 100000
def goodR (v : JV) (m : Nat) (left : Int) : Bool := deepM v m && plainM v && decide ((cntM v : Int) ≤ left)
theorem keysOk_nil : keysOk [] = true := rfl
/-- what the kinds without items need -/
def flatK (k : Int) (t : Str) : Bool := if k = 3 then Num.goodN t else if k = 4 then decide (t.length ≤ 16384) else decide (t = [])
def flatOk (v : JV) : Bool := flatK v.k v.t
theorem goodR_flat {v : JV} {m : Nat} {left : Int} (hm : m ≠ 0) (hl : 1 ≤ left) (hb : v.b = true → v.k = 2) (h0 : 0 ≤ v.k) (h5 : v.k < 5) : goodR v m left = (flatOk v && (decide (v.xs.length = 0) && decide (v.ks.length = 0))) := by
  cases v with
  | mk k b t xs ks =>
  simp only [JV.k, JV.b] at hb h0 h5
  unfold goodR
  show (deepM (.mk k b t xs ks) m && (headOk k b t xs.length ks && plainL xs) && decide ((cntM (.mk k b t xs ks) : Int) ≤ left)) = (flatK k t && (decide (xs.length = 0) && decide (ks.length = 0)))
  unfold flatK
  by_cases hx : xs = []
  · subst hx
    cases m with
    | zero => exact absurd rfl hm
    | succ m =>
      by_cases hk : ks = []
      · subst hk
        have hc : cntM (.mk k b t [] []) = 1 := rfl
        rw [deepM_succ, hc, decide_eq_true (show ((1 : Nat) : Int) ≤ left from hl)]
        simp only [JV.xs, deepL, plainL, List.length_nil]
        rw [Bool.eq_iff_iff]
        simp only [headOk, keysOk_nil, Bool.and_true, Bool.true_and, Bool.and_eq_true, Bool.or_eq_true, Bool.not_eq_true', decide_eq_true_eq, decide_eq_false_iff_not]
        constructor
        · rintro ⟨⟨⟨⟨⟨⟨⟨⟨_, _⟩, _⟩, ht⟩, _⟩, _⟩, h3⟩, h4⟩, _⟩
          refine ⟨?_, trivial, trivial⟩
          split
          · rename_i e; exact h3.resolve_left (fun h => h e)
          · split
            · rename_i e; exact decide_eq_true (h4.resolve_left (fun h => h e))
            · rcases ht with (ht | ht) | ht
              · exact decide_eq_true ht
              · contradiction
              · contradiction
        · rintro ⟨hf, _⟩
          refine ⟨⟨⟨⟨⟨⟨⟨⟨h0, by omega⟩, ?_⟩, ?_⟩, .inl trivial⟩, .inr trivial⟩, ?_⟩, ?_⟩, ?_⟩
          · cases b with
            | false => exact .inl rfl
            | true => exact .inr (hb rfl)
          · by_cases e3 : k = 3
            · exact .inl (.inr e3)
            · by_cases e4 : k = 4
              · exact .inr e4
              · rw [if_neg e3, if_neg e4, decide_eq_true_iff] at hf; exact .inl (.inl hf)
          · by_cases e3 : k = 3
            · rw [if_pos e3] at hf; exact .inr hf
            · exact .inl e3
          · by_cases e4 : k = 4
            · rw [if_neg (by omega), if_pos e4, decide_eq_true_iff] at hf; exact .inr hf
            · exact .inl e4
          · exact .inl (by omega)
      · have h1 : headOk k b t ([] : List JV).length ks = false := by
          cases hh : headOk k b t ([] : List JV).length ks with
          | false => rfl
          | true => have := (headOk_out hh).2.2.2.2.2.1 hk; omega
        rw [h1, decide_eq_false (show ¬ ks.length = 0 from fun e => hk (List.eq_nil_of_length_eq_zero e))]
        simp
  · have h1 : headOk k b t xs.length ks = false := by
      cases hh : headOk k b t xs.length ks with
      | false => rfl
      | true => have := (headOk_out hh).2.2.2.2.1 (fun e => hx (List.eq_nil_of_length_eq_zero e)); omega
    rw [h1, decide_eq_false (show ¬ xs.length = 0 from fun e => hx (List.eq_nil_of_length_eq_zero e))]
    simp
/-- what the items need -/
def itemsOk (xs : List JV) (m : Nat) (left : Int) : Bool := deepL xs m && plainL xs && decide ((cntL xs : Int) ≤ left)
theorem goodR_deep {v : JV} {m : Nat} {left : Int} (hb : v.b = true → v.k = 2) (hk : v.k = 5 ∧ v.ks = [] ∨ v.k = 6 ∧ v.ks.length = v.xs.length ∧ keysOk v.ks = true) : goodR v (m + 1) left = (decide (v.t = []) && itemsOk v.xs m (left - 1)) := by
  cases v with
  | mk k b t xs ks =>
  simp only [JV.k, JV.b, JV.ks, JV.xs] at hb hk
  unfold goodR
  have hc : cntM (.mk k b t xs ks) = 1 + cntL xs := by simp only [cntM]
  rw [hc]
  show (deepL xs m && (headOk k b t xs.length ks && plainL xs) && decide (((1 + cntL xs : Nat) : Int) ≤ left)) = (decide (t = []) && (deepL xs m && plainL xs && decide ((cntL xs : Int) ≤ left - 1)))
  have hbf : b = false := by
    cases b with
    | false => rfl
    | true => have := hb rfl; omega
  subst hbf
  have hh : headOk k false t xs.length ks = decide (t = []) := by
    rw [Bool.eq_iff_iff]
    simp only [headOk, Bool.and_eq_true, Bool.or_eq_true, Bool.not_eq_true', decide_eq_true_eq, decide_eq_false_iff_not, Bool.not_false]
    constructor
    · rintro ⟨⟨⟨⟨⟨⟨⟨⟨⟨_, _⟩, _⟩, ht⟩, _⟩, _⟩, _⟩, _⟩, _⟩, _⟩
      rcases ht with (ht | ht) | ht
      · exact ht
      · omega
      · omega
    · intro ht
      refine ⟨⟨⟨⟨⟨⟨⟨⟨⟨by omega, by omega⟩, .inl trivial⟩, .inl (.inl ht)⟩, .inr (by omega)⟩, ?_⟩, .inl (by omega)⟩, .inl (by omega)⟩, ?_⟩, ?_⟩
      · rcases hk with ⟨_, h⟩ | ⟨h, _⟩
        · exact .inr h
        · exact .inl h
      · rcases hk with ⟨h, _⟩ | ⟨_, h, _⟩
        · exact .inl (by omega)
        · exact .inr h
      · rcases hk with ⟨_, h⟩ | ⟨_, _, h⟩
        · rw [h]; rfl
        · exact h
  rw [hh]
  have e : decide (((1 + cntL xs : Nat) : Int) ≤ left) = decide ((cntL xs : Int) ≤ left - 1) := by rw [decide_eq_decide]; omega
  rw [e]
  generalize decide ((cntL xs : Int) ≤ left - 1) = d4
  generalize decide (t = []) = d1
  generalize deepL xs m = d2
  generalize plainL xs = d3
  cases d1 <;> cases d2 <;> cases d3 <;> cases d4 <;> rfl
theorem goodR_no {v : JV} {m : Nat} {left : Int} (h : m = 0 ∨ left < 1 ∨ (v.b = true ∧ v.k ≠ 2) ∨ v.k < 0 ∨ 6 < v.k ∨ (v.k = 5 ∧ v.ks ≠ []) ∨ (v.k = 6 ∧ (v.ks.length ≠ v.xs.length ∨ keysOk v.ks = false))) : goodR v m left = false := by
  cases hg : goodR v m left with
  | false => rfl
  | true =>
    unfold goodR at hg
    simp only [Bool.and_eq_true, decide_eq_true_eq] at hg
    obtain ⟨⟨h1, h2⟩, h3⟩ := hg
    rw [plainM_eq, Bool.and_eq_true] at h2
    have hh := headOk_out h2.1
    have hc := cnt_pos v
    rcases h with rfl | h | ⟨h, h'⟩ | h | h | ⟨h, h'⟩ | ⟨h, h' | h'⟩
    · rw [deepM_zero] at h1; cases h1
    · omega
    · exact absurd (hh.2.2.1 h) h'
    · have := hh.1; omega
    · have := hh.2.1; omega
    · have := hh.2.2.2.2.2.1 h'; omega
    · exact absurd (hh.2.2.2.2.2.2.2.2.1 h) h'
    · have := hh.2.2.2.2.2.2.2.2.2; rw [h'] at this; cases this
theorem _root_.Go.Eng.SlAt.keep1 {w w' : World} {p : Nat} {x : Value} {T T' : TypeId} {fr : Nat × Nat} {v : Value} {n : Nat} {cs : List Value} (h : SlAt w T v n cs) (hp : w.heap[p]? = some (.cells [x].toArray T' fr)) (hc : Chg (fun k => k = p) w w')
    (hne : cs ≠ [] → cs[0]? ≠ some x ∨ 2 ≤ cs.length) : SlAt w' T v n cs := by
  obtain ⟨pp, cap, hv, h1, h2, h3⟩ := h
  refine ⟨pp, cap, hv, h1, h2, fun hn => ?_⟩
  obtain ⟨b, off, c, fr', hpp, hb, hcs⟩ := h3 hn
  refine ⟨b, off, c, fr', hpp, hc.at hb ?_, hcs⟩
  rintro rfl
  rw [hp] at hb
  simp only [Option.some.injEq, Obj.cells.injEq] at hb
  obtain ⟨rfl, _, _⟩ := hb
  have hpos : 0 < cs.length := List.length_pos_iff.2 hn
  have e0 := hcs 0 hpos
  rw [Nat.add_zero] at e0
  rcases hne hn with h | h
  · have : off = 0 := by
      apply Classical.byContradiction; intro ho
      rw [show ([x].toArray)[off]? = none by simp; omega, List.getElem?_eq_getElem hpos] at e0
      cases e0
    subst this
    exact h (by rw [← e0]; rfl)
  · have e1 := hcs 1 (by omega)
    rw [List.getElem?_eq_getElem (by omega), show ([x].toArray)[off + 1]? = none by simp] at e1
    cases e1
mutual
theorem vrep_keepi {w w' : World} {p : Nat} {n : Int} {T' : TypeId} {fr : Nat × Nat} (hp : w.heap[p]? = some (.cells [i64 n].toArray T' fr)) (hc : Chg (fun k => k = p) w w') : ∀ {v : JV} {cs : List Value}, VRep w v cs → VRep w' v cs
  | .mk k b t xs ks, cs, h => by
    simp only [VRep] at h ⊢
    obtain ⟨sv, kv, T1, T2, L, rfl, h1, h2, h3, h4⟩ := h
    refine ⟨sv, kv, T1, T2, L, rfl, h1.keep1 hp hc fun hn => .inr ?_, vreps_keepi hp hc h2, h3.keep1 hp hc fun hn => .inl ?_, h4⟩
    · have := h2.len
      have hl : 0 < L.length := List.length_pos_iff.2 hn
      omega
    · cases ks with
      | nil => exact absurd rfl hn
      | cons a r => intro e; simp at e
theorem vreps_keepi {w w' : World} {p : Nat} {n : Int} {T' : TypeId} {fr : Nat × Nat} (hp : w.heap[p]? = some (.cells [i64 n].toArray T' fr)) (hc : Chg (fun k => k = p) w w') : ∀ {xs : List JV} {L : List Value}, VReps w xs L → VReps w' xs L
  | [], L, h => by simp only [VReps] at h ⊢; exact h
  | x :: xs, L, h => by
    simp only [VReps] at h ⊢
    obtain ⟨c, r, rfl, h1, h2⟩ := h
    exact ⟨c, r, rfl, vrep_keepi hp hc h1, vreps_keepi hp hc h2⟩
end
section
variable [HX]
theorem itemsOk_no {xs : List JV} {m i : Nat} {left : Int} {x : JV} (hi : xs[i]? = some x) (h : goodR x m (left - cntS xs i) = false) : itemsOk xs m left = false := by
  cases hg : itemsOk xs m left with
  | false => rfl
  | true =>
    unfold itemsOk at hg
    simp only [Bool.and_eq_true, decide_eq_true_eq] at hg
    obtain ⟨⟨h1, h2⟩, h3⟩ := hg
    rw [deepL_all, List.all_eq_true] at h1
    rw [plainL_all, List.all_eq_true] at h2
    have hm := List.mem_of_getElem? hi
    have hcs := cntS_le xs (i + 1) (List.getElem?_eq_some_iff.1 hi).1
    rw [cntS, cntAt_get hi] at hcs
    unfold goodR at h
    rw [h1 x hm, h2 x hm, decide_eq_true (by omega)] at h
    cases h
theorem cntL_S : ∀ (xs : List JV), cntL xs = cntS xs xs.length
  | [] => rfl
  | x :: xs => by
    rw [List.length_cons, cntS_cons, ← cntL_S xs]
    simp only [cntL]
theorem itemsOk_yes {xs : List JV} {m : Nat} {left : Int} (h : ∀ i x, xs[i]? = some x → goodR x m (left - cntS xs i) = true) (hl : (cntL xs : Int) ≤ left) : itemsOk xs m left = true := by
  unfold itemsOk
  rw [decide_eq_true hl, deepL_all, plainL_all, List.all_eq_true.2, List.all_eq_true.2]
  · rfl
  · intro x hx
    obtain ⟨i, hi, rfl⟩ := List.getElem_of_mem hx
    have := h i _ (List.getElem?_eq_getElem hi)
    unfold goodR at this
    simp only [Bool.and_eq_true] at this
    exact this.1.2
  · intro x hx
    obtain ⟨i, hi, rfl⟩ := List.getElem_of_mem hx
    have := h i _ (List.getElem?_eq_getElem hi)
    unfold goodR at this
    simp only [Bool.and_eq_true] at this
    exact this.1.1
theorem callV_cap {P : Program} {g : FuncId} {args caps : List Value} {w : World} {K : Value → World → Prop} (h : callF P g (args ++ caps) w K) : callV P (.func (.func g) #[] caps.toArray) args w K := by
  unfold callV semN
  unfold callF at h
  have : (do let d ← (Deferred.ofValue (.func (.func g) #[] caps.toArray) args.toArray); invoke d.target d.args : Sem Next) = callFunc g (args ++ caps).toArray := by
    show callFunc g (#[] ++ args.toArray ++ caps.toArray) = _
    simp
  rw [this]
  exact h
theorem len_zero {n m : Nat} (hn : n ≤ 9223372036854775807) (hm : m ≤ 9223372036854775807) : decide (IntKind.i64.wrap ((n : Int) + (m : Int)) = 0) = (decide (n = 0) && decide (m = 0)) := by
  have e1 : (2 : Int) ^ 64 = 18446744073709551616 := by decide
  have e2 : (2 : Int) ^ (64 - 1) = 9223372036854775808 := by decide
  have : IntKind.i64.wrap ((n : Int) + (m : Int)) = 0 ↔ n = 0 ∧ m = 0 := by
    simp only [IntKind.wrap, IntKind.bits, IntKind.signed, Bool.true_and, e1, e2]
    split
    · rename_i h
      simp only [ge_iff_le, decide_eq_true_eq] at h
      omega
    · rename_i h
      omega
  rw [Bool.eq_iff_iff, decide_eq_true_iff, Bool.and_eq_true, decide_eq_true_iff, decide_eq_true_iff]
  exact this
theorem box_one {T : TypeId} {v : Value} {w : World} {K : Value → World → Prop} (h1 : one1 v = true) (h : ∀ a w', a = w.heap.size → w'.heap.size = w.heap.size + 1 → w'.heap[a]? = some (.cells [v].toArray T (0, 0)) → Ext w w' → K (.pointer (some ⟨a, 0, none⟩)) w') : boxW T v w K := by
  cases v <;> first | (simp [one1] at h1; done) | exact h _ _ rfl (by simp) (heap_anew _ _ _ rfl) (Chg.alloc (Chg.refl _ _) _)
theorem good_p (v : JV) : ∀ {m p : Nat} {left : Int} {w : World} {cs : List Value} {K : Value → World → Prop}, VRep w v cs → w.heap[p]? = some (.cells [i64 left].toArray 3 (0, 0)) → m ≤ 24 → -1 ≤ left → left ≤ 2000 →
    (∀ r w', r = goodR v m left → (r = true → w'.heap[p]? = some (.cells [i64 (left - cntM v)].toArray 3 (0, 0))) → Chg (fun k => k = p) w w' → K (.bool r) w') → callF Tryz.prog 98 [.agg cs.toArray, i64 (m : Int), .pointer (some ⟨p, 0, none⟩)] w K := by
  induction v using JV.ind' with
  | h v ih =>
    intro m p left w cs K h hp hm hl1 hl2 hK
    refine W98_ok ?_
    unfold W98
    refine box_val h fun a w1 sv kv hB hx1 ha => ?_
    have hplt := at_lt hp
    have hp1 := hx1.at hp id
    refine box_one rfl fun d w2 hd hz2 hd2 hx2 => ?_
    refine box_one rfl fun q w3 hq hz3 hq3 hx3 => ?_
    have hp3 := hx3.at (hx2.at hp1 id) id
    have hB3 := hB.ext (hx2.trans hx3)
    have hd3 := hx3.at hd2 id
    have hx13 := (hx1.trans hx2).trans hx3
    simp only [wsv, wsg, wsh, wsl, cond_true, cond_false, exists_eq_left', Option.some.injEq, Option.isSome_some, List.getElem?_toArray, List.getElem?_cons_zero, List.getElem?_cons_succ, List.length_cons, List.length_nil, List.set_cons_zero, List.set_cons_succ, List.getD_cons_zero, List.getD_cons_succ, Nat.zero_add, Nat.add_zero, Nat.reduceAdd, Nat.reduceLT, Nat.lt_add_one, Nat.zero_lt_succ, decide_true, decide_false, ne_eq, reduceCtorEq, wsh, hq3, hp3]
    have ew : IntKind.i64.wrap (left - 1) = left - 1 := wrap_id (by omega) (by omega)
    refine st_at (off := 0) hp3 rfl (by simp) fun w4 hz4 hp4 hc4 => ?_
    have s1 := hx1.size
    have s2 := hx2.size
    have hq4 := hc4.at hq3 (by omega)
    have hd4 := hc4.at hd3 (by omega)
    have hb4 := hc4.at hB3.hb (by omega)
    rw [show ([i64 left].toArray.setIfInBounds 0 (i64 (IntKind.i64.wrap (left - 1)))) = [i64 (left - 1)].toArray by rw [ew]; rfl] at hp4
    have hcw : Chg (fun k => k = p) w w4 := (Chg.of_ext hx13).trans hc4
    obtain ⟨Tk, hks3⟩ := hB3.keys
    have hks4 : SlAt w4 Tk kv v.ks.length (v.ks.map str) := hks3.keep1 hp3 hc4 fun hn => .inl (by
      cases hkk : v.ks with
      | nil => rw [hkk] at hn; exact absurd rfl hn
      | cons a r => intro e; simp at e)
    obtain ⟨Ti, L, hit, hreps⟩ := hB3.items
    have hit4 : SlAt w4 Ti sv v.xs.length L := hit.keep1 hp3 hc4 fun hn => .inr (by
      have := hreps.len
      have hl : 0 < L.length := List.length_pos_iff.2 hn
      omega)
    have hreps4 : VReps w4 v.xs L := vreps_keepi hp3 hc4 hreps
    obtain ⟨f1, f2, f3, f4⟩ := hB3.fits
    have lx : ∀ KK : Value → Prop, lenlW sv KK ↔ KK (i64 v.xs.length) := fun KK => lenl_at hit KK
    have lk : ∀ KK : Value → Prop, lenlW kv KK ↔ KK (i64 v.ks.length) := fun KK => hB3.lenk KK
    simp only [wsv, wsg, wsh, wsl, cond_true, cond_false, exists_eq_left', Option.some.injEq, Option.isSome_some, List.getElem?_toArray, List.getElem?_cons_zero, List.getElem?_cons_succ, List.length_cons, List.length_nil, List.set_cons_zero, List.set_cons_succ, List.getD_cons_zero, List.getD_cons_succ, Nat.zero_add, Nat.add_zero, Nat.reduceAdd, Nat.reduceLT, Nat.lt_add_one, Nat.zero_lt_succ, decide_true, decide_false, ne_eq, reduceCtorEq, wsh, hq4, hp4, hd4, hb4]
    intro g1 g2 g3 g4
    rw [condW_b]
    refine ⟨fun hbad => hK false w4 ?_ (fun e => by cases e) hcw, fun hok => ?_⟩
    · rw [goodR_no]
      simp only [Bool.or_eq_true, Bool.and_eq_true, decide_eq_true_eq] at hbad
      rcases hbad with (h | h) | ⟨h, h'⟩
      · exact .inl (by omega)
      · exact .inr (.inl (by omega))
      · exact .inr (.inr (.inl ⟨h, h'⟩))
    have hm0 : m ≠ 0 := fun e => by rw [decide_eq_true (show (m : Int) = 0 by omega)] at hok; cases hok
    have hl0 : 1 ≤ left := by
      rcases Int.lt_or_le (left - 1) 0 with h | h
      · rw [decide_eq_true h] at hok; simp at hok
      · omega
    have hbk : v.b = true → v.k = 2 := fun e => by
      rw [e] at hok
      simp only [Bool.or_eq_false_iff, Bool.true_and, decide_eq_false_iff_not, Classical.not_not] at hok
      exact hok.2
    have flat : ∀ w', Ext w4 w' → 0 ≤ v.k → v.k < 5 → K (.bool (flatOk v && (decide (v.xs.length = 0) && decide (v.ks.length = 0)))) w' := fun w' e h0 h5 => by
      refine hK _ w' (goodR_flat hm0 hl0 hbk h0 h5).symm (fun hr => ?_) (hcw.then e fun _ _ e => e.elim)
      simp only [Bool.and_eq_true, decide_eq_true_eq] at hr
      have hx0 : v.xs = [] := List.eq_nil_of_length_eq_zero hr.2.1
      have hc1 : cntM v = 1 := by
        rw [v.eta, hx0]; rfl
      rw [hc1]; exact e.at hp4 id
    have no : (v.k < 0 ∨ 6 < v.k ∨ (v.k = 5 ∧ v.ks ≠ []) ∨ (v.k = 6 ∧ (v.ks.length ≠ v.xs.length ∨ keysOk v.ks = false))) → K (.bool false) w4 := fun h => hK false w4 (goodR_no (.inr (.inr (.inr h)))).symm (fun e => by cases e) hcw
    obtain ⟨m', rfl⟩ : ∃ m', m = m' + 1 := ⟨m - 1, by omega⟩
    refine JoinW.cut (fun s' w' => s' = [] ∧ w' = w4 ∧ (v.k = 5 ∧ v.ks = [] ∨ v.k = 6 ∧ v.ks.length = v.xs.length ∧ keysOk v.ks = true)) ?_ ?_
    · refine JoinW.cut (fun s' w' => s' = [.bool (decide (v.k = 0 ∨ v.k = 1 ∨ v.k = 2))] ∧ w' = w4) ?_ ?_
      · rw [condW_dec]
        refine ⟨fun h => ?_, fun h => ?_⟩
        · rw [decide_eq_true h, decide_eq_true (.inl h)]; exact ⟨rfl, rfl⟩
        · rw [condW_dec]
          refine ⟨fun h1 => ?_, fun h1 => ?_⟩
          · rw [decide_eq_true h1, decide_eq_true (.inr (.inl h1))]; exact ⟨rfl, rfl⟩
          · rw [show decide (v.k = 2) = decide (v.k = 0 ∨ v.k = 1 ∨ v.k = 2) by rw [decide_eq_decide]; omega]
            exact ⟨rfl, rfl⟩
      rintro s' g w5 ⟨rfl, rfl⟩
      simp only [wsv, wsg, wsh, wsl, cond_true, cond_false, exists_eq_left', Option.some.injEq, Option.isSome_some, List.getElem?_toArray, List.getElem?_cons_zero, List.getElem?_cons_succ, List.length_cons, List.length_nil, List.set_cons_zero, List.set_cons_succ, List.getD_cons_zero, List.getD_cons_succ, Nat.zero_add, Nat.add_zero, Nat.reduceAdd, Nat.reduceLT, Nat.lt_add_one, Nat.zero_lt_succ, decide_true, decide_false, ne_eq, reduceCtorEq, wsh, hb4, lx, lk, condW_dec]
      refine ⟨fun h012 => ?_, fun h012 => ?_⟩
      · intro g5
        have := flat w5 (Chg.refl _ _) (by omega) (by omega)
        unfold flatOk flatK at this
        rw [if_neg (by omega), if_neg (by omega)] at this
        rw [len_zero f1 f2]
        exact this
      refine ⟨fun h3 => ?_, fun h3 => ?_⟩
      · refine numgood_ref f3 fun w6 hx6 => ?_
        have hb6 := hx6.at hb4 id
        have := flat w6 hx6 (by omega) (by omega)
        unfold flatOk flatK at this
        rw [if_pos h3] at this
        simp only [wsv, wsg, wsh, wsl, cond_true, cond_false, exists_eq_left', Option.some.injEq, Option.isSome_some, List.getElem?_toArray, List.getElem?_cons_zero, List.getElem?_cons_succ, List.length_cons, List.length_nil, List.set_cons_zero, List.set_cons_succ, List.getD_cons_zero, List.getD_cons_succ, Nat.zero_add, Nat.add_zero, Nat.reduceAdd, Nat.reduceLT, Nat.lt_add_one, Nat.zero_lt_succ, decide_true, decide_false, ne_eq, reduceCtorEq, wsh, hb6, lx, lk]
        intro g6
        rw [len_zero f1 f2]
        exact this
      refine ⟨fun h4 => ?_, fun h4 => ?_⟩
      · intro g6
        have := flat w5 (Chg.refl _ _) (by omega) (by omega)
        unfold flatOk flatK at this
        rw [if_neg h3, if_pos h4] at this
        rw [len_zero f1 f2]
        rw [show decide ((v.t.length : Int) ≤ 16384) = decide (v.t.length ≤ 16384) by rw [decide_eq_decide]; omega]
        exact this
      refine ⟨fun h5 => ?_, fun h5 => ?_⟩
      · refine ⟨fun hk => no (.inr (.inr (.inl ⟨h5, fun e => by rw [e] at hk; simp at hk⟩))), fun hk => .inl ⟨h5, List.eq_nil_of_length_eq_zero (by omega)⟩⟩
      refine ⟨fun h6 => ?_, fun h6 => no (by omega)⟩
      refine ⟨fun hne => no (.inr (.inr (.inr ⟨h6, .inl (by omega)⟩))), fun heq => ?_⟩
      refine loop_up v.ks.length (fun i w' => w' = w5 ∧ (∀ j a, j < i → v.ks[j]? = some a → a.length ≤ 16384) ∧ (∀ j a b, j + 1 < i → v.ks[j]? = some a → v.ks[j + 1]? = some b → Op.bytesLess a b = true)) ⟨rfl, fun j a h => by omega, fun j a b h => by omega⟩ ?_ ?_
      · rintro i w6 g6 L6 hi ⟨rfl, hl, hs⟩ hL
        obtain ⟨u, hu⟩ : ∃ u, v.ks[i]? = some u := ⟨_, List.getElem?_eq_getElem hi⟩
        have hlt : ((i : Int) < (v.ks.length : Int)) := by omega
        simp only [wsv, wsg, wsh, wsl, cond_true, cond_false, exists_eq_left', Option.some.injEq, Option.isSome_some, List.getElem?_toArray, List.getElem?_cons_zero, List.getElem?_cons_succ, List.length_cons, List.length_nil, List.set_cons_zero, List.set_cons_succ, List.getD_cons_zero, List.getD_cons_succ, Nat.zero_add, Nat.add_zero, Nat.reduceAdd, Nat.reduceLT, Nat.lt_add_one, Nat.zero_lt_succ, decide_true, decide_false, ne_eq, reduceCtorEq, hlt]
        refine text_ld hks4 hu ?_
        have hnext : u.length ≤ 16384 → (∀ x, 0 < i → v.ks[i - 1]? = some x → Op.bytesLess x u = true) → L6 [i64 ((i + 1 : Nat) : Int)] w6 := fun h1 h2 => by
          refine hL _ ⟨rfl, fun j a hj ha => ?_, fun j a b hj ha hb => ?_⟩
          · rcases Nat.lt_or_ge j i with h | h
            · exact hl j a h ha
            · obtain rfl : j = i := by omega
              rw [hu] at ha; cases ha; exact h1
          · rcases Nat.lt_or_ge (j + 1) i with h | h
            · exact hs j a b h ha hb
            · obtain rfl : i = j + 1 := by omega
              rw [hu] at hb; cases hb
              exact h2 a (by omega) (by simpa using ha)
        by_cases hlong : 16384 < u.length
        · have e : decide ((16384 : Int) < (u.length : Int)) = true := decide_eq_true (by omega)
          simp only [wsv, wsg, wsh, wsl, cond_true, cond_false, exists_eq_left', Option.some.injEq, Option.isSome_some, List.getElem?_toArray, List.getElem?_cons_zero, List.getElem?_cons_succ, List.length_cons, List.length_nil, List.set_cons_zero, List.set_cons_succ, List.getD_cons_zero, List.getD_cons_succ, Nat.zero_add, Nat.add_zero, Nat.reduceAdd, Nat.reduceLT, Nat.lt_add_one, Nat.zero_lt_succ, decide_true, decide_false, ne_eq, reduceCtorEq, e]
          intros
          exact no (.inr (.inr (.inr ⟨h6, .inr (keysOk_long hu hlong)⟩)))
        · have e : decide ((16384 : Int) < (u.length : Int)) = false := decide_eq_false (by omega)
          by_cases h0 : i = 0
          · subst h0
            have e0 : decide ((0 : Int) < ((0 : Nat) : Int)) = false := by decide
            simp only [wsv, wsg, wsh, wsl, cond_true, cond_false, exists_eq_left', Option.some.injEq, Option.isSome_some, List.getElem?_toArray, List.getElem?_cons_zero, List.getElem?_cons_succ, List.length_cons, List.length_nil, List.set_cons_zero, List.set_cons_succ, List.getD_cons_zero, List.getD_cons_succ, Nat.zero_add, Nat.add_zero, Nat.reduceAdd, Nat.reduceLT, Nat.lt_add_one, Nat.zero_lt_succ, decide_true, decide_false, ne_eq, reduceCtorEq, e, e0]
            rw [up1 (by omega)]
            intros
            exact hnext (by omega) fun x h => by omega
          · obtain ⟨j, rfl⟩ : ∃ j, i = j + 1 := ⟨i - 1, by omega⟩
            obtain ⟨x, hxj⟩ : ∃ x, v.ks[j]? = some x := ⟨_, List.getElem?_eq_getElem (by omega)⟩
            have e0 : decide ((0 : Int) < ((j + 1 : Nat) : Int)) = true := decide_eq_true (by omega)
            have hw : IntKind.i64.wrap (((j + 1 : Nat) : Int) - 1) = ((j : Nat) : Int) := by rw [wrap_id (by omega) (by omega)]; omega
            simp only [wsv, wsg, wsh, wsl, cond_true, cond_false, exists_eq_left', Option.some.injEq, Option.isSome_some, List.getElem?_toArray, List.getElem?_cons_zero, List.getElem?_cons_succ, List.length_cons, List.length_nil, List.set_cons_zero, List.set_cons_succ, List.getD_cons_zero, List.getD_cons_succ, Nat.zero_add, Nat.add_zero, Nat.reduceAdd, Nat.reduceLT, Nat.lt_add_one, Nat.zero_lt_succ, decide_true, decide_false, ne_eq, reduceCtorEq, e, e0, hw]
            intro g7
            refine GdW.look (!Op.bytesLess x u) (fun _ J hJ => ?_) fun g8 => ?_
            · rw [hb4]
              refine ⟨kv, rfl, ?_⟩
              refine text_ld hks4 hxj ?_
              rw [bin_sge]; exact hJ
            intro g9
            simp only [List.getD_cons_zero, cond_true]
            rw [condW_b]
            refine ⟨fun hge => no (.inr (.inr (.inr ⟨h6, .inr (keysOk_two hxj hu (by simpa using hge))⟩))), fun hlt2 => ?_⟩
            rw [up1 (by omega)]
            exact hnext (by omega) fun y _ hy => by
              have : v.ks[j]? = some y := by simpa using hy
              rw [hxj] at this; cases this
              simpa using hlt2
      · rintro w6 g6 L6 ⟨rfl, hl, hs⟩
        have hkeys : keysOk v.ks = true := keysOk_mk (fun i a h => hl i a (List.getElem?_eq_some_iff.1 h).1 h) (fun i a b h1 h2 => hs i a b (List.getElem?_eq_some_iff.1 h2).1 h1 h2)
        simp only [wsv, wsg, wsh, wsl, cond_true, cond_false, exists_eq_left', Option.some.injEq, Option.isSome_some, List.getElem?_toArray, List.getElem?_cons_zero, List.getElem?_cons_succ, List.length_cons, List.length_nil, List.set_cons_zero, List.set_cons_succ, List.getD_cons_zero, List.getD_cons_succ, Nat.zero_add, Nat.add_zero, Nat.reduceAdd, Nat.reduceLT, Nat.lt_add_one, Nat.zero_lt_succ, decide_true, decide_false, ne_eq, reduceCtorEq, Int.lt_irrefl]
        exact .inr ⟨h6, by omega, hkeys⟩
    · rintro s' g w5 ⟨rfl, rfl, hk⟩
      simp only [wsv, wsg, wsh, wsl, cond_true, cond_false, exists_eq_left', Option.some.injEq, Option.isSome_some, List.getElem?_toArray, List.getElem?_cons_zero, List.getElem?_cons_succ, List.length_cons, List.length_nil, List.set_cons_zero, List.set_cons_succ, List.getD_cons_zero, List.getD_cons_succ, Nat.zero_add, Nat.add_zero, Nat.reduceAdd, Nat.reduceLT, Nat.lt_add_one, Nat.zero_lt_succ, decide_true, decide_false, ne_eq, reduceCtorEq, wsh, hb4]
      refine GdW.act (itemsOk v.xs m' (left - 1)) (fun w' => Chg (fun k => k = p) w5 w' ∧ (decide (v.t = []) = true → itemsOk v.xs m' (left - 1) = true → w'.heap[p]? = some (.cells [i64 (left - 1 - cntL v.xs)].toArray 3 (0, 0)))) (fun e => ⟨Chg.refl _ _, fun e' => by rw [e] at e'; cases e'⟩) ?_ ?_
      · intro ht J hJ
        refine W99_ok ?_
        unfold W99
        refine W150_ok ?_
        unfold W150
        rw [lx]
        refine loop_up v.xs.length (fun i w' => Chg (fun k => k = p) w5 w' ∧ w'.heap[p]? = some (.cells [i64 (left - 1 - cntS v.xs i)].toArray 3 (0, 0)) ∧ (∀ j x, j < i → v.xs[j]? = some x → goodR x m' (left - 1 - cntS v.xs j) = true) ∧ SlAt w' Ti sv v.xs.length L ∧ VReps w' v.xs L ∧ (cntS v.xs i : Int) ≤ left - 1) ⟨Chg.refl _ _, by simpa [cntS] using hp4, fun j x h => by omega, hit4, hreps4, by simp [cntS]; omega⟩ ?_ ?_
        · rintro i w6 g6 L6 hi ⟨hc6, hp6, hall, hit6, hreps6, hcs6⟩ hL
          obtain ⟨x, hxi⟩ : ∃ x, v.xs[i]? = some x := ⟨_, List.getElem?_eq_getElem hi⟩
          have hlt : ((i : Int) < (v.xs.length : Int)) := by omega
          simp only [wsv, wsg, wsh, wsl, cond_true, cond_false, exists_eq_left', Option.some.injEq, Option.isSome_some, List.getElem?_toArray, List.getElem?_cons_zero, List.getElem?_cons_succ, List.length_cons, List.length_nil, List.set_cons_zero, List.set_cons_succ, List.getD_cons_zero, List.getD_cons_succ, Nat.zero_add, Nat.add_zero, Nat.reduceAdd, Nat.reduceLT, Nat.lt_add_one, Nat.zero_lt_succ, decide_true, decide_false, ne_eq, reduceCtorEq, hlt]
          refine item_ld hit6 hreps6 hxi fun cs6 hr6 => ?_
          refine callV_cap (caps := [.pointer (some ⟨d, 0, none⟩), .pointer (some ⟨q, 0, none⟩)]) ?_
          refine W149_ok ?_
          unfold W149
          refine box_val hr6 fun b7 w7 sv7 kv7 hB7 hx7 hb7 => ?_
          refine hB7.ld fun cs7 hr7 => ?_
          have hd6 := hc6.at hd4 (by omega)
          have hq6 := hc6.at hq4 (by omega)
          have hd7 := hx7.at hd6 id
          have hq7 := hx7.at hq6 id
          have hp7 := hx7.at hp6 id
          have hw : IntKind.i64.wrap (((m' + 1 : Nat) : Int) - 1) = ((m' : Nat) : Int) := by rw [wrap_id (by omega) (by omega)]; omega
          simp only [wsv, wsg, wsh, wsl, cond_true, cond_false, exists_eq_left', Option.some.injEq, Option.isSome_some, List.getElem?_toArray, List.getElem?_cons_zero, List.getElem?_cons_succ, List.length_cons, List.length_nil, List.set_cons_zero, List.set_cons_succ, List.getD_cons_zero, List.getD_cons_succ, Nat.zero_add, Nat.add_zero, Nat.reduceAdd, Nat.reduceLT, Nat.lt_add_one, Nat.zero_lt_succ, decide_true, decide_false, ne_eq, reduceCtorEq, wsh, hd7, hq7, hw]
          refine ih x (List.mem_of_getElem? hxi) hr7 hp7 (by omega) (by omega) (by omega) fun r w8 hr8 hp8 hc8 => ?_
          simp only [wsv, wsg, wsh, wsl, cond_true, cond_false, exists_eq_left', Option.some.injEq, Option.isSome_some, List.getElem?_toArray, List.getElem?_cons_zero, List.getElem?_cons_succ, List.length_cons, List.length_nil, List.set_cons_zero, List.set_cons_succ, List.getD_cons_zero, List.getD_cons_succ, Nat.zero_add, Nat.add_zero, Nat.reduceAdd, Nat.reduceLT, Nat.lt_add_one, Nat.zero_lt_succ, decide_true, decide_false, ne_eq, reduceCtorEq, condW_b]
          have hc68 : Chg (fun k => k = p) w6 w8 := (Chg.of_ext hx7).trans hc8
          have hc58 := hc6.trans hc68
          refine ⟨fun hbad => ?_, fun hgood => ?_⟩
          · have hrf : r = false := by simpa using hbad
            rw [decide_eq_true (show (0 : Int) ≤ (i : Int) by omega)]
            have := itemsOk_no hxi (show goodR x m' (left - 1 - cntS v.xs i) = false by rw [← hr8]; exact hrf)
            rw [this] at hJ
            exact hJ w8 ⟨hc58, fun _ e => by cases e⟩
          · have hrt : r = true := by simpa using hgood
            have hg := hr8
            rw [hrt] at hg
            have hcx : (cntM x : Int) ≤ left - 1 - cntS v.xs i := by
              unfold goodR at hg
              have := hg.symm
              simp only [Bool.and_eq_true, decide_eq_true_eq] at this
              exact this.2
            rw [up1 (by omega)]
            refine hL w8 ⟨hc58, ?_, ?_, ?_, ?_, ?_⟩
            · rw [cntS, cntAt_get hxi]
              have e : left - 1 - ((cntS v.xs i : Nat) : Int) - ((cntM x : Nat) : Int) = left - 1 - ((cntS v.xs i + cntM x : Nat) : Int) := by omega
              rw [hp8 hrt, e]
            · intro j y hj hy
              rcases Nat.lt_or_ge j i with h | h
              · exact hall j y h hy
              · obtain rfl : j = i := by omega
                rw [hxi] at hy; cases hy
                exact hg.symm
            · exact (hit6.ext hx7).keep1 hp7 hc8 fun hn => .inr (by
                have := hreps.len
                have hl : 0 < L.length := List.length_pos_iff.2 hn
                omega)
            · exact vreps_keepi hp7 hc8 (hreps6.ext hx7)
            · rw [cntS, cntAt_get hxi]; omega
        · rintro w6 g6 L6 ⟨hc6, hp6, hall, hit6, hreps6, hcs6⟩
          simp only [wsv, wsg, wsh, wsl, cond_true, cond_false, exists_eq_left', Option.some.injEq, Option.isSome_some, List.getElem?_toArray, List.getElem?_cons_zero, List.getElem?_cons_succ, List.length_cons, List.length_nil, List.set_cons_zero, List.set_cons_succ, List.getD_cons_zero, List.getD_cons_succ, Nat.zero_add, Nat.add_zero, Nat.reduceAdd, Nat.reduceLT, Nat.lt_add_one, Nat.zero_lt_succ, decide_true, decide_false, ne_eq, reduceCtorEq, Int.lt_irrefl]
          rw [← cntL_S] at hp6 hcs6
          have := itemsOk_yes (fun i x h => hall i x (List.getElem?_eq_some_iff.1 h).1 h) hcs6
          have hj := hJ w6 ⟨hc6, fun _ _ => hp6⟩
          rw [this] at hj
          exact hj
      · rintro g6 w6 ⟨hc6, hp6⟩
        simp only [wsv, wsg, wsh, wsl, cond_true, cond_false, exists_eq_left', Option.some.injEq, Option.isSome_some, List.getElem?_toArray, List.getElem?_cons_zero, List.getElem?_cons_succ, List.length_cons, List.length_nil, List.set_cons_zero, List.set_cons_succ, List.getD_cons_zero, List.getD_cons_succ, Nat.zero_add, Nat.add_zero, Nat.reduceAdd, Nat.reduceLT, Nat.lt_add_one, Nat.zero_lt_succ, decide_true, decide_false, ne_eq, reduceCtorEq]
        refine hK _ w6 (goodR_deep hbk hk).symm (fun hr => ?_) (hcw.trans hc6)
        simp only [Bool.and_eq_true, decide_eq_true_eq] at hr
        rw [hp6 (decide_eq_true hr.1) hr.2]
        have : cntM v = 1 + cntL v.xs := by cases v; simp only [cntM, JV.xs]
        have e : left - 1 - ((cntL v.xs : Nat) : Int) = left - ((1 + cntL v.xs : Nat) : Int) := by omega
        rw [this, e]
end
end Go.Proofs.YtcnjpcadejcenaaGreatDoor

namespace Go.Proofs.YtcnjpcadejcenaaGreatDoor
open Go Go.Eng Go.RowKit
set_option maxRecDepth 100000
theorem sizeLM_big (xs : List JV) {n : Int} (h : 2000 < n) : sizeLM xs n = n := by
  cases xs with
  | nil => rfl
  | cons x xs => simp only [sizeLM]; rw [if_neg (by omega)]
theorem size_cnt : ∀ (m : Nat), m ≤ 24 → ∀ (v : JV), deepM v m = true → (sizeM v ≤ 2000 → sizeM v = cntM v) ∧ ((cntM v : Int) ≤ 2000 → sizeM v = cntM v) := by
  intro m
  induction m with
  | zero => intro _ v h; rw [deepM_zero] at h; cases h
  | succ m ih =>
    intro hm v h
    rw [deepM_succ, deepL_all, List.all_eq_true] at h
    have lst : ∀ (xs : List JV), (∀ x ∈ xs, deepM x m = true) → ∀ n : Int, 1 ≤ n → (sizeLM xs n ≤ 2000 → sizeLM xs n = n + cntL xs) ∧ (n + (cntL xs : Int) ≤ 2000 → sizeLM xs n = n + cntL xs) := by
      intro xs
      induction xs with
      | nil => intro _ n _; simp [sizeLM, cntL]
      | cons x xs ihx =>
        intro hx n hn
        have hxd := hx x List.mem_cons_self
        obtain ⟨b1, b2⟩ := size_bound m (by omega) x hxd
        obtain ⟨c1, c2⟩ := ih (by omega) x hxd
        have hc := cnt_pos x
        simp only [sizeLM, cntL]
        by_cases h2 : n ≤ 2000
        · rw [if_pos h2, wrap_id (by omega) (by omega)]
          obtain ⟨d1, d2⟩ := ihx (fun y hy => hx y (List.mem_cons_of_mem _ hy)) (n + sizeM x) (by omega)
          constructor
          · intro hs
            have hy : n + sizeM x ≤ 2000 := by
              apply Classical.byContradiction; intro hno
              rw [sizeLM_big xs (by omega)] at hs
              omega
            have e := c1 (by omega)
            rw [d1 hs, e]
            omega
          · intro hs
            have e := c2 (by omega)
            rw [d2 (by omega), e]
            omega
        · rw [if_neg h2]
          constructor
          · intro hs; omega
          · intro hs; omega
    obtain ⟨d1, d2⟩ := lst v.xs h 1 (by omega)
    have hc : cntM v = 1 + cntL v.xs := by cases v; simp only [cntM, JV.xs]
    rw [sizeM_eq, hc]
    constructor
    · intro hs; rw [d1 hs]; omega
    · intro hs; rw [d2 (by omega)]; omega
theorem goodM_R (v : JV) : goodR v 24 2000 = goodM v := by
  unfold goodR goodM
  cases hd : deepM v 24 with
  | false => simp
  | true =>
    obtain ⟨c1, c2⟩ := size_cnt 24 (Nat.le_refl _) v hd
    have : decide ((cntM v : Int) ≤ 2000) = decide (sizeM v ≤ 2000) := by
      rw [decide_eq_decide]
      constructor
      · intro h; rw [c2 h]; exact h
      · intro h; rw [← c1 h]; exact h
    rw [this]
    cases decide (sizeM v ≤ 2000) <;> cases plainM v <;> rfl
theorem good_cnt {v : JV} (h : goodM v = true) : cntM v ≤ 2000 := by
  rw [← goodM_R] at h
  unfold goodR at h
  simp only [Bool.and_eq_true, decide_eq_true_eq] at h
  have := h.2
  omega
theorem Bld.isb {w : World} {B b : Nat} {l : Str} (h : Bld w B b l) : Lib.IsBuilderF BdT U8 B b (Lib.byteCells l) w := by
  obtain ⟨p, v, h1, h2, h3, h4⟩ := h
  have hO : w.ownsRow B U8 1 v (u8s l).length (u8s l) := by rw [u8s_length]; exact h3
  have : Lib.BuilderAt BdT U8 B b p (u8s l) w := ⟨h4, v, h1, hO, fun e => bd_ne h1 (h3.block b e)⟩
  rcases h2 with rfl | rfl
  · exact .inl (Lib.BuilderAtF.of this)
  · exact .inr (Lib.BuilderAtF.of this)
theorem below_chg {B : Nat} {w w' : World} (h : Below B w w') : Chg (fun k => B ≤ k) w w' := ⟨h.os, h.tape, h.output, h.size, fun k _ hn => h.block k (by omega)⟩
section
variable [HX]
theorem vgood_p {v : JV} {w : World} {cs : List Value} {K : Value → World → Prop} (h : VRep w v cs) (hK : ∀ w', Ext w w' → K (.bool (goodM v)) w') : callF Tryz.prog 42 [.agg cs.toArray] w K := by
  refine W42_ok ?_
  unfold W42
  refine box_val h fun a w1 sv kv hB hx1 ha => ?_
  refine alloc_new fun p w2 hp hz2 hb2 hx2 => ?_
  refine st_at (off := 0) hb2 rfl (by simp) fun w3 hz3 hb3 hc3 => ?_
  have hx3 : Ext w1 w3 := hx2.new hc3 (by omega)
  have hp3 : w3.heap[p]? = some (.cells [i64 2000].toArray 3 (0, 0)) := by rw [hb3]; rfl
  refine (hB.ext hx3).ld fun cs2 h2 => ?_
  refine good_p v h2 hp3 (m := 24) (by omega) (by omega) (by omega) fun r w4 hr _ hc4 => ?_
  rw [hr, goodM_R]
  have s1 := hx1.size
  exact hK w4 ((hx1.trans hx3).then hc4 fun k hk e => by omega)
theorem len_p {w : World} {B b : Nat} {l : Str} {K : Value → World → Prop} (h : Bld w B b l) (hK : K (i64 (l.length : Int)) w) : callF Tryz.prog 46 [.pointer (some ⟨b, 0, none⟩)] w K := by
  refine of_calls (args := #[.pointer (some ⟨b, 0, none⟩)]) Tryz.call46 ((Tryz.Builder_Len_f B b (Lib.byteCells l) w h.isb).mono ?_)
  rintro e w' ⟨rfl, rfl⟩
  refine ⟨_, rfl, ?_⟩
  rw [Lib.byteCells_length]
  exact hK
theorem string_p {w : World} {B b : Nat} {l : Str} {K : Value → World → Prop} (h : Bld w B b l) (hB : B ≤ w.heap.size) (hK : ∀ w', Chg (fun k => B ≤ k) w w' → K (str l) w') : callF Tryz.prog 47 [.pointer (some ⟨b, 0, none⟩)] w K := by
  refine of_calls (args := #[.pointer (some ⟨b, 0, none⟩)]) Tryz.call47 ((Tryz.Builder_String_any_k B b l w h.isb hB).mono ?_)
  rintro e w' ⟨rfl, _, hb, _⟩
  exact ⟨_, rfl, hK w' (below_chg hb)⟩
theorem encode_p {v : JV} {w : World} {cs : List Value} {K : Value → World → Prop} (hT : TabU w) (hF : FmtOk w) (h : VRep w v cs) (hK : ∀ w', Ext w w' → K (.tuple #[str (encM 1 20 31 3 v).1, i64 (encM 1 20 31 3 v).2]) w') :
    callF Tryz.prog 16 [.agg cs.toArray] w K := by
  refine W16_ok ?_
  unfold W16
  unfold encM at hK
  refine box_vali h fun a w1 sv kv ha hI hx1 hage hz1 => ?_
  have ld : ∀ {w2 : World} {KK : Value → Prop}, Ext w1 w2 → (∀ cs2, VRep w v cs2 → KK (.agg cs2.toArray)) → ldW true 5 (.pointer (some ⟨a, 0, none⟩)) w2 KK := fun hx hk => by
    refine ld_all (hx.at ha id) rfl (hk _ ?_)
    obtain ⟨T, L, i1, i2⟩ := hI.items
    obtain ⟨T2, i3⟩ := hI.keys
    exact VRep.mk i1 i2 i3 hI.fits
  refine ld (Chg.refl _ _) fun cs2 h2 => ?_
  refine vgood_p (h2.ext hx1) fun w2 hx2 => ?_
  rw [un_not, condW_b]
  refine ⟨fun hb => ?_, fun hg => ?_⟩
  · have : goodM v = false := by simpa using hb
    rw [if_pos this] at hK
    exact hK w2 (hx1.trans hx2)
  have hgood : goodM v = true := by simpa using hg
  rw [if_neg (by rw [hgood]; simp)] at hK
  refine ld hx2 fun cs3 h3 => ?_
  refine known_p v (h3.ext (hx1.trans hx2)) fun w3 hx3 => ?_
  rw [un_not, condW_b]
  refine ⟨fun hb => ?_, fun hg => ?_⟩
  · have : knownM v = false := by simpa using hb
    rw [if_pos this] at hK
    exact hK w3 ((hx1.trans hx2).trans hx3)
  have hknown : knownM v = true := by simpa using hg
  rw [if_neg (by rw [hknown]; simp)] at hK
  refine ld (hx2.trans hx3) fun cs4 h4 => ?_
  have hx13 := (hx1.trans hx2).trans hx3
  refine texts_p v hT hx13 (h4.ext hx13) fun w4 hx4 => ?_
  rw [un_not, condW_b]
  refine ⟨fun hb => ?_, fun hg => ?_⟩
  · have : textsM v = false := by simpa using hb
    rw [if_pos this] at hK
    exact hK w4 (hx13.trans hx4)
  have htexts : textsM v = true := by simpa using hg
  rw [if_neg (by rw [htexts]; simp)] at hK
  have hx14 := hx13.trans hx4
  refine bnew (B := w4.heap.size) (Nat.le_refl _) fun b w5 hb hb5 hx5 => ?_
  refine ld ((hx2.trans hx3).trans (hx4.trans hx5)) fun cs5 h5 => ?_
  have hgv := good_v hgood
  have hcnt := good_cnt hgood
  refine write_p v h5 (hx14.trans hx5) hx14.size hx5.size hb5 hgv.plain htexts hknown hgv.few (by rw [List.length_nil]; omega) hF fun w6 hb6 hc6 => ?_
  rw [List.nil_append] at hb6
  have hx6 : Ext w w6 := BCh.new (hx14.trans hx5) hx14.size hb6.base hc6
  refine len_p hb6 ?_
  rw [bin_gtr, condW_dec]
  refine ⟨fun hl => ?_, fun hl => ?_⟩
  · rw [if_pos (by omega)] at hK
    exact hK w6 hx6
  · rw [if_neg (by omega)] at hK
    refine string_p hb6 (by have := hx5.size; have := hc6.size; omega) fun w7 hc7 => ?_
    exact hK w7 (hx6.then hc7 fun k hk e => by have := hx14.size; omega)
end
end Go.Proofs.YtcnjpcadejcenaaGreatDoor

namespace Go.Proofs.YtcnjpcadejcenaaGreatDoor
open Go Go.Eng
set_option maxRecDepth 100000
variable [HX]

/- math_bits.TrailingZeros -/
def plan248 : Plan := { js := [], ds := [] }
def W248 (v0 : Value) (w : World) (K : Value → World → Prop) : Prop :=
  condW (.bool false) (
    cvtW .u32 v0 fun t4 =>
    callF Tryz.prog 272 [t4] w fun t5 w1 =>
    K t5 w1) (
    callF Tryz.prog 273 [v0] w fun t7 w2 =>
    K t7 w2)
theorem W248_eq (v0 : Value) (w : World) (K : Value → World → Prop) : funW Tryz.prog Tryz.f248 plan248 [v0] w K = W248 v0 w K := by kernel_rfl
theorem W248_chk : chkFun Tryz.prog Tryz.f248 plan248 1 = true := by kernel_rfl
theorem W248_ok {v0 : Value} {w : World} {K : Value → World → Prop} (h : W248 v0 w K) : callF Tryz.prog 248 [v0] w K :=
  tie Tryz.prog 248 Tryz.f248 plan248 [v0] w K 1 (W248 v0 w K) rfl mixed Tryz.func248 W248_chk (W248_eq v0 w K) Tryz.call248 h

/- math_bits.TrailingZeros32 -/
def plan272 : Plan := { js := [], ds := [] }
def W272 (v0 : Value) (w : World) (K : Value → World → Prop) : Prop :=
  binW .eql v0 (.int .u32 0) fun t4 =>
  condW t4 (
    K (.int .i64 32) w) (
    unW .neg v0 fun t7 =>
    binW .and v0 t7 fun t8 =>
    binW .mul t8 (.int .u32 125613361) fun t9 =>
    binW .shr t9 (.int .u64 27) fun t10 =>
    ixaW (some 32) 1 (.pointer (some ⟨6, 0, none⟩)) t10 fun t11 =>
    ldW false 1 t11 w fun t12 =>
    cvtW .i64 t12 fun t13 =>
    K t13 w)
theorem W272_eq (v0 : Value) (w : World) (K : Value → World → Prop) : funW Tryz.prog Tryz.f272 plan272 [v0] w K = W272 v0 w K := by kernel_rfl
theorem W272_chk : chkFun Tryz.prog Tryz.f272 plan272 1 = true := by kernel_rfl
theorem W272_ok {v0 : Value} {w : World} {K : Value → World → Prop} (h : W272 v0 w K) : callF Tryz.prog 272 [v0] w K :=
  tie Tryz.prog 272 Tryz.f272 plan272 [v0] w K 1 (W272 v0 w K) rfl mixed Tryz.func272 W272_chk (W272_eq v0 w K) Tryz.call272 h

/- math_bits.TrailingZeros64 -/
def plan273 : Plan := { js := [], ds := [] }
def W273 (v0 : Value) (w : World) (K : Value → World → Prop) : Prop :=
  binW .eql v0 (.int .u64 0) fun t4 =>
  condW t4 (
    K (.int .i64 64) w) (
    unW .neg v0 fun t7 =>
    binW .and v0 t7 fun t8 =>
    binW .mul t8 (.int .u64 285870213051353865) fun t9 =>
    binW .shr t9 (.int .u64 58) fun t10 =>
    ixaW (some 64) 1 (.pointer (some ⟨7, 0, none⟩)) t10 fun t11 =>
    ldW false 1 t11 w fun t12 =>
    cvtW .i64 t12 fun t13 =>
    K t13 w)
theorem W273_eq (v0 : Value) (w : World) (K : Value → World → Prop) : funW Tryz.prog Tryz.f273 plan273 [v0] w K = W273 v0 w K := by kernel_rfl
theorem W273_chk : chkFun Tryz.prog Tryz.f273 plan273 1 = true := by kernel_rfl
theorem W273_ok {v0 : Value} {w : World} {K : Value → World → Prop} (h : W273 v0 w K) : callF Tryz.prog 273 [v0] w K :=
  tie Tryz.prog 273 Tryz.f273 plan273 [v0] w K 1 (W273 v0 w K) rfl mixed Tryz.func273 W273_chk (W273_eq v0 w K) Tryz.call273 h


end Go.Proofs.YtcnjpcadejcenaaGreatDoor

namespace Go.Proofs.YtcnjpcadejcenaaGreatDoor
open Go Go.Eng Go.RowKit
set_option maxRecDepth 100000
/-- the one cell of the library's table that is read -/
def TabB (w : World) : Prop := w.cell? ⟨7, 15, none⟩ = some (.int .u8 4)
def hexDigits : Str := [48, 49, 50, 51, 52, 53, 54, 55, 56, 57, 97, 98, 99, 100, 101, 102, 103, 104, 105, 106, 107, 108, 109, 110, 111, 112, 113, 114, 115, 116, 117, 118, 119, 120, 121, 122]
theorem hex_at : ∀ n : Fin 16, hexDigits[n.val]? = some (hexD n.val) := by decide +kernel
theorem and15 (n : Nat) (h : n < 1000) : IntKind.u64.wrap (BitVec.ofInt IntKind.u64.bits (n : Int) &&& BitVec.ofInt IntKind.u64.bits 15).toNat = ((n % 16 : Nat) : Int) := by
  have : ∀ x : Fin 1000, IntKind.u64.wrap (BitVec.ofInt IntKind.u64.bits ((x.val : Nat) : Int) &&& BitVec.ofInt IntKind.u64.bits 15).toNat = ((x.val % 16 : Nat) : Int) := by decide +kernel
  exact this ⟨n, h⟩
theorem shr64 (r k : Nat) (hk : k ≤ 64) (K : Value → Prop) : binW .shr (.int .u64 (r : Int)) (.int .u64 (k : Int)) K ↔ K (.int .u64 ((r / 2 ^ k : Nat) : Int)) := by
  have e : (r : Int).fdiv (2 ^ min (k : Int).toNat IntKind.u64.bits) = ((r / 2 ^ k : Nat) : Int) := by
    rw [Int.toNat_natCast, show min k IntKind.u64.bits = k from Nat.min_eq_left hk, Int.fdiv_eq_ediv_of_nonneg _ (by exact Int.le_of_lt (Int.pow_pos (by decide)))]
    rw [Int.natCast_ediv, Int.natCast_pow]; rfl
  rw [bin_shr, e]
  constructor
  · exact fun h => h.2
  · exact fun h => ⟨by omega, h⟩
section
variable [HX]
theorem tz_p {w : World} {K : Value → World → Prop} (hB : TabB w) (hK : K (i64 4) w) : callF Tryz.prog 248 [.int .u64 16] w K := by
  refine W248_ok ?_
  unfold W248
  rw [condW_false]
  refine W273_ok ?_
  unfold W273
  rw [bin_eql, show decide ((16 : Int) = 0) = false from rfl, condW_false, un_neg, bin_and]
  have e1 : IntKind.u64.wrap (BitVec.ofInt IntKind.u64.bits 16 &&& BitVec.ofInt IntKind.u64.bits (IntKind.u64.wrap (0 - 16))).toNat = ((16 : Nat) : Int) := by decide +kernel
  rw [e1, bin_mul]
  have e2 : IntKind.u64.wrap (((16 : Nat) : Int) * 285870213051353865) = ((4573923408821661840 : Nat) : Int) := by decide +kernel
  rw [e2, show (58 : Int) = ((58 : Nat) : Int) from rfl, shr64 _ 58 (by omega), show 4573923408821661840 / 2 ^ 58 = 15 by decide, ixa_arr]
  refine ⟨by omega, by omega, ?_⟩
  rw [ld_one]
  refine ⟨.int .u8 4, ?_, ?_⟩
  · exact hB
  · rw [cvt_int]; exact hK
theorem pow2_p {w : World} {K : Value → World → Prop} (hK : K (.bool true) w) : callF Tryz.prog 247 [i64 16] w K := by
  refine W247_ok ?_
  unfold W247
  rw [bin_sub, bin_and, bin_eql]
  have e : decide (IntKind.i64.wrap (BitVec.ofInt IntKind.i64.bits 16 &&& BitVec.ofInt IntKind.i64.bits (IntKind.i64.wrap (16 - 1))).toNat = 0) = true := by decide +kernel
  rw [e]
  exact hK
theorem u64w {n : Nat} (h : n < 1000000) : IntKind.u64.wrap (n : Int) = (n : Int) := u64_wrap (by omega) (by omega)
theorem fmt_p {r : Nat} {w : World} {K : Value → World → Prop} (hr : r < 32) (hB : TabB w) (hK : ∀ w', Ext w w' → K (str ([49] ++ hexS r)) w') : callF Tryz.prog 154 [i64 ((r + 256 : Nat) : Int), i64 16] w K := by
  refine W154_ok ?_
  unfold W154
  refine W172_ok ?_
  unfold W172
  rw [bin_eql, show decide ((16 : Int) = 10) = false from rfl, condW_false, cvt_int, u64w (by omega), bin_lss, decide_eq_false (by omega)]
  refine W199_ok ?_
  unfold W199
  refine JoinW.cut (fun s' w' => s' = [] ∧ w' = w) ?_ ?_
  · rw [bin_lss, show decide ((16 : Int) < 2) = false from rfl]
    simp only [wsv, wsg, wsh, wsl, cond_true, cond_false, exists_eq_left', Option.some.injEq, Option.isSome_some, List.getElem?_toArray, List.getElem?_cons_zero, List.getElem?_cons_succ, List.length_cons, List.length_nil, List.set_cons_zero, List.set_cons_succ, List.getD_cons_zero, List.getD_cons_succ, Nat.zero_add, Nat.add_zero, Nat.reduceAdd, Nat.reduceLT, Nat.lt_add_one, Nat.zero_lt_succ, decide_true, decide_false, ne_eq, reduceCtorEq, show decide ((16 : Int) = 10) = false from rfl, show decide ((36 : Int) < 16) = false from rfl]
    intros; trivial
  rintro s' g w1 ⟨rfl, rfl⟩
  refine alloc_new fun A w2 hA hz2 hb2 hx2 => ?_
  refine JoinW.cut (fun s' w' => s' = [.int .u64 ((r + 256 : Nat) : Int)] ∧ w' = w2) ?_ ?_
  · rw [condW_false]; exact ⟨rfl, rfl⟩
  rintro s' g w3 ⟨rfl, rfl⟩
  simp only [List.getD_cons_zero]
  refine JoinW.cut (fun s' w' => s' = [i64 62] ∧ Ext w1 w' ∧ ∃ T, SlAt w' T (.slice (some ⟨A, 62, none⟩) 3 3) 3 (u8s ([49] ++ hexS r))) ?_ ?_
  · refine pow2_p ?_
    rw [condW_true, cvt_int, show IntKind.u64.wrap 16 = 16 by decide]
    refine tz_p (cell_ext hx2 hB) ?_
    rw [cvt_int, show IntKind.u64.wrap 4 = ((4 : Nat) : Int) by decide, cvt_int, show IntKind.u64.wrap 16 = 16 by decide, cvt_int, show IntKind.u64.wrap 16 = 16 by decide, bin_sub, show IntKind.u64.wrap (16 - 1) = 15 by decide]
    have hd16 : ∀ n, n < 16 → ((hexD n).toNat : Int) < 256 := fun n _ => by have := UInt8.toNat_lt (hexD n); omega
    refine ⟨fun s' w' => ∃ (k : Nat) (c : Array Value) (T : TypeId), k ≤ 2 ∧ s' = [.int .u64 (((r + 256) / 16 ^ k : Nat) : Int), i64 ((65 - k : Nat) : Int)] ∧ w'.heap[A]? = some (.cells c T (0, 0)) ∧ c.size = 65 ∧ (∀ j, j < k → c[64 - j]? = some (u8 (hexD ((r + 256) / 16 ^ j % 16)).toNat)) ∧ Ext w1 w',
      fun s' _ => match s' with | [_, .int _ i] => i.toNat | _ => 0, ⟨0, _, _, by omega, by simp, hb2, by simp, fun j h => by omega, hx2⟩, ?_⟩
    rintro s' g w4 ⟨k, c, T, hk, rfl, hc, hsz, hcs, hx4⟩
    simp only [List.getD_cons_zero, List.getD_cons_succ]
    have ew : IntKind.i64.wrap (((65 - k : Nat) : Int) - 1) = ((64 - k : Nat) : Int) := by rw [wrap_id (by omega) (by omega)]; omega
    have store : ∀ (n : Nat) (KK : World → Prop), n < 16 → (∀ w', Ext w1 w' → w'.heap[A]? = some (.cells (c.setIfInBounds (64 - k) (u8 (hexD n).toNat)) T (0, 0)) → KK w') →
        ixaW (some 65) 1 (.pointer (some ⟨A, 0, none⟩)) (i64 ((64 - k : Nat) : Int)) fun t => stW 1 t (u8 (hexD n).toNat) w4 KK := by
      intro n KK hn hkk
      rw [ixa_arr]
      refine ⟨by omega, by omega, ?_⟩
      rw [add_mk, Int.toNat_natCast, Nat.zero_add, Nat.mul_one]
      refine st_at hc rfl (by omega) fun w5 hz5 hb5 hc5 => hkk w5 (hx4.then hc5 fun k hk e => by omega) hb5
    have dig : ∀ (n : Nat) (KK : Value → Prop), n < 16 → KK (u8 (hexD n).toNat) → ixsW (.string (ofL hexDigits)) (.int .u64 (n : Int)) KK := by
      intro n KK hn hkk
      rw [ixs_str]
      exact ⟨by omega, hexD n, by rw [Int.toNat_natCast]; exact hex_at ⟨n, hn⟩, hkk⟩
    rw [bin_geq, condW_dec]
    refine ⟨fun hge => ?_, fun hlt => ?_⟩
    · have hk1 : k ≤ 1 := by
        apply Classical.byContradiction; intro hno
        obtain rfl : k = 2 := by omega
        omega
      have hlt1000 : (r + 256) / 16 ^ k < 1000 := by
        have : (r + 256) / 16 ^ k ≤ r + 256 := Nat.div_le_self _ _
        omega
      rw [bin_sub, ew, bin_and, and15 _ hlt1000]
      refine dig _ _ (Nat.mod_lt _ (by omega)) ?_
      refine store _ _ (Nat.mod_lt _ (by omega)) fun w5 hx5 hb5 => ?_
      rw [shr64 _ 4 (by omega)]
      refine ⟨⟨k + 1, _, T, by omega, ?_, hb5, by simp [hsz], fun j hj => ?_, hx5⟩, ?_⟩
      · have e : (r + 256) / 16 ^ (k + 1) = (r + 256) / 16 ^ k / 2 ^ 4 := by
          rw [show 16 ^ (k + 1) = 16 ^ k * 16 from rfl, ← Nat.div_div_eq_div_mul]
        rw [show 65 - (k + 1) = 64 - k by omega, e]
      · rw [Array.getElem?_setIfInBounds]
        by_cases hjk : j = k
        · subst hjk; rw [if_pos rfl, if_pos (by omega)]
        · rw [if_neg (by omega)]; exact hcs j (by omega)
      · show ((64 - k : Nat) : Int).toNat < ((65 - k : Nat) : Int).toNat
        omega
    · have hk2 : k = 2 := by
        apply Classical.byContradiction; intro hno
        have : k = 0 ∨ k = 1 := by omega
        rcases this with rfl | rfl <;> omega
      subst hk2
      rw [bin_sub, ew]
      have h1 : (r + 256) / 16 ^ 2 = 1 := by omega
      rw [h1]
      refine dig 1 _ (by omega) ?_
      refine store 1 _ (by omega) fun w5 hx5 hb5 => ?_
      refine ⟨rfl, hx5, T, ⟨some ⟨A, 62, none⟩, 3, rfl, Nat.le_refl _, fun e => (by cases e), fun _ => ⟨A, 62, _, _, rfl, hb5, fun i hi => ?_⟩⟩⟩
      have h0' := hcs 0 (by omega)
      have h1' := hcs 1 (by omega)
      have hi3 : i < 3 := by simpa [u8s_length, hexS] using hi
      rw [u8s_get, Array.getElem?_setIfInBounds]
      obtain rfl | rfl | rfl : i = 0 ∨ i = 1 ∨ i = 2 := by omega
      · rw [if_pos rfl, if_pos (by omega)]; rfl
      · rw [if_neg (by omega), show 62 + 1 = 64 - 1 from rfl, h1', show (r + 256) / 16 ^ 1 % 16 = r / 16 by omega]
        have : hexD (r / 16) = b8 (48 + r / 16) := by unfold hexD; rw [if_pos (by omega)]
        rw [this]; rfl
      · rw [if_neg (by omega), show 62 + 2 = 64 - 0 from rfl, h0', show (r + 256) / 16 ^ 0 % 16 = r % 16 by omega]; rfl
  rintro s' g w4 ⟨rfl, hx4, Ts, hs4⟩
  refine JoinW.cut (fun s' w' => s' = [i64 62] ∧ w' = w4) ?_ ?_
  · rw [condW_false]; exact ⟨rfl, rfl⟩
  rintro s' g w5 ⟨rfl, rfl⟩
  simp only [List.getD_cons_zero]
  rw [condW_false]
  unfold slaW
  dsimp only
  rw [bd_none, bd_none, bd_some]
  refine ⟨by omega, by omega, ?_⟩
  have ea : (⟨A, 0, none⟩ : Addr).add 62 = ⟨A, 62, none⟩ := by rw [add_mk]
  rw [show ((62 : Int).toNat) = 62 from rfl, if_neg (by omega), show 62 * 1 = 62 from rfl, ea, conv_bytes (l := [49] ++ hexS r) (e := U8) (by kernel_rfl) (by kernel_rfl) (by kernel_rfl) hs4]
  rw [ext_tuple]
  refine ⟨_, rfl, ?_⟩
  rw [ext_tuple]
  exact ⟨_, rfl, hK _ hx4⟩
theorem fmt_ok {w0 : World} (hB : TabB w0) : FmtOk w0 := fun r hr w K hx hK => fmt_p hr (cell_ext hx hB) hK
end
end Go.Proofs.YtcnjpcadejcenaaGreatDoor

namespace Go.Proofs.YtcnjpcadejcenaaGreatDoor
open Go Go.Eng Go.Num
set_option maxRecDepth 100000
abbrev oneV : JV := .mk 3 false [49] [] []
section
variable [HX]
theorem signed_1 {w : World} {K : Value → World → Prop} (hK : K (str [49]) w) : callF Tryz.prog 68 [.bool false, str [49]] w K := by
  refine W68_ok ?_
  unfold W68
  simp only [wsv, wsg, wsh, wsl, cond_true, cond_false, exists_eq_left', Option.some.injEq, Option.isSome_some, List.getElem?_toArray, List.getElem?_cons_zero, List.getElem?_cons_succ, List.length_cons, List.length_nil, List.set_cons_zero, List.set_cons_succ, List.getD_cons_zero, List.getD_cons_succ, Nat.zero_add, Nat.add_zero, Nat.reduceAdd, Nat.reduceLT, Nat.lt_add_one, Nat.zero_lt_succ, decide_true, decide_false, ne_eq, reduceCtorEq]
  intros
  exact hK
theorem digits_1 {w : World} {K : Value → World → Prop} (hK : ∀ w', Ext w w' → K (str [49]) w') : callF Tryz.prog 26 [i64 1] w K := by
  refine W26_ok ?_
  unfold W26
  have e0 : decide ((1 : Int) = 0) = false := rfl
  rw [bin_eql, e0, condW_false]
  refine ⟨fun s w' => (s = [str [], i64 1] ∧ w' = w) ∨ (s = [str [49], i64 0] ∧ Ext w w'), fun s _ => match s with | [_, .int _ i] => i.toNat | _ => 0, .inl ⟨rfl, rfl⟩, ?_⟩
  rintro s g w2 (⟨rfl, rfl⟩ | ⟨rfl, hx⟩)
  · have e1 : decide ((1 : Int) ≠ 0) = true := rfl
    have e2 : (1 : Int).tmod 10 = 1 := rfl
    have e3 : decide ((1 : Int) < 0) = false := rfl
    simp only [List.getD_cons_zero, List.getD_cons_succ]
    rw [bin_neq, e1, condW_true, bin_rem]
    refine ⟨by decide, ?_⟩
    rw [e2]
    refine JoinW.go ?_
    rw [bin_lss, e3, condW_false]
    intro g1
    simp only [List.getD_cons_zero, List.getD_cons_succ]
    rw [bin_add, cvt_int]
    have e4 : IntKind.u8.wrap (IntKind.i64.wrap (48 + 1)) = 49 := rfl
    rw [e4]
    unfold bslW
    rw [put_int, put_nil]
    have hx : Ext w2 (w2.alloc (.cells #[.int .u8 49] 5)) := Chg.alloc (Chg.refl _ _) _
    have hb : Byt (w2.alloc (.cells #[.int .u8 49] 5)) 5 (.slice (some ⟨w2.heap.size, 0, none⟩) 1 1) [49] :=
      ⟨_, _, rfl, Nat.le_refl _, fun e => (by cases e), fun _ => ⟨_, _, _, _, rfl, heap_anew _ _ _ rfl, fun i _ => by rw [Nat.zero_add]; simp [u8s]⟩⟩
    refine ⟨by decide, ?_⟩
    refine (conv_bytes (e := 5) (by kernel_rfl) (by kernel_rfl) (by kernel_rfl) hb).2 ?_
    rw [bin_sadd, bin_quo]
    refine ⟨by decide, by decide, .inr ⟨rfl, hx⟩, ?_⟩
    show (0 : Int).toNat < (1 : Int).toNat
    decide
  · have e1 : decide ((0 : Int) ≠ 0) = false := rfl
    have e3 : decide ((1 : Int) < 0) = false := rfl
    simp only [List.getD_cons_zero, List.getD_cons_succ]
    rw [bin_neq, e1, condW_false, bin_lss, e3]
    exact signed_1 (hK _ hx)
theorem int_1 {w : World} {K : Value → World → Prop} (hK : ∀ cs w', Ext w w' → (∀ w'', VRep w'' oneV cs) → K (.agg cs.toArray) w') : callF Tryz.prog 63 [i64 1] w K := by
  refine W63_ok ?_
  unfold W63
  refine alloc_new fun b w1 hb hz hbb hx => ?_
  refine digits_1 fun w2 hx2 => ?_
  have hbb2 := hx2.at hbb id
  simp only [wsv, wsg, wsh, wsl, cond_true, cond_false, exists_eq_left', Option.some.injEq, Option.isSome_some, List.getElem?_toArray, List.getElem?_cons_zero, List.getElem?_cons_succ, List.length_cons, List.length_nil, List.set_cons_zero, List.set_cons_succ, List.getD_cons_zero, List.getD_cons_succ, Nat.zero_add, Nat.add_zero, Nat.reduceAdd, Nat.reduceLT, Nat.lt_add_one, Nat.zero_lt_succ, decide_true, decide_false, ne_eq, reduceCtorEq]
  refine ret_agg hbb2 rfl rfl rfl fun w' hc => ?_
  have hx' : Ext w w' := (hx.trans hx2).new hc (by omega)
  exact hK _ w' hx' fun w'' => (VRep.mk (v := oneV) (SlAt.nil w'' VT) rfl (SlAt.nil _ ST) ⟨by decide, by decide, by decide, by simp [oneV, JV.ks]⟩)
theorem text_1 {s : Str} (hs : s.length ≤ 9223372036854775807) {w : World} {K : Value → World → Prop} (hK : ∀ cs w', Ext w w' → (∀ w'', VRep w'' (.mk 4 false s [] []) cs) → K (.agg cs.toArray) w') : callF Tryz.prog 120 [str s] w K := by
  refine W120_ok ?_
  unfold W120
  refine alloc_new fun b w1 hb hz hbb hx => ?_
  simp only [wsv, wsg, wsh, wsl, cond_true, cond_false, exists_eq_left', Option.some.injEq, Option.isSome_some, List.getElem?_toArray, List.getElem?_cons_zero, List.getElem?_cons_succ, List.length_cons, List.length_nil, List.set_cons_zero, List.set_cons_succ, List.getD_cons_zero, List.getD_cons_succ, Nat.zero_add, Nat.add_zero, Nat.reduceAdd, Nat.reduceLT, Nat.lt_add_one, Nat.zero_lt_succ, decide_true, decide_false, ne_eq, reduceCtorEq]
  have h : ∀ w, VRep w (.mk 4 false s [] []) [i64 4, .bool false, str s, .slice none 0 0, .slice none 0 0] := fun w => VRep.mk (v := .mk 4 false s [] []) (T1 := 0) (T2 := 0) (SlAt.nil w 0) (by simp [JV.xs, VReps]) (SlAt.nil w 0) ⟨by simp [JV.xs], by simp [JV.ks], by simpa [JV.t] using hs, by simp [JV.ks]⟩
  exact ret_val hbb rfl (by omega) hx (h w) fun w2 hx2 _ h2 => hK _ w2 hx2 h
/-- what a call hands back in rows of its own, as a value -/
theorem OwnV.rep {w0 w : World} {base : Nat} {v : JV} {sv kv : Value} (h : OwnV w0 w base v sv kv) (hx : Ext w0 w) : VRep w v [i64 v.k, .bool v.b, str v.t, sv, kv] := by
  obtain ⟨sv', kv', T1, T2, L, he, h1, h2, h3, h4⟩ := h.val
  simp only [List.cons.injEq, and_true, true_and] at he
  obtain ⟨rfl, rfl⟩ := he
  exact VRep.mk h1 (h2.ext hx) h3 h4
/-- put, as a value -/
theorem put_v {v x : JV} {cs ds : List Value} {k : Str} {w : World} {K : Value → World → Prop} (h : VRep w v cs) (hd : VRep w x ds) (hl : v.k = 6 → v.ks.length = v.xs.length) (hfew : v.ks.length ≤ 100000) (hk : k.length ≤ 9223372036854775807)
    (hK : ∀ es w', Ext w w' → VRep w' (putM v k x) es → K (.agg es.toArray) w') : callF Tryz.prog 62 [.agg cs.toArray, str k, .agg ds.toArray] w K := by
  refine put_ref h hd hl hfew hk fun sv kv base w' hx hb hO => ?_
  have hr := hO.rep hx
  have e : (putM v k x).k = 6 ∧ (putM v k x).b = false ∧ (putM v k x).t = [] := by unfold putM; split <;> exact ⟨rfl, rfl, rfl⟩
  rw [e.1, e.2.1, e.2.2] at hr
  exact hK _ w' hx hr
theorem drop_v {v : JV} {cs : List Value} {k : Str} {w : World} {K : Value → World → Prop} (h : VRep w v cs) (he : v.k = 6) (hl : v.ks.length = v.xs.length) (hfew : v.ks.length ≤ 100000)
    (hK : ∀ es w', Ext w w' → VRep w' (mkO (dropP (v.ks.zip v.xs) k)) es → K (.agg es.toArray) w') : callF Tryz.prog 123 [.agg cs.toArray, str k] w K := by
  refine drop_ref h (Chg.refl _ _) he hl hfew fun sv kv base w' hx hb hO => ?_
  exact hK _ w' hx (hO.rep hx)
/-- a value put into a value, in whichever order Go takes the steps -/
theorem put_orders {g : FuncId} {A : List Value} {V X : JV} {p : Nat} {sp kp : Value} {k : Str} {w : World} {J : List Value → World → Prop} (hP : ValB w p V sp kp)
    (hX : ∀ {w : World} {K : Value → World → Prop}, (∀ cs w', Ext w w' → (∀ w'', VRep w'' X cs) → K (.agg cs.toArray) w') → callF Tryz.prog g A w K)
    (hl : V.k = 6 → V.ks.length = V.xs.length) (hfew : V.ks.length ≤ 100000) (hk : k.length ≤ 9223372036854775807)
    (hJ : ∀ q w' sq kq, ValB w' q (putM V k X) sq kq → Ext w w' → J [ptr q] w') :
    ldW true 5 (ptr p) w fun t6 =>
    (callF Tryz.prog g A w fun t7 w7 =>
     (ldW true 5 (ptr p) w7 fun x => x = t6) ∧
     (callF Tryz.prog 62 [t6, str k, t7] w7 fun t8 w8 => allocW VT [(.int .i64 0), (.bool false), (.string (ofL [])), (.slice none 0 0), (.slice none 0 0)] w8 fun t2 w9 => stW 5 t2 t8 w9 fun w10 => J [t2] w10) ∧
     (allocW VT [(.int .i64 0), (.bool false), (.string (ofL [])), (.slice none 0 0), (.slice none 0 0)] w7 fun t2 w11 => (ldW true 5 (ptr p) w11 fun x => x = t6) ∧ callF Tryz.prog 62 [t6, str k, t7] w11 fun t8 w12 => stW 5 t2 t8 w12 fun w13 => J [t2] w13)) ∧
    (allocW VT [(.int .i64 0), (.bool false), (.string (ofL [])), (.slice none 0 0), (.slice none 0 0)] w fun t2 w14 => (ldW true 5 (ptr p) w14 fun x => x = t6) ∧ callF Tryz.prog g A w14 fun t7 w15 => (ldW true 5 (ptr p) w15 fun x => x = t6) ∧ callF Tryz.prog 62 [t6, str k, t7] w15 fun t8 w16 => stW 5 t2 t8 w16 fun w17 => J [t2] w17) := by
  have hrep := hP.rep
  have e : (putM V k X).k = 6 ∧ (putM V k X).b = false ∧ (putM V k X).t = [] := by unfold putM; split <;> exact ⟨rfl, rfl, rfl⟩
  have last : ∀ {b : Nat} {w2 w1 : World} {cs : List Value}, Ext w w1 → w.heap.size ≤ b → w1.heap[b]? = some (.cells zv.toArray VT (0, 0)) → (∀ w'', VRep w'' X cs) →
      callF Tryz.prog 62 [.agg [i64 V.k, .bool V.b, str V.t, sp, kp].toArray, str k, .agg cs.toArray] w1 fun t8 w16 => stW 5 (ptr b) t8 w16 fun w17 => J [ptr b] w17 := by
    intro b w2 w1 cs hx hb hbb hc
    refine put_ref0 hrep (hc w) hx hl hfew hk fun sv kv base w3 hx3 hbase hO => ?_
    have hbb3 := hx3.at hbb id
    have hlt := at_lt hbb
    refine st_agg_at (l := [i64 6, .bool false, str [], sv, kv]) hbb3 rfl rfl (obj_one hO.one.1 hO.one.2) fun w4 hz4 hb4 hc4 => ?_
    have hO4 := hO.chg hc4 fun j hj _ e => by omega
    have hx4 : Ext w w4 := (hx.trans hx3).new hc4 hb
    obtain ⟨L, i1, i2⟩ := hO4.items
    refine hJ b w4 sv kv ⟨?_, ⟨VT, L, i1.sl, i2.ext hx4⟩, ⟨ST, hO4.keys.sl⟩, hO4.fits⟩ hx4
    rw [e.1, e.2.1, e.2.2]
    exact hb4
  refine ld_all hP.hb rfl ⟨?_, ?_⟩
  · refine hX fun cs w7 hx7 hc => ⟨ld_all (hP.ext hx7).hb rfl rfl, ?_, ?_⟩
    · refine put_v (hrep.ext hx7) (hc w7) hl hfew hk fun es w8 hx8 h8 => ?_
      refine copy_new h8 fun q w10 sq kq hQ hx10 => ?_
      exact hJ q w10 sq kq hQ (hx7.trans (hx8.trans hx10))
    · refine alloc_new fun b w11 hb hz hbb hx11 => ⟨ld_all (hP.ext (hx7.trans hx11)).hb rfl rfl, ?_⟩
      have := hx7.size
      exact last (w2 := w11) (hx7.trans hx11) (by omega) hbb hc
  · refine alloc_new fun b w14 hb hz hbb hx14 => ⟨ld_all (hP.ext hx14).hb rfl rfl, ?_⟩
    refine hX fun cs w15 hx15 hc => ⟨ld_all (hP.ext (hx14.trans hx15)).hb rfl rfl, ?_⟩
    exact last (w2 := w15) (hx14.trans hx15) (by omega) (hx15.at hbb id) hc
abbrev nb : Str := [110, 101, 119, 95, 98]
abbrev emptyV : JV := .mk 6 false [] [] []
abbrev objA : JV := .mk 6 false [] [oneV] [[97]]
abbrev objB : JV := .mk 6 false [] [oneV, oneV] [[97], nb]
theorem putA : putM emptyV [97] oneV = objA := by rfl
theorem putB : putM objA nb oneV = objB := by rfl
theorem goodA : GoodV objA := ⟨by decide, by decide⟩
theorem goodB : GoodV objB := ⟨by decide, by decide⟩
theorem mrgAA : (mrg objA.ks objA.ks).filter (differsM objA objA) = [] := by
  have e : mrg [[97]] [[97]] = [[97]] := by simp [mrg, less_irr]
  show (mrg [[97]] [[97]]).filter _ = _
  rw [e]; decide
theorem mrgAB : (mrg objA.ks objB.ks).filter (differsM objA objB) = [nb] := by
  have e : mrg [[97]] [[97], nb] = [[97], nb] := by simp [mrg, less_irr]
  show (mrg [[97]] [[97], nb]).filter _ = _
  rw [e]; decide
end
end Go.Proofs.YtcnjpcadejcenaaGreatDoor

namespace Go.Proofs.YtcnjpcadejcenaaGreatDoor
open Go Go.Eng
set_option maxRecDepth 100000
variable [HX]

/- purlin_purlinref02.Unknown -/
def plan65 : Plan := { js := [], ds := [] }
def W65 (w : World) (K : Value → World → Prop) : Prop :=
  allocW 26 [(.int .i64 0), (.bool false), (.string (ofL [])), (.slice none 0 0), (.slice none 0 0)] w fun t0 w1 =>
  putW [(.int .i64 0), (.bool false), (.string (ofL [])), (.slice none 0 0), (.slice none 0 0)] [(0, 1, (.int .i64 1))] fun c2 =>
  stW 5 t0 (.agg c2.toArray) w1 fun w3 =>
  ldW true 5 t0 w3 fun r4 =>
  K r4 w3
theorem W65_eq (w : World) (K : Value → World → Prop) : funW Tryz.prog Tryz.f65 plan65 [] w K = W65 w K := by kernel_rfl
theorem W65_chk : chkFun Tryz.prog Tryz.f65 plan65 0 = true := by kernel_rfl
theorem W65_ok {w : World} {K : Value → World → Prop} (h : W65 w K) : callF Tryz.prog 65 [] w K :=
  tie Tryz.prog 65 Tryz.f65 plan65 [] w K 0 (W65 w K) rfl mixed Tryz.func65 W65_chk (W65_eq w K) Tryz.call65 h

/- purlin_value.Text -/
def plan79 : Plan := { js := [], ds := [] }
def W79 (v0 : Value) (w : World) (K : Value → World → Prop) : Prop :=
  allocW 26 [(.int .i64 0), (.bool false), (.string (ofL [])), (.slice none 0 0), (.slice none 0 0)] w fun t2 w1 =>
  putW [(.int .i64 0), (.bool false), (.string (ofL [])), (.slice none 0 0), (.slice none 0 0)] [(0, 1, (.int .i64 4)), (2, 1, v0)] fun c2 =>
  stW 5 t2 (.agg c2.toArray) w1 fun w3 =>
  ldW true 5 t2 w3 fun r4 =>
  K r4 w3
theorem W79_eq (v0 : Value) (w : World) (K : Value → World → Prop) : funW Tryz.prog Tryz.f79 plan79 [v0] w K = W79 v0 w K := by kernel_rfl
theorem W79_chk : chkFun Tryz.prog Tryz.f79 plan79 1 = true := by kernel_rfl
theorem W79_ok {v0 : Value} {w : World} {K : Value → World → Prop} (h : W79 v0 w K) : callF Tryz.prog 79 [v0] w K :=
  tie Tryz.prog 79 Tryz.f79 plan79 [v0] w K 1 (W79 v0 w K) rfl mixed Tryz.func79 W79_chk (W79_eq v0 w K) Tryz.call79 h


end Go.Proofs.YtcnjpcadejcenaaGreatDoor

namespace Go.Proofs.YtcnjpcadejcenaaGreatDoor
open Go Go.Eng Go.RowKit
set_option maxRecDepth 100000
abbrev unkV : JV := .mk 1 false [] [] []
abbrev objU : JV := .mk 6 false [] [oneV, unkV] [[97], nb]
theorem putU : putM objA nb unkV = objU := by rfl
theorem goodU : GoodV objU := ⟨by decide, by decide⟩
theorem mrgAU : (mrg objA.ks objU.ks).filter (differsM objA objU) = [nb] := by
  have e : mrg [[97]] [[97], nb] = [[97], nb] := by simp [mrg, less_irr]
  show (mrg [[97]] [[97], nb]).filter _ = _
  rw [e]; decide
/-- what the library's tables hold -/
structure Tabs (w : World) : Prop where
  utf : TabU w
  bru : TabB w
  pow : Lib.TabIs Tryz.prog w "internal/strconv.uint64pow10" .u64 Lib.pow10Tab
section
variable [HX]
theorem text_p {s : Str} {w : World} {K : Value → World → Prop} (hs : s.length ≤ 9223372036854775807) (hK : ∀ cs w', Ext w w' → (∀ w'', VRep w'' (.mk 4 false s [] []) cs) → K (.agg cs.toArray) w') : callF Tryz.prog 79 [str s] w K := by
  refine W79_ok ?_
  unfold W79
  refine alloc_new fun b w1 hb hz hbb hx => ?_
  simp only [put_int, put_str, put_nil, List.length_cons, List.length_nil, List.set_cons_zero, List.set_cons_succ]
  refine ⟨by omega, by omega, ?_⟩
  refine st_agg_at (l := [i64 4, .bool false, str s, .slice none 0 0, .slice none 0 0]) hbb rfl rfl rfl fun w2 hz2 hb2 hc2 => ?_
  refine ld_all hb2 rfl ?_
  refine hK _ w2 (hx.new hc2 (by omega)) fun w'' => ?_
  exact VRep.mk (v := .mk 4 false s [] []) (T1 := 0) (T2 := 0) (SlAt.nil w'' 0) (by simp [JV.xs, VReps]) (SlAt.nil w'' 0) ⟨by simp [JV.xs], by simp [JV.ks], hs, by simp [JV.ks]⟩
theorem unknown_ref {w : World} {K : Value → World → Prop} (hK : ∀ cs w', Ext w w' → (∀ w'', VRep w'' unkV cs) → K (.agg cs.toArray) w') : callF Tryz.prog 65 [] w K := by
  refine W65_ok ?_
  unfold W65
  refine alloc_new fun b w1 hb hz hbb hx => ?_
  simp only [put_int, put_str, put_nil, List.length_cons, List.length_nil, List.set_cons_zero, List.set_cons_succ]
  refine ⟨by omega, ?_⟩
  refine st_agg_at (l := [i64 1, .bool false, str [], .slice none 0 0, .slice none 0 0]) hbb rfl rfl rfl fun w2 hz2 hb2 hc2 => ?_
  refine ld_all hb2 rfl ?_
  refine hK _ w2 (hx.new hc2 (by omega)) fun w'' => ?_
  exact VRep.mk (v := unkV) (T1 := 0) (T2 := 0) (SlAt.nil w'' 0) (by simp [JV.xs, VReps]) (SlAt.nil w'' 0) ⟨by decide, by decide, by decide, by simp [JV.ks]⟩
/-- a value's text -/
def shownM (v : JV) : Str := if knownM v = false then [40, 117, 110, 107, 110, 111, 119, 110, 41] else if (encM 1 20 31 3 v).2 ≠ 0 then [40, 118, 97, 108, 117, 101, 41] else (encM 1 20 31 3 v).1
theorem shown_p {v : JV} {w : World} {cs : List Value} {K : Value → World → Prop} (hT : TabU w) (hF : TabB w) (h : VRep w v cs) (hK : ∀ w', Ext w w' → K (str (shownM v)) w') : callF Tryz.prog 125 [.agg cs.toArray] w K := by
  refine W125_ok ?_
  unfold W125
  unfold shownM at hK
  refine box_val h fun a w1 sv kv hB hx1 _ => ?_
  refine hB.ld fun cs1 h1 => ?_
  refine known_p v h1 fun w2 hx2 => ?_
  rw [un_not, condW_b]
  refine ⟨fun hb => ?_, fun hg => ?_⟩
  · have : knownM v = false := by simpa using hb
    rw [if_pos this] at hK
    exact hK w2 (hx1.trans hx2)
  · have : knownM v = true := by simpa using hg
    rw [if_neg (by rw [this]; simp)] at hK
    refine (hB.ext hx2).ld fun cs2 h2 => ?_
    have hx12 := hx1.trans hx2
    refine encode_p (hT.ext hx12) (fmt_ok (cell_ext hx12 hF)) h2 fun w3 hx3 => ?_
    rw [ext_tuple]
    refine ⟨_, rfl, ?_⟩
    rw [ext_tuple]
    refine ⟨_, rfl, ?_⟩
    rw [bin_neq, condW_dec]
    refine ⟨fun hne => ?_, fun he => ?_⟩
    · rw [if_pos hne] at hK
      exact hK w3 (hx12.trans hx3)
    · rw [if_neg he] at hK
      exact hK w3 (hx12.trans hx3)
def itemM (v : JV) (k : Str) : Str := match getM v k with | some x => shownM x | none => [40, 110, 111, 110, 101, 41]
theorem item_p {v : JV} {cs : List Value} {k : Str} {w : World} {K : Value → World → Prop} (hT : TabU w) (hF : TabB w) (h : VRep w v cs) (k6 : v.k = 6) (hg : GoodV v) (hK : ∀ w', Ext w w' → K (str (itemM v k)) w') : callF Tryz.prog 126 [.agg cs.toArray, str k] w K := by
  obtain ⟨l1, l2, l3, l4, _⟩ := hg.lens
  refine W126_ok ?_
  unfold W126
  unfold itemM at hK
  refine box_val h fun a w1 sv kv hB hx1 _ => ?_
  refine hB.ld fun cs1 h1 => ?_
  refine get_p h1 k6 (l3 k6) hg.few (keysOk_rise l4) fun cs2 w2 hx2 h2 => ?_
  rw [ext_tuple]
  refine ⟨_, rfl, ?_⟩
  rw [ext_tuple]
  refine ⟨_, rfl, ?_⟩
  refine copy_new h2 fun b w3 sv3 kv3 hB3 hx3 => ?_
  have hx13 := (hx1.trans hx2).trans hx3
  cases hgm : getM v k with
  | none =>
    rw [hgm] at hK
    rw [Option.isSome_none, condW_false]
    exact hK w3 hx13
  | some x =>
    rw [hgm] at hK hB3
    rw [Option.isSome_some, condW_true]
    refine hB3.ld fun cs4 h4 => ?_
    exact shown_p (hT.ext hx13) (cell_ext hx13 hF) h4 fun w4 hx4 => hK w4 (hx13.trans hx4)
theorem changes_p {cs ds : List Value} {w : World} {K : Value → World → Prop} (hT : TabU w) (hF : TabB w) (h : VRep w objA cs) (h' : VRep w objU ds)
    (hK : ∀ v w', Ext w w' → SlAt w' ST v 1 [str [34, 110, 101, 119, 95, 98, 34, 58, 32, 40, 110, 111, 110, 101, 41, 32, 45, 62, 32, 40, 117, 110, 107, 110, 111, 119, 110, 41, 32, 40, 110, 101, 119, 41]] → K v w') : callF Tryz.prog 64 [.agg cs.toArray, .agg ds.toArray] w K := by
  refine W64_ok ?_
  unfold W64
  refine box_val h fun a w1 sv kv hA hx1 _ => ?_
  refine box_val (h'.ext hx1) fun b w2 sv2 kv2 hB hx2 _ => ?_
  have hA := hA.ext hx2
  refine hA.ld fun cs1 h1 => ?_
  refine hB.ld fun cs2 h2 => ?_
  refine keys_p h1 h2 rfl rfl goodA goodU fun l w3 hx3 hs => ?_
  rw [mrgAU] at hs
  have hx13 := (hx1.trans hx2).trans hx3
  have hA3 := hA.ext hx3
  have hB3 := hB.ext hx3
  have hT3 := hT.ext hx13
  have hF3 : TabB w3 := cell_ext hx13 hF
  rw [lenl_at hs]
  refine ⟨fun s' w' => (s' = [.slice none 0 0, i64 0] ∧ w' = w3) ∨ (∃ v, s' = [v, i64 1] ∧ Ext w3 w' ∧ SlAt w' ST v 1 [str [34, 110, 101, 119, 95, 98, 34, 58, 32, 40, 110, 111, 110, 101, 41, 32, 45, 62, 32, 40, 117, 110, 107, 110, 111, 119, 110, 41, 32, 40, 110, 101, 119, 41]]),
    fun s' _ => match s' with | [_, .int _ i] => 1 - i.toNat | _ => 0, .inl ⟨rfl, rfl⟩, ?_⟩
  rintro s' g w4 (⟨rfl, rfl⟩ | ⟨v, rfl, hx4, hv⟩)
  · simp only [List.getD_cons_zero, List.getD_cons_succ]
    rw [bin_lss, show decide ((0 : Int) < (([nb] : List Str).length : Int)) = true from rfl, condW_true]
    refine text_ld (i := 0) (x := nb) hs rfl ?_
    have hxd : Ext w4 w4.drew := Chg.drew (Chg.refl (fun _ => False) w4)
    have hAd := hA3.ext hxd
    have hBd := hB3.ext hxd
    refine ld_all hAd.hb rfl ?_
    refine ld_all hBd.hb rfl ?_
    refine text_p (by decide) fun cs7 w5 hx5 h7 => ⟨ld_all (hBd.ext hx5).hb rfl rfl, ld_all (hAd.ext hx5).hb rfl rfl, ?_⟩
    have hx5' := hxd.trans hx5
    refine shown_p (hT3.ext hx5') (cell_ext hx5' hF3) (h7 w5) fun w6 hx6 => ⟨ld_all (hBd.ext (hx5.trans hx6)).hb rfl rfl, ld_all (hAd.ext (hx5.trans hx6)).hb rfl rfl, ?_⟩
    have hx6' := hx5'.trans hx6
    rw [show shownM (.mk 4 false nb [] []) = [34, 110, 101, 119, 95, 98, 34] by decide +kernel, bin_sadd]
    refine ⟨by decide, ?_⟩
    refine item_p (hT3.ext hx6') (cell_ext hx6' hF3) (hAd.ext (hx5.trans hx6)).rep rfl goodA fun w7 hx7 => ⟨ld_all (hBd.ext ((hx5.trans hx6).trans hx7)).hb rfl rfl, ?_⟩
    have hx7' := hx6'.trans hx7
    rw [show itemM objA nb = [40, 110, 111, 110, 101, 41] by decide +kernel, bin_sadd]
    refine ⟨by decide, ?_⟩
    rw [bin_sadd]
    refine ⟨by decide, ?_⟩
    refine item_p (hT3.ext hx7') (cell_ext hx7' hF3) (hBd.ext ((hx5.trans hx6).trans hx7)).rep rfl goodU fun w8 hx8 => ?_
    have hx8' := hx7'.trans hx8
    rw [show itemM objU nb = [40, 117, 110, 107, 110, 111, 119, 110, 41] by decide +kernel, bin_sadd]
    refine ⟨by decide, ?_⟩
    refine JoinW.cut (fun s' w' => s' = [str [34, 110, 101, 119, 95, 98, 34, 58, 32, 40, 110, 111, 110, 101, 41, 32, 45, 62, 32, 40, 117, 110, 107, 110, 111, 119, 110, 41, 32, 40, 110, 101, 119, 41]] ∧ w' = w8) ?_ ?_
    · refine of_calls (args := #[str nb, str [110, 101, 119, 95]]) Tryz.call107 ((Tryz.strings_HasPrefix (ofL nb) (ofL [110, 101, 119, 95]) w8).mono ?_)
      rintro e w' ⟨rfl, rfl⟩
      refine ⟨_, rfl, ?_⟩
      rw [ofL_data, ofL_data, show Lib.hasPrefix nb [110, 101, 119, 95] = true by decide +kernel, condW_true, bin_sadd]
      exact ⟨by decide, rfl, rfl⟩
    rintro s' g2 w9 ⟨rfl, rfl⟩
    simp only [List.getD_cons_zero]
    refine row_s fun t w10 ht hx10 => ?_
    refine append_own2 elem_s (base := w10.heap.size) (xs := []) (n := 0) ⟨by simp, .inl ⟨rfl, rfl⟩⟩ ht (m := 1) rfl (fun u hu => by simp only [List.mem_singleton] at hu; subst hu; rfl) (by omega) (by omega) (Nat.le_refl _) fun v' w11 h' hc _ => ?_
    rw [bin_add, show IntKind.i64.wrap (0 + 1) = 1 by decide]
    refine ⟨.inr ⟨v', rfl, (hx8'.trans hx10).then hc fun k hk e => by simp [Value.ownBlock] at e, ?_⟩, by show 1 - (1 : Int).toNat < 1 - (0 : Int).toNat; decide⟩
    have := h'.sl
    simpa using this
  · simp only [List.getD_cons_zero, List.getD_cons_succ]
    rw [bin_lss, show decide ((1 : Int) < (([nb] : List Str).length : Int)) = false from rfl, condW_false]
    exact hK v w4 (hx13.trans hx4) hv
theorem wake23 {w : World} {K : Value → World → Prop} (hT : TabU w) (hF : TabB w) (hK : ∀ w', Ext w w' → K (.bool true) w') : callF Tryz.prog 23 [] w K := by
  refine W23_ok ?_
  unfold W23
  have h0 : ∀ w, VRep w emptyV [i64 6, .bool false, str [], .slice none 0 0, .slice none 0 0] := fun w => VRep.mk (v := emptyV) (T1 := 0) (T2 := 0) (SlAt.nil w 0) rfl (SlAt.nil w 0) ⟨by decide, by decide, by decide, by simp [JV.ks]⟩
  refine place_p (by decide) fun w1 hx1 => ?_
  rw [ext_tuple]
  refine ⟨_, rfl, ?_⟩
  rw [ext_tuple]
  refine ⟨_, rfl, ?_⟩
  rw [put_int, put_nil]
  refine ⟨by decide, ?_⟩
  refine int_1 fun cs1 w2 hx2 h1 => ?_
  refine put_v (h0 w2) (h1 w2) (fun _ => rfl) (by decide) (by decide) fun cs2 w3 hx3 h2 => ?_
  rw [putA] at h2
  refine copy_new h2 fun p w5 sp kp hP hx5 => ?_
  have hx15 := hx1.trans (hx2.trans (hx3.trans hx5))
  have hxd : Ext w5 w5.drew := Chg.drew (Chg.refl (fun _ => False) w5)
  have hPd := hP.ext hxd
  refine ld_all hPd.hb rfl ?_
  refine ld_all hPd.hb rfl ?_
  refine unknown_ref fun cs7 w7 hx7 h7 => ⟨ld_all (hPd.ext hx7).hb rfl rfl, ld_all (hPd.ext hx7).hb rfl rfl, ?_⟩
  refine put_v (hPd.ext hx7).rep (h7 w7) (fun _ => rfl) (by decide) (by decide) fun cs8 w8 hx8 h8 => ⟨ld_all (hPd.ext (hx7.trans hx8)).hb rfl rfl, ?_⟩
  rw [show putM objA [110, 101, 119, 95, 98] unkV = objU from putU] at h8
  have hx18 := hx15.trans (hxd.trans (hx7.trans hx8))
  refine changes_p (hT.ext hx18) (cell_ext hx18 hF) (hPd.ext (hx7.trans hx8)).rep h8 fun v9 w9 hx9 h9 => ?_
  have hx19 := hx18.trans hx9
  rw [show (placeM [97, 10, 98] 3) = (2, 2) by decide +kernel]
  rw [bin_eql, show decide ((((2, 2) : Nat × Nat).1 : Int) = 2) = true from rfl]
  refine GdW.look true (fun _ J hJ => by rw [bin_eql]; exact hJ) fun g => ?_
  show GdW true [undef] w9 _ _
  refine GdW.act true (fun w' => Ext w9 w') (fun h => by cases h) ?_ ?_
  · intro _ J hJ
    refine row_s fun t w10 ht hx10 => ?_
    refine texts_ref (a := [_]) (b := [_]) (h9.ext hx10) ht (by decide) fun w11 hx11 => ?_
    rw [decide_eq_true rfl]
    exact hJ _ (hx10.trans hx11)
  intro g2 w12 hx12
  show GdW true [undef] w12 _ _
  refine GdW.act true (fun w' => Ext w12 w') (fun h => by cases h) ?_ ?_
  · intro _ J hJ
    refine W25_ok ?_
    unfold W25
    show condW (.bool true) _ _
    rw [condW_true]
    dsimp only
    rw [bin_seq, decide_eq_true rfl]
    exact hJ _ (Chg.refl _ _)
  intro g3 w13 hx13
  exact hK _ (hx19.trans (hx12.trans hx13))
end
end Go.Proofs.YtcnjpcadejcenaaGreatDoor

namespace Go.Proofs.YtcnjpcadejcenaaGreatDoor
open Go Go.Eng Go.RowKit
set_option maxRecDepth 100000
section
variable [HX]
theorem places_true {s : Str} {a : Int} {w : World} {K : Value → World → Prop} (hT : Tabs w) (_ : s.length ≤ 9223372036854775807) (_ : -9223372036854775808 ≤ a ∧ a ≤ 9223372036854775807) (hK : ∀ w', Ext w w' → K (.bool true) w') : callF Tryz.prog 9 [str s, i64 a] w K := by
  refine W9_ok ?_
  unfold W9
  refine wake23 hT.utf hT.bru fun w1 hx1 => ?_
  simp only [wsv, wsg, wsh, wsl, cond_true, cond_false, exists_eq_left', Option.some.injEq, Option.isSome_some, List.getElem?_toArray, List.getElem?_cons_zero, List.getElem?_cons_succ, List.length_cons, List.length_nil, List.set_cons_zero, List.set_cons_succ, List.getD_cons_zero, List.getD_cons_succ, Nat.zero_add, Nat.add_zero, Nat.reduceAdd, Nat.reduceLT, Nat.lt_add_one, Nat.zero_lt_succ, decide_true, decide_false, ne_eq, reduceCtorEq, condW_dec]
  intro g0
  refine ⟨fun hl => ?_, fun hl => ?_⟩
  · exact wake23 (hT.utf.ext hx1) (cell_ext hx1 hT.bru) fun w2 hx2 => hK w2 (hx1.trans hx2)
  · refine place_p (by omega) fun w2 hx2 => ?_
    rw [ext_tuple]
    refine ⟨_, rfl, ?_⟩
    rw [ext_tuple]
    refine ⟨_, rfl, ?_⟩
    refine place_ref (by omega) fun w3 hx3 => ?_
    rw [ext_tuple]
    refine ⟨_, rfl, ?_⟩
    rw [ext_tuple]
    refine ⟨_, rfl, ?_⟩
    rw [ext_tuple]
    refine ⟨_, rfl, ?_⟩
    rw [bin_eql, decide_eq_true rfl]
    refine GdW.look true (fun _ J hJ => by rw [bin_eql, decide_eq_true rfl]; exact hJ) fun g => ?_
    show GdW true [undef] w3 _ _
    refine GdW.act true (fun w' => Ext w3 w') (fun h => by cases h) ?_ ?_
    · intro _ J hJ
      refine line_p (by omega) fun w4 hx4 => ?_
      refine line_ref (by omega) fun w5 hx5 => ?_
      rw [bin_seq, decide_eq_true rfl]
      exact hJ w5 (hx4.trans hx5)
    intro g w4 hx4
    exact hK w4 ((hx1.trans hx2).trans (hx3.trans hx4))
theorem row_mono (s : Str) (n : Nat) : rowM s n ≤ rowM s (n + 1) := by
  show rowM s n ≤ (if byteM s n = 10 then _ else _)
  split <;> omega
theorem order_true {s0 : Str} {w : World} {K : Value → World → Prop} (hT : Tabs w) (_ : s0.length ≤ 9223372036854775807) (hK : ∀ w', Ext w w' → K (.bool true) w') : callF Tryz.prog 10 [str s0] w K := by
  refine W10_ok ?_
  unfold W10
  refine wake23 hT.utf hT.bru fun w1 hx1 => ?_
  rw [un_not, show (!true) = false from rfl, condW_false, lens_str, min_int, sls_str, bd_some]
  have hm : (if (500 : Int) < (s0.length : Int) then (500 : Int) else (s0.length : Int)) = ((min s0.length 500 : Nat) : Int) := by split <;> omega
  rw [hm]
  refine ⟨by omega, by omega, ?_⟩
  rw [bd_none, List.drop_zero, Int.toNat_natCast]
  generalize hs' : s0.take (min s0.length 500) = s
  have hsl : s.length ≤ 500 := by rw [← hs', List.length_take]; omega
  clear hs' hm
  refine line_p (by omega) fun w2 hx2 => ?_
  have hx12 := hx1.trans hx2
  have h00 : lineM s 0 = s.take (eolM s 0) := by
    unfold lineM
    rw [show clampM s 0 = 0 from clamp_nat (Nat.zero_le _)]
    exact all_first s
  rw [h00]
  -- the loop: row and column of the place before, the lines so far
  refine ⟨fun s' w' => ∃ (n q : Nat), n ≤ s.length + 1 ∧ q = n - 1 ∧ s' = [i64 ((rowM s q : Nat) : Int), i64 ((1 + colM (s.drop (fromM s q)) (q - fromM s q) : Nat) : Int), str (s.take (eolM s q)), i64 (n : Int)] ∧ Ext w w',
    fun s' _ => match s' with | [_, _, _, .int _ i] => s.length + 1 - i.toNat | _ => 0, ⟨0, 0, by omega, rfl, by
      have : colM (s.drop (fromM s 0)) (0 - fromM s 0) = 0 := by show colM _ 0 = 0; exact colGo_zero _ _ _
      rw [this]; rfl, hx12⟩, ?_⟩
  rintro s' g w3 ⟨n, q, hn, hq, rfl, hx3⟩
  simp only [List.getD_cons_zero, List.getD_cons_succ]
  rw [lens_str, bin_leq]
  rcases Nat.lt_or_ge s.length n with hgt | hle
  · rw [decide_eq_false (by omega), condW_false]
    have : q = s.length := by omega
    rw [this, all_last s, bin_seq, decide_eq_true rfl]
    exact hK w3 hx3
  rw [decide_eq_true (by omega), condW_true]
  refine place_p (by omega) fun w4 hx4 => ?_
  rw [ext_tuple]
  refine ⟨_, rfl, ?_⟩
  rw [ext_tuple]
  refine ⟨_, rfl, ?_⟩
  unfold placeM
  rw [clamp_nat hle]
  dsimp only
  have hrl : ∀ m, m ≤ s.length → rowM s m ≤ 501 := fun m hm => by have := row_le s m; omega
  have hcl : ∀ m : Nat, colM (s.drop (fromM s m)) (m - fromM s m) ≤ 500 := fun m => by
    have := colGo_le (s.drop (fromM s m)) (m - fromM s m) (s.drop (fromM s m)).length 0
    unfold colM
    have h2 : (s.drop (fromM s m)).length ≤ s.length := by rw [List.length_drop]; omega
    omega
  have hq1 := hrl q (by omega)
  have hn1 := hrl n hle
  have hq2 := hcl q
  have hn2 := hcl n
  have wq : IntKind.i64.wrap (((rowM s q : Nat) : Int) + 1) = ((rowM s q : Nat) : Int) + 1 := wrap_id (by omega) (by omega)
  have wn : IntKind.i64.wrap ((n : Int) + 1) = ((n + 1 : Nat) : Int) := up1 (by omega)
  have step : (rowM s n = rowM s q ∧ fromM s n = fromM s q ∧ colM (s.drop (fromM s q)) (q - fromM s q) ≤ colM (s.drop (fromM s n)) (n - fromM s n)) ∨ (n = q + 1 ∧ byteM s q = 10) := by
    cases n with
    | zero => left; subst hq; exact ⟨rfl, rfl, Nat.le_refl _⟩
    | succ m =>
      obtain rfl : q = m := by omega
      by_cases hb : byteM s q = 10
      · exact .inr ⟨rfl, hb⟩
      · left
        obtain ⟨o1, o2⟩ := order_same hb
        refine ⟨o1, o2, ?_⟩
        rw [o2]
        have hf := from_le s q
        rw [show q + 1 - fromM s q = (q - fromM s q) + 1 by omega]
        exact colGo_mono _ _ _ _
  have hqn : q ≤ s.length := by omega
  rcases step with ⟨e1, e2, e3⟩ | ⟨rfl, hb⟩
  · have eol : eolM s n = eolM s q := by unfold eolM; rw [e2]
    rw [e1]
    generalize hR : rowM s q = R at *
    generalize hC : colM (s.drop (fromM s q)) (q - fromM s q) = C at *
    generalize hC' : colM (s.drop (fromM s n)) (n - fromM s n) = C' at *
    have d1 : decide (((R : Nat) : Int) < (R : Int)) = false := decide_eq_false (by omega)
    have d2 : decide (((R : Nat) : Int) + 1 < (R : Int)) = false := decide_eq_false (by omega)
    have d3 : decide (((R : Nat) : Int) = (R : Int)) = true := decide_eq_true rfl
    have d4 : decide (((1 + C' : Nat) : Int) < ((1 + C : Nat) : Int)) = false := decide_eq_false (by omega)
    have d5 : decide (((R : Nat) : Int) = (R : Int) + 1) = false := decide_eq_false (by omega)
    simp only [wsv, wsg, wsh, wsl, cond_true, cond_false, exists_eq_left', Option.some.injEq, Option.isSome_some, List.getElem?_toArray, List.getElem?_cons_zero, List.getElem?_cons_succ, List.length_cons, List.length_nil, List.set_cons_zero, List.set_cons_succ, List.getD_cons_zero, List.getD_cons_succ, Nat.zero_add, Nat.add_zero, Nat.reduceAdd, Nat.reduceLT, Nat.lt_add_one, Nat.zero_lt_succ, decide_true, decide_false, ne_eq, reduceCtorEq, wq, wn, d1, d2, d3, d4, d5]
    intros
    refine JoinW.cut (fun s' w' => s' = [str (s.take (eolM s q))] ∧ w' = w4) ⟨rfl, rfl⟩ ?_
    rintro s' g5 w5 ⟨rfl, rfl⟩
    refine ⟨⟨n + 1, n, by omega, rfl, ?_, hx3.trans hx4⟩, by omega⟩
    rw [e1, hC', eol]; rfl
  · obtain ⟨o1, o2⟩ := order_next hb
    have hqlt : q < s.length := by omega
    have hcol : colM (s.drop (fromM s (q + 1))) (q + 1 - fromM s (q + 1)) = 0 := by
      rw [o2, Nat.sub_self]; exact colGo_zero _ _ _
    have hall := all_next hqlt hb
    rw [hcol, o1]
    have hbt : (s[q].toNat : Int) = 10 := by
      have e := byteM_in hqlt
      unfold bt at e
      rw [List.getD_eq_getElem?_getD, List.getElem?_eq_getElem hqlt, Option.getD_some, hb] at e
      omega
    have hR1 := hrl (q + 1) hle
    rw [o1] at hR1
    generalize hR : rowM s q = R at *
    generalize hC : colM (s.drop (fromM s q)) (q - fromM s q) = C at *
    have d1 : decide (((R + 1 : Nat) : Int) < (R : Int)) = false := decide_eq_false (by omega)
    have d2 : decide (((R : Nat) : Int) + 1 < ((R + 1 : Nat) : Int)) = false := decide_eq_false (by omega)
    have d3 : decide (((R + 1 : Nat) : Int) = (R : Int)) = false := decide_eq_false (by omega)
    have d5 : decide (((R + 1 : Nat) : Int) = (R : Int) + 1) = true := decide_eq_true (by omega)
    have d6 : decide (((1 + 0 : Nat) : Int) ≠ 1) = false := rfl
    have d7 : decide (((R : Nat) : Int) < ((R + 1 : Nat) : Int)) = true := decide_eq_true (by omega)
    have wm : IntKind.i64.wrap (((q + 1 : Nat) : Int) - 1) = (q : Int) := by rw [wrap_id (by omega) (by omega)]; omega
    have hget : s[q]? = some s[q] := List.getElem?_eq_getElem hqlt
    simp only [wsv, wsg, wsh, wsl, cond_true, cond_false, exists_eq_left', Option.some.injEq, Option.isSome_some, List.getElem?_toArray, List.getElem?_cons_zero, List.getElem?_cons_succ, List.length_cons, List.length_nil, List.set_cons_zero, List.set_cons_succ, List.getD_cons_zero, List.getD_cons_succ, Nat.zero_add, Nat.add_zero, Nat.reduceAdd, Nat.reduceLT, Nat.lt_add_one, Nat.zero_lt_succ, decide_true, decide_false, ne_eq, reduceCtorEq, wq, wn, d1, d2, d3, d5, d6, d7, wm, Int.toNat_natCast, hget]
    intro g1 g2 g3 g4 g5 g6
    refine GdW.look false (fun _ J hJ => ⟨by omega, by rw [show decide (¬ ((s[q].toNat : Nat) : Int) = 10) = false from decide_eq_false (by omega)]; exact hJ⟩) fun g7 => ?_
    intro g8 g9
    simp only [List.getD_cons_zero, cond_true, condW_false]
    have hln : lineM s ((q + 1 : Nat) : Int) = lineAt s (q + 1) := by
      unfold lineM
      rw [clamp_nat hle, o2]
    have hel := eol_le s (n := q) (by omega)
    have hla : (lineAt s (q + 1)).length ≤ s.length := by
      have : (lineAt s (q + 1)).length ≤ (s.drop (q + 1)).length := (List.takeWhile_sublist _).length_le
      rw [List.length_drop] at this
      omega
    refine JoinW.cut (fun s' w' => s' = [str (s.take (eolM s (q + 1)))] ∧ Ext w4 w') ?_ ?_
    · refine line_p (by omega) fun w5 hx5 => ?_
      rw [hln, bin_sadd]
      refine ⟨by have : IntKind.i64.max = 9223372036854775807 := by decide
                 rw [this]; simp only [List.length_cons, List.length_nil]; omega, ?_⟩
      rw [bin_sadd]
      refine ⟨by have : IntKind.i64.max = 9223372036854775807 := by decide
                 rw [this]; simp only [List.length_append, List.length_take, List.length_cons, List.length_nil]; omega, ?_⟩
      rw [← hall, List.append_assoc]
      exact ⟨rfl, hx5⟩
    rintro s' g10 w5 ⟨rfl, hx5⟩
    refine ⟨⟨q + 1 + 1, q + 1, by omega, rfl, ?_, (hx3.trans hx4).trans hx5⟩, by omega⟩
    rw [o1, hcol]; rfl
end
end Go.Proofs.YtcnjpcadejcenaaGreatDoor

namespace Go.Eng
open Go Go.Deep

theorem flat_get {k : Nat} : ∀ (L : List (List Value)) (i r : Nat) (y : List Value), (∀ z ∈ L, z.length = k) → r < k → L[i]? = some y → L.flatten[i * k + r]? = y[r]?
  | [], i, _, _, _, _, h => by simp at h
  | z :: L, 0, r, y, hl, hr, h => by
    simp only [List.getElem?_cons_zero, Option.some.injEq] at h
    subst h
    simp only [List.flatten_cons, Nat.zero_mul, Nat.zero_add]
    rw [List.getElem?_append_left (by rw [hl z List.mem_cons_self]; exact hr)]
  | z :: L, i + 1, r, y, hl, hr, h => by
    simp only [List.getElem?_cons_succ] at h
    have := flat_get L i r y (fun u hu => hl u (List.mem_cons_of_mem _ hu)) hr h
    rw [← this]
    simp only [List.flatten_cons]
    have hz := hl z List.mem_cons_self
    rw [List.getElem?_append_right (by rw [hz, Nat.add_mul]; omega)]
    congr 1
    rw [hz, Nat.add_mul]
    omega
theorem flat_len {k : Nat} : ∀ (L : List (List Value)), (∀ z ∈ L, z.length = k) → L.flatten.length = L.length * k
  | [], _ => by simp
  | z :: L, hl => by
    rw [List.flatten_cons, List.length_append, flat_len L fun u hu => hl u (List.mem_cons_of_mem _ hu), hl z List.mem_cons_self, List.length_cons, Nat.add_mul]
    omega

section
variable {H : Type} {enc : TypeId × Value → H} {P : Program} {w : World} {base : Nat} {spare : Nat → Bool} {held : Bool}

/-- a slice of rows of k cells -/
theorem open_rows {t e : TypeId} {k fuel : Nat} {v : Value} {d : DataW H} {ps : List MemPlace} (ht : P.underlying t = some (.slice e)) (hk : P.cellsOf e = k) (hk0 : 0 < k) (h : DataW.trod enc P w base spare held fuel t [v] = some (d, ps)) :
    ∃ p n c T m, ∃ (f : Nat → List Value) (D : Nat → DataW H) (Pl : Nat → List MemPlace), v = .slice p n c ∧ SlAt w T (.slice p n c) n ((List.range n).map f).flatten ∧
      (∀ i, i < n → (f i).length = k ∧ DataW.trod enc P w base spare held m e (f i) = some (D i, Pl i)) ∧ ((n = 0 ∧ d = .nil) ∨ ∃ rest, d = .slice ((List.range n).map D) rest) := by
  rcases open_slice ht h with ⟨hc, hx⟩ | ⟨a, len, cap, m, n, D, Pl, hc, _, hl, hm, hme, hx, hel⟩
  · cases hc
    cases hx
    refine ⟨none, 0, 0, 0, 0, fun _ => [], fun _ => .nil, fun _ => [], rfl, ?_, fun i hi => by omega, .inl ⟨rfl, rfl⟩⟩
    simpa using SlAt.nil w 0
  · cases hc
    cases hx
    have hlm : len ≤ m := by rw [hme]; split <;> omega
    obtain ⟨f, hf⟩ := choose_lt (n := len) fun i hi => hel i (by omega)
    have hfl : ∀ i, i < len → (f i).length = k := fun i hi => by rw [(World.cells?_some (hf i hi).1).2.1, hk]
    have hall : ∀ z ∈ (List.range len).map f, z.length = k := by
      intro z hz
      obtain ⟨i, hi, rfl⟩ := List.mem_map.1 hz
      exact hfl i (List.mem_range.1 hi)
    have hcell : ∀ i r, i < len → r < k → w.cell? (a.add (i * k + r)) = (f i)[r]? := by
      intro i r hi hr
      have := (World.cells?_some (hf i hi).1).2.2 r (by omega)
      rw [add_add, hk] at this
      exact this
    by_cases h0 : len = 0
    · subst h0
      refine ⟨some a, 0, cap, 0, n, f, D, Pl, rfl, ⟨some a, cap, rfl, Nat.zero_le _, (by intro e; cases e), (by simp)⟩, fun i hi => by omega, .inr ⟨_, rfl⟩⟩
    have h00 := hcell 0 0 (by omega) hk0
    have hf0 := hfl 0 (by omega)
    rw [List.getElem?_eq_getElem (by omega)] at h00
    obtain ⟨c, T, fr, hb, hsp⟩ : ∃ c T fr, w.heap[a.block]? = some (.cells c T fr) ∧ a.spot = none := by
      unfold World.cell? at h00
      have e1 : (a.add (0 * k + 0)).block = a.block := by unfold Addr.add; split <;> rfl
      have e2 : (a.add (0 * k + 0)) = a := by unfold Addr.add; simp
      rw [e2] at h00
      split at h00
      · rename_i c T fr hb
        refine ⟨c, T, fr, hb, ?_⟩
        cases hs : a.spot with
        | none => rfl
        | some _ => simp [hs] at h00
      · cases h00
    obtain ⟨b, off, sp⟩ := a
    simp only at hsp hb
    subst hsp
    refine ⟨some ⟨b, off, none⟩, len, cap, T, n, f, D, Pl, rfl, ⟨_, _, rfl, hl, (by intro e; cases e), fun _ => ⟨b, off, c, fr, rfl, hb, fun j hj => ?_⟩⟩, fun i hi => ⟨hfl i hi, (hf i hi).2⟩, .inr ⟨_, rfl⟩⟩
    rw [flat_len _ hall, List.length_map, List.length_range] at hj
    have hi : j / k < len := by rw [Nat.div_lt_iff_lt_mul hk0]; exact hj
    have hr : j % k < k := Nat.mod_lt _ hk0
    have hjj : j / k * k + j % k = j := by rw [Nat.mul_comm]; exact Nat.div_add_mod j k
    have h1 := hcell (j / k) (j % k) hi hr
    rw [hjj, add_mk, cell_eq, hb, cellO_some] at h1
    have h2 := flat_get ((List.range len).map f) (j / k) (j % k) (f (j / k)) hall hr (by simp [hi])
    rw [hjj] at h2
    rw [h1, h2]

/-- bytes -/
theorem open_byt {t e : TypeId} {fuel : Nat} {v : Value} {d : DataW H} {ps : List MemPlace} (ht : P.underlying t = some (.slice e)) (he : P.underlying e = some (.int .u8)) (hk : P.cellsOf e = 1) (h : DataW.trod enc P w base spare held fuel t [v] = some (d, ps)) :
    ∃ p c T l, v = .slice p l.length c ∧ Byt w T (.slice p l.length c) l ∧ ((l = [] ∧ d = .nil) ∨ ∃ ds rest, d = .slice ds rest ∧ ds.length = l.length) := by
  obtain ⟨p, n, c, T, m, f, D, Pl, rfl, hs, hf, hd⟩ := open_rows ht hk (by omega) h
  have hex : ∀ i, i < n → ∃ b : UInt8, f i = [.int .u8 b.toNat] := by
    intro i hi
    obtain ⟨x, hx, _, hw⟩ := DataW.trod_int he (hf i hi).2
    have h2 : 0 ≤ x ∧ x ≤ 255 := by simpa [Lit.wf, IntKind.min, IntKind.max, IntKind.signed, IntKind.bits] using hw
    refine ⟨UInt8.ofNat x.toNat, ?_⟩
    rw [hx]
    have : (UInt8.ofNat x.toNat).toNat = x.toNat := by simp [UInt8.toNat_ofNat']; omega
    rw [this, Int.toNat_of_nonneg h2.1]
  obtain ⟨g, hg⟩ := choose_lt hex
  have hfl : ((List.range n).map f).flatten = u8s ((List.range n).map g) := by
    have : (List.range n).map f = (List.range n).map fun i => [Value.int .u8 (g i).toNat] := List.map_congr_left fun i hi => hg i (List.mem_range.1 hi)
    rw [this]
    simp only [u8s, List.map_map]
    generalize List.range n = L
    induction L with
    | nil => rfl
    | cons a L ih => simp only [List.map_cons, List.flatten_cons, ih, Function.comp_apply]; rfl
  rw [hfl] at hs
  have hlen : ((List.range n).map g).length = n := by simp
  refine ⟨p, c, T, (List.range n).map g, by rw [hlen], ?_, ?_⟩
  · simp only [Byt, hlen]; exact hs
  · rcases hd with ⟨rfl, hd⟩ | ⟨rest, hd⟩
    · exact .inl ⟨rfl, hd⟩
    · exact .inr ⟨_, rest, hd, by simp⟩

/-- ints -/
theorem open_i64s {t e : TypeId} {fuel : Nat} {v : Value} {d : DataW H} {ps : List MemPlace} (ht : P.underlying t = some (.slice e)) (he : P.underlying e = some (.int .i64)) (hk : P.cellsOf e = 1) (h : DataW.trod enc P w base spare held fuel t [v] = some (d, ps)) :
    ∃ (T : TypeId) (l : List Int), SlAt w T v l.length (l.map i64) := by
  obtain ⟨p, n, c, T, m, f, D, Pl, rfl, hs, hf, hd⟩ := open_rows ht hk (by omega) h
  have hex : ∀ i, i < n → ∃ b : Int, f i = [i64 b] := by
    intro i hi
    obtain ⟨x, hx, _, hw⟩ := DataW.trod_int he (hf i hi).2
    exact ⟨x, hx⟩
  obtain ⟨g, hg⟩ := choose_lt hex
  have hfl : ((List.range n).map f).flatten = ((List.range n).map g).map i64 := by
    have : (List.range n).map f = (List.range n).map fun i => [i64 (g i)] := List.map_congr_left fun i hi => hg i (List.mem_range.1 hi)
    rw [this]
    simp only [List.map_map]
    generalize List.range n = L
    induction L with
    | nil => rfl
    | cons a L ih => simp only [List.map_cons, List.flatten_cons, ih, Function.comp_apply]; rfl
  rw [hfl] at hs
  exact ⟨T, (List.range n).map g, by simpa using hs⟩
end
end Go.Eng

namespace Go.Proofs.YtcnjpcadejcenaaGreatDoor
open Go Go.Eng Go.Num Go.Deep
set_option maxRecDepth 100000
instance : Inhabited JV := ⟨JV.null⟩
theorem vreps_map {w : World} {X : Nat → JV} {f : Nat → List Value} : ∀ (l : List Nat), (∀ i ∈ l, VRep w (X i) (f i)) → VReps w (l.map X) (l.map f).flatten
  | [], _ => by simp [VReps]
  | i :: l, h => by
    simp only [List.map_cons, List.flatten_cons, VReps]
    exact ⟨_, _, rfl, h i List.mem_cons_self, vreps_map l fun j hj => h j (List.mem_cons_of_mem _ hj)⟩
section
variable {H : Type} {enc : TypeId × Value → H} {w : World} {base : Nat} {spare : Nat → Bool} {held : Bool}
theorem open_len {P : Program} {t e : TypeId} {fuel : Nat} {p : Option Addr} {n c : Nat} {x : DataW H × List MemPlace} (ht : P.underlying t = some (.slice e)) (h : DataW.trod enc P w base spare held fuel t [.slice p n c] = some x) : n ≤ 9223372036854775807 := by
  rcases Deep.open_slice ht h with ⟨hc, _⟩ | ⟨a, len, cap, m, n', D, Pl, hc, _, hl, hm, _⟩
  · cases hc; omega
  · cases hc; unfold maxLen at hm; omega
theorem open_texts {P : Program} {t e : TypeId} {fuel : Nat} {v : Value} {d : DataW H} {ps : List MemPlace} (ht : P.underlying t = some (.slice e)) (he : P.underlying e = some .string) (hk : P.cellsOf e = 1) (h : DataW.trod enc P w base spare held fuel t [v] = some (d, ps)) :
    ∃ (T : TypeId) (l : List Str), SlAt w T v l.length (l.map str) ∧ l.length ≤ 9223372036854775807 ∧ ∀ s ∈ l, s.length ≤ 9223372036854775807 := by
  obtain ⟨p, n, c, T, m, f, D, Pl, rfl, hs, hf, hd⟩ := open_rows ht hk (by omega) h
  have hn := open_len ht h
  have hex : ∀ i, i < n → ∃ b : Str, f i = [str b] ∧ b.length ≤ 9223372036854775807 := by
    intro i hi
    obtain ⟨s, hx, _, hw⟩ := DataW.trod_string he (hf i hi).2
    refine ⟨s.data.toList, by rw [hx]; simp [ofL], ?_⟩
    unfold maxLen at hw
    simpa using hw
  obtain ⟨g, hg⟩ := choose_lt hex
  have hfl : ((List.range n).map f).flatten = ((List.range n).map g).map str := by
    have : (List.range n).map f = (List.range n).map fun i => [str (g i)] := List.map_congr_left fun i hi => (hg i (List.mem_range.1 hi)).1
    rw [this]
    simp only [List.map_map]
    generalize List.range n = L
    induction L with
    | nil => rfl
    | cons a L ih => simp only [List.map_cons, List.flatten_cons, ih, Function.comp_apply]; rfl
  rw [hfl] at hs
  refine ⟨T, (List.range n).map g, by simpa using hs, by simpa using hn, fun s hs => ?_⟩
  obtain ⟨i, hi, rfl⟩ := List.mem_map.1 hs
  exact (hg i (List.mem_range.1 hi)).2
theorem open_val : ∀ (N fuel : Nat) (cs : List Value) (d : DataW H) (ps : List MemPlace), SizeOf.sizeOf d < N → DataW.trod enc Tryz.prog w base spare held fuel VT cs = some (d, ps) → ∃ v : JV, VRep w v cs
  | 0, _, _, _, _, h, _ => by omega
  | N + 1, fuel, cs, d, ps, hN, h => by
    obtain ⟨xs, n, hn, hx, hl, hlen, hf⟩ := DataW.trod_struct Tryz.underlying26 h
    have hl5 : cs.length = 5 := hl.trans (show Tryz.prog.cellsOf VT = 5 by kernel_rfl)
    have k0 : Tryz.prog.cellsOf 22 = 1 := by kernel_rfl
    have k1 : Tryz.prog.cellsOf 4 = 1 := by kernel_rfl
    have k2 : Tryz.prog.cellsOf 9 = 1 := by kernel_rfl
    have k3 : Tryz.prog.cellsOf 23 = 1 := by kernel_rfl
    have k4 : Tryz.prog.cellsOf 24 = 1 := by kernel_rfl
    match cs, hl5 with
    | [c0, c1, c2, c3, c4], _ =>
    have f0 : DataW.trod enc Tryz.prog w base spare held n 22 (([c0, c1, c2, c3, c4].drop 0).take (Tryz.prog.cellsOf 22)) = xs[0]? := hf 0 _ rfl
    rw [k0] at f0
    have f0 : DataW.trod enc Tryz.prog w base spare held n 22 [c0] = xs[0]? := f0
    have f1 : DataW.trod enc Tryz.prog w base spare held n 4 (([c0, c1, c2, c3, c4].drop 1).take (Tryz.prog.cellsOf 4)) = xs[1]? := hf 1 _ rfl
    rw [k1] at f1
    have f1 : DataW.trod enc Tryz.prog w base spare held n 4 [c1] = xs[1]? := f1
    have f2 : DataW.trod enc Tryz.prog w base spare held n 9 (([c0, c1, c2, c3, c4].drop 2).take (Tryz.prog.cellsOf 9)) = xs[2]? := hf 2 _ rfl
    rw [k2] at f2
    have f2 : DataW.trod enc Tryz.prog w base spare held n 9 [c2] = xs[2]? := f2
    have f3 : DataW.trod enc Tryz.prog w base spare held n 23 (([c0, c1, c2, c3, c4].drop 3).take (Tryz.prog.cellsOf 23)) = xs[3]? := hf 3 _ rfl
    rw [k3] at f3
    have f3 : DataW.trod enc Tryz.prog w base spare held n 23 [c3] = xs[3]? := f3
    have f4 : DataW.trod enc Tryz.prog w base spare held n 24 (([c0, c1, c2, c3, c4].drop 4).take (Tryz.prog.cellsOf 24)) = xs[4]? := hf 4 _ rfl
    rw [k4] at f4
    have f4 : DataW.trod enc Tryz.prog w base spare held n 24 [c4] = xs[4]? := f4
    have hlen : xs.length = 5 := hlen
    match xs, hlen with
    | [y0, y1, y2, y3, y4], _ =>
    simp only [List.getElem?_cons_zero, List.getElem?_cons_succ] at f0 f1 f2 f3 f4
    obtain ⟨a0, h0, _, _⟩ := DataW.trod_int Tryz.underlying22 f0
    obtain ⟨a1, h1, _⟩ := DataW.trod_bool Tryz.underlying4 f1
    obtain ⟨a2, h2, _, w2⟩ := DataW.trod_string Tryz.underlying9 f2
    obtain ⟨T4, ks, h4, l4, b4⟩ := open_texts Tryz.underlying24 Tryz.underlying9 k2 f4
    obtain ⟨p, m, c, T3, m3, f, D, Pl, rfl, h3, hel, hd⟩ := open_rows (k := 5) Tryz.underlying23 (by kernel_rfl) (by omega) f3
    have l3 := open_len Tryz.underlying23 f3
    cases h0; cases h1; cases h2
    have hd3 : SizeOf.sizeOf y3.1 < SizeOf.sizeOf d := by
      have : d = .agg [y0.1, y1.1, y2.1, y3.1, y4.1] := by cases hx; rfl
      rw [this]
      simp
      omega
    have each : ∀ i, i < m → ∃ v : JV, VRep w v (f i) := fun i hi => by
      refine open_val N m3 (f i) (D i) (Pl i) ?_ (hel i hi).2
      rcases hd with ⟨e, _⟩ | ⟨rest, e⟩
      · omega
      · have hmem : D i ∈ (List.range m).map D := List.mem_map.2 ⟨i, List.mem_range.2 hi, rfl⟩
        have h1 := List.sizeOf_lt_of_mem hmem
        rw [e] at hd3
        simp at hd3
        omega
    obtain ⟨X, hX⟩ := choose_lt each
    have hreps : VReps w ((List.range m).map X) ((List.range m).map f).flatten := vreps_map _ fun i hi => hX i (List.mem_range.1 hi)
    have ea : (Value.string a2) = str a2.data.toList := by simp [ofL]
    rw [ea]
    refine ⟨.mk a0 a1 a2.data.toList ((List.range m).map X) ks, VRep.mk (v := .mk a0 a1 a2.data.toList ((List.range m).map X) ks) (by simpa [JV.xs] using h3) hreps h4 ⟨by simpa [JV.xs] using l3, l4, ?_, b4⟩⟩
    unfold maxLen at w2
    simpa [JV.t] using w2
theorem open_v {v : Value} {d : DataW H} {ps : List MemPlace} {r : Reach} {b0 : Nat} (hval : Value.okWide Tryz.prog w r b0 VT v) (h : DataW.Trod enc Tryz.prog w base spare held VT v d ps) : ∃ (j : JV) (cs : List Value), v = .agg cs.toArray ∧ VRep w j cs := by
  obtain ⟨fuel, hf⟩ := h
  obtain ⟨j, hj⟩ := open_val _ fuel _ d ps (Nat.lt_succ_self _) hf
  have hl := hj.len
  refine ⟨j, v.cells.toList, ?_, hj⟩
  cases v with
  | agg a => simp [Value.cells]
  | _ => simp [Value.cells] at hl
end
end Go.Proofs.YtcnjpcadejcenaaGreatDoor

namespace Go.Proofs.YtcnjpcadejcenaaGreatDoor
open Go.RowKit Go.Eng
set_option maxRecDepth 100000
theorem tab_reads {P : Program} {w : World} {name : String} {k : IntKind} {zs : List Int} {g : Nat} {t e : TypeId} {n : Nat} (hg : P.globalNamed name = some g) (hty : (P.globals[g]?).map (·.type) = some t) (ht : P.underlying t = some (.array n e)) (he : P.underlying e = some (.int k)) (hce : P.cellsOf e = 1) (hct : P.cellsOf t = n)
    (h : Lib.VarReads P w name (Lib.tabData k zs)) : Lib.TabIs P w name k zs := by
  obtain ⟨g', t', cs, fuel, p, hg', ht', hvar, hd⟩ := h
  obtain rfl := Option.some.inj (hg.symm.trans hg')
  obtain rfl := Option.some.inj (hty.symm.trans ht')
  unfold Lib.TabIs
  rw [hvar, ← Lib.cells_of_tab ht he hce hct hd]
def bruTab : List Int := [0, 1, 56, 2, 57, 49, 28, 3, 61, 58, 42, 50, 38, 29, 17, 4, 62, 47, 59, 36, 45, 43, 51, 22, 53, 39, 33, 30, 24, 18, 12, 5, 63, 55, 48, 27, 60, 41, 37, 16, 46, 35, 44, 21, 52, 32, 23, 11, 54, 26, 40, 15, 34, 20, 31, 10, 25, 14, 19, 9, 13, 8, 7, 6]
theorem tabs_of {w : World} (hL : laidMetH Tryz.prog Rows.reportPlacesRow.laid w) : Tabs w := by
  have h : laidMet Tryz.prog Rows.reportPlacesRow.laid w := by
    rw [Go.MakeChecks.laidMetH_plain _ _ _ (by kernel_rfl)] at hL
    exact hL
  have r : ∀ n d, (n, d) ∈ Rows.reportPlacesRow.laid → Lib.VarReads Tryz.prog w n d := fun n d hm => Lib.laidMet.reads h hm
  have r1 : Lib.VarReads Tryz.prog w "math/bits.deBruijn64tab" (Lib.tabData .u8 bruTab) := r _ _ (.tail _ (.head _))
  have r2 : Lib.VarReads Tryz.prog w "internal/strconv.uint64pow10" (Lib.tabData .u64 Lib.pow10Tab) := r _ _ (.tail _ (.tail _ (.head _)))
  have r3 : Lib.VarReads Tryz.prog w "unicode/utf8.acceptRanges" Lib.acceptData := r _ _ (.tail _ (.tail _ (.tail _ (.head _))))
  have r4 : Lib.VarReads Tryz.prog w "unicode/utf8.first" Lib.firstData := r _ _ (.tail _ (.tail _ (.tail _ (.tail _ (.tail _ (.tail _ (.head _)))))))
  refine ⟨?_, ?_, ?_⟩
  · exact Go.Proofs.utf8Tabs_of_readsT (Go.Proofs.U8Types.of196 Tryz.laysValid) ⟨by kernel_rfl, by kernel_rfl, by kernel_rfl, by kernel_rfl, by kernel_rfl, by kernel_rfl, by kernel_rfl⟩ r4 r3
  · have := tab_reads (g := 7) (t := 263) (e := U8) (n := 64) (by kernel_rfl) (by kernel_rfl) (by kernel_rfl) (by kernel_rfl) (by kernel_rfl) (by kernel_rfl) r1
    exact Lib.TabIs.cell this (by kernel_rfl) 15 (by decide)
  · exact tab_reads (g := 3) (t := 224) (e := U64) (n := 20) (by kernel_rfl) (by kernel_rfl) (by kernel_rfl) (by kernel_rfl) (by kernel_rfl) (by kernel_rfl) r2
section
variable {H : Type} {enc : TypeId × Value → H} {w : World} {base : Nat} {spare : Nat → Bool} {held : Bool}
theorem open_s {v : Value} {d : DataW H} {ps : List MemPlace} {r : Reach} {b0 : Nat} (hval : Value.okWide Tryz.prog w r b0 9 v) (h : DataW.Trod enc Tryz.prog w base spare held 9 v d ps) : ∃ s : Str, v = str s ∧ s.length ≤ 9223372036854775807 := by
  obtain ⟨s, rfl, _, _, hs⟩ := Go.ChangeMaps.open_string Tryz.underlying9 hval h
  exact ⟨s.data.toList, by simp [ofL], by unfold maxLen at hs; simpa using hs⟩
theorem open_b {v : Value} {d : DataW H} {ps : List MemPlace} {r : Reach} {b0 : Nat} (hval : Value.okWide Tryz.prog w r b0 4 v) (h : DataW.Trod enc Tryz.prog w base spare held 4 v d ps) : ∃ b : Bool, v = .bool b := by
  obtain ⟨b, rfl, _⟩ := open_bool Tryz.underlying4 hval h
  exact ⟨b, rfl⟩
theorem open_i {v : Value} {d : DataW H} {ps : List MemPlace} {r : Reach} {b0 : Nat} (hval : Value.okWide Tryz.prog w r b0 3 v) (h : DataW.Trod enc Tryz.prog w base spare held 3 v d ps) : ∃ n : Int, v = i64 n ∧ -9223372036854775808 ≤ n ∧ n ≤ 9223372036854775807 := by
  obtain ⟨n, rfl, _, _, hw⟩ := Go.ChangeShapes.open_int Tryz.underlying3 hval h
  refine ⟨n, rfl, ?_⟩
  have e1 : IntKind.i64.min = -9223372036854775808 := by decide
  have e2 : IntKind.i64.max = 9223372036854775807 := by decide
  simp only [Lit.wf, Bool.and_eq_true, decide_eq_true_eq, e1, e2] at hw
  exact hw
theorem open_diag {v : Value} {d : DataW H} {ps : List MemPlace} {r : Reach} {b0 : Nat} (hval : Value.okWide Tryz.prog w r b0 49 v) (h : DataW.Trod enc Tryz.prog w base spare held 49 v d ps) :
    ∃ (c : Int) (f : Str) (a : Int), v = .agg [i64 c, str f, i64 a].toArray ∧ (-9223372036854775808 ≤ c ∧ c ≤ 9223372036854775807) ∧ (-9223372036854775808 ≤ a ∧ a ≤ 9223372036854775807) ∧ d = .agg [.lit (.int .i64 c), .lit (.string f), .lit (.int .i64 a)] := by
  obtain ⟨fuel, h⟩ := h
  obtain ⟨xs, n, hn, hx, hl, hlen, hf⟩ := DataW.trod_struct Tryz.underlying49 h
  have hl3 : v.cells.toList.length = 3 := hl.trans (show Tryz.prog.cellsOf 49 = 3 by kernel_rfl)
  have k0 : Tryz.prog.cellsOf 28 = 1 := by kernel_rfl
  have k1 : Tryz.prog.cellsOf 9 = 1 := by kernel_rfl
  have k2 : Tryz.prog.cellsOf 3 = 1 := by kernel_rfl
  have e1 : IntKind.i64.min = -9223372036854775808 := by decide
  have e2 : IntKind.i64.max = 9223372036854775807 := by decide
  cases v with
  | agg arr =>
    obtain ⟨cs⟩ := arr
    simp only [Value.cells] at hl3 hf
    match cs, hl3 with
    | [c0, c1, c2], _ =>
    have f0 : DataW.trod enc Tryz.prog w base spare held n 28 (([c0, c1, c2].drop 0).take (Tryz.prog.cellsOf 28)) = xs[0]? := hf 0 _ rfl
    rw [k0] at f0
    have f0 : DataW.trod enc Tryz.prog w base spare held n 28 [c0] = xs[0]? := f0
    have f1 : DataW.trod enc Tryz.prog w base spare held n 9 (([c0, c1, c2].drop 1).take (Tryz.prog.cellsOf 9)) = xs[1]? := hf 1 _ rfl
    rw [k1] at f1
    have f1 : DataW.trod enc Tryz.prog w base spare held n 9 [c1] = xs[1]? := f1
    have f2 : DataW.trod enc Tryz.prog w base spare held n 3 (([c0, c1, c2].drop 2).take (Tryz.prog.cellsOf 3)) = xs[2]? := hf 2 _ rfl
    rw [k2] at f2
    have f2 : DataW.trod enc Tryz.prog w base spare held n 3 [c2] = xs[2]? := f2
    have hlen : xs.length = 3 := hlen
    match xs, hlen with
    | [y0, y1, y2], _ =>
    simp only [List.getElem?_cons_zero, List.getElem?_cons_succ] at f0 f1 f2
    obtain ⟨a0, h0, hy0, w0⟩ := DataW.trod_int Tryz.underlying28 f0
    obtain ⟨a1, h1, hy1, _⟩ := DataW.trod_string Tryz.underlying9 f1
    obtain ⟨a2, h2, hy2, w2⟩ := DataW.trod_int Tryz.underlying3 f2
    cases h0; cases h1; cases h2
    simp only [Lit.wf, Bool.and_eq_true, decide_eq_true_eq, e1, e2] at w0 w2
    have ea : (Value.string a1) = str a1.data.toList := by simp [ofL]
    refine ⟨a0, a1.data.toList, a2, by rw [ea], w0, w2, ?_⟩
    have : d = .agg [y0.1, y1.1, y2.1] := by cases hx; rfl
    rw [this, hy0, hy1, hy2]
  | _ => simp [Value.cells] at hl3
theorem weigh_diag {d0 : DataW H} {c a : Int} {f : Str} (h : (DataW.weightsEach Tryz.prog [9, 49] [d0, .agg [.lit (.int .i64 c), .lit (.string f), .lit (.int .i64 a)]]).all (fun x => decide (x ≤ reachBytes)) = true) : f.length ≤ 140737488355328 := by
  have hu := Tryz.underlying49
  simp only [DataW.weightsEach, DataW.weights, hu, List.all_append, Bool.and_eq_true, List.map_cons, List.map_nil, List.all_cons, List.all_nil, List.append_nil, decide_eq_true_eq, Bool.and_true, List.nil_append] at h
  have e : reachBytes = 140737488351232 := by decide
  omega
end
end Go.Proofs.YtcnjpcadejcenaaGreatDoor

namespace Go.Proofs.YtcnjpcadejcenaaGreatDoor
open Go Go.Eng Go.RowKit
set_option maxRecDepth 100000
section
variable [HX]
theorem dec_ne (u : Nat) : Lib.decDigits u ≠ [] := by
  rw [Lib.decDigits]
  split <;> simp
theorem dec_big (u : Nat) (h : 0 < u) : Lib.decDigits u = (if u / 10 = 0 then [] else Lib.decDigits (u / 10)) ++ [UInt8.ofNat (48 + u % 10)] := by
  rw [Lib.decDigits]
  split
  · rw [if_pos (by omega), Nat.mod_eq_of_lt (by omega)]; rfl
  · rw [if_neg (by omega)]
theorem dec_zero {u : Nat} (h : Lib.decDigits u = [48]) : u = 0 := by
  rw [Lib.decDigits] at h
  split at h
  · rename_i hu
    have := List.head_eq_of_cons_eq h
    have e := congrArg UInt8.toNat this
    rw [UInt8.toNat_ofNat'] at e
    have : (48 : UInt8).toNat = 48 := rfl
    omega
  · rename_i hu
    have := congrArg List.length h
    rw [List.length_append] at this
    have h0 : 0 < (Lib.decDigits (u / 10)).length := List.length_pos_iff.2 (dec_ne _)
    simp at this
    exact absurd this (dec_ne _)
theorem dec_len : ∀ (k u : Nat), u < 10 ^ k → (Lib.decDigits u).length ≤ k + 1 := by
  intro k
  induction k with
  | zero => intro u h; rw [Lib.decDigits, dif_pos (by omega)]; simp
  | succ k ih =>
    intro u h
    rw [Lib.decDigits]
    split
    · simp
    · have := ih (u / 10) (by rw [Nat.pow_succ] at h; omega)
      rw [List.length_append, List.length_singleton]; omega
theorem signed_p {n : Int} {w : World} {K : Value → World → Prop} (hn : n ≠ 0) (h1 : -9223372036854775808 ≤ n) (h2 : n ≤ 9223372036854775807) (hK : K (str (Lib.itoa n)) w) : callF Tryz.prog 68 [.bool (decide (n < 0)), str (Lib.decDigits n.natAbs)] w K := by
  refine W68_ok ?_
  unfold W68
  have hne : Lib.decDigits n.natAbs ≠ [48] := fun e => by have := dec_zero e; omega
  unfold Lib.itoa at hK
  by_cases hneg : n < 0
  · rw [if_pos hneg] at hK
    rw [decide_eq_true hneg]
    refine GdW.look true (fun _ J hJ => ?_) fun g => ?_
    · rw [bin_sne, decide_eq_true hne]; exact hJ
    show condW (.bool true) _ _
    rw [condW_true, bin_sadd]
    have := dec_len 19 n.natAbs (by omega)
    have em : IntKind.i64.max = 9223372036854775807 := by decide
    refine ⟨by rw [em]; simp only [List.length_cons, List.length_nil]; omega, ?_⟩
    exact hK
  · rw [if_neg hneg] at hK
    rw [decide_eq_false hneg]
    refine GdW.f fun g => ?_
    show condW (.bool false) _ _
    rw [condW_false]
    rw [show n.natAbs = n.toNat by omega]
    exact hK
theorem digits_ref {n : Int} {w : World} {K : Value → World → Prop} (h1 : -9223372036854775808 ≤ n) (h2 : n ≤ 9223372036854775807) (hK : ∀ w', Ext w w' → K (str (Lib.itoa n)) w') : callF Tryz.prog 26 [i64 n] w K := by
  refine W26_ok ?_
  unfold W26
  rw [bin_eql, condW_dec]
  refine ⟨fun h0 => ?_, fun h0 => ?_⟩
  · subst h0
    have e : Lib.itoa 0 = [48] := by unfold Lib.itoa; rw [if_neg (by decide), Lib.decDigits, dif_pos (by decide)]; rfl
    rw [e] at hK
    exact hK w (Chg.refl _ _)
  refine ⟨fun s w' => ∃ (m : Int) (out : Str), s = [str out, i64 m] ∧ Ext w w' ∧ (if m = 0 then [] else Lib.decDigits m.natAbs) ++ out = Lib.decDigits n.natAbs ∧ -9223372036854775808 ≤ m ∧ m ≤ 9223372036854775807,
    fun s _ => match s with | [_, .int _ i] => i.natAbs | _ => 0, ⟨n, [], rfl, Chg.refl _ _, by rw [if_neg h0, List.append_nil], h1, h2⟩, ?_⟩
  rintro s g w2 ⟨m, out, rfl, hx, he, hm1, hm2⟩
  simp only [List.getD_cons_zero, List.getD_cons_succ]
  rw [bin_neq, condW_dec]
  refine ⟨fun hne => ?_, fun he0 => ?_⟩
  · have hol : out.length ≤ 25 := by
      have := dec_len 19 n.natAbs (by omega)
      rw [← he, List.length_append] at this
      omega
    rw [if_neg hne, dec_big _ (by omega), List.append_assoc] at he
    rw [bin_rem]
    refine ⟨by decide, ?_⟩
    have hd : (m.tmod 10).natAbs = m.natAbs % 10 := by rw [Int.natAbs_tmod]; rfl
    have hq : (m.tdiv 10).natAbs = m.natAbs / 10 := by rw [Int.natAbs_tdiv]; rfl
    refine JoinW.cut (fun s' w' => s' = [i64 ((m.natAbs % 10 : Nat) : Int)] ∧ w' = w2) ?_ ?_
    · rw [bin_lss, condW_dec]
      refine ⟨fun h => ?_, fun h => ?_⟩
      · rw [un_neg, wrap_id (by omega) (by omega), show 0 - m.tmod 10 = ((m.natAbs % 10 : Nat) : Int) by omega]
        exact ⟨rfl, rfl⟩
      · rw [show m.tmod 10 = ((m.natAbs % 10 : Nat) : Int) by omega]
        exact ⟨rfl, rfl⟩
    rintro s' g2 w3 ⟨rfl, rfl⟩
    simp only [List.getD_cons_zero]
    rw [bin_add, wrap_id (by omega) (by omega), cvt_int, show (48 : Int) + ((m.natAbs % 10 : Nat) : Int) = ((48 + m.natAbs % 10 : Nat) : Int) by omega, u8_wrap, Nat.mod_eq_of_lt (by omega)]
    refine row_u8 fun t w4 ht hx4 => ?_
    have hb : Byt w4 U8 t [UInt8.ofNat (48 + m.natAbs % 10)] := by
      have e1 : u8s [UInt8.ofNat (48 + m.natAbs % 10)] = [.int .u8 ((48 + m.natAbs % 10 : Nat) : Int)] := by
        simp only [u8s, List.map_cons, List.map_nil, UInt8.toNat_ofNat']
        rw [Nat.mod_eq_of_lt (by omega)]
      unfold Byt
      rw [e1]; exact ht
    rw [conv_bytes (l := [UInt8.ofNat (48 + m.natAbs % 10)]) (e := U8) (by kernel_rfl) (by kernel_rfl) (by kernel_rfl) hb, bin_sadd]
    have em : IntKind.i64.max = 9223372036854775807 := by decide
    refine ⟨by rw [em]; simp only [List.length_cons, List.length_nil]; omega, ?_⟩
    rw [bin_quo]
    refine ⟨by decide, ?_⟩
    rw [wrap_id (by omega) (by omega)]
    refine ⟨⟨m.tdiv 10, _, rfl, hx.trans hx4, ?_, by omega, by omega⟩, ?_⟩
    · rw [← he, ← hq]
      by_cases hz : m.tdiv 10 = 0
      · rw [if_pos hz, if_pos (by omega)]
      · rw [if_neg hz, if_neg (by omega)]
    · show (m.tdiv 10).natAbs < m.natAbs
      omega
  · have he0 : m = 0 := Classical.byContradiction he0
    rw [if_pos he0, List.nil_append] at he
    rw [bin_lss, he]
    exact signed_p h0 h1 h2 (hK w2 hx)
theorem ext_grow (w : World) (k : Nat) (os : Array Obj) : Ext w (Sort.grow (w.drewN k) os) :=
  ⟨rfl, rfl, rfl, by show w.heap.size ≤ (w.heap ++ os).size; simp, fun j hj _ => by show (w.heap ++ os)[j]? = _; rw [Array.getElem?_append_left hj]⟩
theorem itoa_p {n : Int} {w : World} {K : Value → World → Prop} (hT : Tabs w) (h1 : -9223372036854775808 ≤ n) (h2 : n ≤ 9223372036854775807) (hK : ∀ w', Ext w w' → K (str (Lib.itoa n)) w') : callF Tryz.prog 67 [i64 n] w K := by
  refine of_calls (args := #[i64 n]) Tryz.call67 ((Tryz.strconv_Itoa n h1 h2 w hT.pow).mono ?_)
  rintro e w' ⟨rfl, k, os, rfl⟩
  exact ⟨_, rfl, hK _ (ext_grow w k os)⟩
theorem itoa_len {n : Int} (h1 : -9223372036854775808 ≤ n) (h2 : n ≤ 9223372036854775807) : (Lib.itoa n).length ≤ 30 := by
  unfold Lib.itoa
  split
  · have := dec_len 19 n.natAbs (by omega)
    simp only [List.length_cons]; omega
  · have := dec_len 19 n.toNat (by omega)
    omega
theorem var_ext {P : Program} {w w' : World} {name : String} {c : Array Value} (hx : Ext w w') (h : w.var? P name = some c) : w'.var? P name = some c := by
  unfold World.var? at h ⊢
  cases hg : P.globalNamed name with
  | none => rw [hg] at h; cases h
  | some g =>
    rw [hg] at h
    simp only [Option.bind_some] at h ⊢
    cases hb : w.heap[g]? with
    | none => rw [hb] at h; cases h
    | some o => rw [hx.at hb id]; rw [hb] at h; exact h
theorem Tabs.ext {w w' : World} (h : Tabs w) (hx : Ext w w') : Tabs w' := ⟨h.utf.ext hx, cell_ext hx h.bru, var_ext hx h.pow⟩
/-- an error's text -/
def diagM (s : Str) (c : Int) (f : Str) (a : Int) : Str := f ++ [58] ++ Lib.itoa ((placeM s a).1 : Nat) ++ [58] ++ Lib.itoa ((placeM s a).2 : Nat) ++ [58, 32] ++ Lib.itoa c
theorem place_small {s : Str} (hl : s.length ≤ 100000) (a : Int) : (placeM s a).1 ≤ 100001 ∧ (placeM s a).2 ≤ 100001 := by
  unfold placeM
  have h1 := clamp_le s a
  have h2 := row_le s (clampM s a)
  have h3 := colGo_le (s.drop (fromM s (clampM s a))) (clampM s a - fromM s (clampM s a)) (s.drop (fromM s (clampM s a))).length 0
  have h4 : (s.drop (fromM s (clampM s a))).length ≤ s.length := by rw [List.length_drop]; omega
  refine ⟨by dsimp only; omega, ?_⟩
  dsimp only
  unfold colM
  omega
section
variable {s f : Str} {c a : Int} {d : Nat}
theorem diag_p {w : World} {K : Value → World → Prop} (hT : Tabs w) (hl : s.length ≤ 20000) (hf : f.length ≤ 140737488355328) (hc : -9223372036854775808 ≤ c ∧ c ≤ 9223372036854775807)
    (hd : w.heap[d]? = some (.cells [i64 c, str f, i64 a].toArray 49 (0, 0))) (hK : ∀ w', Ext w w' → K (str (diagM s c f a)) w') : callF Tryz.prog 25 [str s, .pointer (some ⟨d, 0, none⟩)] w K := by
  have em : IntKind.i64.max = 9223372036854775807 := by decide
  obtain ⟨p1, p2⟩ := place_small (s := s) (by omega) a
  have i1 := itoa_len (n := (((placeM s a).1 : Nat) : Int)) (by omega) (by omega)
  have i2 := itoa_len (n := (((placeM s a).2 : Nat) : Int)) (by omega) (by omega)
  have i3 := itoa_len hc.1 hc.2
  unfold diagM at hK
  have ld : ∀ {w' : World} (off : Nat) (v : Value) (KK : Value → Prop), Ext w w' → [i64 c, str f, i64 a][off]? = some v → KK v → ldW false 1 (.pointer (some ⟨d, off, none⟩)) w' KK := by
    intro w' off v KK hx hv hk
    rw [ld_one]
    refine ⟨v, ?_, hk⟩
    rw [cell_eq, hx.at hd id, cellO_some]
    simpa using hv
  refine W25_ok ?_
  unfold W25
  show condW (.bool false) _ _
  rw [condW_false, nil_ptr, fld_ptr, add_mk]
  refine ld 2 _ _ (Chg.refl _ _) rfl ?_
  refine place_p (by omega) fun w1 hx1 => ?_
  rw [ext_tuple]
  refine ⟨_, rfl, ?_⟩
  rw [ext_tuple]
  refine ⟨_, rfl, ?_⟩
  have hxd : Ext w w1.drew := hx1.trans (Chg.drew (Chg.refl (fun _ => False) w1))
  rw [nil_ptr, fld_ptr, add_mk]
  refine ld 1 _ _ hxd rfl ?_
  rw [bin_sadd]
  refine ⟨by rw [em]; simp only [List.length_cons, List.length_nil]; omega, ?_⟩
  rw [nil_ptr, fld_ptr, add_mk]
  refine ld 0 _ _ hxd rfl ?_
  have tx : ∀ {w' : World}, Ext w w' → Tabs w' := fun hx => hT.ext hx
  refine itoa_p (tx hxd) (by omega) (by omega) fun w2 hx2 => ⟨ld 0 _ _ (hxd.trans hx2) rfl rfl, ld 1 _ _ (hxd.trans hx2) rfl rfl, ?_⟩
  have hx2' := hxd.trans hx2
  rw [bin_sadd]
  refine ⟨by rw [em]; simp only [List.length_append, List.length_cons, List.length_nil]; omega, ?_⟩
  rw [bin_sadd]
  refine ⟨by rw [em]; simp only [List.length_append, List.length_cons, List.length_nil]; omega, ?_⟩
  refine itoa_p (tx hx2') (by omega) (by omega) fun w3 hx3 => ⟨ld 0 _ _ (hx2'.trans hx3) rfl rfl, ld 1 _ _ (hx2'.trans hx3) rfl rfl, ?_⟩
  have hx3' := hx2'.trans hx3
  rw [bin_sadd]
  refine ⟨by rw [em]; simp only [List.length_append, List.length_cons, List.length_nil]; omega, ?_⟩
  rw [bin_sadd]
  refine ⟨by rw [em]; simp only [List.length_append, List.length_cons, List.length_nil]; omega, ?_⟩
  refine itoa_p (tx hx3') hc.1 hc.2 fun w4 hx4 => ⟨ld 1 _ _ (hx3'.trans hx4) rfl rfl, ?_⟩
  rw [bin_sadd]
  refine ⟨by rw [em]; simp only [List.length_append, List.length_cons, List.length_nil]; omega, ?_⟩
  exact hK w4 (hx3'.trans hx4)
theorem errors_true {w : World} {K : Value → World → Prop} (hT : Tabs w) (_ : s.length ≤ 9223372036854775807) (h1 : (-9223372036854775808 ≤ c ∧ c ≤ 9223372036854775807) ∧ f.length ≤ 140737488355328 ∧ (-9223372036854775808 ≤ a ∧ a ≤ 9223372036854775807))
    (hK : ∀ w', Ext w w' → K (.bool true) w') : callF Tryz.prog 8 [str s, .agg [i64 c, str f, i64 a].toArray] w K := by
  refine W8_ok ?_
  unfold W8
  refine box_new (z := [i64 c, str f, i64 a]) fun d w1 hd hz1 hb1 hx1 => ?_
  refine wake23 (hT.utf.ext hx1) (cell_ext hx1 hT.bru) fun w2 hx2 => ?_
  simp only [wsv, wsg, wsh, wsl, cond_true, cond_false, exists_eq_left', Option.some.injEq, Option.isSome_some, List.getElem?_toArray, List.getElem?_cons_zero, List.getElem?_cons_succ, List.length_cons, List.length_nil, List.set_cons_zero, List.set_cons_succ, List.getD_cons_zero, List.getD_cons_succ, Nat.zero_add, Nat.add_zero, Nat.reduceAdd, Nat.reduceLT, Nat.lt_add_one, Nat.zero_lt_succ, decide_true, decide_false, ne_eq, reduceCtorEq, condW_dec]
  intro g0
  refine ⟨fun hl => ?_, fun hl => ?_⟩
  · exact wake23 (hT.utf.ext (hx1.trans hx2)) (cell_ext (hx1.trans hx2) hT.bru) fun w3 hx3 => hK w3 ((hx1.trans hx2).trans hx3)
  have em : IntKind.i64.max = 9223372036854775807 := by decide
  obtain ⟨hc, hf, ha⟩ := h1
  obtain ⟨p1, p2⟩ := place_small (s := s) (by omega) a
  have i1 := itoa_len (n := (((placeM s a).1 : Nat) : Int)) (by omega) (by omega)
  have i2 := itoa_len (n := (((placeM s a).2 : Nat) : Int)) (by omega) (by omega)
  have i3 := itoa_len hc.1 hc.2
  have hx12 := hx1.trans hx2
  have ld : ∀ {w' : World} (off : Nat) (v : Value), Ext w2 w' → [i64 c, str f, i64 a][off]? = some v → cellO w'.heap[d]? off = some v := by
    intro w' off v hx hv
    rw [hx.at (hx2.at hb1 id) id, cellO_some]
    simpa using hv
  have hTx : ∀ {w' : World}, Ext w2 w' → Tabs w' := fun hx => hT.ext (hx12.trans hx)
  refine ⟨_, ld 2 _ (Chg.refl _ _) rfl, ?_⟩
  refine place_ref (by omega) fun w3 hx3 => ?_
  rw [ext_tuple]
  refine ⟨_, rfl, ?_⟩
  rw [ext_tuple]
  refine ⟨_, rfl, ?_⟩
  rw [ext_tuple]
  refine ⟨_, rfl, ?_⟩
  have hxd : Ext w2 w3.drew := hx3.trans (Chg.drew (Chg.refl (fun _ => False) w3))
  refine ⟨_, ld 1 _ hx3 rfl, ?_⟩
  rw [bin_sadd]
  refine ⟨by rw [em]; simp only [List.length_cons, List.length_nil]; omega, ?_⟩
  refine ⟨_, ld 0 _ hx3 rfl, ?_⟩
  refine diag_p (hTx hxd) (by omega) hf hc (hxd.at (hx2.at hb1 id) id) fun w7 hx7 => ⟨⟨_, ld 0 _ (hxd.trans hx7) rfl, rfl⟩, ⟨_, ld 1 _ (hxd.trans hx7) rfl, rfl⟩, ?_⟩
  have hx7' := hxd.trans hx7
  refine digits_ref (by omega) (by omega) fun w8 hx8 => ⟨⟨_, ld 0 _ (hx7'.trans hx8) rfl, rfl⟩, ⟨_, ld 1 _ (hx7'.trans hx8) rfl, rfl⟩, ?_⟩
  have hx8' := hx7'.trans hx8
  rw [bin_sadd]
  refine ⟨by rw [em]; simp only [List.length_append, List.length_cons, List.length_nil]; omega, ?_⟩
  rw [bin_sadd]
  refine ⟨by rw [em]; simp only [List.length_append, List.length_cons, List.length_nil]; omega, ?_⟩
  refine digits_ref (by omega) (by omega) fun w9 hx9 => ⟨⟨_, ld 0 _ (hx8'.trans hx9) rfl, rfl⟩, ⟨_, ld 1 _ (hx8'.trans hx9) rfl, rfl⟩, ?_⟩
  have hx9' := hx8'.trans hx9
  rw [bin_sadd]
  refine ⟨by rw [em]; simp only [List.length_append, List.length_cons, List.length_nil]; omega, ?_⟩
  rw [bin_sadd]
  refine ⟨by rw [em]; simp only [List.length_append, List.length_cons, List.length_nil]; omega, ?_⟩
  refine digits_ref hc.1 hc.2 fun w10 hx10 => ⟨⟨_, ld 1 _ (hx9'.trans hx10) rfl, rfl⟩, ?_⟩
  have hx10' := hx9'.trans hx10
  rw [bin_sadd]
  refine ⟨by rw [em]; simp only [List.length_append, List.length_cons, List.length_nil]; omega, ?_⟩
  rw [bin_seq, decide_eq_true (show diagM s c f a = f ++ [58] ++ Lib.itoa ((placeM s a).1 : Nat) ++ [58] ++ Lib.itoa ((placeM s a).2 : Nat) ++ [58, 32] ++ Lib.itoa c from rfl)]
  show GqW true _ _
  rw [GqW_t]
  refine ⟨str s, rfl, ?_⟩
  refine ⟨fun _ => ?_, fun e => by cases e⟩
  refine W25_ok ?_
  unfold W25
  show condW (.bool true) _ _
  rw [condW_true]
  dsimp only
  show GqW true _ _
  rw [GqW_t]
  refine ⟨.bool true, by rw [bin_seq, decide_eq_true rfl], ?_⟩
  exact hK _ (hx12.trans hx10')
end
end
end Go.Proofs.YtcnjpcadejcenaaGreatDoor

