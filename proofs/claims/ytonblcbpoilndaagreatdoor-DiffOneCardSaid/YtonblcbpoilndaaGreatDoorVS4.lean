/- One plain sentence: contracts of the document's answer for values: an item, and a value with or without a key. Conditions: those that each states. -/
import Derived.Test.YtonblcbpoilndaaGreatDoorVS3
set_option linter.all false
set_option linter.unusedSimpArgs false
set_option linter.unusedVariables false
set_option linter.unusedSectionVars false
namespace Go.Proofs.YtonblcbpoilndaaGreatDoor
open Go Go.Eng Go.Num
set_option maxRecDepth 100000
section
variable [HX]

/-- what is handed back through a block of its own -/
theorem ret_val {w w0 : World} {b : Nat} {cs ds : List Value} {v : JV} {K : Value → World → Prop} (hb : w.heap[b]? = some (.cells ds.toArray VT (0, 0))) (hd : ds.length = 5) (hl : w0.heap.size ≤ b) (hx : Ext w0 w) (h : VRep w0 v cs)
    (hK : ∀ w', Ext w0 w' → Chg (fun k => k = b) w w' → VRep w' v cs → K (.agg cs.toArray) w') : stW 5 (ptr b) (.agg cs.toArray) w fun w5 => ldW true 5 (ptr b) w5 fun r6 => K r6 w5 :=
  ret_agg hb h.len hd h.all_one fun w' hc => by
    have hx' := hx.new hc hl
    exact hK w' hx' hc (h.ext hx')

/-- an item as it was at an earlier world -/
theorem ValB.item_old {w0 w : World} {a : Nat} {v : JV} {sv kv : Value} {k : IntKind} {i : Nat} {x : JV} {K : Value → Prop} (h : ValB w0 a v sv kv) (hx : Ext w0 w) (hi : v.xs[i]? = some x) (hK : ∀ cs, VRep w0 x cs → K (.agg cs.toArray)) : ixaW none 5 sv (.int k i) fun p => ldW true 5 p w K := by
  obtain ⟨T, L, h1, h2⟩ := h.items
  obtain ⟨cs, hc, hg⟩ := h2.get hi
  refine ixa_at (size := 5) (h1.ext hx) h2.len (by omega) (List.getElem?_eq_some_iff.1 hi).1 fun b o c fr hb hcc => ?_
  exact ld_cells hb hc.len (fun j hj => (hcc j hj).trans (hg j hj)) (hK cs hc)
theorem idxI_neg {ks : List Str} {k : Str} : idxI ks k < 0 ↔ idxK ks k = none := by
  unfold idxI
  cases h : idxK ks k with
  | none => simp
  | some i => simp

theorem get_ref {v : JV} {cs : List Value} {k : Str} {w : World} {K : Value → World → Prop} (h : VRep w v cs) (hl : v.k = 6 → v.ks.length = v.xs.length)
    (hK : ∀ cs' w', Ext w w' → VRep w' ((getM v k).getD JV.null) cs' → K (.tuple #[.agg cs'.toArray, .bool (getM v k).isSome]) w') : callF Tryz.prog 17 [.agg cs.toArray, str k] w K := by
  refine W17_ok ?_
  unfold W17
  refine box_val h fun a w1 sv kv hB hx _ => ?_
  refine alloc_new fun b w2 hb hz2 hbb hx2 => ?_
  have hB0 := hB
  have hB := hB.ext hx2
  refine hB.ld fun cs1 h1 => ?_
  refine at_ref h1 fun w3 hx3 => ?_
  have hB := hB.ext hx3
  have hbb := hx3.at hbb id
  have hgb : w1.heap.size ≤ b := by omega
  have hx13 : Ext w1 w3 := hx2.trans hx3
  simp only [wsv, wsg, wsh, wsl, cond_true, cond_false, exists_eq_left', Option.some.injEq, Option.isSome_some, List.getElem?_toArray, List.getElem?_cons_zero, List.getElem?_cons_succ, List.length_cons, List.length_nil, List.set_cons_zero, List.set_cons_succ, List.getD_cons_zero, List.getD_cons_succ, Nat.zero_add, Nat.add_zero, Nat.reduceAdd, Nat.reduceLT, Nat.lt_add_one, Nat.zero_lt_succ, decide_true, decide_false, ne_eq, reduceCtorEq, wsh, hB.hb]
  intros
  rw [condW_b]
  refine ⟨fun hbad => ?_, fun hok => ?_⟩
  · have hg : getM v k = none := by
      simp only [Bool.or_eq_true, decide_eq_true_eq, idxI_neg] at hbad
      unfold getM
      rcases hbad with h | h
      · rw [h]; simp
      · rw [if_neg h]
    rw [hg] at hK
    refine ret_val (K := fun r w => K (.tuple #[r, .bool false]) w) hbb rfl hgb hx13 (vrep_null w1) fun w4 hx4 _ h4 => ?_
    exact hK _ w4 (hx.trans hx4) h4
  · simp only [Bool.or_eq_false_iff, decide_eq_false_iff_not, idxI_neg, Decidable.not_not] at hok
    obtain ⟨i, hi⟩ := Option.ne_none_iff_exists'.1 hok.1
    have hii : idxI v.ks k = (i : Int) := by unfold idxI; rw [hi]
    obtain ⟨x, hxi⟩ : ∃ x, v.xs[i]? = some x := ⟨_, List.getElem?_eq_getElem (by
      have := (List.getElem?_eq_some_iff.1 (idxK_spec hi)).1
      have := hl hok.2
      omega)⟩
    have hg : getM v k = some x := by unfold getM; rw [if_pos hok.2, hi]; exact hxi
    rw [hg] at hK
    rw [hii]
    refine hB0.item_old hx13 hxi fun cs2 h2 => ?_
    refine ret_val (K := fun r w => K (.tuple #[r, .bool true]) w) hbb rfl hgb hx13 h2 fun w4 hx4 _ h4 => ?_
    exact hK _ w4 (hx.trans hx4) h4

theorem obj_one {k : Int} {b : Bool} {t : Str} {sv kv : Value} (h1 : one1 sv = true) (h2 : one1 kv = true) : ([i64 k, .bool b, str t, sv, kv] : List Value).all one1 = true := by
  simp only [List.all_cons, List.all_nil, h1, h2, Bool.and_true]; rfl
theorem dropP_take {l : List (Str × JV)} {k : Str} {i : Nat} {p : Str × JV} (hi : l[i]? = some p) : dropP (l.take (i + 1)) k = if p.1 = k then dropP (l.take i) k else dropP (l.take i) k ++ [p] := by
  rw [List.take_add_one, hi]
  simp only [dropP, Option.toList_some, List.filter_append]
  by_cases h : p.1 = k <;> simp [h]
theorem zip_get {ks : List Str} {xs : List JV} {i : Nat} {u : Str} {x : JV} (hu : ks[i]? = some u) (hx : xs[i]? = some x) : (ks.zip xs)[i]? = some (u, x) := by
  rw [List.getElem?_zip_eq_some]; exact ⟨hu, hx⟩
theorem drop_ref {v : JV} {cs : List Value} {k : Str} {w0 w : World} {K : Value → World → Prop} (h : VRep w0 v cs) (h0 : Ext w0 w) (he : v.k = 6) (hl : v.ks.length = v.xs.length) (hfew : v.ks.length ≤ 100000)
    (hK : ∀ sv kv base w', Ext w w' → w.heap.size ≤ base → OwnV w0 w' base (mkO (dropP (v.ks.zip v.xs) k)) sv kv → K (.agg [i64 6, .bool false, str [], sv, kv].toArray) w') : callF Tryz.prog 23 [.agg cs.toArray, str k] w K := by
  refine W23_ok ?_
  unfold W23
  refine box_vali h fun a w1 sv kv hba I hx ha hz1 => ?_
  refine alloc_new fun b w2 hb hz2 hbb hx2 => ?_
  have hB := I.box (h0.trans (hx.trans hx2)) (hx2.at hba id)
  have hB0 := I.box (h0.trans hx) hba
  simp only [wsv, wsg, wsh, wsl, cond_true, cond_false, exists_eq_left', Option.some.injEq, Option.isSome_some, List.getElem?_toArray, List.getElem?_cons_zero, List.getElem?_cons_succ, List.length_cons, List.length_nil, List.set_cons_zero, List.set_cons_succ, List.getD_cons_zero, List.getD_cons_succ, Nat.zero_add, Nat.add_zero, Nat.reduceAdd, Nat.reduceLT, Nat.lt_add_one, Nat.zero_lt_succ, decide_true, decide_false, ne_eq, reduceCtorEq, wsh, hB.hb, condW_dec]
  refine ⟨fun hne => absurd he hne, fun _ => ?_⟩
  · skip
    refine alloc_new fun g w3 hg hz3 hgg hx3 => ?_
    refine st_agg_at (l := [i64 6, .bool false, str [], .slice none 0 0, .slice none 0 0]) hgg rfl rfl rfl fun w4 hz4 hg4 hc4 => ?_
    have hx14 : Ext w w4 := (hx.trans (hx2.trans hx3)).new hc4 (by have := hx.size; omega)
    have hsz := hx.size
    have hx24 : Ext w2 w4 := hx3.new hc4 (by omega)
    have hbb := hx24.at hbb id
    have hB := hB.ext hx24
    have hba4 := (hx2.trans hx24).at hba id
    have h00 := h0.size
    have G0 : Grow w0 w4 g (g + 1) (.slice none 0 0) (.slice none 0 0) (.slice none 0 0) (.slice none 0 0) [] [] := ⟨h0.trans hx14, hg4, by omega, by omega, by omega, ⟨[], ⟨rfl, .inl ⟨rfl, rfl⟩⟩, by simp [VReps]⟩, ⟨rfl, .inl ⟨rfl, rfl⟩⟩⟩
    simp only [wsv, wsg, wsh, wsl, cond_true, cond_false, exists_eq_left', Option.some.injEq, Option.isSome_some, List.getElem?_toArray, List.getElem?_cons_zero, List.getElem?_cons_succ, List.length_cons, List.length_nil, List.set_cons_zero, List.set_cons_succ, List.getD_cons_zero, List.getD_cons_succ, Nat.zero_add, Nat.add_zero, Nat.reduceAdd, Nat.reduceLT, Nat.lt_add_one, Nat.zero_lt_succ, decide_true, decide_false, ne_eq, reduceCtorEq, wsh, hB.hb]
    rw [hB.lenk]
    refine loop_up v.ks.length (fun i w' => ∃ sv kv, Grow w0 w' g (g + 1) sv kv sv kv ((dropP ((v.ks.zip v.xs).take i) k).map (·.2)) ((dropP ((v.ks.zip v.xs).take i) k).map (·.1)) ∧ Low g (g + 1) w4 w') ⟨_, _, G0, Chg.refl _ _⟩ ?_ ?_
    · rintro i w5 gg L hi ⟨sv1, kv1, G, lo⟩ hL
      have hB := I.box G.ext (low_get lo (by omega) (by omega) hba4)
      obtain ⟨u, hu⟩ : ∃ u, v.ks[i]? = some u := ⟨_, List.getElem?_eq_getElem hi⟩
      obtain ⟨x, hx'⟩ : ∃ x, v.xs[i]? = some x := ⟨_, List.getElem?_eq_getElem (by omega)⟩
      have hz := zip_get hu hx'
      have hnx := dropP_take (k := k) hz
      have hcnt : (dropP ((v.ks.zip v.xs).take i) k).length ≤ 1000000 := by
        have h1 : (dropP ((v.ks.zip v.xs).take i) k).length ≤ ((v.ks.zip v.xs).take i).length := List.length_filter_le _ _
        rw [List.length_take] at h1
        omega
      have hlt : ((i : Int) < (v.ks.length : Int)) := by omega
      simp only [wsv, wsg, wsh, wsl, cond_true, cond_false, exists_eq_left', Option.some.injEq, Option.isSome_some, List.getElem?_toArray, List.getElem?_cons_zero, List.getElem?_cons_succ, List.length_cons, List.length_nil, List.set_cons_zero, List.set_cons_succ, List.getD_cons_zero, List.getD_cons_succ, Nat.zero_add, Nat.add_zero, Nat.reduceAdd, Nat.reduceLT, Nat.lt_add_one, Nat.zero_lt_succ, decide_true, decide_false, ne_eq, reduceCtorEq, wsh, hB.hb, hlt]
      refine JoinW.cut (fun s w' => s = [] ∧ ∃ sv kv, Grow w0 w' g (g + 1) sv kv sv kv ((dropP ((v.ks.zip v.xs).take (i + 1)) k).map (·.2)) ((dropP ((v.ks.zip v.xs).take (i + 1)) k).map (·.1)) ∧ Low g (g + 1) w4 w') ?_ ?_
      · refine hB.key hu ?_
        simp only [wsv, wsg, wsh, wsl, cond_true, cond_false, exists_eq_left', Option.some.injEq, Option.isSome_some, List.getElem?_toArray, List.getElem?_cons_zero, List.getElem?_cons_succ, List.length_cons, List.length_nil, List.set_cons_zero, List.set_cons_succ, List.getD_cons_zero, List.getD_cons_succ, Nat.zero_add, Nat.add_zero, Nat.reduceAdd, Nat.reduceLT, Nat.lt_add_one, Nat.zero_lt_succ, decide_true, decide_false, ne_eq, reduceCtorEq, condW_dec]
        refine ⟨fun hne => ?_, fun he => ⟨sv1, kv1, ?_, lo⟩⟩
        · have hne : u ≠ k := by simpa using hne
          rw [if_neg hne] at hnx
          have hxd : Ext w5 w5.drew := Chg.drew (Chg.refl (fun _ => False) w5)
          have Gd := G.more hxd
          have hBd := hB.ext hxd
          (try simp only [wsv, wsg, wsh, wsl, cond_true, cond_false, exists_eq_left', Option.some.injEq, Option.isSome_some, List.getElem?_toArray, List.getElem?_cons_zero, List.getElem?_cons_succ, List.length_cons, List.length_nil, List.set_cons_zero, List.set_cons_succ, List.getD_cons_zero, List.getD_cons_succ, Nat.zero_add, Nat.add_zero, Nat.reduceAdd, Nat.reduceLT, Nat.lt_add_one, Nat.zero_lt_succ, decide_true, decide_false, ne_eq, reduceCtorEq, wsh, G.hb])
          refine ValB.key hBd hu ?_
          refine row_s fun t6 w6 ht6 hx6 => ?_
          have lo := low_ext (low_ext lo hxd) hx6
          have G := Gd.more hx6
          (try simp only [wsv, wsg, wsh, wsl, cond_true, cond_false, exists_eq_left', Option.some.injEq, Option.isSome_some, List.getElem?_toArray, List.getElem?_cons_zero, List.getElem?_cons_succ, List.length_cons, List.length_nil, List.set_cons_zero, List.set_cons_succ, List.getD_cons_zero, List.getD_cons_succ, Nat.zero_add, Nat.add_zero, Nat.reduceAdd, Nat.reduceLT, Nat.lt_add_one, Nat.zero_lt_succ, decide_true, decide_false, ne_eq, reduceCtorEq, wsh, G.hb])
          refine G.appk ht6 (by rw [List.length_map]; exact hcnt) fun kv2 w7 G7 hb7 => ?_
          have lo := low_step lo hb7
          refine G7.set (sv1 := sv1) (kv1 := kv2) G7.one.2 (by omega) rfl fun w8 G8 hb8 => ?_
          have lo := low_set lo hb8
          have hB8 := I.box G8.ext (low_get lo (by omega) (by omega) hba4)
          (try simp only [wsv, wsg, wsh, wsl, cond_true, cond_false, exists_eq_left', Option.some.injEq, Option.isSome_some, List.getElem?_toArray, List.getElem?_cons_zero, List.getElem?_cons_succ, List.length_cons, List.length_nil, List.set_cons_zero, List.set_cons_succ, List.getD_cons_zero, List.getD_cons_succ, Nat.zero_add, Nat.add_zero, Nat.reduceAdd, Nat.reduceLT, Nat.lt_add_one, Nat.zero_lt_succ, decide_true, decide_false, ne_eq, reduceCtorEq, wsh, G8.hb])
          have hxd8 : Ext w8 w8.drew := Chg.drew (Chg.refl (fun _ => False) w8)
          have G := G8.more hxd8
          have lo := low_ext lo hxd8
          (try simp only [wsv, wsg, wsh, wsl, cond_true, cond_false, exists_eq_left', Option.some.injEq, Option.isSome_some, List.getElem?_toArray, List.getElem?_cons_zero, List.getElem?_cons_succ, List.length_cons, List.length_nil, List.set_cons_zero, List.set_cons_succ, List.getD_cons_zero, List.getD_cons_succ, Nat.zero_add, Nat.add_zero, Nat.reduceAdd, Nat.reduceLT, Nat.lt_add_one, Nat.zero_lt_succ, decide_true, decide_false, ne_eq, reduceCtorEq, wsh, hB8.hb])
          refine I.item_old G.ext hx' fun cs2 h2 => ?_
          refine row_v h2.len fun t9 w9 ht9 hx9 => ?_
          have lo := low_ext lo hx9
          have G := G.more hx9
          (try simp only [wsv, wsg, wsh, wsl, cond_true, cond_false, exists_eq_left', Option.some.injEq, Option.isSome_some, List.getElem?_toArray, List.getElem?_cons_zero, List.getElem?_cons_succ, List.length_cons, List.length_nil, List.set_cons_zero, List.set_cons_succ, List.getD_cons_zero, List.getD_cons_succ, Nat.zero_add, Nat.add_zero, Nat.reduceAdd, Nat.reduceLT, Nat.lt_add_one, Nat.zero_lt_succ, decide_true, decide_false, ne_eq, reduceCtorEq, wsh, G.hb])
          refine G.appx ht9 h2 (by rw [List.length_map]; exact hcnt) fun sv2 w10 G10 hb10 => ?_
          have lo := low_step lo hb10
          refine G10.set (sv1 := sv2) (kv1 := kv2) G10.one.1 (by omega) rfl fun w11 G11 hb11 => ?_
          have lo := low_set lo hb11
          refine ⟨sv2, kv2, ?_, lo⟩
          rw [hnx, List.map_append, List.map_append]
          exact G11
        · have he : u = k := by simpa using he
          rw [if_pos he] at hnx
          rw [hnx]; exact G
      · rintro s g' w6 ⟨rfl, sv2, kv2, G2, lo⟩
        rw [up1 (by omega)]
        exact hL w6 ⟨sv2, kv2, G2, lo⟩
    · rintro w5 gg L ⟨sv1, kv1, G, lo⟩
      rw [List.take_of_length_le (by rw [List.length_zip]; omega)] at G
      simp only [wsv, wsg, wsh, wsl, cond_true, cond_false, exists_eq_left', Option.some.injEq, Option.isSome_some, List.getElem?_toArray, List.getElem?_cons_zero, List.getElem?_cons_succ, List.length_cons, List.length_nil, List.set_cons_zero, List.set_cons_succ, List.getD_cons_zero, List.getD_cons_succ, Nat.zero_add, Nat.add_zero, Nat.reduceAdd, Nat.reduceLT, Nat.lt_add_one, Nat.zero_lt_succ, decide_true, decide_false, ne_eq, reduceCtorEq, Int.lt_irrefl]
      have hcnt : (dropP (v.ks.zip v.xs) k).length ≤ 1000000 := by
        have h1 : (dropP (v.ks.zip v.xs) k).length ≤ (v.ks.zip v.xs).length := List.length_filter_le _ _
        rw [List.length_zip] at h1
        omega
      have hbb := low_get lo (by omega) (by omega) hbb
      have hO := G.own hcnt fun p hp => I.fits.2.2.2 _ (List.of_mem_zip (List.mem_filter.1 hp).1).1
      refine ld_all G.hb rfl ?_
      have h1 := hO.one
      refine ret_agg hbb rfl rfl (obj_one h1.1 h1.2) fun w6 hc6 => ?_
      exact hK _ _ (g + 1) w6 ((low_new hx14 (by omega) (by omega) lo).new hc6 (by omega)) (by omega) (hO.chg hc6 fun k hk _ e => by omega)

theorem insP_take {l : List (Str × JV)} {k : Str} {x : JV} : ∀ (i : Nat), (∀ p ∈ l.take i, Op.bytesLess k p.1 = false) → insP l k x = l.take i ++ insP (l.drop i) k x := by
  induction l with
  | nil => intro i _; simp [insP]
  | cons p l ih =>
    intro i hi
    cases i with
    | zero => rfl
    | succ i =>
      simp only [List.take_succ_cons, List.drop_succ_cons, List.cons_append]
      obtain ⟨a, y⟩ := p
      have h0 := hi (a, y) (by simp)
      simp only [insP, h0, Bool.false_eq_true, if_false]
      rw [ih i fun q hq => hi q (by simp [hq])]
/-- how far the loop of Put is: what is out, and whether the key is in it -/
def putGo (l : List (Str × JV)) (k : Str) (x : JV) : Nat → List (Str × JV) × Bool
  | 0 => ([], false)
  | i + 1 => match l[i]? with
    | none => putGo l k x i
    | some p => if (!(putGo l k x i).2 && Op.bytesLess k p.1) then ((putGo l k x i).1 ++ [(k, x)] ++ [p], true) else ((putGo l k x i).1 ++ [p], (putGo l k x i).2)
theorem putGo_spec {l : List (Str × JV)} {k : Str} {x : JV} : ∀ (i : Nat), i ≤ l.length → ((putGo l k x i).2 = false → (putGo l k x i).1 = l.take i ∧ ∀ p ∈ l.take i, Op.bytesLess k p.1 = false) ∧ ((putGo l k x i).2 = true → (putGo l k x i).1 ++ l.drop i = insP l k x)
  | 0, _ => by simp [putGo]
  | i + 1, h => by
    obtain ⟨h1, h2⟩ := putGo_spec (l := l) (k := k) (x := x) i (by omega)
    obtain ⟨p, hp⟩ : ∃ p, l[i]? = some p := ⟨_, List.getElem?_eq_getElem (by omega)⟩
    have hd : l.drop i = p :: l.drop (i + 1) := by
      have hi : i < l.length := h
      rw [List.drop_eq_getElem_cons hi]
      congr 1
      exact Option.some.inj ((List.getElem?_eq_getElem hi).symm.trans hp)
    have ht : l.take (i + 1) = l.take i ++ [p] := by rw [List.take_add_one, hp]; rfl
    simp only [putGo, hp]
    cases hg : (putGo l k x i).2 with
    | true =>
      simp only [Bool.not_true, Bool.false_and, Bool.false_eq_true, if_false]
      refine ⟨(fun e => by cases e), fun _ => ?_⟩
      rw [← h2 hg, hd]; simp
    | false =>
      obtain ⟨e1, e2⟩ := h1 hg
      cases hb : Op.bytesLess k p.1 with
      | true =>
        simp only [Bool.not_false, Bool.and_self, if_true]
        refine ⟨(fun e => by cases e), fun _ => ?_⟩
        obtain ⟨a, y⟩ := p
        rw [e1, insP_take i e2, hd]
        simp only [insP, hb, if_true]
        simp
      | false =>
        simp only [Bool.not_false, Bool.true_and, Bool.false_eq_true, if_false]
        refine ⟨fun _ => ⟨by rw [e1, ht], fun q hq => ?_⟩, fun e => by cases e⟩
        rw [ht] at hq
        rcases List.mem_append.1 hq with hq | hq
        · exact e2 q hq
        · rw [List.mem_singleton.1 hq]; exact hb
theorem putGo_end {l : List (Str × JV)} {k : Str} {x : JV} : insP l k x = if (putGo l k x l.length).2 then (putGo l k x l.length).1 else (putGo l k x l.length).1 ++ [(k, x)] := by
  obtain ⟨h1, h2⟩ := putGo_spec (k := k) (x := x) l.length (Nat.le_refl _)
  cases hg : (putGo l k x l.length).2 with
  | true =>
    rw [if_pos rfl, ← h2 hg]; simp
  | false =>
    obtain ⟨e1, e2⟩ := h1 hg
    rw [List.take_length] at e1 e2
    rw [if_neg (by simp), e1]
    have := insP_take (l := l) (k := k) (x := x) l.length (by rw [List.take_length]; exact e2)
    rw [this]; simp [insP]
theorem putGo_len (l : List (Str × JV)) (k : Str) (x : JV) : ∀ i, (putGo l k x i).1.length ≤ 2 * i
  | 0 => by simp [putGo]
  | i + 1 => by
    have := putGo_len l k x i
    simp only [putGo]
    split
    · omega
    · split <;> simp <;> omega
end
end Go.Proofs.YtonblcbpoilndaaGreatDoor
