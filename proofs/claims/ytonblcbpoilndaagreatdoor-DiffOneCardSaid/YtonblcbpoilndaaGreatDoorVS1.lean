/- One plain sentence: contracts of the document's answer for values: those that only look. Conditions: those that each states. -/
import Derived.Test.YtonblcbpoilndaaGreatDoorJVM
import Derived.Test.YtonblcbpoilndaaGreatDoorWv1
set_option linter.all false
set_option linter.unusedSimpArgs false
set_option linter.unusedVariables false
set_option linter.unusedSectionVars false
namespace Go.Proofs.YtonblcbpoilndaaGreatDoor
open Go Go.Eng Go.Num
set_option maxRecDepth 100000

abbrev VT : TypeId := 49
/-- a value in a block of its own -/
structure ValB (w : World) (a : Nat) (v : JV) (sv kv : Value) : Prop where
  hb : w.heap[a]? = some (.cells [i64 v.k, .bool v.b, str v.t, sv, kv].toArray VT (0, 0))
  items : ∃ T L, SlAt w T sv v.xs.length L ∧ VReps w v.xs L
  keys : ∃ T, SlAt w T kv v.ks.length (v.ks.map str)
  fits : Fits v.xs.length v.ks v.t
theorem ValB.ext {w w' : World} {a : Nat} {v : JV} {sv kv : Value} (h : ValB w a v sv kv) (hx : Ext w w') : ValB w' a v sv kv :=
  ⟨hx.at h.hb id, let ⟨T, L, h1, h2⟩ := h.items; ⟨T, L, h1.ext hx, h2.ext hx⟩, let ⟨T, h1⟩ := h.keys; ⟨T, h1.ext hx⟩, h.fits⟩
theorem ValB.rep {w : World} {a : Nat} {v : JV} {sv kv : Value} (h : ValB w a v sv kv) : VRep w v [i64 v.k, .bool v.b, str v.t, sv, kv] := by
  obtain ⟨T, L, h1, h2⟩ := h.items
  obtain ⟨T', h3⟩ := h.keys
  exact VRep.mk h1 h2 h3 h.fits
theorem ValB.ld {w : World} {a : Nat} {v : JV} {sv kv : Value} {K : Value → Prop} (h : ValB w a v sv kv) (hK : ∀ cs, VRep w v cs → K (.agg cs.toArray)) : ldW true 5 (.pointer (some ⟨a, 0, none⟩)) w K := ld_all h.hb rfl (hK _ h.rep)
theorem ValB.lenx {w : World} {a : Nat} {v : JV} {sv kv : Value} (h : ValB w a v sv kv) (K : Value → Prop) : lenlW sv K ↔ K (i64 v.xs.length) := by obtain ⟨T, L, h1, _⟩ := h.items; exact lenl_at h1 K
theorem ValB.lenk {w : World} {a : Nat} {v : JV} {sv kv : Value} (h : ValB w a v sv kv) (K : Value → Prop) : lenlW kv K ↔ K (i64 v.ks.length) := by obtain ⟨T, h1⟩ := h.keys; exact lenl_at h1 K
theorem ValB.item {w : World} {a : Nat} {v : JV} {sv kv : Value} {k : IntKind} {i : Nat} {x : JV} {K : Value → Prop} (h : ValB w a v sv kv) (hi : v.xs[i]? = some x) (hK : ∀ cs, VRep w x cs → K (.agg cs.toArray)) : ixaW none 5 sv (.int k i) fun p => ldW true 5 p w K := by
  obtain ⟨T, L, h1, h2⟩ := h.items; exact item_ld h1 h2 hi hK
theorem ValB.key {w : World} {a : Nat} {v : JV} {sv kv : Value} {k : IntKind} {i : Nat} {x : Str} {K : Value → Prop} (h : ValB w a v sv kv) (hi : v.ks[i]? = some x) (hK : K (str x)) : ixaW none 1 kv (.int k i) fun p => ldW false 1 p w K := by
  obtain ⟨T, h1⟩ := h.keys; exact text_ld h1 hi hK
theorem box_val {w : World} {v : JV} {cs : List Value} {K : Value → World → Prop} (h : VRep w v cs) (hK : ∀ a w' sv kv, ValB w' a v sv kv → Ext w w' → w.heap.size ≤ a → K (.pointer (some ⟨a, 0, none⟩)) w') : boxW VT (.agg cs.toArray) w K := by
  obtain ⟨sv, kv, T1, T2, L, rfl, h1, h2, h3, h4⟩ := h.out
  refine box_new fun a w' ha hz hb hx => hK a w' sv kv ⟨hb, ⟨T1, L, h1.ext hx, h2.ext hx⟩, ⟨T2, h3.ext hx⟩, h4⟩ hx (by omega)

/-- the two lists of a value -/
structure ValI (w : World) (v : JV) (sv kv : Value) : Prop where
  items : ∃ T L, SlAt w T sv v.xs.length L ∧ VReps w v.xs L
  keys : ∃ T, SlAt w T kv v.ks.length (v.ks.map str)
  fits : Fits v.xs.length v.ks v.t
theorem ValI.box {w w' : World} {a : Nat} {v : JV} {sv kv : Value} (h : ValI w v sv kv) (hx : Ext w w') (hb : w'.heap[a]? = some (.cells [i64 v.k, .bool v.b, str v.t, sv, kv].toArray VT (0, 0))) : ValB w' a v sv kv :=
  ⟨hb, let ⟨T, L, h1, h2⟩ := h.items; ⟨T, L, h1.ext hx, h2.ext hx⟩, let ⟨T, h1⟩ := h.keys; ⟨T, h1.ext hx⟩, h.fits⟩
theorem box_vali {w0 w : World} {v : JV} {cs : List Value} {K : Value → World → Prop} (h : VRep w0 v cs) (hK : ∀ a w' sv kv, w'.heap[a]? = some (.cells [i64 v.k, .bool v.b, str v.t, sv, kv].toArray VT (0, 0)) → ValI w0 v sv kv → Ext w w' → w.heap.size ≤ a → w'.heap.size = a + 1 → K (.pointer (some ⟨a, 0, none⟩)) w') : boxW VT (.agg cs.toArray) w K := by
  obtain ⟨sv, kv, T1, T2, L, rfl, h1, h2, h3, h4⟩ := h.out
  refine box_new fun a w' ha hz hb hx => hK a w' sv kv hb ⟨⟨T1, L, h1, h2⟩, ⟨T2, h3⟩, h4⟩ hx (by omega) (by omega)
/-- an item as it was at an earlier world -/
theorem ValI.item_old {w0 w : World} {v : JV} {sv kv : Value} {k : IntKind} {i : Nat} {x : JV} {K : Value → Prop} (h : ValI w0 v sv kv) (hx : Ext w0 w) (hi : v.xs[i]? = some x) (hK : ∀ cs, VRep w0 x cs → K (.agg cs.toArray)) : ixaW none 5 sv (.int k i) fun p => ldW true 5 p w K := by
  obtain ⟨T, L, h1, h2⟩ := h.items
  obtain ⟨cs, hc, hg⟩ := h2.get hi
  refine ixa_at (size := 5) (h1.ext hx) h2.len (by omega) (List.getElem?_eq_some_iff.1 hi).1 fun b o c fr hb hcc => ?_
  exact ld_cells hb hc.len (fun j hj => (hcc j hj).trans (hg j hj)) (hK cs hc)
/-- the lists at w, what they hold at w0 -/
def VRepS (w0 w : World) (v : JV) (cs : List Value) : Prop := ∃ sv kv T1 T2 L, cs = [i64 v.k, .bool v.b, str v.t, sv, kv] ∧ SlAt w T1 sv v.xs.length L ∧ VReps w0 v.xs L ∧ SlAt w T2 kv v.ks.length (v.ks.map str) ∧ Fits v.xs.length v.ks v.t
theorem VRepS.rep {w0 w : World} {v : JV} {cs : List Value} (h : VRepS w0 w v cs) (hx : Ext w0 w) : VRep w v cs := by
  obtain ⟨sv, kv, T1, T2, L, rfl, h1, h2, h3, h4⟩ := h
  exact VRep.mk h1 (h2.ext hx) h3 h4
theorem VRepS.ext {w0 w w' : World} {v : JV} {cs : List Value} (h : VRepS w0 w v cs) (hx : Ext w w') : VRepS w0 w' v cs := by
  obtain ⟨sv, kv, T1, T2, L, rfl, h1, h2, h3, h4⟩ := h
  exact ⟨sv, kv, T1, T2, L, rfl, h1.ext hx, h2, h3.ext hx, h4⟩
theorem VRep.s {w w' : World} {v : JV} {cs : List Value} (h : VRep w v cs) (hx : Ext w w') : VRepS w w' v cs := by
  obtain ⟨sv, kv, T1, T2, L, rfl, h1, h2, h3, h4⟩ := h.out
  exact ⟨sv, kv, T1, T2, L, rfl, h1.ext hx, h2, h3.ext hx, h4⟩

theorem loop_up (n : Nat) {w1 : World} {B : List Value → Fr → World → (List Value → World → Prop) → Prop} (R : Nat → World → Prop) (h0 : R 0 w1)
    (step : ∀ i w g L, i < n → R i w → (∀ w', R (i + 1) w' → L [i64 ((i + 1 : Nat) : Int)] w') → B [i64 (i : Nat)] g w L)
    (fin : ∀ w g L, R n w → B [i64 (n : Nat)] g w L) : LoopW [i64 0] w1 B := by
  refine ⟨fun s w => ∃ i, i ≤ n ∧ s = [i64 (i : Nat)] ∧ R i w, fun s _ => match s with | [.int _ i] => n - i.toNat | _ => 0, ⟨0, Nat.zero_le _, rfl, h0⟩, ?_⟩
  rintro s g w ⟨i, hi, rfl, hR⟩
  rcases Nat.lt_or_ge i n with hlt | hge
  · exact step i w g _ hlt hR fun w' h' => ⟨⟨i + 1, hlt, rfl, h'⟩, by simp only [Int.toNat_natCast]; omega⟩
  · obtain rfl : i = n := by omega
    exact fin w g _ hR
theorem up1 {i : Nat} (h : (i : Int) < 9223372036854775807) : IntKind.i64.wrap ((i : Int) + 1) = ((i + 1 : Nat) : Int) := by rw [wrap_id (by omega) (by omega)]; simp


section
variable [HX]
theorem known_ref (v : JV) : ∀ {cs : List Value} {w : World} {K : Value → World → Prop}, VRep w v cs → (∀ w', Ext w w' → K (.bool (knownM v)) w') → callF Tryz.prog 18 [.agg cs.toArray] w K := by
  induction v using JV.ind' with
  | h v ih =>
    intro cs w K h hK
    refine W18_ok ?_
    unfold W18
    refine box_val h fun a w1 sv kv hB hx _ => ?_
    rw [knownM_eq] at hK
    simp only [wsv, wsg, wsh, wsl, cond_true, cond_false, exists_eq_left', Option.some.injEq, Option.isSome_some, List.getElem?_toArray, List.getElem?_cons_zero, List.getElem?_cons_succ, List.length_cons, List.length_nil, List.set_cons_zero, List.set_cons_succ, List.getD_cons_zero, List.getD_cons_succ, Nat.zero_add, Nat.add_zero, Nat.reduceAdd, Nat.reduceLT, Nat.lt_add_one, Nat.zero_lt_succ, decide_true, decide_false, ne_eq, reduceCtorEq, wsh, hB.hb, condW_dec]
    refine ⟨fun h1 => ?_, fun h1 => ?_⟩
    · have := hK w1 hx
      rw [decide_eq_true h1] at this
      exact this
    · rw [hB.lenx]
      rw [decide_eq_false h1, knownL_all] at hK
      refine loop_up v.xs.length (fun i w' => Ext w1 w' ∧ (v.xs.take i).all knownM = true) ⟨Chg.refl _ _, rfl⟩ ?_ ?_
      · rintro i w2 g L hi ⟨hx2, hall⟩ hL
        have hB := hB.ext hx2
        obtain ⟨x, hxi⟩ : ∃ x, v.xs[i]? = some x := ⟨_, List.getElem?_eq_getElem hi⟩
        have hlt : ((i : Int) < (v.xs.length : Int)) := by omega
        simp only [wsv, wsg, wsh, wsl, cond_true, cond_false, exists_eq_left', Option.some.injEq, Option.isSome_some, List.getElem?_toArray, List.getElem?_cons_zero, List.getElem?_cons_succ, List.length_cons, List.length_nil, List.set_cons_zero, List.set_cons_succ, List.getD_cons_zero, List.getD_cons_succ, Nat.zero_add, Nat.add_zero, Nat.reduceAdd, Nat.reduceLT, Nat.lt_add_one, Nat.zero_lt_succ, decide_true, decide_false, ne_eq, reduceCtorEq, wsh, hB.hb, hlt]
        refine hB.item hxi fun cs hcs => ?_
        refine ih x (List.mem_of_getElem? hxi) hcs fun w3 hx3 => ?_
        simp only [wsv, wsg, wsh, wsl, cond_true, cond_false, exists_eq_left', Option.some.injEq, Option.isSome_some, List.getElem?_toArray, List.getElem?_cons_zero, List.getElem?_cons_succ, List.length_cons, List.length_nil, List.set_cons_zero, List.set_cons_succ, List.getD_cons_zero, List.getD_cons_succ, Nat.zero_add, Nat.add_zero, Nat.reduceAdd, Nat.reduceLT, Nat.lt_add_one, Nat.zero_lt_succ, decide_true, decide_false, ne_eq, reduceCtorEq, condW_b]
        refine ⟨fun hf => ?_, fun ht => ?_⟩
        · have hf : knownM x = false := by simpa using hf
          have := hK w3 (hx.trans (hx2.trans hx3))
          rw [all_no hxi hf] at this
          exact this
        · have ht : knownM x = true := by simpa using ht
          rw [up1 (by have := hB.fits.1; omega)]
          exact hL w3 ⟨hx2.trans hx3, by rw [all_take hxi, hall, ht]; rfl⟩
      · rintro w2 g L ⟨hx2, hall⟩
        simp only [wsv, wsg, wsh, wsl, cond_true, cond_false, exists_eq_left', Option.some.injEq, Option.isSome_some, List.getElem?_toArray, List.getElem?_cons_zero, List.getElem?_cons_succ, List.length_cons, List.length_nil, List.set_cons_zero, List.set_cons_succ, List.getD_cons_zero, List.getD_cons_succ, Nat.zero_add, Nat.add_zero, Nat.reduceAdd, Nat.reduceLT, Nat.lt_add_one, Nat.zero_lt_succ, decide_true, decide_false, ne_eq, reduceCtorEq, Int.lt_irrefl]
        rw [List.take_length] at hall
        have := hK w2 (hx.trans hx2)
        rw [hall] at this
        exact this

theorem texts_ref {a b : List Str} {x y : Value} {T1 T2 : TypeId} {w : World} {K : Value → World → Prop} (h1 : SlAt w T1 x a.length (a.map str)) (h2 : SlAt w T2 y b.length (b.map str)) (ha : a.length ≤ 9223372036854775807)
    (hK : ∀ w', Ext w w' → K (.bool (decide (a = b))) w') : callF Tryz.prog 19 [x, y] w K := by
  refine W19_ok ?_
  unfold W19
  rw [lenl_at h1, lenl_at h2]
  simp only [wsv, wsg, wsh, wsl, cond_true, cond_false, exists_eq_left', Option.some.injEq, Option.isSome_some, List.getElem?_toArray, List.getElem?_cons_zero, List.getElem?_cons_succ, List.length_cons, List.length_nil, List.set_cons_zero, List.set_cons_succ, List.getD_cons_zero, List.getD_cons_succ, Nat.zero_add, Nat.add_zero, Nat.reduceAdd, Nat.reduceLT, Nat.lt_add_one, Nat.zero_lt_succ, decide_true, decide_false, ne_eq, reduceCtorEq, condW_dec]
  refine ⟨fun hne => ?_, fun he => ?_⟩
  · have : a ≠ b := by rintro rfl; exact hne rfl
    have := hK w (Chg.refl _ _)
    rw [decide_eq_false ‹a ≠ b›] at this
    exact this
  · have hl : a.length = b.length := by omega
    rw [lenl_at h1]
    refine loop_up a.length (fun i w' => Ext w w' ∧ a.take i = b.take i) ⟨Chg.refl _ _, rfl⟩ ?_ ?_
    · rintro i w2 g L hi ⟨hx2, htk⟩ hL
      have hx3 := hx2.trans (Chg.drew (Chg.refl (fun _ => False) w2))
      obtain ⟨u, hu⟩ : ∃ u, a[i]? = some u := ⟨_, List.getElem?_eq_getElem hi⟩
      obtain ⟨v, hv⟩ : ∃ v, b[i]? = some v := ⟨_, List.getElem?_eq_getElem (by omega)⟩
      have hlt : ((i : Int) < (a.length : Int)) := by omega
      simp only [wsv, wsg, wsh, wsl, cond_true, cond_false, exists_eq_left', Option.some.injEq, Option.isSome_some, List.getElem?_toArray, List.getElem?_cons_zero, List.getElem?_cons_succ, List.length_cons, List.length_nil, List.set_cons_zero, List.set_cons_succ, List.getD_cons_zero, List.getD_cons_succ, Nat.zero_add, Nat.add_zero, Nat.reduceAdd, Nat.reduceLT, Nat.lt_add_one, Nat.zero_lt_succ, decide_true, decide_false, ne_eq, reduceCtorEq, hlt]
      refine text_ld (h1.ext hx3) hu ?_
      refine text_ld (h2.ext hx3) hv ?_
      simp only [wsv, wsg, wsh, wsl, cond_true, cond_false, exists_eq_left', Option.some.injEq, Option.isSome_some, List.getElem?_toArray, List.getElem?_cons_zero, List.getElem?_cons_succ, List.length_cons, List.length_nil, List.set_cons_zero, List.set_cons_succ, List.getD_cons_zero, List.getD_cons_succ, Nat.zero_add, Nat.add_zero, Nat.reduceAdd, Nat.reduceLT, Nat.lt_add_one, Nat.zero_lt_succ, decide_true, decide_false, ne_eq, reduceCtorEq, condW_dec]
      refine ⟨fun hne => ?_, fun he => ?_⟩
      · have := hK _ hx3
        rw [decide_eq_false (take_ne hu hv hne)] at this
        exact this
      · rw [up1 (by omega)]
        have he : u = v := by simpa using he
        exact hL _ ⟨hx3, take_eq htk hu (by rw [he]; exact hv)⟩
    · rintro w2 g L ⟨hx2, htk⟩
      simp only [wsv, wsg, wsh, wsl, cond_true, cond_false, exists_eq_left', Option.some.injEq, Option.isSome_some, List.getElem?_toArray, List.getElem?_cons_zero, List.getElem?_cons_succ, List.length_cons, List.length_nil, List.set_cons_zero, List.set_cons_succ, List.getD_cons_zero, List.getD_cons_succ, Nat.zero_add, Nat.add_zero, Nat.reduceAdd, Nat.reduceLT, Nat.lt_add_one, Nat.zero_lt_succ, decide_true, decide_false, ne_eq, reduceCtorEq, Int.lt_irrefl]
      rw [List.take_length, hl, List.take_length] at htk
      have := hK w2 hx2
      rw [decide_eq_true htk] at this
      exact this

theorem at_ref {v : JV} {cs : List Value} {k : Str} {w : World} {K : Value → World → Prop} (h : VRep w v cs) (hK : ∀ w', Ext w w' → K (i64 (idxI v.ks k)) w') : callF Tryz.prog 51 [.agg cs.toArray, str k] w K := by
  refine W51_ok ?_
  unfold W51
  refine box_val h fun a w1 sv kv hB hx _ => ?_
  simp only [wsv, wsg, wsh, wsl, cond_true, cond_false, exists_eq_left', Option.some.injEq, Option.isSome_some, List.getElem?_toArray, List.getElem?_cons_zero, List.getElem?_cons_succ, List.length_cons, List.length_nil, List.set_cons_zero, List.set_cons_succ, List.getD_cons_zero, List.getD_cons_succ, Nat.zero_add, Nat.add_zero, Nat.reduceAdd, Nat.reduceLT, Nat.lt_add_one, Nat.zero_lt_succ, decide_true, decide_false, ne_eq, reduceCtorEq, wsh, hB.hb]
  rw [hB.lenk]
  refine loop_up v.ks.length (fun i w' => Ext w1 w' ∧ idxK (v.ks.take i) k = none) ⟨Chg.refl _ _, rfl⟩ ?_ ?_
  · rintro i w2 g L hi ⟨hx2, hno⟩ hL
    have hB := hB.ext hx2
    obtain ⟨u, hu⟩ : ∃ u, v.ks[i]? = some u := ⟨_, List.getElem?_eq_getElem hi⟩
    have hlt : ((i : Int) < (v.ks.length : Int)) := by omega
    simp only [wsv, wsg, wsh, wsl, cond_true, cond_false, exists_eq_left', Option.some.injEq, Option.isSome_some, List.getElem?_toArray, List.getElem?_cons_zero, List.getElem?_cons_succ, List.length_cons, List.length_nil, List.set_cons_zero, List.set_cons_succ, List.getD_cons_zero, List.getD_cons_succ, Nat.zero_add, Nat.add_zero, Nat.reduceAdd, Nat.reduceLT, Nat.lt_add_one, Nat.zero_lt_succ, decide_true, decide_false, ne_eq, reduceCtorEq, wsh, hB.hb, hlt]
    refine hB.key hu ?_
    simp only [wsv, wsg, wsh, wsl, cond_true, cond_false, exists_eq_left', Option.some.injEq, Option.isSome_some, List.getElem?_toArray, List.getElem?_cons_zero, List.getElem?_cons_succ, List.length_cons, List.length_nil, List.set_cons_zero, List.set_cons_succ, List.getD_cons_zero, List.getD_cons_succ, Nat.zero_add, Nat.add_zero, Nat.reduceAdd, Nat.reduceLT, Nat.lt_add_one, Nat.zero_lt_succ, decide_true, decide_false, ne_eq, reduceCtorEq, condW_dec]
    refine ⟨fun he => ?_, fun hne => ?_⟩
    · have := hK w2 (hx.trans hx2)
      rw [idxI, idxK_hit hno (by rw [hu, he])] at this
      exact this
    · rw [up1 (by have := hB.fits.2.1; omega)]
      exact hL w2 ⟨hx2, idxK_miss hno hu hne⟩
  · rintro w2 g L ⟨hx2, hno⟩
    simp only [wsv, wsg, wsh, wsl, cond_true, cond_false, exists_eq_left', Option.some.injEq, Option.isSome_some, List.getElem?_toArray, List.getElem?_cons_zero, List.getElem?_cons_succ, List.length_cons, List.length_nil, List.set_cons_zero, List.set_cons_succ, List.getD_cons_zero, List.getD_cons_succ, Nat.zero_add, Nat.add_zero, Nat.reduceAdd, Nat.reduceLT, Nat.lt_add_one, Nat.zero_lt_succ, decide_true, decide_false, ne_eq, reduceCtorEq, Int.lt_irrefl]
    rw [List.take_length] at hno
    have := hK w2 (hx.trans hx2)
    rw [idxI, hno] at this
    exact this

theorem size_ref (v : JV) : ∀ {cs : List Value} {w : World} {K : Value → World → Prop}, VRep w v cs → (∀ w', Ext w w' → K (i64 (sizeM v)) w') → callF Tryz.prog 52 [.agg cs.toArray] w K := by
  induction v using JV.ind' with
  | h v ih =>
    intro cs w K h hK
    refine W52_ok ?_
    unfold W52
    refine box_val h fun a w1 sv kv hB hx _ => ?_
    rw [sizeM_eq] at hK
    refine ⟨fun s w' => ∃ i, i ≤ v.xs.length ∧ s = [i64 (sizeLM (v.xs.take i) 1), i64 (i : Nat)] ∧ Ext w1 w', fun s _ => match s with | [_, .int _ i] => v.xs.length - i.toNat | _ => 0, ⟨0, Nat.zero_le _, rfl, Chg.refl _ _⟩, ?_⟩
    rintro s g w2 ⟨i, hi, rfl, hx2⟩
    have hB := hB.ext hx2
    simp only [wsv, wsg, wsh, wsl, cond_true, cond_false, exists_eq_left', Option.some.injEq, Option.isSome_some, List.getElem?_toArray, List.getElem?_cons_zero, List.getElem?_cons_succ, List.length_cons, List.length_nil, List.set_cons_zero, List.set_cons_succ, List.getD_cons_zero, List.getD_cons_succ, Nat.zero_add, Nat.add_zero, Nat.reduceAdd, Nat.reduceLT, Nat.lt_add_one, Nat.zero_lt_succ, decide_true, decide_false, ne_eq, reduceCtorEq, wsh, hB.hb]
    rw [hB.lenx]
    simp only [wsv, wsg, wsh, wsl, cond_true, cond_false, exists_eq_left', Option.some.injEq, Option.isSome_some, List.getElem?_toArray, List.getElem?_cons_zero, List.getElem?_cons_succ, List.length_cons, List.length_nil, List.set_cons_zero, List.set_cons_succ, List.getD_cons_zero, List.getD_cons_succ, Nat.zero_add, Nat.add_zero, Nat.reduceAdd, Nat.reduceLT, Nat.lt_add_one, Nat.zero_lt_succ, decide_true, decide_false, ne_eq, reduceCtorEq]
    intro _
    simp only [wsv, wsg, wsh, wsl, cond_true, cond_false, exists_eq_left', Option.some.injEq, Option.isSome_some, List.getElem?_toArray, List.getElem?_cons_zero, List.getElem?_cons_succ, List.length_cons, List.length_nil, List.set_cons_zero, List.set_cons_succ, List.getD_cons_zero, List.getD_cons_succ, Nat.zero_add, Nat.add_zero, Nat.reduceAdd, Nat.reduceLT, Nat.lt_add_one, Nat.zero_lt_succ, decide_true, decide_false, ne_eq, reduceCtorEq, condW_b]
    refine ⟨fun hc => ?_, fun hc => ?_⟩
    · simp only [Bool.and_eq_true, decide_eq_true_eq] at hc
      obtain ⟨x, hxi⟩ : ∃ x, v.xs[i]? = some x := ⟨_, List.getElem?_eq_getElem (by omega)⟩
      refine hB.item hxi fun cs hcs => ?_
      refine ih x (List.mem_of_getElem? hxi) hcs fun w3 hx3 => ?_
      simp only [wsv, wsg, wsh, wsl, cond_true, cond_false, exists_eq_left', Option.some.injEq, Option.isSome_some, List.getElem?_toArray, List.getElem?_cons_zero, List.getElem?_cons_succ, List.length_cons, List.length_nil, List.set_cons_zero, List.set_cons_succ, List.getD_cons_zero, List.getD_cons_succ, Nat.zero_add, Nat.add_zero, Nat.reduceAdd, Nat.reduceLT, Nat.lt_add_one, Nat.zero_lt_succ, decide_true, decide_false, ne_eq, reduceCtorEq]
      rw [up1 (by have := hB.fits.1; omega)]
      refine ⟨⟨i + 1, by omega, ?_, hx2.trans hx3⟩, by simp only [Int.toNat_natCast]; omega⟩
      have : v.xs.take (i + 1) = v.xs.take i ++ [x] := by rw [List.take_add_one, hxi]; rfl
      rw [this, sizeLM_app _ _ _ hc.2]
      simp only [sizeLM]
      rw [if_pos hc.2]
    · have := hK w2 (hx.trans hx2)
      have e : sizeLM v.xs 1 = sizeLM (v.xs.take i) 1 := by
        by_cases hb : sizeLM (v.xs.take i) 1 ≤ 2000
        · have : i = v.xs.length := by
            simp only [Bool.and_eq_false_iff, decide_eq_false_iff_not] at hc
            omega
          rw [this, List.take_length]
        · have := sizeLM_stop (v.xs.take i) (v.xs.drop i) 1 hb
          rw [List.take_append_drop] at this
          exact this
      rw [e] at this
      exact this

theorem deep_ref (v : JV) : ∀ {cs : List Value} {m : Nat} {w : World} {K : Value → World → Prop}, m ≤ 1000 → VRep w v cs → (∀ w', Ext w w' → K (.bool (deepM v m)) w') → callF Tryz.prog 53 [.agg cs.toArray, i64 (m : Nat)] w K := by
  induction v using JV.ind' with
  | h v ih =>
    intro cs m w K hm h hK
    refine W53_ok ?_
    unfold W53
    refine box_val h fun a w1 sv kv hB hx _ => ?_
    simp only [wsv, wsg, wsh, wsl, cond_true, cond_false, exists_eq_left', Option.some.injEq, Option.isSome_some, List.getElem?_toArray, List.getElem?_cons_zero, List.getElem?_cons_succ, List.length_cons, List.length_nil, List.set_cons_zero, List.set_cons_succ, List.getD_cons_zero, List.getD_cons_succ, Nat.zero_add, Nat.add_zero, Nat.reduceAdd, Nat.reduceLT, Nat.lt_add_one, Nat.zero_lt_succ, decide_true, decide_false, ne_eq, reduceCtorEq, wsh, hB.hb, condW_dec]
    refine ⟨fun h1 => ?_, fun h1 => ?_⟩
    · obtain rfl : m = 0 := by omega
      have := hK w1 hx
      rw [deepM_zero] at this
      exact this
    · obtain ⟨m, rfl⟩ : ∃ k, m = k + 1 := ⟨m - 1, by omega⟩
      rw [hB.lenx]
      rw [deepM_succ, deepL_all] at hK
      refine loop_up v.xs.length (fun i w' => Ext w1 w' ∧ (v.xs.take i).all (deepM · m) = true) ⟨Chg.refl _ _, rfl⟩ ?_ ?_
      · rintro i w2 g L hi ⟨hx2, hall⟩ hL
        have hB := hB.ext hx2
        obtain ⟨x, hxi⟩ : ∃ x, v.xs[i]? = some x := ⟨_, List.getElem?_eq_getElem hi⟩
        have hlt : ((i : Int) < (v.xs.length : Int)) := by omega
        simp only [wsv, wsg, wsh, wsl, cond_true, cond_false, exists_eq_left', Option.some.injEq, Option.isSome_some, List.getElem?_toArray, List.getElem?_cons_zero, List.getElem?_cons_succ, List.length_cons, List.length_nil, List.set_cons_zero, List.set_cons_succ, List.getD_cons_zero, List.getD_cons_succ, Nat.zero_add, Nat.add_zero, Nat.reduceAdd, Nat.reduceLT, Nat.lt_add_one, Nat.zero_lt_succ, decide_true, decide_false, ne_eq, reduceCtorEq, wsh, hB.hb, hlt]
        refine hB.item hxi fun cs hcs => ?_
        have hw : IntKind.i64.wrap (((m + 1 : Nat) : Int) - 1) = ((m : Nat) : Int) := by rw [wrap_id (by omega) (by omega)]; omega
        rw [hw]
        refine ih x (List.mem_of_getElem? hxi) (by omega) hcs fun w3 hx3 => ?_
        simp only [wsv, wsg, wsh, wsl, cond_true, cond_false, exists_eq_left', Option.some.injEq, Option.isSome_some, List.getElem?_toArray, List.getElem?_cons_zero, List.getElem?_cons_succ, List.length_cons, List.length_nil, List.set_cons_zero, List.set_cons_succ, List.getD_cons_zero, List.getD_cons_succ, Nat.zero_add, Nat.add_zero, Nat.reduceAdd, Nat.reduceLT, Nat.lt_add_one, Nat.zero_lt_succ, decide_true, decide_false, ne_eq, reduceCtorEq, condW_b]
        refine ⟨fun hf => ?_, fun ht => ?_⟩
        · have hf : deepM x m = false := by simpa using hf
          have := hK w3 (hx.trans (hx2.trans hx3))
          rw [all_no (p := (deepM · m)) hxi hf] at this
          exact this
        · have ht : deepM x m = true := by simpa using ht
          rw [up1 (by have := hB.fits.1; omega)]
          exact hL w3 ⟨hx2.trans hx3, by rw [all_take (p := (deepM · m)) hxi, hall, ht]; rfl⟩
      · rintro w2 g L ⟨hx2, hall⟩
        simp only [wsv, wsg, wsh, wsl, cond_true, cond_false, exists_eq_left', Option.some.injEq, Option.isSome_some, List.getElem?_toArray, List.getElem?_cons_zero, List.getElem?_cons_succ, List.length_cons, List.length_nil, List.set_cons_zero, List.set_cons_succ, List.getD_cons_zero, List.getD_cons_succ, Nat.zero_add, Nat.add_zero, Nat.reduceAdd, Nat.reduceLT, Nat.lt_add_one, Nat.zero_lt_succ, decide_true, decide_false, ne_eq, reduceCtorEq, Int.lt_irrefl]
        rw [List.take_length] at hall
        have := hK w2 (hx.trans hx2)
        rw [hall] at this
        exact this
end
end Go.Proofs.YtonblcbpoilndaaGreatDoor
