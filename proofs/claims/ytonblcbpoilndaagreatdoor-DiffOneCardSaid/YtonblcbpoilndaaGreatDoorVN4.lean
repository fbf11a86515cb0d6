/- One plain sentence: contracts of the program's values: known, their order, equal. Conditions: those that each states. -/
import Derived.Test.YtonblcbpoilndaaGreatDoorVN3
set_option linter.all false
set_option linter.unusedSimpArgs false
set_option linter.unusedVariables false
set_option linter.unusedSectionVars false
namespace Go.Proofs.YtonblcbpoilndaaGreatDoor
open Go Go.Eng Go.Num
set_option maxRecDepth 100000
section
variable [HX]
theorem callV_fn {P : Program} {g : FuncId} {args : List Value} {w : World} {K : Value → World → Prop} (h : callF P g args w K) : callV P (.func (.func g) #[] #[]) args w K := by
  unfold callV semN
  unfold callF at h
  have : (do let d ← (Deferred.ofValue (.func (.func g) #[] #[]) args.toArray); invoke d.target d.args : Sem Next) = callFunc g args.toArray := by
    show callFunc g (#[] ++ args.toArray ++ #[]) = _
    simp
  rw [this]
  exact h

/-- a row of values that is read -/
structure ItemsAt (w : World) (sv : Value) (xs : List JV) : Prop where
  it : ∃ T L, SlAt w T sv xs.length L ∧ VReps w xs L
  few : xs.length ≤ 9223372036854775807
theorem ItemsAt.ext {w w' : World} {sv : Value} {xs : List JV} (h : ItemsAt w sv xs) (hx : Ext w w') : ItemsAt w' sv xs := ⟨let ⟨T, L, h1, h2⟩ := h.it; ⟨T, L, h1.ext hx, h2.ext hx⟩, h.few⟩
theorem ValB.itemsAt {w : World} {a : Nat} {v : JV} {sv kv : Value} (h : ValB w a v sv kv) : ItemsAt w sv v.xs := ⟨h.items, h.fits.1⟩
theorem ItemsAt.len {w : World} {sv : Value} {xs : List JV} (h : ItemsAt w sv xs) (K : Value → Prop) : lenlW sv K ↔ K (i64 xs.length) := by obtain ⟨T, L, h1, _⟩ := h.it; exact lenl_at h1 K
theorem ItemsAt.at {w : World} {sv : Value} {xs : List JV} {k : IntKind} {i : Nat} {x : JV} {K : Value → Prop} (h : ItemsAt w sv xs) (hi : xs[i]? = some x) (hK : ∀ cs, VRep w x cs → K (.agg cs.toArray)) : ixaW none 5 sv (.int k i) fun p => ldW true 5 p w K := by
  obtain ⟨T, L, h1, h2⟩ := h.it; exact item_ld h1 h2 hi hK

def findI {α : Type} (p : α → Bool) (xs : List α) : Int := match xs.findIdx? p with | some i => i | none => -1
theorem findI_ge {α : Type} (p : α → Bool) (xs : List α) : decide ((0 : Int) ≤ findI p xs) = xs.any p := by
  unfold findI
  cases h : xs.findIdx? p with
  | none =>
    have := List.findIdx?_eq_none_iff.1 h
    have : xs.any p = false := List.any_eq_false.2 fun x hx => by simp [this x hx]
    rw [this]; decide
  | some i =>
    obtain ⟨hi, hp, _⟩ := List.findIdx?_eq_some_iff_getElem.1 h
    rw [List.any_eq_true.2 ⟨_, List.getElem_mem hi, hp⟩]
    exact decide_eq_true (by simp)
theorem findIdx_hit {α : Type} {p : α → Bool} {xs : List α} {i : Nat} {x : α} (h : (xs.take i).any p = false) (hi : xs[i]? = some x) (hx : p x = true) : xs.findIdx? p = some i := by
  obtain ⟨hl, e⟩ := List.getElem?_eq_some_iff.1 hi
  rw [List.findIdx?_eq_some_iff_getElem]
  refine ⟨hl, by rw [e]; exact hx, fun j hj => ?_⟩
  have := List.any_eq_false.1 h xs[j] (List.mem_of_getElem? (i := j) (by rw [List.getElem?_take, if_pos hj]; exact List.getElem?_eq_getElem _))
  simpa using this
theorem index_v {sv f : Value} {xs : List JV} {p : JV → Bool} {w : World} {K : Value → World → Prop} (h : ItemsAt w sv xs)
    (hf : ∀ x ∈ xs, ∀ {cs : List Value} {w : World} {K : Value → World → Prop}, VRep w x cs → (∀ w', Ext w w' → K (.bool (p x)) w') → callV Tryz.prog f [.agg cs.toArray] w K)
    (hK : ∀ w', Ext w w' → K (i64 (findI p xs)) w') : callF Tryz.prog 137 [sv, f] w K := by
  refine W137_ok ?_
  unfold W137
  rw [h.len]
  refine loop_up xs.length (fun i w' => Ext w w' ∧ (xs.take i).any p = false) ⟨Chg.refl _ _, by simp⟩ ?_ ?_
  · rintro i w2 g L hi ⟨hx2, hno⟩ hL
    obtain ⟨x, hxi⟩ : ∃ x, xs[i]? = some x := ⟨_, List.getElem?_eq_getElem hi⟩
    have hlt : ((i : Int) < (xs.length : Int)) := by omega
    simp only [wsv, wsg, wsh, wsl, cond_true, cond_false, exists_eq_left', Option.some.injEq, Option.isSome_some, List.getElem?_toArray, List.getElem?_cons_zero, List.getElem?_cons_succ, List.length_cons, List.length_nil, List.set_cons_zero, List.set_cons_succ, List.getD_cons_zero, List.getD_cons_succ, Nat.zero_add, Nat.add_zero, Nat.reduceAdd, Nat.reduceLT, Nat.lt_add_one, Nat.zero_lt_succ, decide_true, decide_false, ne_eq, reduceCtorEq, hlt]
    refine (h.ext hx2).at hxi fun cs hcs => ?_
    refine hf x (List.mem_of_getElem? hxi) hcs fun w3 hx3 => ?_
    rw [condW_b]
    refine ⟨fun ht => ?_, fun hn => ?_⟩
    · have := hK w3 (hx2.trans hx3)
      unfold findI at this
      rw [findIdx_hit hno hxi ht] at this
      exact this
    · have := h.few
      rw [up1 (by omega)]
      exact hL w3 ⟨hx2.trans hx3, by rw [any_take hxi, hno, hn]; rfl⟩
  · rintro w2 g L ⟨hx2, hno⟩
    simp only [wsv, wsg, wsh, wsl, cond_true, cond_false, exists_eq_left', Option.some.injEq, Option.isSome_some, List.getElem?_toArray, List.getElem?_cons_zero, List.getElem?_cons_succ, List.length_cons, List.length_nil, List.set_cons_zero, List.set_cons_succ, List.getD_cons_zero, List.getD_cons_succ, Nat.zero_add, Nat.add_zero, Nat.reduceAdd, Nat.reduceLT, Nat.lt_add_one, Nat.zero_lt_succ, decide_true, decide_false, ne_eq, reduceCtorEq, Int.lt_irrefl]
    rw [List.take_length] at hno
    have := hK w2 hx2
    unfold findI at this
    rw [List.findIdx?_eq_none_iff.2 fun x hx => by simpa using List.any_eq_false.1 hno x hx] at this
    exact this
theorem contains_v {sv f : Value} {xs : List JV} {p : JV → Bool} {w : World} {K : Value → World → Prop} (h : ItemsAt w sv xs)
    (hf : ∀ x ∈ xs, ∀ {cs : List Value} {w : World} {K : Value → World → Prop}, VRep w x cs → (∀ w', Ext w w' → K (.bool (p x)) w') → callV Tryz.prog f [.agg cs.toArray] w K)
    (hK : ∀ w', Ext w w' → K (.bool (xs.any p)) w') : callF Tryz.prog 88 [sv, f] w K := by
  refine W88_ok ?_
  unfold W88
  refine index_v h hf fun w1 hx1 => ?_
  simp only [wsv, wsg, wsh, wsl, cond_true, cond_false, exists_eq_left', Option.some.injEq, Option.isSome_some, List.getElem?_toArray, List.getElem?_cons_zero, List.getElem?_cons_succ, List.length_cons, List.length_nil, List.set_cons_zero, List.set_cons_succ, List.getD_cons_zero, List.getD_cons_succ, Nat.zero_add, Nat.add_zero, Nat.reduceAdd, Nat.reduceLT, Nat.lt_add_one, Nat.zero_lt_succ, decide_true, decide_false, ne_eq, reduceCtorEq, findI_ge]
  exact hK w1 hx1

theorem any_not_known (xs : List JV) : (!xs.any fun x => !knownM x) = knownL xs := by
  rw [knownL_all]
  induction xs with
  | nil => rfl
  | cons x xs ih => simp only [List.any_cons, List.all_cons, Bool.not_or, Bool.not_not, ih]
theorem known_p (v : JV) : ∀ {cs : List Value} {w : World} {K : Value → World → Prop}, VRep w v cs → (∀ w', Ext w w' → K (.bool (knownM v)) w') → callF Tryz.prog 50 [.agg cs.toArray] w K := by
  induction v using JV.ind' with
  | h v ih =>
    intro cs w K h hK
    refine W50_ok ?_
    unfold W50
    refine box_val h fun a w1 sv kv hB hx _ => ?_
    rw [knownM_eq] at hK
    simp only [wsv, wsg, wsh, wsl, cond_true, cond_false, exists_eq_left', Option.some.injEq, Option.isSome_some, List.getElem?_toArray, List.getElem?_cons_zero, List.getElem?_cons_succ, List.length_cons, List.length_nil, List.set_cons_zero, List.set_cons_succ, List.getD_cons_zero, List.getD_cons_succ, Nat.zero_add, Nat.add_zero, Nat.reduceAdd, Nat.reduceLT, Nat.lt_add_one, Nat.zero_lt_succ, decide_true, decide_false, ne_eq, reduceCtorEq, wsh, hB.hb]
    refine GdW.act (knownL v.xs) (fun w' => Ext w1 w') (fun _ => Chg.refl _ _) ?_ ?_
    · intro hc J hJ
      refine contains_v (p := fun x => !knownM x) hB.itemsAt ?_ fun w2 hx2 => ?_
      · intro x hx cs w K hr hK
        refine callV_fn ?_
        refine W89_ok ?_
        unfold W89
        refine box_val hr fun b w1 sv kv hB hx1 _ => ?_
        refine hB.ld fun cs2 h2 => ?_
        refine ih x hx h2 fun w2 hx2 => ?_
        simp only [wsv, wsg, wsh, wsl, cond_true, cond_false, exists_eq_left', Option.some.injEq, Option.isSome_some, List.getElem?_toArray, List.getElem?_cons_zero, List.getElem?_cons_succ, List.length_cons, List.length_nil, List.set_cons_zero, List.set_cons_succ, List.getD_cons_zero, List.getD_cons_succ, Nat.zero_add, Nat.add_zero, Nat.reduceAdd, Nat.reduceLT, Nat.lt_add_one, Nat.zero_lt_succ, decide_true, decide_false, ne_eq, reduceCtorEq]
        exact hK w2 (hx1.trans hx2)
      · simp only [wsv, wsg, wsh, wsl, cond_true, cond_false, exists_eq_left', Option.some.injEq, Option.isSome_some, List.getElem?_toArray, List.getElem?_cons_zero, List.getElem?_cons_succ, List.length_cons, List.length_nil, List.set_cons_zero, List.set_cons_succ, List.getD_cons_zero, List.getD_cons_succ, Nat.zero_add, Nat.add_zero, Nat.reduceAdd, Nat.reduceLT, Nat.lt_add_one, Nat.zero_lt_succ, decide_true, decide_false, ne_eq, reduceCtorEq, any_not_known]
        exact hJ w2 hx2
    · intro g w2 hx2
      have := hK w2 (hx.trans hx2)
      simp only [wsv, wsg, wsh, wsl, cond_true, cond_false, exists_eq_left', Option.some.injEq, Option.isSome_some, List.getElem?_toArray, List.getElem?_cons_zero, List.getElem?_cons_succ, List.length_cons, List.length_nil, List.set_cons_zero, List.set_cons_succ, List.getD_cons_zero, List.getD_cons_succ, Nat.zero_add, Nat.add_zero, Nat.reduceAdd, Nat.reduceLT, Nat.lt_add_one, Nat.zero_lt_succ, decide_true, decide_false, ne_eq, reduceCtorEq]
      simpa only [decide_not] using this

theorem truth_p {b : Bool} {w : World} {K : Value → World → Prop} (hK : K (i64 (truthI b)) w) : callF Tryz.prog 131 [.bool b] w K := by
  refine W131_ok ?_
  unfold W131
  rw [condW_b]
  unfold truthI at hK
  exact ⟨fun h => by rw [if_pos h] at hK; exact hK, fun h => by rw [if_neg (by rw [h]; simp)] at hK; exact hK⟩
theorem cmpks_p {a b : List Str} {x y : Value} {T1 T2 : TypeId} {w : World} {K : Value → World → Prop} (h1 : SlAt w T1 x a.length (a.map str)) (h2 : SlAt w T2 y b.length (b.map str)) (ha : a.length ≤ 9223372036854775807)
    (hK : ∀ w', Ext w w' → K (i64 (cmpKs a b)) w') : callF Tryz.prog 135 [x, y] w K := by
  refine W135_ok ?_
  unfold W135
  rw [lenl_at h1]
  refine loop_up a.length (fun i w' => Ext w w' ∧ i ≤ b.length ∧ cmpKs (a.drop i) (b.drop i) = cmpKs a b) ⟨Chg.refl _ _, by omega, rfl⟩ ?_ ?_
  · rintro i w2 g L hi ⟨hx2, hib, he⟩ hL
    obtain ⟨u, hu⟩ : ∃ u, a[i]? = some u := ⟨_, List.getElem?_eq_getElem hi⟩
    have hlt : ((i : Int) < (a.length : Int)) := by omega
    have hda : a.drop i = u :: a.drop (i + 1) := by
      rw [List.drop_eq_getElem_cons hi]; congr 1
      exact Option.some.inj ((List.getElem?_eq_getElem hi).symm.trans hu)
    simp only [wsv, wsg, wsh, wsl, cond_true, cond_false, exists_eq_left', Option.some.injEq, Option.isSome_some, List.getElem?_toArray, List.getElem?_cons_zero, List.getElem?_cons_succ, List.length_cons, List.length_nil, List.set_cons_zero, List.set_cons_succ, List.getD_cons_zero, List.getD_cons_succ, Nat.zero_add, Nat.add_zero, Nat.reduceAdd, Nat.reduceLT, Nat.lt_add_one, Nat.zero_lt_succ, decide_true, decide_false, ne_eq, reduceCtorEq, hlt]
    refine text_ld (h1.ext hx2) hu ?_
    rw [lenl_at h2]
    simp only [wsv, wsg, wsh, wsl, cond_true, cond_false, exists_eq_left', Option.some.injEq, Option.isSome_some, List.getElem?_toArray, List.getElem?_cons_zero, List.getElem?_cons_succ, List.length_cons, List.length_nil, List.set_cons_zero, List.set_cons_succ, List.getD_cons_zero, List.getD_cons_succ, Nat.zero_add, Nat.add_zero, Nat.reduceAdd, Nat.reduceLT, Nat.lt_add_one, Nat.zero_lt_succ, decide_true, decide_false, ne_eq, reduceCtorEq, condW_dec]
    refine ⟨fun hge => ?_, fun hltb => ?_⟩
    · have hdb : b.drop i = [] := List.drop_eq_nil_iff.2 (by omega)
      rw [hda, hdb] at he
      have := hK w2 hx2
      rw [← he] at this
      exact this
    · have hib2 : i < b.length := by omega
      obtain ⟨v, hv⟩ : ∃ v, b[i]? = some v := ⟨_, List.getElem?_eq_getElem hib2⟩
      have hdb : b.drop i = v :: b.drop (i + 1) := by
        rw [List.drop_eq_getElem_cons hib2]; congr 1
        exact Option.some.inj ((List.getElem?_eq_getElem hib2).symm.trans hv)
      rw [hda, hdb] at he
      simp only [cmpKs, orI] at he
      refine text_ld (h2.ext hx2) hv ?_
      refine cmp_s ?_
      simp only [wsv, wsg, wsh, wsl, cond_true, cond_false, exists_eq_left', Option.some.injEq, Option.isSome_some, List.getElem?_toArray, List.getElem?_cons_zero, List.getElem?_cons_succ, List.length_cons, List.length_nil, List.set_cons_zero, List.set_cons_succ, List.getD_cons_zero, List.getD_cons_succ, Nat.zero_add, Nat.add_zero, Nat.reduceAdd, Nat.reduceLT, Nat.lt_add_one, Nat.zero_lt_succ, decide_true, decide_false, ne_eq, reduceCtorEq, condW_dec]
      refine ⟨fun hne => ?_, fun h0 => ?_⟩
      · rw [if_neg hne] at he
        have := hK w2 hx2
        rw [← he] at this
        exact this
      · rw [if_pos (Decidable.not_not.1 h0)] at he
        rw [up1 (by omega)]
        exact hL w2 ⟨hx2, hib2, he⟩
  · rintro w2 g L ⟨hx2, hib, he⟩
    simp only [wsv, wsg, wsh, wsl, cond_true, cond_false, exists_eq_left', Option.some.injEq, Option.isSome_some, List.getElem?_toArray, List.getElem?_cons_zero, List.getElem?_cons_succ, List.length_cons, List.length_nil, List.set_cons_zero, List.set_cons_succ, List.getD_cons_zero, List.getD_cons_succ, Nat.zero_add, Nat.add_zero, Nat.reduceAdd, Nat.reduceLT, Nat.lt_add_one, Nat.zero_lt_succ, decide_true, decide_false, ne_eq, reduceCtorEq, Int.lt_irrefl]
    rw [lenl_at h1, lenl_at h2]
    rw [List.drop_length] at he
    simp only [wsv, wsg, wsh, wsl, cond_true, cond_false, exists_eq_left', Option.some.injEq, Option.isSome_some, List.getElem?_toArray, List.getElem?_cons_zero, List.getElem?_cons_succ, List.length_cons, List.length_nil, List.set_cons_zero, List.set_cons_succ, List.getD_cons_zero, List.getD_cons_succ, Nat.zero_add, Nat.add_zero, Nat.reduceAdd, Nat.reduceLT, Nat.lt_add_one, Nat.zero_lt_succ, decide_true, decide_false, ne_eq, reduceCtorEq, condW_dec]
    have := hK w2 hx2
    rw [← he] at this
    refine ⟨fun hlt => ?_, fun hge => ?_⟩
    · obtain ⟨v, r, e⟩ : ∃ v r, b.drop a.length = v :: r := by
        cases hd : b.drop a.length with
        | nil => have := List.drop_eq_nil_iff.1 hd; omega
        | cons v r => exact ⟨v, r, rfl⟩
      rw [e] at this
      exact this
    · rw [List.drop_eq_nil_iff.2 (show b.length ≤ a.length by omega)] at this
      exact this
theorem or2_p {a b : Int} {v : Value} {w : World} {K : Value → World → Prop} (hv : SlAt w 3 v 2 [i64 a, i64 b]) (hK : ∀ w', Ext w w' → K (i64 (orI a b)) w') : callF Tryz.prog 134 [v] w K := by
  refine W134_ok ?_
  unfold W134
  rw [lenl_at hv]
  unfold orI at hK
  refine loop_up 2 (fun i w' => Ext w w' ∧ (1 ≤ i → a = 0) ∧ (2 ≤ i → b = 0)) ⟨Chg.refl _ _, by omega, by omega⟩ ?_ ?_
  · rintro i w2 g L hi ⟨hx2, h1, h2⟩ hL
    have hlt : ((i : Int) < ((2 : Nat) : Int)) := by omega
    simp only [wsv, wsg, wsh, wsl, cond_true, cond_false, exists_eq_left', Option.some.injEq, Option.isSome_some, List.getElem?_toArray, List.getElem?_cons_zero, List.getElem?_cons_succ, List.length_cons, List.length_nil, List.set_cons_zero, List.set_cons_succ, List.getD_cons_zero, List.getD_cons_succ, Nat.zero_add, Nat.add_zero, Nat.reduceAdd, Nat.reduceLT, Nat.lt_add_one, Nat.zero_lt_succ, decide_true, decide_false, ne_eq, reduceCtorEq, hlt]
    have hc : i = 0 ∨ i = 1 := by omega
    rcases hc with rfl | rfl
    · refine ixa_ld (hv.ext hx2) rfl (show [i64 a, i64 b][0]? = some (i64 a) from rfl) ?_
      simp only [wsv, wsg, wsh, wsl, cond_true, cond_false, exists_eq_left', Option.some.injEq, Option.isSome_some, List.getElem?_toArray, List.getElem?_cons_zero, List.getElem?_cons_succ, List.length_cons, List.length_nil, List.set_cons_zero, List.set_cons_succ, List.getD_cons_zero, List.getD_cons_succ, Nat.zero_add, Nat.add_zero, Nat.reduceAdd, Nat.reduceLT, Nat.lt_add_one, Nat.zero_lt_succ, decide_true, decide_false, ne_eq, reduceCtorEq, condW_dec]
      refine ⟨fun hne => ?_, fun h0 => ?_⟩
      · have := hK w2 hx2
        rw [if_neg hne] at this
        exact this
      · rw [up1 (by omega)]
        exact hL w2 ⟨hx2, fun _ => Decidable.not_not.1 h0, fun h => by omega⟩
    · have ha := h1 (Nat.le_refl _)
      refine ixa_ld (hv.ext hx2) rfl (show [i64 a, i64 b][1]? = some (i64 b) from rfl) ?_
      simp only [wsv, wsg, wsh, wsl, cond_true, cond_false, exists_eq_left', Option.some.injEq, Option.isSome_some, List.getElem?_toArray, List.getElem?_cons_zero, List.getElem?_cons_succ, List.length_cons, List.length_nil, List.set_cons_zero, List.set_cons_succ, List.getD_cons_zero, List.getD_cons_succ, Nat.zero_add, Nat.add_zero, Nat.reduceAdd, Nat.reduceLT, Nat.lt_add_one, Nat.zero_lt_succ, decide_true, decide_false, ne_eq, reduceCtorEq, condW_dec]
      refine ⟨fun hne => ?_, fun h0 => ?_⟩
      · have := hK w2 hx2
        rw [if_pos ha] at this
        exact this
      · rw [up1 (by omega)]
        exact hL w2 ⟨hx2, fun _ => ha, fun _ => Decidable.not_not.1 h0⟩
  · rintro w2 g L ⟨hx2, h1, h2⟩
    simp only [wsv, wsg, wsh, wsl, cond_true, cond_false, exists_eq_left', Option.some.injEq, Option.isSome_some, List.getElem?_toArray, List.getElem?_cons_zero, List.getElem?_cons_succ, List.length_cons, List.length_nil, List.set_cons_zero, List.set_cons_succ, List.getD_cons_zero, List.getD_cons_succ, Nat.zero_add, Nat.add_zero, Nat.reduceAdd, Nat.reduceLT, Nat.lt_add_one, Nat.zero_lt_succ, decide_true, decide_false, ne_eq, reduceCtorEq, Int.lt_irrefl]
    have := hK w2 hx2
    rw [if_pos (h1 (by omega)), h2 (Nat.le_refl _)] at this
    exact this

theorem cmpfunc_p {sv tv f : Value} {xs ys : List JV} {w : World} {K : Value → World → Prop} (h : ItemsAt w sv xs) (h' : ItemsAt w tv ys)
    (hf : ∀ x ∈ xs, ∀ y ∈ ys, ∀ {cs ds : List Value} {w : World} {K : Value → World → Prop}, VRep w x cs → VRep w y ds → (∀ w', Ext w w' → K (i64 (cmpM x y)) w') → callV Tryz.prog f [.agg cs.toArray, .agg ds.toArray] w K)
    (hK : ∀ w', Ext w w' → K (i64 (cmpL xs ys)) w') : callF Tryz.prog 136 [sv, tv, f] w K := by
  refine W136_ok ?_
  unfold W136
  rw [h.len]
  refine loop_up xs.length (fun i w' => Ext w w' ∧ i ≤ ys.length ∧ cmpL (xs.drop i) (ys.drop i) = cmpL xs ys) ⟨Chg.refl _ _, by omega, rfl⟩ ?_ ?_
  · rintro i w2 g L hi ⟨hx2, hib, he⟩ hL
    obtain ⟨u, hu⟩ : ∃ u, xs[i]? = some u := ⟨_, List.getElem?_eq_getElem hi⟩
    have hlt : ((i : Int) < (xs.length : Int)) := by omega
    have hda : xs.drop i = u :: xs.drop (i + 1) := by
      rw [List.drop_eq_getElem_cons hi]; congr 1
      exact Option.some.inj ((List.getElem?_eq_getElem hi).symm.trans hu)
    simp only [wsv, wsg, wsh, wsl, cond_true, cond_false, exists_eq_left', Option.some.injEq, Option.isSome_some, List.getElem?_toArray, List.getElem?_cons_zero, List.getElem?_cons_succ, List.length_cons, List.length_nil, List.set_cons_zero, List.set_cons_succ, List.getD_cons_zero, List.getD_cons_succ, Nat.zero_add, Nat.add_zero, Nat.reduceAdd, Nat.reduceLT, Nat.lt_add_one, Nat.zero_lt_succ, decide_true, decide_false, ne_eq, reduceCtorEq, hlt]
    refine (h.ext hx2).at hu fun cs hcs => ?_
    refine copy_new hcs fun p w3 sp kp hP hx3 => ?_
    rw [h'.len]
    simp only [wsv, wsg, wsh, wsl, cond_true, cond_false, exists_eq_left', Option.some.injEq, Option.isSome_some, List.getElem?_toArray, List.getElem?_cons_zero, List.getElem?_cons_succ, List.length_cons, List.length_nil, List.set_cons_zero, List.set_cons_succ, List.getD_cons_zero, List.getD_cons_succ, Nat.zero_add, Nat.add_zero, Nat.reduceAdd, Nat.reduceLT, Nat.lt_add_one, Nat.zero_lt_succ, decide_true, decide_false, ne_eq, reduceCtorEq, condW_dec]
    refine ⟨fun hge => ?_, fun hltb => ?_⟩
    · have hdb : ys.drop i = [] := List.drop_eq_nil_iff.2 (by omega)
      rw [hda, hdb] at he
      have := hK w3 (hx2.trans hx3)
      rw [← he] at this
      exact this
    · have hib2 : i < ys.length := by omega
      obtain ⟨v, hv⟩ : ∃ v, ys[i]? = some v := ⟨_, List.getElem?_eq_getElem hib2⟩
      have hdb : ys.drop i = v :: ys.drop (i + 1) := by
        rw [List.drop_eq_getElem_cons hib2]; congr 1
        exact Option.some.inj ((List.getElem?_eq_getElem hib2).symm.trans hv)
      rw [hda, hdb] at he
      simp only [cmpL, orI] at he
      refine (h'.ext (hx2.trans hx3)).at hv fun ds hds => ?_
      refine copy_new hds fun q w4 sq kq hQ hx4 => ?_
      refine (hP.ext hx4).ld fun cs2 hc2 => ?_
      refine hQ.ld fun ds2 hd2 => ?_
      refine hf u (List.mem_of_getElem? hu) v (List.mem_of_getElem? hv) hc2 hd2 fun w5 hx5 => ?_
      have hx := hx2.trans (hx3.trans (hx4.trans hx5))
      simp only [wsv, wsg, wsh, wsl, cond_true, cond_false, exists_eq_left', Option.some.injEq, Option.isSome_some, List.getElem?_toArray, List.getElem?_cons_zero, List.getElem?_cons_succ, List.length_cons, List.length_nil, List.set_cons_zero, List.set_cons_succ, List.getD_cons_zero, List.getD_cons_succ, Nat.zero_add, Nat.add_zero, Nat.reduceAdd, Nat.reduceLT, Nat.lt_add_one, Nat.zero_lt_succ, decide_true, decide_false, ne_eq, reduceCtorEq, condW_dec]
      refine ⟨fun hne => ?_, fun h0 => ?_⟩
      · rw [if_neg hne] at he
        have := hK w5 hx
        rw [← he] at this
        exact this
      · rw [if_pos (Decidable.not_not.1 h0)] at he
        have := h.few
        rw [up1 (by omega)]
        exact hL w5 ⟨hx, hib2, he⟩
  · rintro w2 g L ⟨hx2, hib, he⟩
    simp only [wsv, wsg, wsh, wsl, cond_true, cond_false, exists_eq_left', Option.some.injEq, Option.isSome_some, List.getElem?_toArray, List.getElem?_cons_zero, List.getElem?_cons_succ, List.length_cons, List.length_nil, List.set_cons_zero, List.set_cons_succ, List.getD_cons_zero, List.getD_cons_succ, Nat.zero_add, Nat.add_zero, Nat.reduceAdd, Nat.reduceLT, Nat.lt_add_one, Nat.zero_lt_succ, decide_true, decide_false, ne_eq, reduceCtorEq, Int.lt_irrefl]
    rw [h.len, h'.len]
    rw [List.drop_length] at he
    simp only [wsv, wsg, wsh, wsl, cond_true, cond_false, exists_eq_left', Option.some.injEq, Option.isSome_some, List.getElem?_toArray, List.getElem?_cons_zero, List.getElem?_cons_succ, List.length_cons, List.length_nil, List.set_cons_zero, List.set_cons_succ, List.getD_cons_zero, List.getD_cons_succ, Nat.zero_add, Nat.add_zero, Nat.reduceAdd, Nat.reduceLT, Nat.lt_add_one, Nat.zero_lt_succ, decide_true, decide_false, ne_eq, reduceCtorEq, condW_dec]
    have := hK w2 hx2
    rw [← he] at this
    refine ⟨fun hlt => ?_, fun hge => ?_⟩
    · obtain ⟨v, r, e⟩ : ∃ v r, ys.drop xs.length = v :: r := by
        cases hd : ys.drop xs.length with
        | nil => have := List.drop_eq_nil_iff.1 hd; omega
        | cons v r => exact ⟨v, r, rfl⟩
      rw [e] at this
      exact this
    · rw [List.drop_eq_nil_iff.2 (show ys.length ≤ xs.length by omega)] at this
      exact this

theorem cmp_p (v : JV) : ∀ {b : JV} {cs ds : List Value} {w : World} {K : Value → World → Prop}, VRep w v cs → VRep w b ds → (∀ w', Ext w w' → K (i64 (cmpM v b)) w') → callF Tryz.prog 87 [.agg cs.toArray, .agg ds.toArray] w K := by
  induction v using JV.ind' with
  | h v ih =>
    intro b cs ds w K h h' hK
    refine W87_ok ?_
    unfold W87
    refine box_val h fun x w1 sv kv hB hx _ => ?_
    refine box_val (h'.ext hx) fun y w2 sv' kv' hC hx2 _ => ?_
    have hB := hB.ext hx2
    have hx := hx.trans hx2
    clear hx2
    rw [cmpM_eq] at hK
    unfold orI at hK
    simp only [wsv, wsg, wsh, wsl, cond_true, cond_false, exists_eq_left', Option.some.injEq, Option.isSome_some, List.getElem?_toArray, List.getElem?_cons_zero, List.getElem?_cons_succ, List.length_cons, List.length_nil, List.set_cons_zero, List.set_cons_succ, List.getD_cons_zero, List.getD_cons_succ, Nat.zero_add, Nat.add_zero, Nat.reduceAdd, Nat.reduceLT, Nat.lt_add_one, Nat.zero_lt_succ, decide_true, decide_false, ne_eq, reduceCtorEq, wsh, hB.hb, hC.hb]
    refine cmp_k ?_
    simp only [wsv, wsg, wsh, wsl, cond_true, cond_false, exists_eq_left', Option.some.injEq, Option.isSome_some, List.getElem?_toArray, List.getElem?_cons_zero, List.getElem?_cons_succ, List.length_cons, List.length_nil, List.set_cons_zero, List.set_cons_succ, List.getD_cons_zero, List.getD_cons_succ, Nat.zero_add, Nat.add_zero, Nat.reduceAdd, Nat.reduceLT, Nat.lt_add_one, Nat.zero_lt_succ, decide_true, decide_false, ne_eq, reduceCtorEq, condW_dec]
    refine ⟨fun hne => ?_, fun h0 => ?_⟩
    · have := hK w2 hx
      rw [if_neg hne] at this
      exact this
    · rw [if_pos (Decidable.not_not.1 h0)] at hK
      have hxd : Ext w2 w2.drew := Chg.drew (Chg.refl (fun _ => False) w2)
      have hBd := hB.ext hxd
      have hCd := hC.ext hxd
      (try simp only [wsv, wsg, wsh, wsl, cond_true, cond_false, exists_eq_left', Option.some.injEq, Option.isSome_some, List.getElem?_toArray, List.getElem?_cons_zero, List.getElem?_cons_succ, List.length_cons, List.length_nil, List.set_cons_zero, List.set_cons_succ, List.getD_cons_zero, List.getD_cons_succ, Nat.zero_add, Nat.add_zero, Nat.reduceAdd, Nat.reduceLT, Nat.lt_add_one, Nat.zero_lt_succ, decide_true, decide_false, ne_eq, reduceCtorEq, wsh, hB.hb, hC.hb])
      refine ⟨fun h2 => ?_, fun h2 => ?_⟩
      · rw [if_pos (show v.k = 2 by simpa using h2)] at hK
        (try simp only [wsv, wsg, wsh, wsl, cond_true, cond_false, exists_eq_left', Option.some.injEq, Option.isSome_some, List.getElem?_toArray, List.getElem?_cons_zero, List.getElem?_cons_succ, List.length_cons, List.length_nil, List.set_cons_zero, List.set_cons_succ, List.getD_cons_zero, List.getD_cons_succ, Nat.zero_add, Nat.add_zero, Nat.reduceAdd, Nat.reduceLT, Nat.lt_add_one, Nat.zero_lt_succ, decide_true, decide_false, ne_eq, reduceCtorEq, wsh, hB.hb, hC.hb])
        refine truth_p ?_
        (try simp only [wsv, wsg, wsh, wsl, cond_true, cond_false, exists_eq_left', Option.some.injEq, Option.isSome_some, List.getElem?_toArray, List.getElem?_cons_zero, List.getElem?_cons_succ, List.length_cons, List.length_nil, List.set_cons_zero, List.set_cons_succ, List.getD_cons_zero, List.getD_cons_succ, Nat.zero_add, Nat.add_zero, Nat.reduceAdd, Nat.reduceLT, Nat.lt_add_one, Nat.zero_lt_succ, decide_true, decide_false, ne_eq, reduceCtorEq, wsh, hC.hb])
        refine truth_p (cmp_i ?_)
        exact hK _ (hx.trans hxd)
      · rw [if_neg (show ¬ v.k = 2 by simpa using h2)] at hK
        (try simp only [wsv, wsg, wsh, wsl, cond_true, cond_false, exists_eq_left', Option.some.injEq, Option.isSome_some, List.getElem?_toArray, List.getElem?_cons_zero, List.getElem?_cons_succ, List.length_cons, List.length_nil, List.set_cons_zero, List.set_cons_succ, List.getD_cons_zero, List.getD_cons_succ, Nat.zero_add, Nat.add_zero, Nat.reduceAdd, Nat.reduceLT, Nat.lt_add_one, Nat.zero_lt_succ, decide_true, decide_false, ne_eq, reduceCtorEq, condW_dec])
        refine ⟨fun h3 => ?_, fun h3 => ?_⟩
        · rw [if_pos (show v.k = 3 by simpa using h3)] at hK
          (try simp only [wsv, wsg, wsh, wsl, cond_true, cond_false, exists_eq_left', Option.some.injEq, Option.isSome_some, List.getElem?_toArray, List.getElem?_cons_zero, List.getElem?_cons_succ, List.length_cons, List.length_nil, List.set_cons_zero, List.set_cons_succ, List.getD_cons_zero, List.getD_cons_succ, Nat.zero_add, Nat.add_zero, Nat.reduceAdd, Nat.reduceLT, Nat.lt_add_one, Nat.zero_lt_succ, decide_true, decide_false, ne_eq, reduceCtorEq, wsh, hB.hb, hC.hb])
          exact numcmp_ref hB.fits.2.2.1 hC.fits.2.2.1 fun w3 hx3 => hK w3 (hx.trans hx3)
        · rw [if_neg (show ¬ v.k = 3 by simpa using h3)] at hK
          (try simp only [wsv, wsg, wsh, wsl, cond_true, cond_false, exists_eq_left', Option.some.injEq, Option.isSome_some, List.getElem?_toArray, List.getElem?_cons_zero, List.getElem?_cons_succ, List.length_cons, List.length_nil, List.set_cons_zero, List.set_cons_succ, List.getD_cons_zero, List.getD_cons_succ, Nat.zero_add, Nat.add_zero, Nat.reduceAdd, Nat.reduceLT, Nat.lt_add_one, Nat.zero_lt_succ, decide_true, decide_false, ne_eq, reduceCtorEq, condW_dec])
          refine ⟨fun h4 => ?_, fun h4 => ?_⟩
          · rw [if_pos (show v.k = 4 by simpa using h4)] at hK
            (try simp only [wsv, wsg, wsh, wsl, cond_true, cond_false, exists_eq_left', Option.some.injEq, Option.isSome_some, List.getElem?_toArray, List.getElem?_cons_zero, List.getElem?_cons_succ, List.length_cons, List.length_nil, List.set_cons_zero, List.set_cons_succ, List.getD_cons_zero, List.getD_cons_succ, Nat.zero_add, Nat.add_zero, Nat.reduceAdd, Nat.reduceLT, Nat.lt_add_one, Nat.zero_lt_succ, decide_true, decide_false, ne_eq, reduceCtorEq, wsh, hB.hb, hC.hb])
            exact strcmp (hK w2 hx)
          · rw [if_neg (show ¬ v.k = 4 by simpa using h4)] at hK
            (try simp only [wsv, wsg, wsh, wsl, cond_true, cond_false, exists_eq_left', Option.some.injEq, Option.isSome_some, List.getElem?_toArray, List.getElem?_cons_zero, List.getElem?_cons_succ, List.length_cons, List.length_nil, List.set_cons_zero, List.set_cons_succ, List.getD_cons_zero, List.getD_cons_succ, Nat.zero_add, Nat.add_zero, Nat.reduceAdd, Nat.reduceLT, Nat.lt_add_one, Nat.zero_lt_succ, decide_true, decide_false, ne_eq, reduceCtorEq, wsh, hB.hb, hC.hb])
            obtain ⟨T1, k1⟩ := hBd.keys
            obtain ⟨T2, k2⟩ := hCd.keys
            refine cmpks_p k1 k2 hB.fits.2.1 fun w3 hx3 => ?_
            have hB3 := hBd.ext hx3
            have hC3 := hCd.ext hx3
            simp only [wsv, wsg, wsh, wsl, cond_true, cond_false, exists_eq_left', Option.some.injEq, Option.isSome_some, List.getElem?_toArray, List.getElem?_cons_zero, List.getElem?_cons_succ, List.length_cons, List.length_nil, List.set_cons_zero, List.set_cons_succ, List.getD_cons_zero, List.getD_cons_succ, Nat.zero_add, Nat.add_zero, Nat.reduceAdd, Nat.reduceLT, Nat.lt_add_one, Nat.zero_lt_succ, decide_true, decide_false, ne_eq, reduceCtorEq, wsh, hB3.hb, hC3.hb]
            refine cmpfunc_p hB3.itemsAt hC3.itemsAt ?_ fun w4 hx4 => ?_
            · intro p hp q hq cs ds w K hc hd hK
              exact callV_fn (ih p hp hc hd hK)
            unfold bslW
            simp only [wsv, wsg, wsh, wsl, cond_true, cond_false, exists_eq_left', Option.some.injEq, Option.isSome_some, List.getElem?_toArray, List.getElem?_cons_zero, List.getElem?_cons_succ, List.length_cons, List.length_nil, List.set_cons_zero, List.set_cons_succ, List.getD_cons_zero, List.getD_cons_succ, Nat.zero_add, Nat.add_zero, Nat.reduceAdd, Nat.reduceLT, Nat.lt_add_one, Nat.zero_lt_succ, decide_true, decide_false, ne_eq, reduceCtorEq]
            have hs : SlAt (w4.alloc (.cells [i64 (cmpKs v.ks b.ks), i64 (cmpL v.xs b.xs)].toArray 3)) 3 (.slice (some ⟨w4.heap.size, 0, none⟩) 2 2) 2 [i64 (cmpKs v.ks b.ks), i64 (cmpL v.xs b.xs)] :=
              (own_new (w := w4) (base := w4.heap.size) (e := 3) (size := 1) (n := 2) (cs := [i64 (cmpKs v.ks b.ks), i64 (cmpL v.xs b.xs)]) (Nat.le_refl _) rfl (by omega)).sl
            refine or2_p hs fun w5 hx5 => ?_
            have hx' := hx.trans (hxd.trans (hx3.trans (hx4.trans ((Chg.alloc (Chg.refl _ _) _ : Ext w4 _).trans hx5))))
            exact hK w5 hx'
theorem equal_p {a b : JV} {cs ds : List Value} {w : World} {K : Value → World → Prop} (h : VRep w a cs) (h' : VRep w b ds) (hK : ∀ w', Ext w w' → K (.bool (decide (cmpM a b = 0))) w') : callF Tryz.prog 49 [.agg cs.toArray, .agg ds.toArray] w K := by
  refine W49_ok ?_
  unfold W49
  refine box_val h fun x w1 sv kv hB hx _ => ?_
  refine box_val (h'.ext hx) fun y w2 sv' kv' hC hx2 _ => ?_
  have hB := hB.ext hx2
  refine hB.ld fun cs1 h1 => ?_
  refine hC.ld fun cs2 h2 => ?_
  refine cmp_p a h1 h2 fun w3 hx3 => ?_
  simp only [wsv, wsg, wsh, wsl, cond_true, cond_false, exists_eq_left', Option.some.injEq, Option.isSome_some, List.getElem?_toArray, List.getElem?_cons_zero, List.getElem?_cons_succ, List.length_cons, List.length_nil, List.set_cons_zero, List.set_cons_succ, List.getD_cons_zero, List.getD_cons_succ, Nat.zero_add, Nat.add_zero, Nat.reduceAdd, Nat.reduceLT, Nat.lt_add_one, Nat.zero_lt_succ, decide_true, decide_false, ne_eq, reduceCtorEq]
  exact hK w3 (hx.trans (hx2.trans hx3))
end
end Go.Proofs.YtonblcbpoilndaaGreatDoor
