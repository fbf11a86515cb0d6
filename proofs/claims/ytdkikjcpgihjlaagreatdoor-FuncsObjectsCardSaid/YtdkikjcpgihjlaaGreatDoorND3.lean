/- One plain sentence: weakest preconditions, contracts and plain laws that the claim rests on, text behind text. Conditions: those that each states. -/
import Derived.Test.YtdkikjcpgihjlaaGreatDoorND2
import Derived.Test.YtdkikjcpgihjlaaGreatDoorND1
import Derived.Laws.IdiomCopy
import Derived.Lib.Overlaps
import Derived.Lib.AppendZerosOnto
import Derived.Sort.OwnSorted
import Derived.Lib.SlicesCompact
import Derived.Lib.DecodeN
import Derived.Lib.RuneBytes
import Derived.Laws.Externs
set_option linter.all false
set_option linter.unusedSimpArgs false
set_option linter.unusedVariables false
set_option linter.unusedSectionVars false
namespace Go.Proofs.YtdkikjcpgihjlaaGreatDoor
open Go Go.Eng Go.Num
set_option maxRecDepth 100000
section
variable [HX]
theorem callV_fn {P : Program} {g : FuncId} {args : List Value} {w : World} {K : Value → World → Prop} (h : callF P g args w K) : callV P (.func (.func g) #[] #[]) args w K := by
  unfold callV semN
  unfold callF at h
  have : (do let d ← (Deferred.ofValue (.func (.func g) #[] #[]) args.toArray); invoke d.target d.args : Sem Next) = callFunc g args.toArray := by
    show callFunc g (#[] ++ args.toArray ++ #[]) = _
    simp
  rw [this]
  exact h
structure ItemsAt (w : World) (sv : Value) (xs : List JV) : Prop where
  it : ∃ T L, SlAt w T sv xs.length L ∧ VReps w xs L
  few : xs.length ≤ 9223372036854775807
theorem ItemsAt.ext {w w' : World} {sv : Value} {xs : List JV} (h : ItemsAt w sv xs) (hx : Ext w w') : ItemsAt w' sv xs := ⟨let ⟨T, L, h1, h2⟩ := h.it; ⟨T, L, h1.ext hx, h2.ext hx⟩, h.few⟩
theorem ValB.itemsAt {w : World} {a : Nat} {v : JV} {sv kv : Value} (h : ValB w a v sv kv) : ItemsAt w sv v.xs := ⟨h.items, h.fits.1⟩
theorem ItemsAt.len {w : World} {sv : Value} {xs : List JV} (h : ItemsAt w sv xs) (K : Value → Prop) : lenlW sv K ↔ K (i64 xs.length) := by obtain ⟨T, L, h1, _⟩ := h.it; exact lenl_at h1 K
theorem ItemsAt.at {w : World} {sv : Value} {xs : List JV} {k : IntKind} {i : Nat} {x : JV} {K : Value → Prop} (h : ItemsAt w sv xs) (hi : xs[i]? = some x) (hK : ∀ cs, VRep w x cs → K (.agg cs.toArray)) : ixaW none 5 sv (.int k i) fun p => ldW true 5 p w K := by
  obtain ⟨T, L, h1, h2⟩ := h.it; exact item_ld h1 h2 hi hK
def findI {α : Type} (p : α → Bool) (xs : List α) : Int := match xs.findIdx? p with | some i => i | none => -1
theorem findI_ge {α : Type} (p : α → Bool) (xs : List α) : decide ((0 : Int) ≤ findI p xs) = xs.any p := by
  unfold findI
  cases h : xs.findIdx? p with
  | none =>
    have := List.findIdx?_eq_none_iff.1 h
    have : xs.any p = false := List.any_eq_false.2 fun x hx => by simp [this x hx]
    rw [this]; decide
  | some i =>
    obtain ⟨hi, hp, _⟩ := List.findIdx?_eq_some_iff_getElem.1 h
    rw [List.any_eq_true.2 ⟨_, List.getElem_mem hi, hp⟩]
    exact decide_eq_true (by simp)
theorem findIdx_hit {α : Type} {p : α → Bool} {xs : List α} {i : Nat} {x : α} (h : (xs.take i).any p = false) (hi : xs[i]? = some x) (hx : p x = true) : xs.findIdx? p = some i := by
  obtain ⟨hl, e⟩ := List.getElem?_eq_some_iff.1 hi
  rw [List.findIdx?_eq_some_iff_getElem]
  refine ⟨hl, by rw [e]; exact hx, fun j hj => ?_⟩
  have := List.any_eq_false.1 h xs[j] (List.mem_of_getElem? (i := j) (by rw [List.getElem?_take, if_pos hj]; exact List.getElem?_eq_getElem _))
  simpa using this
theorem index_v {sv f : Value} {xs : List JV} {p : JV → Bool} {w : World} {K : Value → World → Prop} (h : ItemsAt w sv xs)
    (hf : ∀ x ∈ xs, ∀ {cs : List Value} {w : World} {K : Value → World → Prop}, VRep w x cs → (∀ w', Ext w w' → K (.bool (p x)) w') → callV Tryz.prog f [.agg cs.toArray] w K)
    (hK : ∀ w', Ext w w' → K (i64 (findI p xs)) w') : callF Tryz.prog 44 [sv, f] w K := by
  refine W44_ok ?_
  unfold W44
  rw [h.len]
  refine loop_up xs.length (fun i w' => Ext w w' ∧ (xs.take i).any p = false) ⟨Chg.refl _ _, by simp⟩ ?_ ?_
  · rintro i w2 g L hi ⟨hx2, hno⟩ hL
    obtain ⟨x, hxi⟩ : ∃ x, xs[i]? = some x := ⟨_, List.getElem?_eq_getElem hi⟩
    have hlt : ((i : Int) < (xs.length : Int)) := by omega
    simp only [wsv, wsg, wsh, wsl, cond_true, cond_false, exists_eq_left', Option.some.injEq, Option.isSome_some, List.getElem?_toArray, List.getElem?_cons_zero, List.getElem?_cons_succ, List.length_cons, List.length_nil, List.set_cons_zero, List.set_cons_succ, List.getD_cons_zero, List.getD_cons_succ, Nat.zero_add, Nat.add_zero, Nat.reduceAdd, Nat.reduceLT, Nat.lt_add_one, Nat.zero_lt_succ, decide_true, decide_false, ne_eq, reduceCtorEq, hlt]
    refine (h.ext hx2).at hxi fun cs hcs => ?_
    refine hf x (List.mem_of_getElem? hxi) hcs fun w3 hx3 => ?_
    rw [condW_b]
    refine ⟨fun ht => ?_, fun hn => ?_⟩
    · have := hK w3 (hx2.trans hx3)
      unfold findI at this
      rw [findIdx_hit hno hxi ht] at this
      exact this
    · have := h.few
      rw [up1 (by omega)]
      exact hL w3 ⟨hx2.trans hx3, by rw [any_take hxi, hno, hn]; rfl⟩
  · rintro w2 g L ⟨hx2, hno⟩
    simp only [wsv, wsg, wsh, wsl, cond_true, cond_false, exists_eq_left', Option.some.injEq, Option.isSome_some, List.getElem?_toArray, List.getElem?_cons_zero, List.getElem?_cons_succ, List.length_cons, List.length_nil, List.set_cons_zero, List.set_cons_succ, List.getD_cons_zero, List.getD_cons_succ, Nat.zero_add, Nat.add_zero, Nat.reduceAdd, Nat.reduceLT, Nat.lt_add_one, Nat.zero_lt_succ, decide_true, decide_false, ne_eq, reduceCtorEq, Int.lt_irrefl]
    rw [List.take_length] at hno
    have := hK w2 hx2
    unfold findI at this
    rw [List.findIdx?_eq_none_iff.2 fun x hx => by simpa using List.any_eq_false.1 hno x hx] at this
    exact this
theorem contains_v {sv f : Value} {xs : List JV} {p : JV → Bool} {w : World} {K : Value → World → Prop} (h : ItemsAt w sv xs)
    (hf : ∀ x ∈ xs, ∀ {cs : List Value} {w : World} {K : Value → World → Prop}, VRep w x cs → (∀ w', Ext w w' → K (.bool (p x)) w') → callV Tryz.prog f [.agg cs.toArray] w K)
    (hK : ∀ w', Ext w w' → K (.bool (xs.any p)) w') : callF Tryz.prog 28 [sv, f] w K := by
  refine W28_ok ?_
  unfold W28
  refine index_v h hf fun w1 hx1 => ?_
  simp only [wsv, wsg, wsh, wsl, cond_true, cond_false, exists_eq_left', Option.some.injEq, Option.isSome_some, List.getElem?_toArray, List.getElem?_cons_zero, List.getElem?_cons_succ, List.length_cons, List.length_nil, List.set_cons_zero, List.set_cons_succ, List.getD_cons_zero, List.getD_cons_succ, Nat.zero_add, Nat.add_zero, Nat.reduceAdd, Nat.reduceLT, Nat.lt_add_one, Nat.zero_lt_succ, decide_true, decide_false, ne_eq, reduceCtorEq, findI_ge]
  exact hK w1 hx1
theorem index_x {sv f : Value} {xs : List JV} {p : JV → Bool} {w : World} {K : Value → World → Prop} (h : ItemsAt w sv xs)
    (hf : ∀ x ∈ xs, ∀ {cs : List Value} {w1 : World} {K : Value → World → Prop}, Ext w w1 → VRep w1 x cs → (∀ w', Ext w1 w' → K (.bool (p x)) w') → callV Tryz.prog f [.agg cs.toArray] w1 K)
    (hK : ∀ w', Ext w w' → K (i64 (findI p xs)) w') : callF Tryz.prog 44 [sv, f] w K := by
  refine W44_ok ?_
  unfold W44
  rw [h.len]
  refine loop_up xs.length (fun i w' => Ext w w' ∧ (xs.take i).any p = false) ⟨Chg.refl _ _, by simp⟩ ?_ ?_
  · rintro i w2 g L hi ⟨hx2, hno⟩ hL
    obtain ⟨x, hxi⟩ : ∃ x, xs[i]? = some x := ⟨_, List.getElem?_eq_getElem hi⟩
    have hlt : ((i : Int) < (xs.length : Int)) := by omega
    simp only [wsv, wsg, wsh, wsl, cond_true, cond_false, exists_eq_left', Option.some.injEq, Option.isSome_some, List.getElem?_toArray, List.getElem?_cons_zero, List.getElem?_cons_succ, List.length_cons, List.length_nil, List.set_cons_zero, List.set_cons_succ, List.getD_cons_zero, List.getD_cons_succ, Nat.zero_add, Nat.add_zero, Nat.reduceAdd, Nat.reduceLT, Nat.lt_add_one, Nat.zero_lt_succ, decide_true, decide_false, ne_eq, reduceCtorEq, hlt]
    refine (h.ext hx2).at hxi fun cs hcs => ?_
    refine hf x (List.mem_of_getElem? hxi) hx2 hcs fun w3 hx3 => ?_
    rw [condW_b]
    refine ⟨fun ht => ?_, fun hn => ?_⟩
    · have := hK w3 (hx2.trans hx3)
      unfold findI at this
      rw [findIdx_hit hno hxi ht] at this
      exact this
    · have := h.few
      rw [up1 (by omega)]
      exact hL w3 ⟨hx2.trans hx3, by rw [any_take hxi, hno, hn]; rfl⟩
  · rintro w2 g L ⟨hx2, hno⟩
    simp only [wsv, wsg, wsh, wsl, cond_true, cond_false, exists_eq_left', Option.some.injEq, Option.isSome_some, List.getElem?_toArray, List.getElem?_cons_zero, List.getElem?_cons_succ, List.length_cons, List.length_nil, List.set_cons_zero, List.set_cons_succ, List.getD_cons_zero, List.getD_cons_succ, Nat.zero_add, Nat.add_zero, Nat.reduceAdd, Nat.reduceLT, Nat.lt_add_one, Nat.zero_lt_succ, decide_true, decide_false, ne_eq, reduceCtorEq, Int.lt_irrefl]
    rw [List.take_length] at hno
    have := hK w2 hx2
    unfold findI at this
    rw [List.findIdx?_eq_none_iff.2 fun x hx => by simpa using List.any_eq_false.1 hno x hx] at this
    exact this
theorem contains_x {sv f : Value} {xs : List JV} {p : JV → Bool} {w : World} {K : Value → World → Prop} (h : ItemsAt w sv xs)
    (hf : ∀ x ∈ xs, ∀ {cs : List Value} {w1 : World} {K : Value → World → Prop}, Ext w w1 → VRep w1 x cs → (∀ w', Ext w1 w' → K (.bool (p x)) w') → callV Tryz.prog f [.agg cs.toArray] w1 K)
    (hK : ∀ w', Ext w w' → K (.bool (xs.any p)) w') : callF Tryz.prog 28 [sv, f] w K := by
  refine W28_ok ?_
  unfold W28
  refine index_x h hf fun w1 hx1 => ?_
  simp only [wsv, wsg, wsh, wsl, cond_true, cond_false, exists_eq_left', Option.some.injEq, Option.isSome_some, List.getElem?_toArray, List.getElem?_cons_zero, List.getElem?_cons_succ, List.length_cons, List.length_nil, List.set_cons_zero, List.set_cons_succ, List.getD_cons_zero, List.getD_cons_succ, Nat.zero_add, Nat.add_zero, Nat.reduceAdd, Nat.reduceLT, Nat.lt_add_one, Nat.zero_lt_succ, decide_true, decide_false, ne_eq, reduceCtorEq, findI_ge]
  exact hK w1 hx1
theorem any_not_known (xs : List JV) : (!xs.any fun x => !knownM x) = knownL xs := by
  rw [knownL_all]
  induction xs with
  | nil => rfl
  | cons x xs ih => simp only [List.any_cons, List.all_cons, Bool.not_or, Bool.not_not, ih]
theorem known_p (v : JV) : ∀ {cs : List Value} {w : World} {K : Value → World → Prop}, VRep w v cs → (∀ w', Ext w w' → K (.bool (knownM v)) w') → callF Tryz.prog 33 [.agg cs.toArray] w K := by
  induction v using JV.ind' with
  | h v ih =>
    intro cs w K h hK
    refine W33_ok ?_
    unfold W33
    refine box_val h fun a w1 sv kv hB hx _ => ?_
    rw [knownM_eq] at hK
    simp only [wsv, wsg, wsh, wsl, cond_true, cond_false, exists_eq_left', Option.some.injEq, Option.isSome_some, List.getElem?_toArray, List.getElem?_cons_zero, List.getElem?_cons_succ, List.length_cons, List.length_nil, List.set_cons_zero, List.set_cons_succ, List.getD_cons_zero, List.getD_cons_succ, Nat.zero_add, Nat.add_zero, Nat.reduceAdd, Nat.reduceLT, Nat.lt_add_one, Nat.zero_lt_succ, decide_true, decide_false, ne_eq, reduceCtorEq, wsh, hB.hb]
    refine GdW.act (knownL v.xs) (fun w' => Ext w1 w') (fun _ => Chg.refl _ _) ?_ ?_
    · intro hc J hJ
      refine contains_v (p := fun x => !knownM x) hB.itemsAt ?_ fun w2 hx2 => ?_
      · intro x hx cs w K hr hK
        refine callV_fn ?_
        refine W71_ok ?_
        unfold W71
        refine box_val hr fun b w1 sv kv hB hx1 _ => ?_
        refine hB.ld fun cs2 h2 => ?_
        refine ih x hx h2 fun w2 hx2 => ?_
        simp only [wsv, wsg, wsh, wsl, cond_true, cond_false, exists_eq_left', Option.some.injEq, Option.isSome_some, List.getElem?_toArray, List.getElem?_cons_zero, List.getElem?_cons_succ, List.length_cons, List.length_nil, List.set_cons_zero, List.set_cons_succ, List.getD_cons_zero, List.getD_cons_succ, Nat.zero_add, Nat.add_zero, Nat.reduceAdd, Nat.reduceLT, Nat.lt_add_one, Nat.zero_lt_succ, decide_true, decide_false, ne_eq, reduceCtorEq]
        exact hK w2 (hx1.trans hx2)
      · simp only [wsv, wsg, wsh, wsl, cond_true, cond_false, exists_eq_left', Option.some.injEq, Option.isSome_some, List.getElem?_toArray, List.getElem?_cons_zero, List.getElem?_cons_succ, List.length_cons, List.length_nil, List.set_cons_zero, List.set_cons_succ, List.getD_cons_zero, List.getD_cons_succ, Nat.zero_add, Nat.add_zero, Nat.reduceAdd, Nat.reduceLT, Nat.lt_add_one, Nat.zero_lt_succ, decide_true, decide_false, ne_eq, reduceCtorEq, any_not_known]
        exact hJ w2 hx2
    · intro g w2 hx2
      have := hK w2 (hx.trans hx2)
      simp only [wsv, wsg, wsh, wsl, cond_true, cond_false, exists_eq_left', Option.some.injEq, Option.isSome_some, List.getElem?_toArray, List.getElem?_cons_zero, List.getElem?_cons_succ, List.length_cons, List.length_nil, List.set_cons_zero, List.set_cons_succ, List.getD_cons_zero, List.getD_cons_succ, Nat.zero_add, Nat.add_zero, Nat.reduceAdd, Nat.reduceLT, Nat.lt_add_one, Nat.zero_lt_succ, decide_true, decide_false, ne_eq, reduceCtorEq]
      simpa only [decide_not] using this
theorem truth_p {b : Bool} {w : World} {K : Value → World → Prop} (hK : K (i64 (truthI b)) w) : callF Tryz.prog 157 [.bool b] w K := by
  refine W157_ok ?_
  unfold W157
  rw [condW_b]
  unfold truthI at hK
  exact ⟨fun h => by rw [if_pos h] at hK; exact hK, fun h => by rw [if_neg (by rw [h]; simp)] at hK; exact hK⟩
theorem cmpks_p {a b : List Str} {x y : Value} {T1 T2 : TypeId} {w : World} {K : Value → World → Prop} (h1 : SlAt w T1 x a.length (a.map str)) (h2 : SlAt w T2 y b.length (b.map str)) (ha : a.length ≤ 9223372036854775807)
    (hK : ∀ w', Ext w w' → K (i64 (cmpKs a b)) w') : callF Tryz.prog 160 [x, y] w K := by
  refine W160_ok ?_
  unfold W160
  rw [lenl_at h1]
  refine loop_up a.length (fun i w' => Ext w w' ∧ i ≤ b.length ∧ cmpKs (a.drop i) (b.drop i) = cmpKs a b) ⟨Chg.refl _ _, by omega, rfl⟩ ?_ ?_
  · rintro i w2 g L hi ⟨hx2, hib, he⟩ hL
    obtain ⟨u, hu⟩ : ∃ u, a[i]? = some u := ⟨_, List.getElem?_eq_getElem hi⟩
    have hlt : ((i : Int) < (a.length : Int)) := by omega
    have hda : a.drop i = u :: a.drop (i + 1) := by
      rw [List.drop_eq_getElem_cons hi]; congr 1
      exact Option.some.inj ((List.getElem?_eq_getElem hi).symm.trans hu)
    simp only [wsv, wsg, wsh, wsl, cond_true, cond_false, exists_eq_left', Option.some.injEq, Option.isSome_some, List.getElem?_toArray, List.getElem?_cons_zero, List.getElem?_cons_succ, List.length_cons, List.length_nil, List.set_cons_zero, List.set_cons_succ, List.getD_cons_zero, List.getD_cons_succ, Nat.zero_add, Nat.add_zero, Nat.reduceAdd, Nat.reduceLT, Nat.lt_add_one, Nat.zero_lt_succ, decide_true, decide_false, ne_eq, reduceCtorEq, hlt]
    refine text_ld (h1.ext hx2) hu ?_
    rw [lenl_at h2]
    simp only [wsv, wsg, wsh, wsl, cond_true, cond_false, exists_eq_left', Option.some.injEq, Option.isSome_some, List.getElem?_toArray, List.getElem?_cons_zero, List.getElem?_cons_succ, List.length_cons, List.length_nil, List.set_cons_zero, List.set_cons_succ, List.getD_cons_zero, List.getD_cons_succ, Nat.zero_add, Nat.add_zero, Nat.reduceAdd, Nat.reduceLT, Nat.lt_add_one, Nat.zero_lt_succ, decide_true, decide_false, ne_eq, reduceCtorEq, condW_dec]
    refine ⟨fun hge => ?_, fun hltb => ?_⟩
    · have hdb : b.drop i = [] := List.drop_eq_nil_iff.2 (by omega)
      rw [hda, hdb] at he
      have := hK w2 hx2
      rw [← he] at this
      exact this
    · have hib2 : i < b.length := by omega
      obtain ⟨v, hv⟩ : ∃ v, b[i]? = some v := ⟨_, List.getElem?_eq_getElem hib2⟩
      have hdb : b.drop i = v :: b.drop (i + 1) := by
        rw [List.drop_eq_getElem_cons hib2]; congr 1
        exact Option.some.inj ((List.getElem?_eq_getElem hib2).symm.trans hv)
      rw [hda, hdb] at he
      simp only [cmpKs, orI] at he
      refine text_ld (h2.ext hx2) hv ?_
      refine cmp_s ?_
      simp only [wsv, wsg, wsh, wsl, cond_true, cond_false, exists_eq_left', Option.some.injEq, Option.isSome_some, List.getElem?_toArray, List.getElem?_cons_zero, List.getElem?_cons_succ, List.length_cons, List.length_nil, List.set_cons_zero, List.set_cons_succ, List.getD_cons_zero, List.getD_cons_succ, Nat.zero_add, Nat.add_zero, Nat.reduceAdd, Nat.reduceLT, Nat.lt_add_one, Nat.zero_lt_succ, decide_true, decide_false, ne_eq, reduceCtorEq, condW_dec]
      refine ⟨fun hne => ?_, fun h0 => ?_⟩
      · rw [if_neg hne] at he
        have := hK w2 hx2
        rw [← he] at this
        exact this
      · rw [if_pos (Decidable.not_not.1 h0)] at he
        rw [up1 (by omega)]
        exact hL w2 ⟨hx2, hib2, he⟩
  · rintro w2 g L ⟨hx2, hib, he⟩
    simp only [wsv, wsg, wsh, wsl, cond_true, cond_false, exists_eq_left', Option.some.injEq, Option.isSome_some, List.getElem?_toArray, List.getElem?_cons_zero, List.getElem?_cons_succ, List.length_cons, List.length_nil, List.set_cons_zero, List.set_cons_succ, List.getD_cons_zero, List.getD_cons_succ, Nat.zero_add, Nat.add_zero, Nat.reduceAdd, Nat.reduceLT, Nat.lt_add_one, Nat.zero_lt_succ, decide_true, decide_false, ne_eq, reduceCtorEq, Int.lt_irrefl]
    rw [lenl_at h1, lenl_at h2]
    rw [List.drop_length] at he
    simp only [wsv, wsg, wsh, wsl, cond_true, cond_false, exists_eq_left', Option.some.injEq, Option.isSome_some, List.getElem?_toArray, List.getElem?_cons_zero, List.getElem?_cons_succ, List.length_cons, List.length_nil, List.set_cons_zero, List.set_cons_succ, List.getD_cons_zero, List.getD_cons_succ, Nat.zero_add, Nat.add_zero, Nat.reduceAdd, Nat.reduceLT, Nat.lt_add_one, Nat.zero_lt_succ, decide_true, decide_false, ne_eq, reduceCtorEq, condW_dec]
    have := hK w2 hx2
    rw [← he] at this
    refine ⟨fun hlt => ?_, fun hge => ?_⟩
    · obtain ⟨v, r, e⟩ : ∃ v r, b.drop a.length = v :: r := by
        cases hd : b.drop a.length with
        | nil => have := List.drop_eq_nil_iff.1 hd; omega
        | cons v r => exact ⟨v, r, rfl⟩
      rw [e] at this
      exact this
    · rw [List.drop_eq_nil_iff.2 (show b.length ≤ a.length by omega)] at this
      exact this
theorem or2_p {a b : Int} {v : Value} {w : World} {K : Value → World → Prop} (hv : SlAt w 3 v 2 [i64 a, i64 b]) (hK : ∀ w', Ext w w' → K (i64 (orI a b)) w') : callF Tryz.prog 159 [v] w K := by
  refine W159_ok ?_
  unfold W159
  rw [lenl_at hv]
  unfold orI at hK
  refine loop_up 2 (fun i w' => Ext w w' ∧ (1 ≤ i → a = 0) ∧ (2 ≤ i → b = 0)) ⟨Chg.refl _ _, by omega, by omega⟩ ?_ ?_
  · rintro i w2 g L hi ⟨hx2, h1, h2⟩ hL
    have hlt : ((i : Int) < ((2 : Nat) : Int)) := by omega
    simp only [wsv, wsg, wsh, wsl, cond_true, cond_false, exists_eq_left', Option.some.injEq, Option.isSome_some, List.getElem?_toArray, List.getElem?_cons_zero, List.getElem?_cons_succ, List.length_cons, List.length_nil, List.set_cons_zero, List.set_cons_succ, List.getD_cons_zero, List.getD_cons_succ, Nat.zero_add, Nat.add_zero, Nat.reduceAdd, Nat.reduceLT, Nat.lt_add_one, Nat.zero_lt_succ, decide_true, decide_false, ne_eq, reduceCtorEq, hlt]
    have hc : i = 0 ∨ i = 1 := by omega
    rcases hc with rfl | rfl
    · refine ixa_ld (hv.ext hx2) rfl (show [i64 a, i64 b][0]? = some (i64 a) from rfl) ?_
      simp only [wsv, wsg, wsh, wsl, cond_true, cond_false, exists_eq_left', Option.some.injEq, Option.isSome_some, List.getElem?_toArray, List.getElem?_cons_zero, List.getElem?_cons_succ, List.length_cons, List.length_nil, List.set_cons_zero, List.set_cons_succ, List.getD_cons_zero, List.getD_cons_succ, Nat.zero_add, Nat.add_zero, Nat.reduceAdd, Nat.reduceLT, Nat.lt_add_one, Nat.zero_lt_succ, decide_true, decide_false, ne_eq, reduceCtorEq, condW_dec]
      refine ⟨fun hne => ?_, fun h0 => ?_⟩
      · have := hK w2 hx2
        rw [if_neg hne] at this
        exact this
      · rw [up1 (by omega)]
        exact hL w2 ⟨hx2, fun _ => Decidable.not_not.1 h0, fun h => by omega⟩
    · have ha := h1 (Nat.le_refl _)
      refine ixa_ld (hv.ext hx2) rfl (show [i64 a, i64 b][1]? = some (i64 b) from rfl) ?_
      simp only [wsv, wsg, wsh, wsl, cond_true, cond_false, exists_eq_left', Option.some.injEq, Option.isSome_some, List.getElem?_toArray, List.getElem?_cons_zero, List.getElem?_cons_succ, List.length_cons, List.length_nil, List.set_cons_zero, List.set_cons_succ, List.getD_cons_zero, List.getD_cons_succ, Nat.zero_add, Nat.add_zero, Nat.reduceAdd, Nat.reduceLT, Nat.lt_add_one, Nat.zero_lt_succ, decide_true, decide_false, ne_eq, reduceCtorEq, condW_dec]
      refine ⟨fun hne => ?_, fun h0 => ?_⟩
      · have := hK w2 hx2
        rw [if_pos ha] at this
        exact this
      · rw [up1 (by omega)]
        exact hL w2 ⟨hx2, fun _ => ha, fun _ => Decidable.not_not.1 h0⟩
  · rintro w2 g L ⟨hx2, h1, h2⟩
    simp only [wsv, wsg, wsh, wsl, cond_true, cond_false, exists_eq_left', Option.some.injEq, Option.isSome_some, List.getElem?_toArray, List.getElem?_cons_zero, List.getElem?_cons_succ, List.length_cons, List.length_nil, List.set_cons_zero, List.set_cons_succ, List.getD_cons_zero, List.getD_cons_succ, Nat.zero_add, Nat.add_zero, Nat.reduceAdd, Nat.reduceLT, Nat.lt_add_one, Nat.zero_lt_succ, decide_true, decide_false, ne_eq, reduceCtorEq, Int.lt_irrefl]
    have := hK w2 hx2
    rw [if_pos (h1 (by omega)), h2 (Nat.le_refl _)] at this
    exact this
theorem cmpfunc_p {sv tv f : Value} {xs ys : List JV} {w : World} {K : Value → World → Prop} (h : ItemsAt w sv xs) (h' : ItemsAt w tv ys)
    (hf : ∀ x ∈ xs, ∀ y ∈ ys, ∀ {cs ds : List Value} {w : World} {K : Value → World → Prop}, VRep w x cs → VRep w y ds → (∀ w', Ext w w' → K (i64 (cmpM x y)) w') → callV Tryz.prog f [.agg cs.toArray, .agg ds.toArray] w K)
    (hK : ∀ w', Ext w w' → K (i64 (cmpL xs ys)) w') : callF Tryz.prog 161 [sv, tv, f] w K := by
  refine W161_ok ?_
  unfold W161
  rw [h.len]
  refine loop_up xs.length (fun i w' => Ext w w' ∧ i ≤ ys.length ∧ cmpL (xs.drop i) (ys.drop i) = cmpL xs ys) ⟨Chg.refl _ _, by omega, rfl⟩ ?_ ?_
  · rintro i w2 g L hi ⟨hx2, hib, he⟩ hL
    obtain ⟨u, hu⟩ : ∃ u, xs[i]? = some u := ⟨_, List.getElem?_eq_getElem hi⟩
    have hlt : ((i : Int) < (xs.length : Int)) := by omega
    have hda : xs.drop i = u :: xs.drop (i + 1) := by
      rw [List.drop_eq_getElem_cons hi]; congr 1
      exact Option.some.inj ((List.getElem?_eq_getElem hi).symm.trans hu)
    simp only [wsv, wsg, wsh, wsl, cond_true, cond_false, exists_eq_left', Option.some.injEq, Option.isSome_some, List.getElem?_toArray, List.getElem?_cons_zero, List.getElem?_cons_succ, List.length_cons, List.length_nil, List.set_cons_zero, List.set_cons_succ, List.getD_cons_zero, List.getD_cons_succ, Nat.zero_add, Nat.add_zero, Nat.reduceAdd, Nat.reduceLT, Nat.lt_add_one, Nat.zero_lt_succ, decide_true, decide_false, ne_eq, reduceCtorEq, hlt]
    refine (h.ext hx2).at hu fun cs hcs => ?_
    refine copy_new hcs fun p w3 sp kp hP hx3 => ?_
    rw [h'.len]
    simp only [wsv, wsg, wsh, wsl, cond_true, cond_false, exists_eq_left', Option.some.injEq, Option.isSome_some, List.getElem?_toArray, List.getElem?_cons_zero, List.getElem?_cons_succ, List.length_cons, List.length_nil, List.set_cons_zero, List.set_cons_succ, List.getD_cons_zero, List.getD_cons_succ, Nat.zero_add, Nat.add_zero, Nat.reduceAdd, Nat.reduceLT, Nat.lt_add_one, Nat.zero_lt_succ, decide_true, decide_false, ne_eq, reduceCtorEq, condW_dec]
    refine ⟨fun hge => ?_, fun hltb => ?_⟩
    · have hdb : ys.drop i = [] := List.drop_eq_nil_iff.2 (by omega)
      rw [hda, hdb] at he
      have := hK w3 (hx2.trans hx3)
      rw [← he] at this
      exact this
    · have hib2 : i < ys.length := by omega
      obtain ⟨v, hv⟩ : ∃ v, ys[i]? = some v := ⟨_, List.getElem?_eq_getElem hib2⟩
      have hdb : ys.drop i = v :: ys.drop (i + 1) := by
        rw [List.drop_eq_getElem_cons hib2]; congr 1
        exact Option.some.inj ((List.getElem?_eq_getElem hib2).symm.trans hv)
      rw [hda, hdb] at he
      simp only [cmpL, orI] at he
      refine (h'.ext (hx2.trans hx3)).at hv fun ds hds => ?_
      refine copy_new hds fun q w4 sq kq hQ hx4 => ?_
      refine (hP.ext hx4).ld fun cs2 hc2 => ?_
      refine hQ.ld fun ds2 hd2 => ?_
      refine hf u (List.mem_of_getElem? hu) v (List.mem_of_getElem? hv) hc2 hd2 fun w5 hx5 => ?_
      have hx := hx2.trans (hx3.trans (hx4.trans hx5))
      simp only [wsv, wsg, wsh, wsl, cond_true, cond_false, exists_eq_left', Option.some.injEq, Option.isSome_some, List.getElem?_toArray, List.getElem?_cons_zero, List.getElem?_cons_succ, List.length_cons, List.length_nil, List.set_cons_zero, List.set_cons_succ, List.getD_cons_zero, List.getD_cons_succ, Nat.zero_add, Nat.add_zero, Nat.reduceAdd, Nat.reduceLT, Nat.lt_add_one, Nat.zero_lt_succ, decide_true, decide_false, ne_eq, reduceCtorEq, condW_dec]
      refine ⟨fun hne => ?_, fun h0 => ?_⟩
      · rw [if_neg hne] at he
        have := hK w5 hx
        rw [← he] at this
        exact this
      · rw [if_pos (Decidable.not_not.1 h0)] at he
        have := h.few
        rw [up1 (by omega)]
        exact hL w5 ⟨hx, hib2, he⟩
  · rintro w2 g L ⟨hx2, hib, he⟩
    simp only [wsv, wsg, wsh, wsl, cond_true, cond_false, exists_eq_left', Option.some.injEq, Option.isSome_some, List.getElem?_toArray, List.getElem?_cons_zero, List.getElem?_cons_succ, List.length_cons, List.length_nil, List.set_cons_zero, List.set_cons_succ, List.getD_cons_zero, List.getD_cons_succ, Nat.zero_add, Nat.add_zero, Nat.reduceAdd, Nat.reduceLT, Nat.lt_add_one, Nat.zero_lt_succ, decide_true, decide_false, ne_eq, reduceCtorEq, Int.lt_irrefl]
    rw [h.len, h'.len]
    rw [List.drop_length] at he
    simp only [wsv, wsg, wsh, wsl, cond_true, cond_false, exists_eq_left', Option.some.injEq, Option.isSome_some, List.getElem?_toArray, List.getElem?_cons_zero, List.getElem?_cons_succ, List.length_cons, List.length_nil, List.set_cons_zero, List.set_cons_succ, List.getD_cons_zero, List.getD_cons_succ, Nat.zero_add, Nat.add_zero, Nat.reduceAdd, Nat.reduceLT, Nat.lt_add_one, Nat.zero_lt_succ, decide_true, decide_false, ne_eq, reduceCtorEq, condW_dec]
    have := hK w2 hx2
    rw [← he] at this
    refine ⟨fun hlt => ?_, fun hge => ?_⟩
    · obtain ⟨v, r, e⟩ : ∃ v r, ys.drop xs.length = v :: r := by
        cases hd : ys.drop xs.length with
        | nil => have := List.drop_eq_nil_iff.1 hd; omega
        | cons v r => exact ⟨v, r, rfl⟩
      rw [e] at this
      exact this
    · rw [List.drop_eq_nil_iff.2 (show ys.length ≤ xs.length by omega)] at this
      exact this
theorem cmp_p (v : JV) : ∀ {b : JV} {cs ds : List Value} {w : World} {K : Value → World → Prop}, VRep w v cs → VRep w b ds → (∀ w', Ext w w' → K (i64 (cmpM v b)) w') → callF Tryz.prog 131 [.agg cs.toArray, .agg ds.toArray] w K := by
  induction v using JV.ind' with
  | h v ih =>
    intro b cs ds w K h h' hK
    refine W131_ok ?_
    unfold W131
    refine box_val h fun x w1 sv kv hB hx _ => ?_
    refine box_val (h'.ext hx) fun y w2 sv' kv' hC hx2 _ => ?_
    have hB := hB.ext hx2
    have hx := hx.trans hx2
    clear hx2
    rw [cmpM_eq] at hK
    unfold orI at hK
    simp only [wsv, wsg, wsh, wsl, cond_true, cond_false, exists_eq_left', Option.some.injEq, Option.isSome_some, List.getElem?_toArray, List.getElem?_cons_zero, List.getElem?_cons_succ, List.length_cons, List.length_nil, List.set_cons_zero, List.set_cons_succ, List.getD_cons_zero, List.getD_cons_succ, Nat.zero_add, Nat.add_zero, Nat.reduceAdd, Nat.reduceLT, Nat.lt_add_one, Nat.zero_lt_succ, decide_true, decide_false, ne_eq, reduceCtorEq, wsh, hB.hb, hC.hb]
    refine cmp_k ?_
    simp only [wsv, wsg, wsh, wsl, cond_true, cond_false, exists_eq_left', Option.some.injEq, Option.isSome_some, List.getElem?_toArray, List.getElem?_cons_zero, List.getElem?_cons_succ, List.length_cons, List.length_nil, List.set_cons_zero, List.set_cons_succ, List.getD_cons_zero, List.getD_cons_succ, Nat.zero_add, Nat.add_zero, Nat.reduceAdd, Nat.reduceLT, Nat.lt_add_one, Nat.zero_lt_succ, decide_true, decide_false, ne_eq, reduceCtorEq, condW_dec]
    refine ⟨fun hne => ?_, fun h0 => ?_⟩
    · have := hK w2 hx
      rw [if_neg hne] at this
      exact this
    · rw [if_pos (Decidable.not_not.1 h0)] at hK
      have hxd : Ext w2 w2.drew := Chg.drew (Chg.refl (fun _ => False) w2)
      have hBd := hB.ext hxd
      have hCd := hC.ext hxd
      (try simp only [wsv, wsg, wsh, wsl, cond_true, cond_false, exists_eq_left', Option.some.injEq, Option.isSome_some, List.getElem?_toArray, List.getElem?_cons_zero, List.getElem?_cons_succ, List.length_cons, List.length_nil, List.set_cons_zero, List.set_cons_succ, List.getD_cons_zero, List.getD_cons_succ, Nat.zero_add, Nat.add_zero, Nat.reduceAdd, Nat.reduceLT, Nat.lt_add_one, Nat.zero_lt_succ, decide_true, decide_false, ne_eq, reduceCtorEq, wsh, hB.hb, hC.hb])
      refine ⟨fun h2 => ?_, fun h2 => ?_⟩
      · rw [if_pos (show v.k = 2 by simpa using h2)] at hK
        (try simp only [wsv, wsg, wsh, wsl, cond_true, cond_false, exists_eq_left', Option.some.injEq, Option.isSome_some, List.getElem?_toArray, List.getElem?_cons_zero, List.getElem?_cons_succ, List.length_cons, List.length_nil, List.set_cons_zero, List.set_cons_succ, List.getD_cons_zero, List.getD_cons_succ, Nat.zero_add, Nat.add_zero, Nat.reduceAdd, Nat.reduceLT, Nat.lt_add_one, Nat.zero_lt_succ, decide_true, decide_false, ne_eq, reduceCtorEq, wsh, hB.hb, hC.hb])
        refine truth_p ?_
        (try simp only [wsv, wsg, wsh, wsl, cond_true, cond_false, exists_eq_left', Option.some.injEq, Option.isSome_some, List.getElem?_toArray, List.getElem?_cons_zero, List.getElem?_cons_succ, List.length_cons, List.length_nil, List.set_cons_zero, List.set_cons_succ, List.getD_cons_zero, List.getD_cons_succ, Nat.zero_add, Nat.add_zero, Nat.reduceAdd, Nat.reduceLT, Nat.lt_add_one, Nat.zero_lt_succ, decide_true, decide_false, ne_eq, reduceCtorEq, wsh, hC.hb])
        refine truth_p (cmp_i ?_)
        exact hK _ (hx.trans hxd)
      · rw [if_neg (show ¬ v.k = 2 by simpa using h2)] at hK
        (try simp only [wsv, wsg, wsh, wsl, cond_true, cond_false, exists_eq_left', Option.some.injEq, Option.isSome_some, List.getElem?_toArray, List.getElem?_cons_zero, List.getElem?_cons_succ, List.length_cons, List.length_nil, List.set_cons_zero, List.set_cons_succ, List.getD_cons_zero, List.getD_cons_succ, Nat.zero_add, Nat.add_zero, Nat.reduceAdd, Nat.reduceLT, Nat.lt_add_one, Nat.zero_lt_succ, decide_true, decide_false, ne_eq, reduceCtorEq, condW_dec])
        refine ⟨fun h3 => ?_, fun h3 => ?_⟩
        · rw [if_pos (show v.k = 3 by simpa using h3)] at hK
          (try simp only [wsv, wsg, wsh, wsl, cond_true, cond_false, exists_eq_left', Option.some.injEq, Option.isSome_some, List.getElem?_toArray, List.getElem?_cons_zero, List.getElem?_cons_succ, List.length_cons, List.length_nil, List.set_cons_zero, List.set_cons_succ, List.getD_cons_zero, List.getD_cons_succ, Nat.zero_add, Nat.add_zero, Nat.reduceAdd, Nat.reduceLT, Nat.lt_add_one, Nat.zero_lt_succ, decide_true, decide_false, ne_eq, reduceCtorEq, wsh, hB.hb, hC.hb])
          exact numcmp_ref hB.fits.2.2.1 hC.fits.2.2.1 fun w3 hx3 => hK w3 (hx.trans hx3)
        · rw [if_neg (show ¬ v.k = 3 by simpa using h3)] at hK
          (try simp only [wsv, wsg, wsh, wsl, cond_true, cond_false, exists_eq_left', Option.some.injEq, Option.isSome_some, List.getElem?_toArray, List.getElem?_cons_zero, List.getElem?_cons_succ, List.length_cons, List.length_nil, List.set_cons_zero, List.set_cons_succ, List.getD_cons_zero, List.getD_cons_succ, Nat.zero_add, Nat.add_zero, Nat.reduceAdd, Nat.reduceLT, Nat.lt_add_one, Nat.zero_lt_succ, decide_true, decide_false, ne_eq, reduceCtorEq, condW_dec])
          refine ⟨fun h4 => ?_, fun h4 => ?_⟩
          · rw [if_pos (show v.k = 4 by simpa using h4)] at hK
            (try simp only [wsv, wsg, wsh, wsl, cond_true, cond_false, exists_eq_left', Option.some.injEq, Option.isSome_some, List.getElem?_toArray, List.getElem?_cons_zero, List.getElem?_cons_succ, List.length_cons, List.length_nil, List.set_cons_zero, List.set_cons_succ, List.getD_cons_zero, List.getD_cons_succ, Nat.zero_add, Nat.add_zero, Nat.reduceAdd, Nat.reduceLT, Nat.lt_add_one, Nat.zero_lt_succ, decide_true, decide_false, ne_eq, reduceCtorEq, wsh, hB.hb, hC.hb])
            exact strcmp (hK w2 hx)
          · rw [if_neg (show ¬ v.k = 4 by simpa using h4)] at hK
            (try simp only [wsv, wsg, wsh, wsl, cond_true, cond_false, exists_eq_left', Option.some.injEq, Option.isSome_some, List.getElem?_toArray, List.getElem?_cons_zero, List.getElem?_cons_succ, List.length_cons, List.length_nil, List.set_cons_zero, List.set_cons_succ, List.getD_cons_zero, List.getD_cons_succ, Nat.zero_add, Nat.add_zero, Nat.reduceAdd, Nat.reduceLT, Nat.lt_add_one, Nat.zero_lt_succ, decide_true, decide_false, ne_eq, reduceCtorEq, wsh, hB.hb, hC.hb])
            obtain ⟨T1, k1⟩ := hBd.keys
            obtain ⟨T2, k2⟩ := hCd.keys
            refine cmpks_p k1 k2 hB.fits.2.1 fun w3 hx3 => ?_
            have hB3 := hBd.ext hx3
            have hC3 := hCd.ext hx3
            simp only [wsv, wsg, wsh, wsl, cond_true, cond_false, exists_eq_left', Option.some.injEq, Option.isSome_some, List.getElem?_toArray, List.getElem?_cons_zero, List.getElem?_cons_succ, List.length_cons, List.length_nil, List.set_cons_zero, List.set_cons_succ, List.getD_cons_zero, List.getD_cons_succ, Nat.zero_add, Nat.add_zero, Nat.reduceAdd, Nat.reduceLT, Nat.lt_add_one, Nat.zero_lt_succ, decide_true, decide_false, ne_eq, reduceCtorEq, wsh, hB3.hb, hC3.hb]
            refine cmpfunc_p hB3.itemsAt hC3.itemsAt ?_ fun w4 hx4 => ?_
            · intro p hp q hq cs ds w K hc hd hK
              exact callV_fn (ih p hp hc hd hK)
            unfold bslW
            simp only [wsv, wsg, wsh, wsl, cond_true, cond_false, exists_eq_left', Option.some.injEq, Option.isSome_some, List.getElem?_toArray, List.getElem?_cons_zero, List.getElem?_cons_succ, List.length_cons, List.length_nil, List.set_cons_zero, List.set_cons_succ, List.getD_cons_zero, List.getD_cons_succ, Nat.zero_add, Nat.add_zero, Nat.reduceAdd, Nat.reduceLT, Nat.lt_add_one, Nat.zero_lt_succ, decide_true, decide_false, ne_eq, reduceCtorEq]
            have hs : SlAt (w4.alloc (.cells [i64 (cmpKs v.ks b.ks), i64 (cmpL v.xs b.xs)].toArray 3)) 3 (.slice (some ⟨w4.heap.size, 0, none⟩) 2 2) 2 [i64 (cmpKs v.ks b.ks), i64 (cmpL v.xs b.xs)] :=
              (own_new (w := w4) (base := w4.heap.size) (e := 3) (size := 1) (n := 2) (cs := [i64 (cmpKs v.ks b.ks), i64 (cmpL v.xs b.xs)]) (Nat.le_refl _) rfl (by omega)).sl
            refine or2_p hs fun w5 hx5 => ?_
            have hx' := hx.trans (hxd.trans (hx3.trans (hx4.trans ((Chg.alloc (Chg.refl _ _) _ : Ext w4 _).trans hx5))))
            exact hK w5 hx'
theorem equal_p {a b : JV} {cs ds : List Value} {w : World} {K : Value → World → Prop} (h : VRep w a cs) (h' : VRep w b ds) (hK : ∀ w', Ext w w' → K (.bool (decide (cmpM a b = 0))) w') : callF Tryz.prog 93 [.agg cs.toArray, .agg ds.toArray] w K := by
  refine W93_ok ?_
  unfold W93
  refine box_val h fun x w1 sv kv hB hx _ => ?_
  refine box_val (h'.ext hx) fun y w2 sv' kv' hC hx2 _ => ?_
  have hB := hB.ext hx2
  refine hB.ld fun cs1 h1 => ?_
  refine hC.ld fun cs2 h2 => ?_
  refine cmp_p a h1 h2 fun w3 hx3 => ?_
  simp only [wsv, wsg, wsh, wsl, cond_true, cond_false, exists_eq_left', Option.some.injEq, Option.isSome_some, List.getElem?_toArray, List.getElem?_cons_zero, List.getElem?_cons_succ, List.length_cons, List.length_nil, List.set_cons_zero, List.set_cons_succ, List.getD_cons_zero, List.getD_cons_succ, Nat.zero_add, Nat.add_zero, Nat.reduceAdd, Nat.reduceLT, Nat.lt_add_one, Nat.zero_lt_succ, decide_true, decide_false, ne_eq, reduceCtorEq]
  exact hK w3 (hx.trans (hx2.trans hx3))
end
end Go.Proofs.YtdkikjcpgihjlaaGreatDoor
namespace Go.Proofs.YtdkikjcpgihjlaaGreatDoor
open Go Go.Eng Go.Num
set_option maxRecDepth 100000
def inG (G : Nat → Prop) (v : Value) : Prop := ∀ k, v.ownBlock = some k → G k
mutual
/-- a value all whose lists lie in blocks of G -/
def VRepP (G : Nat → Prop) (w : World) : JV → List Value → Prop
  | .mk k b t xs ks, cs => ∃ sv kv T1 T2 L, cs = [i64 k, .bool b, str t, sv, kv] ∧ SlAt w T1 sv xs.length L ∧ VRepsP G w xs L ∧ SlAt w T2 kv ks.length (ks.map str) ∧ Fits xs.length ks t ∧ (L ≠ [] → inG G sv) ∧ (ks.map str ≠ [] → inG G kv)
def VRepsP (G : Nat → Prop) (w : World) : List JV → List Value → Prop
  | [], L => L = []
  | x :: xs, L => ∃ c r, L = c ++ r ∧ VRepP G w x c ∧ VRepsP G w xs r
end
theorem slat_chgG {S G : Nat → Prop} {w w' : World} {T : TypeId} {v : Value} {n : Nat} {cs : List Value} (h : SlAt w T v n cs) (hg : cs ≠ [] → inG G v) (hc : Chg S w w') (hS : ∀ k, G k → k < w.heap.size → ¬ S k) : SlAt w' T v n cs := by
  obtain ⟨p, cap, rfl, h1, h2, h3⟩ := h
  refine ⟨p, cap, rfl, h1, h2, fun hne => ?_⟩
  obtain ⟨b, off, c, fr, rfl, hb, hcs⟩ := h3 hne
  exact ⟨b, off, c, fr, rfl, hc.at hb (hS b (hg hne b rfl) (at_lt hb)), hcs⟩
theorem slat_lt {w : World} {T : TypeId} {v : Value} {n : Nat} {cs : List Value} (h : SlAt w T v n cs) (hne : cs ≠ []) : inG (fun k => k < w.heap.size) v := by
  obtain ⟨p, cap, rfl, h1, h2, h3⟩ := h
  obtain ⟨b, off, c, fr, rfl, hb, hcs⟩ := h3 hne
  intro k hk
  cases hk
  exact at_lt hb
mutual
theorem VRepP.chg {S G : Nat → Prop} {w w' : World} (hc : Chg S w w') (hS : ∀ k, G k → k < w.heap.size → ¬ S k) : ∀ {v : JV} {cs : List Value}, VRepP G w v cs → VRepP G w' v cs
  | .mk k b t xs ks, cs, h => by
    simp only [VRepP] at h ⊢
    obtain ⟨sv, kv, T1, T2, L, rfl, h1, h2, h3, h4, h5, h6⟩ := h
    exact ⟨sv, kv, T1, T2, L, rfl, slat_chgG h1 h5 hc hS, VRepsP.chg hc hS h2, slat_chgG h3 h6 hc hS, h4, h5, h6⟩
theorem VRepsP.chg {S G : Nat → Prop} {w w' : World} (hc : Chg S w w') (hS : ∀ k, G k → k < w.heap.size → ¬ S k) : ∀ {xs : List JV} {L : List Value}, VRepsP G w xs L → VRepsP G w' xs L
  | [], L, h => by simp only [VRepsP] at h ⊢; exact h
  | x :: xs, L, h => by
    simp only [VRepsP] at h ⊢
    obtain ⟨c, r, rfl, h1, h2⟩ := h
    exact ⟨c, r, rfl, VRepP.chg hc hS h1, VRepsP.chg hc hS h2⟩
end
mutual
theorem VRepP.mono {G G' : Nat → Prop} {w : World} (hG : ∀ k, k < w.heap.size → G k → G' k) : ∀ {v : JV} {cs : List Value}, VRepP G w v cs → VRepP G' w v cs
  | .mk k b t xs ks, cs, h => by
    simp only [VRepP] at h ⊢
    obtain ⟨sv, kv, T1, T2, L, rfl, h1, h2, h3, h4, h5, h6⟩ := h
    exact ⟨sv, kv, T1, T2, L, rfl, h1, VRepsP.mono hG h2, h3, h4, fun hne k hk => hG k (slat_lt h1 hne k hk) (h5 hne k hk), fun hne k hk => hG k (slat_lt h3 hne k hk) (h6 hne k hk)⟩
theorem VRepsP.mono {G G' : Nat → Prop} {w : World} (hG : ∀ k, k < w.heap.size → G k → G' k) : ∀ {xs : List JV} {L : List Value}, VRepsP G w xs L → VRepsP G' w xs L
  | [], L, h => by simp only [VRepsP] at h ⊢; exact h
  | x :: xs, L, h => by
    simp only [VRepsP] at h ⊢
    obtain ⟨c, r, rfl, h1, h2⟩ := h
    exact ⟨c, r, rfl, VRepP.mono hG h1, VRepsP.mono hG h2⟩
end
mutual
theorem VRepP.rep {G : Nat → Prop} {w : World} : ∀ {v : JV} {cs : List Value}, VRepP G w v cs → VRep w v cs
  | .mk k b t xs ks, cs, h => by
    simp only [VRepP] at h
    simp only [VRep]
    obtain ⟨sv, kv, T1, T2, L, rfl, h1, h2, h3, h4, h5, h6⟩ := h
    exact ⟨sv, kv, T1, T2, L, rfl, h1, VRepsP.rep h2, h3, h4⟩
theorem VRepsP.rep {G : Nat → Prop} {w : World} : ∀ {xs : List JV} {L : List Value}, VRepsP G w xs L → VReps w xs L
  | [], L, h => by simp only [VRepsP] at h; simp only [VReps]; exact h
  | x :: xs, L, h => by
    simp only [VRepsP] at h
    simp only [VReps]
    obtain ⟨c, r, rfl, h1, h2⟩ := h
    exact ⟨c, r, rfl, VRepP.rep h1, VRepsP.rep h2⟩
end
theorem VRepsP.snoc {G : Nat → Prop} {w : World} : ∀ {xs : List JV} {x : JV} {L cs : List Value}, VRepsP G w xs L → VRepP G w x cs → VRepsP G w (xs ++ [x]) (L ++ cs)
  | [], x, L, cs, h, hx => by
    simp only [VRepsP] at h
    subst h
    simp only [List.nil_append, VRepsP]
    exact ⟨cs, [], by simp, hx, rfl⟩
  | y :: xs, x, L, cs, h, hx => by
    simp only [VRepsP] at h
    obtain ⟨c, r, rfl, h1, h2⟩ := h
    simp only [List.cons_append, VRepsP]
    exact ⟨c, r ++ cs, by simp, h1, VRepsP.snoc h2 hx⟩
theorem VRepP.mk {G : Nat → Prop} {w : World} {v : JV} {sv kv : Value} {T1 T2 : TypeId} {L : List Value} (h1 : SlAt w T1 sv v.xs.length L) (h2 : VRepsP G w v.xs L) (h3 : SlAt w T2 kv v.ks.length (v.ks.map str)) (h4 : Fits v.xs.length v.ks v.t) (h5 : L ≠ [] → inG G sv) (h6 : v.ks.map str ≠ [] → inG G kv) : VRepP G w v [i64 v.k, .bool v.b, str v.t, sv, kv] := by
  cases v with
  | mk k b t xs ks => simp only [VRepP]; exact ⟨sv, kv, T1, T2, L, rfl, h1, h2, h3, h4, h5, h6⟩
abbrev From (n : Nat) : Nat → Prop := fun k => n ≤ k
section
variable [HX]
theorem clone_s {v : Value} {T : TypeId} {l : List Str} {w : World} {K : Value → World → Prop} (h : SlAt w T v l.length (l.map str)) (hl : l.length ≤ 1000000)
    (hK : ∀ v' w', Ext w w' → SlAt w' ST v' l.length (l.map str) → inG (From w.heap.size) v' → K v' w') : callF Tryz.prog 130 [v] w K := by
  refine W130_ok ?_
  unfold W130
  obtain ⟨p, cap, rfl, hcap, hp, hc⟩ := h
  cases p with
  | none =>
    obtain ⟨h0, rfl⟩ := hp rfl
    have : l = [] := List.eq_nil_of_length_eq_zero h0
    subst this
    have e : ∀ K : Value → Prop, eqW .slice false (.slice none ([] : List Str).length 0) (.slice none 0 0) K ↔ K (.bool true) := fun K => Iff.rfl
    rw [e]
    simp only [wsv, wsg, wsh, wsl, cond_true, cond_false, exists_eq_left', Option.some.injEq, Option.isSome_some, List.getElem?_toArray, List.getElem?_cons_zero, List.getElem?_cons_succ, List.length_cons, List.length_nil, List.set_cons_zero, List.set_cons_succ, List.getD_cons_zero, List.getD_cons_succ, Nat.zero_add, Nat.add_zero, Nat.reduceAdd, Nat.reduceLT, Nat.lt_add_one, Nat.zero_lt_succ, decide_true, decide_false, ne_eq, reduceCtorEq]
    exact hK _ w (Chg.refl _ _) (SlAt.nil _ _) (by intro k hk; cases hk)
  | some a =>
    have e : ∀ K : Value → Prop, eqW .slice false (.slice (some a) l.length cap) (.slice none 0 0) K ↔ K (.bool false) := fun K => Iff.rfl
    rw [e]
    unfold bslW
    simp only [wsv, wsg, wsh, wsl, cond_true, cond_false, exists_eq_left', Option.some.injEq, Option.isSome_some, List.getElem?_toArray, List.getElem?_cons_zero, List.getElem?_cons_succ, List.length_cons, List.length_nil, List.set_cons_zero, List.set_cons_succ, List.getD_cons_zero, List.getD_cons_succ, Nat.zero_add, Nat.add_zero, Nat.reduceAdd, Nat.reduceLT, Nat.lt_add_one, Nat.zero_lt_succ, decide_true, decide_false, ne_eq, reduceCtorEq]
    refine append_own3 elem_s (base := w.heap.size) (own_new (w := w) (base := w.heap.size) (e := ST) (size := 1) (n := 0) (cs := []) (Nat.le_refl _) rfl (by omega)) (x := .slice (some a) l.length cap) (T := T) (m := l.length) (news := l.map str) ?_ (by simp) ?_ (by omega) (by omega) (by rw [size_alloc]; omega) fun v' w' h' hc' hb' => ?_
    · have hx : Ext w (w.alloc (.cells ([] : List Value).toArray ST)) := (by repeat (first | assumption | exact Chg.refl _ _ | refine Chg.drew ?_ | refine Chg.alloc ?_ _ | refine Chg.set ?_ (by first | exact .inl rfl | exact .inr (by omega) | exact .inr (by simp only [size_set, size_alloc, size_drew]; omega) | (left; simp; done)) _ | exact Chg.of_ext (by assumption)))
      exact SlAt.ext ⟨some a, cap, rfl, hcap, hp, hc⟩ hx
    · intro u hu
      obtain ⟨s, _, rfl⟩ := List.mem_map.1 hu
      rfl
    · have hx : Ext w (w.alloc (.cells ([] : List Value).toArray ST)) := (by repeat (first | assumption | exact Chg.refl _ _ | refine Chg.drew ?_ | refine Chg.alloc ?_ _ | refine Chg.set ?_ (by first | exact .inl rfl | exact .inr (by omega) | exact .inr (by simp only [size_set, size_alloc, size_drew]; omega) | (left; simp; done)) _ | exact Chg.of_ext (by assumption)))
      refine hK v' w' (hx.then hc' fun k hk e => ?_) (by simpa using h'.sl) fun k hk => (h'.block k hk).1
      simp only [Value.ownBlock, Option.some.injEq] at e
      omega
theorem clones_p {xs : List JV} (hcl : ∀ x ∈ xs, ∀ {cs : List Value} {w : World} {K : Value → World → Prop}, VRep w x cs → (∀ cs' w', Ext w w' → VRepP (From w.heap.size) w' x cs' → K (.agg cs'.toArray) w') → callF Tryz.prog 90 [.agg cs.toArray] w K)
    {sv : Value} {w : World} {K : Value → World → Prop} (h : ItemsAt w sv xs) (hl : xs.length ≤ 1000000)
    (hK : ∀ sv' w', Ext w w' → (∃ L, SlAt w' VT sv' xs.length L ∧ VRepsP (From w.heap.size) w' xs L) → inG (From w.heap.size) sv' → K sv' w') : callF Tryz.prog 104 [sv] w K := by
  refine W104_ok ?_
  unfold W104
  rw [h.len]
  refine ⟨fun s w' => ∃ i v L, i ≤ xs.length ∧ s = [v, i64 (i : Nat)] ∧ Ext w w' ∧ Own w' w.heap.size VT 5 v i L ∧ VRepsP (fun k => w.heap.size ≤ k ∧ v.ownBlock ≠ some k) w' (xs.take i) L,
    fun s _ => match s with | [_, .int _ i] => xs.length - i.toNat | _ => 0, ⟨0, _, [], by omega, rfl, Chg.refl _ _, ⟨by simp, .inl ⟨rfl, rfl⟩⟩, by simp [VRepsP]⟩, ?_⟩
  rintro s g w2 ⟨i, v, L, hi, rfl, hx2, hO, hr⟩
  rcases Nat.lt_or_ge i xs.length with hlt | hge
  · obtain ⟨x, hxi⟩ : ∃ x, xs[i]? = some x := ⟨_, List.getElem?_eq_getElem hlt⟩
    have hltI : (i : Int) < (xs.length : Int) := by omega
    simp only [wsv, wsg, wsh, wsl, cond_true, cond_false, exists_eq_left', Option.some.injEq, Option.isSome_some, List.getElem?_toArray, List.getElem?_cons_zero, List.getElem?_cons_succ, List.length_cons, List.length_nil, List.set_cons_zero, List.set_cons_succ, List.getD_cons_zero, List.getD_cons_succ, Nat.zero_add, Nat.add_zero, Nat.reduceAdd, Nat.reduceLT, Nat.lt_add_one, Nat.zero_lt_succ, decide_true, decide_false, ne_eq, reduceCtorEq, hltI]
    refine (h.ext hx2).at hxi fun cs hcs => ?_
    refine copy_new hcs fun p w3 sp kp hP hx3 => ?_
    refine hP.ld fun cs2 h2 => ?_
    refine hcl x (List.mem_of_getElem? hxi) h2 fun cs3 w4 hx4 h3 => ?_
    refine row_v h3.rep.len fun t w5 ht hx5 => ?_
    have hx25 := hx3.trans (hx4.trans hx5)
    have hO5 := hO.ext hx25
    have s0 := hx2.size
    have s3 := hx3.size
    have s25 := hx25.size
    have hglt : ∀ k, v.ownBlock = some k → k < w2.heap.size := fun k hk => (World.ownsRow.lt hO k hk).2
    refine append_own3 elem_v hO5 ht (m := 1) (by rw [h3.rep.len]) h3.rep.one (by omega) (by omega) (by omega) fun v' w6 h6 hc6 hb6 => ?_
    have hx6 : Ext w w6 := (hx2.trans hx25).then hc6 fun k hk e => by
      have := (own_ge hO5 e).1; omega
    rw [up1 (by omega)]
    refine ⟨⟨i + 1, v', L ++ cs3, hlt, rfl, hx6, h6, ?_⟩, by simp only [Int.toNat_natCast]; omega⟩
    have e : xs.take (i + 1) = xs.take i ++ [x] := by rw [List.take_add_one, hxi]; rfl
    rw [e]
    have hr5 := VRepsP.chg hx25 (fun _ _ _ e => e) hr
    have h35 := VRepP.chg hx5 (fun _ _ _ e => e) h3
    have hall : VRepsP (fun k => w.heap.size ≤ k ∧ v.ownBlock ≠ some k) w5 (xs.take i ++ [x]) (L ++ cs3) :=
      hr5.snoc (h35.mono fun k _ hk => ⟨by have : w3.heap.size ≤ k := hk; omega, fun e => by have := hglt k e; have : w3.heap.size ≤ k := hk; omega⟩)
    have hall2 : VRepsP (fun k => (w.heap.size ≤ k ∧ v.ownBlock ≠ some k) ∧ k < w5.heap.size) w5 (xs.take i ++ [x]) (L ++ cs3) := hall.mono fun k hlt hk => ⟨hk, hlt⟩
    have hall3 := VRepsP.chg hc6 (fun k hk _ e => hk.1.2 e) hall2
    exact hall3.mono fun k _ hk => ⟨hk.1.1, fun e => by
      rcases hb6 k e with h | h
      · exact hk.1.2 h
      · omega⟩
  · obtain rfl : i = xs.length := by omega
    simp only [wsv, wsg, wsh, wsl, cond_true, cond_false, exists_eq_left', Option.some.injEq, Option.isSome_some, List.getElem?_toArray, List.getElem?_cons_zero, List.getElem?_cons_succ, List.length_cons, List.length_nil, List.set_cons_zero, List.set_cons_succ, List.getD_cons_zero, List.getD_cons_succ, Nat.zero_add, Nat.add_zero, Nat.reduceAdd, Nat.reduceLT, Nat.lt_add_one, Nat.zero_lt_succ, decide_true, decide_false, ne_eq, reduceCtorEq, Int.lt_irrefl]
    rw [List.take_length] at hr
    exact hK v w2 hx2 ⟨L, hO.sl, hr.mono fun k _ hk => hk.1⟩ fun k hk => (hO.block k hk).1
end
end Go.Proofs.YtdkikjcpgihjlaaGreatDoor
namespace Go.Eng
open Go Go.Num
mutual
def fewM : JV → Bool
  | .mk _ _ _ xs ks => decide (xs.length ≤ 100000) && decide (ks.length ≤ 100000) && fewL xs
def fewL : List JV → Bool
  | [] => true
  | x :: xs => fewM x && fewL xs
end
theorem fewM_eq (v : JV) : fewM v = (decide (v.xs.length ≤ 100000) && decide (v.ks.length ≤ 100000) && fewL v.xs) := by cases v; rfl
theorem fewL_all (xs : List JV) : fewL xs = xs.all fewM := by
  induction xs with
  | nil => rfl
  | cons x xs ih => simp [fewL, ih]
theorem size_bound : ∀ (m : Nat), m ≤ 24 → ∀ (v : JV), deepM v m = true → 1 ≤ sizeM v ∧ sizeM v ≤ 2000 * m + 1
  | 0, _, v, h => by rw [deepM_zero] at h; cases h
  | m + 1, hm, v, h => by
    rw [deepM_succ, deepL_all] at h
    rw [sizeM_eq]
    have key : ∀ (xs : List JV) (n : Int), xs.all (deepM · m) = true → 1 ≤ n → n ≤ 2000 * (m + 1) + 1 → 1 ≤ sizeLM xs n ∧ sizeLM xs n ≤ 2000 * (m + 1) + 1 := by
      intro xs
      induction xs with
      | nil => intro n _ h1 h2; exact ⟨h1, h2⟩
      | cons x xs ih =>
        intro n ha h1 h2
        simp only [List.all_cons, Bool.and_eq_true] at ha
        obtain ⟨a1, a2⟩ := size_bound m (by omega) x ha.1
        simp only [sizeLM]
        split
        · rw [wrap_id (by omega) (by omega)]
          exact ih _ ha.2 (by omega) (by omega)
        · exact ⟨h1, h2⟩
    have := key v.xs 1 h (by omega) (by omega)
    exact ⟨this.1, by have := this.2; omega⟩
theorem sizeLM_all {m : Nat} (hm : m ≤ 24) : ∀ (xs : List JV) (n : Int), xs.all (deepM · m) = true → 1 ≤ n → sizeLM xs n ≤ 2000 → n + xs.length ≤ 2000 ∧ ∀ x ∈ xs, sizeM x ≤ 2000
  | [], n, _, _, h => by simp only [sizeLM] at h; exact ⟨by simp; exact h, by simp⟩
  | x :: xs, n, ha, h1, h => by
    simp only [List.all_cons, Bool.and_eq_true] at ha
    obtain ⟨a1, a2⟩ := size_bound m hm x ha.1
    simp only [sizeLM] at h
    split at h
    · rw [wrap_id (by omega) (by omega)] at h
      obtain ⟨i1, i2⟩ := sizeLM_all hm xs _ ha.2 (by omega) h
      refine ⟨by simp only [List.length_cons]; omega, fun y hy => ?_⟩
      rcases List.mem_cons.1 hy with rfl | hy
      · omega
      · exact i2 y hy
    · omega
theorem good_few (v : JV) : ∀ (m : Nat), m ≤ 24 → sizeM v ≤ 2000 → deepM v m = true → plainM v = true → fewM v = true := by
  induction v using JV.ind' with
  | h v ih =>
    intro m hm hs hd hp
    cases m with
    | zero => rw [deepM_zero] at hd; cases hd
    | succ m =>
      rw [deepM_succ, deepL_all] at hd
      rw [sizeM_eq] at hs
      obtain ⟨h1, h2⟩ := sizeLM_all (m := m) (by omega) v.xs 1 hd (by omega) hs
      rw [plainM_eq, Bool.and_eq_true, plainL_all] at hp
      obtain ⟨_, _, _, _, _, k6, _, _, k9, _⟩ := headOk_out hp.1
      rw [fewM_eq, fewL_all]
      have e1 : v.xs.length ≤ 100000 := by omega
      have e2 : v.ks.length ≤ 100000 := by
        by_cases hk : v.ks = []
        · rw [hk]; simp
        · have := k9 (k6 hk); omega
      rw [decide_eq_true e1, decide_eq_true e2]
      simp only [Bool.and_self, Bool.true_and, List.all_eq_true]
      intro x hx
      exact ih x hx m (by omega) (h2 x hx) (List.all_eq_true.1 hd x hx) (List.all_eq_true.1 hp.2 x hx)
structure GoodV (v : JV) : Prop where
  plain : plainM v = true
  few : fewM v = true
theorem good_v {v : JV} (h : goodM v = true) : GoodV v := by
  simp only [goodM, Bool.and_eq_true, decide_eq_true_eq] at h
  exact ⟨h.2, good_few v 24 (Nat.le_refl _) h.1.1 h.1.2 h.2⟩
theorem GoodV.item {v x : JV} (h : GoodV v) (hx : x ∈ v.xs) : GoodV x := by
  have h1 := h.plain
  have h2 := h.few
  rw [plainM_eq, Bool.and_eq_true, plainL_all, List.all_eq_true] at h1
  rw [fewM_eq, fewL_all] at h2
  simp only [Bool.and_eq_true, List.all_eq_true] at h2
  exact ⟨h1.2 x hx, h2.2 x hx⟩
theorem GoodV.lens {v : JV} (h : GoodV v) : v.xs.length ≤ 100000 ∧ v.ks.length ≤ 100000 ∧ (v.k = 6 → v.ks.length = v.xs.length) ∧ keysOk v.ks = true ∧ (v.ks ≠ [] → v.k = 6) := by
  have h1 := h.plain
  have h2 := h.few
  rw [plainM_eq, Bool.and_eq_true] at h1
  rw [fewM_eq] at h2
  simp only [Bool.and_eq_true, decide_eq_true_eq] at h2
  obtain ⟨_, _, _, _, _, k6, _, _, k9, k10⟩ := headOk_out h1.1
  exact ⟨h2.1.1, h2.1.2, k9, k10, k6⟩
theorem less_trans : ∀ {a b c : Str}, Op.bytesLess a b = true → Op.bytesLess b c = true → Op.bytesLess a c = true
  | [], [], _, h, _ => by simp [Op.bytesLess] at h
  | _ :: _, [], _, h, _ => by simp [Op.bytesLess] at h
  | _, _ :: _, [], _, h => by simp [Op.bytesLess] at h
  | [], _ :: _, _ :: _, _, _ => by simp [Op.bytesLess]
  | x :: a, y :: b, z :: c, h1, h2 => by
    simp only [Op.bytesLess, Bool.or_eq_true, Bool.and_eq_true, decide_eq_true_eq, beq_iff_eq] at h1 h2 ⊢
    rcases h1 with h1 | ⟨rfl, h1⟩
    · rcases h2 with h2 | ⟨rfl, h2⟩
      · exact .inl (UInt8.lt_trans h1 h2)
      · exact .inl h1
    · rcases h2 with h2 | ⟨rfl, h2⟩
      · exact .inl h2
      · exact .inr ⟨rfl, less_trans h1 h2⟩
theorem less_tri : ∀ (a b : Str), Op.bytesLess a b = true ∨ a = b ∨ Op.bytesLess b a = true
  | [], [] => .inr (.inl rfl)
  | [], _ :: _ => .inl rfl
  | _ :: _, [] => .inr (.inr rfl)
  | x :: a, y :: b => by
    simp only [Op.bytesLess, Bool.or_eq_true, Bool.and_eq_true, decide_eq_true_eq, beq_iff_eq, List.cons.injEq]
    by_cases h1 : x < y
    · exact .inl (.inl h1)
    · by_cases h2 : y < x
      · exact .inr (.inr (.inl h2))
      · have : x = y := UInt8.le_antisymm (UInt8.not_lt.1 h2) (UInt8.not_lt.1 h1)
        subst this
        rcases less_tri a b with h | h | h
        · exact .inl (.inr ⟨rfl, h⟩)
        · exact .inr (.inl ⟨rfl, h⟩)
        · exact .inr (.inr (.inr ⟨rfl, h⟩))
theorem less_anti {a b : Str} (h : Op.bytesLess a b = true) : Op.bytesLess b a = false := by
  cases hb : Op.bytesLess b a with
  | false => rfl
  | true => have := less_trans h hb; rw [less_irr] at this; cases this
def Rise (ks : List Str) : Prop := ks.Pairwise fun a b => Op.bytesLess a b = true
theorem keysOk_rise : ∀ {ks : List Str}, keysOk ks = true → Rise ks
  | [], _ => List.Pairwise.nil
  | [a], _ => List.pairwise_singleton _ _
  | a :: b :: r, h => by
    simp only [keysOk, Bool.and_eq_true] at h
    have ih := keysOk_rise (ks := b :: r) h.2
    refine List.Pairwise.cons (fun c hc => ?_) ih
    rcases List.mem_cons.1 hc with rfl | hc
    · exact h.1.2
    · exact less_trans h.1.2 ((List.pairwise_cons.1 ih).1 c hc)
theorem keysOk_len {ks : List Str} (h : keysOk ks = true) : ∀ k ∈ ks, k.length ≤ 16384 := by
  induction ks with
  | nil => intro k hk; cases hk
  | cons a r ih =>
    intro k hk
    cases r with
    | nil =>
      simp only [keysOk, decide_eq_true_eq] at h
      rw [List.mem_singleton.1 hk]; exact h
    | cons b r =>
      simp only [keysOk, Bool.and_eq_true, decide_eq_true_eq] at h
      rcases List.mem_cons.1 hk with rfl | hk
      · exact h.1.1
      · exact ih h.2 k hk
theorem rise_lt {ks : List Str} (h : Rise ks) {i j : Nat} {a b : Str} (ha : ks[i]? = some a) (hb : ks[j]? = some b) (hij : i < j) : Op.bytesLess a b = true := by
  obtain ⟨h1, e1⟩ := List.getElem?_eq_some_iff.1 ha
  obtain ⟨h2, e2⟩ := List.getElem?_eq_some_iff.1 hb
  have := List.pairwise_iff_getElem.1 h i j h1 h2 hij
  rw [e1, e2] at this
  exact this
end Go.Eng
namespace Go.Proofs.YtdkikjcpgihjlaaGreatDoor
open Go Go.Eng Go.Num
set_option maxRecDepth 100000
section
variable [HX]
theorem clone_p (v : JV) : ∀ {cs : List Value} {w : World} {K : Value → World → Prop}, fewM v = true → VRep w v cs → (∀ cs' w', Ext w w' → VRepP (From w.heap.size) w' v cs' → K (.agg cs'.toArray) w') → callF Tryz.prog 90 [.agg cs.toArray] w K := by
  induction v using JV.ind' with
  | h v ih =>
    intro cs w K hfew h hK
    rw [fewM_eq, fewL_all] at hfew
    simp only [Bool.and_eq_true, decide_eq_true_eq, List.all_eq_true] at hfew
    obtain ⟨⟨f1, f2⟩, f3⟩ := hfew
    refine W90_ok ?_
    unfold W90
    refine box_val h fun a w1 sv kv hB hx ha => ?_
    refine alloc_new fun b w2 hb hz2 hbb hx2 => ?_
    have hxd : Ext w2 w2.drew := Chg.drew (Chg.refl (fun _ => False) w2)
    have hB2 := hB.ext hx2
    have hBd := hB2.ext hxd
    have hbd := hxd.at hbb id
    have sd : w2.drew.heap.size = w2.heap.size := rfl
    simp only [wsv, wsg, wsh, wsl, cond_true, cond_false, exists_eq_left', Option.some.injEq, Option.isSome_some, List.getElem?_toArray, List.getElem?_cons_zero, List.getElem?_cons_succ, List.length_cons, List.length_nil, List.set_cons_zero, List.set_cons_succ, List.getD_cons_zero, List.getD_cons_succ, Nat.zero_add, Nat.add_zero, Nat.reduceAdd, Nat.reduceLT, Nat.lt_add_one, Nat.zero_lt_succ, decide_true, decide_false, ne_eq, reduceCtorEq, wsh, hB2.hb]
    obtain ⟨T1, k1⟩ := hBd.keys
    refine clone_s k1 (by omega) fun kv' w3 hx3 hk3 hg3 => ?_
    have hB3 := hBd.ext hx3
    have hb3 := hx3.at hbd id
    have s3 := hx3.size
    simp only [wsv, wsg, wsh, wsl, cond_true, cond_false, exists_eq_left', Option.some.injEq, Option.isSome_some, List.getElem?_toArray, List.getElem?_cons_zero, List.getElem?_cons_succ, List.length_cons, List.length_nil, List.set_cons_zero, List.set_cons_succ, List.getD_cons_zero, List.getD_cons_succ, Nat.zero_add, Nat.add_zero, Nat.reduceAdd, Nat.reduceLT, Nat.lt_add_one, Nat.zero_lt_succ, decide_true, decide_false, ne_eq, reduceCtorEq, wsh, hB3.hb]
    refine clones_p (fun x hx => ih x hx (f3 x hx)) hB3.itemsAt (by omega) fun sv' w4 hx4 hL hg4 => ?_
    obtain ⟨L, hL1, hL2⟩ := hL
    have hB4 := hB3.ext hx4
    have hb4 := hx4.at hb3 id
    have s1 := hx.size
    have hak := at_lt hB.hb
    have one1 : one1 sv' = true ∧ one1 kv' = true := by
      obtain ⟨p, c, rfl, _⟩ := hL1.shape
      obtain ⟨p', c', rfl, _⟩ := hk3.shape
      exact ⟨rfl, rfl⟩
    refine st_at hB4.hb one1.2 (by simp) fun w5 hz5 ha5 hc5 => ?_
    have ha5 : w5.heap[a]? = some (.cells [i64 v.k, .bool v.b, str v.t, sv, kv'].toArray VT (0, 0)) := by rw [ha5]; simp
    refine st_at ha5 one1.1 (by simp) fun w6 hz6 ha6 hc6 => ?_
    have ha6 : w6.heap[a]? = some (.cells [i64 v.k, .bool v.b, str v.t, sv', kv'].toArray VT (0, 0)) := by rw [ha6]; simp
    refine ld_all ha6 rfl ?_
    have hb6 := hc6.at (hc5.at hb4 (by omega)) (by omega)
    refine ret_agg hb6 rfl rfl (obj_one one1.1 one1.2) fun w7 hc7 => ?_
    have hx1 : Ext w w4 := hx.trans (hx2.trans (hxd.trans (hx3.trans hx4)))
    have hx5 : Ext w w7 := ((hx1.new hc5 (by omega)).new hc6 (by omega)).new hc7 (by omega)
    have hch : Chg (fun k => k = a ∨ k = b) w4 w7 := ((hc5.mono fun k _ e => .inl e).trans (hc6.mono fun k _ e => .inl e)).trans (hc7.mono fun k _ e => .inr e)
    refine hK _ w7 hx5 (VRepP.mk (T1 := VT) (T2 := ST) (L := L) ?_ ?_ ?_ hB.fits (fun _ k hk => ?_) (fun _ k hk => ?_))
    · exact slat_chgG hL1 (fun _ => hg4) hch fun k hk _ e => by have : w3.heap.size ≤ k := hk; omega
    · refine VRepsP.mono (fun k _ hk => ?_) (VRepsP.chg (G := From w3.heap.size) hch (fun k hk _ e => by have : w3.heap.size ≤ k := hk; omega) hL2)
      have : w3.heap.size ≤ k := hk
      show w.heap.size ≤ k
      omega
    · exact slat_chgG (hk3.ext hx4) (fun _ => hg3) hch fun k hk _ e => by have : w2.drew.heap.size ≤ k := hk; omega
    · have : w3.heap.size ≤ k := hg4 k hk
      show w.heap.size ≤ k
      omega
    · have : w2.drew.heap.size ≤ k := hg3 k hk
      show w.heap.size ≤ k
      omega
theorem search_p {kv : Value} {T : TypeId} {ks : List Str} {k : Str} {w : World} {K : Value → World → Prop} (h : SlAt w T kv ks.length (ks.map str)) (hl : ks.length ≤ 100000) (hr : Rise ks)
    (hK : ∀ i : Nat, (idxK ks k = none ∨ idxK ks k = some i) → (∀ j a, j < i → ks[j]? = some a → Op.bytesLess a k = true) → (∀ j a, i ≤ j → ks[j]? = some a → Op.bytesLess a k = false) → i ≤ ks.length → K (.tuple #[i64 (i : Nat), .bool (idxK ks k).isSome]) w) :
    callF Tryz.prog 133 [kv, str k] w K := by
  refine W133_ok ?_
  unfold W133
  rw [lenl_at h]
  refine ⟨fun s w' => ∃ lo hi : Nat, lo ≤ hi ∧ hi ≤ ks.length ∧ s = [i64 (lo : Nat), i64 (hi : Nat)] ∧ w' = w ∧ (∀ j a, j < lo → ks[j]? = some a → Op.bytesLess a k = true) ∧ (∀ j a, hi ≤ j → ks[j]? = some a → Op.bytesLess a k = false),
    fun s _ => match s with | [.int _ lo, .int _ hi] => hi.toNat - lo.toNat | _ => 0, ⟨0, ks.length, by omega, by omega, rfl, rfl, fun j a h => by omega, fun j a hj ha => by have := (List.getElem?_eq_some_iff.1 ha).1; omega⟩, ?_⟩
  rintro s g w2 ⟨lo, hi, hle, hhi, rfl, rfl, h1, h2⟩
  rcases Nat.lt_or_ge lo hi with hlt | hge
  · have hltI : (lo : Int) < (hi : Int) := by omega
    have e1 : IntKind.i64.wrap ((lo : Int) + (hi : Int)) = ((lo + hi : Nat) : Int) := by rw [wrap_id (by omega) (by omega)]; omega
    have e2 : IntKind.u64.wrap ((lo + hi : Nat) : Int) = ((lo + hi : Nat) : Int) := u64_wrap (by omega) (by omega)
    have e3 : (((lo + hi : Nat) : Int).fdiv (2 ^ min (1 : Int).toNat IntKind.u64.bits)) = (((lo + hi) / 2 : Nat) : Int) := by
      have : (2 : Int) ^ min (1 : Int).toNat IntKind.u64.bits = 2 := by decide
      rw [this, Int.fdiv_eq_ediv_of_nonneg _ (by omega)]; omega
    have e4 : IntKind.i64.wrap (((lo + hi) / 2 : Nat) : Int) = (((lo + hi) / 2 : Nat) : Int) := wrap_id (by omega) (by omega)
    generalize hm : (lo + hi) / 2 = m at *
    obtain ⟨u, hu⟩ : ∃ u, ks[m]? = some u := ⟨_, List.getElem?_eq_getElem (by omega)⟩
    have h01 : (0 : Int) ≤ 1 := by decide
    simp only [wsv, wsg, wsh, wsl, cond_true, cond_false, exists_eq_left', Option.some.injEq, Option.isSome_some, List.getElem?_toArray, List.getElem?_cons_zero, List.getElem?_cons_succ, List.length_cons, List.length_nil, List.set_cons_zero, List.set_cons_succ, List.getD_cons_zero, List.getD_cons_succ, Nat.zero_add, Nat.add_zero, Nat.reduceAdd, Nat.reduceLT, Nat.lt_add_one, Nat.zero_lt_succ, decide_true, decide_false, ne_eq, reduceCtorEq, hltI, e1, e2, bin_shr, h01, e3, e4]
    refine text_ld h hu ?_
    refine cmp_less ?_
    rw [condW_b]
    refine ⟨fun hl => ?_, fun hn => ?_⟩
    · rw [up1 (by omega)]
      refine ⟨⟨m + 1, hi, by omega, hhi, rfl, rfl, fun j a hj ha => ?_, h2⟩, by simp only [Int.toNat_natCast]; omega⟩
      rcases Nat.lt_or_ge j m with hj2 | hj2
      · exact less_trans (rise_lt hr ha hu hj2) hl
      · obtain rfl : j = m := by omega
        rw [hu] at ha; cases ha; exact hl
    · refine ⟨⟨lo, m, by omega, by omega, rfl, rfl, h1, fun j a hj ha => ?_⟩, by simp only [Int.toNat_natCast]; omega⟩
      rcases Nat.lt_or_ge m j with hj2 | hj2
      · cases hb : Op.bytesLess a k with
        | false => rfl
        | true => have := less_trans (rise_lt hr hu ha hj2) hb; rw [hn] at this; cases this
      · obtain rfl : j = m := by omega
        rw [hu] at ha; cases ha; exact hn
  · obtain rfl : lo = hi := by omega
    have hi0 : idxK ks k = none ∨ idxK ks k = some lo := by
      cases hx : idxK ks k with
      | none => exact .inl rfl
      | some j =>
        right
        have hj := idxK_spec hx
        rcases Nat.lt_trichotomy j lo with h | h | h
        · have := h1 j k h hj; rw [less_irr] at this; cases this
        · rw [h]
        · obtain ⟨u, hu⟩ : ∃ u, ks[lo]? = some u := ⟨_, List.getElem?_eq_getElem (by have := (List.getElem?_eq_some_iff.1 hj).1; omega)⟩
          have a1 := h2 lo u (Nat.le_refl _) hu
          have a2 := rise_lt hr hu hj h
          rw [a1] at a2; cases a2
    have hK := hK lo hi0 h1 h2 hhi
    simp only [wsv, wsg, wsh, wsl, cond_true, cond_false, exists_eq_left', Option.some.injEq, Option.isSome_some, List.getElem?_toArray, List.getElem?_cons_zero, List.getElem?_cons_succ, List.length_cons, List.length_nil, List.set_cons_zero, List.set_cons_succ, List.getD_cons_zero, List.getD_cons_succ, Nat.zero_add, Nat.add_zero, Nat.reduceAdd, Nat.reduceLT, Nat.lt_add_one, Nat.zero_lt_succ, decide_true, decide_false, ne_eq, reduceCtorEq, Int.lt_irrefl]
    rcases Nat.lt_or_ge lo ks.length with hlt | hge2
    · obtain ⟨u, hu⟩ : ∃ u, ks[lo]? = some u := ⟨_, List.getElem?_eq_getElem hlt⟩
      have ed : decide ((lo : Int) < (ks.length : Int)) = true := decide_eq_true (by omega)
      have hsome : (idxK ks k).isSome = decide (u = k) := by
        by_cases e : u = k
        · subst e
          have hm : u ∈ ks := List.mem_of_getElem? hu
          rw [decide_eq_true rfl]
          cases hx : idxK ks u with
          | none => exact absurd hm (idxK_none.1 hx)
          | some _ => rfl
        · rw [decide_eq_false e]
          rcases hi0 with h | h
          · rw [h]; rfl
          · have := idxK_spec h; rw [hu] at this; exact absurd (Option.some.inj this) e
      rw [hsome] at hK
      simp only [wsv, wsg, wsh, wsl, cond_true, cond_false, exists_eq_left', Option.some.injEq, Option.isSome_some, List.getElem?_toArray, List.getElem?_cons_zero, List.getElem?_cons_succ, List.length_cons, List.length_nil, List.set_cons_zero, List.set_cons_succ, List.getD_cons_zero, List.getD_cons_succ, Nat.zero_add, Nat.add_zero, Nat.reduceAdd, Nat.reduceLT, Nat.lt_add_one, Nat.zero_lt_succ, decide_true, decide_false, ne_eq, reduceCtorEq, ed]
      refine GdW.t ?_
      refine text_ld h hu ?_
      intro gg
      simp only [ofL_data]
      simp only [wsv, wsg, wsh, wsl, cond_true, cond_false, exists_eq_left', Option.some.injEq, Option.isSome_some, List.getElem?_toArray, List.getElem?_cons_zero, List.getElem?_cons_succ, List.length_cons, List.length_nil, List.set_cons_zero, List.set_cons_succ, List.getD_cons_zero, List.getD_cons_succ, Nat.zero_add, Nat.add_zero, Nat.reduceAdd, Nat.reduceLT, Nat.lt_add_one, Nat.zero_lt_succ, decide_true, decide_false, ne_eq, reduceCtorEq]
      by_cases e : u = k
      · rw [decide_eq_true e] at hK ⊢
        (try simp only [wsv, wsg, wsh, wsl, cond_true, cond_false, exists_eq_left', Option.some.injEq, Option.isSome_some, List.getElem?_toArray, List.getElem?_cons_zero, List.getElem?_cons_succ, List.length_cons, List.length_nil, List.set_cons_zero, List.set_cons_succ, List.getD_cons_zero, List.getD_cons_succ, Nat.zero_add, Nat.add_zero, Nat.reduceAdd, Nat.reduceLT, Nat.lt_add_one, Nat.zero_lt_succ, decide_true, decide_false, ne_eq, reduceCtorEq])
        intros
        exact hK
      · rw [decide_eq_false e] at hK ⊢
        (try simp only [wsv, wsg, wsh, wsl, cond_true, cond_false, exists_eq_left', Option.some.injEq, Option.isSome_some, List.getElem?_toArray, List.getElem?_cons_zero, List.getElem?_cons_succ, List.length_cons, List.length_nil, List.set_cons_zero, List.set_cons_succ, List.getD_cons_zero, List.getD_cons_succ, Nat.zero_add, Nat.add_zero, Nat.reduceAdd, Nat.reduceLT, Nat.lt_add_one, Nat.zero_lt_succ, decide_true, decide_false, ne_eq, reduceCtorEq])
        refine GdW.t ?_
        refine text_ld h hu ?_
        refine isnan_s2 ?_
        intro gg
        (try simp only [wsv, wsg, wsh, wsl, cond_true, cond_false, exists_eq_left', Option.some.injEq, Option.isSome_some, List.getElem?_toArray, List.getElem?_cons_zero, List.getElem?_cons_succ, List.length_cons, List.length_nil, List.set_cons_zero, List.set_cons_succ, List.getD_cons_zero, List.getD_cons_succ, Nat.zero_add, Nat.add_zero, Nat.reduceAdd, Nat.reduceLT, Nat.lt_add_one, Nat.zero_lt_succ, decide_true, decide_false, ne_eq, reduceCtorEq])
        intros
        exact hK
    · have hsome : idxK ks k = none := by
        rcases hi0 with h | h
        · exact h
        · have := (List.getElem?_eq_some_iff.1 (idxK_spec h)).1; omega
      rw [hsome] at hK
      have ed : decide ((lo : Int) < (ks.length : Int)) = false := decide_eq_false (by omega)
      simp only [wsv, wsg, wsh, wsl, cond_true, cond_false, exists_eq_left', Option.some.injEq, Option.isSome_some, List.getElem?_toArray, List.getElem?_cons_zero, List.getElem?_cons_succ, List.length_cons, List.length_nil, List.set_cons_zero, List.set_cons_succ, List.getD_cons_zero, List.getD_cons_succ, Nat.zero_add, Nat.add_zero, Nat.reduceAdd, Nat.reduceLT, Nat.lt_add_one, Nat.zero_lt_succ, decide_true, decide_false, ne_eq, reduceCtorEq, ed]
      intros
      exact hK
end
end Go.Proofs.YtdkikjcpgihjlaaGreatDoor

namespace Go.Proofs.YtdkikjcpgihjlaaGreatDoor
open Go Go.Eng Go.Num
set_option maxRecDepth 100000
mutual
def fewW : JV → Bool
  | .mk _ _ _ xs ks => decide (xs.length ≤ 1000000) && decide (ks.length ≤ 1000000) && fewWL xs
def fewWL : List JV → Bool
  | [] => true
  | x :: xs => fewW x && fewWL xs
end
theorem fewW_eq (v : JV) : fewW v = (decide (v.xs.length ≤ 1000000) && decide (v.ks.length ≤ 1000000) && fewWL v.xs) := by cases v; rfl
theorem fewWL_all (xs : List JV) : fewWL xs = xs.all fewW := by
  induction xs with
  | nil => rfl
  | cons x xs ih => simp [fewWL, ih]
theorem few_w (v : JV) : fewM v = true → fewW v = true := by
  induction v using JV.ind' with
  | h v ih =>
    intro h
    rw [fewM_eq, fewL_all] at h
    rw [fewW_eq, fewWL_all]
    simp only [Bool.and_eq_true, decide_eq_true_eq, List.all_eq_true] at h ⊢
    exact ⟨⟨by omega, by omega⟩, fun x hx => ih x hx (h.2 x hx)⟩
section
variable [HX]
theorem clone_w (v : JV) : ∀ {cs : List Value} {w : World} {K : Value → World → Prop}, fewW v = true → VRep w v cs → (∀ cs' w', Ext w w' → VRepP (From w.heap.size) w' v cs' → K (.agg cs'.toArray) w') → callF Tryz.prog 90 [.agg cs.toArray] w K := by
  induction v using JV.ind' with
  | h v ih =>
    intro cs w K hfew h hK
    rw [fewW_eq, fewWL_all] at hfew
    simp only [Bool.and_eq_true, decide_eq_true_eq, List.all_eq_true] at hfew
    obtain ⟨⟨f1, f2⟩, f3⟩ := hfew
    refine W90_ok ?_
    unfold W90
    refine box_val h fun a w1 sv kv hB hx ha => ?_
    refine alloc_new fun b w2 hb hz2 hbb hx2 => ?_
    have hxd : Ext w2 w2.drew := Chg.drew (Chg.refl (fun _ => False) w2)
    have hB2 := hB.ext hx2
    have hBd := hB2.ext hxd
    have hbd := hxd.at hbb id
    have sd : w2.drew.heap.size = w2.heap.size := rfl
    simp only [wsv, wsg, wsh, wsl, cond_true, cond_false, exists_eq_left', Option.some.injEq, Option.isSome_some, List.getElem?_toArray, List.getElem?_cons_zero, List.getElem?_cons_succ, List.length_cons, List.length_nil, List.set_cons_zero, List.set_cons_succ, List.getD_cons_zero, List.getD_cons_succ, Nat.zero_add, Nat.add_zero, Nat.reduceAdd, Nat.reduceLT, Nat.lt_add_one, Nat.zero_lt_succ, decide_true, decide_false, ne_eq, reduceCtorEq, wsh, hB2.hb]
    obtain ⟨T1, k1⟩ := hBd.keys
    refine clone_s k1 (by omega) fun kv' w3 hx3 hk3 hg3 => ?_
    have hB3 := hBd.ext hx3
    have hb3 := hx3.at hbd id
    have s3 := hx3.size
    simp only [wsv, wsg, wsh, wsl, cond_true, cond_false, exists_eq_left', Option.some.injEq, Option.isSome_some, List.getElem?_toArray, List.getElem?_cons_zero, List.getElem?_cons_succ, List.length_cons, List.length_nil, List.set_cons_zero, List.set_cons_succ, List.getD_cons_zero, List.getD_cons_succ, Nat.zero_add, Nat.add_zero, Nat.reduceAdd, Nat.reduceLT, Nat.lt_add_one, Nat.zero_lt_succ, decide_true, decide_false, ne_eq, reduceCtorEq, wsh, hB3.hb]
    refine clones_p (fun x hx => ih x hx (f3 x hx)) hB3.itemsAt (by omega) fun sv' w4 hx4 hL hg4 => ?_
    obtain ⟨L, hL1, hL2⟩ := hL
    have hB4 := hB3.ext hx4
    have hb4 := hx4.at hb3 id
    have s1 := hx.size
    have hak := at_lt hB.hb
    have one1 : one1 sv' = true ∧ one1 kv' = true := by
      obtain ⟨p, c, rfl, _⟩ := hL1.shape
      obtain ⟨p', c', rfl, _⟩ := hk3.shape
      exact ⟨rfl, rfl⟩
    refine st_at hB4.hb one1.2 (by simp) fun w5 hz5 ha5 hc5 => ?_
    have ha5 : w5.heap[a]? = some (.cells [i64 v.k, .bool v.b, str v.t, sv, kv'].toArray VT (0, 0)) := by rw [ha5]; simp
    refine st_at ha5 one1.1 (by simp) fun w6 hz6 ha6 hc6 => ?_
    have ha6 : w6.heap[a]? = some (.cells [i64 v.k, .bool v.b, str v.t, sv', kv'].toArray VT (0, 0)) := by rw [ha6]; simp
    refine ld_all ha6 rfl ?_
    have hb6 := hc6.at (hc5.at hb4 (by omega)) (by omega)
    refine ret_agg hb6 rfl rfl (obj_one one1.1 one1.2) fun w7 hc7 => ?_
    have hx1 : Ext w w4 := hx.trans (hx2.trans (hxd.trans (hx3.trans hx4)))
    have hx5 : Ext w w7 := ((hx1.new hc5 (by omega)).new hc6 (by omega)).new hc7 (by omega)
    have hch : Chg (fun k => k = a ∨ k = b) w4 w7 := ((hc5.mono fun k _ e => .inl e).trans (hc6.mono fun k _ e => .inl e)).trans (hc7.mono fun k _ e => .inr e)
    refine hK _ w7 hx5 (VRepP.mk (T1 := VT) (T2 := ST) (L := L) ?_ ?_ ?_ hB.fits (fun _ k hk => ?_) (fun _ k hk => ?_))
    · exact slat_chgG hL1 (fun _ => hg4) hch fun k hk _ e => by have : w3.heap.size ≤ k := hk; omega
    · refine VRepsP.mono (fun k _ hk => ?_) (VRepsP.chg (G := From w3.heap.size) hch (fun k hk _ e => by have : w3.heap.size ≤ k := hk; omega) hL2)
      have : w3.heap.size ≤ k := hk
      show w.heap.size ≤ k
      omega
    · exact slat_chgG (hk3.ext hx4) (fun _ => hg3) hch fun k hk _ e => by have : w2.drew.heap.size ≤ k := hk; omega
    · have : w3.heap.size ≤ k := hg4 k hk
      show w.heap.size ≤ k
      omega
    · have : w2.drew.heap.size ≤ k := hg3 k hk
      show w.heap.size ≤ k
      omega
end
end Go.Proofs.YtdkikjcpgihjlaaGreatDoor
namespace Go.Eng
open Go
theorem set_cells {b : Nat} {T : TypeId} : ∀ (vs : List Value) (o : Nat) (w : World) (cs : List Value), w.heap[b]? = some (.cells cs.toArray T (0, 0)) → o + vs.length ≤ cs.length →
    (w.setCells b o vs).heap[b]? = some (.cells (cs.take o ++ vs ++ cs.drop (o + vs.length)).toArray T (0, 0)) ∧ Chg (fun k => k = b) w (w.setCells b o vs) ∧ (w.setCells b o vs).heap.size = w.heap.size
  | [], o, w, cs, h, _ => by
    refine ⟨?_, Chg.refl _ _, rfl⟩
    simp only [World.setCells, List.length_nil, Nat.add_zero, List.append_nil, List.take_append_drop]
    exact h
  | v :: r, o, w, cs, h, hl => by
    rw [List.length_cons] at hl
    have hb : (w.setCell ⟨b, o, none⟩ v).heap[b]? = some (.cells (cs.set o v).toArray T (0, 0)) := by
      rw [heap_set_same, h, setO_some]; simp
    obtain ⟨h1, h2, h3⟩ := set_cells r (o + 1) (w.setCell ⟨b, o, none⟩ v) (cs.set o v) hb (by rw [List.length_set]; omega)
    have hc : Chg (fun k => k = b) w (w.setCell ⟨b, o, none⟩ v) := Chg.set (S := fun k => k = b) (Chg.refl _ _) (.inl rfl) _
    simp only [World.setCells]
    refine ⟨?_, hc.trans h2, by rw [h3]; simp⟩
    rw [h1]
    have e : (cs.set o v).take (o + 1) ++ r ++ (cs.set o v).drop (o + 1 + r.length) = cs.take o ++ v :: r ++ cs.drop (o + (v :: r).length) := by
      rw [List.take_add_one, List.getElem?_set_self (by omega), List.take_set_of_le (by omega), List.drop_set_of_lt (by omega), List.length_cons]
      simp
      congr 1; omega
    rw [e]
theorem run_copy_any {P : Program} (w : World) (dT sT ty elem : TypeId) (b o dLen dCap : Nat) (a : Addr) (sLen sCap : Nat) (cs : List Value) {i : TypeInfo}
    (hu : P.underlying dT = some (.slice elem)) (hq : P.info? elem = some i) (hn : cs.length = Nat.min sLen dLen * i.size)
    (hsrc : ∀ j v, cs[j]? = some v → w.cell? (a.add j) = some v) (hc : ∀ j, j < cs.length → (w.cell? ⟨b, o + j, none⟩).isSome = true) (hf : ∀ j, j < cs.length → w.frozen? ⟨b, o + j, none⟩ = false) (h1 : ∀ v ∈ cs, v.oneCell' = true) :
    (Builtin.copy_ #[dT, sT] ty #[.slice (some ⟨b, o, none⟩) dLen dCap, .slice (some a) sLen sCap]).run P w = .ok (goInt (Nat.min sLen dLen)) (w.setCells b o cs) := by
  have hl := run_loadCells_list (P := P) w a cs hsrc
  have hst := run_storeCells_cells (P := P) b o cs 0 w (by simpa using hc) (by simpa using hf) h1
  simp [Builtin.copy_, run_underlying' hu, Builtin.lenOf, Builtin.firstCells, sizeOf, typeInfo, hq, ← hn, hl, hst, run_bind, run_pure]
theorem copy_q {P : Program} {dT sT ty e : TypeId} {size bytes : Nat} (hT : ElemT P dT e size bytes) {w : World} {b o dl dc sl sc : Nat} {a : Addr} {vs cs : List Value} {T : TypeId} {K : Value → World → Prop}
    (hb : w.heap[b]? = some (.cells cs.toArray T (0, 0))) (hn : vs.length = Nat.min sl dl * size) (hsrc : ∀ j v, vs[j]? = some v → w.cell? (a.add j) = some v) (hfit : o + vs.length ≤ cs.length) (h1 : ∀ v ∈ vs, one1 v = true)
    (hK : ∀ r w', w'.heap[b]? = some (.cells (cs.take o ++ vs ++ cs.drop (o + vs.length)).toArray T (0, 0)) → Chg (fun k => k = b) w w' → w'.heap.size = w.heap.size → K r w') :
    semE P (Builtin.copy_ #[dT, sT] ty #[.slice (some ⟨b, o, none⟩) dl dc, .slice (some a) sl sc]) w K := by
  obtain ⟨i, z, hi, _, hs, _, _⟩ := hT.get
  unfold semE
  rw [run_copy_any w dT sT ty e b o dl dc a sl sc vs hT.und hi (by rw [hs]; exact hn) hsrc (fun j hj => by
      rw [cell_eq, hb, cellO_some]
      simp
      omega) (fun j hj => by rw [frozen_eq, hb, frO_zero]) fun v hv => one1_oneCell' (h1 v hv)]
  obtain ⟨q1, q2, q3⟩ := set_cells vs o w cs hb hfit
  exact hK _ _ q1 q2 q3
section
variable [HX]
def InsW (P : Program) (s : Nat) (t it : TypeId) (ov rep : FuncId) (v0 v1 v2 : Value) (w : World) (K : Value → World → Prop) : Prop :=
  sllW s v0 (some v1) none none fun _ =>
  lenlW v2 fun t14 =>
  binW .eql t14 (.int .i64 0) fun t16 =>
  condW t16 (
    K v0 w) (
    lenlW v0 fun t19 =>
    binW .eql v1 t19 fun t22 =>
    condW t22 (
      semE P (Builtin.append_ #[t, t] t #[v0, v2]) w fun t25 w1 =>
      K t25 w1) (
      binW .add t19 t14 fun t28 =>
      capW v0 fun t30 =>
      binW .gtr t28 t30 fun t31 =>
      condW t31 (
        sllW s v0 none (some v1) none fun t34 =>
        binW .add t19 t14 fun t37 =>
        binW .sub t37 v1 fun t39 =>
        semE P (Builtin.append_ #[t, it] t #[t34, t39]) w fun t40 w2 =>
        sllW s t40 (some v1) none none fun t43 =>
        semE P (Builtin.copy_ #[t, t] it #[t43, v2]) w2 fun _ w3 =>
        binW .add v1 t14 fun t49 =>
        sllW s t40 (some t49) none none fun t50 =>
        sllW s v0 (some v1) none none fun t53 =>
        semE P (Builtin.copy_ #[t, t] it #[t50, t53]) w3.drew fun _ w4 =>
        K t40 w4) (
        binW .add t19 t14 fun t59 =>
        sllW s v0 none (some t59) none fun t60 =>
        binW .add v1 t14 fun t65 =>
        sllW s t60 (some t65) none none fun t66 =>
        callF P ov [v2, t66] w fun t67 w5 =>
        unW .not t67 fun t68 =>
        condW t68 (
          binW .add v1 t14 fun t72 =>
          sllW s t60 (some t72) none none fun t73 =>
          sllW s t60 (some v1) none none fun t76 =>
          semE P (Builtin.copy_ #[t, t] it #[t73, t76]) w5.drew fun _ w6 =>
          sllW s t60 (some v1) none none fun t80 =>
          semE P (Builtin.copy_ #[t, t] it #[t80, v2]) w6 fun _ w7 =>
          K t60 w7) (
          sllW s t60 (some t19) none none fun t86 =>
          semE P (Builtin.copy_ #[t, t] it #[t86, v2]) w5 fun _ w8 =>
          sllW s t60 (some v1) none none fun t91 =>
          callF P rep [t91, t14] w8 fun _ w9 =>
          K t60 w9))))
theorem sll_lo {s g o n cap i : Nat} {K : Value → Prop} (hi : i ≤ n) (hn : n ≤ cap) (hne : cap ≠ i) : sllW s (.slice (some ⟨g, o, none⟩) n cap) (some (i64 (i : Nat))) none none K ↔ K (.slice (some ⟨g, o + i * s, none⟩) (n - i) (cap - i)) := by
  rw [sll_sl, bd_none, bd_none, bd_some]
  simp only [Int.toNat_natCast, if_neg hne, Option.map_some, add_mk]
  constructor
  · rintro ⟨_, _, h⟩; exact h
  · intro h; exact ⟨by omega, by omega, h⟩
theorem sll_hi {s g n cap i : Nat} {K : Value → Prop} (hi : i ≤ cap) (h0 : 0 < cap) : sllW s (.slice (some ⟨g, 0, none⟩) n cap) none (some (i64 (i : Nat))) none K ↔ K (.slice (some ⟨g, 0, none⟩) i cap) := by
  rw [sll_sl, bd_none, bd_some, bd_none]
  simp only [Int.toNat_natCast, if_neg (show ¬ cap = 0 by omega), Option.map_some, add_mk, Nat.zero_mul, Nat.add_zero, Nat.sub_zero]
  constructor
  · rintro ⟨_, _, h⟩; exact h
  · intro h; exact ⟨by omega, by omega, h⟩
theorem insert_q {P : Program} {t it ov rep e T2 : TypeId} {size bytes : Nat} (hT : ElemT P t e size bytes) (hit : P.underlying it = some (.int .i64))
    (hov : ∀ {w : World} {a b oa ob la ca lb cb : Nat} {x y : List Value} {T1 T2 : TypeId} {K : Value → World → Prop}, a ≠ b → w.heap[a]? = some (.cells x.toArray T1 (0, 0)) → w.heap[b]? = some (.cells y.toArray T2 (0, 0)) → y ≠ [] → K (.bool false) w → callF P ov [.slice (some ⟨a, oa, none⟩) la ca, .slice (some ⟨b, ob, none⟩) lb cb] w K)
    {w : World} {base tb n i : Nat} {v : Value} {xs c : List Value} {K : Value → World → Prop} (hown : Own w base e size v n xs) (ht : w.heap[tb]? = some (.cells c.toArray T2 (0, 0))) (hc : c.length = size) (h1 : ∀ u ∈ c, one1 u = true) (hx1 : ∀ u ∈ xs, one1 u = true)
    (hne : v.ownBlock ≠ some tb) (hi : i ≤ n) (hn : n ≤ 1000000) (hby : bytes ≤ 1000) (hbase : base ≤ w.heap.size)
    (hK : ∀ v' w', Own w' base e size v' (n + 1) (xs.take (i * size) ++ c ++ xs.drop (i * size)) → Chg (fun k => v.ownBlock = some k) w w' → (∀ k, v'.ownBlock = some k → v.ownBlock = some k ∨ w.heap.size ≤ k) → K v' w') :
    InsW P size t it ov rep v (i64 (i : Nat)) (.slice (some ⟨tb, 0, none⟩) 1 1) w K := by
  have hpos := hT.pos
  have hmb : (n + 1) * bytes ≤ 140737488355328 := by
    have := Nat.mul_le_mul (show n + 1 ≤ 1000001 by omega) hby
    omega
  have hsl : SlAt w T2 (.slice (some ⟨tb, 0, none⟩) 1 1) 1 c := ⟨_, _, rfl, Nat.le_refl _, fun e => (by cases e), fun _ => ⟨tb, 0, _, _, rfl, ht, fun j _ => by rw [Nat.zero_add]; simp⟩⟩
  have hl := hown.1
  have hlen : lenlW v = fun K => K (i64 (n : Nat)) := by
    funext K
    exact propext (lenl_at hown.sl K)
  unfold InsW
  -- the check of the bounds
  have chk : ∀ (B : Value → Prop), (∀ x, B x) → sllW size v (some (i64 (i : Nat))) none none B := fun B hB => by
    obtain ⟨p, cap, rfl, hcap, _⟩ := hown.sl
    rw [sll_sl, bd_none, bd_none, bd_some]
    exact ⟨by omega, by omega, hB _⟩
  refine chk _ fun _ => ?_
  rw [lenl_sl, bin_eql, decide_eq_false (by decide), condW_false, hlen]
  dsimp only
  rw [bin_eql, condW_dec]
  refine ⟨fun e1 => ?_, fun e1 => ?_⟩
  · obtain rfl : i = n := by omega
    refine append_own3 hT hown hsl (by omega) h1 (by omega) hmb hbase fun v' w' hO hch hblk => ?_
    refine hK v' w' ?_ hch hblk
    have e1 : xs.take (i * size) = xs := List.take_of_length_le (by omega)
    have e2 : xs.drop (i * size) = [] := List.drop_eq_nil_iff.2 (by omega)
    rw [e1, e2, List.append_nil]
    exact hO
  have hlt : i < n := by omega
  have hsz : i * size < n * size := Nat.mul_lt_mul_of_pos_right hlt hpos
  obtain ⟨_, ⟨_, h0⟩ | ⟨g, cap, cur, rfl, hg, hgb, hnc, hcm, hcs, htake⟩⟩ := hown
  · omega
  have en1 : IntKind.i64.wrap ((n : Int) + ((1 : Nat) : Int)) = ((n + 1 : Nat) : Int) := by rw [wrap_id (by omega) (by omega)]; omega
  have ei1 : IntKind.i64.wrap ((i : Int) + ((1 : Nat) : Int)) = ((i + 1 : Nat) : Int) := by rw [wrap_id (by omega) (by omega)]; omega
  have hgne : tb ≠ g := fun e => hne (by rw [e]; rfl)
  have hgb' : w.heap[g]? = some (.cells cur.toList.toArray e (0, 0)) := by rw [Array.toArray_toList]; exact hgb
  have hcl : cur.toList.length = cap * size := by rw [Array.length_toList]; exact hcs
  generalize cur.toList = L at *
  have hncap : n * size ≤ cap * size := Nat.mul_le_mul_right _ hnc
  have hisz : i * size + size ≤ n * size := by rw [← Nat.succ_mul]; exact Nat.mul_le_mul_right _ hlt
  -- the elements from the place on
  have hrest : (xs.drop (i * size)).length = (n - i) * size := by rw [List.length_drop, hl, Nat.sub_mul]
  have hsrc0 : ∀ j u, (xs.drop (i * size))[j]? = some u → L[i * size + j]? = some u := fun j u hj => by
    rw [List.getElem?_drop, ← htake, List.getElem?_take] at hj
    split at hj
    · exact hj
    · cases hj
  have hone : ∀ u ∈ xs.drop (i * size), one1 u = true := fun u hu => hx1 u (List.mem_of_mem_drop hu)
  rw [bin_add, en1]
  have hcap : ∀ K : Value → Prop, capW (.slice (some ⟨g, 0, none⟩) n cap) K ↔ K (i64 (cap : Nat)) := fun K => Iff.rfl
  rw [hcap, bin_gtr, condW_dec]
  refine ⟨fun hfull => ?_, fun hroom => ?_⟩
  · obtain rfl : cap = n := by omega
    rw [sll_hi (by omega) (by omega), bin_add, en1, bin_sub, wrap_id (by omega) (by omega)]
    have ek : ((cap + 1 : Nat) : Int) - (i : Int) = ((cap + 1 - i : Nat) : Int) := by omega
    rw [ek]
    obtain ⟨inf, z, hinf, hz, h2, h3, h4⟩ := hT.get
    have hold : (Builtin.firstCells inf.size i (.slice (some ⟨g, 0, none⟩) i cap)).run P w.drew = .ok (xs.take (i * size)).toArray w.drew := by
      rw [h2]
      have hlt2 : (xs.take (i * size)).length = i * size := by rw [List.length_take]; omega
      have := run_loadCells_list (P := P) w.drew ⟨g, 0, none⟩ (xs.take (i * size)) fun j u hj => by
        rw [add_mk, cell_eq, heap_drew, hgb', cellO_some]
        rw [List.getElem?_take] at hj
        split at hj
        · rw [← htake, List.getElem?_take] at hj
          split at hj
          · rw [Nat.zero_add]; simpa using hj
          · cases hj
        · cases hj
      rw [hlt2] at this
      simpa [Builtin.firstCells] using this
    have hr := Lib.run_append_grow_zeros (P := P) w t it t e inf z .i64 .i64 hT.und hit hinf hz (some ⟨g, 0, none⟩) i cap (xs.take (i * size)) hold (cap + 1 - i) (by omega) (by omega) (by omega) (by omega) (by rw [h3]; have := Nat.mul_le_mul (show cap + 1 - i ≤ 1000001 by omega) hby; omega) (growslice_fits (by omega) (by rw [h3, show i + (cap + 1 - i) = cap + 1 by omega]; exact hmb))
    have ei : i + (cap + 1 - i) = cap + 1 := by omega
    rw [ei] at hr
    unfold semE
    rw [hr]
    dsimp only
    have hgc : cap + 1 ≤ grownCap w (cap + 1) cap e := grownCap_ge w (cap + 1) cap e
    have hgm : grownCap w (cap + 1) cap e ≤ maxLen := grownCap_le_maxLen _ _ _ _ (by simp [maxLen]; omega)
    generalize hN : grownCap w (cap + 1) cap e = N at *
    -- the new block
    have hzl : ∀ k, (Builtin.zeroCells z.cells k).toList.length = k * size := fun k => by rw [Array.length_toList, size_zeroCells, h4]
    obtain ⟨Z, hZ, hZl⟩ : ∃ Z : List Value, (xs.take (i * size)).toArray ++ Builtin.zeroCells z.cells (cap + 1 - i) ++ Builtin.zeroCells z.cells (N - (cap + 1)) = (xs.take (i * size) ++ Z).toArray ∧ Z.length = (N - i) * size := by
      refine ⟨(Builtin.zeroCells z.cells (cap + 1 - i)).toList ++ (Builtin.zeroCells z.cells (N - (cap + 1))).toList, ?_, ?_⟩
      · apply Array.ext'
        simp
      · rw [List.length_append, hzl, hzl, ← Nat.add_mul]
        congr 1; omega
    rw [hZ]
    have hNi : (N - i) * size = size + (cap - i) * size + (N - (cap + 1)) * size := by
      rw [show N - i = 1 + (cap - i) + (N - (cap + 1)) by omega, Nat.add_mul, Nat.add_mul, Nat.one_mul]
    have hx0 : Ext w (w.drew.alloc (.cells (xs.take (i * size) ++ Z).toArray e)) := Chg.alloc (Chg.drew (Chg.refl _ _)) _
    have hb0 : (w.drew.alloc (.cells (xs.take (i * size) ++ Z).toArray e)).heap[w.heap.size]? = some (.cells (xs.take (i * size) ++ Z).toArray e (0, 0)) := heap_anew _ _ _ rfl
    have hz0 : (w.drew.alloc (.cells (xs.take (i * size) ++ Z).toArray e)).heap.size = w.heap.size + 1 := by simp
    generalize (w.drew.alloc (.cells (xs.take (i * size) ++ Z).toArray e)) = w2 at *
    have hlt1 : (xs.take (i * size)).length = i * size := by rw [List.length_take]; omega
    rw [sll_lo (by omega) hgc (by omega)]
    have htlt := at_lt ht
    have hglt := at_lt hgb'
    refine copy_q hT (vs := c) hb0 (by rw [hc, show Nat.min 1 (cap + 1 - i) = 1 by simp only [Nat.min_def]; split <;> omega, Nat.one_mul]) (fun j u hj => ?_) (by rw [List.length_append, hlt1, hZl, hc]; omega) h1 fun _ w3 hb3 hc3 hz3 => ?_
    · rw [add_mk, cell_eq, hx0.at ht id, cellO_some, Nat.zero_add]
      simpa using hj
    rw [bin_add, ei1, sll_lo (by omega) hgc (by omega), sll_lo (by omega) (Nat.le_refl _) (by omega)]
    have hb3' : w3.drew.heap[w.heap.size]? = some (.cells (xs.take (i * size) ++ c ++ Z.drop size).toArray e (0, 0)) := by
      have ez : List.take (0 + i * size) (List.take (i * size) xs ++ Z) ++ c ++ List.drop (0 + i * size + c.length) (List.take (i * size) xs ++ Z) = xs.take (i * size) ++ c ++ Z.drop size := by
        rw [Nat.zero_add, List.take_left' hlt1, ← List.drop_drop, List.drop_left' hlt1, hc]
      rw [heap_drew, hb3, ez]
    have hg3 : w3.drew.heap[g]? = some (.cells L.toArray e (0, 0)) := by
      rw [heap_drew]
      exact hc3.at (hx0.at hgb' id) (by omega)
    have hfl : (xs.take (i * size) ++ c ++ Z.drop size).length = N * size := by
      rw [List.length_append, List.length_append, hlt1, hc, List.length_drop, hZl, hNi, show N * size = (i + (N - i)) * size by congr 1; omega, Nat.add_mul, hNi]
      omega
    have hpre : (xs.take (i * size) ++ c).length = (i + 1) * size := by rw [List.length_append, hlt1, hc, Nat.add_mul, Nat.one_mul]
    have hNn : (cap + 1) * size ≤ N * size := Nat.mul_le_mul_right _ hgc
    have hsum : (i + 1) * size + (cap - i) * size = (cap + 1) * size := by rw [← Nat.add_mul]; congr 1; omega
    refine copy_q hT (vs := xs.drop (i * size)) hb3' (by rw [hrest, show Nat.min (cap - i) (cap + 1 - (i + 1)) = cap - i by simp only [Nat.min_def]; split <;> omega]) (fun j u hj => ?_) (by rw [hfl, hrest, Nat.zero_add]; omega) hone fun _ w4 hb4 hc4 hz4 => ?_
    · rw [add_mk, cell_eq, hg3, cellO_some, Nat.zero_add]
      simpa using hsrc0 j u hj
    have hx4 : Ext w w4 := (((hx0.new hc3 (Nat.le_refl _)).then (Chg.drew (Chg.refl (fun _ => False) w3)) fun _ _ e => e.elim)).new hc4 (Nat.le_refl _)
    refine hK _ w4 ⟨?_, .inr ⟨w.heap.size, N, _, rfl, hbase, hb4, hgc, hgm, ?_, ?_⟩⟩ (Chg.of_ext hx4) fun k hk => .inr ?_
    · rw [List.length_append, hpre, hrest, hsum]
    · rw [List.size_toArray, hrest, List.length_append, List.length_append, hrest, List.length_take, List.length_drop, hfl, Nat.zero_add]
      omega
    · rw [List.toList_toArray]
      rw [Nat.zero_add, List.take_left' hpre]
      refine List.take_left' ?_
      rw [List.length_append, hpre, hrest, hsum]
    · simp only [Value.ownBlock, Option.some.injEq] at hk
      omega
  · have hroom : n + 1 ≤ cap := by omega
    rw [bin_add, en1, sll_hi hroom (by omega), bin_add, ei1, sll_lo (by omega) hroom (by omega)]
    have hLne : L ≠ [] := fun e => by rw [e] at hcl; simp at hcl; have := Nat.mul_lt_mul_of_pos_right (show 0 < cap by omega) hpos; omega
    refine hov hgne ht hgb' hLne ?_
    rw [un_not, Bool.not_false, condW_true, bin_add, ei1, sll_lo (by omega) hroom (by omega), sll_lo (by omega) hroom (by omega)]
    have hncap1 : (n + 1) * size ≤ cap * size := Nat.mul_le_mul_right _ hroom
    have hsum : (i + 1) * size + (n - i) * size = (n + 1) * size := by rw [← Nat.add_mul]; congr 1; omega
    have hpre : (i + 1) * size = i * size + size := by rw [Nat.add_mul, Nat.one_mul]
    have hgd : w.drew.heap[g]? = some (.cells L.toArray e (0, 0)) := by rw [heap_drew]; exact hgb'
    refine copy_q hT (vs := xs.drop (i * size)) hgd (by rw [hrest, show Nat.min (n + 1 - i) (n + 1 - (i + 1)) = n - i by simp only [Nat.min_def]; split <;> omega]) (fun j u hj => ?_) (by rw [hcl, hrest, Nat.zero_add]; omega) hone fun _ w3 hb3 hc3 hz3 => ?_
    · rw [add_mk, cell_eq, hgd, cellO_some, Nat.zero_add]
      simpa using hsrc0 j u hj
    rw [sll_lo (by omega) hroom (by omega)]
    have htd : w.drew.heap[tb]? = some (.cells c.toArray T2 (0, 0)) := by rw [heap_drew]; exact ht
    have ht3 := hc3.at htd hgne
    have hlt1 : (L.take (i * size)).length = i * size := by rw [List.length_take, hcl]; omega
    have hlt2 : (L.take (0 + (i + 1) * size)).length = (i + 1) * size := by rw [List.length_take, hcl, Nat.zero_add]; omega
    have hfl : (L.take (0 + (i + 1) * size) ++ xs.drop (i * size) ++ L.drop (0 + (i + 1) * size + (xs.drop (i * size)).length)).length = cap * size := by
      rw [hrest, List.length_append, List.length_append, hlt2, hrest, List.length_drop, hcl, Nat.zero_add]
      omega
    refine copy_q hT (vs := c) hb3 (by rw [hc, show Nat.min 1 (n + 1 - i) = 1 by simp only [Nat.min_def]; split <;> omega, Nat.one_mul]) (fun j u hj => ?_) (by rw [hfl, hc]; omega) h1 fun _ w4 hb4 hc4 hz4 => ?_
    · rw [add_mk, cell_eq, ht3, cellO_some, Nat.zero_add]
      simpa using hj
    have hch : Chg (fun k => (Value.slice (some ⟨g, 0, none⟩) n cap).ownBlock = some k) w w4 := (((Chg.drew (Chg.refl (fun k => k = g) w)).trans hc3).trans hc4).mono fun k _ e => by rw [e]; rfl
    have hfin : (L.take (0 + (i + 1) * size) ++ xs.drop (i * size) ++ L.drop (0 + (i + 1) * size + (xs.drop (i * size)).length)).take (0 + i * size) ++ c ++ (L.take (0 + (i + 1) * size) ++ xs.drop (i * size) ++ L.drop (0 + (i + 1) * size + (xs.drop (i * size)).length)).drop (0 + i * size + c.length) = xs.take (i * size) ++ c ++ xs.drop (i * size) ++ L.drop ((i + 1) * size + (xs.drop (i * size)).length) := by
      rw [Nat.zero_add, Nat.zero_add, hc, ← hpre, List.append_assoc (L.take ((i + 1) * size)), List.take_append_of_le_length (by rw [List.length_take, hcl]; omega), List.take_take, Nat.min_eq_left (by omega)]
      have e1 : L.take (i * size) = xs.take (i * size) := by rw [← htake, List.take_take, Nat.min_eq_left (by omega)]
      have e2 : (L.take ((i + 1) * size) ++ (xs.drop (i * size) ++ L.drop ((i + 1) * size + (xs.drop (i * size)).length))).drop ((i + 1) * size) = xs.drop (i * size) ++ L.drop ((i + 1) * size + (xs.drop (i * size)).length) := List.drop_left' (by rw [List.length_take, hcl]; omega)
      rw [e1, e2]
      simp
    rw [hfin] at hb4
    have hxl : (xs.take (i * size)).length = i * size := by rw [List.length_take]; omega
    refine hK _ w4 ⟨?_, .inr ⟨g, cap, _, rfl, hg, hb4, hroom, hcm, ?_, ?_⟩⟩ hch fun k hk => .inl hk
    · rw [List.length_append, List.length_append, hxl, hc, hrest]; omega
    · rw [List.size_toArray, hrest, List.length_append, List.length_append, List.length_append, hxl, hc, hrest, List.length_drop, hcl]; omega
    · rw [List.toList_toArray]
      refine List.take_left' ?_
      rw [List.length_append, List.length_append, hxl, hc, hrest]; omega
end
end Go.Eng





namespace Go.Proofs.YtdkikjcpgihjlaaGreatDoor
open Go Go.Eng Go.Num
set_option maxRecDepth 100000
section
variable [HX]
theorem OwnV.rep {w0 w : World} {base : Nat} {v : JV} {sv kv : Value} (h : OwnV w0 w base v sv kv) (hx : Ext w0 w) : VRep w v [i64 v.k, .bool v.b, str v.t, sv, kv] := by
  obtain ⟨sv', kv', T1, T2, L, he, h1, h2, h3, h4⟩ := h.val
  simp only [List.cons.injEq, and_true, true_and] at he
  obtain ⟨rfl, rfl⟩ := he
  exact VRep.mk h1 (h2.ext hx) h3 h4
end
end Go.Proofs.YtdkikjcpgihjlaaGreatDoor
namespace Go.Proofs.YtdkikjcpgihjlaaGreatDoor
open Go Go.Eng
set_option maxRecDepth 100000
variable [HX]
def plan6 : Plan := { js := [(60003, ⟨[176], [], 168⟩), (60006, ⟨[175], [], 173⟩), (60011, ⟨[172], [], 168⟩), (57, ⟨[8, 16], [], 5⟩), (47, ⟨[14, 15], [14, 15], 105⟩), (36, ⟨[104], [6, 13, 14, 15], 104⟩), (26005, ⟨[99], [], 96⟩), (26014, ⟨[93], [], 87⟩), (26023, ⟨[84], [], 78⟩), (26027, ⟨[75], [], 74⟩), (26031, ⟨[71], [], 70⟩), (12004, ⟨[45], [], 43⟩), (12009, ⟨[40], [], 38⟩), (12014, ⟨[35], [], 33⟩), (12019, ⟨[30], [], 28⟩), (12024, ⟨[25], [], 23⟩)], ds := [(58, ⟨[0, 1, 3, 6, 7, 8, 11], [[], [], [1], [], [0, 1, 2, 3], [0, 1, 2, 3, 4], [0, 1, 2, 3, 4, 5], [0, 1, 2, 3, 4, 5, 6], [0, 1, 2, 3, 4, 5, 6], [], [0, 1, 2, 3, 4, 5, 6, 7, 9], [0, 1, 2, 3, 4, 5, 6, 7, 8, 9, 10]]⟩), (50, ⟨[0, 1, 2, 3, 4, 5, 6, 7, 8, 9, 10, 11, 12, 13, 14, 15, 16, 17, 18, 19, 20, 21, 22, 24, 25, 26, 27, 28, 29, 30, 31, 32, 34, 35], [[], [0], [0, 1], [0, 1, 2], [0, 1, 2, 3], [0, 1, 2], [0, 1, 2, 3, 4, 5], [0, 1, 2, 3, 4, 5, 6], [0, 1, 2, 3, 4, 5, 6, 7], [0, 1, 2], [0, 1, 2, 9], [0, 1, 2], [0, 1, 2, 9, 10, 11], [0, 1, 2, 9, 10, 11, 12], [0, 1, 2, 3, 4, 5, 6, 7, 8, 9, 10, 11, 12, 13], [0, 1, 2, 3, 4, 5, 6, 7, 8, 9, 10, 11, 12, 13, 14], [0, 1, 2, 3, 4, 5, 6, 7, 8, 9, 10, 11, 12, 13, 14, 15], [0, 1, 2, 3, 4, 5, 6, 7, 8, 9, 10, 11, 12, 13, 14, 15, 16], [0, 1, 2, 3, 4, 5, 6, 7, 8, 9, 10, 11, 12, 13, 14, 15, 16], [0, 1, 2, 3, 4, 5, 6, 7, 8, 9, 10, 11, 12, 13, 14, 15, 16, 18], [0, 1, 2, 3, 4, 5, 6, 7, 8, 9, 10, 11, 12, 13, 14, 15, 16], [0, 1, 2, 3, 4, 5, 6, 7, 8, 9, 10, 11, 12, 13, 14, 15, 16, 18, 19, 20], [0, 1, 2, 3, 4, 5, 6, 7, 8, 9, 10, 11, 12, 13, 14, 15, 16, 18, 19, 20, 21], [0, 1, 2, 3, 4, 5, 6, 7, 8, 9, 10, 11, 12, 13, 14, 15, 16, 17, 18, 19, 20, 21, 22], [0, 1, 2, 3, 4, 5, 6, 7, 8, 9, 10, 11, 12, 13, 14, 15, 16, 17, 18, 19, 20, 21, 22, 23], [0, 1, 2, 3, 4, 5, 6, 7, 8, 9, 10, 11, 12, 13, 14, 15, 16, 17, 18, 19, 20, 21, 22, 23, 24], [0, 1, 2, 3, 4, 5, 6, 7, 8, 9, 10, 11, 12, 13, 14, 15, 16, 17, 18, 19, 20, 21, 22, 23, 24, 25], [0, 1, 2, 3, 4, 5, 6, 7, 8, 9, 10, 11, 12, 13, 14, 15, 16, 17, 18, 19, 20, 21, 22, 23, 24, 25, 26], [0, 1, 2, 3, 4, 5, 6, 7, 8, 9, 10, 11, 12, 13, 14, 15, 16, 17, 18, 19, 20, 21, 22, 23, 24, 25, 26], [0, 1, 2, 3, 4, 5, 6, 7, 8, 9, 10, 11, 12, 13, 14, 15, 16, 17, 18, 19, 20, 21, 22, 23, 24, 25, 26, 28], [0, 1, 2, 3, 4, 5, 6, 7, 8, 9, 10, 11, 12, 13, 14, 15, 16, 17, 18, 19, 20, 21, 22, 23, 24, 25, 26], [0, 1, 2, 3, 4, 5, 6, 7, 8, 9, 10, 11, 12, 13, 14, 15, 16, 17, 18, 19, 20, 21, 22, 23, 24, 25, 26, 28, 29, 30], [0, 1, 2, 3, 4, 5, 6, 7, 8, 9, 10, 11, 12, 13, 14, 15, 16, 17, 18, 19, 20, 21, 22, 23, 24, 25, 26, 28, 29, 30, 31], [0, 1, 2, 3, 4, 5, 6, 7, 8, 9, 10, 11, 12, 13, 14, 15, 16, 17, 18, 19, 20, 21, 22, 23, 24, 25, 26, 27, 28, 29, 30, 31, 32], [0, 1, 2, 3, 4, 5, 6, 7, 8, 9, 10, 11, 12, 13, 14, 15, 16, 17, 18, 19, 20, 21, 22, 23, 24, 25, 26, 27, 28, 29, 30, 31, 32, 33], [0, 1, 2, 3, 4, 5, 6, 7, 8, 9, 10, 11, 12, 13, 14, 15, 16, 17, 18, 19, 20, 21, 22, 23, 24, 25, 26, 27, 28, 29, 30, 31, 32, 33, 34]]⟩), (48, ⟨[0, 1, 2, 3, 4, 5, 6, 9, 10, 11, 14], [[], [], [1], [], [1, 2, 3], [1, 2, 3, 4], [], [0, 1, 2, 3, 4, 5, 6], [0, 1, 2, 3, 4, 5, 6, 7], [0, 1, 2, 3, 4, 5, 6, 7, 8], [0, 1, 2, 3, 4, 5, 6, 7, 8, 9], [0, 1, 2, 3, 4, 5, 6, 7, 8, 9], [], [0, 1, 2, 3, 4, 5, 6, 7, 8, 9, 10, 12], [0, 1, 2, 3, 4, 5, 6, 7, 8, 9, 10, 11, 12, 13]]⟩)] }
def W6 (v0 v1 v2 : Value) (w : World) (K : Value → World → Prop) : Prop :=
  boxW 28 v0 w fun t3 w1 =>
  boxW 28 v1 w1 fun t4 w2 =>
  callF Tryz.prog 9 [] w2 fun t17 w3 =>
  unW .not t17 fun t18 =>
  condW t18 (
    K (.bool false) w3) (
    fldW 0 t3 fun t19 =>
    ldW false 1 t19 w3 fun t20 =>
    binW .neq t20 (.int .i64 6) fun t21 =>
    GdW (isB t21 false) [undef] w3 (fun J4 =>
      ldW true 5 t3 w3 fun t23 =>
      callF Tryz.prog 20 [t23] w3 fun t24 w5 =>
      unW .not t24 fun t25 =>
      J4 [t25] w5)
    fun s4 _ w6 =>
    pickW t21 (.bool true) (s4.getD 0 undef) fun t26 =>
    GdW (isB t26 false) [undef] w6 (fun J7 =>
      ldW true 5 t4 w6 fun t28 =>
      callF Tryz.prog 20 [t28] w6 fun t29 w8 =>
      unW .not t29 fun t30 =>
      J7 [t30] w8)
    fun s7 _ w9 =>
    pickW t26 (.bool true) (s7.getD 0 undef) fun t31 =>
    GdW (isB t31 false) [undef] w9 (fun J10 =>
      ldW true 5 t3 w9 fun t33 =>
      callF Tryz.prog 14 [t33] w9 fun t34 w11 =>
      unW .not t34 fun t35 =>
      J10 [t35] w11)
    fun s10 _ w12 =>
    pickW t31 (.bool true) (s10.getD 0 undef) fun t36 =>
    GdW (isB t36 false) [undef] w12 (fun J13 =>
      ldW true 5 t4 w12 fun t38 =>
      callF Tryz.prog 14 [t38] w12 fun t39 w14 =>
      unW .not t39 fun t40 =>
      J13 [t40] w14)
    fun s13 _ w15 =>
    pickW t36 (.bool true) (s13.getD 0 undef) fun t41 =>
    GdW (isB t41 false) [undef] w15 (fun J16 =>
      lensW v2 fun t44 =>
      binW .gtr t44 (.int .i64 100) fun t45 =>
      J16 [t45] w15)
    fun s16 _ w17 =>
    pickW t41 (.bool true) (s16.getD 0 undef) fun t46 =>
    condW t46 (
      K (.bool true) w17) (
      ldW true 5 t3 w17 fun t48 =>
      bslW 28 1 [(.int .i64 0), (.bool false), (.string (ofL [])), (.slice none 0 0), (.slice none 0 0)] [(0, 5, t48)] w17 fun t49 w18 =>
      callF Tryz.prog 11 [(.string (ofL [107, 101, 121, 115])), t49] w18 fun t50 w19 =>
      extW 0 t50 fun t51 =>
      extW 1 t50 fun t52 =>
      allocW 28 [(.int .i64 0), (.bool false), (.string (ofL [])), (.slice none 0 0), (.slice none 0 0)] w19 fun t7 w20 =>
      stW 5 t7 t51 w20 fun w21 =>
      ldW true 5 t3 w21 fun t54 =>
      bslW 28 1 [(.int .i64 0), (.bool false), (.string (ofL [])), (.slice none 0 0), (.slice none 0 0)] [(0, 5, t54)] w21 fun t55 w22 =>
      callF Tryz.prog 11 [(.string (ofL [118, 97, 108, 117, 101, 115])), t55] w22 fun t56 w23 =>
      extW 0 t56 fun t57 =>
      extW 1 t56 fun t58 =>
      allocW 28 [(.int .i64 0), (.bool false), (.string (ofL [])), (.slice none 0 0), (.slice none 0 0)] w23 fun t9 w24 =>
      stW 5 t9 t57 w24 fun w25 =>
      ldW true 5 t3 w25 fun t60 =>
      ldW true 5 t3 w25 fun t61 =>
      putW [(.int .i64 0), (.bool false), (.string (ofL [])), (.slice none 0 0), (.slice none 0 0)] [(0, 1, (.int .i64 6))] fun c26 =>
      bslW 28 3 [(.int .i64 0), (.bool false), (.string (ofL [])), (.slice none 0 0), (.slice none 0 0), (.int .i64 0), (.bool false), (.string (ofL [])), (.slice none 0 0), (.slice none 0 0), (.int .i64 0), (.bool false), (.string (ofL [])), (.slice none 0 0), (.slice none 0 0)] [(0, 5, t60), (5, 5, t61), (10, 5, (.agg c26.toArray))] w25 fun t63 w27 =>
      callF Tryz.prog 11 [(.string (ofL [109, 101, 114, 103, 101])), t63] w27 fun t64 w28 =>
      extW 0 t64 fun t65 =>
      extW 1 t64 fun t66 =>
      allocW 28 [(.int .i64 0), (.bool false), (.string (ofL [])), (.slice none 0 0), (.slice none 0 0)] w28 fun t11 w29 =>
      stW 5 t11 t65 w29 fun w30 =>
      binW .neq t52 (.int .i64 0) fun t68 =>
      GdW (isB t68 false) [undef] w30 (fun J31 =>
        binW .neq t58 (.int .i64 0) fun t71 =>
        J31 [t71] w30)
      fun s31 _ w32 =>
      pickW t68 (.bool true) (s31.getD 0 undef) fun t72 =>
      GdW (isB t72 false) [undef] w32 (fun J33 =>
        binW .neq t66 (.int .i64 0) fun t75 =>
        J33 [t75] w32)
      fun s33 _ w34 =>
      pickW t72 (.bool true) (s33.getD 0 undef) fun t76 =>
      GdW (isB t76 false) [undef] w34 (fun J35 =>
        fldW 3 t7 fun t78 =>
        ldW false 1 t78 w34 fun t79 =>
        lenlW t79 fun t80 =>
        fldW 4 t3 fun t81 =>
        ldW false 1 t81 w34 fun t82 =>
        lenlW t82 fun t83 =>
        binW .neq t80 t83 fun t84 =>
        J35 [t84] w34)
      fun s35 _ w36 =>
      pickW t76 (.bool true) (s35.getD 0 undef) fun t85 =>
      GdW (isB t85 false) [undef] w36 (fun J37 =>
        fldW 3 t9 fun t87 =>
        ldW false 1 t87 w36 fun t88 =>
        lenlW t88 fun t89 =>
        fldW 4 t3 fun t90 =>
        ldW false 1 t90 w36 fun t91 =>
        lenlW t91 fun t92 =>
        binW .neq t89 t92 fun t93 =>
        J37 [t93] w36)
      fun s37 _ w38 =>
      pickW t85 (.bool true) (s37.getD 0 undef) fun t94 =>
      GdW (isB t94 false) [undef] w38 (fun J39 =>
        ldW true 5 t11 w38 fun t96 =>
        ldW true 5 t3 w38 fun t97 =>
        callF Tryz.prog 13 [t96, t97] w38 fun t98 w40 =>
        unW .not t98 fun t99 =>
        J39 [t99] w40)
      fun s39 _ w41 =>
      pickW t94 (.bool true) (s39.getD 0 undef) fun t100 =>
      condW t100 (
        K (.bool false) w41) (
        fldW 4 t3 fun t101 =>
        ldW false 1 t101 w41 fun t102 =>
        lenlW t102 fun t103 =>
        LoopW [(.int .i64 0)] w41 fun s42 _ w43 L42 =>
          binW .lss (s42.getD 0 undef) t103 fun t105 =>
          condW t105 (
            JoinW (fun J44 =>
              ldW true 5 t3 w43.drew fun t108 =>
              fldW 3 t7 fun t109 =>
              ldW false 1 t109 w43.drew fun t110 =>
              ixaW none 5 t110 (s42.getD 0 undef) fun t112 =>
              ldW true 5 t112 w43.drew fun t113 =>
              ldW true 5 t4 w43.drew fun t114 =>
              (
               bslW 28 3 [(.int .i64 0), (.bool false), (.string (ofL [])), (.slice none 0 0), (.slice none 0 0), (.int .i64 0), (.bool false), (.string (ofL [])), (.slice none 0 0), (.slice none 0 0), (.int .i64 0), (.bool false), (.string (ofL [])), (.slice none 0 0), (.slice none 0 0)] [(0, 5, t108), (5, 5, t113), (10, 5, t114)] w43.drew fun t115 w45 =>
               (
                callF Tryz.prog 11 [(.string (ofL [108, 111, 111, 107, 117, 112])), t115] w45 fun t116 w46 =>
                extW 0 t116 fun t117 =>
                extW 1 t116 fun t118 =>
                allocW 28 [(.int .i64 0), (.bool false), (.string (ofL [])), (.slice none 0 0), (.slice none 0 0)] w46 fun t14 w47 =>
                stW 5 t14 t117 w47 fun w48 =>
              J44 [t14, t118] w48) ∧
               (
                allocW 28 [(.int .i64 0), (.bool false), (.string (ofL [])), (.slice none 0 0), (.slice none 0 0)] w45 fun t14 w49 =>
                callF Tryz.prog 11 [(.string (ofL [108, 111, 111, 107, 117, 112])), t115] w49 fun t116 w50 =>
                extW 0 t116 fun t117 =>
                extW 1 t116 fun t118 =>
                stW 5 t14 t117 w50 fun w51 =>
              J44 [t14, t118] w51)) ∧
              (
               allocW 28 [(.int .i64 0), (.bool false), (.string (ofL [])), (.slice none 0 0), (.slice none 0 0)] w43.drew fun t14 w52 =>
               (ldW true 5 t4 w52 fun x => x = t114) ∧
               (ldW true 5 t112 w52 fun x => x = t113) ∧
               (ldW false 1 t109 w52 fun x => x = t110) ∧
               (ldW true 5 t3 w52 fun x => x = t108) ∧
               bslW 28 3 [(.int .i64 0), (.bool false), (.string (ofL [])), (.slice none 0 0), (.slice none 0 0), (.int .i64 0), (.bool false), (.string (ofL [])), (.slice none 0 0), (.slice none 0 0), (.int .i64 0), (.bool false), (.string (ofL [])), (.slice none 0 0), (.slice none 0 0)] [(0, 5, t108), (5, 5, t113), (10, 5, t114)] w52 fun t115 w53 =>
               callF Tryz.prog 11 [(.string (ofL [108, 111, 111, 107, 117, 112])), t115] w53 fun t116 w54 =>
               extW 0 t116 fun t117 =>
               extW 1 t116 fun t118 =>
               stW 5 t14 t117 w54 fun w55 =>
              J44 [t14, t118] w55))
            fun s44 _ w56 =>
            binW .neq (s44.getD 1 undef) (.int .i64 0) fun t120 =>
            GqW (isB t120 false) (fun k57 => fldW 3 t7 k57) fun t122 =>
            GqW (isB t120 false) (fun k58 => ldW false 1 t122 w56.drew k58) fun t123 =>
            GqW (isB t120 false) (fun k59 => k59 (s42.getD 0 undef)) fun t124 =>
            GqW (isB t120 false) (fun k60 => ixaW none 5 t123 t124 k60) fun t125 =>
            GqW (isB t120 false) (fun k61 => fldW 2 t125 k61) fun t126 =>
            GqW (isB t120 false) (fun k62 => ldW false 1 t126 w56.drew k62) fun t127 =>
            GqW (isB t120 false) (fun k63 => fldW 4 t3 k63) fun t128 =>
            GqW (isB t120 false) (fun k64 => ldW false 1 t128 w56.drew k64) fun t129 =>
            GqW (isB t120 false) (fun k65 => k65 (s42.getD 0 undef)) fun t130 =>
            GqW (isB t120 false) (fun k66 => ixaW none 1 t129 t130 k66) fun t131 =>
            GqW (isB t120 false) (fun k67 => ldW false 1 t131 w56.drew k67) fun t132 =>
            GqW (isB t120 false) (fun k68 => binW .neq t127 t132 k68) fun t133 =>
            pickW t120 (.bool true) t133 fun t134 =>
            GqW (isB t134 false) (fun k69 => ldW true 5 (s44.getD 0 undef) w56.drew k69) fun t136 =>
            GqW (isB t134 false) (fun k70 => fldW 3 t9 k70) fun t137 =>
            GqW (isB t134 false) (fun k71 => ldW false 1 t137 w56.drew k71) fun t138 =>
            GqW (isB t134 false) (fun k72 => k72 (s42.getD 0 undef)) fun t139 =>
            GqW (isB t134 false) (fun k73 => ixaW none 5 t138 t139 k73) fun t140 =>
            GqW (isB t134 false) (fun k74 => ldW true 5 t140 w56.drew k74) fun t141 =>
            GeW (isB t134 false) w56.drew (fun k75 => callF Tryz.prog 13 [t136, t141] w56.drew k75) fun t142 w76 =>
            GqW (isB t134 false) (fun k77 => unW .not t142 k77) fun t143 =>
            pickW t134 (.bool true) t143 fun t144 =>
            GqW (isB t144 false) (fun k78 => ldW true 5 (s44.getD 0 undef) w76 k78) fun t146 =>
            GqW (isB t144 false) (fun k79 => fldW 3 t3 k79) fun t147 =>
            GqW (isB t144 false) (fun k80 => ldW false 1 t147 w76 k80) fun t148 =>
            GqW (isB t144 false) (fun k81 => k81 (s42.getD 0 undef)) fun t149 =>
            GqW (isB t144 false) (fun k82 => ixaW none 5 t148 t149 k82) fun t150 =>
            GqW (isB t144 false) (fun k83 => ldW true 5 t150 w76 k83) fun t151 =>
            GeW (isB t144 false) w76 (fun k84 => callF Tryz.prog 13 [t146, t151] w76 k84) fun t152 w85 =>
            GqW (isB t144 false) (fun k86 => unW .not t152 k86) fun t153 =>
            pickW t144 (.bool true) t153 fun t154 =>
            condW t154 (
              K (.bool false) w85) (
              binW .add (s42.getD 0 undef) (.int .i64 1) fun t155 =>
              L42 [t155] w85)) (
            JoinW (fun J87 =>
              ldW true 5 t3 w43.drew fun t157 =>
              ldW true 5 t4 w43.drew fun t160 =>
              (
               callF Tryz.prog 15 [v2] w43.drew fun t159 w88 =>
               (ldW true 5 t4 w88 fun x => x = t160) ∧
               (ldW true 5 t3 w88 fun x => x = t157) ∧
               (
                bslW 28 3 [(.int .i64 0), (.bool false), (.string (ofL [])), (.slice none 0 0), (.slice none 0 0), (.int .i64 0), (.bool false), (.string (ofL [])), (.slice none 0 0), (.slice none 0 0), (.int .i64 0), (.bool false), (.string (ofL [])), (.slice none 0 0), (.slice none 0 0)] [(0, 5, t157), (5, 5, t159), (10, 5, t160)] w88 fun t161 w89 =>
                (
                 callF Tryz.prog 11 [(.string (ofL [108, 111, 111, 107, 117, 112])), t161] w89 fun t162 w90 =>
                 extW 0 t162 fun t163 =>
                 extW 1 t162 fun t164 =>
                 allocW 28 [(.int .i64 0), (.bool false), (.string (ofL [])), (.slice none 0 0), (.slice none 0 0)] w90 fun t16 w91 =>
                 stW 5 t16 t163 w91 fun w92 =>
              J87 [t164, t16] w92) ∧
                (
                 allocW 28 [(.int .i64 0), (.bool false), (.string (ofL [])), (.slice none 0 0), (.slice none 0 0)] w89 fun t16 w93 =>
                 callF Tryz.prog 11 [(.string (ofL [108, 111, 111, 107, 117, 112])), t161] w93 fun t162 w94 =>
                 extW 0 t162 fun t163 =>
                 extW 1 t162 fun t164 =>
                 stW 5 t16 t163 w94 fun w95 =>
              J87 [t164, t16] w95)) ∧
               (
                allocW 28 [(.int .i64 0), (.bool false), (.string (ofL [])), (.slice none 0 0), (.slice none 0 0)] w88 fun t16 w96 =>
                (ldW true 5 t4 w96 fun x => x = t160) ∧
                (ldW true 5 t3 w96 fun x => x = t157) ∧
                bslW 28 3 [(.int .i64 0), (.bool false), (.string (ofL [])), (.slice none 0 0), (.slice none 0 0), (.int .i64 0), (.bool false), (.string (ofL [])), (.slice none 0 0), (.slice none 0 0), (.int .i64 0), (.bool false), (.string (ofL [])), (.slice none 0 0), (.slice none 0 0)] [(0, 5, t157), (5, 5, t159), (10, 5, t160)] w96 fun t161 w97 =>
                callF Tryz.prog 11 [(.string (ofL [108, 111, 111, 107, 117, 112])), t161] w97 fun t162 w98 =>
                extW 0 t162 fun t163 =>
                extW 1 t162 fun t164 =>
                stW 5 t16 t163 w98 fun w99 =>
              J87 [t164, t16] w99)) ∧
              (
               allocW 28 [(.int .i64 0), (.bool false), (.string (ofL [])), (.slice none 0 0), (.slice none 0 0)] w43.drew fun t16 w100 =>
               (ldW true 5 t4 w100 fun x => x = t160) ∧
               (ldW true 5 t3 w100 fun x => x = t157) ∧
               callF Tryz.prog 15 [v2] w100 fun t159 w101 =>
               (ldW true 5 t4 w101 fun x => x = t160) ∧
               (ldW true 5 t3 w101 fun x => x = t157) ∧
               bslW 28 3 [(.int .i64 0), (.bool false), (.string (ofL [])), (.slice none 0 0), (.slice none 0 0), (.int .i64 0), (.bool false), (.string (ofL [])), (.slice none 0 0), (.slice none 0 0), (.int .i64 0), (.bool false), (.string (ofL [])), (.slice none 0 0), (.slice none 0 0)] [(0, 5, t157), (5, 5, t159), (10, 5, t160)] w101 fun t161 w102 =>
               callF Tryz.prog 11 [(.string (ofL [108, 111, 111, 107, 117, 112])), t161] w102 fun t162 w103 =>
               extW 0 t162 fun t163 =>
               extW 1 t162 fun t164 =>
               stW 5 t16 t163 w103 fun w104 =>
              J87 [t164, t16] w104))
            fun s87 _ w105 =>
            binW .eql (s87.getD 0 undef) (.int .i64 0) fun t166 =>
            GdW (isB t166 true) [undef] w105 (fun J106 =>
              ldW true 5 t3 w105 fun t168 =>
              callF Tryz.prog 21 [t168, v2] w105 fun t170 w107 =>
              binW .geq t170 (.int .i64 0) fun t171 =>
              J106 [t171] w107)
            fun s106 _ w108 =>
            GdW (isB (s106.getD 0 undef) false) [undef] w108 (fun J109 =>
              ldW true 5 (s87.getD 1 undef) w108 fun t173 =>
              ldW true 5 t4 w108 fun t174 =>
              callF Tryz.prog 13 [t173, t174] w108 fun t175 w110 =>
              J109 [t175] w110)
            fun s109 _ w111 =>
            GdW (isB t166 true) [undef] w111 (fun J112 =>
              pickW (s106.getD 0 undef) (.bool true) (s109.getD 0 undef) fun t176 =>
              J112 [t176] w111)
            fun s112 _ w113 =>
            pickW t166 (s112.getD 0 undef) (.bool false) fun t177 =>
            K t177 w113))))
theorem W6_eq (v0 v1 v2 : Value) (w : World) (K : Value → World → Prop) : funW Tryz.prog Tryz.f6 plan6 [v0, v1, v2] w K = W6 v0 v1 v2 w K := by kernel_rfl
theorem W6_chk : chkFun Tryz.prog Tryz.f6 plan6 3 = true := by kernel_rfl
theorem W6_ok {v0 v1 v2 : Value} {w : World} {K : Value → World → Prop} (h : W6 v0 v1 v2 w K) : callF Tryz.prog 6 [v0, v1, v2] w K :=
  tie Tryz.prog 6 Tryz.f6 plan6 [v0, v1, v2] w K 3 (W6 v0 v1 v2 w K) rfl mixed Tryz.func6 W6_chk (W6_eq v0 v1 v2 w K) Tryz.call6 h
def plan9 : Plan := { js := [(9005, ⟨[43], [], 41⟩), (9009, ⟨[38], [], 37⟩), (9013, ⟨[34], [], 33⟩), (9019, ⟨[30], [], 27⟩)], ds := [] }
def W9 (w : World) (K : Value → World → Prop) : Prop :=
  callF Tryz.prog 15 [(.string (ofL [44]))] w fun t8 w1 =>
  callF Tryz.prog 15 [(.string (ofL [97, 44, 44, 98]))] w1 fun t9 w2 =>
  bslW 28 2 [(.int .i64 0), (.bool false), (.string (ofL [])), (.slice none 0 0), (.slice none 0 0), (.int .i64 0), (.bool false), (.string (ofL [])), (.slice none 0 0), (.slice none 0 0)] [(0, 5, t8), (5, 5, t9)] w2 fun t10 w3 =>
  callF Tryz.prog 11 [(.string (ofL [115, 112, 108, 105, 116])), t10] w3 fun t11 w4 =>
  extW 0 t11 fun t12 =>
  extW 1 t11 fun t13 =>
  allocW 28 [(.int .i64 0), (.bool false), (.string (ofL [])), (.slice none 0 0), (.slice none 0 0)] w4 fun t1 w5 =>
  stW 5 t1 t12 w5 fun w6 =>
  callF Tryz.prog 11 [(.string (ofL [110, 111, 112, 101])), (.slice none 0 0)] w6 fun t15 w7 =>
  extW 0 t15 fun t16 =>
  extW 1 t15 fun t17 =>
  allocW 28 [(.int .i64 0), (.bool false), (.string (ofL [])), (.slice none 0 0), (.slice none 0 0)] w7 fun t3 w8 =>
  stW 5 t3 t16 w8 fun w9 =>
  callF Tryz.prog 26 [] w9 fun t19 w10 =>
  bslW 28 1 [(.int .i64 0), (.bool false), (.string (ofL [])), (.slice none 0 0), (.slice none 0 0)] [(0, 5, t19)] w10 fun t20 w11 =>
  callF Tryz.prog 11 [(.string (ofL [117, 112, 112, 101, 114])), t20] w11 fun t21 w12 =>
  extW 0 t21 fun t22 =>
  extW 1 t21 fun t23 =>
  allocW 28 [(.int .i64 0), (.bool false), (.string (ofL [])), (.slice none 0 0), (.slice none 0 0)] w12 fun t5 w13 =>
  stW 5 t5 t22 w13 fun w14 =>
  binW .eql t13 (.int .i64 0) fun t25 =>
  GdW (isB t25 true) [undef] w14 (fun J15 =>
    fldW 3 t1 fun t27 =>
    ldW false 1 t27 w14 fun t28 =>
    lenlW t28 fun t29 =>
    binW .eql t29 (.int .i64 3) fun t30 =>
    J15 [t30] w14)
  fun s15 _ w16 =>
  pickW t25 (s15.getD 0 undef) (.bool false) fun t31 =>
  GdW (isB t31 true) [undef] w16 (fun J17 =>
    binW .eql t17 (.int .i64 70) fun t34 =>
    J17 [t34] w16)
  fun s17 _ w18 =>
  pickW t31 (s17.getD 0 undef) (.bool false) fun t35 =>
  GdW (isB t35 true) [undef] w18 (fun J19 =>
    binW .eql t23 (.int .i64 0) fun t38 =>
    J19 [t38] w18)
  fun s19 _ w20 =>
  pickW t35 (s19.getD 0 undef) (.bool false) fun t39 =>
  GdW (isB t39 true) [undef] w20 (fun J21 =>
    fldW 0 t5 fun t41 =>
    ldW false 1 t41 w20 fun t42 =>
    binW .eql t42 (.int .i64 1) fun t43 =>
    J21 [t43] w20)
  fun s21 _ w22 =>
  pickW t39 (s21.getD 0 undef) (.bool false) fun t44 =>
  K t44 w22
theorem W9_eq (w : World) (K : Value → World → Prop) : funW Tryz.prog Tryz.f9 plan9 [] w K = W9 w K := by kernel_rfl
theorem W9_chk : chkFun Tryz.prog Tryz.f9 plan9 0 = true := by kernel_rfl
theorem W9_ok {w : World} {K : Value → World → Prop} (h : W9 w K) : callF Tryz.prog 9 [] w K :=
  tie Tryz.prog 9 Tryz.f9 plan9 [] w K 0 (W9 w K) rfl mixed Tryz.func9 W9_chk (W9_eq w K) Tryz.call9 h
def plan11 : Plan := { js := [], ds := [] }
def W11 (v0 v1 : Value) (w : World) (K : Value → World → Prop) : Prop :=
  allocW 28 [(.int .i64 0), (.bool false), (.string (ofL [])), (.slice none 0 0), (.slice none 0 0)] w fun t4 w1 =>
  callF Tryz.prog 28 [v1, (.func (.func 29) #[] #[])] w1 fun t11 w2 =>
  condW t11 (
    putW [(.int .i64 0), (.bool false), (.string (ofL [])), (.slice none 0 0), (.slice none 0 0)] [] fun c3 =>
    stW 5 t4 (.agg c3.toArray) w2 fun w4 =>
    ldW true 5 t4 w4 fun r5 =>
    K (.tuple #[r5, (.int .i64 1)]) w4) (
    callF Tryz.prog 31 [] w2 fun t14 w6 =>
    semQ Tryz.prog (Instr.lookup 59 t14 v0 true) w6 fun t16 =>
    extW 0 t16 fun t17 =>
    extW 1 t16 fun t18 =>
    allocW 57 [(.string (ofL [])), (.int .i64 0), .nilFunc] w6 fun t6 w7 =>
    stW 3 t6 t17 w7 fun w8 =>
    unW .not t18 fun t20 =>
    condW t20 (
      putW [(.int .i64 0), (.bool false), (.string (ofL [])), (.slice none 0 0), (.slice none 0 0)] [] fun c9 =>
      stW 5 t4 (.agg c9.toArray) w8 fun w10 =>
      ldW true 5 t4 w10 fun r11 =>
      K (.tuple #[r11, (.int .i64 70)]) w10) (
      callF Tryz.prog 28 [v1, (.func (.func 32) #[] #[])] w8 fun t23 w12 =>
      condW t23 (
        callF Tryz.prog 34 [] w12 fun t24 w13 =>
        stW 5 t4 t24 w13 fun w14 =>
        ldW true 5 t4 w14 fun r15 =>
        K (.tuple #[r15, (.int .i64 0)]) w14) (
        ldW true 3 t6 w12 fun t25 =>
        callF Tryz.prog 35 [t25, v1] w12 fun t27 w16 =>
        unW .not t27 fun t28 =>
        condW t28 (
          putW [(.int .i64 0), (.bool false), (.string (ofL [])), (.slice none 0 0), (.slice none 0 0)] [] fun c17 =>
          stW 5 t4 (.agg c17.toArray) w16 fun w18 =>
          ldW true 5 t4 w18 fun r19 =>
          K (.tuple #[r19, (.int .i64 71)]) w18) (
          fldW 2 t6 fun t31 =>
          ldW false 1 t31 w16 fun t32 =>
          callV Tryz.prog t32 [v1] w16 fun t34 w20 =>
          extW 0 t34 fun t35 =>
          extW 1 t34 fun t36 =>
          allocW 28 [(.int .i64 0), (.bool false), (.string (ofL [])), (.slice none 0 0), (.slice none 0 0)] w20 fun t8 w21 =>
          stW 5 t8 t35 w21 fun w22 =>
          unW .not t36 fun t38 =>
          condW t38 (
            putW [(.int .i64 0), (.bool false), (.string (ofL [])), (.slice none 0 0), (.slice none 0 0)] [] fun c23 =>
            stW 5 t4 (.agg c23.toArray) w22 fun w24 =>
            ldW true 5 t4 w24 fun r25 =>
            K (.tuple #[r25, (.int .i64 71)]) w24) (
            ldW true 5 t8 w22 fun t40 =>
            callF Tryz.prog 30 [t40] w22 fun t41 w26 =>
            unW .not t41 fun t42 =>
            condW t42 (
              putW [(.int .i64 0), (.bool false), (.string (ofL [])), (.slice none 0 0), (.slice none 0 0)] [] fun c27 =>
              stW 5 t4 (.agg c27.toArray) w26 fun w28 =>
              ldW true 5 t4 w28 fun r29 =>
              K (.tuple #[r29, (.int .i64 3)]) w28) (
              ldW true 5 t8 w26 fun t44 =>
              stW 5 t4 t44 w26 fun w30 =>
              ldW true 5 t4 w30 fun r31 =>
              K (.tuple #[r31, (.int .i64 0)]) w30))))))
theorem W11_eq (v0 v1 : Value) (w : World) (K : Value → World → Prop) : funW Tryz.prog Tryz.f11 plan11 [v0, v1] w K = W11 v0 v1 w K := by kernel_rfl
theorem W11_chk : chkFun Tryz.prog Tryz.f11 plan11 2 = true := by kernel_rfl
theorem W11_ok {v0 v1 : Value} {w : World} {K : Value → World → Prop} (h : W11 v0 v1 w K) : callF Tryz.prog 11 [v0, v1] w K :=
  tie Tryz.prog 11 Tryz.f11 plan11 [v0, v1] w K 2 (W11 v0 v1 w K) rfl mixed Tryz.func11 W11_chk (W11_eq v0 v1 w K) Tryz.call11 h
def plan29 : Plan := { js := [], ds := [] }
def W29 (v0 : Value) (w : World) (K : Value → World → Prop) : Prop :=
  boxW 28 v0 w fun t1 w1 =>
  ldW true 5 t1 w1 fun t3 =>
  callF Tryz.prog 30 [t3] w1 fun t4 w2 =>
  unW .not t4 fun t5 =>
  K t5 w2
theorem W29_eq (v0 : Value) (w : World) (K : Value → World → Prop) : funW Tryz.prog Tryz.f29 plan29 [v0] w K = W29 v0 w K := by kernel_rfl
theorem W29_chk : chkFun Tryz.prog Tryz.f29 plan29 1 = true := by kernel_rfl
theorem W29_ok {v0 : Value} {w : World} {K : Value → World → Prop} (h : W29 v0 w K) : callF Tryz.prog 29 [v0] w K :=
  tie Tryz.prog 29 Tryz.f29 plan29 [v0] w K 1 (W29 v0 w K) rfl mixed Tryz.func29 W29_chk (W29_eq v0 w K) Tryz.call29 h
def plan31 : Plan := { js := [], ds := [] }
def W31 (w : World) (K : Value → World → Prop) : Prop :=
  semE Tryz.prog (Instr.makeMap 59 none) w fun t1 w1 =>
  putW [(.string (ofL [])), (.int .i64 0), .nilFunc] [(0, 1, (.string (ofL [110]))), (1, 1, (.int .i64 0)), (2, 1, (.func (.func 46) #[] #[]))] fun c2 =>
  semU Tryz.prog (Instr.mapUpdate 59 t1 (.string (ofL [97, 98, 115])) (.agg c2.toArray)) w1 fun w3 =>
  putW [(.string (ofL [])), (.int .i64 0), .nilFunc] [(0, 1, (.string (ofL [108, 46]))), (1, 1, (.int .i64 0)), (2, 1, (.func (.func 48) #[] #[]))] fun c4 =>
  semU Tryz.prog (Instr.mapUpdate 59 t1 (.string (ofL [99, 111, 110, 99, 97, 116])) (.agg c4.toArray)) w3 fun w5 =>
  putW [(.string (ofL [])), (.int .i64 0), .nilFunc] [(0, 1, (.string (ofL [108, 118]))), (1, 1, (.int .i64 0)), (2, 1, (.func (.func 49) #[] #[]))] fun c6 =>
  semU Tryz.prog (Instr.mapUpdate 59 t1 (.string (ofL [99, 111, 110, 116, 97, 105, 110, 115])) (.agg c6.toArray)) w5 fun w7 =>
  putW [(.string (ofL [])), (.int .i64 0), .nilFunc] [(0, 1, (.string (ofL [115, 108]))), (1, 1, (.int .i64 0)), (2, 1, (.func (.func 50) #[] #[]))] fun c8 =>
  semU Tryz.prog (Instr.mapUpdate 59 t1 (.string (ofL [106, 111, 105, 110])) (.agg c8.toArray)) w7 fun w9 =>
  putW [(.string (ofL [])), (.int .i64 0), .nilFunc] [(0, 1, (.string (ofL [111]))), (1, 1, (.int .i64 0)), (2, 1, (.func (.func 51) #[] #[]))] fun c10 =>
  semU Tryz.prog (Instr.mapUpdate 59 t1 (.string (ofL [107, 101, 121, 115])) (.agg c10.toArray)) w9 fun w11 =>
  putW [(.string (ofL [])), (.int .i64 0), .nilFunc] [(0, 1, (.string (ofL [118]))), (1, 1, (.int .i64 0)), (2, 1, (.func (.func 53) #[] #[]))] fun c12 =>
  semU Tryz.prog (Instr.mapUpdate 59 t1 (.string (ofL [108, 101, 110, 103, 116, 104])) (.agg c12.toArray)) w11 fun w13 =>
  putW [(.string (ofL [])), (.int .i64 0), .nilFunc] [(0, 1, (.string (ofL [111, 115, 118]))), (1, 1, (.int .i64 0)), (2, 1, (.func (.func 54) #[] #[]))] fun c14 =>
  semU Tryz.prog (Instr.mapUpdate 59 t1 (.string (ofL [108, 111, 111, 107, 117, 112])) (.agg c14.toArray)) w13 fun w15 =>
  putW [(.string (ofL [])), (.int .i64 0), .nilFunc] [(0, 1, (.string (ofL [115]))), (1, 1, (.int .i64 0)), (2, 1, (.func (.func 55) #[] #[]))] fun c16 =>
  semU Tryz.prog (Instr.mapUpdate 59 t1 (.string (ofL [108, 111, 119, 101, 114])) (.agg c16.toArray)) w15 fun w17 =>
  putW [(.string (ofL [])), (.int .i64 0), .nilFunc] [(0, 1, (.string (ofL [110, 46]))), (1, 1, (.int .i64 1)), (2, 1, (.func (.func 58) #[] #[]))] fun c18 =>
  semU Tryz.prog (Instr.mapUpdate 59 t1 (.string (ofL [109, 97, 120])) (.agg c18.toArray)) w17 fun w19 =>
  putW [(.string (ofL [])), (.int .i64 0), .nilFunc] [(0, 1, (.string (ofL [111, 46]))), (1, 1, (.int .i64 0)), (2, 1, (.func (.func 60) #[] #[]))] fun c20 =>
  semU Tryz.prog (Instr.mapUpdate 59 t1 (.string (ofL [109, 101, 114, 103, 101])) (.agg c20.toArray)) w19 fun w21 =>
  putW [(.string (ofL [])), (.int .i64 0), .nilFunc] [(0, 1, (.string (ofL [110, 46]))), (1, 1, (.int .i64 1)), (2, 1, (.func (.func 61) #[] #[]))] fun c22 =>
  semU Tryz.prog (Instr.mapUpdate 59 t1 (.string (ofL [109, 105, 110])) (.agg c22.toArray)) w21 fun w23 =>
  putW [(.string (ofL [])), (.int .i64 0), .nilFunc] [(0, 1, (.string (ofL [110]))), (1, 1, (.int .i64 0)), (2, 1, (.func (.func 62) #[] #[]))] fun c24 =>
  semU Tryz.prog (Instr.mapUpdate 59 t1 (.string (ofL [114, 97, 110, 103, 101])) (.agg c24.toArray)) w23 fun w25 =>
  putW [(.string (ofL [])), (.int .i64 0), .nilFunc] [(0, 1, (.string (ofL [118]))), (1, 1, (.int .i64 0)), (2, 1, (.func (.func 63) #[] #[]))] fun c26 =>
  semU Tryz.prog (Instr.mapUpdate 59 t1 (.string (ofL [114, 101, 118, 101, 114, 115, 101])) (.agg c26.toArray)) w25 fun w27 =>
  putW [(.string (ofL [])), (.int .i64 0), .nilFunc] [(0, 1, (.string (ofL [115, 115]))), (1, 1, (.int .i64 0)), (2, 1, (.func (.func 64) #[] #[]))] fun c28 =>
  semU Tryz.prog (Instr.mapUpdate 59 t1 (.string (ofL [115, 112, 108, 105, 116])) (.agg c28.toArray)) w27 fun w29 =>
  putW [(.string (ofL [])), (.int .i64 0), .nilFunc] [(0, 1, (.string (ofL [115, 110, 110]))), (1, 1, (.int .i64 0)), (2, 1, (.func (.func 65) #[] #[]))] fun c30 =>
  semU Tryz.prog (Instr.mapUpdate 59 t1 (.string (ofL [115, 117, 98, 115, 116, 114])) (.agg c30.toArray)) w29 fun w31 =>
  putW [(.string (ofL [])), (.int .i64 0), .nilFunc] [(0, 1, (.string (ofL [118]))), (1, 1, (.int .i64 0)), (2, 1, (.func (.func 66) #[] #[]))] fun c32 =>
  semU Tryz.prog (Instr.mapUpdate 59 t1 (.string (ofL [116, 111, 105, 110, 116])) (.agg c32.toArray)) w31 fun w33 =>
  putW [(.string (ofL [])), (.int .i64 0), .nilFunc] [(0, 1, (.string (ofL [118]))), (1, 1, (.int .i64 0)), (2, 1, (.func (.func 67) #[] #[]))] fun c34 =>
  semU Tryz.prog (Instr.mapUpdate 59 t1 (.string (ofL [116, 111, 115, 116, 114, 105, 110, 103])) (.agg c34.toArray)) w33 fun w35 =>
  putW [(.string (ofL [])), (.int .i64 0), .nilFunc] [(0, 1, (.string (ofL [115]))), (1, 1, (.int .i64 0)), (2, 1, (.func (.func 68) #[] #[]))] fun c36 =>
  semU Tryz.prog (Instr.mapUpdate 59 t1 (.string (ofL [117, 112, 112, 101, 114])) (.agg c36.toArray)) w35 fun w37 =>
  putW [(.string (ofL [])), (.int .i64 0), .nilFunc] [(0, 1, (.string (ofL [111]))), (1, 1, (.int .i64 0)), (2, 1, (.func (.func 69) #[] #[]))] fun c38 =>
  semU Tryz.prog (Instr.mapUpdate 59 t1 (.string (ofL [118, 97, 108, 117, 101, 115])) (.agg c38.toArray)) w37 fun w39 =>
  K t1 w39
theorem W31_eq (w : World) (K : Value → World → Prop) : funW Tryz.prog Tryz.f31 plan31 [] w K = W31 w K := by kernel_rfl
theorem W31_chk : chkFun Tryz.prog Tryz.f31 plan31 0 = true := by kernel_rfl
theorem W31_ok {w : World} {K : Value → World → Prop} (h : W31 w K) : callF Tryz.prog 31 [] w K :=
  tie Tryz.prog 31 Tryz.f31 plan31 [] w K 0 (W31 w K) rfl mixed Tryz.func31 W31_chk (W31_eq w K) Tryz.call31 h
def plan32 : Plan := { js := [], ds := [] }
def W32 (v0 : Value) (w : World) (K : Value → World → Prop) : Prop :=
  boxW 28 v0 w fun t1 w1 =>
  ldW true 5 t1 w1 fun t3 =>
  callF Tryz.prog 33 [t3] w1 fun t4 w2 =>
  unW .not t4 fun t5 =>
  K t5 w2
theorem W32_eq (v0 : Value) (w : World) (K : Value → World → Prop) : funW Tryz.prog Tryz.f32 plan32 [v0] w K = W32 v0 w K := by kernel_rfl
theorem W32_chk : chkFun Tryz.prog Tryz.f32 plan32 1 = true := by kernel_rfl
theorem W32_ok {v0 : Value} {w : World} {K : Value → World → Prop} (h : W32 v0 w K) : callF Tryz.prog 32 [v0] w K :=
  tie Tryz.prog 32 Tryz.f32 plan32 [v0] w K 1 (W32 v0 w K) rfl mixed Tryz.func32 W32_chk (W32_eq v0 w K) Tryz.call32 h
def plan35 : Plan := { js := [(36005, ⟨[50], [], 47⟩), (22, ⟨[35], [4, 7, 8, 9], 35⟩), (12006, ⟨[31], [], 27⟩), (4, ⟨[5], [], 3⟩)], ds := [] }
def W35 (v0 v1 : Value) (w : World) (K : Value → World → Prop) : Prop :=
  boxW 57 v0 w fun t2 w1 =>
  fldW 0 t2 fun t11 =>
  ldW false 1 t11 w1 fun t12 =>
  callF Tryz.prog 72 [t12, (.string (ofL [46]))] w1 fun t13 w2 =>
  extW 0 t13 fun t14 =>
  extW 1 t13 fun t15 =>
  JoinW (fun J3 =>
    condW t15 (
      lenlW v1 fun t19 =>
      callF Tryz.prog 73 [t14, t19] w2 fun t20 w4 =>
      J3 [t20] w4) (
      J3 [t14] w2))
  fun s3 _ w5 =>
  lenlW v1 fun t22 =>
  lensW (s3.getD 0 undef) fun t24 =>
  binW .neq t22 t24 fun t25 =>
  GdW (isB t25 false) [undef] w5 (fun J6 =>
    lenlW v1 fun t28 =>
    fldW 1 t2 fun t29 =>
    ldW false 1 t29 w5 fun t30 =>
    binW .lss t28 t30 fun t31 =>
    J6 [t31] w5)
  fun s6 _ w7 =>
  pickW t25 (.bool true) (s6.getD 0 undef) fun t32 =>
  condW t32 (
    K (.bool false) w7) (
    lenlW v1 fun t34 =>
    LoopW [(.int .i64 0)] w7 fun s8 _ w9 L8 =>
      binW .lss (s8.getD 0 undef) t34 fun t36 =>
      condW t36 (
        ixaW none 5 v1 (s8.getD 0 undef) fun t38 =>
        ldW true 5 t38 w9 fun t39 =>
        allocW 28 [(.int .i64 0), (.bool false), (.string (ofL [])), (.slice none 0 0), (.slice none 0 0)] w9 fun t8 w10 =>
        stW 5 t8 t39 w10 fun w11 =>
        ixsW (s3.getD 0 undef) (s8.getD 0 undef) fun t42 =>
        callF Tryz.prog 74 [t42] w11 fun t43 w12 =>
        binW .geq t43 (.int .i64 0) fun t45 =>
        GdW (isB t45 true) [undef] w12 (fun J13 =>
          fldW 0 t8 fun t47 =>
          ldW false 1 t47 w12 fun t48 =>
          binW .neq t48 t43 fun t50 =>
          J13 [t50] w12)
        fun s13 _ w14 =>
        pickW t45 (s13.getD 0 undef) (.bool false) fun t51 =>
        condW t51 (
          K (.bool false) w14) (
          binW .add (s8.getD 0 undef) (.int .i64 1) fun t52 =>
          L8 [t52] w14)) (
        K (.bool true) w9))
theorem W35_eq (v0 v1 : Value) (w : World) (K : Value → World → Prop) : funW Tryz.prog Tryz.f35 plan35 [v0, v1] w K = W35 v0 v1 w K := by kernel_rfl
theorem W35_chk : chkFun Tryz.prog Tryz.f35 plan35 2 = true := by kernel_rfl
theorem W35_ok {v0 v1 : Value} {w : World} {K : Value → World → Prop} (h : W35 v0 v1 w K) : callF Tryz.prog 35 [v0, v1] w K :=
  tie Tryz.prog 35 Tryz.f35 plan35 [v0, v1] w K 2 (W35 v0 v1 w K) rfl mixed Tryz.func35 W35_chk (W35_eq v0 v1 w K) Tryz.call35 h
def plan46 : Plan := { js := [], ds := [] }
def W46 (v0 : Value) (w : World) (K : Value → World → Prop) : Prop :=
  allocW 28 [(.int .i64 0), (.bool false), (.string (ofL [])), (.slice none 0 0), (.slice none 0 0)] w fun t2 w1 =>
  ixaW none 5 v0 (.int .i64 0) fun t5 =>
  fldW 2 t5 fun t6 =>
  ldW false 1 t6 w1 fun t7 =>
  callF Tryz.prog 47 [t7, (.string (ofL [45]))] w1 fun t8 w2 =>
  putW [(.int .i64 0), (.bool false), (.string (ofL [])), (.slice none 0 0), (.slice none 0 0)] [(0, 1, (.int .i64 3)), (2, 1, t8)] fun c3 =>
  stW 5 t2 (.agg c3.toArray) w2 fun w4 =>
  ldW true 5 t2 w4 fun r5 =>
  K (.tuple #[r5, (.bool true)]) w4
theorem W46_eq (v0 : Value) (w : World) (K : Value → World → Prop) : funW Tryz.prog Tryz.f46 plan46 [v0] w K = W46 v0 w K := by kernel_rfl
theorem W46_chk : chkFun Tryz.prog Tryz.f46 plan46 1 = true := by kernel_rfl
theorem W46_ok {v0 : Value} {w : World} {K : Value → World → Prop} (h : W46 v0 w K) : callF Tryz.prog 46 [v0] w K :=
  tie Tryz.prog 46 Tryz.f46 plan46 [v0] w K 1 (W46 v0 w K) rfl mixed Tryz.func46 W46_chk (W46_eq v0 w K) Tryz.call46 h
def plan48 : Plan := { js := [(8, ⟨[10], [6], 10⟩)], ds := [(19, ⟨[0, 1, 2, 4, 6], [[], [0], [], [2], [2, 3], [0, 1, 2, 3, 4], [0, 1, 2, 3, 4, 5], [0, 1, 2, 3, 4, 5, 6]]⟩)] }
def W48 (v0 : Value) (w : World) (K : Value → World → Prop) : Prop :=
  allocW 28 [(.int .i64 0), (.bool false), (.string (ofL [])), (.slice none 0 0), (.slice none 0 0)] w fun t2 w1 =>
  putW [(.int .i64 0), (.bool false), (.string (ofL [])), (.slice none 0 0), (.slice none 0 0)] [(0, 1, (.int .i64 5))] fun c2 =>
  allocW 28 [(.int .i64 0), (.bool false), (.string (ofL [])), (.slice none 0 0), (.slice none 0 0)] w1 fun t4 w3 =>
  stW 5 t4 (.agg c2.toArray) w3 fun w4 =>
  lenlW v0 fun t9 =>
  LoopW [(.int .i64 0)] w4 fun s5 _ w6 L5 =>
    binW .lss (s5.getD 0 undef) t9 fun t11 =>
    condW t11 (
      ixaW none 5 v0 (s5.getD 0 undef) fun t12 =>
      ldW true 5 t12 w6 fun t13 =>
      allocW 28 [(.int .i64 0), (.bool false), (.string (ofL [])), (.slice none 0 0), (.slice none 0 0)] w6 fun t6 w7 =>
      stW 5 t6 t13 w7 fun w8 =>
      fldW 3 t4 fun t14 =>
      ldW false 1 t14 w8.drew fun t15 =>
      ldW true 5 t6 w8.drew fun t16 =>
      callF Tryz.prog 90 [t16] w8.drew fun t17 w9 =>
      (ldW false 1 t14 w9 fun x => x = t15) ∧
      partW false 3 1 t17 fun t18 =>
      semE Tryz.prog (Builtin.append_ #[22, 22] 22 #[t15, t18]) w9 fun t19 w10 =>
      fldW 3 t4 fun t20 =>
      stW 1 t20 t19 w10 fun w11 =>
      binW .add (s5.getD 0 undef) (.int .i64 1) fun t21 =>
      L5 [t21] w11) (
      ldW true 5 t4 w6 fun t22 =>
      stW 5 t2 t22 w6 fun w12 =>
      ldW true 5 t2 w12 fun r13 =>
      K (.tuple #[r13, (.bool true)]) w12)
theorem W48_eq (v0 : Value) (w : World) (K : Value → World → Prop) : funW Tryz.prog Tryz.f48 plan48 [v0] w K = W48 v0 w K := by kernel_rfl
theorem W48_chk : chkFun Tryz.prog Tryz.f48 plan48 1 = true := by kernel_rfl
theorem W48_ok {v0 : Value} {w : World} {K : Value → World → Prop} (h : W48 v0 w K) : callF Tryz.prog 48 [v0] w K :=
  tie Tryz.prog 48 Tryz.f48 plan48 [v0] w K 1 (W48 v0 w K) rfl mixed Tryz.func48 W48_chk (W48_eq v0 w K) Tryz.call48 h
def plan49 : Plan := { js := [], ds := [] }
def W49 (v0 : Value) (w : World) (K : Value → World → Prop) : Prop :=
  boxW 22 v0 w fun t1 w1 =>
  allocW 28 [(.int .i64 0), (.bool false), (.string (ofL [])), (.slice none 0 0), (.slice none 0 0)] w1 fun t2 w2 =>
  ldW false 1 t1 w2 fun t4 =>
  ixaW none 5 t4 (.int .i64 0) fun t5 =>
  fldW 3 t5 fun t6 =>
  ldW false 1 t6 w2 fun t7 =>
  callF Tryz.prog 28 [t7, (.func (.func 92) #[] #[t1])] w2 fun t9 w3 =>
  callF Tryz.prog 91 [t9] w3 fun t10 w4 =>
  stW 5 t2 t10 w4 fun w5 =>
  ldW true 5 t2 w5 fun r6 =>
  K (.tuple #[r6, (.bool true)]) w5
theorem W49_eq (v0 : Value) (w : World) (K : Value → World → Prop) : funW Tryz.prog Tryz.f49 plan49 [v0] w K = W49 v0 w K := by kernel_rfl
theorem W49_chk : chkFun Tryz.prog Tryz.f49 plan49 1 = true := by kernel_rfl
theorem W49_ok {v0 : Value} {w : World} {K : Value → World → Prop} (h : W49 v0 w K) : callF Tryz.prog 49 [v0] w K :=
  tie Tryz.prog 49 Tryz.f49 plan49 [v0] w K 1 (W49 v0 w K) rfl mixed Tryz.func49 W49_chk (W49_eq v0 w K) Tryz.call49 h
def plan50 : Plan := { js := [(8, ⟨[4, 12], [3, 4, 6], 12⟩)], ds := [] }
def W50 (v0 : Value) (w : World) (K : Value → World → Prop) : Prop :=
  allocW 28 [(.int .i64 0), (.bool false), (.string (ofL [])), (.slice none 0 0), (.slice none 0 0)] w fun t2 w1 =>
  ixaW none 5 v0 (.int .i64 1) fun t8 =>
  fldW 3 t8 fun t9 =>
  ldW false 1 t9 w1 fun t10 =>
  lenlW t10 fun t11 =>
  LoopW [(.slice none 0 0), (.int .i64 0)] w1 fun s2 _ w3 L2 =>
    binW .lss (s2.getD 1 undef) t11 fun t13 =>
    condW t13 (
      ixaW none 5 t10 (s2.getD 1 undef) fun t14 =>
      ldW true 5 t14 w3 fun t15 =>
      allocW 28 [(.int .i64 0), (.bool false), (.string (ofL [])), (.slice none 0 0), (.slice none 0 0)] w3 fun t6 w4 =>
      stW 5 t6 t15 w4 fun w5 =>
      fldW 0 t6 fun t16 =>
      ldW false 1 t16 w5 fun t17 =>
      binW .neq t17 (.int .i64 4) fun t18 =>
      condW t18 (
        putW [(.int .i64 0), (.bool false), (.string (ofL [])), (.slice none 0 0), (.slice none 0 0)] [] fun c6 =>
        stW 5 t2 (.agg c6.toArray) w5 fun w7 =>
        ldW true 5 t2 w7 fun r8 =>
        K (.tuple #[r8, (.bool false)]) w7) (
        fldW 2 t6 fun t21 =>
        ldW false 1 t21 w5 fun t22 =>
        bslW 9 1 [(.string (ofL []))] [(0, 1, t22)] w5 fun t23 w9 =>
        semE Tryz.prog (Builtin.append_ #[26, 26] 26 #[(s2.getD 0 undef), t23]) w9 fun t24 w10 =>
        binW .add (s2.getD 1 undef) (.int .i64 1) fun t25 =>
        L2 [t24, t25] w10)) (
      ixaW none 5 v0 (.int .i64 0) fun t28 =>
      fldW 2 t28 fun t29 =>
      ldW false 1 t29 w3 fun t30 =>
      callF Tryz.prog 94 [(s2.getD 0 undef), t30] w3 fun t31 w11 =>
      callF Tryz.prog 56 [t31] w11 fun t32 w12 =>
      stW 5 t2 t32 w12 fun w13 =>
      ldW true 5 t2 w13 fun r14 =>
      K (.tuple #[r14, (.bool true)]) w13)
theorem W50_eq (v0 : Value) (w : World) (K : Value → World → Prop) : funW Tryz.prog Tryz.f50 plan50 [v0] w K = W50 v0 w K := by kernel_rfl
theorem W50_chk : chkFun Tryz.prog Tryz.f50 plan50 1 = true := by kernel_rfl
theorem W50_ok {v0 : Value} {w : World} {K : Value → World → Prop} (h : W50 v0 w K) : callF Tryz.prog 50 [v0] w K :=
  tie Tryz.prog 50 Tryz.f50 plan50 [v0] w K 1 (W50 v0 w K) rfl mixed Tryz.func50 W50_chk (W50_eq v0 w K) Tryz.call50 h
def plan51 : Plan := { js := [], ds := [] }
def W51 (v0 : Value) (w : World) (K : Value → World → Prop) : Prop :=
  allocW 28 [(.int .i64 0), (.bool false), (.string (ofL [])), (.slice none 0 0), (.slice none 0 0)] w fun t2 w1 =>
  ixaW none 5 v0 (.int .i64 0) fun t5 =>
  fldW 4 t5 fun t6 =>
  ldW false 1 t6 w1 fun t7 =>
  callF Tryz.prog 52 [t7] w1 fun t8 w2 =>
  stW 5 t2 t8 w2 fun w3 =>
  ldW true 5 t2 w3 fun r4 =>
  K (.tuple #[r4, (.bool true)]) w3
theorem W51_eq (v0 : Value) (w : World) (K : Value → World → Prop) : funW Tryz.prog Tryz.f51 plan51 [v0] w K = W51 v0 w K := by kernel_rfl
theorem W51_chk : chkFun Tryz.prog Tryz.f51 plan51 1 = true := by kernel_rfl
theorem W51_ok {v0 : Value} {w : World} {K : Value → World → Prop} (h : W51 v0 w K) : callF Tryz.prog 51 [v0] w K :=
  tie Tryz.prog 51 Tryz.f51 plan51 [v0] w K 1 (W51 v0 w K) rfl mixed Tryz.func51 W51_chk (W51_eq v0 w K) Tryz.call51 h
def plan52 : Plan := { js := [(8, ⟨[9], [5], 9⟩)], ds := [(19, ⟨[0, 1, 2, 6], [[], [0], [], [2], [2, 3], [0, 1, 2, 3, 4], [0, 1, 2, 3, 4, 5], [0, 1, 2, 3, 4, 5, 6]]⟩)] }
def W52 (v0 : Value) (w : World) (K : Value → World → Prop) : Prop :=
  allocW 28 [(.int .i64 0), (.bool false), (.string (ofL [])), (.slice none 0 0), (.slice none 0 0)] w fun t2 w1 =>
  putW [(.int .i64 0), (.bool false), (.string (ofL [])), (.slice none 0 0), (.slice none 0 0)] [(0, 1, (.int .i64 5))] fun c2 =>
  allocW 28 [(.int .i64 0), (.bool false), (.string (ofL [])), (.slice none 0 0), (.slice none 0 0)] w1 fun t3 w3 =>
  stW 5 t3 (.agg c2.toArray) w3 fun w4 =>
  lenlW v0 fun t8 =>
  LoopW [(.int .i64 0)] w4 fun s5 _ w6 L5 =>
    binW .lss (s5.getD 0 undef) t8 fun t10 =>
    condW t10 (
      ixaW none 1 v0 (s5.getD 0 undef) fun t11 =>
      ldW false 1 t11 w6 fun t12 =>
      fldW 3 t3 fun t13 =>
      ldW false 1 t13 w6.drew fun t14 =>
      callF Tryz.prog 56 [t12] w6.drew fun t16 w7 =>
      (ldW false 1 t13 w7 fun x => x = t14) ∧
      bslW 28 1 [(.int .i64 0), (.bool false), (.string (ofL [])), (.slice none 0 0), (.slice none 0 0)] [(0, 5, t16)] w7 fun t17 w8 =>
      (ldW false 1 t13 w8 fun x => x = t14) ∧
      semE Tryz.prog (Builtin.append_ #[22, 22] 22 #[t14, t17]) w8 fun t18 w9 =>
      fldW 3 t3 fun t19 =>
      stW 1 t19 t18 w9 fun w10 =>
      binW .add (s5.getD 0 undef) (.int .i64 1) fun t20 =>
      L5 [t20] w10) (
      ldW true 5 t3 w6 fun t21 =>
      stW 5 t2 t21 w6 fun w11 =>
      ldW true 5 t2 w11 fun r12 =>
      K r12 w11)
theorem W52_eq (v0 : Value) (w : World) (K : Value → World → Prop) : funW Tryz.prog Tryz.f52 plan52 [v0] w K = W52 v0 w K := by kernel_rfl
theorem W52_chk : chkFun Tryz.prog Tryz.f52 plan52 1 = true := by kernel_rfl
theorem W52_ok {v0 : Value} {w : World} {K : Value → World → Prop} (h : W52 v0 w K) : callF Tryz.prog 52 [v0] w K :=
  tie Tryz.prog 52 Tryz.f52 plan52 [v0] w K 1 (W52 v0 w K) rfl mixed Tryz.func52 W52_chk (W52_eq v0 w K) Tryz.call52 h
def plan53 : Plan := { js := [(12, ⟨[17], [], 3⟩)], ds := [] }
def W53 (v0 : Value) (w : World) (K : Value → World → Prop) : Prop :=
  allocW 28 [(.int .i64 0), (.bool false), (.string (ofL [])), (.slice none 0 0), (.slice none 0 0)] w fun t2 w1 =>
  ixaW none 5 v0 (.int .i64 0) fun t5 =>
  fldW 0 t5 fun t6 =>
  ldW false 1 t6 w1 fun t7 =>
  binW .eql t7 (.int .i64 4) fun t9 =>
  condW t9 (
    ixaW none 5 v0 (.int .i64 0) fun t11 =>
    fldW 2 t11 fun t12 =>
    ldW false 1 t12 w1 fun t13 =>
    callF Tryz.prog 96 [t13] w1 fun t14 w2 =>
    lenlW t14 fun t15 =>
    callF Tryz.prog 95 [t15] w2 fun t16 w3 =>
    stW 5 t2 t16 w3 fun w4 =>
    ldW true 5 t2 w4 fun r5 =>
    K (.tuple #[r5, (.bool true)]) w4) (
    JoinW (fun J6 =>
      binW .eql t7 (.int .i64 5) fun t18 =>
      condW t18 (
        J6 [t18] w1) (
        binW .eql t7 (.int .i64 6) fun t19 =>
        J6 [t19] w1))
    fun s6 _ w7 =>
    condW (s6.getD 0 undef) (
      ixaW none 5 v0 (.int .i64 0) fun t21 =>
      fldW 3 t21 fun t22 =>
      ldW false 1 t22 w7 fun t23 =>
      lenlW t23 fun t24 =>
      callF Tryz.prog 95 [t24] w7 fun t25 w8 =>
      stW 5 t2 t25 w8 fun w9 =>
      ldW true 5 t2 w9 fun r10 =>
      K (.tuple #[r10, (.bool true)]) w9) (
      putW [(.int .i64 0), (.bool false), (.string (ofL [])), (.slice none 0 0), (.slice none 0 0)] [] fun c11 =>
      stW 5 t2 (.agg c11.toArray) w7 fun w12 =>
      ldW true 5 t2 w12 fun r13 =>
      K (.tuple #[r13, (.bool false)]) w12))
theorem W53_eq (v0 : Value) (w : World) (K : Value → World → Prop) : funW Tryz.prog Tryz.f53 plan53 [v0] w K = W53 v0 w K := by kernel_rfl
theorem W53_chk : chkFun Tryz.prog Tryz.f53 plan53 1 = true := by kernel_rfl
theorem W53_ok {v0 : Value} {w : World} {K : Value → World → Prop} (h : W53 v0 w K) : callF Tryz.prog 53 [v0] w K :=
  tie Tryz.prog 53 Tryz.f53 plan53 [v0] w K 1 (W53 v0 w K) rfl mixed Tryz.func53 W53_chk (W53_eq v0 w K) Tryz.call53 h
def plan54 : Plan := { js := [(3, ⟨[4, 5], [], 3⟩)], ds := [(4, ⟨[0, 1, 2, 3, 4, 5, 6, 8, 9, 10, 13], [[], [0], [0, 1], [], [3], [3, 4], [3, 4, 5], [0, 1, 2, 3, 4, 5, 6], [0, 1, 2, 3, 4, 5, 6, 7], [0, 1, 2, 3, 4, 5, 6, 7, 8], [0, 1, 2, 3, 4, 5, 6, 7, 8], [], [0, 1, 2, 3, 4, 5, 6, 7, 8, 9, 11], [0, 1, 2, 3, 4, 5, 6, 7, 8, 9, 10, 11, 12]]⟩)] }
def W54 (v0 : Value) (w : World) (K : Value → World → Prop) : Prop :=
  allocW 28 [(.int .i64 0), (.bool false), (.string (ofL [])), (.slice none 0 0), (.slice none 0 0)] w fun t2 w1 =>
  JoinW (fun J2 =>
    ixaW none 5 v0 (.int .i64 0) fun t8 =>
    ldW true 5 t8 w1.drew fun t9 =>
    ixaW none 5 v0 (.int .i64 1) fun t11 =>
    fldW 2 t11 fun t12 =>
    ldW false 1 t12 w1.drew fun t13 =>
    (
     callF Tryz.prog 97 [t9, t13] w1.drew fun t14 w3 =>
     extW 0 t14 fun t15 =>
     extW 1 t14 fun t16 =>
     allocW 28 [(.int .i64 0), (.bool false), (.string (ofL [])), (.slice none 0 0), (.slice none 0 0)] w3 fun t4 w4 =>
     stW 5 t4 t15 w4 fun w5 =>
    J2 [t4, t16] w5) ∧
    (
     allocW 28 [(.int .i64 0), (.bool false), (.string (ofL [])), (.slice none 0 0), (.slice none 0 0)] w1.drew fun t4 w6 =>
     (ldW false 1 t12 w6 fun x => x = t13) ∧
     (ldW true 5 t8 w6 fun x => x = t9) ∧
     callF Tryz.prog 97 [t9, t13] w6 fun t14 w7 =>
     extW 0 t14 fun t15 =>
     extW 1 t14 fun t16 =>
     stW 5 t4 t15 w7 fun w8 =>
    J2 [t4, t16] w8))
  fun s2 _ w9 =>
  condW (s2.getD 1 undef) (
    ldW true 5 (s2.getD 0 undef) w9 fun t18 =>
    stW 5 t2 t18 w9 fun w10 =>
    ldW true 5 t2 w10 fun r11 =>
    K (.tuple #[r11, (.bool true)]) w10) (
    ixaW none 5 v0 (.int .i64 2) fun t20 =>
    ldW true 5 t20 w9 fun t21 =>
    callF Tryz.prog 90 [t21] w9 fun t22 w12 =>
    stW 5 t2 t22 w12 fun w13 =>
    ldW true 5 t2 w13 fun r14 =>
    K (.tuple #[r14, (.bool true)]) w13)
theorem W54_eq (v0 : Value) (w : World) (K : Value → World → Prop) : funW Tryz.prog Tryz.f54 plan54 [v0] w K = W54 v0 w K := by kernel_rfl
theorem W54_chk : chkFun Tryz.prog Tryz.f54 plan54 1 = true := by kernel_rfl
theorem W54_ok {v0 : Value} {w : World} {K : Value → World → Prop} (h : W54 v0 w K) : callF Tryz.prog 54 [v0] w K :=
  tie Tryz.prog 54 Tryz.f54 plan54 [v0] w K 1 (W54 v0 w K) rfl mixed Tryz.func54 W54_chk (W54_eq v0 w K) Tryz.call54 h
def plan55 : Plan := { js := [], ds := [] }
def W55 (v0 : Value) (w : World) (K : Value → World → Prop) : Prop :=
  allocW 28 [(.int .i64 0), (.bool false), (.string (ofL [])), (.slice none 0 0), (.slice none 0 0)] w fun t2 w1 =>
  ixaW none 5 v0 (.int .i64 0) fun t5 =>
  fldW 2 t5 fun t6 =>
  ldW false 1 t6 w1 fun t7 =>
  callF Tryz.prog 57 [t7, (.int .u8 65), (.int .u8 97)] w1 fun t8 w2 =>
  callF Tryz.prog 56 [t8] w2 fun t9 w3 =>
  stW 5 t2 t9 w3 fun w4 =>
  ldW true 5 t2 w4 fun r5 =>
  K (.tuple #[r5, (.bool true)]) w4
theorem W55_eq (v0 : Value) (w : World) (K : Value → World → Prop) : funW Tryz.prog Tryz.f55 plan55 [v0] w K = W55 v0 w K := by kernel_rfl
theorem W55_chk : chkFun Tryz.prog Tryz.f55 plan55 1 = true := by kernel_rfl
theorem W55_ok {v0 : Value} {w : World} {K : Value → World → Prop} (h : W55 v0 w K) : callF Tryz.prog 55 [v0] w K :=
  tie Tryz.prog 55 Tryz.f55 plan55 [v0] w K 1 (W55 v0 w K) rfl mixed Tryz.func55 W55_chk (W55_eq v0 w K) Tryz.call55 h
def plan57 : Plan := { js := [(15, ⟨[], [8, 9], 15⟩), (20005, ⟨[26], [], 23⟩), (8, ⟨[14], [8, 9], 14⟩)], ds := [] }
def W57 (v0 v1 v2 : Value) (w : World) (K : Value → World → Prop) : Prop :=
  semE Tryz.prog (convert 9 66 v0) w fun t11 w1 =>
  lenlW t11 fun t13 =>
  LoopW [(.int .i64 0)] w1 fun s2 _ w3 L2 =>
    binW .lss (s2.getD 0 undef) t13 fun t15 =>
    condW t15 (
      JoinW (fun J4 =>
        ixaW none 1 t11 (s2.getD 0 undef) fun t17 =>
        ldW false 1 t17 w3 fun t18 =>
        binW .geq t18 v1 fun t21 =>
        GdW (isB t21 true) [undef] w3 (fun J5 =>
          binW .add v1 (.int .u8 26) fun t25 =>
          binW .lss t18 t25 fun t26 =>
          J5 [t26] w3)
        fun s5 _ w6 =>
        pickW t21 (s5.getD 0 undef) (.bool false) fun t27 =>
        condW t27 (
          binW .sub t18 v1 fun t32 =>
          binW .add t32 v2 fun t34 =>
          ixaW none 1 t11 (s2.getD 0 undef) fun t35 =>
          stW 1 t35 t34 w6 fun w7 =>
          J4 [] w7) (
          J4 [] w6))
      fun s4 _ w8 =>
      binW .add (s2.getD 0 undef) (.int .i64 1) fun t36 =>
      L2 [t36] w8) (
      semQ Tryz.prog (convert 66 9 t11) w3 fun t38 =>
      K t38 w3)
theorem W57_eq (v0 v1 v2 : Value) (w : World) (K : Value → World → Prop) : funW Tryz.prog Tryz.f57 plan57 [v0, v1, v2] w K = W57 v0 v1 v2 w K := by kernel_rfl
theorem W57_chk : chkFun Tryz.prog Tryz.f57 plan57 3 = true := by kernel_rfl
theorem W57_ok {v0 v1 v2 : Value} {w : World} {K : Value → World → Prop} (h : W57 v0 v1 v2 w K) : callF Tryz.prog 57 [v0, v1, v2] w K :=
  tie Tryz.prog 57 Tryz.f57 plan57 [v0, v1, v2] w K 3 (W57 v0 v1 v2 w K) rfl mixed Tryz.func57 W57_chk (W57_eq v0 v1 v2 w K) Tryz.call57 h
def plan58 : Plan := { js := [], ds := [] }
def W58 (v0 : Value) (w : World) (K : Value → World → Prop) : Prop :=
  allocW 28 [(.int .i64 0), (.bool false), (.string (ofL [])), (.slice none 0 0), (.slice none 0 0)] w fun t2 w1 =>
  callF Tryz.prog 59 [v0, (.int .i64 1)] w1 fun t5 w2 =>
  extW 0 t5 fun t6 =>
  extW 1 t5 fun t7 =>
  stW 5 t2 t6 w2 fun w3 =>
  ldW true 5 t2 w3 fun r4 =>
  K (.tuple #[r4, t7]) w3
theorem W58_eq (v0 : Value) (w : World) (K : Value → World → Prop) : funW Tryz.prog Tryz.f58 plan58 [v0] w K = W58 v0 w K := by kernel_rfl
theorem W58_chk : chkFun Tryz.prog Tryz.f58 plan58 1 = true := by kernel_rfl
theorem W58_ok {v0 : Value} {w : World} {K : Value → World → Prop} (h : W58 v0 w K) : callF Tryz.prog 58 [v0] w K :=
  tie Tryz.prog 58 Tryz.f58 plan58 [v0] w K 1 (W58 v0 w K) rfl mixed Tryz.func58 W58_chk (W58_eq v0 w K) Tryz.call58 h
def plan59 : Plan := { js := [(15, ⟨[], [8], 15⟩), (8, ⟨[14], [8], 14⟩)], ds := [] }
def W59 (v0 v1 : Value) (w : World) (K : Value → World → Prop) : Prop :=
  allocW 28 [(.int .i64 0), (.bool false), (.string (ofL [])), (.slice none 0 0), (.slice none 0 0)] w fun t4 w1 =>
  ixaW none 5 v0 (.int .i64 0) fun t10 =>
  ldW true 5 t10 w1 fun t11 =>
  allocW 28 [(.int .i64 0), (.bool false), (.string (ofL [])), (.slice none 0 0), (.slice none 0 0)] w1 fun t6 w2 =>
  stW 5 t6 t11 w2 fun w3 =>
  lenlW v0 fun t13 =>
  LoopW [(.int .i64 0)] w3 fun s4 _ w5 L4 =>
    binW .lss (s4.getD 0 undef) t13 fun t15 =>
    condW t15 (
      JoinW (fun J6 =>
        ixaW none 5 v0 (s4.getD 0 undef) fun t16 =>
        ldW true 5 t16 w5 fun t17 =>
        allocW 28 [(.int .i64 0), (.bool false), (.string (ofL [])), (.slice none 0 0), (.slice none 0 0)] w5 fun t8 w7 =>
        stW 5 t8 t17 w7 fun w8 =>
        fldW 2 t8 fun t18 =>
        ldW false 1 t18 w8 fun t19 =>
        fldW 2 t6 fun t20 =>
        ldW false 1 t20 w8 fun t21 =>
        callF Tryz.prog 98 [t19, t21] w8 fun t22 w9 =>
        binW .mul t22 v1 fun t24 =>
        binW .gtr t24 (.int .i64 0) fun t25 =>
        condW t25 (
          ldW true 5 t8 w9 fun t26 =>
          stW 5 t6 t26 w9 fun w10 =>
          J6 [] w10) (
          J6 [] w9))
      fun s6 _ w11 =>
      binW .add (s4.getD 0 undef) (.int .i64 1) fun t27 =>
      L4 [t27] w11) (
      ldW true 5 t6 w5 fun t28 =>
      stW 5 t4 t28 w5 fun w12 =>
      ldW true 5 t4 w12 fun r13 =>
      K (.tuple #[r13, (.bool true)]) w12)
theorem W59_eq (v0 v1 : Value) (w : World) (K : Value → World → Prop) : funW Tryz.prog Tryz.f59 plan59 [v0, v1] w K = W59 v0 v1 w K := by kernel_rfl
theorem W59_chk : chkFun Tryz.prog Tryz.f59 plan59 2 = true := by kernel_rfl
theorem W59_ok {v0 v1 : Value} {w : World} {K : Value → World → Prop} (h : W59 v0 v1 w K) : callF Tryz.prog 59 [v0, v1] w K :=
  tie Tryz.prog 59 Tryz.f59 plan59 [v0, v1] w K 2 (W59 v0 v1 w K) rfl mixed Tryz.func59 W59_chk (W59_eq v0 v1 w K) Tryz.call59 h
def plan60 : Plan := { js := [(22, ⟨[19], [7, 8], 19⟩), (8, ⟨[12], [6, 7, 8], 12⟩)], ds := [(33, ⟨[0, 1, 2, 3, 4, 5, 6], [[], [], [], [2], [], [2, 3, 4], [2, 3, 4, 5], [0, 1, 2, 3, 4, 5, 6], [0, 1, 2, 3, 4, 5, 6, 7]]⟩)] }
def W60 (v0 : Value) (w : World) (K : Value → World → Prop) : Prop :=
  allocW 28 [(.int .i64 0), (.bool false), (.string (ofL [])), (.slice none 0 0), (.slice none 0 0)] w fun t2 w1 =>
  putW [(.int .i64 0), (.bool false), (.string (ofL [])), (.slice none 0 0), (.slice none 0 0)] [(0, 1, (.int .i64 6))] fun c2 =>
  allocW 28 [(.int .i64 0), (.bool false), (.string (ofL [])), (.slice none 0 0), (.slice none 0 0)] w1 fun t4 w3 =>
  stW 5 t4 (.agg c2.toArray) w3 fun w4 =>
  lenlW v0 fun t11 =>
  LoopW [(.int .i64 0)] w4 fun s5 _ w6 L5 =>
    binW .lss (s5.getD 0 undef) t11 fun t13 =>
    condW t13 (
      ixaW none 5 v0 (s5.getD 0 undef) fun t14 =>
      ldW true 5 t14 w6 fun t15 =>
      allocW 28 [(.int .i64 0), (.bool false), (.string (ofL [])), (.slice none 0 0), (.slice none 0 0)] w6 fun t6 w7 =>
      stW 5 t6 t15 w7 fun w8 =>
      fldW 4 t6 fun t16 =>
      ldW false 1 t16 w8 fun t17 =>
      lenlW t17 fun t18 =>
      LoopW [(.int .i64 0)] w8 fun s9 _ w10 L9 =>
        binW .lss (s9.getD 0 undef) t18 fun t20 =>
        condW t20 (
          ixaW none 1 t17 (s9.getD 0 undef) fun t22 =>
          ldW false 1 t22 w10 fun t23 =>
          ldW true 5 t4 w10.drew fun t24 =>
          fldW 3 t6 fun t26 =>
          ldW false 1 t26 w10.drew fun t27 =>
          ixaW none 5 t27 (s9.getD 0 undef) fun t29 =>
          ldW true 5 t29 w10.drew fun t30 =>
          callF Tryz.prog 99 [t24, t23, t30] w10.drew fun t31 w11 =>
          stW 5 t4 t31 w11 fun w12 =>
          binW .add (s9.getD 0 undef) (.int .i64 1) fun t32 =>
          L9 [t32] w12) (
          binW .add (s5.getD 0 undef) (.int .i64 1) fun t33 =>
          L5 [t33] w10)) (
      ldW true 5 t4 w6 fun t34 =>
      stW 5 t2 t34 w6 fun w13 =>
      ldW true 5 t2 w13 fun r14 =>
      K (.tuple #[r14, (.bool true)]) w13)
theorem W60_eq (v0 : Value) (w : World) (K : Value → World → Prop) : funW Tryz.prog Tryz.f60 plan60 [v0] w K = W60 v0 w K := by kernel_rfl
theorem W60_chk : chkFun Tryz.prog Tryz.f60 plan60 1 = true := by kernel_rfl
theorem W60_ok {v0 : Value} {w : World} {K : Value → World → Prop} (h : W60 v0 w K) : callF Tryz.prog 60 [v0] w K :=
  tie Tryz.prog 60 Tryz.f60 plan60 [v0] w K 1 (W60 v0 w K) rfl mixed Tryz.func60 W60_chk (W60_eq v0 w K) Tryz.call60 h
def plan61 : Plan := { js := [], ds := [] }
def W61 (v0 : Value) (w : World) (K : Value → World → Prop) : Prop :=
  allocW 28 [(.int .i64 0), (.bool false), (.string (ofL [])), (.slice none 0 0), (.slice none 0 0)] w fun t2 w1 =>
  callF Tryz.prog 59 [v0, (.int .i64 (-1))] w1 fun t5 w2 =>
  extW 0 t5 fun t6 =>
  extW 1 t5 fun t7 =>
  stW 5 t2 t6 w2 fun w3 =>
  ldW true 5 t2 w3 fun r4 =>
  K (.tuple #[r4, t7]) w3
theorem W61_eq (v0 : Value) (w : World) (K : Value → World → Prop) : funW Tryz.prog Tryz.f61 plan61 [v0] w K = W61 v0 w K := by kernel_rfl
theorem W61_chk : chkFun Tryz.prog Tryz.f61 plan61 1 = true := by kernel_rfl
theorem W61_ok {v0 : Value} {w : World} {K : Value → World → Prop} (h : W61 v0 w K) : callF Tryz.prog 61 [v0] w K :=
  tie Tryz.prog 61 Tryz.f61 plan61 [v0] w K 1 (W61 v0 w K) rfl mixed Tryz.func61 W61_chk (W61_eq v0 w K) Tryz.call61 h
def plan62 : Plan := { js := [(18, ⟨[29], [7], 29⟩), (6003, ⟨[24], [], 23⟩), (6007, ⟨[20], [], 19⟩)], ds := [(29, ⟨[0, 1, 2, 6], [[], [0], [], [2], [2, 3], [0, 1, 2, 3, 4], [0, 1, 2, 3, 4, 5], [0, 1, 2, 3, 4, 5, 6]]⟩)] }
def W62 (v0 : Value) (w : World) (K : Value → World → Prop) : Prop :=
  allocW 28 [(.int .i64 0), (.bool false), (.string (ofL [])), (.slice none 0 0), (.slice none 0 0)] w fun t2 w1 =>
  ixaW none 5 v0 (.int .i64 0) fun t10 =>
  fldW 2 t10 fun t11 =>
  ldW false 1 t11 w1 fun t12 =>
  callF Tryz.prog 100 [t12] w1 fun t13 w2 =>
  extW 0 t13 fun t14 =>
  extW 1 t13 fun t15 =>
  unW .not t15 fun t17 =>
  GdW (isB t17 false) [undef] w2 (fun J3 =>
    binW .lss t14 (.int .i64 0) fun t20 =>
    J3 [t20] w2)
  fun s3 _ w4 =>
  pickW t17 (.bool true) (s3.getD 0 undef) fun t21 =>
  GdW (isB t21 false) [undef] w4 (fun J5 =>
    binW .gtr t14 (.int .i64 32) fun t24 =>
    J5 [t24] w4)
  fun s5 _ w6 =>
  pickW t21 (.bool true) (s5.getD 0 undef) fun t25 =>
  condW t25 (
    putW [(.int .i64 0), (.bool false), (.string (ofL [])), (.slice none 0 0), (.slice none 0 0)] [] fun c7 =>
    stW 5 t2 (.agg c7.toArray) w6 fun w8 =>
    ldW true 5 t2 w8 fun r9 =>
    K (.tuple #[r9, (.bool false)]) w8) (
    putW [(.int .i64 0), (.bool false), (.string (ofL [])), (.slice none 0 0), (.slice none 0 0)] [(0, 1, (.int .i64 5))] fun c10 =>
    allocW 28 [(.int .i64 0), (.bool false), (.string (ofL [])), (.slice none 0 0), (.slice none 0 0)] w6 fun t6 w11 =>
    stW 5 t6 (.agg c10.toArray) w11 fun w12 =>
    LoopW [(.int .i64 0)] w12 fun s13 _ w14 L13 =>
      binW .lss (s13.getD 0 undef) t14 fun t30 =>
      condW t30 (
        fldW 3 t6 fun t32 =>
        ldW false 1 t32 w14.drew fun t33 =>
        callF Tryz.prog 95 [(s13.getD 0 undef)] w14.drew fun t35 w15 =>
        (ldW false 1 t32 w15 fun x => x = t33) ∧
        bslW 28 1 [(.int .i64 0), (.bool false), (.string (ofL [])), (.slice none 0 0), (.slice none 0 0)] [(0, 5, t35)] w15 fun t36 w16 =>
        (ldW false 1 t32 w16 fun x => x = t33) ∧
        semE Tryz.prog (Builtin.append_ #[22, 22] 22 #[t33, t36]) w16 fun t37 w17 =>
        fldW 3 t6 fun t38 =>
        stW 1 t38 t37 w17 fun w18 =>
        binW .add (s13.getD 0 undef) (.int .i64 1) fun t39 =>
        L13 [t39] w18) (
        ldW true 5 t6 w14 fun t40 =>
        stW 5 t2 t40 w14 fun w19 =>
        ldW true 5 t2 w19 fun r20 =>
        K (.tuple #[r20, (.bool true)]) w19))
theorem W62_eq (v0 : Value) (w : World) (K : Value → World → Prop) : funW Tryz.prog Tryz.f62 plan62 [v0] w K = W62 v0 w K := by kernel_rfl
theorem W62_chk : chkFun Tryz.prog Tryz.f62 plan62 1 = true := by kernel_rfl
theorem W62_ok {v0 : Value} {w : World} {K : Value → World → Prop} (h : W62 v0 w K) : callF Tryz.prog 62 [v0] w K :=
  tie Tryz.prog 62 Tryz.f62 plan62 [v0] w K 1 (W62 v0 w K) rfl mixed Tryz.func62 W62_chk (W62_eq v0 w K) Tryz.call62 h
def plan63 : Plan := { js := [], ds := [] }
def W63 (v0 : Value) (w : World) (K : Value → World → Prop) : Prop :=
  allocW 28 [(.int .i64 0), (.bool false), (.string (ofL [])), (.slice none 0 0), (.slice none 0 0)] w fun t2 w1 =>
  ixaW none 5 v0 (.int .i64 0) fun t7 =>
  ldW true 5 t7 w1 fun t8 =>
  callF Tryz.prog 90 [t8] w1 fun t9 w2 =>
  allocW 28 [(.int .i64 0), (.bool false), (.string (ofL [])), (.slice none 0 0), (.slice none 0 0)] w2 fun t4 w3 =>
  stW 5 t4 t9 w3 fun w4 =>
  fldW 0 t4 fun t10 =>
  ldW false 1 t10 w4 fun t11 =>
  binW .eql t11 (.int .i64 4) fun t13 =>
  condW t13 (
    fldW 2 t4 fun t14 =>
    ldW false 1 t14 w4 fun t15 =>
    callF Tryz.prog 96 [t15] w4 fun t16 w5 =>
    callF Tryz.prog 101 [t16] w5 fun t18 w6 =>
    callF Tryz.prog 94 [t16, (.string (ofL []))] w6 fun t20 w7 =>
    callF Tryz.prog 56 [t20] w7 fun t21 w8 =>
    stW 5 t2 t21 w8 fun w9 =>
    ldW true 5 t2 w9 fun r10 =>
    K (.tuple #[r10, (.bool true)]) w9) (
    binW .eql t11 (.int .i64 5) fun t23 =>
    condW t23 (
      fldW 3 t4 fun t24 =>
      ldW false 1 t24 w4 fun t25 =>
      callF Tryz.prog 102 [t25] w4 fun t26 w11 =>
      ldW true 5 t4 w11 fun t27 =>
      stW 5 t2 t27 w11 fun w12 =>
      ldW true 5 t2 w12 fun r13 =>
      K (.tuple #[r13, (.bool true)]) w12) (
      putW [(.int .i64 0), (.bool false), (.string (ofL [])), (.slice none 0 0), (.slice none 0 0)] [] fun c14 =>
      stW 5 t2 (.agg c14.toArray) w4 fun w15 =>
      ldW true 5 t2 w15 fun r16 =>
      K (.tuple #[r16, (.bool false)]) w15))
theorem W63_eq (v0 : Value) (w : World) (K : Value → World → Prop) : funW Tryz.prog Tryz.f63 plan63 [v0] w K = W63 v0 w K := by kernel_rfl
theorem W63_chk : chkFun Tryz.prog Tryz.f63 plan63 1 = true := by kernel_rfl
theorem W63_ok {v0 : Value} {w : World} {K : Value → World → Prop} (h : W63 v0 w K) : callF Tryz.prog 63 [v0] w K :=
  tie Tryz.prog 63 Tryz.f63 plan63 [v0] w K 1 (W63 v0 w K) rfl mixed Tryz.func63 W63_chk (W63_eq v0 w K) Tryz.call63 h
def plan64 : Plan := { js := [], ds := [(11, ⟨[0, 1, 2, 3, 4, 5, 6, 7, 11], [[], [0], [0, 1], [0, 1, 2], [], [4], [4, 5], [4, 5, 6], [0, 1, 2, 3, 4, 5, 6, 7], [0, 1, 2, 3, 4, 5, 6, 7, 8], [0, 1, 2, 3, 4, 5, 6, 7, 8, 9], [0, 1, 2, 3, 4, 5, 6, 7, 8, 9, 10]]⟩)] }
def W64 (v0 : Value) (w : World) (K : Value → World → Prop) : Prop :=
  allocW 28 [(.int .i64 0), (.bool false), (.string (ofL [])), (.slice none 0 0), (.slice none 0 0)] w fun t2 w1 =>
  ixaW none 5 v0 (.int .i64 0) fun t5 =>
  fldW 2 t5 fun t6 =>
  ldW false 1 t6 w1 fun t7 =>
  binW .eql t7 (.string (ofL [])) fun t8 =>
  condW t8 (
    putW [(.int .i64 0), (.bool false), (.string (ofL [])), (.slice none 0 0), (.slice none 0 0)] [] fun c2 =>
    stW 5 t2 (.agg c2.toArray) w1 fun w3 =>
    ldW true 5 t2 w3 fun r4 =>
    K (.tuple #[r4, (.bool false)]) w3) (
    ixaW none 5 v0 (.int .i64 1) fun t11 =>
    fldW 2 t11 fun t12 =>
    ldW false 1 t12 w1.drew fun t13 =>
    ixaW none 5 v0 (.int .i64 0) fun t15 =>
    fldW 2 t15 fun t16 =>
    ldW false 1 t16 w1.drew fun t17 =>
    callF Tryz.prog 103 [t13, t17] w1.drew fun t18 w5 =>
    callF Tryz.prog 52 [t18] w5 fun t19 w6 =>
    stW 5 t2 t19 w6 fun w7 =>
    ldW true 5 t2 w7 fun r8 =>
    K (.tuple #[r8, (.bool true)]) w7)
theorem W64_eq (v0 : Value) (w : World) (K : Value → World → Prop) : funW Tryz.prog Tryz.f64 plan64 [v0] w K = W64 v0 w K := by kernel_rfl
theorem W64_chk : chkFun Tryz.prog Tryz.f64 plan64 1 = true := by kernel_rfl
theorem W64_ok {v0 : Value} {w : World} {K : Value → World → Prop} (h : W64 v0 w K) : callF Tryz.prog 64 [v0] w K :=
  tie Tryz.prog 64 Tryz.f64 plan64 [v0] w K 1 (W64 v0 w K) rfl mixed Tryz.func64 W64_chk (W64_eq v0 w K) Tryz.call64 h
def plan65 : Plan := { js := [(22, ⟨[6], [], 6⟩), (14, ⟨[5], [5], 7⟩), (6007, ⟨[28], [], 23⟩)], ds := [] }
def W65 (v0 : Value) (w : World) (K : Value → World → Prop) : Prop :=
  allocW 28 [(.int .i64 0), (.bool false), (.string (ofL [])), (.slice none 0 0), (.slice none 0 0)] w fun t2 w1 =>
  ixaW none 5 v0 (.int .i64 0) fun t12 =>
  fldW 2 t12 fun t13 =>
  ldW false 1 t13 w1 fun t14 =>
  callF Tryz.prog 96 [t14] w1 fun t15 w2 =>
  ixaW none 5 v0 (.int .i64 1) fun t17 =>
  fldW 2 t17 fun t18 =>
  ldW false 1 t18 w2 fun t19 =>
  ixsW t19 (.int .i64 0) fun t20 =>
  binW .eql t20 (.int .u8 45) fun t21 =>
  GdW (isB t21 false) [undef] w2 (fun J3 =>
    ixaW none 5 v0 (.int .i64 2) fun t24 =>
    fldW 2 t24 fun t25 =>
    ldW false 1 t25 w2 fun t26 =>
    ixsW t26 (.int .i64 0) fun t27 =>
    binW .eql t27 (.int .u8 45) fun t28 =>
    J3 [t28] w2)
  fun s3 _ w4 =>
  pickW t21 (.bool true) (s3.getD 0 undef) fun t29 =>
  condW t29 (
    putW [(.int .i64 0), (.bool false), (.string (ofL [])), (.slice none 0 0), (.slice none 0 0)] [] fun c5 =>
    stW 5 t2 (.agg c5.toArray) w4 fun w6 =>
    ldW true 5 t2 w6 fun r7 =>
    K (.tuple #[r7, (.bool false)]) w6) (
    lenlW t15 fun t32 =>
    lenlW t15 fun t34 =>
    JoinW (fun J8 =>
      ixaW none 5 v0 (.int .i64 1) fun t37 =>
      fldW 2 t37 fun t38 =>
      ldW false 1 t38 w4 fun t39 =>
      callF Tryz.prog 100 [t39] w4 fun t40 w9 =>
      extW 0 t40 fun t41 =>
      extW 1 t40 fun t42 =>
      condW t42 (
        lenlW t15 fun t46 =>
        minW t41 t46 fun t47 =>
        J8 [t47] w9) (
        J8 [t32] w9))
    fun s8 _ w10 =>
    JoinW (fun J11 =>
      ixaW none 5 v0 (.int .i64 2) fun t50 =>
      fldW 2 t50 fun t51 =>
      ldW false 1 t51 w10 fun t52 =>
      callF Tryz.prog 100 [t52] w10 fun t53 w12 =>
      extW 0 t53 fun t54 =>
      extW 1 t53 fun t55 =>
      condW t55 (
        J11 [t54] w12) (
        J11 [t34] w12))
    fun s11 _ w13 =>
    sllW 1 t15 (some (s8.getD 0 undef)) none none fun t60 =>
    lenlW t15 fun t63 =>
    binW .sub t63 (s8.getD 0 undef) fun t65 =>
    minW (s11.getD 0 undef) t65 fun t66 =>
    sllW 1 t60 none (some t66) none fun t67 =>
    callF Tryz.prog 94 [t67, (.string (ofL []))] w13 fun t68 w14 =>
    callF Tryz.prog 56 [t68] w14 fun t69 w15 =>
    stW 5 t2 t69 w15 fun w16 =>
    ldW true 5 t2 w16 fun r17 =>
    K (.tuple #[r17, (.bool true)]) w16)
theorem W65_eq (v0 : Value) (w : World) (K : Value → World → Prop) : funW Tryz.prog Tryz.f65 plan65 [v0] w K = W65 v0 w K := by kernel_rfl
theorem W65_chk : chkFun Tryz.prog Tryz.f65 plan65 1 = true := by kernel_rfl
theorem W65_ok {v0 : Value} {w : World} {K : Value → World → Prop} (h : W65 v0 w K) : callF Tryz.prog 65 [v0] w K :=
  tie Tryz.prog 65 Tryz.f65 plan65 [v0] w K 1 (W65 v0 w K) rfl mixed Tryz.func65 W65_chk (W65_eq v0 w K) Tryz.call65 h
def plan66 : Plan := { js := [(6007, ⟨[21], [], 16⟩), (6011, ⟨[13], [], 12⟩)], ds := [] }
def W66 (v0 : Value) (w : World) (K : Value → World → Prop) : Prop :=
  allocW 28 [(.int .i64 0), (.bool false), (.string (ofL [])), (.slice none 0 0), (.slice none 0 0)] w fun t2 w1 =>
  ixaW none 5 v0 (.int .i64 0) fun t6 =>
  fldW 0 t6 fun t7 =>
  ldW false 1 t7 w1 fun t8 =>
  binW .neq t8 (.int .i64 4) fun t10 =>
  GdW (isB t10 true) [undef] w1 (fun J2 =>
    binW .neq t8 (.int .i64 3) fun t13 =>
    J2 [t13] w1)
  fun s2 _ w3 =>
  pickW t10 (s2.getD 0 undef) (.bool false) fun t14 =>
  GdW (isB t14 false) [undef] w3 (fun J4 =>
    ixaW none 5 v0 (.int .i64 0) fun t17 =>
    fldW 2 t17 fun t18 =>
    ldW false 1 t18 w3 fun t19 =>
    callF Tryz.prog 87 [t19] w3 fun t20 w5 =>
    unW .not t20 fun t21 =>
    J4 [t21] w5)
  fun s4 _ w6 =>
  pickW t14 (.bool true) (s4.getD 0 undef) fun t22 =>
  condW t22 (
    putW [(.int .i64 0), (.bool false), (.string (ofL [])), (.slice none 0 0), (.slice none 0 0)] [] fun c7 =>
    stW 5 t2 (.agg c7.toArray) w6 fun w8 =>
    ldW true 5 t2 w8 fun r9 =>
    K (.tuple #[r9, (.bool false)]) w8) (
    ixaW none 5 v0 (.int .i64 0) fun t25 =>
    fldW 2 t25 fun t26 =>
    ldW false 1 t26 w6 fun t27 =>
    putW [(.int .i64 0), (.bool false), (.string (ofL [])), (.slice none 0 0), (.slice none 0 0)] [(0, 1, (.int .i64 3)), (2, 1, t27)] fun c10 =>
    stW 5 t2 (.agg c10.toArray) w6 fun w11 =>
    ldW true 5 t2 w11 fun r12 =>
    K (.tuple #[r12, (.bool true)]) w11)
theorem W66_eq (v0 : Value) (w : World) (K : Value → World → Prop) : funW Tryz.prog Tryz.f66 plan66 [v0] w K = W66 v0 w K := by kernel_rfl
theorem W66_chk : chkFun Tryz.prog Tryz.f66 plan66 1 = true := by kernel_rfl
theorem W66_ok {v0 : Value} {w : World} {K : Value → World → Prop} (h : W66 v0 w K) : callF Tryz.prog 66 [v0] w K :=
  tie Tryz.prog 66 Tryz.f66 plan66 [v0] w K 1 (W66 v0 w K) rfl mixed Tryz.func66 W66_chk (W66_eq v0 w K) Tryz.call66 h
def plan67 : Plan := { js := [(20, ⟨[16], [], 3⟩)], ds := [] }
def W67 (v0 : Value) (w : World) (K : Value → World → Prop) : Prop :=
  allocW 28 [(.int .i64 0), (.bool false), (.string (ofL [])), (.slice none 0 0), (.slice none 0 0)] w fun t2 w1 =>
  ixaW none 5 v0 (.int .i64 0) fun t5 =>
  fldW 0 t5 fun t6 =>
  ldW false 1 t6 w1 fun t7 =>
  binW .eql t7 (.int .i64 2) fun t9 =>
  condW t9 (
    ixaW none 5 v0 (.int .i64 0) fun t11 =>
    fldW 1 t11 fun t12 =>
    ldW false 1 t12 w1 fun t13 =>
    condW t13 (
      callF Tryz.prog 56 [(.string (ofL [116, 114, 117, 101]))] w1 fun t14 w2 =>
      stW 5 t2 t14 w2 fun w3 =>
      ldW true 5 t2 w3 fun r4 =>
      K (.tuple #[r4, (.bool true)]) w3) (
      callF Tryz.prog 56 [(.string (ofL [102, 97, 108, 115, 101]))] w1 fun t15 w5 =>
      stW 5 t2 t15 w5 fun w6 =>
      ldW true 5 t2 w6 fun r7 =>
      K (.tuple #[r7, (.bool true)]) w6)) (
    JoinW (fun J8 =>
      binW .eql t7 (.int .i64 3) fun t17 =>
      condW t17 (
        J8 [t17] w1) (
        binW .eql t7 (.int .i64 4) fun t18 =>
        J8 [t18] w1))
    fun s8 _ w9 =>
    condW (s8.getD 0 undef) (
      ixaW none 5 v0 (.int .i64 0) fun t20 =>
      fldW 2 t20 fun t21 =>
      ldW false 1 t21 w9 fun t22 =>
      callF Tryz.prog 56 [t22] w9 fun t23 w10 =>
      stW 5 t2 t23 w10 fun w11 =>
      ldW true 5 t2 w11 fun r12 =>
      K (.tuple #[r12, (.bool true)]) w11) (
      putW [(.int .i64 0), (.bool false), (.string (ofL [])), (.slice none 0 0), (.slice none 0 0)] [] fun c13 =>
      stW 5 t2 (.agg c13.toArray) w9 fun w14 =>
      ldW true 5 t2 w14 fun r15 =>
      K (.tuple #[r15, (.bool false)]) w14))
theorem W67_eq (v0 : Value) (w : World) (K : Value → World → Prop) : funW Tryz.prog Tryz.f67 plan67 [v0] w K = W67 v0 w K := by kernel_rfl
theorem W67_chk : chkFun Tryz.prog Tryz.f67 plan67 1 = true := by kernel_rfl
theorem W67_ok {v0 : Value} {w : World} {K : Value → World → Prop} (h : W67 v0 w K) : callF Tryz.prog 67 [v0] w K :=
  tie Tryz.prog 67 Tryz.f67 plan67 [v0] w K 1 (W67 v0 w K) rfl mixed Tryz.func67 W67_chk (W67_eq v0 w K) Tryz.call67 h
def plan68 : Plan := { js := [], ds := [] }
def W68 (v0 : Value) (w : World) (K : Value → World → Prop) : Prop :=
  allocW 28 [(.int .i64 0), (.bool false), (.string (ofL [])), (.slice none 0 0), (.slice none 0 0)] w fun t2 w1 =>
  ixaW none 5 v0 (.int .i64 0) fun t5 =>
  fldW 2 t5 fun t6 =>
  ldW false 1 t6 w1 fun t7 =>
  callF Tryz.prog 57 [t7, (.int .u8 97), (.int .u8 65)] w1 fun t8 w2 =>
  callF Tryz.prog 56 [t8] w2 fun t9 w3 =>
  stW 5 t2 t9 w3 fun w4 =>
  ldW true 5 t2 w4 fun r5 =>
  K (.tuple #[r5, (.bool true)]) w4
theorem W68_eq (v0 : Value) (w : World) (K : Value → World → Prop) : funW Tryz.prog Tryz.f68 plan68 [v0] w K = W68 v0 w K := by kernel_rfl
theorem W68_chk : chkFun Tryz.prog Tryz.f68 plan68 1 = true := by kernel_rfl
theorem W68_ok {v0 : Value} {w : World} {K : Value → World → Prop} (h : W68 v0 w K) : callF Tryz.prog 68 [v0] w K :=
  tie Tryz.prog 68 Tryz.f68 plan68 [v0] w K 1 (W68 v0 w K) rfl mixed Tryz.func68 W68_chk (W68_eq v0 w K) Tryz.call68 h
def plan69 : Plan := { js := [], ds := [] }
def W69 (v0 : Value) (w : World) (K : Value → World → Prop) : Prop :=
  allocW 28 [(.int .i64 0), (.bool false), (.string (ofL [])), (.slice none 0 0), (.slice none 0 0)] w fun t2 w1 =>
  ixaW none 5 v0 (.int .i64 0) fun t5 =>
  fldW 3 t5 fun t6 =>
  ldW false 1 t6 w1 fun t7 =>
  callF Tryz.prog 70 [t7] w1 fun t8 w2 =>
  stW 5 t2 t8 w2 fun w3 =>
  ldW true 5 t2 w3 fun r4 =>
  K (.tuple #[r4, (.bool true)]) w3
theorem W69_eq (v0 : Value) (w : World) (K : Value → World → Prop) : funW Tryz.prog Tryz.f69 plan69 [v0] w K = W69 v0 w K := by kernel_rfl
theorem W69_chk : chkFun Tryz.prog Tryz.f69 plan69 1 = true := by kernel_rfl
theorem W69_ok {v0 : Value} {w : World} {K : Value → World → Prop} (h : W69 v0 w K) : callF Tryz.prog 69 [v0] w K :=
  tie Tryz.prog 69 Tryz.f69 plan69 [v0] w K 1 (W69 v0 w K) rfl mixed Tryz.func69 W69_chk (W69_eq v0 w K) Tryz.call69 h
def plan74 : Plan := { js := [], ds := [] }
def W74 (v0 : Value) (w : World) (K : Value → World → Prop) : Prop :=
  binW .eql v0 (.int .u8 110) fun t5 =>
  condW t5 (
    K (.int .i64 3) w) (
    binW .eql v0 (.int .u8 115) fun t7 =>
    condW t7 (
      K (.int .i64 4) w) (
      binW .eql v0 (.int .u8 108) fun t9 =>
      condW t9 (
        K (.int .i64 5) w) (
        binW .eql v0 (.int .u8 111) fun t11 =>
        condW t11 (
          K (.int .i64 6) w) (
          K (.int .i64 (-1)) w))))
theorem W74_eq (v0 : Value) (w : World) (K : Value → World → Prop) : funW Tryz.prog Tryz.f74 plan74 [v0] w K = W74 v0 w K := by kernel_rfl
theorem W74_chk : chkFun Tryz.prog Tryz.f74 plan74 1 = true := by kernel_rfl
theorem W74_ok {v0 : Value} {w : World} {K : Value → World → Prop} (h : W74 v0 w K) : callF Tryz.prog 74 [v0] w K :=
  tie Tryz.prog 74 Tryz.f74 plan74 [v0] w K 1 (W74 v0 w K) rfl mixed Tryz.func74 W74_chk (W74_eq v0 w K) Tryz.call74 h
def plan92 : Plan := { js := [], ds := [(3, ⟨[0, 1, 2, 3, 5], [[], [], [1], [1, 2], [0, 1, 2, 3], [0, 1, 2, 3, 4]]⟩)] }
def W92 (v0 v1 : Value) (w : World) (K : Value → World → Prop) : Prop :=
  boxW 28 v0 w fun t2 w1 =>
  ldW true 5 t2 w1.drew fun t4 =>
  ldW false 1 v1 w1.drew fun t5 =>
  ixaW none 5 t5 (.int .i64 1) fun t6 =>
  ldW true 5 t6 w1.drew fun t7 =>
  callF Tryz.prog 93 [t4, t7] w1.drew fun t8 w2 =>
  K t8 w2
theorem W92_eq (v0 v1 : Value) (w : World) (K : Value → World → Prop) : funW Tryz.prog Tryz.f92 plan92 [v0, v1] w K = W92 v0 v1 w K := by kernel_rfl
theorem W92_chk : chkFun Tryz.prog Tryz.f92 plan92 2 = true := by kernel_rfl
theorem W92_ok {v0 v1 : Value} {w : World} {K : Value → World → Prop} (h : W92 v0 v1 w K) : callF Tryz.prog 92 [v0, v1] w K :=
  tie Tryz.prog 92 Tryz.f92 plan92 [v0, v1] w K 2 (W92 v0 v1 w K) rfl mixed Tryz.func92 W92_chk (W92_eq v0 v1 w K) Tryz.call92 h
def plan96 : Plan := { js := [(10, ⟨[3, 4], [3, 4, 5], 8⟩)], ds := [] }
def W96 (v0 : Value) (w : World) (K : Value → World → Prop) : Prop :=
  semE Tryz.prog (Instr.range 9 v0) w fun t7 w1 =>
  LoopW [(.slice none 0 0), (.int .i64 0)] w1 fun s2 _ w3 L2 =>
    semE Tryz.prog (Instr.next t7 true 0) w3 fun t8 w4 =>
    extW 0 t8 fun t9 =>
    condW t9 (
      extW 1 t8 fun t10 =>
      binW .gtr t10 (.int .i64 0) fun t12 =>
      condW t12 (
        slsW v0 (some (s2.getD 1 undef)) (some t10) fun t17 =>
        bslW 9 1 [(.string (ofL []))] [(0, 1, t17)] w4 fun t18 w5 =>
        semE Tryz.prog (Builtin.append_ #[26, 26] 26 #[(s2.getD 0 undef), t18]) w5 fun t19 w6 =>
        L2 [t19, t10] w6) (
        L2 [(s2.getD 0 undef), (s2.getD 1 undef)] w4)) (
      binW .neq v0 (.string (ofL [])) fun t22 =>
      condW t22 (
        slsW v0 (some (s2.getD 1 undef)) none fun t26 =>
        bslW 9 1 [(.string (ofL []))] [(0, 1, t26)] w4 fun t27 w7 =>
        semE Tryz.prog (Builtin.append_ #[26, 26] 26 #[(s2.getD 0 undef), t27]) w7 fun t28 w8 =>
        K t28 w8) (
        K (s2.getD 0 undef) w4))
theorem W96_eq (v0 : Value) (w : World) (K : Value → World → Prop) : funW Tryz.prog Tryz.f96 plan96 [v0] w K = W96 v0 w K := by kernel_rfl
theorem W96_chk : chkFun Tryz.prog Tryz.f96 plan96 1 = true := by kernel_rfl
theorem W96_ok {v0 : Value} {w : World} {K : Value → World → Prop} (h : W96 v0 w K) : callF Tryz.prog 96 [v0] w K :=
  tie Tryz.prog 96 Tryz.f96 plan96 [v0] w K 1 (W96 v0 w K) rfl mixed Tryz.func96 W96_chk (W96_eq v0 w K) Tryz.call96 h
end Go.Proofs.YtdkikjcpgihjlaaGreatDoor
namespace Go.Proofs.YtdkikjcpgihjlaaGreatDoor
open Go Go.Eng
set_option maxRecDepth 100000
variable [HX]
def plan26 : Plan := { js := [], ds := [] }
def W26 (w : World) (K : Value → World → Prop) : Prop :=
  allocW 28 [(.int .i64 0), (.bool false), (.string (ofL [])), (.slice none 0 0), (.slice none 0 0)] w fun t0 w1 =>
  putW [(.int .i64 0), (.bool false), (.string (ofL [])), (.slice none 0 0), (.slice none 0 0)] [(0, 1, (.int .i64 1))] fun c2 =>
  stW 5 t0 (.agg c2.toArray) w1 fun w3 =>
  ldW true 5 t0 w3 fun r4 =>
  K r4 w3
theorem W26_eq (w : World) (K : Value → World → Prop) : funW Tryz.prog Tryz.f26 plan26 [] w K = W26 w K := by kernel_rfl
theorem W26_chk : chkFun Tryz.prog Tryz.f26 plan26 0 = true := by kernel_rfl
theorem W26_ok {w : World} {K : Value → World → Prop} (h : W26 w K) : callF Tryz.prog 26 [] w K :=
  tie Tryz.prog 26 Tryz.f26 plan26 [] w K 0 (W26 w K) rfl mixed Tryz.func26 W26_chk (W26_eq w K) Tryz.call26 h
def plan30 : Plan := { js := [], ds := [] }
def W30 (v0 : Value) (w : World) (K : Value → World → Prop) : Prop :=
  boxW 28 v0 w fun t1 w1 =>
  allocW 3 [(.int .i64 0)] w1 fun t3 w2 =>
  stW 1 t3 (.int .i64 2000) w2 fun w3 =>
  ldW true 5 t1 w3 fun t4 =>
  callF Tryz.prog 45 [t4, (.int .i64 24), t3] w3 fun t5 w4 =>
  K t5 w4
theorem W30_eq (v0 : Value) (w : World) (K : Value → World → Prop) : funW Tryz.prog Tryz.f30 plan30 [v0] w K = W30 v0 w K := by kernel_rfl
theorem W30_chk : chkFun Tryz.prog Tryz.f30 plan30 1 = true := by kernel_rfl
theorem W30_ok {v0 : Value} {w : World} {K : Value → World → Prop} (h : W30 v0 w K) : callF Tryz.prog 30 [v0] w K :=
  tie Tryz.prog 30 Tryz.f30 plan30 [v0] w K 1 (W30 v0 w K) rfl mixed Tryz.func30 W30_chk (W30_eq v0 w K) Tryz.call30 h
def plan34 : Plan := { js := [], ds := [] }
def W34 (w : World) (K : Value → World → Prop) : Prop :=
  allocW 28 [(.int .i64 0), (.bool false), (.string (ofL [])), (.slice none 0 0), (.slice none 0 0)] w fun t0 w1 =>
  putW [(.int .i64 0), (.bool false), (.string (ofL [])), (.slice none 0 0), (.slice none 0 0)] [(0, 1, (.int .i64 1))] fun c2 =>
  stW 5 t0 (.agg c2.toArray) w1 fun w3 =>
  ldW true 5 t0 w3 fun r4 =>
  K r4 w3
theorem W34_eq (w : World) (K : Value → World → Prop) : funW Tryz.prog Tryz.f34 plan34 [] w K = W34 w K := by kernel_rfl
theorem W34_chk : chkFun Tryz.prog Tryz.f34 plan34 0 = true := by kernel_rfl
theorem W34_ok {w : World} {K : Value → World → Prop} (h : W34 w K) : callF Tryz.prog 34 [] w K :=
  tie Tryz.prog 34 Tryz.f34 plan34 [] w K 0 (W34 w K) rfl mixed Tryz.func34 W34_chk (W34_eq w K) Tryz.call34 h
def plan45 : Plan := { js := [(89007, ⟨[130], [], 126⟩), (12, ⟨[], [], 6⟩), (78002, ⟨[119], [], 108⟩), (78010, ⟨[118], [], 111⟩), (78013, ⟨[110], [], 108⟩), (66, ⟨[99], [6, 7, 8], 99⟩), (40010, ⟨[79], [], 72⟩), (34010, ⟨[63], [], 56⟩), (28010, ⟨[48], [], 41⟩), (16, ⟨[33], [], 33⟩), (6002, ⟨[29], [], 23⟩), (6005, ⟨[28], [], 26⟩), (6008, ⟨[25], [], 23⟩), (6014, ⟨[20], [], 17⟩)], ds := [] }
def W45 (v0 v1 v2 : Value) (w : World) (K : Value → World → Prop) : Prop :=
  boxW 28 v0 w fun t3 w1 =>
  boxW 3 v1 w1 fun t4 w2 =>
  boxW 72 v2 w2 fun t5 w3 =>
  ldW false 1 t5 w3 fun t9 =>
  nilW t9 fun t10 =>
  ldW false 1 t10 w3 fun t11 =>
  binW .sub t11 (.int .i64 1) fun t12 =>
  nilW t9 fun t13 =>
  stW 1 t13 t12 w3 fun w4 =>
  ldW false 1 t4 w4 fun t14 =>
  binW .eql t14 (.int .i64 0) fun t15 =>
  GdW (isB t15 false) [undef] w4 (fun J5 =>
    ldW false 1 t5 w4 fun t17 =>
    nilW t17 fun t18 =>
    ldW false 1 t18 w4 fun t19 =>
    binW .lss t19 (.int .i64 0) fun t20 =>
    J5 [t20] w4)
  fun s5 _ w6 =>
  pickW t15 (.bool true) (s5.getD 0 undef) fun t21 =>
  GdW (isB t21 false) [undef] w6 (fun J7 =>
    fldW 1 t3 fun t23 =>
    ldW false 1 t23 w6 fun t24 =>
    J7 [t24] w6)
  fun s7 _ w8 =>
  GdW (isB (s7.getD 0 undef) true) [undef] w8 (fun J9 =>
    fldW 0 t3 fun t26 =>
    ldW false 1 t26 w8 fun t27 =>
    binW .neq t27 (.int .i64 2) fun t28 =>
    J9 [t28] w8)
  fun s9 _ w10 =>
  GdW (isB t21 false) [undef] w10 (fun J11 =>
    pickW (s7.getD 0 undef) (s9.getD 0 undef) (.bool false) fun t29 =>
    J11 [t29] w10)
  fun s11 _ w12 =>
  pickW t21 (.bool true) (s11.getD 0 undef) fun t30 =>
  condW t30 (
    K (.bool false) w12) (
    JoinW (fun J13 =>
      fldW 0 t3 fun t31 =>
      ldW false 1 t31 w12 fun t32 =>
      JoinW (fun J14 =>
        binW .eql t32 (.int .i64 0) fun t34 =>
        condW t34 (
          J14 [t34] w12) (
          binW .eql t32 (.int .i64 1) fun t35 =>
          condW t35 (
            J14 [t35] w12) (
            binW .eql t32 (.int .i64 2) fun t36 =>
            J14 [t36] w12)))
      fun s14 _ w15 =>
      condW (s14.getD 0 undef) (
        fldW 2 t3 fun t37 =>
        ldW false 1 t37 w15 fun t38 =>
        binW .eql t38 (.string (ofL [])) fun t39 =>
        GdW (isB t39 true) [undef] w15 (fun J16 =>
          fldW 3 t3 fun t41 =>
          ldW false 1 t41 w15 fun t42 =>
          lenlW t42 fun t43 =>
          fldW 4 t3 fun t44 =>
          ldW false 1 t44 w15 fun t45 =>
          lenlW t45 fun t46 =>
          binW .add t43 t46 fun t47 =>
          binW .eql t47 (.int .i64 0) fun t48 =>
          J16 [t48] w15)
        fun s16 _ w17 =>
        pickW t39 (s16.getD 0 undef) (.bool false) fun t49 =>
        K t49 w17) (
        binW .eql t32 (.int .i64 3) fun t51 =>
        condW t51 (
          fldW 2 t3 fun t52 =>
          ldW false 1 t52 w15 fun t53 =>
          callF Tryz.prog 87 [t53] w15 fun t54 w18 =>
          GdW (isB t54 true) [undef] w18 (fun J19 =>
            fldW 3 t3 fun t56 =>
            ldW false 1 t56 w18 fun t57 =>
            lenlW t57 fun t58 =>
            fldW 4 t3 fun t59 =>
            ldW false 1 t59 w18 fun t60 =>
            lenlW t60 fun t61 =>
            binW .add t58 t61 fun t62 =>
            binW .eql t62 (.int .i64 0) fun t63 =>
            J19 [t63] w18)
          fun s19 _ w20 =>
          pickW t54 (s19.getD 0 undef) (.bool false) fun t64 =>
          K t64 w20) (
          binW .eql t32 (.int .i64 4) fun t66 =>
          condW t66 (
            fldW 2 t3 fun t67 =>
            ldW false 1 t67 w15 fun t68 =>
            lensW t68 fun t69 =>
            binW .leq t69 (.int .i64 16384) fun t70 =>
            GdW (isB t70 true) [undef] w15 (fun J21 =>
              fldW 3 t3 fun t72 =>
              ldW false 1 t72 w15 fun t73 =>
              lenlW t73 fun t74 =>
              fldW 4 t3 fun t75 =>
              ldW false 1 t75 w15 fun t76 =>
              lenlW t76 fun t77 =>
              binW .add t74 t77 fun t78 =>
              binW .eql t78 (.int .i64 0) fun t79 =>
              J21 [t79] w15)
            fun s21 _ w22 =>
            pickW t70 (s21.getD 0 undef) (.bool false) fun t80 =>
            K t80 w22) (
            binW .eql t32 (.int .i64 5) fun t82 =>
            condW t82 (
              fldW 4 t3 fun t83 =>
              ldW false 1 t83 w15 fun t84 =>
              lenlW t84 fun t85 =>
              binW .gtr t85 (.int .i64 0) fun t86 =>
              condW t86 (
                K (.bool false) w15) (
                J13 [] w15)) (
              binW .eql t32 (.int .i64 6) fun t88 =>
              condW t88 (
                fldW 4 t3 fun t89 =>
                ldW false 1 t89 w15 fun t90 =>
                lenlW t90 fun t91 =>
                fldW 3 t3 fun t92 =>
                ldW false 1 t92 w15 fun t93 =>
                lenlW t93 fun t94 =>
                binW .neq t91 t94 fun t95 =>
                condW t95 (
                  K (.bool false) w15) (
                  fldW 4 t3 fun t96 =>
                  ldW false 1 t96 w15 fun t97 =>
                  lenlW t97 fun t98 =>
                  LoopW [(.int .i64 0)] w15 fun s23 _ w24 L23 =>
                    binW .lss (s23.getD 0 undef) t98 fun t100 =>
                    condW t100 (
                      ixaW none 1 t97 (s23.getD 0 undef) fun t102 =>
                      ldW false 1 t102 w24 fun t103 =>
                      lensW t103 fun t105 =>
                      binW .gtr t105 (.int .i64 16384) fun t106 =>
                      GdW (isB t106 false) [undef] w24 (fun J25 =>
                        binW .gtr (s23.getD 0 undef) (.int .i64 0) fun t109 =>
                        J25 [t109] w24)
                      fun s25 _ w26 =>
                      GdW (isB (s25.getD 0 undef) true) [undef] w26 (fun J27 =>
                        fldW 4 t3 fun t111 =>
                        ldW false 1 t111 w26 fun t112 =>
                        binW .sub (s23.getD 0 undef) (.int .i64 1) fun t114 =>
                        ixaW none 1 t112 t114 fun t115 =>
                        ldW false 1 t115 w26 fun t116 =>
                        binW .geq t116 t103 fun t118 =>
                        J27 [t118] w26)
                      fun s27 _ w28 =>
                      GdW (isB t106 false) [undef] w28 (fun J29 =>
                        pickW (s25.getD 0 undef) (s27.getD 0 undef) (.bool false) fun t119 =>
                        J29 [t119] w28)
                      fun s29 _ w30 =>
                      pickW t106 (.bool true) (s29.getD 0 undef) fun t120 =>
                      condW t120 (
                        K (.bool false) w30) (
                        binW .add (s23.getD 0 undef) (.int .i64 1) fun t121 =>
                        L23 [t121] w30)) (
                      J13 [] w24))) (
                K (.bool false) w15))))))
    fun s13 _ w31 =>
    fldW 2 t3 fun t122 =>
    ldW false 1 t122 w31 fun t123 =>
    binW .eql t123 (.string (ofL [])) fun t124 =>
    GdW (isB t124 true) [undef] w31 (fun J32 =>
      fldW 3 t3 fun t126 =>
      ldW false 1 t126 w31 fun t127 =>
      callF Tryz.prog 28 [t127, (.func (.func 88) #[] #[t4, t5])] w31 fun t129 w33 =>
      unW .not t129 fun t130 =>
      J32 [t130] w33)
    fun s32 _ w34 =>
    pickW t124 (s32.getD 0 undef) (.bool false) fun t131 =>
    K t131 w34)
theorem W45_eq (v0 v1 v2 : Value) (w : World) (K : Value → World → Prop) : funW Tryz.prog Tryz.f45 plan45 [v0, v1, v2] w K = W45 v0 v1 v2 w K := by kernel_rfl
theorem W45_chk : chkFun Tryz.prog Tryz.f45 plan45 3 = true := by kernel_rfl
theorem W45_ok {v0 v1 v2 : Value} {w : World} {K : Value → World → Prop} (h : W45 v0 v1 v2 w K) : callF Tryz.prog 45 [v0, v1, v2] w K :=
  tie Tryz.prog 45 Tryz.f45 plan45 [v0, v1, v2] w K 3 (W45 v0 v1 v2 w K) rfl mixed Tryz.func45 W45_chk (W45_eq v0 v1 v2 w K) Tryz.call45 h
def plan56 : Plan := { js := [], ds := [] }
def W56 (v0 : Value) (w : World) (K : Value → World → Prop) : Prop :=
  allocW 28 [(.int .i64 0), (.bool false), (.string (ofL [])), (.slice none 0 0), (.slice none 0 0)] w fun t2 w1 =>
  putW [(.int .i64 0), (.bool false), (.string (ofL [])), (.slice none 0 0), (.slice none 0 0)] [(0, 1, (.int .i64 4)), (2, 1, v0)] fun c2 =>
  stW 5 t2 (.agg c2.toArray) w1 fun w3 =>
  ldW true 5 t2 w3 fun r4 =>
  K r4 w3
theorem W56_eq (v0 : Value) (w : World) (K : Value → World → Prop) : funW Tryz.prog Tryz.f56 plan56 [v0] w K = W56 v0 w K := by kernel_rfl
theorem W56_chk : chkFun Tryz.prog Tryz.f56 plan56 1 = true := by kernel_rfl
theorem W56_ok {v0 : Value} {w : World} {K : Value → World → Prop} (h : W56 v0 w K) : callF Tryz.prog 56 [v0] w K :=
  tie Tryz.prog 56 Tryz.f56 plan56 [v0] w K 1 (W56 v0 w K) rfl mixed Tryz.func56 W56_chk (W56_eq v0 w K) Tryz.call56 h
def plan70 : Plan := { js := [], ds := [] }
def W70 (v0 : Value) (w : World) (K : Value → World → Prop) : Prop :=
  allocW 28 [(.int .i64 0), (.bool false), (.string (ofL [])), (.slice none 0 0), (.slice none 0 0)] w fun t2 w1 =>
  callF Tryz.prog 104 [v0] w1 fun t4 w2 =>
  putW [(.int .i64 0), (.bool false), (.string (ofL [])), (.slice none 0 0), (.slice none 0 0)] [(0, 1, (.int .i64 5)), (3, 1, t4)] fun c3 =>
  stW 5 t2 (.agg c3.toArray) w2 fun w4 =>
  ldW true 5 t2 w4 fun r5 =>
  K r5 w4
theorem W70_eq (v0 : Value) (w : World) (K : Value → World → Prop) : funW Tryz.prog Tryz.f70 plan70 [v0] w K = W70 v0 w K := by kernel_rfl
theorem W70_chk : chkFun Tryz.prog Tryz.f70 plan70 1 = true := by kernel_rfl
theorem W70_ok {v0 : Value} {w : World} {K : Value → World → Prop} (h : W70 v0 w K) : callF Tryz.prog 70 [v0] w K :=
  tie Tryz.prog 70 Tryz.f70 plan70 [v0] w K 1 (W70 v0 w K) rfl mixed Tryz.func70 W70_chk (W70_eq v0 w K) Tryz.call70 h
def plan88 : Plan := { js := [], ds := [] }
def W88 (v0 v1 v2 : Value) (w : World) (K : Value → World → Prop) : Prop :=
  boxW 28 v0 w fun t3 w1 =>
  ldW true 5 t3 w1 fun t5 =>
  ldW false 1 v1 w1 fun t6 =>
  binW .sub t6 (.int .i64 1) fun t7 =>
  ldW false 1 v2 w1 fun t8 =>
  callF Tryz.prog 45 [t5, t7, t8] w1 fun t9 w2 =>
  unW .not t9 fun t10 =>
  K t10 w2
theorem W88_eq (v0 v1 v2 : Value) (w : World) (K : Value → World → Prop) : funW Tryz.prog Tryz.f88 plan88 [v0, v1, v2] w K = W88 v0 v1 v2 w K := by kernel_rfl
theorem W88_chk : chkFun Tryz.prog Tryz.f88 plan88 3 = true := by kernel_rfl
theorem W88_ok {v0 v1 v2 : Value} {w : World} {K : Value → World → Prop} (h : W88 v0 v1 v2 w K) : callF Tryz.prog 88 [v0, v1, v2] w K :=
  tie Tryz.prog 88 Tryz.f88 plan88 [v0, v1, v2] w K 3 (W88 v0 v1 v2 w K) rfl mixed Tryz.func88 W88_chk (W88_eq v0 v1 v2 w K) Tryz.call88 h
def plan91 : Plan := { js := [], ds := [] }
def W91 (v0 : Value) (w : World) (K : Value → World → Prop) : Prop :=
  allocW 28 [(.int .i64 0), (.bool false), (.string (ofL [])), (.slice none 0 0), (.slice none 0 0)] w fun t2 w1 =>
  putW [(.int .i64 0), (.bool false), (.string (ofL [])), (.slice none 0 0), (.slice none 0 0)] [(0, 1, (.int .i64 2)), (1, 1, v0)] fun c2 =>
  stW 5 t2 (.agg c2.toArray) w1 fun w3 =>
  ldW true 5 t2 w3 fun r4 =>
  K r4 w3
theorem W91_eq (v0 : Value) (w : World) (K : Value → World → Prop) : funW Tryz.prog Tryz.f91 plan91 [v0] w K = W91 v0 w K := by kernel_rfl
theorem W91_chk : chkFun Tryz.prog Tryz.f91 plan91 1 = true := by kernel_rfl
theorem W91_ok {v0 : Value} {w : World} {K : Value → World → Prop} (h : W91 v0 w K) : callF Tryz.prog 91 [v0] w K :=
  tie Tryz.prog 91 Tryz.f91 plan91 [v0] w K 1 (W91 v0 w K) rfl mixed Tryz.func91 W91_chk (W91_eq v0 w K) Tryz.call91 h
def plan95 : Plan := { js := [], ds := [] }
def W95 (v0 : Value) (w : World) (K : Value → World → Prop) : Prop :=
  allocW 28 [(.int .i64 0), (.bool false), (.string (ofL [])), (.slice none 0 0), (.slice none 0 0)] w fun t2 w1 =>
  callF Tryz.prog 132 [v0] w1 fun t4 w2 =>
  putW [(.int .i64 0), (.bool false), (.string (ofL [])), (.slice none 0 0), (.slice none 0 0)] [(0, 1, (.int .i64 3)), (2, 1, t4)] fun c3 =>
  stW 5 t2 (.agg c3.toArray) w2 fun w4 =>
  ldW true 5 t2 w4 fun r5 =>
  K r5 w4
theorem W95_eq (v0 : Value) (w : World) (K : Value → World → Prop) : funW Tryz.prog Tryz.f95 plan95 [v0] w K = W95 v0 w K := by kernel_rfl
theorem W95_chk : chkFun Tryz.prog Tryz.f95 plan95 1 = true := by kernel_rfl
theorem W95_ok {v0 : Value} {w : World} {K : Value → World → Prop} (h : W95 v0 w K) : callF Tryz.prog 95 [v0] w K :=
  tie Tryz.prog 95 Tryz.f95 plan95 [v0] w K 1 (W95 v0 w K) rfl mixed Tryz.func95 W95_chk (W95_eq v0 w K) Tryz.call95 h
def plan99 : Plan := { js := [(2, ⟨[], [], 7⟩)], ds := [(9, ⟨[0, 2, 3], [[], [0], [], [], [0, 1, 3], [0, 1, 2, 3, 4], [0, 1, 2, 3, 4, 5]]⟩)] }
def W99 (v0 v1 v2 : Value) (w : World) (K : Value → World → Prop) : Prop :=
  boxW 28 v0 w fun t3 w1 =>
  boxW 28 v2 w1 fun t5 w2 =>
  allocW 28 [(.int .i64 0), (.bool false), (.string (ofL [])), (.slice none 0 0), (.slice none 0 0)] w2 fun t6 w3 =>
  JoinW (fun J4 =>
    fldW 0 t3 fun t7 =>
    ldW false 1 t7 w3 fun t8 =>
    binW .neq t8 (.int .i64 6) fun t9 =>
    condW t9 (
      putW [(.int .i64 0), (.bool false), (.string (ofL [])), (.slice none 0 0), (.slice none 0 0)] [(0, 1, (.int .i64 6))] fun c5 =>
      stW 5 t3 (.agg c5.toArray) w3 fun w6 =>
      J4 [] w6) (
      J4 [] w3))
  fun s4 _ w7 =>
  ldW true 5 t3 w7.drew fun t11 =>
  ldW true 5 t5 w7.drew fun t14 =>
  callF Tryz.prog 90 [t11] w7.drew fun t12 w8 =>
  (ldW true 5 t5 w8 fun x => x = t14) ∧
  callF Tryz.prog 90 [t14] w8 fun t15 w9 =>
  callF Tryz.prog 137 [t12, v1, t15] w9 fun t16 w10 =>
  stW 5 t6 t16 w10 fun w11 =>
  ldW true 5 t6 w11 fun r12 =>
  K r12 w11
theorem W99_eq (v0 v1 v2 : Value) (w : World) (K : Value → World → Prop) : funW Tryz.prog Tryz.f99 plan99 [v0, v1, v2] w K = W99 v0 v1 v2 w K := by kernel_rfl
theorem W99_chk : chkFun Tryz.prog Tryz.f99 plan99 3 = true := by kernel_rfl
theorem W99_ok {v0 v1 v2 : Value} {w : World} {K : Value → World → Prop} (h : W99 v0 v1 v2 w K) : callF Tryz.prog 99 [v0, v1, v2] w K :=
  tie Tryz.prog 99 Tryz.f99 plan99 [v0, v1, v2] w K 3 (W99 v0 v1 v2 w K) rfl mixed Tryz.func99 W99_chk (W99_eq v0 v1 v2 w K) Tryz.call99 h
def plan100 : Plan := { js := [(6004, ⟨[16], [], 14⟩)], ds := [] }
def W100 (v0 : Value) (w : World) (K : Value → World → Prop) : Prop :=
  callF Tryz.prog 138 [v0] w fun t8 w1 =>
  extW 0 t8 fun t9 =>
  extW 1 t8 fun t10 =>
  eqQ Tryz.prog .neq 106 false true t10 .nilIface w1 fun t12 =>
  GdW (isB t12 false) [undef] w1 (fun J2 =>
    callF Tryz.prog 87 [v0] w1 fun t15 w3 =>
    unW .not t15 fun t16 =>
    J2 [t16] w3)
  fun s2 _ w4 =>
  pickW t12 (.bool true) (s2.getD 0 undef) fun t17 =>
  condW t17 (
    K (.tuple #[(.int .i64 0), (.bool false)]) w4) (
    K (.tuple #[t9, (.bool true)]) w4)
theorem W100_eq (v0 : Value) (w : World) (K : Value → World → Prop) : funW Tryz.prog Tryz.f100 plan100 [v0] w K = W100 v0 w K := by kernel_rfl
theorem W100_chk : chkFun Tryz.prog Tryz.f100 plan100 1 = true := by kernel_rfl
theorem W100_ok {v0 : Value} {w : World} {K : Value → World → Prop} (h : W100 v0 w K) : callF Tryz.prog 100 [v0] w K :=
  tie Tryz.prog 100 Tryz.f100 plan100 [v0] w K 1 (W100 v0 w K) rfl mixed Tryz.func100 W100_chk (W100_eq v0 w K) Tryz.call100 h
def plan102 : Plan := { js := [(3, ⟨[2, 3], [], 1⟩)], ds := [(12, ⟨[0, 1, 2, 3, 4, 5, 6, 7, 8, 9, 10, 11, 12, 14], [[], [], [], [], [], [], [4, 5], [4, 5, 6], [], [], [8, 9], [8, 9, 10], [0, 1, 4, 5, 6, 7, 8, 9, 10, 11], [0, 1, 4, 5, 6, 7, 8, 9, 10, 11, 12], [0, 1, 2, 3, 4, 5, 6, 7, 8, 9, 10, 11, 12, 13], [0, 1, 2, 3, 4, 5, 6, 7, 8, 9, 10, 11, 12, 13, 14]]⟩)] }
def W102 (v0 : Value) (w : World) (K : Value → World → Prop) : Prop :=
  lenlW v0 fun t5 =>
  binW .sub t5 (.int .i64 1) fun t6 =>
  LoopW [(.int .i64 0), t6] w fun s1 _ w2 L1 =>
    binW .lss (s1.getD 0 undef) (s1.getD 1 undef) fun t9 =>
    condW t9 (
      ixaW none 5 v0 (s1.getD 1 undef) fun t20 =>
      ldW true 5 t20 w2.drew fun t21 =>
      ixaW none 5 v0 (s1.getD 0 undef) fun t24 =>
      ldW true 5 t24 w2.drew fun t25 =>
      ixaW none 5 v0 (s1.getD 0 undef) fun t26 =>
      stW 5 t26 t21 w2.drew fun w3 =>
      ixaW none 5 v0 (s1.getD 1 undef) fun t27 =>
      stW 5 t27 t25 w3 fun w4 =>
      binW .add (s1.getD 0 undef) (.int .i64 1) fun t11 =>
      binW .sub (s1.getD 1 undef) (.int .i64 1) fun t13 =>
      L1 [t11, t13] w4) (
      K (.tuple #[]) w2)
theorem W102_eq (v0 : Value) (w : World) (K : Value → World → Prop) : funW Tryz.prog Tryz.f102 plan102 [v0] w K = W102 v0 w K := by kernel_rfl
theorem W102_chk : chkFun Tryz.prog Tryz.f102 plan102 1 = true := by kernel_rfl
theorem W102_ok {v0 : Value} {w : World} {K : Value → World → Prop} (h : W102 v0 w K) : callF Tryz.prog 102 [v0] w K :=
  tie Tryz.prog 102 Tryz.f102 plan102 [v0] w K 1 (W102 v0 w K) rfl mixed Tryz.func102 W102_chk (W102_eq v0 w K) Tryz.call102 h
def plan132 : Plan := { js := [], ds := [] }
def W132 (v0 : Value) (w : World) (K : Value → World → Prop) : Prop :=
  callF Tryz.prog 162 [v0] w fun t4 w1 =>
  K t4 w1
theorem W132_eq (v0 : Value) (w : World) (K : Value → World → Prop) : funW Tryz.prog Tryz.f132 plan132 [v0] w K = W132 v0 w K := by kernel_rfl
theorem W132_chk : chkFun Tryz.prog Tryz.f132 plan132 1 = true := by kernel_rfl
theorem W132_ok {v0 : Value} {w : World} {K : Value → World → Prop} (h : W132 v0 w K) : callF Tryz.prog 132 [v0] w K :=
  tie Tryz.prog 132 Tryz.f132 plan132 [v0] w K 1 (W132 v0 w K) rfl mixed Tryz.func132 W132_chk (W132_eq v0 w K) Tryz.call132 h
def plan137 : Plan := { js := [(14, ⟨[], [], 7⟩)], ds := [(15, ⟨[0, 1, 2, 3, 6, 7, 8, 9, 12, 14], [[], [0], [], [], [3], [0, 1, 2, 3, 4], [], [6], [], [], [9], [0, 1, 2, 3, 4, 5, 6, 7, 8, 9, 10], [0, 1, 2, 3, 4, 5, 6, 7], [0, 1, 2, 3, 4, 5, 6, 7, 8, 9, 10, 11, 12], [0, 1, 2, 3, 4, 5, 6, 7, 8, 9, 10, 11, 12, 13], [0, 1, 2, 3, 4, 5, 6, 7, 8, 9, 10, 11, 12, 13, 14]]⟩)] }
def W137 (v0 v1 v2 : Value) (w : World) (K : Value → World → Prop) : Prop :=
  boxW 28 v0 w fun t3 w1 =>
  boxW 28 v2 w1 fun t5 w2 =>
  allocW 28 [(.int .i64 0), (.bool false), (.string (ofL [])), (.slice none 0 0), (.slice none 0 0)] w2 fun t6 w3 =>
  fldW 4 t3 fun t10 =>
  ldW false 1 t10 w3 fun t11 =>
  callF Tryz.prog 133 [t11, v1] w3 fun t13 w4 =>
  extW 0 t13 fun t14 =>
  extW 1 t13 fun t15 =>
  condW t15 (
    fldW 3 t3 fun t17 =>
    ldW false 1 t17 w4 fun t18 =>
    ldW true 5 t5 w4 fun t20 =>
    ixaW none 5 t18 t14 fun t21 =>
    stW 5 t21 t20 w4 fun w5 =>
    ldW true 5 t3 w5 fun t22 =>
    stW 5 t6 t22 w5 fun w6 =>
    ldW true 5 t6 w6 fun r7 =>
    K r7 w6) (
    JoinW (fun J8 =>
      fldW 4 t3 fun t23 =>
      ldW false 1 t23 w4.drew fun t24 =>
      fldW 3 t3 fun t29 =>
      ldW false 1 t29 w4.drew fun t30 =>
      ldW true 5 t5 w4.drew fun t32 =>
      (
       bslW 9 1 [(.string (ofL []))] [(0, 1, v1)] w4.drew fun t27 w9 =>
       (ldW true 5 t5 w9 fun x => x = t32) ∧
       (ldW false 1 t29 w9 fun x => x = t30) ∧
       (ldW false 1 t23 w9 fun x => x = t24) ∧
       (
        callF Tryz.prog 170 [t24, t14, t27] w9 fun t28 w10 =>
        (ldW true 5 t5 w10 fun x => x = t32) ∧
        (ldW false 1 t29 w10 fun x => x = t30) ∧
        fldW 4 t3 fun t35 =>
        bslW 28 1 [(.int .i64 0), (.bool false), (.string (ofL [])), (.slice none 0 0), (.slice none 0 0)] [(0, 5, t32)] w10 fun t33 w11 =>
        (ldW false 1 t29 w11 fun x => x = t30) ∧
        callF Tryz.prog 171 [t30, t14, t33] w11 fun t34 w12 =>
        stW 1 t35 t28 w12 fun w13 =>
        fldW 3 t3 fun t36 =>
        stW 1 t36 t34 w13 fun w14 =>
      J8 [] w14) ∧
       (
        bslW 28 1 [(.int .i64 0), (.bool false), (.string (ofL [])), (.slice none 0 0), (.slice none 0 0)] [(0, 5, t32)] w9 fun t33 w15 =>
        (ldW false 1 t29 w15 fun x => x = t30) ∧
        (ldW false 1 t23 w15 fun x => x = t24) ∧
        callF Tryz.prog 170 [t24, t14, t27] w15 fun t28 w16 =>
        (ldW false 1 t29 w16 fun x => x = t30) ∧
        fldW 4 t3 fun t35 =>
        callF Tryz.prog 171 [t30, t14, t33] w16 fun t34 w17 =>
        stW 1 t35 t28 w17 fun w18 =>
        fldW 3 t3 fun t36 =>
        stW 1 t36 t34 w18 fun w19 =>
      J8 [] w19)) ∧
      (
       bslW 28 1 [(.int .i64 0), (.bool false), (.string (ofL [])), (.slice none 0 0), (.slice none 0 0)] [(0, 5, t32)] w4.drew fun t33 w20 =>
       (ldW false 1 t29 w20 fun x => x = t30) ∧
       (ldW false 1 t23 w20 fun x => x = t24) ∧
       bslW 9 1 [(.string (ofL []))] [(0, 1, v1)] w20 fun t27 w21 =>
       (ldW false 1 t29 w21 fun x => x = t30) ∧
       (ldW false 1 t23 w21 fun x => x = t24) ∧
       callF Tryz.prog 170 [t24, t14, t27] w21 fun t28 w22 =>
       (ldW false 1 t29 w22 fun x => x = t30) ∧
       fldW 4 t3 fun t35 =>
       callF Tryz.prog 171 [t30, t14, t33] w22 fun t34 w23 =>
       stW 1 t35 t28 w23 fun w24 =>
       fldW 3 t3 fun t36 =>
       stW 1 t36 t34 w24 fun w25 =>
      J8 [] w25))
    fun s8 _ w26 =>
    ldW true 5 t3 w26 fun t37 =>
    stW 5 t6 t37 w26 fun w27 =>
    ldW true 5 t6 w27 fun r28 =>
    K r28 w27)
theorem W137_eq (v0 v1 v2 : Value) (w : World) (K : Value → World → Prop) : funW Tryz.prog Tryz.f137 plan137 [v0, v1, v2] w K = W137 v0 v1 v2 w K := by kernel_rfl
theorem W137_chk : chkFun Tryz.prog Tryz.f137 plan137 3 = true := by kernel_rfl
theorem W137_ok {v0 v1 v2 : Value} {w : World} {K : Value → World → Prop} (h : W137 v0 v1 v2 w K) : callF Tryz.prog 137 [v0, v1, v2] w K :=
  tie Tryz.prog 137 Tryz.f137 plan137 [v0, v1, v2] w K 3 (W137 v0 v1 v2 w K) rfl mixed Tryz.func137 W137_chk (W137_eq v0 v1 v2 w K) Tryz.call137 h
def plan138 : Plan := { js := [], ds := [] }
def W138 (v0 : Value) (w : World) (K : Value → World → Prop) : Prop :=
  callF Tryz.prog 172 [v0] w fun t8 w1 =>
  extW 0 t8 fun t9 =>
  extW 1 t8 fun t10 =>
  eqQ Tryz.prog .neq 106 false true t10 .nilIface w1 fun t12 =>
  condW t12 (
    callF Tryz.prog 173 [(.string (ofL [65, 116, 111, 105])), v0, (.int .i64 0), (.int .i64 0), t10] w1 fun t16 w2 =>
    K (.tuple #[t9, t16]) w2) (
    K (.tuple #[t9, .nilIface]) w1)
theorem W138_eq (v0 : Value) (w : World) (K : Value → World → Prop) : funW Tryz.prog Tryz.f138 plan138 [v0] w K = W138 v0 w K := by kernel_rfl
theorem W138_chk : chkFun Tryz.prog Tryz.f138 plan138 1 = true := by kernel_rfl
theorem W138_ok {v0 : Value} {w : World} {K : Value → World → Prop} (h : W138 v0 w K) : callF Tryz.prog 138 [v0] w K :=
  tie Tryz.prog 138 Tryz.f138 plan138 [v0] w K 1 (W138 v0 w K) rfl mixed Tryz.func138 W138_chk (W138_eq v0 w K) Tryz.call138 h
def plan170 : Plan := { js := [], ds := [(45, ⟨[0, 1, 2, 3, 4, 5, 6, 7], [[], [], [], [1, 2], [0, 1, 2, 3], [], [], [5, 6], [0, 1, 2, 3, 4, 5, 6, 7]]⟩), (33, ⟨[0, 1, 2, 3, 4, 5, 6, 7], [[], [], [], [1, 2], [0, 1, 2, 3], [], [], [5, 6], [0, 1, 2, 3, 4, 5, 6, 7]]⟩)] }
def W170 (v0 v1 v2 : Value) (w : World) (K : Value → World → Prop) : Prop :=
  sllW 1 v0 (some v1) none none fun t12 =>
  lenlW v2 fun t14 =>
  binW .eql t14 (.int .i64 0) fun t16 =>
  condW t16 (
    K v0 w) (
    lenlW v0 fun t19 =>
    binW .eql v1 t19 fun t22 =>
    condW t22 (
      semE Tryz.prog (Builtin.append_ #[26, 26] 26 #[v0, v2]) w fun t25 w1 =>
      K t25 w1) (
      binW .add t19 t14 fun t28 =>
      capW v0 fun t30 =>
      binW .gtr t28 t30 fun t31 =>
      condW t31 (
        sllW 1 v0 none (some v1) none fun t34 =>
        binW .add t19 t14 fun t37 =>
        binW .sub t37 v1 fun t39 =>
        semE Tryz.prog (Builtin.append_ #[26, 3] 26 #[t34, t39]) w fun t40 w2 =>
        sllW 1 t40 (some v1) none none fun t43 =>
        semE Tryz.prog (Builtin.copy_ #[26, 26] 3 #[t43, v2]) w2 fun t45 w3 =>
        binW .add v1 t14 fun t49 =>
        sllW 1 t40 (some t49) none none fun t50 =>
        sllW 1 v0 (some v1) none none fun t53 =>
        semE Tryz.prog (Builtin.copy_ #[26, 26] 3 #[t50, t53]) w3.drew fun t54 w4 =>
        K t40 w4) (
        binW .add t19 t14 fun t59 =>
        sllW 1 v0 none (some t59) none fun t60 =>
        binW .add v1 t14 fun t65 =>
        sllW 1 t60 (some t65) none none fun t66 =>
        callF Tryz.prog 191 [v2, t66] w fun t67 w5 =>
        unW .not t67 fun t68 =>
        condW t68 (
          binW .add v1 t14 fun t72 =>
          sllW 1 t60 (some t72) none none fun t73 =>
          sllW 1 t60 (some v1) none none fun t76 =>
          semE Tryz.prog (Builtin.copy_ #[26, 26] 3 #[t73, t76]) w5.drew fun t77 w6 =>
          sllW 1 t60 (some v1) none none fun t80 =>
          semE Tryz.prog (Builtin.copy_ #[26, 26] 3 #[t80, v2]) w6 fun t82 w7 =>
          K t60 w7) (
          sllW 1 t60 (some t19) none none fun t86 =>
          semE Tryz.prog (Builtin.copy_ #[26, 26] 3 #[t86, v2]) w5 fun t88 w8 =>
          sllW 1 t60 (some v1) none none fun t91 =>
          callF Tryz.prog 192 [t91, t14] w8 fun t93 w9 =>
          K t60 w9))))
theorem W170_eq (v0 v1 v2 : Value) (w : World) (K : Value → World → Prop) : funW Tryz.prog Tryz.f170 plan170 [v0, v1, v2] w K = W170 v0 v1 v2 w K := by kernel_rfl
theorem W170_chk : chkFun Tryz.prog Tryz.f170 plan170 3 = true := by kernel_rfl
theorem W170_ok {v0 v1 v2 : Value} {w : World} {K : Value → World → Prop} (h : W170 v0 v1 v2 w K) : callF Tryz.prog 170 [v0, v1, v2] w K :=
  tie Tryz.prog 170 Tryz.f170 plan170 [v0, v1, v2] w K 3 (W170 v0 v1 v2 w K) rfl mixed Tryz.func170 W170_chk (W170_eq v0 v1 v2 w K) Tryz.call170 h
def plan171 : Plan := { js := [], ds := [(45, ⟨[0, 1, 2, 3, 4, 5, 6, 7], [[], [], [], [1, 2], [0, 1, 2, 3], [], [], [5, 6], [0, 1, 2, 3, 4, 5, 6, 7]]⟩), (33, ⟨[0, 1, 2, 3, 4, 5, 6, 7], [[], [], [], [1, 2], [0, 1, 2, 3], [], [], [5, 6], [0, 1, 2, 3, 4, 5, 6, 7]]⟩)] }
def W171 (v0 v1 v2 : Value) (w : World) (K : Value → World → Prop) : Prop :=
  sllW 5 v0 (some v1) none none fun t12 =>
  lenlW v2 fun t14 =>
  binW .eql t14 (.int .i64 0) fun t16 =>
  condW t16 (
    K v0 w) (
    lenlW v0 fun t19 =>
    binW .eql v1 t19 fun t22 =>
    condW t22 (
      semE Tryz.prog (Builtin.append_ #[22, 22] 22 #[v0, v2]) w fun t25 w1 =>
      K t25 w1) (
      binW .add t19 t14 fun t28 =>
      capW v0 fun t30 =>
      binW .gtr t28 t30 fun t31 =>
      condW t31 (
        sllW 5 v0 none (some v1) none fun t34 =>
        binW .add t19 t14 fun t37 =>
        binW .sub t37 v1 fun t39 =>
        semE Tryz.prog (Builtin.append_ #[22, 3] 22 #[t34, t39]) w fun t40 w2 =>
        sllW 5 t40 (some v1) none none fun t43 =>
        semE Tryz.prog (Builtin.copy_ #[22, 22] 3 #[t43, v2]) w2 fun t45 w3 =>
        binW .add v1 t14 fun t49 =>
        sllW 5 t40 (some t49) none none fun t50 =>
        sllW 5 v0 (some v1) none none fun t53 =>
        semE Tryz.prog (Builtin.copy_ #[22, 22] 3 #[t50, t53]) w3.drew fun t54 w4 =>
        K t40 w4) (
        binW .add t19 t14 fun t59 =>
        sllW 5 v0 none (some t59) none fun t60 =>
        binW .add v1 t14 fun t65 =>
        sllW 5 t60 (some t65) none none fun t66 =>
        callF Tryz.prog 193 [v2, t66] w fun t67 w5 =>
        unW .not t67 fun t68 =>
        condW t68 (
          binW .add v1 t14 fun t72 =>
          sllW 5 t60 (some t72) none none fun t73 =>
          sllW 5 t60 (some v1) none none fun t76 =>
          semE Tryz.prog (Builtin.copy_ #[22, 22] 3 #[t73, t76]) w5.drew fun t77 w6 =>
          sllW 5 t60 (some v1) none none fun t80 =>
          semE Tryz.prog (Builtin.copy_ #[22, 22] 3 #[t80, v2]) w6 fun t82 w7 =>
          K t60 w7) (
          sllW 5 t60 (some t19) none none fun t86 =>
          semE Tryz.prog (Builtin.copy_ #[22, 22] 3 #[t86, v2]) w5 fun t88 w8 =>
          sllW 5 t60 (some v1) none none fun t91 =>
          callF Tryz.prog 194 [t91, t14] w8 fun t93 w9 =>
          K t60 w9))))
theorem W171_eq (v0 v1 v2 : Value) (w : World) (K : Value → World → Prop) : funW Tryz.prog Tryz.f171 plan171 [v0, v1, v2] w K = W171 v0 v1 v2 w K := by kernel_rfl
theorem W171_chk : chkFun Tryz.prog Tryz.f171 plan171 3 = true := by kernel_rfl
theorem W171_ok {v0 v1 v2 : Value} {w : World} {K : Value → World → Prop} (h : W171 v0 v1 v2 w K) : callF Tryz.prog 171 [v0, v1, v2] w K :=
  tie Tryz.prog 171 Tryz.f171 plan171 [v0, v1, v2] w K 3 (W171 v0 v1 v2 w K) rfl mixed Tryz.func171 W171_chk (W171_eq v0 v1 v2 w K) Tryz.call171 h
end Go.Proofs.YtdkikjcpgihjlaaGreatDoor

namespace Go.Eng
open Go
def byteM (s : Str) (i : Nat) : Int := match s[i]? with | some b => (b.toNat : Int) | none => -1
def moreM (s : Str) (i : Nat) : Bool := decide (128 ≤ byteM s i) && decide (byteM s i < 192)
def runeM (s : Str) (i : Nat) : Nat :=
  let c := byteM s i
  if c < 0 then 0 else if c < 128 then 1
  else if 194 ≤ c ∧ c < 224 ∧ moreM s (i + 1) = true then 2
  else if 224 ≤ c ∧ c < 240 ∧ moreM s (i + 1) = true ∧ moreM s (i + 2) = true ∧
    2048 ≤ (c - 224) * 4096 + (byteM s (i + 1) - 128) * 64 + byteM s (i + 2) - 128 ∧ ((c - 224) * 4096 + (byteM s (i + 1) - 128) * 64 + byteM s (i + 2) - 128 < 55296 ∨ 57343 < (c - 224) * 4096 + (byteM s (i + 1) - 128) * 64 + byteM s (i + 2) - 128) then 3
  else if 240 ≤ c ∧ c < 245 ∧ moreM s (i + 1) = true ∧ moreM s (i + 2) = true ∧ moreM s (i + 3) = true ∧
    65536 ≤ (c - 240) * 262144 + (byteM s (i + 1) - 128) * 4096 + (byteM s (i + 2) - 128) * 64 + byteM s (i + 3) - 128 ∧ (c - 240) * 262144 + (byteM s (i + 1) - 128) * 4096 + (byteM s (i + 2) - 128) * 64 + byteM s (i + 3) - 128 ≤ 1114111 then 4
  else 0
def b8 (n : Nat) : UInt8 := UInt8.ofNat n
def hexD (n : Nat) : UInt8 := if n < 10 then b8 (48 + n) else b8 (87 + n)
def escB (c : UInt8) : Str :=
  if c = 34 ∨ c = 92 then [92, c] else if c = 8 then [92, 98] else if c = 12 then [92, 102] else if c = 10 then [92, 110] else if c = 13 then [92, 114] else if c = 9 then [92, 116]
  else if c < 32 then [92, 117, 48, 48, b8 (48 + c.toNat / 16), hexD (c.toNat % 16)] else [c]
def isBlank (c : Int) : Bool := decide (c = 32) || decide (c = 9) || decide (c = 10) || decide (c = 13)
def isDig (c : Int) : Bool := decide (48 ≤ c) && decide (c ≤ 57)
end Go.Eng
namespace Go.Eng
open Go
mutual
/-- how many values it has -/
def cntM : JV → Nat
  | .mk _ _ _ xs _ => 1 + cntL xs
def cntL : List JV → Nat
  | [] => 0
  | x :: xs => cntM x + cntL xs
end
theorem cnt_pos (v : JV) : 1 ≤ cntM v := by cases v; simp only [cntM]; omega
theorem byte_at {s r : Str} {i : Nat} {c : UInt8} (h : s.drop i = c :: r) : byteM s i = c.toNat := by
  unfold byteM
  have : s[i]? = some c := by
    have := List.getElem?_drop (xs := s) (i := i) (j := 0)
    rw [h] at this
    simpa using this.symm
  rw [this]
end Go.Eng
namespace Go.Eng
open Go
def bt (s : Str) (i : Nat) : Nat := (s.getD i 0).toNat
theorem bt_lt (s : Str) (i : Nat) : bt s i < 256 := UInt8.toNat_lt _
theorem byteM_in {s : Str} {i : Nat} (h : i < s.length) : byteM s i = (bt s i : Int) := by
  unfold byteM bt
  rw [List.getElem?_eq_getElem h, List.getD_eq_getElem?_getD, List.getElem?_eq_getElem h]; rfl
theorem byteM_out {s : Str} {i : Nat} (h : s.length ≤ i) : byteM s i = -1 := by
  unfold byteM
  rw [List.getElem?_eq_none h]
theorem get_bt (s : Str) (i : Nat) : ((ofL s).get! i).toNat = bt s i := by
  unfold bt
  congr 1
  show (s.toArray)[i]! = s.getD i 0
  rw [List.getElem!_toArray, List.getElem!_eq_getElem?_getD, List.getD_eq_getElem?_getD]; rfl
theorem dec_ofL (s : Str) (i : Nat) : Utf8.decode (ofL s) i = Lib.decodeN (s.length - i) (bt s i) (bt s (i + 1)) (bt s (i + 2)) (bt s (i + 3)) := by
  rw [Lib.decode_at, get_bt, get_bt, get_bt, get_bt, ofL_size]
abbrev mor (L k b : Nat) : Prop := k < L ∧ 128 ≤ b ∧ b < 192
abbrev c3 (b0 b1 b2 : Nat) : Nat := (b0 - 224) * 4096 + (b1 - 128) * 64 + (b2 - 128)
abbrev c4 (b0 b1 b2 b3 : Nat) : Nat := (b0 - 240) * 262144 + (b1 - 128) * 4096 + (b2 - 128) * 64 + (b3 - 128)
def decR (L b0 b1 b2 b3 : Nat) : Nat × Nat :=
  if b0 < 128 then (b0, 1)
  else if 194 ≤ b0 ∧ b0 < 224 ∧ mor L 1 b1 then ((b0 - 192) * 64 + (b1 - 128), 2)
  else if 224 ≤ b0 ∧ b0 < 240 ∧ mor L 1 b1 ∧ mor L 2 b2 ∧ 2048 ≤ c3 b0 b1 b2 ∧ (c3 b0 b1 b2 < 55296 ∨ 57343 < c3 b0 b1 b2) then (c3 b0 b1 b2, 3)
  else if 240 ≤ b0 ∧ b0 < 245 ∧ mor L 1 b1 ∧ mor L 2 b2 ∧ mor L 3 b3 ∧ 65536 ≤ c4 b0 b1 b2 b3 ∧ c4 b0 b1 b2 b3 ≤ 1114111 then (c4 b0 b1 b2 b3, 4)
  else (65533, 1)
theorem dec_decR {L b0 b1 b2 b3 : Nat} (h0 : b0 < 256) (h1 : b1 < 256) (h2 : b2 < 256) (h3 : b3 < 256) : Lib.decodeN L b0 b1 b2 b3 = decR L b0 b1 b2 b3 := by
  have m1 : (1 < L ∧ b1 / 64 = 2) ↔ mor L 1 b1 := by unfold mor; omega
  have m2 : (2 < L ∧ b2 / 64 = 2) ↔ mor L 2 b2 := by unfold mor; omega
  have m3 : (3 < L ∧ b3 / 64 = 2) ↔ mor L 3 b3 := by unfold mor; omega
  unfold Lib.decodeN decR
  simp only [m1, m2, m3]
  by_cases a0 : b0 < 128
  · rw [if_pos a0, if_pos a0]
  rw [if_neg a0, if_neg a0]
  by_cases a1 : b0 < 194
  · rw [if_neg (show ¬ (194 ≤ b0 ∧ b0 < 224 ∧ mor L 1 b1) from fun h => by omega), if_neg (show ¬ (224 ≤ b0 ∧ b0 < 240 ∧ _) from fun h => by omega), if_neg (show ¬ (240 ≤ b0 ∧ b0 < 245 ∧ _) from fun h => by omega)]
    rw [if_neg (show ¬ (b0 / 16 = 14 ∧ _) from fun h => by omega), if_neg (show ¬ (b0 / 8 = 30 ∧ _) from fun h => by omega)]
    by_cases a2 : b0 / 32 = 6 ∧ mor L 1 b1
    · rw [if_pos a2, if_neg (by omega)]
    · rw [if_neg a2]
  by_cases a2 : b0 < 224
  · rw [if_neg (show ¬ (224 ≤ b0 ∧ b0 < 240 ∧ _) from fun h => by omega), if_neg (show ¬ (240 ≤ b0 ∧ b0 < 245 ∧ _) from fun h => by omega)]
    rw [if_neg (show ¬ (b0 / 16 = 14 ∧ _) from fun h => by omega), if_neg (show ¬ (b0 / 8 = 30 ∧ _) from fun h => by omega)]
    by_cases q : mor L 1 b1
    · have q' := q
      unfold mor at q'
      rw [if_pos ⟨by omega, q⟩, if_pos (by omega), if_pos ⟨by omega, a2, q⟩]
      apply Prod.ext
      · show b0 % 32 * 64 + b1 % 64 = (b0 - 192) * 64 + (b1 - 128); omega
      · rfl
    · rw [if_neg (fun h => q h.2), if_neg (fun h => q h.2.2)]
  by_cases a3 : b0 < 240
  · rw [if_neg (show ¬ (194 ≤ b0 ∧ b0 < 224 ∧ mor L 1 b1) from fun h => by omega), if_neg (show ¬ (240 ≤ b0 ∧ b0 < 245 ∧ _) from fun h => by omega)]
    rw [if_neg (show ¬ (b0 / 32 = 6 ∧ _) from fun h => by omega), if_neg (show ¬ (b0 / 8 = 30 ∧ _) from fun h => by omega)]
    by_cases q : mor L 1 b1 ∧ mor L 2 b2
    · have q' := q
      unfold mor at q'
      have e : b0 % 16 * 4096 + b1 % 64 * 64 + b2 % 64 = c3 b0 b1 b2 := by unfold c3; omega
      have e2 : c3 b0 b1 b2 ≤ 65535 := by unfold c3; omega
      rw [if_pos ⟨by omega, q.1, q.2⟩]
      simp only [e]
      by_cases r : 2048 ≤ c3 b0 b1 b2 ∧ (c3 b0 b1 b2 < 55296 ∨ 57343 < c3 b0 b1 b2)
      · rw [if_pos ⟨r.1, by omega⟩, if_pos ⟨by omega, a3, q.1, q.2, r.1, r.2⟩]
      · rw [if_neg (by omega), if_neg (fun h => r ⟨h.2.2.2.2.1, h.2.2.2.2.2⟩)]
    · rw [if_neg (fun h => q ⟨h.2.1, h.2.2⟩), if_neg (fun h => q ⟨h.2.2.1, h.2.2.2.1⟩)]
  · rw [if_neg (show ¬ (194 ≤ b0 ∧ b0 < 224 ∧ mor L 1 b1) from fun h => by omega), if_neg (show ¬ (224 ≤ b0 ∧ b0 < 240 ∧ _) from fun h => by omega)]
    rw [if_neg (show ¬ (b0 / 32 = 6 ∧ _) from fun h => by omega), if_neg (show ¬ (b0 / 16 = 14 ∧ _) from fun h => by omega)]
    by_cases q : mor L 1 b1 ∧ mor L 2 b2 ∧ mor L 3 b3
    · have q' := q
      unfold mor at q'
      by_cases a4 : b0 < 248
      · have e : b0 % 8 * 262144 + b1 % 64 * 4096 + b2 % 64 * 64 + b3 % 64 = c4 b0 b1 b2 b3 := by unfold c4; omega
        rw [if_pos ⟨by omega, q.1, q.2.1, q.2.2⟩]
        simp only [e]
        by_cases r : 65536 ≤ c4 b0 b1 b2 b3 ∧ c4 b0 b1 b2 b3 ≤ 1114111
        · rw [if_pos ⟨r.1, by omega⟩, if_pos ⟨by omega, by have := r.2; unfold c4 at this; omega, q.1, q.2.1, q.2.2, r.1, r.2⟩]
        · rw [if_neg (by omega), if_neg (fun h => r ⟨h.2.2.2.2.2.1, h.2.2.2.2.2.2⟩)]
      · rw [if_neg (show ¬ (b0 / 8 = 30 ∧ _) from fun h => by omega), if_neg (show ¬ (240 ≤ b0 ∧ b0 < 245 ∧ _) from fun h => by omega)]
    · rw [if_neg (fun h => q ⟨h.2.1, h.2.2.1, h.2.2.2⟩), if_neg (fun h => q ⟨h.2.2.1, h.2.2.2.1, h.2.2.2.2.1⟩)]
theorem moreM_iff {s : Str} {i k : Nat} : moreM s (i + k) = true ↔ mor (s.length - i) k (bt s (i + k)) := by
  unfold moreM mor
  rw [Bool.and_eq_true, decide_eq_true_iff, decide_eq_true_iff]
  rcases Nat.lt_or_ge (i + k) s.length with h | h
  · rw [byteM_in h]; omega
  · rw [byteM_out h]; omega
def runR (L b0 b1 b2 b3 : Nat) : Nat :=
  if b0 < 128 then 1
  else if 194 ≤ b0 ∧ b0 < 224 ∧ mor L 1 b1 then 2
  else if 224 ≤ b0 ∧ b0 < 240 ∧ mor L 1 b1 ∧ mor L 2 b2 ∧ 2048 ≤ c3 b0 b1 b2 ∧ (c3 b0 b1 b2 < 55296 ∨ 57343 < c3 b0 b1 b2) then 3
  else if 240 ≤ b0 ∧ b0 < 245 ∧ mor L 1 b1 ∧ mor L 2 b2 ∧ mor L 3 b3 ∧ 65536 ≤ c4 b0 b1 b2 b3 ∧ c4 b0 b1 b2 b3 ≤ 1114111 then 4
  else 0
set_option maxHeartbeats 4000000 in
theorem runeM_runR {s : Str} {i : Nat} (h : i < s.length) : runeM s i = runR (s.length - i) (bt s i) (bt s (i + 1)) (bt s (i + 2)) (bt s (i + 3)) := by
  unfold runeM runR
  simp only [moreM_iff, byteM_in h]
  by_cases h1 : i + 1 < s.length
  · by_cases h2 : i + 2 < s.length
    · by_cases h3 : i + 3 < s.length
      · simp only [byteM_in h1, byteM_in h2, byteM_in h3, mor, c3, c4]
        repeat' split
        all_goals first | rfl | (exfalso; omega)
      · simp only [byteM_in h1, byteM_in h2, mor, c3, c4]
        repeat' split
        all_goals first | rfl | (exfalso; omega)
    · simp only [byteM_in h1, mor, c3, c4]
      repeat' split
      all_goals first | rfl | (exfalso; omega)
  · simp only [mor, c3, c4]
    repeat' split
    all_goals first | rfl | (exfalso; omega)
theorem b8_bt (s : Str) (i : Nat) (h : i < s.length) : UInt8.ofNat (bt s i) = s[i] := by
  unfold bt
  rw [List.getD_eq_getElem?_getD, List.getElem?_eq_getElem h]; simp
theorem take_one {s : Str} {i : Nat} (h : i < s.length) : (s.drop i).take 1 = [UInt8.ofNat (bt s i)] := by
  rw [b8_bt s i h, List.drop_eq_getElem_cons h]; rfl
theorem take_step {s : Str} {i n : Nat} (h : i < s.length) : (s.drop i).take (n + 1) = UInt8.ofNat (bt s i) :: (s.drop (i + 1)).take n := by
  rw [b8_bt s i h, List.drop_eq_getElem_cons h]; rfl
set_option maxHeartbeats 4000000 in
theorem rune_bad {s : Str} {i : Nat} (h : i < s.length) (h0 : runeM s i = 0) : Utf8.decode (ofL s) i = (65533, 1) := by
  rw [dec_ofL, dec_decR (bt_lt _ _) (bt_lt _ _) (bt_lt _ _) (bt_lt _ _)]
  rw [runeM_runR h] at h0
  unfold runR at h0
  unfold decR
  repeat' split at h0
  all_goals first | (exfalso; omega) | skip
  all_goals (repeat rw [if_neg (by assumption)])
structure RuneAt (s : Str) (i n c : Nat) : Prop where
  dec : Utf8.decode (ofL s) i = (c, n)
  fits : i + n ≤ s.length
  small : n ≤ 4
  bytes : Lib.encodeRune c = (s.drop i).take n
  low : n = 1 → c = bt s i ∧ c < 128
  high : 2 ≤ n → 128 ≤ c ∧ 128 ≤ bt s i
  top : c ≤ 1114111
  val : c < 55296 ∨ 57343 < c
theorem enc_map (l : List Int) : (l.map fun x => x.toNat.toUInt8) = l.map fun x => UInt8.ofNat x.toNat := rfl
set_option maxHeartbeats 8000000 in
theorem rune_good {s : Str} {i : Nat} (h : i < s.length) (h0 : runeM s i ≠ 0) : ∃ c, RuneAt s i (runeM s i) c := by
  have e := dec_ofL s i
  rw [dec_decR (bt_lt _ _) (bt_lt _ _) (bt_lt _ _) (bt_lt _ _)] at e
  have hr := runeM_runR h
  have l0 := bt_lt s i
  generalize hn : runeM s i = n at *
  unfold runR at hr
  unfold decR at e
  by_cases a1 : bt s i < 128
  · rw [if_pos a1] at hr e
    subst hr
    refine ⟨_, e, by omega, by omega, ?_, fun _ => ⟨rfl, a1⟩, fun h => by omega, by omega, by omega⟩
    rw [take_one h, Lib.encodeRune, Lib.encodeRuneZ_one (by omega) (by omega)]
    simp
  rw [if_neg a1] at hr e
  by_cases a2 : 194 ≤ bt s i ∧ bt s i < 224 ∧ mor (s.length - i) 1 (bt s (i + 1))
  · rw [if_pos a2] at hr e
    subst hr
    obtain ⟨a2, a3, a4, a5, a6⟩ := a2
    refine ⟨_, e, by omega, by omega, ?_, fun h => by omega, fun h => by omega, by omega, by omega⟩
    rw [take_step h, take_one (by omega), Lib.encodeRune, Lib.encodeRuneZ_two (by omega) (by omega)]
    simp only [List.map_cons, List.map_nil, enc_map]
    rw [show ((192 : Int) + (((bt s i - 192) * 64 + (bt s (i + 1) - 128) : Nat) : Int) / 64).toNat = bt s i by omega, show ((128 : Int) + (((bt s i - 192) * 64 + (bt s (i + 1) - 128) : Nat) : Int) % 64).toNat = bt s (i + 1) by omega]
  rw [if_neg a2] at hr e
  by_cases a3 : 224 ≤ bt s i ∧ bt s i < 240 ∧ mor (s.length - i) 1 (bt s (i + 1)) ∧ mor (s.length - i) 2 (bt s (i + 2)) ∧ 2048 ≤ c3 (bt s i) (bt s (i + 1)) (bt s (i + 2)) ∧ (c3 (bt s i) (bt s (i + 1)) (bt s (i + 2)) < 55296 ∨ 57343 < c3 (bt s i) (bt s (i + 1)) (bt s (i + 2)))
  · rw [if_pos a3] at hr e
    subst hr
    obtain ⟨p1, p2, ⟨p3, p4, p5⟩, ⟨p6, p7, p8⟩, p9, p10⟩ := a3
    have q3 : c3 (bt s i) (bt s (i + 1)) (bt s (i + 2)) = (bt s i - 224) * 4096 + (bt s (i + 1) - 128) * 64 + (bt s (i + 2) - 128) := rfl
    refine ⟨_, e, by omega, by omega, ?_, fun h => by omega, fun h => by omega, by omega, by omega⟩
    rw [take_step h, take_step (by omega), take_one (by omega), Lib.encodeRune, Lib.encodeRuneZ_three (by omega)]
    simp only [List.map_cons, List.map_nil, enc_map]
    rw [show ((224 : Int) + ((c3 (bt s i) (bt s (i + 1)) (bt s (i + 2)) : Nat) : Int) / 4096).toNat = bt s i by unfold c3; omega, show ((128 : Int) + ((c3 (bt s i) (bt s (i + 1)) (bt s (i + 2)) : Nat) : Int) / 64 % 64).toNat = bt s (i + 1) by unfold c3; omega, show ((128 : Int) + ((c3 (bt s i) (bt s (i + 1)) (bt s (i + 2)) : Nat) : Int) % 64).toNat = bt s (i + 2) by unfold c3; omega]
  rw [if_neg a3] at hr e
  by_cases a4 : 240 ≤ bt s i ∧ bt s i < 245 ∧ mor (s.length - i) 1 (bt s (i + 1)) ∧ mor (s.length - i) 2 (bt s (i + 2)) ∧ mor (s.length - i) 3 (bt s (i + 3)) ∧ 65536 ≤ c4 (bt s i) (bt s (i + 1)) (bt s (i + 2)) (bt s (i + 3)) ∧ c4 (bt s i) (bt s (i + 1)) (bt s (i + 2)) (bt s (i + 3)) ≤ 1114111
  · rw [if_pos a4] at hr e
    subst hr
    obtain ⟨p1, p2, ⟨p3, p4, p5⟩, ⟨p6, p7, p8⟩, ⟨p9, p10, p11⟩, p12, p13⟩ := a4
    refine ⟨_, e, by omega, by omega, ?_, fun h => by omega, fun h => by omega, by omega, by omega⟩
    rw [take_step h, take_step (by omega), take_step (by omega), take_one (by omega), Lib.encodeRune, Lib.encodeRuneZ_four (by omega) (by omega)]
    simp only [List.map_cons, List.map_nil, enc_map]
    rw [show ((240 : Int) + ((c4 (bt s i) (bt s (i + 1)) (bt s (i + 2)) (bt s (i + 3)) : Nat) : Int) / 262144).toNat = bt s i by unfold c4; omega, show ((128 : Int) + ((c4 (bt s i) (bt s (i + 1)) (bt s (i + 2)) (bt s (i + 3)) : Nat) : Int) / 4096 % 64).toNat = bt s (i + 1) by unfold c4; omega, show ((128 : Int) + ((c4 (bt s i) (bt s (i + 1)) (bt s (i + 2)) (bt s (i + 3)) : Nat) : Int) / 64 % 64).toNat = bt s (i + 2) by unfold c4; omega, show ((128 : Int) + ((c4 (bt s i) (bt s (i + 1)) (bt s (i + 2)) (bt s (i + 3)) : Nat) : Int) % 64).toNat = bt s (i + 3) by unfold c4; omega]
  rw [if_neg a4] at hr
  exact absurd hr h0
def stepM (s : Str) (i : Nat) : Nat := max (runeM s i) 1
theorem dec_step {s : Str} {i : Nat} (h : i < s.length) : (Utf8.decode (ofL s) i).2 = stepM s i := by
  unfold stepM
  by_cases h0 : runeM s i = 0
  · rw [rune_bad h h0, h0]; rfl
  · obtain ⟨c, hc⟩ := rune_good h h0
    rw [hc.dec]
    show runeM s i = max (runeM s i) 1
    omega
theorem step_fits {s : Str} {i : Nat} (h : i < s.length) : i + stepM s i ≤ s.length := by
  unfold stepM
  by_cases h0 : runeM s i = 0
  · rw [h0]; show i + 1 ≤ _; omega
  · obtain ⟨c, hc⟩ := rune_good h h0
    have := hc.fits
    omega
theorem step_pos (s : Str) (i : Nat) : 1 ≤ stepM s i := by unfold stepM; omega
theorem rune_end {s : Str} {i : Nat} (h : s.length ≤ i) : runeM s i = 0 := by
  unfold runeM
  simp only [byteM_out h]
  rfl
end Go.Eng
namespace Go.Eng
open Go
theorem byte_pref {s u r : Str} {i j : Nat} (h : s.drop i = u ++ r) (hj : j < u.length) : byteM s (i + j) = u[j].toNat := by
  have : s.drop (i + j) = u[j] :: (u.drop (j + 1) ++ r) := by
    rw [← List.drop_drop, h, List.drop_append_of_le_length (by omega), List.drop_eq_getElem_cons hj]; rfl
  exact byte_at this
theorem rune_same {s t : Str} {i k m : Nat} (hm : 0 < m) (h : runeM s i = m) (hb : ∀ j, j < m → byteM t (k + j) = byteM s (i + j)) : runeM t k = m := by
  have e0 : byteM t k = byteM s i := hb 0 hm
  unfold runeM at h ⊢
  dsimp only at h
  simp only [e0]
  by_cases h1 : m = 1
  · subst h1
    split at h
    · omega
    rename_i a
    split at h
    · rename_i b; rw [if_neg a, if_pos b]
    split at h
    · omega
    split at h
    · omega
    split at h <;> omega
  by_cases h2 : m = 2
  · subst h2
    have e1 := hb 1 (by omega)
    have m1 : moreM t (k + 1) = moreM s (i + 1) := by unfold moreM; rw [e1]
    simp only [m1]
    split at h
    · omega
    rename_i a
    split at h
    · omega
    rename_i b
    split at h
    · rename_i c; rw [if_neg a, if_neg b, if_pos c]
    split at h
    · omega
    split at h <;> omega
  by_cases h3 : m = 3
  · subst h3
    have e1 := hb 1 (by omega)
    have e2 := hb 2 (by omega)
    have m1 : moreM t (k + 1) = moreM s (i + 1) := by unfold moreM; rw [e1]
    have m2 : moreM t (k + 2) = moreM s (i + 2) := by unfold moreM; rw [e2]
    simp only [m1, m2, e1, e2]
    split at h
    · omega
    rename_i a
    split at h
    · omega
    rename_i b
    split at h
    · omega
    rename_i c
    split at h
    · rename_i d; rw [if_neg a, if_neg b, if_neg c, if_pos d]
    split at h <;> omega
  by_cases h4 : m = 4
  · subst h4
    have e1 := hb 1 (by omega)
    have e2 := hb 2 (by omega)
    have e3 := hb 3 (by omega)
    simp only [moreM, e1, e2, e3] at h ⊢
    exact h
  · exfalso
    split at h
    · omega
    split at h
    · omega
    split at h
    · omega
    split at h
    · omega
    split at h <;> omega
theorem rune_lt {s : Str} {i : Nat} (h : runeM s i ≠ 0) : i < s.length := by
  apply Nat.lt_of_not_le
  intro hle
  exact h (rune_end hle)
theorem rune_fits {s : Str} {i : Nat} (h : runeM s i ≠ 0) : i + runeM s i ≤ s.length := by
  obtain ⟨c, hc⟩ := rune_good (rune_lt h) h
  exact hc.fits
def Rn (u : Str) : Prop := u ≠ [] ∧ runeM u 0 = u.length
theorem Rn.pos {u : Str} (h : Rn u) : 0 < u.length := List.length_pos_iff.2 h.1
theorem Rn.at {u s r : Str} {i : Nat} (h : Rn u) (hs : s.drop i = u ++ r) : runeM s i = u.length := by
  refine rune_same (s := u) (i := 0) h.pos h.2 fun j hj => ?_
  rw [byte_pref hs hj, byte_pref (s := u) (i := 0) (u := u) (r := []) (by simp) hj]
theorem Rn.of {s : Str} {i : Nat} (h : runeM s i ≠ 0) : Rn ((s.drop i).take (runeM s i)) := by
  have hf := rune_fits h
  have hl : ((s.drop i).take (runeM s i)).length = runeM s i := by rw [List.length_take, List.length_drop]; omega
  refine ⟨fun e => by rw [e] at hl; simp at hl; omega, ?_⟩
  rw [hl]
  refine rune_same (s := s) (i := i) (by omega) rfl fun j hj => ?_
  rw [byte_pref (s := s) (i := i) (u := (s.drop i).take (runeM s i)) (r := (s.drop i).drop (runeM s i)) (List.take_append_drop _ _).symm (by omega), byte_pref (s := (s.drop i).take (runeM s i)) (i := 0) (u := (s.drop i).take (runeM s i)) (r := []) (by simp) (by omega)]
inductive Utf : Str → Prop where
  | nil : Utf []
  | cons {u r : Str} : Rn u → Utf r → Utf (u ++ r)
theorem Utf.app {a b : Str} (h : Utf a) (h' : Utf b) : Utf (a ++ b) := by
  induction h with
  | nil => exact h'
  | cons hu _ ih => rw [List.append_assoc]; exact .cons hu ih
theorem Utf.one {u : Str} (h : Rn u) : Utf u := by have := Utf.cons h .nil; rwa [List.append_nil] at this
theorem Rn.cases {u : Str} (h : Rn u) : (∃ c : UInt8, u = [c] ∧ c.toNat < 128) ∨ (∀ c ∈ u, 128 ≤ c.toNat) := by
  have hr := h.2
  have hp := h.pos
  have hb : ∀ j, (hj : j < u.length) → byteM u j = u[j].toNat := fun j hj => by
    have := byte_pref (s := u) (i := 0) (u := u) (r := []) (by simp) hj
    rwa [Nat.zero_add] at this
  have hm : ∀ j, (hj : j < u.length) → moreM u j = true → 128 ≤ u[j].toNat := fun j hj hm => by
    unfold moreM at hm
    rw [hb j hj, Bool.and_eq_true, decide_eq_true_iff, decide_eq_true_iff] at hm
    omega
  unfold runeM at hr
  rw [hb 0 hp] at hr
  simp only [Nat.zero_add] at hr
  have hall : (∀ j, (hj : j < u.length) → 128 ≤ u[j].toNat) → ∀ c ∈ u, 128 ≤ c.toNat := fun hj c hc => by
    obtain ⟨j, h1, rfl⟩ := List.getElem_of_mem hc
    exact hj j h1
  split at hr
  · omega
  split at hr
  · rename_i hlt
    left
    obtain ⟨c, rfl⟩ := List.length_eq_one_iff.1 hr.symm
    refine ⟨c, rfl, ?_⟩
    have e : ([c] : Str)[0].toNat = c.toNat := rfl
    omega
  right
  refine hall fun j hj => ?_
  split at hr
  · rename_i c
    obtain ⟨c1, _, c2⟩ := c
    obtain rfl | rfl : j = 0 ∨ j = 1 := by omega
    · omega
    · exact hm 1 hj c2
  split at hr
  · rename_i c
    obtain ⟨c1, _, c2, c3, _⟩ := c
    obtain rfl | rfl | rfl : j = 0 ∨ j = 1 ∨ j = 2 := by omega
    · omega
    · exact hm 1 hj c2
    · exact hm 2 hj c3
  split at hr
  · rename_i c
    obtain ⟨c1, _, c2, c3, c4, _⟩ := c
    obtain rfl | rfl | rfl | rfl : j = 0 ∨ j = 1 ∨ j = 2 ∨ j = 3 := by omega
    · omega
    · exact hm 1 hj c2
    · exact hm 2 hj c3
    · exact hm 3 hj c4
  · omega
end Go.Eng
namespace Go.Eng
open Go
theorem escB_le (c : UInt8) : (escB c).length ≤ 6 := by unfold escB; repeat' split
                                                        all_goals simp
end Go.Eng
namespace Go.Eng
open Go Go.Num
def BL (l : Str) : Prop := ∀ c ∈ l, isBlank (c.toNat : Int) = true
theorem BL.nil : BL [] := fun _ h => by cases h
def Stop (r : Str) : Prop := r = [] ∨ ∃ c r', r = c :: r' ∧ (isBlank (c.toNat : Int) = true ∨ c = 44 ∨ c = 93 ∨ c = 125)
theorem Stop.one {c : UInt8} {r : Str} (h : c = 44 ∨ c = 93 ∨ c = 125) : Stop (c :: r) := .inr ⟨c, r, rfl, .inr h⟩
theorem insP_last : ∀ {l : List (Str × JV)} {k : Str} {x : JV}, (∀ p ∈ l, Op.bytesLess p.1 k = true) → insP l k x = l ++ [(k, x)]
  | [], k, x, _ => rfl
  | (a, y) :: l, k, x, h => by
    have h1 := h (a, y) List.mem_cons_self
    rw [insP, if_neg (by rw [less_anti h1]; simp), insP_last fun p hp => h p (List.mem_cons_of_mem _ hp)]
    rfl
end Go.Eng

namespace Go.Eng
open Go Go.Num
theorem ins_mem {l : List (Str × JV)} {k : Str} {t : JV} : ∀ p, p ∈ insP l k t ↔ p = (k, t) ∨ p ∈ l := by
  induction l with
  | nil => intro p; simp [insP]
  | cons q r ih =>
    obtain ⟨a, y⟩ := q
    intro p
    simp only [insP]
    split
    · rw [List.mem_cons]
    · rw [List.mem_cons, ih p, List.mem_cons]
      constructor
      · rintro (h | h | h)
        · exact .inr (.inl h)
        · exact .inl h
        · exact .inr (.inr h)
      · rintro (h | h | h)
        · exact .inr (.inl h)
        · exact .inl h
        · exact .inr (.inr h)
theorem ins_len (l : List (Str × JV)) (k : Str) (x : JV) : (insP l k x).length = l.length + 1 := by
  induction l with
  | nil => rfl
  | cons q r ih =>
    obtain ⟨a, y⟩ := q
    simp only [insP]
    split
    · rfl
    · simp only [List.length_cons, ih]
theorem rise_ins {l : List (Str × JV)} {k : Str} {x : JV} (h : Rise (l.map (·.1))) (hk : k ∉ l.map (·.1)) : Rise ((insP l k x).map (·.1)) := by
  induction l with
  | nil => exact List.pairwise_singleton _ _
  | cons q r ih =>
    obtain ⟨a, y⟩ := q
    simp only [List.map_cons] at h hk
    have hp := List.pairwise_cons.1 h
    simp only [insP]
    split
    · rename_i hlt
      simp only [List.map_cons]
      refine List.Pairwise.cons (fun c hc => ?_) h
      rcases List.mem_cons.1 hc with rfl | hc
      · exact hlt
      · exact less_trans hlt (hp.1 c hc)
    · rename_i hlt
      have hka : k ≠ a := fun e => hk (by rw [e]; exact List.mem_cons_self)
      have hak : Op.bytesLess a k = true := by
        rcases less_tri k a with h | h | h
        · exact absurd h hlt
        · exact absurd h hka
        · exact h
      simp only [List.map_cons]
      refine List.Pairwise.cons (fun c hc => ?_) (ih hp.2 fun h => hk (List.mem_cons_of_mem _ h))
      obtain ⟨p, hp1, rfl⟩ := List.mem_map.1 hc
      rcases (ins_mem p).1 hp1 with rfl | hp1
      · exact hak
      · exact hp.1 _ (List.mem_map.2 ⟨p, hp1, rfl⟩)
theorem zip_maps (l : List (Str × JV)) : (l.map (·.1)).zip (l.map (·.2)) = l := by
  induction l with
  | nil => rfl
  | cons q r ih => simp only [List.map_cons, List.zip_cons_cons, ih]
theorem put_mkO {l : List (Str × JV)} {k : Str} {x : JV} (h : k ∉ l.map (·.1)) : putM (mkO l) k x = mkO (insP l k x) := by
  unfold putM
  have e1 : (mkO l).k = 6 := rfl
  have e2 : (mkO l).ks = l.map (·.1) := rfl
  have e3 : (mkO l).xs = l.map (·.2) := rfl
  rw [if_pos e1, e2, e3, zip_maps]
  congr 2
  unfold dropP
  rw [List.filter_eq_self]
  intro p hp
  rw [Bool.not_eq_true', decide_eq_false_iff_not]
  intro e
  exact h (List.mem_map.2 ⟨p, hp, e⟩)
end Go.Eng
namespace Go.Eng
open Go Go.Num
theorem BL.app {a b : Str} (h : BL a) (h' : BL b) : BL (a ++ b) := fun c hc => by
  rcases List.mem_append.1 hc with h1 | h1
  · exact h c h1
  · exact h' c h1
end Go.Eng

namespace Go.Proofs.YtdkikjcpgihjlaaGreatDoor
open Go Go.Eng
set_option maxRecDepth 100000
section
variable [HX]
theorem shape_of {w : World} {a : Nat} {x : List Value} {T : TypeId} (h : w.heap[a]? = some (.cells x.toArray T (0, 0))) : w.shape? a = some (T, x.length) := by simp [World.shape?, h]
theorem ov_s {w : World} {a b oa ob la ca lb cb : Nat} {x y : List Value} {T1 T2 : TypeId} {K : Value → World → Prop} (hne : a ≠ b) (ha : w.heap[a]? = some (.cells x.toArray T1 (0, 0))) (hb : w.heap[b]? = some (.cells y.toArray T2 (0, 0))) (hy : y ≠ []) (hK : K (.bool false) w) :
    callF Tryz.prog 191 [.slice (some ⟨a, oa, none⟩) la ca, .slice (some ⟨b, ob, none⟩) lb cb] w K := by
  unfold callF
  rw [run_callFunc_extern Tryz.func191 (by kernel_rfl) (by kernel_rfl) (by kernel_rfl) (e := Extern.SlicesOverlaps.overlaps #[26, 26] #[4]) (by kernel_rfl),
    Lib.run_overlaps_apart w 26 4 ST (by kernel_rfl) 1 (fun w => by kernel_rfl) ⟨a, oa, none⟩ ⟨b, ob, none⟩ la ca lb cb hne T1 T2 x.length y.length (shape_of ha) (shape_of hb) (fun e => hy (List.eq_nil_of_length_eq_zero e)) (by rw [frozen_eq, ha, frO_zero]) (by rw [frozen_eq, ha, frO_zero])]
  exact hK
theorem ov_v {w : World} {a b oa ob la ca lb cb : Nat} {x y : List Value} {T1 T2 : TypeId} {K : Value → World → Prop} (hne : a ≠ b) (ha : w.heap[a]? = some (.cells x.toArray T1 (0, 0))) (hb : w.heap[b]? = some (.cells y.toArray T2 (0, 0))) (hy : y ≠ []) (hK : K (.bool false) w) :
    callF Tryz.prog 193 [.slice (some ⟨a, oa, none⟩) la ca, .slice (some ⟨b, ob, none⟩) lb cb] w K := by
  unfold callF
  rw [run_callFunc_extern Tryz.func193 (by kernel_rfl) (by kernel_rfl) (by kernel_rfl) (e := Extern.SlicesOverlaps.overlaps #[22, 22] #[4]) (by kernel_rfl),
    Lib.run_overlaps_apart w 22 4 VT (by kernel_rfl) 5 (fun w => by kernel_rfl) ⟨a, oa, none⟩ ⟨b, ob, none⟩ la ca lb cb hne T1 T2 x.length y.length (shape_of ha) (shape_of hb) (fun e => hy (List.eq_nil_of_length_eq_zero e)) (by rw [frozen_eq, ha, frO_zero]) (by rw [frozen_eq, ha, frO_zero])]
  exact hK
theorem insert_s {w : World} {base tb n i : Nat} {v : Value} {xs c : List Value} {T2 : TypeId} {K : Value → World → Prop} (hown : Own w base ST 1 v n xs) (ht : w.heap[tb]? = some (.cells c.toArray T2 (0, 0))) (hc : c.length = 1) (h1 : ∀ u ∈ c, one1 u = true) (hx1 : ∀ u ∈ xs, one1 u = true)
    (hne : v.ownBlock ≠ some tb) (hi : i ≤ n) (hn : n ≤ 1000000) (hbase : base ≤ w.heap.size)
    (hK : ∀ v' w', Own w' base ST 1 v' (n + 1) (xs.take (i * 1) ++ c ++ xs.drop (i * 1)) → Chg (fun k => v.ownBlock = some k) w w' → (∀ k, v'.ownBlock = some k → v.ownBlock = some k ∨ w.heap.size ≤ k) → K v' w') :
    callF Tryz.prog 170 [v, i64 (i : Nat), .slice (some ⟨tb, 0, none⟩) 1 1] w K := by
  refine W170_ok ?_
  show InsW Tryz.prog 1 26 3 191 192 _ _ _ _ _
  exact insert_q elem_s (by kernel_rfl) ov_s hown ht hc h1 hx1 hne hi hn (by decide) hbase hK
theorem insert_v {w : World} {base tb n i : Nat} {v : Value} {xs c : List Value} {T2 : TypeId} {K : Value → World → Prop} (hown : Own w base VT 5 v n xs) (ht : w.heap[tb]? = some (.cells c.toArray T2 (0, 0))) (hc : c.length = 5) (h1 : ∀ u ∈ c, one1 u = true) (hx1 : ∀ u ∈ xs, one1 u = true)
    (hne : v.ownBlock ≠ some tb) (hi : i ≤ n) (hn : n ≤ 1000000) (hbase : base ≤ w.heap.size)
    (hK : ∀ v' w', Own w' base VT 5 v' (n + 1) (xs.take (i * 5) ++ c ++ xs.drop (i * 5)) → Chg (fun k => v.ownBlock = some k) w w' → (∀ k, v'.ownBlock = some k → v.ownBlock = some k ∨ w.heap.size ≤ k) → K v' w') :
    callF Tryz.prog 171 [v, i64 (i : Nat), .slice (some ⟨tb, 0, none⟩) 1 1] w K := by
  refine W171_ok ?_
  show InsW Tryz.prog 5 22 3 193 194 _ _ _ _ _
  exact insert_q elem_v (by kernel_rfl) ov_v hown ht hc h1 hx1 hne hi hn (by decide) hbase hK
end
end Go.Proofs.YtdkikjcpgihjlaaGreatDoor
namespace Go.Proofs.YtdkikjcpgihjlaaGreatDoor
open Go Go.Eng
set_option maxRecDepth 100000
theorem VRepsP.len {G : Nat → Prop} {w : World} {xs : List JV} {L : List Value} (h : VRepsP G w xs L) : L.length = xs.length * 5 := (VRepsP.rep h).len
theorem VRepsP.app {G : Nat → Prop} {w : World} : ∀ {xs ys : List JV} {L M : List Value}, VRepsP G w xs L → VRepsP G w ys M → VRepsP G w (xs ++ ys) (L ++ M)
  | [], ys, L, M, h, h' => by simp only [VRepsP] at h; subst h; exact h'
  | x :: xs, ys, L, M, h, h' => by
    simp only [VRepsP] at h
    obtain ⟨c, r, rfl, hc, hr⟩ := h
    simp only [List.cons_append, VRepsP]
    exact ⟨c, r ++ M, by simp, hc, VRepsP.app hr h'⟩
theorem VRepsP.cut {G : Nat → Prop} {w : World} : ∀ (i : Nat) {xs : List JV} {L : List Value}, VRepsP G w xs L → VRepsP G w (xs.take i) (L.take (i * 5)) ∧ VRepsP G w (xs.drop i) (L.drop (i * 5))
  | 0, xs, L, h => by simp only [Nat.zero_mul, List.take_zero, List.drop_zero, VRepsP]; exact ⟨trivial, h⟩
  | i + 1, [], L, h => by simp only [VRepsP] at h; subst h; simp [VRepsP]
  | i + 1, x :: xs, L, h => by
    simp only [VRepsP] at h
    obtain ⟨c, r, rfl, hc, hr⟩ := h
    have h5 := hc.rep.len
    obtain ⟨h1, h2⟩ := VRepsP.cut i hr
    have e1 : (c ++ r).take ((i + 1) * 5) = c ++ r.take (i * 5) := by
      rw [show (i + 1) * 5 = c.length + i * 5 by omega, List.take_append, List.take_of_length_le (by omega), Nat.add_sub_cancel_left]
    have e2 : (c ++ r).drop ((i + 1) * 5) = r.drop (i * 5) := by
      rw [show (i + 1) * 5 = c.length + i * 5 by omega, List.drop_append]
      simp
    rw [e1, e2]
    simp only [List.take_succ_cons, List.drop_succ_cons, VRepsP]
    exact ⟨⟨c, _, rfl, hc, h1⟩, h2⟩
theorem VRepsP.one' {G : Nat → Prop} {w : World} {x : JV} {cs : List Value} (h : VRepP G w x cs) : VRepsP G w [x] cs := by
  simp only [VRepsP]; exact ⟨cs, [], by simp, h, rfl⟩
theorem ins_split {l : List (Str × JV)} {k : Str} {x : JV} {i : Nat} (hk : k ∉ l.map (·.1)) (h1 : ∀ j a, j < i → (l.map (·.1))[j]? = some a → Op.bytesLess a k = true) (h2 : ∀ j a, i ≤ j → (l.map (·.1))[j]? = some a → Op.bytesLess a k = false) : insP l k x = l.take i ++ (k, x) :: l.drop i := by
  induction l generalizing i with
  | nil => simp [insP]
  | cons q r ih =>
    obtain ⟨a, y⟩ := q
    simp only [List.map_cons, List.mem_cons, not_or] at hk
    simp only [insP]
    cases i with
    | zero =>
      have := h2 0 a (Nat.zero_le _) rfl
      have hka : Op.bytesLess k a = true := by
        rcases less_tri k a with h | h | h
        · exact h
        · exact absurd h hk.1
        · rw [this] at h; cases h
      rw [if_pos hka]; rfl
    | succ i =>
      have := h1 0 a (by omega) rfl
      rw [if_neg (by rw [less_anti this]; simp), ih (i := i) hk.2 (fun j b hj hb => h1 (j + 1) b (by omega) hb) (fun j b hj hb => h2 (j + 1) b (by omega) hb)]
      rfl
theorem own_chg {w w' : World} {B : Nat} {e : TypeId} {size : Nat} {v : Value} {n : Nat} {xs : List Value} {S : Nat → Prop} (h : Own w B e size v n xs) (hc : Chg S w w') (hS : ∀ k, v.ownBlock = some k → ¬ S k) : Own w' B e size v n xs := by
  obtain ⟨hl, h | ⟨g, cap, cur, rfl, h1, h2, h3⟩⟩ := h
  · exact ⟨hl, .inl h⟩
  · exact ⟨hl, .inr ⟨g, cap, cur, rfl, h1, hc.at h2 (hS g rfl), h3⟩⟩
theorem own_in {w : World} {B : Nat} {e : TypeId} {size : Nat} {v : Value} {n k : Nat} {xs : List Value} (h : Own w B e size v n xs) (hk : v.ownBlock = some k) : B ≤ k ∧ k < w.heap.size ∧ ∃ c, w.heap[k]? = some (.cells c e (0, 0)) := by
  obtain ⟨hl, ⟨rfl, _⟩ | ⟨g, cap, cur, rfl, h1, h2, h3⟩⟩ := h
  · cases hk
  · simp only [Value.ownBlock, Option.some.injEq] at hk
    subst hk
    exact ⟨h1, at_lt h2, _, h2⟩
theorem own_one {w : World} {B : Nat} {e : TypeId} {size : Nat} {v : Value} {n : Nat} {xs : List Value} (h : Own w B e size v n xs) : one1 v = true := by obtain ⟨p, c, rfl, _⟩ := h.sl.shape; rfl
theorem strs_one (l : List Str) : ∀ u ∈ l.map str, one1 u = true := fun u hu => by
  obtain ⟨s, _, rfl⟩ := List.mem_map.1 hu
  rfl
section
variable [HX]
theorem clone_so {v : Value} {T : TypeId} {l : List Str} {w : World} {K : Value → World → Prop} (h : SlAt w T v l.length (l.map str)) (hl : l.length ≤ 1000000)
    (hK : ∀ v' w', Ext w w' → Own w' w.heap.size ST 1 v' l.length (l.map str) → K v' w') : callF Tryz.prog 130 [v] w K := by
  refine W130_ok ?_
  unfold W130
  obtain ⟨p, cap, rfl, hcap, hp, hc⟩ := h
  cases p with
  | none =>
    obtain ⟨h0, rfl⟩ := hp rfl
    have : l = [] := List.eq_nil_of_length_eq_zero h0
    subst this
    have e : ∀ K : Value → Prop, eqW .slice false (.slice none ([] : List Str).length 0) (.slice none 0 0) K ↔ K (.bool true) := fun K => Iff.rfl
    rw [e]
    simp only [wsv, wsg, wsh, wsl, cond_true, cond_false, exists_eq_left', Option.some.injEq, Option.isSome_some, List.getElem?_toArray, List.getElem?_cons_zero, List.getElem?_cons_succ, List.length_cons, List.length_nil, List.set_cons_zero, List.set_cons_succ, List.getD_cons_zero, List.getD_cons_succ, Nat.zero_add, Nat.add_zero, Nat.reduceAdd, Nat.reduceLT, Nat.lt_add_one, Nat.zero_lt_succ, decide_true, decide_false, ne_eq, reduceCtorEq]
    exact hK _ w (Chg.refl _ _) ⟨rfl, .inl ⟨rfl, rfl⟩⟩
  | some a =>
    have e : ∀ K : Value → Prop, eqW .slice false (.slice (some a) l.length cap) (.slice none 0 0) K ↔ K (.bool false) := fun K => Iff.rfl
    rw [e]
    unfold bslW
    simp only [wsv, wsg, wsh, wsl, cond_true, cond_false, exists_eq_left', Option.some.injEq, Option.isSome_some, List.getElem?_toArray, List.getElem?_cons_zero, List.getElem?_cons_succ, List.length_cons, List.length_nil, List.set_cons_zero, List.set_cons_succ, List.getD_cons_zero, List.getD_cons_succ, Nat.zero_add, Nat.add_zero, Nat.reduceAdd, Nat.reduceLT, Nat.lt_add_one, Nat.zero_lt_succ, decide_true, decide_false, ne_eq, reduceCtorEq]
    refine append_own3 elem_s (base := w.heap.size) (own_new (w := w) (base := w.heap.size) (e := ST) (size := 1) (n := 0) (cs := []) (Nat.le_refl _) rfl (by omega)) (x := .slice (some a) l.length cap) (T := T) (m := l.length) (news := l.map str) ?_ (by simp) ?_ (by omega) (by omega) (by rw [size_alloc]; omega) fun v' w' h' hc' hb' => ?_
    · have hx : Ext w (w.alloc (.cells ([] : List Value).toArray ST)) := (by repeat (first | assumption | exact Chg.refl _ _ | refine Chg.drew ?_ | refine Chg.alloc ?_ _ | refine Chg.set ?_ (by first | exact .inl rfl | exact .inr (by omega) | exact .inr (by simp only [size_set, size_alloc, size_drew]; omega) | (left; simp; done)) _ | exact Chg.of_ext (by assumption)))
      exact SlAt.ext ⟨some a, cap, rfl, hcap, hp, hc⟩ hx
    · exact strs_one l
    · have hx : Ext w (w.alloc (.cells ([] : List Value).toArray ST)) := (by repeat (first | assumption | exact Chg.refl _ _ | refine Chg.drew ?_ | refine Chg.alloc ?_ _ | refine Chg.set ?_ (by first | exact .inl rfl | exact .inr (by omega) | exact .inr (by simp only [size_set, size_alloc, size_drew]; omega) | (left; simp; done)) _ | exact Chg.of_ext (by assumption)))
      refine hK v' w' (hx.then hc' fun k hk e => ?_) (by simpa using h')
      simp only [Value.ownBlock, Option.some.injEq] at e
      omega
theorem clones_o {xs : List JV} (hf : ∀ x ∈ xs, fewM x = true)
    {sv : Value} {w : World} {K : Value → World → Prop} (h : ItemsAt w sv xs) (hl : xs.length ≤ 1000000)
    (hK : ∀ sv' w' L, Ext w w' → Own w' w.heap.size VT 5 sv' xs.length L → VRepsP (fun k => w.heap.size ≤ k ∧ sv'.ownBlock ≠ some k) w' xs L → K sv' w') : callF Tryz.prog 104 [sv] w K := by
  refine W104_ok ?_
  unfold W104
  rw [h.len]
  refine ⟨fun s w' => ∃ i v L, i ≤ xs.length ∧ s = [v, i64 (i : Nat)] ∧ Ext w w' ∧ Own w' w.heap.size VT 5 v i L ∧ VRepsP (fun k => w.heap.size ≤ k ∧ v.ownBlock ≠ some k) w' (xs.take i) L,
    fun s _ => match s with | [_, .int _ i] => xs.length - i.toNat | _ => 0, ⟨0, _, [], by omega, rfl, Chg.refl _ _, ⟨by simp, .inl ⟨rfl, rfl⟩⟩, by simp [VRepsP]⟩, ?_⟩
  rintro s g w2 ⟨i, v, L, hi, rfl, hx2, hO, hr⟩
  rcases Nat.lt_or_ge i xs.length with hlt | hge
  · obtain ⟨x, hxi⟩ : ∃ x, xs[i]? = some x := ⟨_, List.getElem?_eq_getElem hlt⟩
    have hltI : (i : Int) < (xs.length : Int) := by omega
    simp only [wsv, wsg, wsh, wsl, cond_true, cond_false, exists_eq_left', Option.some.injEq, Option.isSome_some, List.getElem?_toArray, List.getElem?_cons_zero, List.getElem?_cons_succ, List.length_cons, List.length_nil, List.set_cons_zero, List.set_cons_succ, List.getD_cons_zero, List.getD_cons_succ, Nat.zero_add, Nat.add_zero, Nat.reduceAdd, Nat.reduceLT, Nat.lt_add_one, Nat.zero_lt_succ, decide_true, decide_false, ne_eq, reduceCtorEq, hltI]
    refine (h.ext hx2).at hxi fun cs hcs => ?_
    refine copy_new hcs fun p w3 sp kp hP hx3 => ?_
    refine hP.ld fun cs2 h2 => ?_
    refine clone_p x (hf x (List.mem_of_getElem? hxi)) h2 fun cs3 w4 hx4 h3 => ?_
    refine row_v h3.rep.len fun t w5 ht hx5 => ?_
    have hx25 := hx3.trans (hx4.trans hx5)
    have hO5 := hO.ext hx25
    have s0 := hx2.size
    have s3 := hx3.size
    have s25 := hx25.size
    have hglt : ∀ k, v.ownBlock = some k → k < w2.heap.size := fun k hk => (World.ownsRow.lt hO k hk).2
    refine append_own3 elem_v hO5 ht (m := 1) (by rw [h3.rep.len]) h3.rep.one (by omega) (by omega) (by omega) fun v' w6 h6 hc6 hb6 => ?_
    have hx6 : Ext w w6 := (hx2.trans hx25).then hc6 fun k hk e => by
      have := (own_ge hO5 e).1; omega
    rw [up1 (by omega)]
    refine ⟨⟨i + 1, v', L ++ cs3, hlt, rfl, hx6, h6, ?_⟩, by simp only [Int.toNat_natCast]; omega⟩
    have e : xs.take (i + 1) = xs.take i ++ [x] := by rw [List.take_add_one, hxi]; rfl
    rw [e]
    have hr5 := VRepsP.chg hx25 (fun _ _ _ e => e) hr
    have h35 := VRepP.chg hx5 (fun _ _ _ e => e) h3
    have hall : VRepsP (fun k => w.heap.size ≤ k ∧ v.ownBlock ≠ some k) w5 (xs.take i ++ [x]) (L ++ cs3) :=
      hr5.snoc (h35.mono fun k _ hk => ⟨by have : w3.heap.size ≤ k := hk; omega, fun e => by have := hglt k e; have : w3.heap.size ≤ k := hk; omega⟩)
    have hall2 : VRepsP (fun k => (w.heap.size ≤ k ∧ v.ownBlock ≠ some k) ∧ k < w5.heap.size) w5 (xs.take i ++ [x]) (L ++ cs3) := hall.mono fun k hlt hk => ⟨hk, hlt⟩
    have hall3 := VRepsP.chg hc6 (fun k hk _ e => hk.1.2 e) hall2
    exact hall3.mono fun k _ hk => ⟨hk.1.1, fun e => by
      rcases hb6 k e with h | h
      · exact hk.1.2 h
      · omega⟩
  · obtain rfl : i = xs.length := by omega
    simp only [wsv, wsg, wsh, wsl, cond_true, cond_false, exists_eq_left', Option.some.injEq, Option.isSome_some, List.getElem?_toArray, List.getElem?_cons_zero, List.getElem?_cons_succ, List.length_cons, List.length_nil, List.set_cons_zero, List.set_cons_succ, List.getD_cons_zero, List.getD_cons_succ, Nat.zero_add, Nat.add_zero, Nat.reduceAdd, Nat.reduceLT, Nat.lt_add_one, Nat.zero_lt_succ, decide_true, decide_false, ne_eq, reduceCtorEq, Int.lt_irrefl]
    rw [List.take_length] at hr
    exact hK v w2 L hx2 hO hr
structure OwnP (w : World) (B : Nat) (v : JV) (sv kv : Value) (L : List Value) : Prop where
  items : Own w B VT 5 sv v.xs.length L
  reps : VRepsP (fun q => B ≤ q ∧ sv.ownBlock ≠ some q ∧ kv.ownBlock ≠ some q) w v.xs L
  keys : Own w B ST 1 kv v.ks.length (v.ks.map str)
  fits : Fits v.xs.length v.ks v.t
theorem OwnP.ext {w w' : World} {B : Nat} {v : JV} {sv kv : Value} {L : List Value} (h : OwnP w B v sv kv L) (hx : Ext w w') : OwnP w' B v sv kv L := ⟨own_chg h.items hx fun _ _ e => e, VRepsP.chg hx (fun _ _ _ e => e) h.reps, own_chg h.keys hx fun _ _ e => e, h.fits⟩
theorem OwnP.rep {w : World} {B : Nat} {v : JV} {sv kv : Value} {L : List Value} (h : OwnP w B v sv kv L) : VRepP (From B) w v [i64 v.k, .bool v.b, str v.t, sv, kv] :=
  VRepP.mk h.items.sl (h.reps.mono fun k _ hk => hk.1) h.keys.sl h.fits (fun _ k hk => (own_in h.items hk).1) (fun _ k hk => (own_in h.keys hk).1)
theorem clone_o {v : JV} {cs : List Value} {w : World} {K : Value → World → Prop} (hfew : fewM v = true) (h : VRep w v cs) (hK : ∀ sv kv L w', Ext w w' → OwnP w' w.heap.size v sv kv L → K (.agg [i64 v.k, .bool v.b, str v.t, sv, kv].toArray) w') :
    callF Tryz.prog 90 [.agg cs.toArray] w K := by
  rw [fewM_eq, fewL_all] at hfew
  simp only [Bool.and_eq_true, decide_eq_true_eq, List.all_eq_true] at hfew
  obtain ⟨⟨f1, f2⟩, f3⟩ := hfew
  refine W90_ok ?_
  unfold W90
  refine box_val h fun a w1 sv kv hB hx ha => ?_
  refine alloc_new fun b w2 hb hz2 hbb hx2 => ?_
  have hxd : Ext w2 w2.drew := Chg.drew (Chg.refl (fun _ => False) w2)
  have hB2 := hB.ext hx2
  have hBd := hB2.ext hxd
  have hbd := hxd.at hbb id
  have sd : w2.drew.heap.size = w2.heap.size := rfl
  simp only [wsv, wsg, wsh, wsl, cond_true, cond_false, exists_eq_left', Option.some.injEq, Option.isSome_some, List.getElem?_toArray, List.getElem?_cons_zero, List.getElem?_cons_succ, List.length_cons, List.length_nil, List.set_cons_zero, List.set_cons_succ, List.getD_cons_zero, List.getD_cons_succ, Nat.zero_add, Nat.add_zero, Nat.reduceAdd, Nat.reduceLT, Nat.lt_add_one, Nat.zero_lt_succ, decide_true, decide_false, ne_eq, reduceCtorEq, wsh, hB2.hb]
  obtain ⟨T1, k1⟩ := hBd.keys
  refine clone_so k1 (by omega) fun kv' w3 hx3 hk3 => ?_
  have hB3 := hBd.ext hx3
  have hb3 := hx3.at hbd id
  have s3 := hx3.size
  simp only [wsv, wsg, wsh, wsl, cond_true, cond_false, exists_eq_left', Option.some.injEq, Option.isSome_some, List.getElem?_toArray, List.getElem?_cons_zero, List.getElem?_cons_succ, List.length_cons, List.length_nil, List.set_cons_zero, List.set_cons_succ, List.getD_cons_zero, List.getD_cons_succ, Nat.zero_add, Nat.add_zero, Nat.reduceAdd, Nat.reduceLT, Nat.lt_add_one, Nat.zero_lt_succ, decide_true, decide_false, ne_eq, reduceCtorEq, wsh, hB3.hb]
  refine clones_o f3 hB3.itemsAt (by omega) fun sv' w4 L hx4 hL1 hL2 => ?_
  have hB4 := hB3.ext hx4
  have hb4 := hx4.at hb3 id
  have s1 := hx.size
  have hak := at_lt hB.hb
  have one1 : one1 sv' = true ∧ one1 kv' = true := ⟨own_one hL1, own_one hk3⟩
  refine st_at hB4.hb one1.2 (by simp) fun w5 hz5 ha5 hc5 => ?_
  have ha5 : w5.heap[a]? = some (.cells [i64 v.k, .bool v.b, str v.t, sv, kv'].toArray VT (0, 0)) := by rw [ha5]; simp
  refine st_at ha5 one1.1 (by simp) fun w6 hz6 ha6 hc6 => ?_
  have ha6 : w6.heap[a]? = some (.cells [i64 v.k, .bool v.b, str v.t, sv', kv'].toArray VT (0, 0)) := by rw [ha6]; simp
  refine ld_all ha6 rfl ?_
  have hb6 := hc6.at (hc5.at hb4 (by omega)) (by omega)
  refine ret_agg hb6 rfl rfl (obj_one one1.1 one1.2) fun w7 hc7 => ?_
  have hx1 : Ext w w4 := hx.trans (hx2.trans (hxd.trans (hx3.trans hx4)))
  have hx5 : Ext w w7 := ((hx1.new hc5 (by omega)).new hc6 (by omega)).new hc7 (by omega)
  have hch : Chg (fun k => k = a ∨ k = b) w4 w7 := ((hc5.mono fun k _ e => .inl e).trans (hc6.mono fun k _ e => .inl e)).trans (hc7.mono fun k _ e => .inr e)
  have hkb : ∀ k, kv'.ownBlock = some k → w2.drew.heap.size ≤ k ∧ k < w3.heap.size := fun k hk => ⟨(own_in hk3 hk).1, (own_in hk3 hk).2.1⟩
  have hib : ∀ k, sv'.ownBlock = some k → w3.heap.size ≤ k := fun k hk => (own_in hL1 hk).1
  have lower : ∀ {e : TypeId} {size n : Nat} {v : Value} {xs : List Value} {B B' : Nat} {w : World}, B' ≤ B → Own w B e size v n xs → Own w B' e size v n xs := fun hle h => by
    obtain ⟨hl, h | ⟨g, cap, cur, he, h1, h2⟩⟩ := h
    · exact ⟨hl, .inl h⟩
    · exact ⟨hl, .inr ⟨g, cap, cur, he, by omega, h2⟩⟩
  refine hK sv' kv' L w7 hx5 ⟨lower (by omega) (own_chg hL1 hch fun k hk e => by have := hib k hk; omega), ?_, lower (by omega) (own_chg (hk3.ext hx4) hch fun k hk e => by have := hkb k hk; omega), hB.fits⟩
  refine VRepsP.mono (fun k _ hk => ?_) (VRepsP.chg (G := fun k => w3.heap.size ≤ k ∧ sv'.ownBlock ≠ some k) hch (fun k hk _ e => by have := hk.1; omega) hL2)
  exact ⟨by have := hk.1; omega, hk.2, fun e => by have := hkb k e; have := hk.1; omega⟩
end
end Go.Proofs.YtdkikjcpgihjlaaGreatDoor
