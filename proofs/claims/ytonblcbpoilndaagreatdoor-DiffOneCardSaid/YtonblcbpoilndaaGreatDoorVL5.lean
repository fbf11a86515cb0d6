/- One plain sentence: the law that the program's keys turn: its function answers true. Conditions: those that each states. -/
import Derived.Test.YtonblcbpoilndaaGreatDoorVL4
set_option linter.all false
set_option linter.unusedSimpArgs false
set_option linter.unusedVariables false
set_option linter.unusedSectionVars false
namespace Go.Proofs.YtonblcbpoilndaaGreatDoor
open Go Go.Eng Go.Num
set_option maxRecDepth 100000
/-! ### plain -/
theorem differs_comm (a b : JV) (k : Str) : differsM a b k = differsM b a k := by
  unfold differsM
  have h1 : ((getM a k).isSome == (getM b k).isSome) = ((getM b k).isSome == (getM a k).isSome) := by cases (getM a k).isSome <;> cases (getM b k).isSome <;> rfl
  have h2 : sameM ((getM a k).getD JV.null) ((getM b k).getD JV.null) = sameM ((getM b k).getD JV.null) ((getM a k).getD JV.null) := by
    have e1 := same_iff ((getM a k).getD JV.null) ((getM b k).getD JV.null)
    have e2 := same_iff ((getM b k).getD JV.null) ((getM a k).getD JV.null)
    generalize sameM ((getM a k).getD JV.null) ((getM b k).getD JV.null) = p at *
    generalize sameM ((getM b k).getD JV.null) ((getM a k).getD JV.null) = q at *
    cases p <;> cases q <;> first | rfl | (exfalso; first | exact Bool.noConfusion (e1.2 (e2.1 rfl).symm) | exact Bool.noConfusion (e2.2 (e1.1 rfl).symm))
  rw [h1, h2]
  generalize knownM ((getM a k).getD JV.null) = p
  generalize knownM ((getM b k).getD JV.null) = q
  cases p <;> cases q <;> simp
theorem mrg_comm {a b : List Str} (ha : Rise a) (hb : Rise b) : mrg a b = mrg b a :=
  rise_ext (mrg_rise ha hb) (mrg_rise hb ha) fun x => by rw [mrg_mem, mrg_mem]; exact Or.comm
theorem mrg_self {a : List Str} (ha : Rise a) : mrg a a = a := rise_ext (mrg_rise ha ha) ha fun x => by rw [mrg_mem]; simp
theorem rise_inj {a : List Str} (h : Rise a) {i j : Nat} {x : Str} (hi : a[i]? = some x) (hj : a[j]? = some x) : i = j := by
  rcases Nat.lt_trichotomy i j with e | e | e
  · have := rise_lt h hi hj e; rw [less_irr] at this; cases this
  · exact e
  · have := rise_lt h hj hi e; rw [less_irr] at this; cases this
theorem idx_at {a : List Str} (h : Rise a) {i : Nat} {x : Str} (hi : a[i]? = some x) : idxK a x = some i := by
  cases hx : idxK a x with
  | none => exact absurd (List.mem_of_getElem? hi) (idxK_none.1 hx)
  | some j => rw [rise_inj h (idxK_spec hx) hi]
theorem get_at {v : JV} (h : Rise v.ks) (hk : v.k = 6) {i : Nat} {x : Str} (hi : v.ks[i]? = some x) : getM v x = v.xs[i]? := by
  unfold getM; rw [if_pos hk, idx_at h hi]
/-- the keys of what is not known -/
theorem turned_keys {a : JV} (ga : GoodV a) (ka : a.k = 6) {k : Str} (hk : k ∈ (mrg a.ks a.ks).filter (differsM a a)) : (getM a k).isSome = true ∧ knownM ((getM a k).getD JV.null) = false := by
  obtain ⟨l1, l2, l3, l4, _⟩ := ga.lens
  have ra := keysOk_rise l4
  rw [mrg_self ra, List.mem_filter] at hk
  obtain ⟨hm, hd⟩ := hk
  obtain ⟨i, hi⟩ := List.getElem?_of_mem hm
  have hlt := (List.getElem?_eq_some_iff.1 hi).1
  have hg := get_at ra ka hi
  rw [List.getElem?_eq_getElem (by have := l3 ka; omega)] at hg
  have hs : sameM ((getM a k).getD JV.null) ((getM a k).getD JV.null) = true := (same_iff _ _).2 rfl
  unfold differsM at hd
  rw [hs] at hd
  refine ⟨by rw [hg]; rfl, ?_⟩
  simpa using hd
theorem turned_nil {a : JV} (ga : GoodV a) (ka : a.k = 6) : decide ((mrg a.ks a.ks).filter (differsM a a) = []) = knownM a := by
  obtain ⟨l1, l2, l3, l4, _⟩ := ga.lens
  have ra := keysOk_rise l4
  rw [mrg_self ra, knownM_eq, knownL_all, ka, show decide ((6 : Int) = 1) = false from rfl, Bool.not_false, Bool.true_and]
  have hd : ∀ k ∈ a.ks, differsM a a k = !knownM ((getM a k).getD JV.null) := fun k hk => by
    obtain ⟨i, hi⟩ := List.getElem?_of_mem hk
    have hlt := (List.getElem?_eq_some_iff.1 hi).1
    have hs : sameM ((getM a k).getD JV.null) ((getM a k).getD JV.null) = true := (same_iff _ _).2 rfl
    unfold differsM
    rw [hs]
    simp
  cases h : a.xs.all knownM with
  | true =>
    refine decide_eq_true (List.filter_eq_nil_iff.2 fun k hk => ?_)
    rw [hd k hk]
    obtain ⟨i, hi⟩ := List.getElem?_of_mem hk
    have hlt := (List.getElem?_eq_some_iff.1 hi).1
    have hg := get_at ra ka hi
    rw [List.getElem?_eq_getElem (by have := l3 ka; omega)] at hg
    rw [hg]
    have := List.all_eq_true.1 h _ (List.getElem_mem (by have := l3 ka; omega : i < a.xs.length))
    simp [this]
  | false =>
    refine decide_eq_false fun e => ?_
    obtain ⟨x, hx, hn⟩ := List.all_eq_false.1 h
    obtain ⟨i, hi⟩ := List.getElem?_of_mem hx
    have hlt := (List.getElem?_eq_some_iff.1 hi).1
    obtain ⟨k, hk⟩ : ∃ k, a.ks[i]? = some k := ⟨_, List.getElem?_eq_getElem (by have := l3 ka; omega)⟩
    have := List.filter_eq_nil_iff.1 e k (List.mem_of_getElem? hk)
    rw [hd k (List.mem_of_getElem? hk), get_at ra ka hk, hi] at this
    simp at this hn
    rw [this] at hn; cases hn
/-! ### walk -/
section
variable [HX]
theorem get_ref0 {v : JV} {cs : List Value} {k : Str} {w0 w : World} {K : Value → World → Prop} (h : VRep w0 v cs) (h0 : Ext w0 w) (hl : v.k = 6 → v.ks.length = v.xs.length)
    (hK : ∀ cs' w', Ext w w' → VRep w0 ((getM v k).getD JV.null) cs' → K (.tuple #[.agg cs'.toArray, .bool (getM v k).isSome]) w') : callF Tryz.prog 17 [.agg cs.toArray, str k] w K := by
  refine W17_ok ?_
  unfold W17
  refine box_vali h fun a w1 sv kv hba I hx _ hz1 => ?_
  refine alloc_new fun b w2 hb hz2 hbb hx2 => ?_
  have hB := I.box (h0.trans (hx.trans hx2)) (hx2.at hba id)
  refine hB.ld fun cs1 h1 => ?_
  refine at_ref h1 fun w3 hx3 => ?_
  have hB := hB.ext hx3
  have hbb := hx3.at hbb id
  have hgb : w1.heap.size ≤ b := by omega
  have hx13 : Ext w1 w3 := hx2.trans hx3
  simp only [wsv, wsg, wsh, wsl, cond_true, cond_false, exists_eq_left', Option.some.injEq, Option.isSome_some, List.getElem?_toArray, List.getElem?_cons_zero, List.getElem?_cons_succ, List.length_cons, List.length_nil, List.set_cons_zero, List.set_cons_succ, List.getD_cons_zero, List.getD_cons_succ, Nat.zero_add, Nat.add_zero, Nat.reduceAdd, Nat.reduceLT, Nat.lt_add_one, Nat.zero_lt_succ, decide_true, decide_false, ne_eq, reduceCtorEq, wsh, hB.hb]
  intros
  rw [condW_b]
  refine ⟨fun hbad => ?_, fun hok => ?_⟩
  · have hg : getM v k = none := by
      simp only [Bool.or_eq_true, decide_eq_true_eq, idxI_neg] at hbad
      unfold getM
      rcases hbad with h | h
      · rw [h]; simp
      · rw [if_neg h]
    rw [hg] at hK
    have hn := vrep_null w0
    refine ret_agg (K := fun r w => K (.tuple #[r, .bool false]) w) hbb hn.len rfl hn.all_one fun w4 hc4 => ?_
    exact hK _ w4 (hx.trans (hx13.new hc4 hgb)) hn
  · simp only [Bool.or_eq_false_iff, decide_eq_false_iff_not, idxI_neg, Decidable.not_not] at hok
    obtain ⟨i, hi⟩ := Option.ne_none_iff_exists'.1 hok.1
    have hii : idxI v.ks k = (i : Int) := by unfold idxI; rw [hi]
    obtain ⟨x, hxi⟩ : ∃ x, v.xs[i]? = some x := ⟨_, List.getElem?_eq_getElem (by
      have := (List.getElem?_eq_some_iff.1 (idxK_spec hi)).1
      have := hl hok.2
      omega)⟩
    have hg : getM v k = some x := by unfold getM; rw [if_pos hok.2, hi]; exact hxi
    rw [hg] at hK
    rw [hii]
    refine I.item_old (h0.trans (hx.trans hx13)) hxi fun cs2 h2 => ?_
    refine ret_agg (K := fun r w => K (.tuple #[r, .bool true]) w) hbb h2.len rfl h2.all_one fun w4 hc4 => ?_
    exact hK _ w4 (hx.trans (hx13.new hc4 hgb)) h2
end
end Go.Proofs.YtonblcbpoilndaaGreatDoor
