/- One plain sentence: weakest preconditions, contracts and plain laws that the claim rests on, text behind text. Conditions: those that each states. -/
import Derived.Test.YtnoepcndjljolaaGreatDoorNA3
import Derived.Test.YtnoepcndjljolaaGreatDoorNA1
import Derived.Test.YtnoepcndjljolaaGreatDoorNA2
import Derived.Recover
import Derived.Lib.DecodeN
import Derived.Lib.MapLaws
set_option linter.all false
set_option linter.unusedSimpArgs false
set_option linter.unusedVariables false
set_option linter.unusedSectionVars false
namespace Go.Proofs.YtnoepcndjljolaaGreatDoor
open Go Go.Eng Go.RowKit
set_option maxRecDepth 100000
def goodR (v : JV) (m : Nat) (left : Int) : Bool := deepM v m && plainM v && decide ((cntM v : Int) ≤ left)
theorem keysOk_nil : keysOk [] = true := rfl
def flatK (k : Int) (t : Str) : Bool := if k = 3 then Num.goodN t else if k = 4 then decide (t.length ≤ 16384) else decide (t = [])
def flatOk (v : JV) : Bool := flatK v.k v.t
theorem goodR_flat {v : JV} {m : Nat} {left : Int} (hm : m ≠ 0) (hl : 1 ≤ left) (hb : v.b = true → v.k = 2) (h0 : 0 ≤ v.k) (h5 : v.k < 5) : goodR v m left = (flatOk v && (decide (v.xs.length = 0) && decide (v.ks.length = 0))) := by
  cases v with
  | mk k b t xs ks =>
  simp only [JV.k, JV.b] at hb h0 h5
  unfold goodR
  show (deepM (.mk k b t xs ks) m && (headOk k b t xs.length ks && plainL xs) && decide ((cntM (.mk k b t xs ks) : Int) ≤ left)) = (flatK k t && (decide (xs.length = 0) && decide (ks.length = 0)))
  unfold flatK
  by_cases hx : xs = []
  · subst hx
    cases m with
    | zero => exact absurd rfl hm
    | succ m =>
      by_cases hk : ks = []
      · subst hk
        have hc : cntM (.mk k b t [] []) = 1 := rfl
        rw [deepM_succ, hc, decide_eq_true (show ((1 : Nat) : Int) ≤ left from hl)]
        simp only [JV.xs, deepL, plainL, List.length_nil]
        rw [Bool.eq_iff_iff]
        simp only [headOk, keysOk_nil, Bool.and_true, Bool.true_and, Bool.and_eq_true, Bool.or_eq_true, Bool.not_eq_true', decide_eq_true_eq, decide_eq_false_iff_not]
        constructor
        · rintro ⟨⟨⟨⟨⟨⟨⟨⟨_, _⟩, _⟩, ht⟩, _⟩, _⟩, h3⟩, h4⟩, _⟩
          refine ⟨?_, trivial, trivial⟩
          split
          · rename_i e; exact h3.resolve_left (fun h => h e)
          · split
            · rename_i e; exact decide_eq_true (h4.resolve_left (fun h => h e))
            · rcases ht with (ht | ht) | ht
              · exact decide_eq_true ht
              · contradiction
              · contradiction
        · rintro ⟨hf, _⟩
          refine ⟨⟨⟨⟨⟨⟨⟨⟨h0, by omega⟩, ?_⟩, ?_⟩, .inl trivial⟩, .inr trivial⟩, ?_⟩, ?_⟩, ?_⟩
          · cases b with
            | false => exact .inl rfl
            | true => exact .inr (hb rfl)
          · by_cases e3 : k = 3
            · exact .inl (.inr e3)
            · by_cases e4 : k = 4
              · exact .inr e4
              · rw [if_neg e3, if_neg e4, decide_eq_true_iff] at hf; exact .inl (.inl hf)
          · by_cases e3 : k = 3
            · rw [if_pos e3] at hf; exact .inr hf
            · exact .inl e3
          · by_cases e4 : k = 4
            · rw [if_neg (by omega), if_pos e4, decide_eq_true_iff] at hf; exact .inr hf
            · exact .inl e4
          · exact .inl (by omega)
      · have h1 : headOk k b t ([] : List JV).length ks = false := by
          cases hh : headOk k b t ([] : List JV).length ks with
          | false => rfl
          | true => have := (headOk_out hh).2.2.2.2.2.1 hk; omega
        rw [h1, decide_eq_false (show ¬ ks.length = 0 from fun e => hk (List.eq_nil_of_length_eq_zero e))]
        simp
  · have h1 : headOk k b t xs.length ks = false := by
      cases hh : headOk k b t xs.length ks with
      | false => rfl
      | true => have := (headOk_out hh).2.2.2.2.1 (fun e => hx (List.eq_nil_of_length_eq_zero e)); omega
    rw [h1, decide_eq_false (show ¬ xs.length = 0 from fun e => hx (List.eq_nil_of_length_eq_zero e))]
    simp
def itemsOk (xs : List JV) (m : Nat) (left : Int) : Bool := deepL xs m && plainL xs && decide ((cntL xs : Int) ≤ left)
theorem goodR_deep {v : JV} {m : Nat} {left : Int} (hb : v.b = true → v.k = 2) (hk : v.k = 5 ∧ v.ks = [] ∨ v.k = 6 ∧ v.ks.length = v.xs.length ∧ keysOk v.ks = true) : goodR v (m + 1) left = (decide (v.t = []) && itemsOk v.xs m (left - 1)) := by
  cases v with
  | mk k b t xs ks =>
  simp only [JV.k, JV.b, JV.ks, JV.xs] at hb hk
  unfold goodR
  have hc : cntM (.mk k b t xs ks) = 1 + cntL xs := by simp only [cntM]
  rw [hc]
  show (deepL xs m && (headOk k b t xs.length ks && plainL xs) && decide (((1 + cntL xs : Nat) : Int) ≤ left)) = (decide (t = []) && (deepL xs m && plainL xs && decide ((cntL xs : Int) ≤ left - 1)))
  have hbf : b = false := by
    cases b with
    | false => rfl
    | true => have := hb rfl; omega
  subst hbf
  have hh : headOk k false t xs.length ks = decide (t = []) := by
    rw [Bool.eq_iff_iff]
    simp only [headOk, Bool.and_eq_true, Bool.or_eq_true, Bool.not_eq_true', decide_eq_true_eq, decide_eq_false_iff_not, Bool.not_false]
    constructor
    · rintro ⟨⟨⟨⟨⟨⟨⟨⟨⟨_, _⟩, _⟩, ht⟩, _⟩, _⟩, _⟩, _⟩, _⟩, _⟩
      rcases ht with (ht | ht) | ht
      · exact ht
      · omega
      · omega
    · intro ht
      refine ⟨⟨⟨⟨⟨⟨⟨⟨⟨by omega, by omega⟩, .inl trivial⟩, .inl (.inl ht)⟩, .inr (by omega)⟩, ?_⟩, .inl (by omega)⟩, .inl (by omega)⟩, ?_⟩, ?_⟩
      · rcases hk with ⟨_, h⟩ | ⟨h, _⟩
        · exact .inr h
        · exact .inl h
      · rcases hk with ⟨h, _⟩ | ⟨_, h, _⟩
        · exact .inl (by omega)
        · exact .inr h
      · rcases hk with ⟨_, h⟩ | ⟨_, _, h⟩
        · rw [h]; rfl
        · exact h
  rw [hh]
  have e : decide (((1 + cntL xs : Nat) : Int) ≤ left) = decide ((cntL xs : Int) ≤ left - 1) := by rw [decide_eq_decide]; omega
  rw [e]
  generalize decide ((cntL xs : Int) ≤ left - 1) = d4
  generalize decide (t = []) = d1
  generalize deepL xs m = d2
  generalize plainL xs = d3
  cases d1 <;> cases d2 <;> cases d3 <;> cases d4 <;> rfl
theorem goodR_no {v : JV} {m : Nat} {left : Int} (h : m = 0 ∨ left < 1 ∨ (v.b = true ∧ v.k ≠ 2) ∨ v.k < 0 ∨ 6 < v.k ∨ (v.k = 5 ∧ v.ks ≠ []) ∨ (v.k = 6 ∧ (v.ks.length ≠ v.xs.length ∨ keysOk v.ks = false))) : goodR v m left = false := by
  cases hg : goodR v m left with
  | false => rfl
  | true =>
    unfold goodR at hg
    simp only [Bool.and_eq_true, decide_eq_true_eq] at hg
    obtain ⟨⟨h1, h2⟩, h3⟩ := hg
    rw [plainM_eq, Bool.and_eq_true] at h2
    have hh := headOk_out h2.1
    have hc := cnt_pos v
    rcases h with rfl | h | ⟨h, h'⟩ | h | h | ⟨h, h'⟩ | ⟨h, h' | h'⟩
    · rw [deepM_zero] at h1; cases h1
    · omega
    · exact absurd (hh.2.2.1 h) h'
    · have := hh.1; omega
    · have := hh.2.1; omega
    · have := hh.2.2.2.2.2.1 h'; omega
    · exact absurd (hh.2.2.2.2.2.2.2.2.1 h) h'
    · have := hh.2.2.2.2.2.2.2.2.2; rw [h'] at this; cases this
theorem _root_.Go.Eng.SlAt.keep1 {w w' : World} {p : Nat} {x : Value} {T T' : TypeId} {fr : Nat × Nat} {v : Value} {n : Nat} {cs : List Value} (h : SlAt w T v n cs) (hp : w.heap[p]? = some (.cells [x].toArray T' fr)) (hc : Chg (fun k => k = p) w w')
    (hne : cs ≠ [] → cs[0]? ≠ some x ∨ 2 ≤ cs.length) : SlAt w' T v n cs := by
  obtain ⟨pp, cap, hv, h1, h2, h3⟩ := h
  refine ⟨pp, cap, hv, h1, h2, fun hn => ?_⟩
  obtain ⟨b, off, c, fr', hpp, hb, hcs⟩ := h3 hn
  refine ⟨b, off, c, fr', hpp, hc.at hb ?_, hcs⟩
  rintro rfl
  rw [hp] at hb
  simp only [Option.some.injEq, Obj.cells.injEq] at hb
  obtain ⟨rfl, _, _⟩ := hb
  have hpos : 0 < cs.length := List.length_pos_iff.2 hn
  have e0 := hcs 0 hpos
  rw [Nat.add_zero] at e0
  rcases hne hn with h | h
  · have : off = 0 := by
      apply Classical.byContradiction; intro ho
      rw [show ([x].toArray)[off]? = none by simp; omega, List.getElem?_eq_getElem hpos] at e0
      cases e0
    subst this
    exact h (by rw [← e0]; rfl)
  · have e1 := hcs 1 (by omega)
    rw [List.getElem?_eq_getElem (by omega), show ([x].toArray)[off + 1]? = none by simp] at e1
    cases e1
mutual
theorem vrep_keepi {w w' : World} {p : Nat} {n : Int} {T' : TypeId} {fr : Nat × Nat} (hp : w.heap[p]? = some (.cells [i64 n].toArray T' fr)) (hc : Chg (fun k => k = p) w w') : ∀ {v : JV} {cs : List Value}, VRep w v cs → VRep w' v cs
  | .mk k b t xs ks, cs, h => by
    simp only [VRep] at h ⊢
    obtain ⟨sv, kv, T1, T2, L, rfl, h1, h2, h3, h4⟩ := h
    refine ⟨sv, kv, T1, T2, L, rfl, h1.keep1 hp hc fun hn => .inr ?_, vreps_keepi hp hc h2, h3.keep1 hp hc fun hn => .inl ?_, h4⟩
    · have := h2.len
      have hl : 0 < L.length := List.length_pos_iff.2 hn
      omega
    · cases ks with
      | nil => exact absurd rfl hn
      | cons a r => intro e; simp at e
theorem vreps_keepi {w w' : World} {p : Nat} {n : Int} {T' : TypeId} {fr : Nat × Nat} (hp : w.heap[p]? = some (.cells [i64 n].toArray T' fr)) (hc : Chg (fun k => k = p) w w') : ∀ {xs : List JV} {L : List Value}, VReps w xs L → VReps w' xs L
  | [], L, h => by simp only [VReps] at h ⊢; exact h
  | x :: xs, L, h => by
    simp only [VReps] at h ⊢
    obtain ⟨c, r, rfl, h1, h2⟩ := h
    exact ⟨c, r, rfl, vrep_keepi hp hc h1, vreps_keepi hp hc h2⟩
end
section
variable [HX]
theorem itemsOk_no {xs : List JV} {m i : Nat} {left : Int} {x : JV} (hi : xs[i]? = some x) (h : goodR x m (left - cntS xs i) = false) : itemsOk xs m left = false := by
  cases hg : itemsOk xs m left with
  | false => rfl
  | true =>
    unfold itemsOk at hg
    simp only [Bool.and_eq_true, decide_eq_true_eq] at hg
    obtain ⟨⟨h1, h2⟩, h3⟩ := hg
    rw [deepL_all, List.all_eq_true] at h1
    rw [plainL_all, List.all_eq_true] at h2
    have hm := List.mem_of_getElem? hi
    have hcs := cntS_le xs (i + 1) (List.getElem?_eq_some_iff.1 hi).1
    rw [cntS, cntAt_get hi] at hcs
    unfold goodR at h
    rw [h1 x hm, h2 x hm, decide_eq_true (by omega)] at h
    cases h
theorem cntL_S : ∀ (xs : List JV), cntL xs = cntS xs xs.length
  | [] => rfl
  | x :: xs => by
    rw [List.length_cons, cntS_cons, ← cntL_S xs]
    simp only [cntL]
theorem itemsOk_yes {xs : List JV} {m : Nat} {left : Int} (h : ∀ i x, xs[i]? = some x → goodR x m (left - cntS xs i) = true) (hl : (cntL xs : Int) ≤ left) : itemsOk xs m left = true := by
  unfold itemsOk
  rw [decide_eq_true hl, deepL_all, plainL_all, List.all_eq_true.2, List.all_eq_true.2]
  · rfl
  · intro x hx
    obtain ⟨i, hi, rfl⟩ := List.getElem_of_mem hx
    have := h i _ (List.getElem?_eq_getElem hi)
    unfold goodR at this
    simp only [Bool.and_eq_true] at this
    exact this.1.2
  · intro x hx
    obtain ⟨i, hi, rfl⟩ := List.getElem_of_mem hx
    have := h i _ (List.getElem?_eq_getElem hi)
    unfold goodR at this
    simp only [Bool.and_eq_true] at this
    exact this.1.1
theorem callV_cap {P : Program} {g : FuncId} {args caps : List Value} {w : World} {K : Value → World → Prop} (h : callF P g (args ++ caps) w K) : callV P (.func (.func g) #[] caps.toArray) args w K := by
  unfold callV semN
  unfold callF at h
  have : (do let d ← (Deferred.ofValue (.func (.func g) #[] caps.toArray) args.toArray); invoke d.target d.args : Sem Next) = callFunc g (args ++ caps).toArray := by
    show callFunc g (#[] ++ args.toArray ++ caps.toArray) = _
    simp
  rw [this]
  exact h
theorem len_zero {n m : Nat} (hn : n ≤ 9223372036854775807) (hm : m ≤ 9223372036854775807) : decide (IntKind.i64.wrap ((n : Int) + (m : Int)) = 0) = (decide (n = 0) && decide (m = 0)) := by
  have e1 : (2 : Int) ^ 64 = 18446744073709551616 := by decide
  have e2 : (2 : Int) ^ (64 - 1) = 9223372036854775808 := by decide
  have : IntKind.i64.wrap ((n : Int) + (m : Int)) = 0 ↔ n = 0 ∧ m = 0 := by
    simp only [IntKind.wrap, IntKind.bits, IntKind.signed, Bool.true_and, e1, e2]
    split
    · rename_i h
      simp only [ge_iff_le, decide_eq_true_eq] at h
      omega
    · rename_i h
      omega
  rw [Bool.eq_iff_iff, decide_eq_true_iff, Bool.and_eq_true, decide_eq_true_iff, decide_eq_true_iff]
  exact this
theorem box_one {T : TypeId} {v : Value} {w : World} {K : Value → World → Prop} (h1 : one1 v = true) (h : ∀ a w', a = w.heap.size → w'.heap.size = w.heap.size + 1 → w'.heap[a]? = some (.cells [v].toArray T (0, 0)) → Ext w w' → K (.pointer (some ⟨a, 0, none⟩)) w') : boxW T v w K := by
  cases v <;> first | (simp [one1] at h1; done) | exact h _ _ rfl (by simp) (heap_anew _ _ _ rfl) (Chg.alloc (Chg.refl _ _) _)
theorem good_p (v : JV) : ∀ {m p : Nat} {left : Int} {w : World} {cs : List Value} {K : Value → World → Prop}, VRep w v cs → w.heap[p]? = some (.cells [i64 left].toArray 3 (0, 0)) → m ≤ 24 → -1 ≤ left → left ≤ 2000 →
    (∀ r w', r = goodR v m left → (r = true → w'.heap[p]? = some (.cells [i64 (left - cntM v)].toArray 3 (0, 0))) → Chg (fun k => k = p) w w' → K (.bool r) w') → callF Tryz.prog 101 [.agg cs.toArray, i64 (m : Int), .pointer (some ⟨p, 0, none⟩)] w K := by
  induction v using JV.ind' with
  | h v ih =>
    intro m p left w cs K h hp hm hl1 hl2 hK
    refine W101_ok ?_
    unfold W101
    refine box_val h fun a w1 sv kv hB hx1 ha => ?_
    have hplt := at_lt hp
    have hp1 := hx1.at hp id
    refine box_one rfl fun d w2 hd hz2 hd2 hx2 => ?_
    refine box_one rfl fun q w3 hq hz3 hq3 hx3 => ?_
    have hp3 := hx3.at (hx2.at hp1 id) id
    have hB3 := hB.ext (hx2.trans hx3)
    have hd3 := hx3.at hd2 id
    have hx13 := (hx1.trans hx2).trans hx3
    simp only [wsv, wsg, wsh, wsl, cond_true, cond_false, exists_eq_left', Option.some.injEq, Option.isSome_some, List.getElem?_toArray, List.getElem?_cons_zero, List.getElem?_cons_succ, List.length_cons, List.length_nil, List.set_cons_zero, List.set_cons_succ, List.getD_cons_zero, List.getD_cons_succ, Nat.zero_add, Nat.add_zero, Nat.reduceAdd, Nat.reduceLT, Nat.lt_add_one, Nat.zero_lt_succ, decide_true, decide_false, ne_eq, reduceCtorEq, wsh, hq3, hp3]
    have ew : IntKind.i64.wrap (left - 1) = left - 1 := wrap_id (by omega) (by omega)
    refine st_at (off := 0) hp3 rfl (by simp) fun w4 hz4 hp4 hc4 => ?_
    have s1 := hx1.size
    have s2 := hx2.size
    have hq4 := hc4.at hq3 (by omega)
    have hd4 := hc4.at hd3 (by omega)
    have hb4 := hc4.at hB3.hb (by omega)
    rw [show ([i64 left].toArray.setIfInBounds 0 (i64 (IntKind.i64.wrap (left - 1)))) = [i64 (left - 1)].toArray by rw [ew]; rfl] at hp4
    have hcw : Chg (fun k => k = p) w w4 := (Chg.of_ext hx13).trans hc4
    obtain ⟨Tk, hks3⟩ := hB3.keys
    have hks4 : SlAt w4 Tk kv v.ks.length (v.ks.map str) := hks3.keep1 hp3 hc4 fun hn => .inl (by
      cases hkk : v.ks with
      | nil => rw [hkk] at hn; exact absurd rfl hn
      | cons a r => intro e; simp at e)
    obtain ⟨Ti, L, hit, hreps⟩ := hB3.items
    have hit4 : SlAt w4 Ti sv v.xs.length L := hit.keep1 hp3 hc4 fun hn => .inr (by
      have := hreps.len
      have hl : 0 < L.length := List.length_pos_iff.2 hn
      omega)
    have hreps4 : VReps w4 v.xs L := vreps_keepi hp3 hc4 hreps
    obtain ⟨f1, f2, f3, f4⟩ := hB3.fits
    have lx : ∀ KK : Value → Prop, lenlW sv KK ↔ KK (i64 v.xs.length) := fun KK => lenl_at hit KK
    have lk : ∀ KK : Value → Prop, lenlW kv KK ↔ KK (i64 v.ks.length) := fun KK => hB3.lenk KK
    simp only [wsv, wsg, wsh, wsl, cond_true, cond_false, exists_eq_left', Option.some.injEq, Option.isSome_some, List.getElem?_toArray, List.getElem?_cons_zero, List.getElem?_cons_succ, List.length_cons, List.length_nil, List.set_cons_zero, List.set_cons_succ, List.getD_cons_zero, List.getD_cons_succ, Nat.zero_add, Nat.add_zero, Nat.reduceAdd, Nat.reduceLT, Nat.lt_add_one, Nat.zero_lt_succ, decide_true, decide_false, ne_eq, reduceCtorEq, wsh, hq4, hp4, hd4, hb4]
    intro g1 g2 g3 g4
    rw [condW_b]
    refine ⟨fun hbad => hK false w4 ?_ (fun e => by cases e) hcw, fun hok => ?_⟩
    · rw [goodR_no]
      simp only [Bool.or_eq_true, Bool.and_eq_true, decide_eq_true_eq] at hbad
      rcases hbad with (h | h) | ⟨h, h'⟩
      · exact .inl (by omega)
      · exact .inr (.inl (by omega))
      · exact .inr (.inr (.inl ⟨h, h'⟩))
    have hm0 : m ≠ 0 := fun e => by rw [decide_eq_true (show (m : Int) = 0 by omega)] at hok; cases hok
    have hl0 : 1 ≤ left := by
      rcases Int.lt_or_le (left - 1) 0 with h | h
      · rw [decide_eq_true h] at hok; simp at hok
      · omega
    have hbk : v.b = true → v.k = 2 := fun e => by
      rw [e] at hok
      simp only [Bool.or_eq_false_iff, Bool.true_and, decide_eq_false_iff_not, Classical.not_not] at hok
      exact hok.2
    have flat : ∀ w', Ext w4 w' → 0 ≤ v.k → v.k < 5 → K (.bool (flatOk v && (decide (v.xs.length = 0) && decide (v.ks.length = 0)))) w' := fun w' e h0 h5 => by
      refine hK _ w' (goodR_flat hm0 hl0 hbk h0 h5).symm (fun hr => ?_) (hcw.then e fun _ _ e => e.elim)
      simp only [Bool.and_eq_true, decide_eq_true_eq] at hr
      have hx0 : v.xs = [] := List.eq_nil_of_length_eq_zero hr.2.1
      have hc1 : cntM v = 1 := by
        rw [v.eta, hx0]; rfl
      rw [hc1]; exact e.at hp4 id
    have no : (v.k < 0 ∨ 6 < v.k ∨ (v.k = 5 ∧ v.ks ≠ []) ∨ (v.k = 6 ∧ (v.ks.length ≠ v.xs.length ∨ keysOk v.ks = false))) → K (.bool false) w4 := fun h => hK false w4 (goodR_no (.inr (.inr (.inr h)))).symm (fun e => by cases e) hcw
    obtain ⟨m', rfl⟩ : ∃ m', m = m' + 1 := ⟨m - 1, by omega⟩
    refine JoinW.cut (fun s' w' => s' = [] ∧ w' = w4 ∧ (v.k = 5 ∧ v.ks = [] ∨ v.k = 6 ∧ v.ks.length = v.xs.length ∧ keysOk v.ks = true)) ?_ ?_
    · refine JoinW.cut (fun s' w' => s' = [.bool (decide (v.k = 0 ∨ v.k = 1 ∨ v.k = 2))] ∧ w' = w4) ?_ ?_
      · rw [condW_dec]
        refine ⟨fun h => ?_, fun h => ?_⟩
        · rw [decide_eq_true h, decide_eq_true (.inl h)]; exact ⟨rfl, rfl⟩
        · rw [condW_dec]
          refine ⟨fun h1 => ?_, fun h1 => ?_⟩
          · rw [decide_eq_true h1, decide_eq_true (.inr (.inl h1))]; exact ⟨rfl, rfl⟩
          · rw [show decide (v.k = 2) = decide (v.k = 0 ∨ v.k = 1 ∨ v.k = 2) by rw [decide_eq_decide]; omega]
            exact ⟨rfl, rfl⟩
      rintro s' g w5 ⟨rfl, rfl⟩
      simp only [wsv, wsg, wsh, wsl, cond_true, cond_false, exists_eq_left', Option.some.injEq, Option.isSome_some, List.getElem?_toArray, List.getElem?_cons_zero, List.getElem?_cons_succ, List.length_cons, List.length_nil, List.set_cons_zero, List.set_cons_succ, List.getD_cons_zero, List.getD_cons_succ, Nat.zero_add, Nat.add_zero, Nat.reduceAdd, Nat.reduceLT, Nat.lt_add_one, Nat.zero_lt_succ, decide_true, decide_false, ne_eq, reduceCtorEq, wsh, hb4, lx, lk, condW_dec]
      refine ⟨fun h012 => ?_, fun h012 => ?_⟩
      · intro g5
        have := flat w5 (Chg.refl _ _) (by omega) (by omega)
        unfold flatOk flatK at this
        rw [if_neg (by omega), if_neg (by omega)] at this
        rw [len_zero f1 f2]
        exact this
      refine ⟨fun h3 => ?_, fun h3 => ?_⟩
      · refine numgood_ref f3 fun w6 hx6 => ?_
        have hb6 := hx6.at hb4 id
        have := flat w6 hx6 (by omega) (by omega)
        unfold flatOk flatK at this
        rw [if_pos h3] at this
        simp only [wsv, wsg, wsh, wsl, cond_true, cond_false, exists_eq_left', Option.some.injEq, Option.isSome_some, List.getElem?_toArray, List.getElem?_cons_zero, List.getElem?_cons_succ, List.length_cons, List.length_nil, List.set_cons_zero, List.set_cons_succ, List.getD_cons_zero, List.getD_cons_succ, Nat.zero_add, Nat.add_zero, Nat.reduceAdd, Nat.reduceLT, Nat.lt_add_one, Nat.zero_lt_succ, decide_true, decide_false, ne_eq, reduceCtorEq, wsh, hb6, lx, lk]
        intro g6
        rw [len_zero f1 f2]
        exact this
      refine ⟨fun h4 => ?_, fun h4 => ?_⟩
      · intro g6
        have := flat w5 (Chg.refl _ _) (by omega) (by omega)
        unfold flatOk flatK at this
        rw [if_neg h3, if_pos h4] at this
        rw [len_zero f1 f2]
        rw [show decide ((v.t.length : Int) ≤ 16384) = decide (v.t.length ≤ 16384) by rw [decide_eq_decide]; omega]
        exact this
      refine ⟨fun h5 => ?_, fun h5 => ?_⟩
      · refine ⟨fun hk => no (.inr (.inr (.inl ⟨h5, fun e => by rw [e] at hk; simp at hk⟩))), fun hk => .inl ⟨h5, List.eq_nil_of_length_eq_zero (by omega)⟩⟩
      refine ⟨fun h6 => ?_, fun h6 => no (by omega)⟩
      refine ⟨fun hne => no (.inr (.inr (.inr ⟨h6, .inl (by omega)⟩))), fun heq => ?_⟩
      refine loop_up v.ks.length (fun i w' => w' = w5 ∧ (∀ j a, j < i → v.ks[j]? = some a → a.length ≤ 16384) ∧ (∀ j a b, j + 1 < i → v.ks[j]? = some a → v.ks[j + 1]? = some b → Op.bytesLess a b = true)) ⟨rfl, fun j a h => by omega, fun j a b h => by omega⟩ ?_ ?_
      · rintro i w6 g6 L6 hi ⟨rfl, hl, hs⟩ hL
        obtain ⟨u, hu⟩ : ∃ u, v.ks[i]? = some u := ⟨_, List.getElem?_eq_getElem hi⟩
        have hlt : ((i : Int) < (v.ks.length : Int)) := by omega
        simp only [wsv, wsg, wsh, wsl, cond_true, cond_false, exists_eq_left', Option.some.injEq, Option.isSome_some, List.getElem?_toArray, List.getElem?_cons_zero, List.getElem?_cons_succ, List.length_cons, List.length_nil, List.set_cons_zero, List.set_cons_succ, List.getD_cons_zero, List.getD_cons_succ, Nat.zero_add, Nat.add_zero, Nat.reduceAdd, Nat.reduceLT, Nat.lt_add_one, Nat.zero_lt_succ, decide_true, decide_false, ne_eq, reduceCtorEq, hlt]
        refine text_ld hks4 hu ?_
        have hnext : u.length ≤ 16384 → (∀ x, 0 < i → v.ks[i - 1]? = some x → Op.bytesLess x u = true) → L6 [i64 ((i + 1 : Nat) : Int)] w6 := fun h1 h2 => by
          refine hL _ ⟨rfl, fun j a hj ha => ?_, fun j a b hj ha hb => ?_⟩
          · rcases Nat.lt_or_ge j i with h | h
            · exact hl j a h ha
            · obtain rfl : j = i := by omega
              rw [hu] at ha; cases ha; exact h1
          · rcases Nat.lt_or_ge (j + 1) i with h | h
            · exact hs j a b h ha hb
            · obtain rfl : i = j + 1 := by omega
              rw [hu] at hb; cases hb
              exact h2 a (by omega) (by simpa using ha)
        by_cases hlong : 16384 < u.length
        · have e : decide ((16384 : Int) < (u.length : Int)) = true := decide_eq_true (by omega)
          simp only [wsv, wsg, wsh, wsl, cond_true, cond_false, exists_eq_left', Option.some.injEq, Option.isSome_some, List.getElem?_toArray, List.getElem?_cons_zero, List.getElem?_cons_succ, List.length_cons, List.length_nil, List.set_cons_zero, List.set_cons_succ, List.getD_cons_zero, List.getD_cons_succ, Nat.zero_add, Nat.add_zero, Nat.reduceAdd, Nat.reduceLT, Nat.lt_add_one, Nat.zero_lt_succ, decide_true, decide_false, ne_eq, reduceCtorEq, e]
          intros
          exact no (.inr (.inr (.inr ⟨h6, .inr (keysOk_long hu hlong)⟩)))
        · have e : decide ((16384 : Int) < (u.length : Int)) = false := decide_eq_false (by omega)
          by_cases h0 : i = 0
          · subst h0
            have e0 : decide ((0 : Int) < ((0 : Nat) : Int)) = false := by decide
            simp only [wsv, wsg, wsh, wsl, cond_true, cond_false, exists_eq_left', Option.some.injEq, Option.isSome_some, List.getElem?_toArray, List.getElem?_cons_zero, List.getElem?_cons_succ, List.length_cons, List.length_nil, List.set_cons_zero, List.set_cons_succ, List.getD_cons_zero, List.getD_cons_succ, Nat.zero_add, Nat.add_zero, Nat.reduceAdd, Nat.reduceLT, Nat.lt_add_one, Nat.zero_lt_succ, decide_true, decide_false, ne_eq, reduceCtorEq, e, e0]
            rw [up1 (by omega)]
            intros
            exact hnext (by omega) fun x h => by omega
          · obtain ⟨j, rfl⟩ : ∃ j, i = j + 1 := ⟨i - 1, by omega⟩
            obtain ⟨x, hxj⟩ : ∃ x, v.ks[j]? = some x := ⟨_, List.getElem?_eq_getElem (by omega)⟩
            have e0 : decide ((0 : Int) < ((j + 1 : Nat) : Int)) = true := decide_eq_true (by omega)
            have hw : IntKind.i64.wrap (((j + 1 : Nat) : Int) - 1) = ((j : Nat) : Int) := by rw [wrap_id (by omega) (by omega)]; omega
            simp only [wsv, wsg, wsh, wsl, cond_true, cond_false, exists_eq_left', Option.some.injEq, Option.isSome_some, List.getElem?_toArray, List.getElem?_cons_zero, List.getElem?_cons_succ, List.length_cons, List.length_nil, List.set_cons_zero, List.set_cons_succ, List.getD_cons_zero, List.getD_cons_succ, Nat.zero_add, Nat.add_zero, Nat.reduceAdd, Nat.reduceLT, Nat.lt_add_one, Nat.zero_lt_succ, decide_true, decide_false, ne_eq, reduceCtorEq, e, e0, hw]
            intro g7
            refine GdW.look (!Op.bytesLess x u) (fun _ J hJ => ?_) fun g8 => ?_
            · rw [hb4]
              refine ⟨kv, rfl, ?_⟩
              refine text_ld hks4 hxj ?_
              rw [bin_sge]; exact hJ
            intro g9
            simp only [List.getD_cons_zero, cond_true]
            rw [condW_b]
            refine ⟨fun hge => no (.inr (.inr (.inr ⟨h6, .inr (keysOk_two hxj hu (by simpa using hge))⟩))), fun hlt2 => ?_⟩
            rw [up1 (by omega)]
            exact hnext (by omega) fun y _ hy => by
              have : v.ks[j]? = some y := by simpa using hy
              rw [hxj] at this; cases this
              simpa using hlt2
      · rintro w6 g6 L6 ⟨rfl, hl, hs⟩
        have hkeys : keysOk v.ks = true := keysOk_mk (fun i a h => hl i a (List.getElem?_eq_some_iff.1 h).1 h) (fun i a b h1 h2 => hs i a b (List.getElem?_eq_some_iff.1 h2).1 h1 h2)
        simp only [wsv, wsg, wsh, wsl, cond_true, cond_false, exists_eq_left', Option.some.injEq, Option.isSome_some, List.getElem?_toArray, List.getElem?_cons_zero, List.getElem?_cons_succ, List.length_cons, List.length_nil, List.set_cons_zero, List.set_cons_succ, List.getD_cons_zero, List.getD_cons_succ, Nat.zero_add, Nat.add_zero, Nat.reduceAdd, Nat.reduceLT, Nat.lt_add_one, Nat.zero_lt_succ, decide_true, decide_false, ne_eq, reduceCtorEq, Int.lt_irrefl]
        exact .inr ⟨h6, by omega, hkeys⟩
    · rintro s' g w5 ⟨rfl, rfl, hk⟩
      simp only [wsv, wsg, wsh, wsl, cond_true, cond_false, exists_eq_left', Option.some.injEq, Option.isSome_some, List.getElem?_toArray, List.getElem?_cons_zero, List.getElem?_cons_succ, List.length_cons, List.length_nil, List.set_cons_zero, List.set_cons_succ, List.getD_cons_zero, List.getD_cons_succ, Nat.zero_add, Nat.add_zero, Nat.reduceAdd, Nat.reduceLT, Nat.lt_add_one, Nat.zero_lt_succ, decide_true, decide_false, ne_eq, reduceCtorEq, wsh, hb4]
      refine GdW.act (itemsOk v.xs m' (left - 1)) (fun w' => Chg (fun k => k = p) w5 w' ∧ (decide (v.t = []) = true → itemsOk v.xs m' (left - 1) = true → w'.heap[p]? = some (.cells [i64 (left - 1 - cntL v.xs)].toArray 3 (0, 0)))) (fun e => ⟨Chg.refl _ _, fun e' => by rw [e] at e'; cases e'⟩) ?_ ?_
      · intro ht J hJ
        refine W102_ok ?_
        unfold W102
        refine W160_ok ?_
        unfold W160
        rw [lx]
        refine loop_up v.xs.length (fun i w' => Chg (fun k => k = p) w5 w' ∧ w'.heap[p]? = some (.cells [i64 (left - 1 - cntS v.xs i)].toArray 3 (0, 0)) ∧ (∀ j x, j < i → v.xs[j]? = some x → goodR x m' (left - 1 - cntS v.xs j) = true) ∧ SlAt w' Ti sv v.xs.length L ∧ VReps w' v.xs L ∧ (cntS v.xs i : Int) ≤ left - 1) ⟨Chg.refl _ _, by simpa [cntS] using hp4, fun j x h => by omega, hit4, hreps4, by simp [cntS]; omega⟩ ?_ ?_
        · rintro i w6 g6 L6 hi ⟨hc6, hp6, hall, hit6, hreps6, hcs6⟩ hL
          obtain ⟨x, hxi⟩ : ∃ x, v.xs[i]? = some x := ⟨_, List.getElem?_eq_getElem hi⟩
          have hlt : ((i : Int) < (v.xs.length : Int)) := by omega
          simp only [wsv, wsg, wsh, wsl, cond_true, cond_false, exists_eq_left', Option.some.injEq, Option.isSome_some, List.getElem?_toArray, List.getElem?_cons_zero, List.getElem?_cons_succ, List.length_cons, List.length_nil, List.set_cons_zero, List.set_cons_succ, List.getD_cons_zero, List.getD_cons_succ, Nat.zero_add, Nat.add_zero, Nat.reduceAdd, Nat.reduceLT, Nat.lt_add_one, Nat.zero_lt_succ, decide_true, decide_false, ne_eq, reduceCtorEq, hlt]
          refine item_ld hit6 hreps6 hxi fun cs6 hr6 => ?_
          refine callV_cap (caps := [.pointer (some ⟨d, 0, none⟩), .pointer (some ⟨q, 0, none⟩)]) ?_
          refine W159_ok ?_
          unfold W159
          refine box_val hr6 fun b7 w7 sv7 kv7 hB7 hx7 hb7 => ?_
          refine hB7.ld fun cs7 hr7 => ?_
          have hd6 := hc6.at hd4 (by omega)
          have hq6 := hc6.at hq4 (by omega)
          have hd7 := hx7.at hd6 id
          have hq7 := hx7.at hq6 id
          have hp7 := hx7.at hp6 id
          have hw : IntKind.i64.wrap (((m' + 1 : Nat) : Int) - 1) = ((m' : Nat) : Int) := by rw [wrap_id (by omega) (by omega)]; omega
          simp only [wsv, wsg, wsh, wsl, cond_true, cond_false, exists_eq_left', Option.some.injEq, Option.isSome_some, List.getElem?_toArray, List.getElem?_cons_zero, List.getElem?_cons_succ, List.length_cons, List.length_nil, List.set_cons_zero, List.set_cons_succ, List.getD_cons_zero, List.getD_cons_succ, Nat.zero_add, Nat.add_zero, Nat.reduceAdd, Nat.reduceLT, Nat.lt_add_one, Nat.zero_lt_succ, decide_true, decide_false, ne_eq, reduceCtorEq, wsh, hd7, hq7, hw]
          refine ih x (List.mem_of_getElem? hxi) hr7 hp7 (by omega) (by omega) (by omega) fun r w8 hr8 hp8 hc8 => ?_
          simp only [wsv, wsg, wsh, wsl, cond_true, cond_false, exists_eq_left', Option.some.injEq, Option.isSome_some, List.getElem?_toArray, List.getElem?_cons_zero, List.getElem?_cons_succ, List.length_cons, List.length_nil, List.set_cons_zero, List.set_cons_succ, List.getD_cons_zero, List.getD_cons_succ, Nat.zero_add, Nat.add_zero, Nat.reduceAdd, Nat.reduceLT, Nat.lt_add_one, Nat.zero_lt_succ, decide_true, decide_false, ne_eq, reduceCtorEq, condW_b]
          have hc68 : Chg (fun k => k = p) w6 w8 := (Chg.of_ext hx7).trans hc8
          have hc58 := hc6.trans hc68
          refine ⟨fun hbad => ?_, fun hgood => ?_⟩
          · have hrf : r = false := by simpa using hbad
            rw [decide_eq_true (show (0 : Int) ≤ (i : Int) by omega)]
            have := itemsOk_no hxi (show goodR x m' (left - 1 - cntS v.xs i) = false by rw [← hr8]; exact hrf)
            rw [this] at hJ
            exact hJ w8 ⟨hc58, fun _ e => by cases e⟩
          · have hrt : r = true := by simpa using hgood
            have hg := hr8
            rw [hrt] at hg
            have hcx : (cntM x : Int) ≤ left - 1 - cntS v.xs i := by
              unfold goodR at hg
              have := hg.symm
              simp only [Bool.and_eq_true, decide_eq_true_eq] at this
              exact this.2
            rw [up1 (by omega)]
            refine hL w8 ⟨hc58, ?_, ?_, ?_, ?_, ?_⟩
            · rw [cntS, cntAt_get hxi]
              have e : left - 1 - ((cntS v.xs i : Nat) : Int) - ((cntM x : Nat) : Int) = left - 1 - ((cntS v.xs i + cntM x : Nat) : Int) := by omega
              rw [hp8 hrt, e]
            · intro j y hj hy
              rcases Nat.lt_or_ge j i with h | h
              · exact hall j y h hy
              · obtain rfl : j = i := by omega
                rw [hxi] at hy; cases hy
                exact hg.symm
            · exact (hit6.ext hx7).keep1 hp7 hc8 fun hn => .inr (by
                have := hreps.len
                have hl : 0 < L.length := List.length_pos_iff.2 hn
                omega)
            · exact vreps_keepi hp7 hc8 (hreps6.ext hx7)
            · rw [cntS, cntAt_get hxi]; omega
        · rintro w6 g6 L6 ⟨hc6, hp6, hall, hit6, hreps6, hcs6⟩
          simp only [wsv, wsg, wsh, wsl, cond_true, cond_false, exists_eq_left', Option.some.injEq, Option.isSome_some, List.getElem?_toArray, List.getElem?_cons_zero, List.getElem?_cons_succ, List.length_cons, List.length_nil, List.set_cons_zero, List.set_cons_succ, List.getD_cons_zero, List.getD_cons_succ, Nat.zero_add, Nat.add_zero, Nat.reduceAdd, Nat.reduceLT, Nat.lt_add_one, Nat.zero_lt_succ, decide_true, decide_false, ne_eq, reduceCtorEq, Int.lt_irrefl]
          rw [← cntL_S] at hp6 hcs6
          have := itemsOk_yes (fun i x h => hall i x (List.getElem?_eq_some_iff.1 h).1 h) hcs6
          have hj := hJ w6 ⟨hc6, fun _ _ => hp6⟩
          rw [this] at hj
          exact hj
      · rintro g6 w6 ⟨hc6, hp6⟩
        simp only [wsv, wsg, wsh, wsl, cond_true, cond_false, exists_eq_left', Option.some.injEq, Option.isSome_some, List.getElem?_toArray, List.getElem?_cons_zero, List.getElem?_cons_succ, List.length_cons, List.length_nil, List.set_cons_zero, List.set_cons_succ, List.getD_cons_zero, List.getD_cons_succ, Nat.zero_add, Nat.add_zero, Nat.reduceAdd, Nat.reduceLT, Nat.lt_add_one, Nat.zero_lt_succ, decide_true, decide_false, ne_eq, reduceCtorEq]
        refine hK _ w6 (goodR_deep hbk hk).symm (fun hr => ?_) (hcw.trans hc6)
        simp only [Bool.and_eq_true, decide_eq_true_eq] at hr
        rw [hp6 (decide_eq_true hr.1) hr.2]
        have : cntM v = 1 + cntL v.xs := by cases v; simp only [cntM, JV.xs]
        have e : left - 1 - ((cntL v.xs : Nat) : Int) = left - ((1 + cntL v.xs : Nat) : Int) := by omega
        rw [this, e]
end
end Go.Proofs.YtnoepcndjljolaaGreatDoor
namespace Go.Proofs.YtnoepcndjljolaaGreatDoor
open Go Go.Eng Go.RowKit
set_option maxRecDepth 100000
theorem sizeLM_big (xs : List JV) {n : Int} (h : 2000 < n) : sizeLM xs n = n := by
  cases xs with
  | nil => rfl
  | cons x xs => simp only [sizeLM]; rw [if_neg (by omega)]
theorem size_cnt : ∀ (m : Nat), m ≤ 24 → ∀ (v : JV), deepM v m = true → (sizeM v ≤ 2000 → sizeM v = cntM v) ∧ ((cntM v : Int) ≤ 2000 → sizeM v = cntM v) := by
  intro m
  induction m with
  | zero => intro _ v h; rw [deepM_zero] at h; cases h
  | succ m ih =>
    intro hm v h
    rw [deepM_succ, deepL_all, List.all_eq_true] at h
    have lst : ∀ (xs : List JV), (∀ x ∈ xs, deepM x m = true) → ∀ n : Int, 1 ≤ n → (sizeLM xs n ≤ 2000 → sizeLM xs n = n + cntL xs) ∧ (n + (cntL xs : Int) ≤ 2000 → sizeLM xs n = n + cntL xs) := by
      intro xs
      induction xs with
      | nil => intro _ n _; simp [sizeLM, cntL]
      | cons x xs ihx =>
        intro hx n hn
        have hxd := hx x List.mem_cons_self
        obtain ⟨b1, b2⟩ := size_bound m (by omega) x hxd
        obtain ⟨c1, c2⟩ := ih (by omega) x hxd
        have hc := cnt_pos x
        simp only [sizeLM, cntL]
        by_cases h2 : n ≤ 2000
        · rw [if_pos h2, wrap_id (by omega) (by omega)]
          obtain ⟨d1, d2⟩ := ihx (fun y hy => hx y (List.mem_cons_of_mem _ hy)) (n + sizeM x) (by omega)
          constructor
          · intro hs
            have hy : n + sizeM x ≤ 2000 := by
              apply Classical.byContradiction; intro hno
              rw [sizeLM_big xs (by omega)] at hs
              omega
            have e := c1 (by omega)
            rw [d1 hs, e]
            omega
          · intro hs
            have e := c2 (by omega)
            rw [d2 (by omega), e]
            omega
        · rw [if_neg h2]
          constructor
          · intro hs; omega
          · intro hs; omega
    obtain ⟨d1, d2⟩ := lst v.xs h 1 (by omega)
    have hc : cntM v = 1 + cntL v.xs := by cases v; simp only [cntM, JV.xs]
    rw [sizeM_eq, hc]
    constructor
    · intro hs; rw [d1 hs]; omega
    · intro hs; rw [d2 (by omega)]; omega
theorem goodM_R (v : JV) : goodR v 24 2000 = goodM v := by
  unfold goodR goodM
  cases hd : deepM v 24 with
  | false => simp
  | true =>
    obtain ⟨c1, c2⟩ := size_cnt 24 (Nat.le_refl _) v hd
    have : decide ((cntM v : Int) ≤ 2000) = decide (sizeM v ≤ 2000) := by
      rw [decide_eq_decide]
      constructor
      · intro h; rw [c2 h]; exact h
      · intro h; rw [← c1 h]; exact h
    rw [this]
    cases decide (sizeM v ≤ 2000) <;> cases plainM v <;> rfl
theorem good_cnt {v : JV} (h : goodM v = true) : cntM v ≤ 2000 := by
  rw [← goodM_R] at h
  unfold goodR at h
  simp only [Bool.and_eq_true, decide_eq_true_eq] at h
  have := h.2
  omega
theorem Bld.isb {w : World} {B b : Nat} {l : Str} (h : Bld w B b l) : Lib.IsBuilderF BdT U8 B b (Lib.byteCells l) w := by
  obtain ⟨p, v, h1, h2, h3, h4⟩ := h
  have hO : w.ownsRow B U8 1 v (u8s l).length (u8s l) := by rw [u8s_length]; exact h3
  have : Lib.BuilderAt BdT U8 B b p (u8s l) w := ⟨h4, v, h1, hO, fun e => bd_ne h1 (h3.block b e)⟩
  rcases h2 with rfl | rfl
  · exact .inl (Lib.BuilderAtF.of this)
  · exact .inr (Lib.BuilderAtF.of this)
theorem below_chg {B : Nat} {w w' : World} (h : Below B w w') : Chg (fun k => B ≤ k) w w' := ⟨h.os, h.tape, h.output, h.size, fun k _ hn => h.block k (by omega)⟩
section
variable [HX]
theorem vgood_p {v : JV} {w : World} {cs : List Value} {K : Value → World → Prop} (h : VRep w v cs) (hK : ∀ w', Ext w w' → K (.bool (goodM v)) w') : callF Tryz.prog 47 [.agg cs.toArray] w K := by
  refine W47_ok ?_
  unfold W47
  refine box_val h fun a w1 sv kv hB hx1 ha => ?_
  refine alloc_new fun p w2 hp hz2 hb2 hx2 => ?_
  refine st_at (off := 0) hb2 rfl (by simp) fun w3 hz3 hb3 hc3 => ?_
  have hx3 : Ext w1 w3 := hx2.new hc3 (by omega)
  have hp3 : w3.heap[p]? = some (.cells [i64 2000].toArray 3 (0, 0)) := by rw [hb3]; rfl
  refine (hB.ext hx3).ld fun cs2 h2 => ?_
  refine good_p v h2 hp3 (m := 24) (by omega) (by omega) (by omega) fun r w4 hr _ hc4 => ?_
  rw [hr, goodM_R]
  have s1 := hx1.size
  exact hK w4 ((hx1.trans hx3).then hc4 fun k hk e => by omega)
theorem len_p {w : World} {B b : Nat} {l : Str} {K : Value → World → Prop} (h : Bld w B b l) (hK : K (i64 (l.length : Int)) w) : callF Tryz.prog 53 [.pointer (some ⟨b, 0, none⟩)] w K := by
  refine of_calls (args := #[.pointer (some ⟨b, 0, none⟩)]) Tryz.call53 ((Tryz.Builder_Len_f B b (Lib.byteCells l) w h.isb).mono ?_)
  rintro e w' ⟨rfl, rfl⟩
  refine ⟨_, rfl, ?_⟩
  rw [Lib.byteCells_length]
  exact hK
theorem string_p {w : World} {B b : Nat} {l : Str} {K : Value → World → Prop} (h : Bld w B b l) (hB : B ≤ w.heap.size) (hK : ∀ w', Chg (fun k => B ≤ k) w w' → K (str l) w') : callF Tryz.prog 54 [.pointer (some ⟨b, 0, none⟩)] w K := by
  refine of_calls (args := #[.pointer (some ⟨b, 0, none⟩)]) Tryz.call54 ((Tryz.Builder_String_any_k B b l w h.isb hB).mono ?_)
  rintro e w' ⟨rfl, _, hb, _⟩
  exact ⟨_, rfl, hK w' (below_chg hb)⟩
theorem encode_p {v : JV} {w : World} {cs : List Value} {K : Value → World → Prop} (hT : TabU w) (hF : FmtOk w) (h : VRep w v cs) (hK : ∀ w', Ext w w' → K (.tuple #[str (encM 1 20 31 3 v).1, i64 (encM 1 20 31 3 v).2]) w') :
    callF Tryz.prog 25 [.agg cs.toArray] w K := by
  refine W25_ok ?_
  unfold W25
  unfold encM at hK
  refine box_vali h fun a w1 sv kv ha hI hx1 hage hz1 => ?_
  have ld : ∀ {w2 : World} {KK : Value → Prop}, Ext w1 w2 → (∀ cs2, VRep w v cs2 → KK (.agg cs2.toArray)) → ldW true 5 (.pointer (some ⟨a, 0, none⟩)) w2 KK := fun hx hk => by
    refine ld_all (hx.at ha id) rfl (hk _ ?_)
    obtain ⟨T, L, i1, i2⟩ := hI.items
    obtain ⟨T2, i3⟩ := hI.keys
    exact VRep.mk i1 i2 i3 hI.fits
  refine ld (Chg.refl _ _) fun cs2 h2 => ?_
  refine vgood_p (h2.ext hx1) fun w2 hx2 => ?_
  rw [un_not, condW_b]
  refine ⟨fun hb => ?_, fun hg => ?_⟩
  · have : goodM v = false := by simpa using hb
    rw [if_pos this] at hK
    exact hK w2 (hx1.trans hx2)
  have hgood : goodM v = true := by simpa using hg
  rw [if_neg (by rw [hgood]; simp)] at hK
  refine ld hx2 fun cs3 h3 => ?_
  refine known_p v (h3.ext (hx1.trans hx2)) fun w3 hx3 => ?_
  rw [un_not, condW_b]
  refine ⟨fun hb => ?_, fun hg => ?_⟩
  · have : knownM v = false := by simpa using hb
    rw [if_pos this] at hK
    exact hK w3 ((hx1.trans hx2).trans hx3)
  have hknown : knownM v = true := by simpa using hg
  rw [if_neg (by rw [hknown]; simp)] at hK
  refine ld (hx2.trans hx3) fun cs4 h4 => ?_
  have hx13 := (hx1.trans hx2).trans hx3
  refine texts_p v hT hx13 (h4.ext hx13) fun w4 hx4 => ?_
  rw [un_not, condW_b]
  refine ⟨fun hb => ?_, fun hg => ?_⟩
  · have : textsM v = false := by simpa using hb
    rw [if_pos this] at hK
    exact hK w4 (hx13.trans hx4)
  have htexts : textsM v = true := by simpa using hg
  rw [if_neg (by rw [htexts]; simp)] at hK
  have hx14 := hx13.trans hx4
  refine bnew (B := w4.heap.size) (Nat.le_refl _) fun b w5 hb hb5 hx5 => ?_
  refine ld ((hx2.trans hx3).trans (hx4.trans hx5)) fun cs5 h5 => ?_
  have hgv := good_v hgood
  have hcnt := good_cnt hgood
  refine write_p v h5 (hx14.trans hx5) hx14.size hx5.size hb5 hgv.plain htexts hknown hgv.few (by rw [List.length_nil]; omega) hF fun w6 hb6 hc6 => ?_
  rw [List.nil_append] at hb6
  have hx6 : Ext w w6 := BCh.new (hx14.trans hx5) hx14.size hb6.base hc6
  refine len_p hb6 ?_
  rw [bin_gtr, condW_dec]
  refine ⟨fun hl => ?_, fun hl => ?_⟩
  · rw [if_pos (by omega)] at hK
    exact hK w6 hx6
  · rw [if_neg (by omega)] at hK
    refine string_p hb6 (by have := hx5.size; have := hc6.size; omega) fun w7 hc7 => ?_
    exact hK w7 (hx6.then hc7 fun k hk e => by have := hx14.size; omega)
end
end Go.Proofs.YtnoepcndjljolaaGreatDoor
namespace Go.Proofs.YtnoepcndjljolaaGreatDoor
open Go Go.Eng
set_option maxRecDepth 100000
variable [HX]
def plan249 : Plan := { js := [], ds := [] }
def W249 (v0 : Value) (w : World) (K : Value → World → Prop) : Prop :=
  condW (.bool false) (
    cvtW .u32 v0 fun t4 =>
    callF Tryz.prog 258 [t4] w fun t5 w1 =>
    K t5 w1) (
    callF Tryz.prog 259 [v0] w fun t7 w2 =>
    K t7 w2)
theorem W249_eq (v0 : Value) (w : World) (K : Value → World → Prop) : funW Tryz.prog Tryz.f249 plan249 [v0] w K = W249 v0 w K := by kernel_rfl
theorem W249_chk : chkFun Tryz.prog Tryz.f249 plan249 1 = true := by kernel_rfl
theorem W249_ok {v0 : Value} {w : World} {K : Value → World → Prop} (h : W249 v0 w K) : callF Tryz.prog 249 [v0] w K :=
  tie Tryz.prog 249 Tryz.f249 plan249 [v0] w K 1 (W249 v0 w K) rfl mixed Tryz.func249 W249_chk (W249_eq v0 w K) Tryz.call249 h
def plan259 : Plan := { js := [], ds := [] }
def W259 (v0 : Value) (w : World) (K : Value → World → Prop) : Prop :=
  binW .eql v0 (.int .u64 0) fun t4 =>
  condW t4 (
    K (.int .i64 64) w) (
    unW .neg v0 fun t7 =>
    binW .and v0 t7 fun t8 =>
    binW .mul t8 (.int .u64 285870213051353865) fun t9 =>
    binW .shr t9 (.int .u64 58) fun t10 =>
    ixaW (some 64) 1 (.pointer (some ⟨7, 0, none⟩)) t10 fun t11 =>
    ldW false 1 t11 w fun t12 =>
    cvtW .i64 t12 fun t13 =>
    K t13 w)
theorem W259_eq (v0 : Value) (w : World) (K : Value → World → Prop) : funW Tryz.prog Tryz.f259 plan259 [v0] w K = W259 v0 w K := by kernel_rfl
theorem W259_chk : chkFun Tryz.prog Tryz.f259 plan259 1 = true := by kernel_rfl
theorem W259_ok {v0 : Value} {w : World} {K : Value → World → Prop} (h : W259 v0 w K) : callF Tryz.prog 259 [v0] w K :=
  tie Tryz.prog 259 Tryz.f259 plan259 [v0] w K 1 (W259 v0 w K) rfl mixed Tryz.func259 W259_chk (W259_eq v0 w K) Tryz.call259 h
end Go.Proofs.YtnoepcndjljolaaGreatDoor
namespace Go.Proofs.YtnoepcndjljolaaGreatDoor
open Go Go.Eng Go.RowKit
set_option maxRecDepth 100000
def TabB (w : World) : Prop := w.cell? ⟨7, 15, none⟩ = some (.int .u8 4)
def hexDigits : Str := [48, 49, 50, 51, 52, 53, 54, 55, 56, 57, 97, 98, 99, 100, 101, 102, 103, 104, 105, 106, 107, 108, 109, 110, 111, 112, 113, 114, 115, 116, 117, 118, 119, 120, 121, 122]
theorem hex_at : ∀ n : Fin 16, hexDigits[n.val]? = some (hexD n.val) := by decide +kernel
theorem and15 (n : Nat) (h : n < 1000) : IntKind.u64.wrap (BitVec.ofInt IntKind.u64.bits (n : Int) &&& BitVec.ofInt IntKind.u64.bits 15).toNat = ((n % 16 : Nat) : Int) := by
  have : ∀ x : Fin 1000, IntKind.u64.wrap (BitVec.ofInt IntKind.u64.bits ((x.val : Nat) : Int) &&& BitVec.ofInt IntKind.u64.bits 15).toNat = ((x.val % 16 : Nat) : Int) := by decide +kernel
  exact this ⟨n, h⟩
theorem shr64 (r k : Nat) (hk : k ≤ 64) (K : Value → Prop) : binW .shr (.int .u64 (r : Int)) (.int .u64 (k : Int)) K ↔ K (.int .u64 ((r / 2 ^ k : Nat) : Int)) := by
  have e : (r : Int).fdiv (2 ^ min (k : Int).toNat IntKind.u64.bits) = ((r / 2 ^ k : Nat) : Int) := by
    rw [Int.toNat_natCast, show min k IntKind.u64.bits = k from Nat.min_eq_left hk, Int.fdiv_eq_ediv_of_nonneg _ (by exact Int.le_of_lt (Int.pow_pos (by decide)))]
    rw [Int.natCast_ediv, Int.natCast_pow]; rfl
  rw [bin_shr, e]
  constructor
  · exact fun h => h.2
  · exact fun h => ⟨by omega, h⟩
section
variable [HX]
theorem tz_p {w : World} {K : Value → World → Prop} (hB : TabB w) (hK : K (i64 4) w) : callF Tryz.prog 249 [.int .u64 16] w K := by
  refine W249_ok ?_
  unfold W249
  rw [condW_false]
  refine W259_ok ?_
  unfold W259
  rw [bin_eql, show decide ((16 : Int) = 0) = false from rfl, condW_false, un_neg, bin_and]
  have e1 : IntKind.u64.wrap (BitVec.ofInt IntKind.u64.bits 16 &&& BitVec.ofInt IntKind.u64.bits (IntKind.u64.wrap (0 - 16))).toNat = ((16 : Nat) : Int) := by decide +kernel
  rw [e1, bin_mul]
  have e2 : IntKind.u64.wrap (((16 : Nat) : Int) * 285870213051353865) = ((4573923408821661840 : Nat) : Int) := by decide +kernel
  rw [e2, show (58 : Int) = ((58 : Nat) : Int) from rfl, shr64 _ 58 (by omega), show 4573923408821661840 / 2 ^ 58 = 15 by decide, ixa_arr]
  refine ⟨by omega, by omega, ?_⟩
  rw [ld_one]
  refine ⟨.int .u8 4, ?_, ?_⟩
  · exact hB
  · rw [cvt_int]; exact hK
theorem pow2_p {w : World} {K : Value → World → Prop} (hK : K (.bool true) w) : callF Tryz.prog 248 [i64 16] w K := by
  refine W248_ok ?_
  unfold W248
  rw [bin_sub, bin_and, bin_eql]
  have e : decide (IntKind.i64.wrap (BitVec.ofInt IntKind.i64.bits 16 &&& BitVec.ofInt IntKind.i64.bits (IntKind.i64.wrap (16 - 1))).toNat = 0) = true := by decide +kernel
  rw [e]
  exact hK
theorem u64w {n : Nat} (h : n < 1000000) : IntKind.u64.wrap (n : Int) = (n : Int) := u64_wrap (by omega) (by omega)
theorem fmt_p {r : Nat} {w : World} {K : Value → World → Prop} (hr : r < 32) (hB : TabB w) (hK : ∀ w', Ext w w' → K (str ([49] ++ hexS r)) w') : callF Tryz.prog 166 [i64 ((r + 256 : Nat) : Int), i64 16] w K := by
  refine W166_ok ?_
  unfold W166
  refine W196_ok ?_
  unfold W196
  rw [bin_eql, show decide ((16 : Int) = 10) = false from rfl, condW_false, cvt_int, u64w (by omega), bin_lss, decide_eq_false (by omega)]
  refine W230_ok ?_
  unfold W230
  refine JoinW.cut (fun s' w' => s' = [] ∧ w' = w) ?_ ?_
  · rw [bin_lss, show decide ((16 : Int) < 2) = false from rfl]
    simp only [wsv, wsg, wsh, wsl, cond_true, cond_false, exists_eq_left', Option.some.injEq, Option.isSome_some, List.getElem?_toArray, List.getElem?_cons_zero, List.getElem?_cons_succ, List.length_cons, List.length_nil, List.set_cons_zero, List.set_cons_succ, List.getD_cons_zero, List.getD_cons_succ, Nat.zero_add, Nat.add_zero, Nat.reduceAdd, Nat.reduceLT, Nat.lt_add_one, Nat.zero_lt_succ, decide_true, decide_false, ne_eq, reduceCtorEq, show decide ((16 : Int) = 10) = false from rfl, show decide ((36 : Int) < 16) = false from rfl]
    intros; trivial
  rintro s' g w1 ⟨rfl, rfl⟩
  refine alloc_new fun A w2 hA hz2 hb2 hx2 => ?_
  refine JoinW.cut (fun s' w' => s' = [.int .u64 ((r + 256 : Nat) : Int)] ∧ w' = w2) ?_ ?_
  · rw [condW_false]; exact ⟨rfl, rfl⟩
  rintro s' g w3 ⟨rfl, rfl⟩
  simp only [List.getD_cons_zero]
  refine JoinW.cut (fun s' w' => s' = [i64 62] ∧ Ext w1 w' ∧ ∃ T, SlAt w' T (.slice (some ⟨A, 62, none⟩) 3 3) 3 (u8s ([49] ++ hexS r))) ?_ ?_
  · refine pow2_p ?_
    rw [condW_true, cvt_int, show IntKind.u64.wrap 16 = 16 by decide]
    refine tz_p (cell_ext hx2 hB) ?_
    rw [cvt_int, show IntKind.u64.wrap 4 = ((4 : Nat) : Int) by decide, cvt_int, show IntKind.u64.wrap 16 = 16 by decide, cvt_int, show IntKind.u64.wrap 16 = 16 by decide, bin_sub, show IntKind.u64.wrap (16 - 1) = 15 by decide]
    have hd16 : ∀ n, n < 16 → ((hexD n).toNat : Int) < 256 := fun n _ => by have := UInt8.toNat_lt (hexD n); omega
    refine ⟨fun s' w' => ∃ (k : Nat) (c : Array Value) (T : TypeId), k ≤ 2 ∧ s' = [.int .u64 (((r + 256) / 16 ^ k : Nat) : Int), i64 ((65 - k : Nat) : Int)] ∧ w'.heap[A]? = some (.cells c T (0, 0)) ∧ c.size = 65 ∧ (∀ j, j < k → c[64 - j]? = some (u8 (hexD ((r + 256) / 16 ^ j % 16)).toNat)) ∧ Ext w1 w',
      fun s' _ => match s' with | [_, .int _ i] => i.toNat | _ => 0, ⟨0, _, _, by omega, by simp, hb2, by simp, fun j h => by omega, hx2⟩, ?_⟩
    rintro s' g w4 ⟨k, c, T, hk, rfl, hc, hsz, hcs, hx4⟩
    simp only [List.getD_cons_zero, List.getD_cons_succ]
    have ew : IntKind.i64.wrap (((65 - k : Nat) : Int) - 1) = ((64 - k : Nat) : Int) := by rw [wrap_id (by omega) (by omega)]; omega
    have store : ∀ (n : Nat) (KK : World → Prop), n < 16 → (∀ w', Ext w1 w' → w'.heap[A]? = some (.cells (c.setIfInBounds (64 - k) (u8 (hexD n).toNat)) T (0, 0)) → KK w') →
        ixaW (some 65) 1 (.pointer (some ⟨A, 0, none⟩)) (i64 ((64 - k : Nat) : Int)) fun t => stW 1 t (u8 (hexD n).toNat) w4 KK := by
      intro n KK hn hkk
      rw [ixa_arr]
      refine ⟨by omega, by omega, ?_⟩
      rw [add_mk, Int.toNat_natCast, Nat.zero_add, Nat.mul_one]
      refine st_at hc rfl (by omega) fun w5 hz5 hb5 hc5 => hkk w5 (hx4.then hc5 fun k hk e => by omega) hb5
    have dig : ∀ (n : Nat) (KK : Value → Prop), n < 16 → KK (u8 (hexD n).toNat) → ixsW (.string (ofL hexDigits)) (.int .u64 (n : Int)) KK := by
      intro n KK hn hkk
      rw [ixs_str]
      exact ⟨by omega, hexD n, by rw [Int.toNat_natCast]; exact hex_at ⟨n, hn⟩, hkk⟩
    rw [bin_geq, condW_dec]
    refine ⟨fun hge => ?_, fun hlt => ?_⟩
    · have hk1 : k ≤ 1 := by
        apply Classical.byContradiction; intro hno
        obtain rfl : k = 2 := by omega
        omega
      have hlt1000 : (r + 256) / 16 ^ k < 1000 := by
        have : (r + 256) / 16 ^ k ≤ r + 256 := Nat.div_le_self _ _
        omega
      rw [bin_sub, ew, bin_and, and15 _ hlt1000]
      refine dig _ _ (Nat.mod_lt _ (by omega)) ?_
      refine store _ _ (Nat.mod_lt _ (by omega)) fun w5 hx5 hb5 => ?_
      rw [shr64 _ 4 (by omega)]
      refine ⟨⟨k + 1, _, T, by omega, ?_, hb5, by simp [hsz], fun j hj => ?_, hx5⟩, ?_⟩
      · have e : (r + 256) / 16 ^ (k + 1) = (r + 256) / 16 ^ k / 2 ^ 4 := by
          rw [show 16 ^ (k + 1) = 16 ^ k * 16 from rfl, ← Nat.div_div_eq_div_mul]
        rw [show 65 - (k + 1) = 64 - k by omega, e]
      · rw [Array.getElem?_setIfInBounds]
        by_cases hjk : j = k
        · subst hjk; rw [if_pos rfl, if_pos (by omega)]
        · rw [if_neg (by omega)]; exact hcs j (by omega)
      · show ((64 - k : Nat) : Int).toNat < ((65 - k : Nat) : Int).toNat
        omega
    · have hk2 : k = 2 := by
        apply Classical.byContradiction; intro hno
        have : k = 0 ∨ k = 1 := by omega
        rcases this with rfl | rfl <;> omega
      subst hk2
      rw [bin_sub, ew]
      have h1 : (r + 256) / 16 ^ 2 = 1 := by omega
      rw [h1]
      refine dig 1 _ (by omega) ?_
      refine store 1 _ (by omega) fun w5 hx5 hb5 => ?_
      refine ⟨rfl, hx5, T, ⟨some ⟨A, 62, none⟩, 3, rfl, Nat.le_refl _, fun e => (by cases e), fun _ => ⟨A, 62, _, _, rfl, hb5, fun i hi => ?_⟩⟩⟩
      have h0' := hcs 0 (by omega)
      have h1' := hcs 1 (by omega)
      have hi3 : i < 3 := by simpa [u8s_length, hexS] using hi
      rw [u8s_get, Array.getElem?_setIfInBounds]
      obtain rfl | rfl | rfl : i = 0 ∨ i = 1 ∨ i = 2 := by omega
      · rw [if_pos rfl, if_pos (by omega)]; rfl
      · rw [if_neg (by omega), show 62 + 1 = 64 - 1 from rfl, h1', show (r + 256) / 16 ^ 1 % 16 = r / 16 by omega]
        have : hexD (r / 16) = b8 (48 + r / 16) := by unfold hexD; rw [if_pos (by omega)]
        rw [this]; rfl
      · rw [if_neg (by omega), show 62 + 2 = 64 - 0 from rfl, h0', show (r + 256) / 16 ^ 0 % 16 = r % 16 by omega]; rfl
  rintro s' g w4 ⟨rfl, hx4, Ts, hs4⟩
  refine JoinW.cut (fun s' w' => s' = [i64 62] ∧ w' = w4) ?_ ?_
  · rw [condW_false]; exact ⟨rfl, rfl⟩
  rintro s' g w5 ⟨rfl, rfl⟩
  simp only [List.getD_cons_zero]
  rw [condW_false]
  unfold slaW
  dsimp only
  rw [bd_none, bd_none, bd_some]
  refine ⟨by omega, by omega, ?_⟩
  have ea : (⟨A, 0, none⟩ : Addr).add 62 = ⟨A, 62, none⟩ := by rw [add_mk]
  rw [show ((62 : Int).toNat) = 62 from rfl, if_neg (by omega), show 62 * 1 = 62 from rfl, ea, conv_bytes (l := [49] ++ hexS r) (e := U8) (by kernel_rfl) (by kernel_rfl) (by kernel_rfl) hs4]
  rw [ext_tuple]
  refine ⟨_, rfl, ?_⟩
  rw [ext_tuple]
  exact ⟨_, rfl, hK _ hx4⟩
theorem fmt_ok {w0 : World} (hB : TabB w0) : FmtOk w0 := fun r hr w K hx hK => fmt_p hr (cell_ext hx hB) hK
end
end Go.Proofs.YtnoepcndjljolaaGreatDoor
namespace Go.Proofs.YtnoepcndjljolaaGreatDoor
open Go Go.Eng
set_option maxRecDepth 100000
variable [HX]
def plan23 : Plan := { js := [], ds := [] }
def W23 (v0 : Value) (w : World) (K : Value → World → Prop) : Prop :=
  allocW 40 [(.int .i64 0), (.bool false), (.string (ofL [])), (.slice none 0 0), (.slice none 0 0)] w fun t2 w1 =>
  putW [(.int .i64 0), (.bool false), (.string (ofL [])), (.slice none 0 0), (.slice none 0 0)] [(0, 1, (.int .i64 4)), (2, 1, v0)] fun c2 =>
  stW 5 t2 (.agg c2.toArray) w1 fun w3 =>
  ldW true 5 t2 w3 fun r4 =>
  K r4 w3
theorem W23_eq (v0 : Value) (w : World) (K : Value → World → Prop) : funW Tryz.prog Tryz.f23 plan23 [v0] w K = W23 v0 w K := by kernel_rfl
theorem W23_chk : chkFun Tryz.prog Tryz.f23 plan23 1 = true := by kernel_rfl
theorem W23_ok {v0 : Value} {w : World} {K : Value → World → Prop} (h : W23 v0 w K) : callF Tryz.prog 23 [v0] w K :=
  tie Tryz.prog 23 Tryz.f23 plan23 [v0] w K 1 (W23 v0 w K) rfl mixed Tryz.func23 W23_chk (W23_eq v0 w K) Tryz.call23 h
end Go.Proofs.YtnoepcndjljolaaGreatDoor
namespace Go.Proofs.YtnoepcndjljolaaGreatDoor
open Go Go.Eng Go.RowKit
set_option maxRecDepth 100000
structure Tabs (w : World) : Prop where
  utf : TabU w
  bru : TabB w
  pow : Lib.TabIs Tryz.prog w "internal/strconv.uint64pow10" .u64 Lib.pow10Tab
section
variable [HX]
theorem text_p {s : Str} {w : World} {K : Value → World → Prop} (hs : s.length ≤ 9223372036854775807) (hK : ∀ cs w', Ext w w' → (∀ w'', VRep w'' (.mk 4 false s [] []) cs) → K (.agg cs.toArray) w') : callF Tryz.prog 23 [str s] w K := by
  refine W23_ok ?_
  unfold W23
  refine alloc_new fun b w1 hb hz hbb hx => ?_
  simp only [put_int, put_str, put_nil, List.length_cons, List.length_nil, List.set_cons_zero, List.set_cons_succ]
  refine ⟨by omega, by omega, ?_⟩
  refine st_agg_at (l := [i64 4, .bool false, str s, .slice none 0 0, .slice none 0 0]) hbb rfl rfl rfl fun w2 hz2 hb2 hc2 => ?_
  refine ld_all hb2 rfl ?_
  refine hK _ w2 (hx.new hc2 (by omega)) fun w'' => ?_
  exact VRep.mk (v := .mk 4 false s [] []) (T1 := 0) (T2 := 0) (SlAt.nil w'' 0) (by simp [JV.xs, VReps]) (SlAt.nil w'' 0) ⟨by simp [JV.xs], by simp [JV.ks], hs, by simp [JV.ks]⟩
end
end Go.Proofs.YtnoepcndjljolaaGreatDoor
namespace Go.Eng
open Go
section
variable {P : Program}
def DefC (P : Program) (g : FuncId) (caps : List Value) (u : FrameMode) (w : World) (K : World → Prop) : Prop :=
  CallsD P g caps.toArray u w fun e u' w' => (∃ v, e = .returned v) ∧ settle u' = .returning ∧ K w'
def defOf : List Oper → Option (Nat × FuncId × List Operand)
  | [o1, o2] =>
    match o1.guard, o2.guard, o1.dst, o1.op, o2.dst, o2.op with
    | none, none, some t, .makeFunc (.func g) first caps, none, .defer c =>
      match first.toList, c.callee, c.args.toList with
      | [], .value (.tmp t'), [] => bif Nat.beq t t' then some (t, g, caps.toList) else none
      | _, _, _ => none
    | _, _, _, _, _, _ => none
  | _ => none
def retW (P : Program) (fn : Func) (R : Ending → World → Prop) (f : Fr) (w : World) : Prop := resW P fn.results.toList f w fun l => R (.returned (one l)) w
def codeD (P : Program) (pl : Plan) (fn : Func) (R : Ending → World → Prop) : Nat → Code → Nat → Fr → World → Prop
  | 0, .seq (.region _ ops _) b, i, f, w =>
    match defOf ops.toList with
    | some (t, g, caps) =>
      @codeW ⟨fun ch w' => DefC P g (caps.map (ev f)) (.panicking ch) w' fun w'' => retW P fn R f w''⟩ P pl b (i + 2) (upd f (some t) (.func (.func g) #[] (caps.map (ev f)).toArray)) w
        (fun f' w' => DefC P g (caps.map (ev f)) .returning w' fun w'' => retW P fn R f' w'') (fun _ _ _ => False) (fun f' w' => DefC P g (caps.map (ev f)) .returning w' fun w'' => retW P fn R f' w'')
    | none => False
  | k + 1, .seq a b, i, f, w => @codeW ⟨fun ch w' => R (.panicked ch) w'⟩ P pl a (i + 1) f w (fun f' w' => codeD P pl fn R k b (i + 1 + nodes a) f' w') (fun _ _ _ => False) (fun f' w' => retW P fn R f' w')
  | _, _, _, _, _ => False
def resIn (lo t : Nat) : ResultVar → Bool
  | .tmp x => Nat.blt x lo && !(Nat.beq x t)
  | .cell x _ => Nat.blt x lo && !(Nat.beq x t)
def chkD (P : Program) (fn : Func) (pl : Plan) (lo gd : Nat) : Nat → Code → Nat → Bool
  | 0, .seq (.region _ ops draw) b, i => !draw && (lk pl.js i).isNone &&
    (match defOf ops.toList with
    | some (t, g, _) => Nat.blt t fn.ntmps && Nat.beq g gd && fn.results.toList.all (resIn lo t) && chk P fn.ntmps pl [] lo b (i + 2)
    | none => false)
  | k + 1, .seq a b, i => (lk pl.js i).isNone && chk P fn.ntmps pl [] 0 a (i + 1) && chkD P fn pl lo gd k b (i + 1 + nodes a)
  | _, _, _ => false
theorem ldW_mono {agg : Bool} {n : Nat} {x : Value} {w : World} {K K' : Value → Prop} (hk : ∀ v, K v → K' v) (h : ldW agg n x w K) : ldW agg n x w K' := by
  cases x with
  | pointer a =>
    cases a with
    | none => exact h
    | some a =>
      cases agg with
      | true => obtain ⟨l, h1, h2⟩ := h; exact ⟨l, h1, hk _ h2⟩
      | false => obtain ⟨l, h1, h2⟩ := h; exact ⟨l, h1, hk _ h2⟩
  | _ => exact h
theorem resW_same {f f' : Fr} {w : World} : ∀ {l : List ResultVar} {K : List Value → Prop}, (∀ t, (∃ r ∈ l, r = .tmp t ∨ ∃ T, r = .cell t T) → f t = f' t) → resW P l f w K → resW P l f' w K
  | [], _, _, h => h
  | r :: l, K, h, hk => by
    have hl : ∀ t, (∃ r ∈ l, r = .tmp t ∨ ∃ T, r = .cell t T) → f t = f' t := fun t ⟨r', hr, e⟩ => h t ⟨r', List.mem_cons_of_mem _ hr, e⟩
    cases r with
    | tmp t => simp only [resW] at hk ⊢; rw [← h t ⟨_, List.mem_cons_self, .inl rfl⟩]; exact resW_same hl hk
    | cell t T =>
      simp only [resW] at hk ⊢
      rw [← h t ⟨_, List.mem_cons_self, .inr ⟨T, rfl⟩⟩]
      obtain ⟨h1, h2⟩ := andB.out hk
      rw [h1]
      exact ldW_mono (fun v hv => resW_same hl hv) h2
theorem defC_leaves {fn : Func} {R : Ending → World → Prop} {g : FuncId} {caps : List Value} {u : FrameMode} {w : World} {f : Fr} {a : Act} (hr : ∀ (ar : Array Value) (w : World), (callFunc g ar).run P w = .ok (.enter g ar) w) (hu : u ≠ .run)
    (ha : ∀ t, (∃ r ∈ fn.results.toList, r = .tmp t ∨ ∃ T, r = .cell t T) → f t = a.tmps.getD t undef) (h : DefC P g caps u w fun w'' => retW P fn R f w'') :
    Leaves P fn a.tmps R [{ target := .fn (.func g) caps.toArray, args := #[] }] u w := by
  refine leaves_cons (f := g) (args := caps.toArray) hu ?_ (h.mono ?_)
  · have := hr (#[] ++ caps.toArray) w
    rw [show (#[] ++ caps.toArray : Array Value) = caps.toArray from by simp] at this
    show (callFunc g (#[] ++ caps.toArray)).run P w = _
    rw [show (#[] ++ caps.toArray : Array Value) = caps.toArray from by simp]
    exact this
  · rintro e u' w' ⟨⟨v, rfl⟩, hs, hk⟩
    show Leaves P fn a.tmps R [] (settle u') w'
    rw [hs]
    have hag : Ag a.tmps.size a.defers (fun t => a.tmps.getD t undef) a := ⟨rfl, rfl, fun _ => rfl⟩
    letI := noX
    obtain ⟨v', hk', hr'⟩ := results_run (fn := fn) (K := fun v => R (.returned v) w') hag (resW_same ha hk)
    exact ⟨v', hr', hk'⟩
theorem defOf_some {l : List Oper} {t : Nat} {g : FuncId} {caps : List Operand} (h : defOf l = some (t, g, caps)) : ∃ o1 o2 first cp c, l = [o1, o2] ∧ o1.guard = none ∧ o2.guard = none ∧ o1.dst = some t ∧ o1.op = .makeFunc (.func g) first cp ∧ first = #[] ∧ cp.toList = caps ∧ o2.dst = none ∧ o2.op = .defer c ∧ c.callee = .value (.tmp t) ∧ c.args = #[] := by
  unfold defOf at h
  split at h
  · rename_i o1 o2
    split at h
    · rename_i t' g' first cp c e1 e2 e3 e4 e5 e6
      split at h
      · rename_i t'' h1 h2 h3
        cases hb : Nat.beq t' t'' with
        | false => rw [hb] at h; cases h
        | true =>
          rw [hb] at h
          simp only [cond_true, Option.some.injEq, Prod.mk.injEq] at h
          obtain ⟨rfl, rfl, rfl⟩ := h
          have : t' = t'' := Nat.eq_of_beq_eq_true hb
          subst this
          exact ⟨o1, o2, first, cp, c, rfl, e1, e2, e3, e4, by simpa using h1, rfl, e5, e6, h2, by simpa using h3⟩
      · cases h
    · cases h
  · cases h
theorem codeD_sound (hm : P.follows .mixedOrders = true) {pl : Plan} {fn : Func} {R : Ending → World → Prop} {lo gd : Nat} (hr : ∀ (ar : Array Value) (w : World), (callFunc gd ar).run P w = .ok (.enter gd ar) w) :
    ∀ (k : Nat) (c : Code) (i : Nat) (f : Fr) (a : Act) (w : World), chkD P fn pl lo gd k c i = true → Ag fn.ntmps [] f a → codeD P pl fn R k c i f w → c.wp P (bodyPostD P fn R) a w := by
  intro k
  induction k with
  | zero =>
    intro c i f a w hc hag h
    cases c with
    | seq x b =>
      cases x with
      | region id ops draw =>
        simp only [codeD] at h
        simp only [chkD, Bool.and_eq_true, Bool.not_eq_true'] at hc
        obtain ⟨⟨hdr, hl⟩, hc⟩ := hc
        cases hd : defOf ops.toList with
        | none => simp only [hd] at h
        | some x =>
          obtain ⟨t, g, caps⟩ := x
          simp only [hd, Bool.and_eq_true] at h hc
          obtain ⟨⟨⟨ht, hg⟩, hres⟩, hchk⟩ := hc
          obtain rfl : g = gd := Nat.eq_of_beq_eq_true hg
          obtain ⟨o1, o2, first, cp, cl, hops, g1, g2, d1, p1, rfl, rfl, d2, p2, hcl, hca⟩ := defOf_some hd
          subst hdr
          refine wp_seq (wp_region_list ?_)
          have hops' : ops = [o1, o2].toArray := by rw [← hops]
          subst hops'
          have htn : t < fn.ntmps := by simpa using ht
          have hv : (cp.toList.map (ev f)).toArray = cp.map a.eval := by
            rw [eval_fun hag]
            apply Array.ext'
            simp
          show wpList P [o1, o2].toArray _ [o1, o2] a w
          letI := noX
          refine op_step (K := fun v w' => v = .func (.func g) #[] (cp.toList.map (ev f)).toArray ∧ w' = w) hag (by simp [wantF, g1]) ?_ ?_ (fun _ _ h => h.elim)
          · unfold anyW
            rw [p1]
            exact ⟨rfl, rfl⟩
          · rintro v w' ⟨rfl, rfl⟩
            have hag1 := hag.put (d := some t) (fun x hx => by cases hx; exact htn) (.func (.func g) #[] (cp.toList.map (ev f)).toArray)
            rw [d1]
            unfold wpList
            rw [if_pos (by rw [want_ag hag1]; simp [wantF, g2])]
            refine .inl ?_
            unfold Oper.wp
            have hex : (execOp (a.put (some t) (.func (.func g) #[] (cp.toList.map (ev f)).toArray)).eval o2).run P w' = .ok (.defer { target := .fn (.func g) (cp.toList.map (ev f)).toArray, args := #[] }) w' := by
              rw [eval_fun hag1]
              unfold execOp
              rw [p2]
              have e : ev (upd f (some t) (.func (.func g) #[] (cp.toList.map (ev f)).toArray)) (.tmp t) = .func (.func g) #[] (cp.toList.map (ev f)).toArray := by
                simp [ev, upd_some]
              simp [resolve, hcl, hca, Deferred.ofValue, run_bind, run_pure, e]
            rw [hex, Oper.upon_defer, d2]
            clear hex
            have hag2 : Ag fn.ntmps [{ target := .fn (.func g) (cp.toList.map (ev f)).toArray, args := #[] }] (upd f (some t) (.func (.func g) #[] (cp.toList.map (ev f)).toArray)) ({ (a.put (some t) (.func (.func g) #[] (cp.toList.map (ev f)).toArray)) with defers := { target := .fn (.func g) (cp.toList.map (ev f)).toArray, args := #[] } :: (a.put (some t) (.func (.func g) #[] (cp.toList.map (ev f)).toArray)).defers }.put none undef) := by
              refine ⟨?_, hag1.2.1, hag1.2.2⟩
              show _ :: (a.put _ _).defers = _
              rw [hag1.1]
            generalize ({ (a.put (some t) (.func (.func g) #[] (cp.toList.map (ev f)).toArray)) with defers := { target := .fn (.func g) (cp.toList.map (ev f)).toArray, args := #[] } :: (a.put (some t) (.func (.func g) #[] (cp.toList.map (ev f)).toArray)).defers }.put none undef) = a2 at hag2 ⊢
            show b.wp P (bodyPostD P fn R) a2 w'
            refine @codeW_sound ⟨fun ch w' => DefC P g (cp.toList.map (ev f)) (.panicking ch) w' fun w'' => retW P fn R f w''⟩ P fn.ntmps [{ target := .fn (.func g) (cp.toList.map (ev f)).toArray, args := #[] }] pl hm b [] lo (i + 2) _ a2 w' _ _ _ _ hchk hag2 h (fun f' a' w' hag' _ hk => ?_) (fun _ _ _ _ _ _ hk => hk.elim) (fun f' a' w' hag' _ hk => ?_) (fun ch a' w' hd ht hx => ?_)
            · show Leaves P fn a'.tmps R a'.defers .returning w'
              rw [hag'.1]
              exact defC_leaves hr (by simp) (fun t _ => (hag'.2.2 t).symm) hk
            · show Leaves P fn a'.tmps R a'.defers .returning w'
              rw [hag'.1]
              exact defC_leaves hr (by simp) (fun t _ => (hag'.2.2 t).symm) hk
            · show Leaves P fn a'.tmps R a'.defers (.panicking ch) w'
              rw [hd]
              refine defC_leaves (f := f) hr (by simp) (fun x hx' => ?_) hx
              have hin : x < lo ∧ x ≠ t := by
                obtain ⟨r, hrm, hr'⟩ := hx'
                have := List.all_eq_true.1 hres r hrm
                have h2 : (Nat.blt x lo && !(Nat.beq x t)) = true := by
                  rcases hr' with rfl | ⟨T, rfl⟩
                  · exact this
                  · exact this
                simp only [Bool.and_eq_true, Bool.not_eq_true'] at h2
                refine ⟨by simpa using h2.1, fun e => ?_⟩
                rw [e] at h2
                have h3 := h2.2
                rw [Nat.beq_refl] at h3
                cases h3
              have hlt : Nat.ble lo x = false := by
                cases hb : Nat.ble lo x with
                | false => rfl
                | true => exact absurd (Nat.lt_of_lt_of_le hin.1 (Nat.le_of_ble_eq_true hb)) (Nat.lt_irrefl _)
              rw [ht x (by unfold inS; rw [hlt]; rfl)]
              simp [upd_some, hin.2]
      | _ => simp [chkD] at hc
    | _ => simp [chkD] at hc
  | succ k ih =>
    intro c i f a w hc hag h
    cases c with
    | seq x y =>
      simp only [codeD] at h
      simp only [chkD, Bool.and_eq_true] at hc
      obtain ⟨⟨hl, hc1⟩, hc2⟩ := hc
      refine wp_seq ?_
      letI : HX := ⟨fun ch w' => R (.panicked ch) w'⟩
      refine codeW_sound hm x [] 0 (i + 1) f a w _ _ _ _ hc1 hag h (fun f' a' w' hag' _ h' => ih y _ f' a' w' hc2 hag' h') (fun _ _ _ _ _ _ hk => hk.elim) (fun f' a' w' hag' _ hk => ?_) (fun ch a' w' hd _ hx => ?_)
      · show Leaves P fn a'.tmps R a'.defers .returning w'
        rw [hag'.1]
        obtain ⟨v', hk', hr'⟩ := results_run (fn := fn) (K := fun v => R (.returned v) w') hag' hk
        exact ⟨v', hr', hk'⟩
      · show Leaves P fn a'.tmps R a'.defers (.panicking ch) w'
        rw [hd]
        exact hx
    | _ => simp [chkD] at hc
def funD (P : Program) (fn : Func) (pl : Plan) (k : Nat) (args : List Value) (w : World) (R : Ending → World → Prop) : Prop :=
  match fn.body with
  | some c => codeD P pl fn R k c 0 (fr0 args) w
  | none => False
def chkFunD (P : Program) (fn : Func) (pl : Plan) (lo gd k na : Nat) : Bool :=
  match fn.body with
  | some c => Nat.ble na fn.ntmps && chkD P fn pl lo gd k c 0
  | none => false
theorem enter_ag {nt : Nat} {args : List Value} (hle : args.length ≤ nt) : Ag nt [] (fr0 args) { tmps := args.toArray ++ Array.replicate (nt - args.toArray.size) undef, defers := [] } := by
  refine ⟨rfl, by simp; omega, fun t => ?_⟩
  simp only [Array.getD_eq_getD_getElem?, Array.getElem?_append, List.size_toArray, List.getElem?_toArray, Array.getElem?_replicate, fr0, List.getD_eq_getElem?_getD]
  split
  · rfl
  · rename_i hlt
    rw [List.getElem?_eq_none (by omega)]
    split <;> rfl
theorem funD_sound {g : FuncId} {fn : Func} {pl : Plan} {args : List Value} {w : World} {R : Ending → World → Prop} {lo gd k : Nat} (hm : P.follows .mixedOrders = true) (hf : P.funcs[g]? = some fn) (hr : ∀ (ar : Array Value) (w : World), (callFunc gd ar).run P w = .ok (.enter gd ar) w)
    (hc : chkFunD P fn pl lo gd k args.length = true) (h : funD P fn pl k args w R) : Calls P g args.toArray w R := by
  unfold funD at h
  unfold chkFunD at hc
  cases hb : fn.body with
  | none => rw [hb] at h; exact h.elim
  | some c =>
    rw [hb] at h hc
    simp only [Bool.and_eq_true] at hc
    exact calls_of_wp_defers hf hb (codeD_sound hm hr k c 0 _ _ w hc.2 (enter_ag (Nat.le_of_ble_eq_true hc.1)) h)
theorem tieD [HX] (P : Program) (g : FuncId) (fn : Func) (pl : Plan) (args : List Value) (w : World) (K : Value → World → Prop) (lo gd k na : Nat) (X : Prop) (hk : args.length = na) (hm : P.follows .mixedOrders = true) (hf : P.funcs[g]? = some fn)
    (hc : chkFunD P fn pl lo gd k na = true) (he : funD P fn pl k args w (EndK K) = X) (hr : ∀ (az : Array Value) (w : World), (callFunc g az).run P w = .ok (.enter g az) w) (hrd : ∀ (ar : Array Value) (w : World), (callFunc gd ar).run P w = .ok (.enter gd ar) w) (h : X) : callF P g args w K := by
  unfold callF
  rw [hr]
  exact funD_sound hm hf hrd (by rw [hk]; exact hc) (by rw [he]; exact h)
end
end Go.Eng
namespace Go.Eng
open Go
section
variable {P : Program}
def recOf : List Oper → Option (Nat × Nat)
  | [o1, o2] =>
    match o1.guard, o2.guard, o1.dst, o1.op, o2.dst, o2.op with
    | none, none, some t, .call c, some t2, .assign (.tmp t') =>
      match c.callee, c.args.toList with
      | .builtin .recover, [] => bif Nat.beq t t' then some (t, t2) else none
      | _, _ => none
    | _, _, _, _, _, _ => none
  | _ => none
theorem recOf_some {l : List Oper} {t t2 : Nat} (h : recOf l = some (t, t2)) : ∃ o1 o2 c, l = [o1, o2] ∧ o1.guard = none ∧ o2.guard = none ∧ o1.dst = some t ∧ o1.op = .call c ∧ o2.dst = some t2 ∧ o2.op = .assign (.tmp t) ∧ c.callee = .builtin .recover ∧ c.args = #[] := by
  unfold recOf at h
  split at h
  · rename_i o1 o2
    split at h
    · rename_i t0 c t2' t' e1 e2 e3 e4 e5 e6
      split at h
      · rename_i h1 h2
        cases hb : Nat.beq t0 t' with
        | false => rw [hb] at h; cases h
        | true =>
          rw [hb] at h
          simp only [cond_true, Option.some.injEq, Prod.mk.injEq] at h
          obtain ⟨rfl, rfl⟩ := h
          have : t0 = t' := Nat.eq_of_beq_eq_true hb
          subst this
          exact ⟨o1, o2, c, rfl, e1, e2, e3, e4, e5, e6, h1, by simpa using h2⟩
      · cases h
    · cases h
  · cases h
def funR (P : Program) (fn : Func) (pl : Plan) (args : List Value) (x : Value) (w : World) (K : World → Prop) : Prop :=
  match fn.body with
  | some (.seq (.region _ ops _) b) =>
    match recOf ops.toList with
    | some (t, t2) => @codeW noX P pl b 2 (upd (upd (fr0 args) (some t) x) (some t2) x) w (fun _ w' => K w') (fun _ _ _ => False) (fun _ w' => K w')
    | none => False
  | _ => False
def chkFunR (P : Program) (fn : Func) (pl : Plan) (na : Nat) : Bool :=
  match fn.body with
  | some (.seq (.region _ ops draw) b) => !draw && Nat.ble na fn.ntmps && fn.results.toList.isEmpty &&
    (match recOf ops.toList with
    | some (t, t2) => Nat.blt t fn.ntmps && Nat.blt t2 fn.ntmps && chk P fn.ntmps pl [] 0 b 2
    | none => false)
  | _ => false
inductive Finds : FrameMode → Value → Prop
  | idle : Finds .returning .nilIface
  | thrown (v : Value) : Finds (.panicking [{ v, recovered := false }]) v
theorem funR_sound {g : FuncId} {fn : Func} {pl : Plan} {args : List Value} {x : Value} {u : FrameMode} {w : World} {K : World → Prop} (hm : P.follows .mixedOrders = true) (hf : P.funcs[g]? = some fn) (hc : chkFunR P fn pl args.length = true)
    (hu : Finds u x) (h : funR P fn pl args x w K) : DefC P g args u w K := by
  unfold funR at h
  unfold chkFunR at hc
  split at h
  · rename_i id ops draw b hb
    rw [hb] at hc
    simp only [Bool.and_eq_true, Bool.not_eq_true'] at hc
    obtain ⟨⟨⟨hd, hle⟩, hres⟩, hc⟩ := hc
    subst hd
    cases ho : recOf ops.toList with
    | none => simp only [ho] at h
    | some y =>
      obtain ⟨t, t2⟩ := y
      simp only [ho, Bool.and_eq_true] at h hc
      obtain ⟨⟨ht, ht2⟩, hchk⟩ := hc
      obtain ⟨o1, o2, c, hops, g1, g2, d1, p1, d2, p2, hcl, hca⟩ := recOf_some ho
      have hops' : ops = #[o1, o2] := by
        apply Array.ext'
        rw [hops]
      subst hops'
      letI := noX
      have hr0 : ∀ tmps w, (results fn tmps).run P w = .ok (.tuple #[]) w := by
        intro tmps w
        have h1 : fn.results.toList = [] := by simpa using hres
        obtain ⟨v, hv, hr⟩ := results_run (P := P) (fn := fn) (n := tmps.size) (D := []) (f := fun t => tmps.getD t undef) (a := { tmps := tmps, defers := [] }) (w := w) (K := fun v => v = .tuple #[]) ⟨rfl, rfl, fun _ => rfl⟩ (by rw [h1]; rfl)
        rw [hr, hv]
      have hag := enter_ag (nt := fn.ntmps) (args := args) (Nat.le_of_ble_eq_true hle)
      have ht : t < fn.ntmps := by simpa using ht
      have ht2 : t2 < fn.ntmps := by simpa using ht2
      refine callsD_of_wpS hf hb fun c₀ cs hmode => ?_
      generalize ({ tmps := args.toArray ++ Array.replicate (fn.ntmps - args.toArray.size) undef, defers := [] } : Act) = a0 at hag ⊢
      have hag1 := hag.put (d := some t) (fun y hy => by cases hy; exact ht) x
      have hag2 := hag1.put (d := some t2) (fun y hy => by cases hy; exact ht2) x
      have w1 : Region.wanted o1 (yielded #[o1, o2] a0.tmps) = true := by
        have := want_ag (ops := [o1, o2]) (o := o1) hag
        rw [show ([o1, o2] : List Oper).toArray = #[o1, o2] from rfl] at this
        rw [this]; simp [wantF, g1]
      have w2 : Region.wanted o2 (yielded #[o1, o2] (a0.put (some t) x).tmps) = true := by
        have := want_ag (ops := [o1, o2]) (o := o2) hag1
        rw [show ([o1, o2] : List Oper).toArray = #[o1, o2] from rfl] at this
        rw [this]; simp [wantF, g2]
      have e1 : (execOp a0.eval o1).run P w = .ok .recover w := by
        unfold execOp
        rw [p1]
        simp [resolve, hcl, hca, invoke, builtin, run_bind, run_pure]
      have e2 : (execOp (a0.put (some t) x).eval o2).run P w = .ok (.value x) w := by
        rw [eval_fun hag1]
        unfold execOp
        rw [p2]
        have e : ev (upd (fr0 args) (some t) x) (.tmp t) = x := by simp [ev, upd_some]
        simp [run_pure, e]
      have rest : ∀ u' : FrameMode, settle u' = .returning → b.wpS P (bodyPostS P fn c₀ cs fun e u' w' => (∃ v, e = .returned v) ∧ settle u' = .returning ∧ K w') ((a0.put (some t) x).put (some t2) x) ({ c₀ with mode := u' } :: cs) w := by
        intro u' hs
        refine wpS_of_wp ?_
        refine @codeW_sound noX P fn.ntmps [] pl hm b [] 0 2 _ _ w _ _ _ _ hchk hag2 h (fun f' a' w' hag' _ hk => ?_) (fun _ _ _ _ _ _ hk => hk.elim) (fun f' a' w' hag' _ hk => ?_) (fun ch a' w' hd ht hx => hx.elim)
        · exact ⟨hag'.1, u', rfl, _, hr0 _ _, ⟨_, rfl⟩, hs, hk⟩
        · exact ⟨hag'.1, u', rfl, _, hr0 _ _, ⟨_, rfl⟩, hs, hk⟩
      refine wpS_seq (wpS_region ?_)
      show wpOpsS P #[o1, o2] _ [0, 1] a0 (c₀ :: cs) w
      have tail : ∀ c1 : Frame, b.wpS P (bodyPostS P fn c₀ cs fun e u' w' => (∃ v, e = .returned v) ∧ settle u' = .returning ∧ K w') ((a0.put (some t) x).put (some t2) x) (c1 :: cs) w →
          wpOpsS P #[o1, o2] (Exit.thenS (b.wpS P (bodyPostS P fn c₀ cs fun e u' w' => (∃ v, e = .returned v) ∧ settle u' = .returning ∧ K w')) (bodyPostS P fn c₀ cs fun e u' w' => (∃ v, e = .returned v) ∧ settle u' = .returning ∧ K w')) [1] (a0.put (some t) x) (c1 :: cs) w := by
        intro c1 hb1
        unfold wpOpsS
        rw [show (#[o1, o2] : Array Oper)[1]? = some o2 from rfl]
        show ite (Region.wanted o2 (yielded #[o1, o2] (a0.put (some t) x).tmps) = true) _ _
        rw [if_pos w2, e2]
        simp only [Oper.upon_value, d2]
        exact hb1
      unfold wpOpsS
      rw [show (#[o1, o2] : Array Oper)[0]? = some o1 from rfl]
      show ite (Region.wanted o1 (yielded #[o1, o2] a0.tmps) = true) _ _
      rw [if_pos w1, e1]
      cases hu with
      | idle =>
        have : recoverD (c₀ :: cs) = none := by simp [recoverD, hmode]
        simp only [this, d1]
        have e : ({ c₀ with mode := .returning } : Frame) = c₀ := by rw [← hmode]
        have := rest .returning rfl
        rw [e] at this
        exact tail c₀ this
      | thrown =>
        have : recoverD (c₀ :: cs) = some (x, { c₀ with mode := .panicking [{ v := x, recovered := true }] } :: cs) := by simp [recoverD, hmode]
        simp only [this, d1]
        exact tail _ (rest (.panicking [{ v := x, recovered := true }]) rfl)
  · exact h.elim
end
end Go.Eng
namespace Go.Proofs.YtnoepcndjljolaaGreatDoor
open Go Go.Eng
set_option maxRecDepth 100000
variable [HX]
def plan27 : Plan := { js := [(16, ⟨[], [], 4⟩), (4, ⟨[], [], 4⟩)], ds := [] }
def W27 (v0 : Value) (w : World) (K : Value → World → Prop) : Prop :=
  allocW 40 [(.int .i64 0), (.bool false), (.string (ofL [])), (.slice none 0 0), (.slice none 0 0)] w fun t2 w1 =>
  allocW 60 [(.pointer none)] w1 fun t3 w2 =>
  letI : HX := ⟨fun ch x3 => DefC Tryz.prog 56 [t2, t3] (.panicking ch) x3 fun w3 =>
      ldW true 5 t2 w3 fun r4 =>
      ldW false 1 t3 w3 fun r5 =>
      K (.tuple #[r4, r5]) w3⟩
  JoinW (fun J6 =>
    lensW v0 fun t7 =>
    binW .gtr t7 (.int .i64 65536) fun t8 =>
    condW t8 (
      callF Tryz.prog 57 [(.int .i64 3), (.int .i64 0)] w2 fun t9 w7 =>
      J6 [] w7) (
      J6 [] w2))
  fun s6 _ w8 =>
  putW [(.string (ofL [])), (.int .i64 0), (.int .i64 0)] [(0, 1, v0)] fun c9 =>
  boxW 101 (.agg c9.toArray) w8 fun t12 w10 =>
  callF Tryz.prog 58 [t12, (.int .i64 1)] w10 fun t14 w11 =>
  stW 5 t2 t14 w11 fun w12 =>
  callF Tryz.prog 59 [t12] w12 fun t16 w13 =>
  JoinW (fun J14 =>
    nilW t12 fun t18 =>
    fldW 1 t18 fun t19 =>
    ldW false 1 t19 w13 fun t20 =>
    lensW v0 fun t22 =>
    binW .lss t20 t22 fun t23 =>
    condW t23 (
      nilW t12 fun t25 =>
      fldW 1 t25 fun t26 =>
      ldW false 1 t26 w13 fun t27 =>
      callF Tryz.prog 57 [(.int .i64 30), t27] w13 fun t28 w15 =>
      J14 [] w15) (
      J14 [] w13))
  fun s14 _ w16 =>
  ldW true 5 t2 w16 fun t29 =>
  stW 5 t2 t29 w16 fun w17 =>
  stW 1 t3 (.pointer none) w17 fun w18 =>
  DefC Tryz.prog 56 [t2, t3] .returning w18 fun w19 =>
    ldW true 5 t2 w19 fun r20 =>
    ldW false 1 t3 w19 fun r21 =>
    K (.tuple #[r20, r21]) w19
theorem W27_eq (v0 : Value) (w : World) (K : Value → World → Prop) : funD Tryz.prog Tryz.f27 plan27 1 [v0] w (EndK K) = W27 v0 w K := by kernel_rfl
theorem W27_chk : chkFunD Tryz.prog Tryz.f27 plan27 4 56 1 1 = true := by kernel_rfl
theorem W27_ok {v0 : Value} {w : World} {K : Value → World → Prop} (h : W27 v0 w K) : callF Tryz.prog 27 [v0] w K :=
  tieD Tryz.prog 27 Tryz.f27 plan27 [v0] w K 4 56 1 1 (W27 v0 w K) rfl mixed Tryz.func27 W27_chk (W27_eq v0 w K) Tryz.call27 Tryz.call56 h
def plan56 : Plan := { js := [], ds := [(5, ⟨[0, 1, 2], [[], [], [1], [0], [0, 1, 2, 3]]⟩)] }
def R56 (v0 v1 : Value) (x : Value) (w : World) (K : World → Prop) : Prop :=
  letI : HX := noX
  eqQ Tryz.prog .neq 20 false true x .nilIface w fun t5 =>
  condW t5 (
    putW [(.int .i64 0), (.bool false), (.string (ofL [])), (.slice none 0 0), (.slice none 0 0)] [] fun c1 =>
    semQ Tryz.prog (Instr.typeAssert x 20 60 false) w.drew fun t8 =>
    stW 5 v0 (.agg c1.toArray) w.drew fun w2 =>
    (semQ Tryz.prog (Instr.typeAssert x 20 60 false) w2 fun x => x = t8) ∧
    stW 1 v1 t8 w2 fun w3 =>
    K w3) (
    K w)
theorem R56_eq (v0 v1 : Value) (x : Value) (w : World) (K : World → Prop) : funR Tryz.prog Tryz.f56 plan56 [v0, v1] x w K = R56 v0 v1 x w K := by kernel_rfl
theorem R56_chk : chkFunR Tryz.prog Tryz.f56 plan56 2 = true := by kernel_rfl
theorem R56_ok {v0 v1 : Value} {x : Value} {u : FrameMode} {w : World} {K : World → Prop} (hu : Finds u x) (h : R56 v0 v1 x w K) : DefC Tryz.prog 56 [v0, v1] u w K :=
  funR_sound (args := [v0, v1]) mixed Tryz.func56 R56_chk hu (by rw [R56_eq]; exact h)
def plan57 : Plan := { js := [], ds := [] }
def W57 (v0 v1 : Value) (w : World) (K : Value → World → Prop) : Prop :=
  putW [(.int .i64 0), (.string (ofL [])), (.int .i64 0)] [(0, 1, v0), (2, 1, v1)] fun c1 =>
  boxW 150 (.agg c1.toArray) w fun t7 w2 =>
  pncW (.iface 60 t7) w2
theorem W57_eq (v0 v1 : Value) (w : World) (K : Value → World → Prop) : funW Tryz.prog Tryz.f57 plan57 [v0, v1] w K = W57 v0 v1 w K := by kernel_rfl
theorem W57_chk : chkFun Tryz.prog Tryz.f57 plan57 2 = true := by kernel_rfl
theorem W57_ok {v0 v1 : Value} {w : World} {K : Value → World → Prop} (h : W57 v0 v1 w K) : callF Tryz.prog 57 [v0, v1] w K :=
  tie Tryz.prog 57 Tryz.f57 plan57 [v0, v1] w K 2 (W57 v0 v1 w K) rfl mixed Tryz.func57 W57_chk (W57_eq v0 v1 w K) Tryz.call57 h
def plan58 : Plan := { js := [(48003, ⟨[88], [], 83⟩), (48005, ⟨[87], [], 86⟩), (48008, ⟨[85], [], 83⟩), (4, ⟨[], [], 5⟩)], ds := [(18, ⟨[0, 1, 2, 3, 4, 5, 6, 7, 8, 9], [[], [0], [0, 1], [0, 1, 2], [], [4], [4, 5], [4, 5, 6], [0, 1, 2, 3, 4, 5, 6, 7], [0, 1, 2, 3, 4, 5, 6, 7, 8]]⟩)] }
def W58 (v0 v1 : Value) (w : World) (K : Value → World → Prop) : Prop :=
  allocW 40 [(.int .i64 0), (.bool false), (.string (ofL [])), (.slice none 0 0), (.slice none 0 0)] w fun t4 w1 =>
  callF Tryz.prog 59 [v0] w1 fun t8 w2 =>
  JoinW (fun J3 =>
    binW .gtr v1 (.int .i64 24) fun t11 =>
    condW t11 (
      nilW v0 fun t13 =>
      fldW 1 t13 fun t14 =>
      ldW false 1 t14 w2 fun t15 =>
      callF Tryz.prog 57 [(.int .i64 7), t15] w2 fun t16 w4 =>
      J3 [] w4) (
      nilW v0 fun t19 =>
      fldW 2 t19 fun t20 =>
      ldW false 1 t20 w2 fun t21 =>
      binW .eql t21 (.int .i64 2000) fun t22 =>
      condW t22 (
        nilW v0 fun t24 =>
        fldW 1 t24 fun t25 =>
        ldW false 1 t25 w2 fun t26 =>
        callF Tryz.prog 57 [(.int .i64 3), t26] w2 fun t27 w5 =>
        J3 [] w5) (
        J3 [] w2)))
  fun s3 _ w6 =>
  nilW v0 fun t29 =>
  fldW 2 t29 fun t30 =>
  ldW false 1 t30 w6 fun t31 =>
  binW .add t31 (.int .i64 1) fun t32 =>
  nilW v0 fun t33 =>
  fldW 2 t33 fun t34 =>
  stW 1 t34 t32 w6 fun w7 =>
  nilW v0 fun t36 =>
  fldW 0 t36 fun t37 =>
  ldW false 1 t37 w7.drew fun t38 =>
  nilW v0 fun t40 =>
  fldW 1 t40 fun t41 =>
  ldW false 1 t41 w7.drew fun t42 =>
  slsW t38 (some t42) none fun t43 =>
  callF Tryz.prog 112 [v0] w7.drew fun t45 w8 =>
  callF Tryz.prog 113 [t43, (.string (ofL [110, 117, 108, 108]))] w8 fun t48 w9 =>
  condW t48 (
    nilW v0 fun t50 =>
    fldW 1 t50 fun t51 =>
    ldW false 1 t51 w9 fun t52 =>
    binW .add t52 (.int .i64 4) fun t53 =>
    nilW v0 fun t54 =>
    fldW 1 t54 fun t55 =>
    stW 1 t55 t53 w9 fun w10 =>
    callF Tryz.prog 114 [] w10 fun t56 w11 =>
    stW 5 t4 t56 w11 fun w12 =>
    ldW true 5 t4 w12 fun r13 =>
    K r13 w12) (
    callF Tryz.prog 113 [t43, (.string (ofL [116, 114, 117, 101]))] w9 fun t59 w14 =>
    condW t59 (
      nilW v0 fun t61 =>
      fldW 1 t61 fun t62 =>
      ldW false 1 t62 w14 fun t63 =>
      binW .add t63 (.int .i64 4) fun t64 =>
      nilW v0 fun t65 =>
      fldW 1 t65 fun t66 =>
      stW 1 t66 t64 w14 fun w15 =>
      callF Tryz.prog 115 [(.bool true)] w15 fun t67 w16 =>
      stW 5 t4 t67 w16 fun w17 =>
      ldW true 5 t4 w17 fun r18 =>
      K r18 w17) (
      callF Tryz.prog 113 [t43, (.string (ofL [102, 97, 108, 115, 101]))] w14 fun t70 w19 =>
      condW t70 (
        nilW v0 fun t72 =>
        fldW 1 t72 fun t73 =>
        ldW false 1 t73 w19 fun t74 =>
        binW .add t74 (.int .i64 5) fun t75 =>
        nilW v0 fun t76 =>
        fldW 1 t76 fun t77 =>
        stW 1 t77 t75 w19 fun w20 =>
        callF Tryz.prog 115 [(.bool false)] w20 fun t78 w21 =>
        stW 5 t4 t78 w21 fun w22 =>
        ldW true 5 t4 w22 fun r23 =>
        K r23 w22) (
        binW .eql t45 (.int .u8 45) fun t81 =>
        GdW (isB t81 false) [undef] w19 (fun J24 =>
          binW .geq t45 (.int .u8 48) fun t84 =>
          J24 [t84] w19)
        fun s24 _ w25 =>
        GdW (isB (s24.getD 0 undef) true) [undef] w25 (fun J26 =>
          binW .leq t45 (.int .u8 57) fun t87 =>
          J26 [t87] w25)
        fun s26 _ w27 =>
        GdW (isB t81 false) [undef] w27 (fun J28 =>
          pickW (s24.getD 0 undef) (s26.getD 0 undef) (.bool false) fun t88 =>
          J28 [t88] w27)
        fun s28 _ w29 =>
        pickW t81 (.bool true) (s28.getD 0 undef) fun t89 =>
        condW t89 (
          callF Tryz.prog 116 [v0] w29 fun t91 w30 =>
          stW 5 t4 t91 w30 fun w31 =>
          ldW true 5 t4 w31 fun r32 =>
          K r32 w31) (
          binW .eql t45 (.int .u8 34) fun t94 =>
          condW t94 (
            callF Tryz.prog 117 [v0] w29 fun t96 w33 =>
            callF Tryz.prog 23 [t96] w33 fun t97 w34 =>
            stW 5 t4 t97 w34 fun w35 =>
            ldW true 5 t4 w35 fun r36 =>
            K r36 w35) (
            binW .eql t45 (.int .u8 91) fun t100 =>
            condW t100 (
              callF Tryz.prog 118 [v0, v1] w29 fun t103 w37 =>
              stW 5 t4 t103 w37 fun w38 =>
              ldW true 5 t4 w38 fun r39 =>
              K r39 w38) (
              binW .eql t45 (.int .u8 123) fun t106 =>
              condW t106 (
                callF Tryz.prog 119 [v0, v1] w29 fun t109 w40 =>
                stW 5 t4 t109 w40 fun w41 =>
                ldW true 5 t4 w41 fun r42 =>
                K r42 w41) (
                nilW v0 fun t111 =>
                fldW 1 t111 fun t112 =>
                ldW false 1 t112 w29 fun t113 =>
                callF Tryz.prog 57 [(.int .i64 30), t113] w29 fun t114 w43 =>
                putW [(.int .i64 0), (.bool false), (.string (ofL [])), (.slice none 0 0), (.slice none 0 0)] [] fun c44 =>
                stW 5 t4 (.agg c44.toArray) w43 fun w45 =>
                ldW true 5 t4 w45 fun r46 =>
                K r46 w45)))))))
theorem W58_eq (v0 v1 : Value) (w : World) (K : Value → World → Prop) : funW Tryz.prog Tryz.f58 plan58 [v0, v1] w K = W58 v0 v1 w K := by kernel_rfl
theorem W58_chk : chkFun Tryz.prog Tryz.f58 plan58 2 = true := by kernel_rfl
theorem W58_ok {v0 v1 : Value} {w : World} {K : Value → World → Prop} (h : W58 v0 v1 w K) : callF Tryz.prog 58 [v0, v1] w K :=
  tie Tryz.prog 58 Tryz.f58 plan58 [v0, v1] w K 2 (W58 v0 v1 w K) rfl mixed Tryz.func58 W58_chk (W58_eq v0 v1 w K) Tryz.call58 h
def plan59 : Plan := { js := [(1, ⟨[], [], 1⟩)], ds := [(4, ⟨[0, 1, 2, 3, 4, 5, 6, 7, 8, 9, 10, 11, 12, 13, 14, 15, 16, 17, 18, 19, 21, 22], [[], [0], [0, 1], [0, 1, 2], [], [4], [4, 5], [4, 5, 6], [4, 5, 6, 7], [0, 1, 2, 3, 4, 5, 6, 7, 8], [0, 1, 2, 3, 4, 5, 6, 7, 8, 9], [0, 1, 2, 3, 4, 5, 6, 7, 8, 9, 10], [0, 1, 2, 3, 4, 5, 6, 7, 8, 9, 10, 11], [0, 1, 2, 3, 4, 5, 6, 7, 8, 9, 10, 11, 12], [0, 1, 2, 3, 4, 5, 6, 7, 8, 9, 10, 11, 12, 13], [0, 1, 2, 3, 4, 5, 6, 7, 8, 9, 10], [0, 1, 2, 3, 4, 5, 6, 7, 8, 9, 10, 15], [0, 1, 2, 3, 4, 5, 6, 7, 8, 9, 10, 15, 16], [0, 1, 2, 3, 4, 5, 6, 7, 8, 9, 10, 15, 16, 17], [0, 1, 2, 3, 4, 5, 6, 7, 8, 9, 10, 11, 12, 13, 14, 15, 16, 17, 18], [0, 1, 2, 3, 4, 5, 6, 7, 8, 9, 10, 11, 12, 13, 14, 15, 16, 17, 18, 19], [0, 1, 2, 3, 4, 5, 6, 7, 8, 9, 10, 11, 12, 13, 14, 15, 16, 17, 18, 19, 20], [0, 1, 2, 3, 4, 5, 6, 7, 8, 9, 10, 11, 12, 13, 14, 15, 16, 17, 18, 19, 20, 21]]⟩)] }
def W59 (v0 : Value) (w : World) (K : Value → World → Prop) : Prop :=
  LoopW [] w fun s1 _ w2 L1 =>
    nilW v0 fun t3 =>
    fldW 1 t3 fun t4 =>
    ldW false 1 t4 w2.drew fun t5 =>
    nilW v0 fun t7 =>
    fldW 0 t7 fun t8 =>
    ldW false 1 t8 w2.drew fun t9 =>
    lensW t9 fun t10 =>
    binW .lss t5 t10 fun t11 =>
    GqW (isB t11 true) (fun k3 => k3 v0) fun t13 =>
    GqW (isB t11 true) (fun k4 => nilW t13 k4) fun t14 =>
    GqW (isB t11 true) (fun k5 => fldW 0 t14 k5) fun t15 =>
    GqW (isB t11 true) (fun k6 => ldW false 1 t15 w2.drew k6) fun t16 =>
    GqW (isB t11 true) (fun k7 => k7 v0) fun t17 =>
    GqW (isB t11 true) (fun k8 => nilW t17 k8) fun t18 =>
    GqW (isB t11 true) (fun k9 => fldW 1 t18 k9) fun t19 =>
    GqW (isB t11 true) (fun k10 => ldW false 1 t19 w2.drew k10) fun t20 =>
    GqW (isB t11 true) (fun k11 => ixsW t16 t20 k11) fun t21 =>
    GeW (isB t11 true) w2.drew (fun k12 => callF Tryz.prog 76 [(.string (ofL [32, 9, 10, 13])), t21] w2.drew k12) fun t22 w13 =>
    GqW (isB t11 true) (fun k14 => binW .geq t22 (.int .i64 0) k14) fun t23 =>
    pickW t11 t23 (.bool false) fun t24 =>
    condW t24 (
      nilW v0 fun t26 =>
      fldW 1 t26 fun t27 =>
      ldW false 1 t27 w13 fun t28 =>
      binW .add t28 (.int .i64 1) fun t29 =>
      nilW v0 fun t30 =>
      fldW 1 t30 fun t31 =>
      stW 1 t31 t29 w13 fun w15 =>
      L1 [] w15) (
      K (.tuple #[]) w13)
theorem W59_eq (v0 : Value) (w : World) (K : Value → World → Prop) : funW Tryz.prog Tryz.f59 plan59 [v0] w K = W59 v0 w K := by kernel_rfl
theorem W59_chk : chkFun Tryz.prog Tryz.f59 plan59 1 = true := by kernel_rfl
theorem W59_ok {v0 : Value} {w : World} {K : Value → World → Prop} (h : W59 v0 w K) : callF Tryz.prog 59 [v0] w K :=
  tie Tryz.prog 59 Tryz.f59 plan59 [v0] w K 1 (W59 v0 w K) rfl mixed Tryz.func59 W59_chk (W59_eq v0 w K) Tryz.call59 h
def plan112 : Plan := { js := [], ds := [(7, ⟨[0, 1, 2, 3, 4, 5, 6, 7, 8, 9], [[], [0], [0, 1], [0, 1, 2], [], [4], [4, 5], [4, 5, 6], [0, 1, 2, 3, 4, 5, 6, 7], [0, 1, 2, 3, 4, 5, 6, 7, 8]]⟩), (4, ⟨[0, 1, 2, 3, 4, 5, 6, 7, 8, 9], [[], [0], [0, 1], [0, 1, 2], [], [4], [4, 5], [4, 5, 6], [4, 5, 6, 7], [0, 1, 2, 3, 4, 5, 6, 7, 8]]⟩)] }
def W112 (v0 : Value) (w : World) (K : Value → World → Prop) : Prop :=
  nilW v0 fun t4 =>
  fldW 1 t4 fun t5 =>
  ldW false 1 t5 w.drew fun t6 =>
  nilW v0 fun t8 =>
  fldW 0 t8 fun t9 =>
  ldW false 1 t9 w.drew fun t10 =>
  lensW t10 fun t11 =>
  binW .lss t6 t11 fun t12 =>
  condW t12 (
    nilW v0 fun t14 =>
    fldW 0 t14 fun t15 =>
    ldW false 1 t15 w.drew.drew fun t16 =>
    nilW v0 fun t18 =>
    fldW 1 t18 fun t19 =>
    ldW false 1 t19 w.drew.drew fun t20 =>
    ixsW t16 t20 fun t21 =>
    K t21 w.drew.drew) (
    K (.int .u8 0) w.drew)
theorem W112_eq (v0 : Value) (w : World) (K : Value → World → Prop) : funW Tryz.prog Tryz.f112 plan112 [v0] w K = W112 v0 w K := by kernel_rfl
theorem W112_chk : chkFun Tryz.prog Tryz.f112 plan112 1 = true := by kernel_rfl
theorem W112_ok {v0 : Value} {w : World} {K : Value → World → Prop} (h : W112 v0 w K) : callF Tryz.prog 112 [v0] w K :=
  tie Tryz.prog 112 Tryz.f112 plan112 [v0] w K 1 (W112 v0 w K) rfl mixed Tryz.func112 W112_chk (W112_eq v0 w K) Tryz.call112 h
def plan116 : Plan := { js := [(36, ⟨[6], [], 3⟩), (26, ⟨[], [], 4⟩), (30003, ⟨[60], [], 59⟩), (30007, ⟨[56], [], 55⟩), (30011, ⟨[52], [], 51⟩), (30015, ⟨[48], [], 47⟩), (20, ⟨[], [], 4⟩), (14, ⟨[], [], 5⟩), (8, ⟨[], [], 5⟩)], ds := [(35, ⟨[0, 1, 2, 3, 4, 5, 6, 7, 8, 9, 10], [[], [0], [0, 1], [0, 1, 2], [], [], [5], [5, 6], [5, 6, 7], [0, 1, 2, 3, 4, 5, 6, 7, 8], [0, 1, 2, 3, 4, 5, 6, 7, 8, 9]]⟩)] }
def W116 (v0 : Value) (w : World) (K : Value → World → Prop) : Prop :=
  allocW 40 [(.int .i64 0), (.bool false), (.string (ofL [])), (.slice none 0 0), (.slice none 0 0)] w fun t2 w1 =>
  nilW v0 fun t8 =>
  fldW 1 t8 fun t9 =>
  ldW false 1 t9 w1 fun t10 =>
  callF Tryz.prog 169 [v0, (.int .u8 45)] w1 fun t12 w2 =>
  nilW v0 fun t14 =>
  fldW 1 t14 fun t15 =>
  ldW false 1 t15 w2 fun t16 =>
  JoinW (fun J3 =>
    callF Tryz.prog 169 [v0, (.int .u8 48)] w2 fun t18 w4 =>
    unW .not t18 fun t19 =>
    condW t19 (
      callF Tryz.prog 170 [v0] w4 fun t21 w5 =>
      J3 [] w5) (
      J3 [] w4))
  fun s3 _ w6 =>
  JoinW (fun J7 =>
    nilW v0 fun t23 =>
    fldW 1 t23 fun t24 =>
    ldW false 1 t24 w6 fun t25 =>
    binW .eql t25 t16 fun t27 =>
    condW t27 (
      nilW v0 fun t29 =>
      fldW 1 t29 fun t30 =>
      ldW false 1 t30 w6 fun t31 =>
      callF Tryz.prog 57 [(.int .i64 30), t31] w6 fun t32 w8 =>
      J7 [] w8) (
      J7 [] w6))
  fun s7 _ w9 =>
  JoinW (fun J10 =>
    nilW v0 fun t34 =>
    fldW 1 t34 fun t35 =>
    ldW false 1 t35 w9 fun t36 =>
    binW .sub t36 t16 fun t38 =>
    binW .gtr t38 (.int .i64 100) fun t39 =>
    condW t39 (
      callF Tryz.prog 57 [(.int .i64 3), t10] w9 fun t41 w11 =>
      J10 [] w11) (
      J10 [] w9))
  fun s10 _ w12 =>
  JoinW (fun J13 =>
    callF Tryz.prog 112 [v0] w12 fun t43 w14 =>
    binW .geq t43 (.int .u8 48) fun t45 =>
    GdW (isB t45 true) [undef] w14 (fun J15 =>
      binW .leq t43 (.int .u8 57) fun t48 =>
      J15 [t48] w14)
    fun s15 _ w16 =>
    pickW t45 (s15.getD 0 undef) (.bool false) fun t49 =>
    GdW (isB t49 false) [undef] w16 (fun J17 =>
      binW .eql t43 (.int .u8 46) fun t52 =>
      J17 [t52] w16)
    fun s17 _ w18 =>
    pickW t49 (.bool true) (s17.getD 0 undef) fun t53 =>
    GdW (isB t53 false) [undef] w18 (fun J19 =>
      binW .eql t43 (.int .u8 101) fun t56 =>
      J19 [t56] w18)
    fun s19 _ w20 =>
    pickW t53 (.bool true) (s19.getD 0 undef) fun t57 =>
    GdW (isB t57 false) [undef] w20 (fun J21 =>
      binW .eql t43 (.int .u8 69) fun t60 =>
      J21 [t60] w20)
    fun s21 _ w22 =>
    pickW t57 (.bool true) (s21.getD 0 undef) fun t61 =>
    condW t61 (
      nilW v0 fun t63 =>
      fldW 1 t63 fun t64 =>
      ldW false 1 t64 w22 fun t65 =>
      callF Tryz.prog 57 [(.int .i64 30), t65] w22 fun t66 w23 =>
      J13 [] w23) (
      J13 [] w22))
  fun s13 _ w24 =>
  nilW v0 fun t68 =>
  fldW 0 t68 fun t69 =>
  ldW false 1 t69 w24.drew fun t70 =>
  nilW v0 fun t73 =>
  fldW 1 t73 fun t74 =>
  ldW false 1 t74 w24.drew fun t75 =>
  slsW t70 (some t10) (some t75) fun t76 =>
  JoinW (fun J25 =>
    callF Tryz.prog 62 [t76] w24.drew fun t78 w26 =>
    unW .not t78 fun t79 =>
    condW t79 (
      J25 [(.string (ofL [48]))] w26) (
      J25 [t76] w26))
  fun s25 _ w27 =>
  putW [(.int .i64 0), (.bool false), (.string (ofL [])), (.slice none 0 0), (.slice none 0 0)] [(0, 1, (.int .i64 3)), (2, 1, (s25.getD 0 undef))] fun c28 =>
  stW 5 t2 (.agg c28.toArray) w27 fun w29 =>
  ldW true 5 t2 w29 fun r30 =>
  K r30 w29
theorem W116_eq (v0 : Value) (w : World) (K : Value → World → Prop) : funW Tryz.prog Tryz.f116 plan116 [v0] w K = W116 v0 w K := by kernel_rfl
theorem W116_chk : chkFun Tryz.prog Tryz.f116 plan116 1 = true := by kernel_rfl
theorem W116_ok {v0 : Value} {w : World} {K : Value → World → Prop} (h : W116 v0 w K) : callF Tryz.prog 116 [v0] w K :=
  tie Tryz.prog 116 Tryz.f116 plan116 [v0] w K 1 (W116 v0 w K) rfl mixed Tryz.func116 W116_chk (W116_eq v0 w K) Tryz.call116 h
def plan117 : Plan := { js := [(19, ⟨[], [2], 7⟩), (46004, ⟨[81], [], 80⟩), (26, ⟨[], [], 7⟩), (11, ⟨[], [], 5⟩), (9, ⟨[], [2], 5⟩)], ds := [(18, ⟨[0, 1, 2, 3, 4, 5, 6, 7, 8, 10, 11, 12, 13, 14], [[], [0], [0, 1], [0, 1, 2], [], [4], [4, 5], [4, 5, 6], [0, 1, 2, 3, 4, 5, 6, 7], [0, 1, 2, 3, 4, 5, 6, 7, 8], [0, 1, 2, 3, 4, 5, 6, 7, 8, 9], [0, 1, 2, 3, 4, 5, 6, 7, 8, 9, 10], [0, 1, 2, 3, 4, 5, 6, 7, 8, 9, 10], [0, 1, 2, 3, 4, 5, 6, 7, 8, 9, 10, 11], [0, 1, 2, 3, 4, 5, 6, 7, 8, 9, 10, 11, 12, 13]]⟩), (13, ⟨[0, 1, 2, 3, 4, 5, 6, 7, 8, 9], [[], [0], [0, 1], [0, 1, 2], [], [4], [4, 5], [4, 5, 6], [4, 5, 6, 7], [0, 1, 2, 3, 4, 5, 6, 7, 8]]⟩)] }
def W117 (v0 : Value) (w : World) (K : Value → World → Prop) : Prop :=
  nilW v0 fun t8 =>
  fldW 1 t8 fun t9 =>
  ldW false 1 t9 w fun t10 =>
  nilW v0 fun t12 =>
  fldW 1 t12 fun t13 =>
  ldW false 1 t13 w fun t14 =>
  binW .add t14 (.int .i64 1) fun t15 =>
  nilW v0 fun t16 =>
  fldW 1 t16 fun t17 =>
  stW 1 t17 t15 w fun w1 =>
  allocW 93 [(.pointer none), (.slice none 0 0)] w1 fun t4 w2 =>
  LoopW [] w2 fun s3 _ w4 L3 =>
    JoinW (fun J5 =>
      nilW v0 fun t19 =>
      fldW 1 t19 fun t20 =>
      ldW false 1 t20 w4.drew fun t21 =>
      nilW v0 fun t23 =>
      fldW 0 t23 fun t24 =>
      ldW false 1 t24 w4.drew fun t25 =>
      lensW t25 fun t26 =>
      binW .geq t21 t26 fun t27 =>
      condW t27 (
        nilW v0 fun t29 =>
        fldW 0 t29 fun t30 =>
        ldW false 1 t30 w4.drew fun t31 =>
        lensW t31 fun t32 =>
        callF Tryz.prog 57 [(.int .i64 30), t32] w4.drew fun t33 w6 =>
        J5 [] w6) (
        J5 [] w4.drew))
    fun s5 _ w7 =>
    nilW v0 fun t36 =>
    fldW 0 t36 fun t37 =>
    ldW false 1 t37 w7.drew fun t38 =>
    nilW v0 fun t40 =>
    fldW 1 t40 fun t41 =>
    ldW false 1 t41 w7.drew fun t42 =>
    slsW t38 (some t42) none fun t43 =>
    callF Tryz.prog 171 [t43] w7.drew fun t44 w8 =>
    extW 0 t44 fun t45 =>
    extW 1 t44 fun t46 =>
    JoinW (fun J9 =>
      binW .eql t45 (.int .i32 34) fun t49 =>
      condW t49 (
        nilW v0 fun t51 =>
        fldW 1 t51 fun t52 =>
        ldW false 1 t52 w8 fun t53 =>
        binW .add t53 (.int .i64 1) fun t54 =>
        nilW v0 fun t55 =>
        fldW 1 t55 fun t56 =>
        stW 1 t56 t54 w8 fun w10 =>
        JoinW (fun J11 =>
          callF Tryz.prog 53 [t4] w10 fun t57 w12 =>
          binW .gtr t57 (.int .i64 16384) fun t58 =>
          condW t58 (
            callF Tryz.prog 57 [(.int .i64 3), t10] w12 fun t60 w13 =>
            J11 [] w13) (
            J11 [] w12))
        fun s11 _ w14 =>
        callF Tryz.prog 54 [t4] w14 fun t61 w15 =>
        K t61 w15) (
        binW .eql t45 (.int .i32 92) fun t64 =>
        condW t64 (
          callF Tryz.prog 172 [v0] w8 fun t66 w16 =>
          callF Tryz.prog 167 [t4, t66] w16 fun t67 w17 =>
          L3 [] w17) (
          binW .lss t45 (.int .i32 32) fun t70 =>
          condW t70 (
            nilW v0 fun t72 =>
            fldW 1 t72 fun t73 =>
            ldW false 1 t73 w8 fun t74 =>
            callF Tryz.prog 57 [(.int .i64 30), t74] w8 fun t75 w18 =>
            J9 [] w18) (
            binW .eql t45 (.int .i32 65533) fun t78 =>
            GdW (isB t78 true) [undef] w8 (fun J19 =>
              binW .lss t46 (.int .i64 2) fun t81 =>
              J19 [t81] w8)
            fun s19 _ w20 =>
            pickW t78 (s19.getD 0 undef) (.bool false) fun t82 =>
            condW t82 (
              nilW v0 fun t84 =>
              fldW 1 t84 fun t85 =>
              ldW false 1 t85 w20 fun t86 =>
              callF Tryz.prog 57 [(.int .i64 31), t86] w20 fun t87 w21 =>
              J9 [] w21) (
              J9 [] w20)))))
    fun s9 _ w22 =>
    callF Tryz.prog 167 [t4, t45] w22 fun t89 w23 =>
    nilW v0 fun t91 =>
    fldW 1 t91 fun t92 =>
    ldW false 1 t92 w23 fun t93 =>
    binW .add t93 t46 fun t95 =>
    nilW v0 fun t96 =>
    fldW 1 t96 fun t97 =>
    stW 1 t97 t95 w23 fun w24 =>
    L3 [] w24
theorem W117_eq (v0 : Value) (w : World) (K : Value → World → Prop) : funW Tryz.prog Tryz.f117 plan117 [v0] w K = W117 v0 w K := by kernel_rfl
theorem W117_chk : chkFun Tryz.prog Tryz.f117 plan117 1 = true := by kernel_rfl
theorem W117_ok {v0 : Value} {w : World} {K : Value → World → Prop} (h : W117 v0 w K) : callF Tryz.prog 117 [v0] w K :=
  tie Tryz.prog 117 Tryz.f117 plan117 [v0] w K 1 (W117 v0 w K) rfl mixed Tryz.func117 W117_chk (W117_eq v0 w K) Tryz.call117 h
def plan118 : Plan := { js := [(17, ⟨[], [], 6⟩)], ds := [(20, ⟨[0, 1, 2, 3, 4, 8], [[], [0], [], [], [3], [2, 3, 4], [2, 3, 4, 5], [0, 1, 2, 3, 4, 5, 6], [0, 1, 2, 3, 4, 5, 6, 7], [0, 1, 2, 3, 4, 5, 6, 7, 8]]⟩)] }
def W118 (v0 v1 : Value) (w : World) (K : Value → World → Prop) : Prop :=
  allocW 40 [(.int .i64 0), (.bool false), (.string (ofL [])), (.slice none 0 0), (.slice none 0 0)] w fun t4 w1 =>
  putW [(.int .i64 0), (.bool false), (.string (ofL [])), (.slice none 0 0), (.slice none 0 0)] [(0, 1, (.int .i64 5))] fun c2 =>
  allocW 40 [(.int .i64 0), (.bool false), (.string (ofL [])), (.slice none 0 0), (.slice none 0 0)] w1 fun t5 w3 =>
  stW 5 t5 (.agg c2.toArray) w3 fun w4 =>
  nilW v0 fun t8 =>
  fldW 1 t8 fun t9 =>
  ldW false 1 t9 w4 fun t10 =>
  binW .add t10 (.int .i64 1) fun t11 =>
  nilW v0 fun t12 =>
  fldW 1 t12 fun t13 =>
  stW 1 t13 t11 w4 fun w5 =>
  callF Tryz.prog 59 [v0] w5 fun t15 w6 =>
  callF Tryz.prog 169 [v0, (.int .u8 93)] w6 fun t17 w7 =>
  condW t17 (
    ldW true 5 t5 w7 fun t18 =>
    stW 5 t4 t18 w7 fun w8 =>
    ldW true 5 t4 w8 fun r9 =>
    K r9 w8) (
    LoopW [] w7 fun s10 _ w11 L10 =>
      fldW 3 t5 fun t19 =>
      ldW false 1 t19 w11.drew fun t20 =>
      binW .add v1 (.int .i64 1) fun t23 =>
      callF Tryz.prog 58 [v0, t23] w11.drew fun t24 w12 =>
      (ldW false 1 t19 w12 fun x => x = t20) ∧
      bslW 40 1 [(.int .i64 0), (.bool false), (.string (ofL [])), (.slice none 0 0), (.slice none 0 0)] [(0, 5, t24)] w12 fun t25 w13 =>
      (ldW false 1 t19 w13 fun x => x = t20) ∧
      semE Tryz.prog (Builtin.append_ #[37, 37] 37 #[t20, t25]) w13 fun t26 w14 =>
      fldW 3 t5 fun t27 =>
      stW 1 t27 t26 w14 fun w15 =>
      callF Tryz.prog 59 [v0] w15 fun t29 w16 =>
      callF Tryz.prog 169 [v0, (.int .u8 93)] w16 fun t31 w17 =>
      condW t31 (
        ldW true 5 t5 w17 fun t32 =>
        stW 5 t4 t32 w17 fun w18 =>
        ldW true 5 t4 w18 fun r19 =>
        K r19 w18) (
        callF Tryz.prog 173 [v0, (.int .u8 44)] w17 fun t34 w20 =>
        L10 [] w20))
theorem W118_eq (v0 v1 : Value) (w : World) (K : Value → World → Prop) : funW Tryz.prog Tryz.f118 plan118 [v0, v1] w K = W118 v0 v1 w K := by kernel_rfl
theorem W118_chk : chkFun Tryz.prog Tryz.f118 plan118 2 = true := by kernel_rfl
theorem W118_ok {v0 v1 : Value} {w : World} {K : Value → World → Prop} (h : W118 v0 v1 w K) : callF Tryz.prog 118 [v0, v1] w K :=
  tie Tryz.prog 118 Tryz.f118 plan118 [v0, v1] w K 2 (W118 v0 v1 w K) rfl mixed Tryz.func118 W118_chk (W118_eq v0 v1 w K) Tryz.call118 h
def plan119 : Plan := { js := [(31, ⟨[], [], 8⟩), (23, ⟨[], [], 7⟩), (17, ⟨[], [], 6⟩)], ds := [(42, ⟨[0, 1, 2, 3, 4], [[], [], [], [], [3], [2, 3, 4], [0, 1, 2, 3, 4, 5], [0, 1, 2, 3, 4, 5, 6]]⟩)] }
def W119 (v0 v1 : Value) (w : World) (K : Value → World → Prop) : Prop :=
  allocW 40 [(.int .i64 0), (.bool false), (.string (ofL [])), (.slice none 0 0), (.slice none 0 0)] w fun t4 w1 =>
  putW [(.int .i64 0), (.bool false), (.string (ofL [])), (.slice none 0 0), (.slice none 0 0)] [(0, 1, (.int .i64 6))] fun c2 =>
  allocW 40 [(.int .i64 0), (.bool false), (.string (ofL [])), (.slice none 0 0), (.slice none 0 0)] w1 fun t5 w3 =>
  stW 5 t5 (.agg c2.toArray) w3 fun w4 =>
  nilW v0 fun t12 =>
  fldW 1 t12 fun t13 =>
  ldW false 1 t13 w4 fun t14 =>
  binW .add t14 (.int .i64 1) fun t15 =>
  nilW v0 fun t16 =>
  fldW 1 t16 fun t17 =>
  stW 1 t17 t15 w4 fun w5 =>
  callF Tryz.prog 59 [v0] w5 fun t19 w6 =>
  callF Tryz.prog 169 [v0, (.int .u8 125)] w6 fun t21 w7 =>
  condW t21 (
    ldW true 5 t5 w7 fun t22 =>
    stW 5 t4 t22 w7 fun w8 =>
    ldW true 5 t4 w8 fun r9 =>
    K r9 w8) (
    LoopW [] w7 fun s10 _ w11 L10 =>
      callF Tryz.prog 59 [v0] w11 fun t24 w12 =>
      nilW v0 fun t26 =>
      fldW 1 t26 fun t27 =>
      ldW false 1 t27 w12 fun t28 =>
      JoinW (fun J13 =>
        callF Tryz.prog 112 [v0] w12 fun t30 w14 =>
        binW .neq t30 (.int .u8 34) fun t31 =>
        condW t31 (
          nilW v0 fun t33 =>
          fldW 1 t33 fun t34 =>
          ldW false 1 t34 w14 fun t35 =>
          callF Tryz.prog 57 [(.int .i64 30), t35] w14 fun t36 w15 =>
          J13 [] w15) (
          J13 [] w14))
      fun s13 _ w16 =>
      callF Tryz.prog 117 [v0] w16 fun t38 w17 =>
      JoinW (fun J18 =>
        ldW true 5 t5 w17 fun t40 =>
        callF Tryz.prog 106 [t40, t38] w17 fun t42 w19 =>
        extW 0 t42 fun t43 =>
        extW 1 t42 fun t44 =>
        allocW 40 [(.int .i64 0), (.bool false), (.string (ofL [])), (.slice none 0 0), (.slice none 0 0)] w19 fun t8 w20 =>
        stW 5 t8 t43 w20 fun w21 =>
        condW t44 (
          callF Tryz.prog 57 [(.int .i64 2), t28] w21 fun t47 w22 =>
          J18 [] w22) (
          J18 [] w21))
      fun s18 _ w23 =>
      callF Tryz.prog 173 [v0, (.int .u8 58)] w23 fun t49 w24 =>
      ldW true 5 t5 w24.drew fun t50 =>
      binW .add v1 (.int .i64 1) fun t54 =>
      callF Tryz.prog 58 [v0, t54] w24.drew fun t55 w25 =>
      (ldW true 5 t5 w25 fun x => x = t50) ∧
      callF Tryz.prog 174 [t50, t38, t55] w25 fun t56 w26 =>
      stW 5 t5 t56 w26 fun w27 =>
      callF Tryz.prog 59 [v0] w27 fun t58 w28 =>
      callF Tryz.prog 169 [v0, (.int .u8 125)] w28 fun t60 w29 =>
      condW t60 (
        ldW true 5 t5 w29 fun t61 =>
        stW 5 t4 t61 w29 fun w30 =>
        ldW true 5 t4 w30 fun r31 =>
        K r31 w30) (
        callF Tryz.prog 173 [v0, (.int .u8 44)] w29 fun t63 w32 =>
        L10 [] w32))
theorem W119_eq (v0 v1 : Value) (w : World) (K : Value → World → Prop) : funW Tryz.prog Tryz.f119 plan119 [v0, v1] w K = W119 v0 v1 w K := by kernel_rfl
theorem W119_chk : chkFun Tryz.prog Tryz.f119 plan119 2 = true := by kernel_rfl
theorem W119_ok {v0 v1 : Value} {w : World} {K : Value → World → Prop} (h : W119 v0 v1 w K) : callF Tryz.prog 119 [v0, v1] w K :=
  tie Tryz.prog 119 Tryz.f119 plan119 [v0, v1] w K 2 (W119 v0 v1 w K) rfl mixed Tryz.func119 W119_chk (W119_eq v0 v1 w K) Tryz.call119 h
def plan169 : Plan := { js := [], ds := [(4, ⟨[0, 2, 3, 4, 5, 6, 7, 8, 9, 10, 11, 12, 13, 14, 15], [[], [0], [], [0, 1, 2], [0, 1, 2, 3], [0, 1, 2, 3, 4], [0, 1, 2, 3, 4, 5], [0, 1, 2, 3, 4, 5, 6], [0, 1, 2, 3, 4, 5, 6, 7], [0, 1, 2, 3, 4], [0, 1, 2, 3, 4, 9], [0, 1, 2, 3, 4, 9, 10], [0, 1, 2, 3, 4, 9, 10, 11], [0, 1, 2, 3, 4, 9, 10, 11, 12], [0, 1, 2, 3, 4, 5, 6, 7, 8, 9, 10, 11, 12, 13], [0, 1, 2, 3, 4, 5, 6, 7, 8, 9, 10, 11, 12, 13, 14]]⟩)] }
def W169 (v0 v1 : Value) (w : World) (K : Value → World → Prop) : Prop :=
  callF Tryz.prog 112 [v0] w.drew fun t6 w1 =>
  binW .neq t6 v1 fun t8 =>
  GqW (isB t8 false) (fun k2 => k2 v0) fun t10 =>
  GqW (isB t8 false) (fun k3 => nilW t10 k3) fun t11 =>
  GqW (isB t8 false) (fun k4 => fldW 1 t11 k4) fun t12 =>
  GqW (isB t8 false) (fun k5 => ldW false 1 t12 w1 k5) fun t13 =>
  GqW (isB t8 false) (fun k6 => k6 v0) fun t14 =>
  GqW (isB t8 false) (fun k7 => nilW t14 k7) fun t15 =>
  GqW (isB t8 false) (fun k8 => fldW 0 t15 k8) fun t16 =>
  GqW (isB t8 false) (fun k9 => ldW false 1 t16 w1 k9) fun t17 =>
  GqW (isB t8 false) (fun k10 => lensW t17 k10) fun t18 =>
  GqW (isB t8 false) (fun k11 => binW .geq t13 t18 k11) fun t19 =>
  pickW t8 (.bool true) t19 fun t20 =>
  condW t20 (
    K (.bool false) w1) (
    nilW v0 fun t22 =>
    fldW 1 t22 fun t23 =>
    ldW false 1 t23 w1 fun t24 =>
    binW .add t24 (.int .i64 1) fun t25 =>
    nilW v0 fun t26 =>
    fldW 1 t26 fun t27 =>
    stW 1 t27 t25 w1 fun w12 =>
    K (.bool true) w12)
theorem W169_eq (v0 v1 : Value) (w : World) (K : Value → World → Prop) : funW Tryz.prog Tryz.f169 plan169 [v0, v1] w K = W169 v0 v1 w K := by kernel_rfl
theorem W169_chk : chkFun Tryz.prog Tryz.f169 plan169 2 = true := by kernel_rfl
theorem W169_ok {v0 v1 : Value} {w : World} {K : Value → World → Prop} (h : W169 v0 v1 w K) : callF Tryz.prog 169 [v0, v1] w K :=
  tie Tryz.prog 169 Tryz.f169 plan169 [v0, v1] w K 2 (W169 v0 v1 w K) rfl mixed Tryz.func169 W169_chk (W169_eq v0 v1 w K) Tryz.call169 h
def plan170 : Plan := { js := [(4004, ⟨[8], [], 6⟩), (1, ⟨[], [], 1⟩)], ds := [] }
def W170 (v0 : Value) (w : World) (K : Value → World → Prop) : Prop :=
  LoopW [] w fun s1 _ w2 L1 =>
    callF Tryz.prog 112 [v0] w2 fun t3 w3 =>
    binW .geq t3 (.int .u8 48) fun t4 =>
    GdW (isB t4 true) [undef] w3 (fun J4 =>
      callF Tryz.prog 112 [v0] w3 fun t7 w5 =>
      binW .leq t7 (.int .u8 57) fun t8 =>
      J4 [t8] w5)
    fun s4 _ w6 =>
    pickW t4 (s4.getD 0 undef) (.bool false) fun t9 =>
    condW t9 (
      nilW v0 fun t11 =>
      fldW 1 t11 fun t12 =>
      ldW false 1 t12 w6 fun t13 =>
      binW .add t13 (.int .i64 1) fun t14 =>
      nilW v0 fun t15 =>
      fldW 1 t15 fun t16 =>
      stW 1 t16 t14 w6 fun w7 =>
      L1 [] w7) (
      K (.tuple #[]) w6)
theorem W170_eq (v0 : Value) (w : World) (K : Value → World → Prop) : funW Tryz.prog Tryz.f170 plan170 [v0] w K = W170 v0 w K := by kernel_rfl
theorem W170_chk : chkFun Tryz.prog Tryz.f170 plan170 1 = true := by kernel_rfl
theorem W170_ok {v0 : Value} {w : World} {K : Value → World → Prop} (h : W170 v0 w K) : callF Tryz.prog 170 [v0] w K :=
  tie Tryz.prog 170 Tryz.f170 plan170 [v0] w K 1 (W170 v0 w K) rfl mixed Tryz.func170 W170_chk (W170_eq v0 w K) Tryz.call170 h
def plan172 : Plan := { js := [(87002, ⟨[100], [], 95⟩), (87004, ⟨[99], [], 98⟩), (87007, ⟨[97], [], 95⟩), (73, ⟨[], [], 7⟩), (75003, ⟨[74], [], 73⟩), (69003, ⟨[62], [], 61⟩), (18, ⟨[34], [], 34⟩), (6, ⟨[4], [], 4⟩)], ds := [] }
def W172 (v0 : Value) (w : World) (K : Value → World → Prop) : Prop :=
  nilW v0 fun t8 =>
  fldW 1 t8 fun t9 =>
  ldW false 1 t9 w fun t10 =>
  JoinW (fun J1 =>
    binW .add t10 (.int .i64 1) fun t12 =>
    nilW v0 fun t14 =>
    fldW 0 t14 fun t15 =>
    ldW false 1 t15 w fun t16 =>
    lensW t16 fun t17 =>
    binW .lss t12 t17 fun t18 =>
    condW t18 (
      nilW v0 fun t20 =>
      fldW 0 t20 fun t21 =>
      ldW false 1 t21 w fun t22 =>
      binW .add t10 (.int .i64 1) fun t24 =>
      ixsW t22 t24 fun t25 =>
      J1 [t25] w) (
      J1 [(.int .u8 0)] w))
  fun s1 _ w2 =>
  nilW v0 fun t27 =>
  fldW 1 t27 fun t28 =>
  ldW false 1 t28 w2 fun t29 =>
  binW .add t29 (.int .i64 2) fun t30 =>
  nilW v0 fun t31 =>
  fldW 1 t31 fun t32 =>
  stW 1 t32 t30 w2 fun w3 =>
  JoinW (fun J4 =>
    binW .eql (s1.getD 0 undef) (.int .u8 34) fun t35 =>
    condW t35 (
      J4 [t35] w3) (
      binW .eql (s1.getD 0 undef) (.int .u8 92) fun t36 =>
      condW t36 (
        J4 [t36] w3) (
        binW .eql (s1.getD 0 undef) (.int .u8 47) fun t37 =>
        J4 [t37] w3)))
  fun s4 _ w5 =>
  condW (s4.getD 0 undef) (
    cvtW .i32 (s1.getD 0 undef) fun t39 =>
    K t39 w5) (
    binW .eql (s1.getD 0 undef) (.int .u8 98) fun t41 =>
    condW t41 (
      K (.int .i32 8) w5) (
      binW .eql (s1.getD 0 undef) (.int .u8 102) fun t43 =>
      condW t43 (
        K (.int .i32 12) w5) (
        binW .eql (s1.getD 0 undef) (.int .u8 110) fun t45 =>
        condW t45 (
          K (.int .i32 10) w5) (
          binW .eql (s1.getD 0 undef) (.int .u8 114) fun t47 =>
          condW t47 (
            K (.int .i32 13) w5) (
            binW .eql (s1.getD 0 undef) (.int .u8 116) fun t49 =>
            condW t49 (
              K (.int .i32 9) w5) (
              callF Tryz.prog 217 [v0, t10] w5 fun t52 w6 =>
              binW .add t10 (.int .i64 6) fun t55 =>
              nilW v0 fun t56 =>
              fldW 1 t56 fun t57 =>
              stW 1 t57 t55 w6 fun w7 =>
              binW .geq t52 (.int .i32 55296) fun t59 =>
              GdW (isB t59 true) [undef] w7 (fun J8 =>
                binW .lss t52 (.int .i32 56320) fun t62 =>
                J8 [t62] w7)
              fun s8 _ w9 =>
              pickW t59 (s8.getD 0 undef) (.bool false) fun t63 =>
              condW t63 (
                nilW v0 fun t66 =>
                fldW 1 t66 fun t67 =>
                ldW false 1 t67 w9 fun t68 =>
                callF Tryz.prog 217 [v0, t68] w9 fun t69 w10 =>
                JoinW (fun J11 =>
                  binW .lss t69 (.int .i32 56320) fun t71 =>
                  GdW (isB t71 false) [undef] w10 (fun J12 =>
                    binW .gtr t69 (.int .i32 57343) fun t74 =>
                    J12 [t74] w10)
                  fun s12 _ w13 =>
                  pickW t71 (.bool true) (s12.getD 0 undef) fun t75 =>
                  condW t75 (
                    callF Tryz.prog 57 [(.int .i64 30), t10] w13 fun t77 w14 =>
                    J11 [] w14) (
                    J11 [] w13))
                fun s11 _ w15 =>
                nilW v0 fun t79 =>
                fldW 1 t79 fun t80 =>
                ldW false 1 t80 w15 fun t81 =>
                binW .add t81 (.int .i64 6) fun t82 =>
                nilW v0 fun t83 =>
                fldW 1 t83 fun t84 =>
                stW 1 t84 t82 w15 fun w16 =>
                binW .sub t52 (.int .i32 55296) fun t86 =>
                binW .shl t86 (.int .u64 10) fun t87 =>
                binW .add (.int .i32 65536) t87 fun t88 =>
                binW .sub t69 (.int .i32 56320) fun t90 =>
                binW .add t88 t90 fun t91 =>
                K t91 w16) (
                binW .lss t52 (.int .i32 0) fun t93 =>
                GdW (isB t93 false) [undef] w9 (fun J17 =>
                  binW .geq t52 (.int .i32 56320) fun t96 =>
                  J17 [t96] w9)
                fun s17 _ w18 =>
                GdW (isB (s17.getD 0 undef) true) [undef] w18 (fun J19 =>
                  binW .lss t52 (.int .i32 57344) fun t99 =>
                  J19 [t99] w18)
                fun s19 _ w20 =>
                GdW (isB t93 false) [undef] w20 (fun J21 =>
                  pickW (s17.getD 0 undef) (s19.getD 0 undef) (.bool false) fun t100 =>
                  J21 [t100] w20)
                fun s21 _ w22 =>
                pickW t93 (.bool true) (s21.getD 0 undef) fun t101 =>
                condW t101 (
                  callF Tryz.prog 57 [(.int .i64 30), t10] w22 fun t103 w23 =>
                  K t52 w23) (
                  K t52 w22))))))))
theorem W172_eq (v0 : Value) (w : World) (K : Value → World → Prop) : funW Tryz.prog Tryz.f172 plan172 [v0] w K = W172 v0 w K := by kernel_rfl
theorem W172_chk : chkFun Tryz.prog Tryz.f172 plan172 1 = true := by kernel_rfl
theorem W172_ok {v0 : Value} {w : World} {K : Value → World → Prop} (h : W172 v0 w K) : callF Tryz.prog 172 [v0] w K :=
  tie Tryz.prog 172 Tryz.f172 plan172 [v0] w K 1 (W172 v0 w K) rfl mixed Tryz.func172 W172_chk (W172_eq v0 w K) Tryz.call172 h
def plan173 : Plan := { js := [], ds := [] }
def W173 (v0 v1 : Value) (w : World) (K : Value → World → Prop) : Prop :=
  callF Tryz.prog 59 [v0] w fun t5 w1 =>
  callF Tryz.prog 169 [v0, v1] w1 fun t8 w2 =>
  unW .not t8 fun t9 =>
  condW t9 (
    nilW v0 fun t11 =>
    fldW 1 t11 fun t12 =>
    ldW false 1 t12 w2 fun t13 =>
    callF Tryz.prog 57 [(.int .i64 30), t13] w2 fun t14 w3 =>
    K (.tuple #[]) w3) (
    K (.tuple #[]) w2)
theorem W173_eq (v0 v1 : Value) (w : World) (K : Value → World → Prop) : funW Tryz.prog Tryz.f173 plan173 [v0, v1] w K = W173 v0 v1 w K := by kernel_rfl
theorem W173_chk : chkFun Tryz.prog Tryz.f173 plan173 2 = true := by kernel_rfl
theorem W173_ok {v0 v1 : Value} {w : World} {K : Value → World → Prop} (h : W173 v0 v1 w K) : callF Tryz.prog 173 [v0, v1] w K :=
  tie Tryz.prog 173 Tryz.f173 plan173 [v0, v1] w K 2 (W173 v0 v1 w K) rfl mixed Tryz.func173 W173_chk (W173_eq v0 v1 w K) Tryz.call173 h
def plan217 : Plan := { js := [(4011, ⟨[36], [], 27⟩), (4022, ⟨[24], [], 16⟩)], ds := [] }
def W217 (v0 v1 : Value) (w : World) (K : Value → World → Prop) : Prop :=
  binW .add v1 (.int .i64 6) fun t8 =>
  nilW v0 fun t10 =>
  fldW 0 t10 fun t11 =>
  ldW false 1 t11 w fun t12 =>
  lensW t12 fun t13 =>
  binW .gtr t8 t13 fun t14 =>
  GdW (isB t14 false) [undef] w (fun J1 =>
    nilW v0 fun t17 =>
    fldW 0 t17 fun t18 =>
    ldW false 1 t18 w fun t19 =>
    binW .add v1 (.int .i64 2) fun t22 =>
    slsW t19 (some v1) (some t22) fun t23 =>
    binW .neq t23 (.string (ofL [92, 117])) fun t24 =>
    J1 [t24] w)
  fun s1 _ w2 =>
  pickW t14 (.bool true) (s1.getD 0 undef) fun t25 =>
  GdW (isB t25 false) [undef] w2 (fun J3 =>
    nilW v0 fun t28 =>
    fldW 0 t28 fun t29 =>
    ldW false 1 t29 w2 fun t30 =>
    binW .add v1 (.int .i64 2) fun t32 =>
    binW .add v1 (.int .i64 6) fun t34 =>
    slsW t30 (some t32) (some t34) fun t35 =>
    callF Tryz.prog 241 [t35, (.string (ofL [43, 45, 95]))] w2 fun t36 w4 =>
    J3 [t36] w4)
  fun s3 _ w5 =>
  pickW t25 (.bool true) (s3.getD 0 undef) fun t37 =>
  condW t37 (
    K (.int .i32 (-1)) w5) (
    nilW v0 fun t40 =>
    fldW 0 t40 fun t41 =>
    ldW false 1 t41 w5 fun t42 =>
    binW .add v1 (.int .i64 2) fun t44 =>
    binW .add v1 (.int .i64 6) fun t46 =>
    slsW t42 (some t44) (some t46) fun t47 =>
    callF Tryz.prog 242 [t47, (.int .i64 16), (.int .i64 32)] w5 fun t48 w6 =>
    extW 0 t48 fun t49 =>
    extW 1 t48 fun t50 =>
    eqQ Tryz.prog .neq 103 false true t50 .nilIface w6 fun t52 =>
    condW t52 (
      K (.int .i32 (-1)) w6) (
      cvtW .i32 t49 fun t54 =>
      K t54 w6))
theorem W217_eq (v0 v1 : Value) (w : World) (K : Value → World → Prop) : funW Tryz.prog Tryz.f217 plan217 [v0, v1] w K = W217 v0 v1 w K := by kernel_rfl
theorem W217_chk : chkFun Tryz.prog Tryz.f217 plan217 2 = true := by kernel_rfl
theorem W217_ok {v0 v1 : Value} {w : World} {K : Value → World → Prop} (h : W217 v0 v1 w K) : callF Tryz.prog 217 [v0, v1] w K :=
  tie Tryz.prog 217 Tryz.f217 plan217 [v0, v1] w K 2 (W217 v0 v1 w K) rfl mixed Tryz.func217 W217_chk (W217_eq v0 v1 w K) Tryz.call217 h
end Go.Proofs.YtnoepcndjljolaaGreatDoor
namespace Go.Proofs.YtnoepcndjljolaaGreatDoor
open Go Go.Eng Go.RowKit
set_option maxRecDepth 100000
abbrev DT : TypeId := 60
abbrev RdT : TypeId := 101
abbrev En : ErrNo := ⟨30, 3, 7, 31, 2⟩
def Rdr (w : World) (p : Nat) (s : Str) (i c : Nat) : Prop := w.heap[p]? = some (.cells [str s, i64 i, i64 c].toArray RdT (0, 0))
def Cr (p : Nat) : Nat → Prop := fun k => k = p
def rdAt (w : World) (p : Nat) : Nat := match w.heap[p]? with | some (.cells c _ _) => (match (c[1]? : Option Value) with | some (Value.int _ i) => i.toNat | _ => 0) | _ => 0
theorem Rdr.at_ {w : World} {p i c : Nat} {s : Str} (h : Rdr w p s i c) : rdAt w p = i := by
  unfold Rdr at h
  unfold rdAt
  rw [h]
  simp
theorem Rdr.lt {w : World} {p i c : Nat} {s : Str} (h : Rdr w p s i c) : p < w.heap.size := at_lt h
theorem Rdr.ext {w w' : World} {p i c : Nat} {s : Str} (h : Rdr w p s i c) (hx : Ext w w') : Rdr w' p s i c := hx.at h id
theorem Rdr.drew {w : World} {p i c : Nat} {s : Str} (h : Rdr w p s i c) : Rdr w.drew p s i c := h
theorem Rdr.ld {w : World} {p i c : Nat} {s : Str} {off : Nat} {v : Value} {K : Value → Prop} (h : Rdr w p s i c) (hv : [str s, i64 i, i64 c][off]? = some v) (hk : K v) : nilW (.pointer (some ⟨p, 0, none⟩)) fun t => fldW off t fun t => ldW false 1 t w K := by
  rw [nil_ptr, fld_ptr, ld_one]
  refine ⟨v, ?_, hk⟩
  rw [add_mk, cell_eq, h, cellO_some, Nat.zero_add]
  simpa using hv
theorem Rdr.st1 {w : World} {p i c : Nat} {s : Str} {i' : Nat} {K : World → Prop} (h : Rdr w p s i c) (hK : ∀ w', Rdr w' p s i' c → Chg (Cr p) w w' → w'.heap.size = w.heap.size → K w') :
    nilW (.pointer (some ⟨p, 0, none⟩)) fun t => fldW 1 t fun t => stW 1 t (i64 (i' : Nat)) w K := by
  rw [nil_ptr, fld_ptr, add_mk, Nat.zero_add]
  refine st_at h rfl (by simp) fun w' hz hb hc => hK w' ?_ hc hz
  unfold Rdr
  rw [hb]; simp
theorem Rdr.st2 {w : World} {p i c : Nat} {s : Str} {c' : Nat} {K : World → Prop} (h : Rdr w p s i c) (hK : ∀ w', Rdr w' p s i c' → Chg (Cr p) w w' → w'.heap.size = w.heap.size → K w') :
    nilW (.pointer (some ⟨p, 0, none⟩)) fun t => fldW 2 t fun t => stW 1 t (i64 (c' : Nat)) w K := by
  rw [nil_ptr, fld_ptr, add_mk, Nat.zero_add]
  refine st_at h rfl (by simp) fun w' hz hb hc => hK w' ?_ hc hz
  unfold Rdr
  rw [hb]; simp
theorem upk {i k : Nat} (h : i + k ≤ 9223372036854775807) : IntKind.i64.wrap ((i : Int) + (k : Int)) = ((i + k : Nat) : Int) := by rw [wrap_id (by omega) (by omega)]; omega
theorem Rdr.go {w : World} {p i c : Nat} {s : Str} {k : Nat} {K : World → Prop} (h : Rdr w p s i c) (hi : i + k ≤ 9223372036854775807) (hK : ∀ w', Rdr w' p s (i + k) c → Chg (Cr p) w w' → w'.heap.size = w.heap.size → K w') :
    nilW (.pointer (some ⟨p, 0, none⟩)) fun t => fldW 1 t fun t => ldW false 1 t w fun t => binW .add t (.int .i64 (k : Int)) fun t1 => nilW (.pointer (some ⟨p, 0, none⟩)) fun t => fldW 1 t fun t => stW 1 t t1 w K := by
  refine h.ld rfl ?_
  rw [bin_add, upk hi]
  exact h.st1 hK
def pkM (s : Str) (i : Nat) : Int := if i < s.length then (bt s i : Int) else 0
theorem get_bt' {s : Str} {i : Nat} (h : i < s.length) : s[i]? = some s[i] ∧ s[i].toNat = bt s i := by
  refine ⟨List.getElem?_eq_getElem h, ?_⟩
  unfold bt
  rw [List.getD_eq_getElem?_getD, List.getElem?_eq_getElem h]; rfl
theorem GeW_f (w : World) (A : (Value → World → Prop) → Prop) (B : Value → World → Prop) : GeW false w A B ↔ B undef w := ⟨fun h => h.2 rfl, fun h => ⟨fun e => (by cases e), fun _ => h⟩⟩
section
variable [HX]
def Thr (w : World) (p : Nat) (code : Int) (i : Nat) : Prop :=
  ∀ d w', w.heap.size ≤ d → Chg (Cr p) w w' → w'.heap[d]? = some (.cells [i64 code, str [], i64 i].toArray 150 (0, 0)) → HX.X [{ v := .iface DT (.pointer (some ⟨d, 0, none⟩)), recovered := false }] w'
theorem Thr.from {w w1 : World} {p : Nat} {code : Int} {i : Nat} (h : Thr w p code i) (hc : Chg (Cr p) w w1) : Thr w1 p code i := fun d w' hd hc' hb => h d w' (Nat.le_trans hc.size hd) (hc.trans hc') hb
theorem fail_p {e : Int} {p i : Nat} {w : World} {K : Value → World → Prop} (h : Thr w p e i) : callF Tryz.prog 57 [i64 e, i64 (i : Nat)] w K := by
  refine W57_ok ?_
  unfold W57
  simp only [put_int, put_str, put_nil, List.length_cons, List.length_nil, List.set_cons_zero, List.set_cons_succ]
  refine ⟨by omega, by omega, ?_⟩
  refine box_new (z := [i64 e, str [], i64 (i : Nat)]) fun d w' hd hz hb hx => ?_
  exact h d w' (by omega) (Chg.of_ext hx) hb
theorem peek_p {w : World} {p i c : Nat} {s : Str} {K : Value → World → Prop} (h : Rdr w p s i c) (hi : i ≤ s.length) (hK : ∀ w', Ext w w' → K (.int .u8 (pkM s i)) w') : callF Tryz.prog 112 [.pointer (some ⟨p, 0, none⟩)] w K := by
  refine W112_ok ?_
  unfold W112
  have hxd : ∀ w : World, Ext w w.drew := fun w => Chg.drew (Chg.refl (fun _ => False) w)
  refine h.drew.ld rfl ?_
  refine h.drew.ld rfl ?_
  rw [lens_str, bin_lss, condW_dec]
  unfold pkM at hK
  refine ⟨fun hlt => ?_, fun hge => ?_⟩
  · have hlt : i < s.length := by omega
    rw [if_pos hlt] at hK
    refine h.drew.drew.ld rfl ?_
    refine h.drew.drew.ld rfl ?_
    obtain ⟨e1, e2⟩ := get_bt' hlt
    rw [ixs_str]
    refine ⟨by omega, s[i], by simpa using e1, ?_⟩
    rw [e2]
    exact hK _ ((hxd _).trans (hxd _))
  · rw [if_neg (by omega)] at hK
    exact hK _ (hxd _)
theorem index_b {s : Str} {c : Nat} {w : World} {K : Value → World → Prop} (hc : c < 256) (hK : K (i64 (Lib.indexByte s (UInt8.ofNat c))) w) : callF Tryz.prog 76 [str s, .int .u8 (c : Nat)] w K := by
  refine of_calls (args := #[str s, .int .u8 (c : Nat)]) Tryz.call76 ((Tryz.strings_IndexByte (ofL s) c w).mono ?_)
  rintro e w' ⟨rfl, rfl⟩
  rw [ofL_data]
  exact ⟨_, rfl, hK⟩
theorem blank_idx (n : Nat) (h : n < 256) : decide (0 ≤ Lib.indexByte [32, 9, 10, 13] (UInt8.ofNat n)) = isBlank (n : Int) := by
  have : ∀ m : Fin 256, decide (0 ≤ Lib.indexByte [32, 9, 10, 13] (UInt8.ofNat m.val)) = isBlank (m.val : Int) := by decide +kernel
  exact this ⟨n, h⟩
theorem blanks_p {w : World} {p i c : Nat} {s : Str} {K : Value → World → Prop} (h : Rdr w p s i c) (hi : i ≤ s.length) (hs : s.length ≤ 1000000) (hK : ∀ w', Rdr w' p s (blankM s i) c → Chg (Cr p) w w' → K (.tuple #[]) w') :
    callF Tryz.prog 59 [.pointer (some ⟨p, 0, none⟩)] w K := by
  refine W59_ok ?_
  unfold W59
  refine LoopW.go (fun st w' => st = [] ∧ ∃ j, Rdr w' p s j c ∧ Chg (Cr p) w w' ∧ j ≤ s.length ∧ blankM s j = blankM s i) (fun _ w' => s.length - rdAt w' p) ⟨rfl, i, h, Chg.refl _ _, hi, rfl⟩ ?_
  rintro st g w2 ⟨rfl, j, h2, hc2, hj, hb⟩
  have hxd : Ext w2 w2.drew := Chg.drew (Chg.refl (fun _ => False) w2)
  refine h2.drew.ld rfl ?_
  refine h2.drew.ld rfl ?_
  rw [lens_str, bin_lss]
  rcases Nat.lt_or_ge j s.length with hlt | hge
  · rw [decide_eq_true (by omega : (j : Int) < (s.length : Int))]
    obtain ⟨e1, e2⟩ := get_bt' hlt
    simp only [isB_t, GqW_t]
    refine ⟨_, rfl, .pointer (some ⟨p, 0, none⟩), rfl, _, rfl, str s, ?_, _, rfl, .pointer (some ⟨p, 0, none⟩), rfl, _, rfl, i64 j, ?_, .int .u8 (bt s j), ?_, ?_⟩
    · rw [ld_one]
      exact ⟨_, by rw [add_mk, cell_eq, h2.drew, cellO_some, Nat.zero_add]; rfl, rfl⟩
    · rw [ld_one]
      exact ⟨_, by rw [add_mk, cell_eq, h2.drew, cellO_some, Nat.zero_add]; rfl, rfl⟩
    · rw [ixs_str]
      exact ⟨by omega, s[j], by simpa using e1, by rw [e2]⟩
    refine ⟨fun _ => ?_, fun e => by cases e⟩
    have hlt256 := bt_lt s j
    refine index_b hlt256 ?_
    refine ⟨.bool (decide (0 ≤ Lib.indexByte [32, 9, 10, 13] (UInt8.ofNat (bt s j)))), by rw [bin_geq], ?_⟩
    rw [pick_t, blank_idx _ hlt256, ← byteM_in hlt, condW_b]
    refine ⟨fun hbl => ?_, fun hnb => ?_⟩
    · refine h2.drew.go (k := 1) (by omega) fun w3 h3 hc3 hz3 => ?_
      refine ⟨⟨trivial, j + 1, h3, (hc2.then hxd fun _ _ e => e.elim).trans hc3, by omega, ?_⟩, ?_⟩
      · rw [← hb, (blank_go hbl).2]
      · rw [h3.at_, h2.at_]; omega
    · rw [blank_stop hnb] at hb
      subst hb
      exact hK _ h2.drew (hc2.then hxd fun _ _ e => e.elim)
  · rw [decide_eq_false (by omega : ¬ (j : Int) < (s.length : Int))]
    obtain rfl : j = s.length := by omega
    have hbb : blankM s s.length = s.length := blank_stop (by rw [byteM_out (Nat.le_refl _)]; rfl)
    rw [hbb] at hb
    simp only [isB_t, GqW_f, GeW_f]
    rw [pick_f, condW_false]
    rw [← hb] at hK
    exact hK _ h2.drew (hc2.then hxd fun _ _ e => e.elim)
end
end Go.Proofs.YtnoepcndjljolaaGreatDoor
namespace Go.Proofs.YtnoepcndjljolaaGreatDoor
open Go Go.Eng Go.RowKit
set_option maxRecDepth 100000
section
variable [HX]
theorem take_p {w : World} {p i c n : Nat} {s : Str} {K : Value → World → Prop} (h : Rdr w p s i c) (hi : i ≤ s.length) (hs : s.length ≤ 1000000)
    (hy : byteM s i = (n : Int) → ∀ w', Rdr w' p s (i + 1) c → Chg (Cr p) w w' → K (.bool true) w') (hn : byteM s i ≠ (n : Int) → ∀ w', Rdr w' p s i c → Chg (Cr p) w w' → K (.bool false) w') :
    callF Tryz.prog 169 [.pointer (some ⟨p, 0, none⟩), .int .u8 (n : Nat)] w K := by
  refine W169_ok ?_
  unfold W169
  have hxd : Ext w w.drew := Chg.drew (Chg.refl (fun _ => False) w)
  refine peek_p h.drew hi fun w1 hx1 => ?_
  have h1 := h.drew.ext hx1
  have hx := hxd.trans hx1
  rw [bin_neq]
  have cell : ∀ (off : Nat) (v : Value), [str s, i64 i, i64 c][off]? = some v → ldW false 1 (.pointer (some ((⟨p, 0, none⟩ : Addr).add off))) w1 fun x => x = v := fun off v hv => by
    rw [ld_one]
    exact ⟨_, by rw [add_mk, cell_eq, h1, cellO_some, Nat.zero_add]; simpa using hv, rfl⟩
  by_cases hc : pkM s i = (n : Int)
  · rw [decide_eq_false (by omega)]
    simp only [isB_f, Bool.not_false, GqW_t]
    refine ⟨_, rfl, .pointer (some ⟨p, 0, none⟩), rfl, _, rfl, i64 i, cell 1 _ rfl, _, rfl, .pointer (some ⟨p, 0, none⟩), rfl, _, rfl, str s, cell 0 _ rfl, _, rfl, .bool (decide ((s.length : Int) ≤ (i : Int))), ?_, ?_⟩
    · rw [ofL_size, bin_geq]
    rw [pick_f, condW_dec]
    refine ⟨fun hge => ?_, fun hlt => ?_⟩
    · refine hn (fun e => ?_) _ h1 (Chg.of_ext hx)
      rw [byteM_out (by omega)] at e
      omega
    · have hlt : i < s.length := by omega
      refine h1.go (k := 1) (by omega) fun w2 h2 hc2 _ => ?_
      refine hy ?_ _ h2 ((Chg.of_ext hx).trans hc2)
      rw [byteM_in hlt, ← hc]
      unfold pkM
      rw [if_pos hlt]
  · rw [decide_eq_true (by omega)]
    simp only [isB_f, Bool.not_true, GqW_f]
    rw [pick_t, condW_true]
    refine hn (fun e => hc ?_) _ h1 (Chg.of_ext hx)
    unfold pkM
    have hlt := byte_lt (s := s) (i := i) (by omega)
    rw [if_pos hlt, ← byteM_in hlt, e]
theorem want_p {w : World} {p i c n : Nat} {s : Str} {K : Value → World → Prop} (h : Rdr w p s i c) (hi : i ≤ s.length) (hs : s.length ≤ 1000000)
    (hy : byteM s (blankM s i) = (n : Int) → ∀ w', Rdr w' p s (blankM s i + 1) c → Chg (Cr p) w w' → K (.tuple #[]) w') (hn : byteM s (blankM s i) ≠ (n : Int) → Thr w p 30 (blankM s i)) :
    callF Tryz.prog 173 [.pointer (some ⟨p, 0, none⟩), .int .u8 (n : Nat)] w K := by
  refine W173_ok ?_
  unfold W173
  refine blanks_p h hi hs fun w1 h1 hc1 => ?_
  refine take_p h1 (blank_le hi) hs (fun e w2 h2 hc2 => ?_) (fun e w2 h2 hc2 => ?_)
  · rw [un_not, Bool.not_true, condW_false]
    exact hy e _ h2 (hc1.trans hc2)
  · rw [un_not, Bool.not_false, condW_true]
    refine h2.ld rfl ?_
    exact fail_p ((hn e).from (hc1.trans hc2))
theorem pk_dig (s : Str) (i : Nat) : (decide ((48 : Int) ≤ pkM s i) && decide (pkM s i ≤ 57)) = isDig (byteM s i) := by
  unfold pkM isDig
  by_cases hlt : i < s.length
  · rw [if_pos hlt, byteM_in hlt]
  · rw [if_neg hlt, byteM_out (by omega)]; rfl
theorem digits_p {w : World} {p i c : Nat} {s : Str} {K : Value → World → Prop} (h : Rdr w p s i c) (hi : i ≤ s.length) (hs : s.length ≤ 1000000) (hK : ∀ w', Rdr w' p s (digM s i) c → Chg (Cr p) w w' → K (.tuple #[]) w') :
    callF Tryz.prog 170 [.pointer (some ⟨p, 0, none⟩)] w K := by
  refine W170_ok ?_
  unfold W170
  refine LoopW.go (fun st w' => st = [] ∧ ∃ j, Rdr w' p s j c ∧ Chg (Cr p) w w' ∧ j ≤ s.length ∧ digM s j = digM s i) (fun _ w' => s.length - rdAt w' p) ⟨rfl, i, h, Chg.refl _ _, hi, rfl⟩ ?_
  rintro st g w2 ⟨rfl, j, h2, hc2, hj, hb⟩
  refine peek_p h2 hj fun w3 hx3 => ?_
  have h3 := h2.ext hx3
  rw [bin_geq]
  refine GdW.act (decide (pkM s j ≤ 57)) (fun w' => Ext w3 w') (fun _ => Chg.refl _ _) ?_ ?_
  · intro _ J hJ
    refine peek_p h3 hj fun w4 hx4 => ?_
    rw [bin_leq]
    exact hJ w4 hx4
  intro g2 w4 hx4
  have h4 := h3.ext hx4
  have hc4 := (hc2.then hx3 fun _ _ e => e.elim).then hx4 fun _ _ e => e.elim
  simp only [List.getD_cons_zero, isB_t]
  rw [pick_gd_and, pk_dig, condW_b]
  refine ⟨fun hd => ?_, fun hn => ?_⟩
  · have hg := dig_go' hd
    refine h4.go (k := 1) (by omega) fun w5 h5 hc5 _ => ?_
    refine ⟨⟨trivial, j + 1, h5, hc4.trans hc5, by omega, by rw [← hb, hg.2]⟩, ?_⟩
    rw [h5.at_, h2.at_]; omega
  · rw [dig_stop hn] at hb
    subst hb
    exact hK _ h4 hc4
theorem leaf_rep {G : Nat → Prop} {k : Int} {b : Bool} {t : Str} {w : World} (ht : t.length ≤ 9223372036854775807) : VRepP G w (.mk k b t [] []) [i64 k, .bool b, str t, .slice none 0 0, .slice none 0 0] :=
  VRepP.mk (v := .mk k b t [] []) (T1 := 0) (T2 := 0) (L := []) (SlAt.nil w 0) (by simp [JV.xs, VRepsP]) (SlAt.nil w 0) ⟨by simp [JV.xs], by simp [JV.ks], by simpa [JV.t] using ht, by simp [JV.ks]⟩ (fun h => absurd rfl h) (fun h => absurd rfl h)
theorem ret_leaf {b : Nat} {w : World} {l cs : List Value} {K : Value → World → Prop} (hb : w.heap[b]? = some (.cells cs.toArray VT (0, 0))) (hc : cs.length = 5) (hl : l.length = 5) (h1 : l.all one1 = true) (hK : ∀ w', Chg (Cr b) w w' → K (.agg l.toArray) w') :
    stW 5 (.pointer (some ⟨b, 0, none⟩)) (.agg l.toArray) w fun w5 => ldW true 5 (.pointer (some ⟨b, 0, none⟩)) w5 fun r6 => K r6 w5 := ret_agg hb hl hc h1 hK
theorem Chg.newr {w w1 w2 w3 : World} {p b : Nat} (h1 : Ext w w1) (h2 : Chg (Cr p) w1 w2) (h3 : Chg (Cr b) w2 w3) (hb : w.heap.size ≤ b) : Chg (Cr p) w w3 := by
  have h12 : Chg (Cr p) w w2 := (Chg.of_ext h1).trans h2
  refine h12.then h3 fun k hk e => ?_
  have e : k = b := e
  omega
theorem pk_stop {s : Str} {i : Nat} : (((decide ((48 : Int) ≤ pkM s i) && decide (pkM s i ≤ 57)) || decide (pkM s i = 46)) || decide (pkM s i = 101) || decide (pkM s i = 69)) = (isDig (byteM s i) || decide (byteM s i = 46) || decide (byteM s i = 101) || decide (byteM s i = 69)) := by
  rw [pk_dig]
  unfold pkM
  by_cases hlt : i < s.length
  · rw [if_pos hlt, byteM_in hlt]
  · rw [if_neg hlt, byteM_out (by omega)]; rfl
theorem number_p {w : World} {p i c : Nat} {s : Str} {K : Value → World → Prop} (h : Rdr w p s i c) (hi : i ≤ s.length) (hs : s.length ≤ 1000000)
    (hok : ∀ v j c', numM En s i c = .ok v j c' → ∀ cs w', Rdr w' p s j c' → Chg (Cr p) w w' → VRepP (From w.heap.size) w' v cs → K (.agg cs.toArray) w') (hbad : ∀ e j, numM En s i c = .bad e j → Thr w p e j) :
    callF Tryz.prog 116 [.pointer (some ⟨p, 0, none⟩)] w K := by
  refine W116_ok ?_
  unfold W116
  refine alloc_new fun b w1 hb hz1 hbb hx1 => ?_
  have h1 := h.ext hx1
  have hpb : p ≠ b := by have := h.lt; omega
  unfold numM at hok hbad
  simp only at hok hbad
  refine h1.ld rfl ?_
  -- the sign
  have sign : ∀ (K2 : Value → World → Prop), (∀ v w2 first, first = (if byteM s i = 45 then i + 1 else i) → first ≤ s.length → Rdr w2 p s first c → Chg (Cr p) w1 w2 → K2 v w2) →
      callF Tryz.prog 169 [.pointer (some ⟨p, 0, none⟩), .int .u8 45] w1 K2 := fun K2 hK2 => by
    refine take_p (n := 45) h1 hi hs (fun e w2 h2 hc2 => have e : byteM s i = 45 := e; hK2 _ w2 (i + 1) (by rw [if_pos e]) (by have := byte_lt (s := s) (i := i) (by omega); omega) h2 hc2) (fun e w2 h2 hc2 => have e : byteM s i ≠ 45 := e; hK2 _ w2 i (by rw [if_neg e]) hi h2 hc2)
  refine sign _ fun _ w2 first hf hfl h2 hc2 => ?_
  rw [← hf] at hok hbad
  refine h2.ld rfl ?_
  refine JoinW.cut (fun st w' => st = [] ∧ ∃ stop, stop = (if byteM s first = 48 then first + 1 else digM s first) ∧ stop ≤ s.length ∧ Rdr w' p s stop c ∧ Chg (Cr p) w1 w') ?_ ?_
  · refine take_p (n := 48) h2 hfl hs (fun e w3 h3 hc3 => ?_) (fun e w3 h3 hc3 => ?_)
    · have e : byteM s first = 48 := e
      rw [un_not, Bool.not_true, condW_false]
      exact ⟨rfl, first + 1, by rw [if_pos e], by have := byte_lt (s := s) (i := first) (by omega); omega, h3, hc2.trans hc3⟩
    · have e : byteM s first ≠ 48 := e
      rw [un_not, Bool.not_false, condW_true]
      refine digits_p h3 hfl hs fun w4 h4 hc4 => ?_
      exact ⟨rfl, digM s first, by rw [if_neg e], digM_le hfl, h4, (hc2.trans hc3).trans hc4⟩
  rintro st g w3 ⟨rfl, stop, hst, hsl, h3, hc3⟩
  rw [← hst] at hok hbad
  have hth : ∀ {w' : World} {e : Int} {j : Nat}, Chg (Cr p) w1 w' → Thr w p e j → Thr w' p e j := fun hc ht => ht.from ((Chg.of_ext hx1).trans hc)
  refine JoinW.cut (fun st w' => st = [] ∧ w' = w3 ∧ stop ≠ first) ?_ ?_
  · refine h3.ld rfl ?_
    rw [bin_eql, condW_dec]
    refine ⟨fun e => ?_, fun e => ⟨rfl, rfl, by omega⟩⟩
    have e : stop = first := by omega
    rw [if_pos e] at hbad
    refine h3.ld rfl ?_
    exact fail_p (hth hc3 (hbad _ _ rfl))
  rintro st g w4 ⟨rfl, rfl, hne⟩
  rw [if_neg hne] at hok hbad
  have hge : first ≤ stop := by rw [hst]; split; omega; exact digM_ge _ _
  refine JoinW.cut (fun st w' => st = [] ∧ w' = w4 ∧ ¬ 100 < stop - first) ?_ ?_
  · refine h3.ld rfl ?_
    rw [bin_sub, bin_gtr, wrap_id (by omega) (by omega), condW_dec]
    refine ⟨fun e => ?_, fun e => ⟨rfl, rfl, by omega⟩⟩
    rw [if_pos (by omega)] at hbad
    exact fail_p (hth hc3 (hbad _ _ rfl))
  rintro st g w5 ⟨rfl, rfl, hfew⟩
  rw [if_neg hfew] at hok hbad
  refine JoinW.cut (fun st w' => st = [] ∧ Ext w5 w' ∧ (isDig (byteM s stop) || decide (byteM s stop = 46) || decide (byteM s stop = 101) || decide (byteM s stop = 69)) = false) ?_ ?_
  · refine peek_p h3 hsl fun w6 hx6 => ?_
    have h6 := h3.ext hx6
    rw [bin_geq]
    simp only [bin_leq, bin_eql, isB_t, isB_f, GdW_pure, List.getD_cons_zero, pick_gd_and, pick_gd_or]
    intros
    rw [pk_stop, condW_b]
    refine ⟨fun e => ?_, fun e => ⟨trivial, hx6, e⟩⟩
    rw [if_pos e] at hbad
    refine h6.ld rfl ?_
    exact fail_p (hth (hc3.then hx6 fun _ _ e => e.elim) (hbad _ _ rfl))
  rintro st g w6 ⟨rfl, hx6, hstop⟩
  rw [if_neg (by rw [hstop]; simp)] at hok
  have h6 := h3.ext hx6
  have hc6 := hc3.then hx6 fun _ _ e => e.elim
  obtain ⟨hg, _, hlt⟩ := num_good hf hst hne hfew
  refine h6.drew.ld rfl ?_
  refine h6.drew.ld rfl ?_
  rw [sls_str, bd_some]
  refine ⟨by omega, by omega, ?_⟩
  rw [bd_some]
  refine ⟨by omega, by omega, ?_⟩
  simp only [ofL_data, Int.toNat_natCast]
  have et : (s.take stop).drop i = (s.drop i).take (stop - i) := by rw [List.drop_take]
  rw [et]
  have htl : ((s.drop i).take (stop - i)).length ≤ 9223372036854775807 := by rw [List.length_take]; omega
  generalize (s.drop i).take (stop - i) = t at *
  have hxd : Ext w6 w6.drew := Chg.drew (Chg.refl (fun _ => False) w6)
  refine JoinW.cut (fun st w' => Ext w6 w' ∧ st = [str (if t = [45, 48] then [48] else t)]) ?_ ?_
  · refine numgood_ref htl fun w7 hx7 => ?_
    rw [hg, un_not, condW_b]
    refine ⟨fun e => ?_, fun e => ?_⟩
    · refine ⟨hxd.trans hx7, ?_⟩
      rw [if_pos (by simpa using e)]
    · refine ⟨hxd.trans hx7, ?_⟩
      rw [if_neg (by simpa using e)]
  rintro st g w7 ⟨hx7, rfl⟩
  have h7 := h6.ext hx7
  have hc7 := hc6.then hx7 fun _ _ e => e.elim
  simp only [List.getD_cons_zero]
  have hul : (if t = [45, 48] then ([48] : Str) else t).length ≤ 9223372036854775807 := by split <;> simp [htl]
  generalize (if t = [45, 48] then ([48] : Str) else t) = u at *
  simp only [put_int, put_str, put_nil, List.length_cons, List.length_nil, List.set_cons_zero, List.set_cons_succ]
  refine ⟨by omega, by omega, ?_⟩
  refine ret_leaf (l := [i64 3, .bool false, str u, .slice none 0 0, .slice none 0 0]) (hc7.at hbb (fun e => hpb e.symm)) rfl rfl rfl fun w8 hc8 => ?_
  exact hok _ _ _ rfl _ w8 (hc8.at h7 hpb) (Chg.newr hx1 hc7 hc8 (by omega)) (leaf_rep hul)
end
end Go.Proofs.YtnoepcndjljolaaGreatDoor
namespace Go.Proofs.YtnoepcndjljolaaGreatDoor
open Go Go.Eng
set_option maxRecDepth 100000
variable [HX]
def plan261 : Plan := { js := [], ds := [] }
def W261 (v0 : Value) (w : World) (K : Value → World → Prop) : Prop :=
  binW .gtr v0 (.int .i64 8) fun t4 =>
  K t4 w
theorem W261_eq (v0 : Value) (w : World) (K : Value → World → Prop) : funW Tryz.prog Tryz.f261 plan261 [v0] w K = W261 v0 w K := by kernel_rfl
theorem W261_chk : chkFun Tryz.prog Tryz.f261 plan261 1 = true := by kernel_rfl
theorem W261_ok {v0 : Value} {w : World} {K : Value → World → Prop} (h : W261 v0 w K) : callF Tryz.prog 261 [v0] w K :=
  tie Tryz.prog 261 Tryz.f261 plan261 [v0] w K 1 (W261 v0 w K) rfl mixed Tryz.func261 W261_chk (W261_eq v0 w K) Tryz.call261 h
def plan264 : Plan := { js := [(11004, ⟨[15], [], 14⟩), (5004, ⟨[8], [], 7⟩)], ds := [] }
def W264 (v0 : Value) (w : World) (K : Value → World → Prop) : Prop :=
  binW .leq (.int .i32 0) v0 fun t5 =>
  GdW (isB t5 true) [undef] w (fun J1 =>
    binW .lss v0 (.int .i32 55296) fun t8 =>
    J1 [t8] w)
  fun s1 _ w2 =>
  pickW t5 (s1.getD 0 undef) (.bool false) fun t9 =>
  condW t9 (
    K (.bool true) w2) (
    binW .lss (.int .i32 57343) v0 fun t12 =>
    GdW (isB t12 true) [undef] w2 (fun J3 =>
      binW .leq v0 (.int .i32 1114111) fun t15 =>
      J3 [t15] w2)
    fun s3 _ w4 =>
    pickW t12 (s3.getD 0 undef) (.bool false) fun t16 =>
    condW t16 (
      K (.bool true) w4) (
      K (.bool false) w4))
theorem W264_eq (v0 : Value) (w : World) (K : Value → World → Prop) : funW Tryz.prog Tryz.f264 plan264 [v0] w K = W264 v0 w K := by kernel_rfl
theorem W264_chk : chkFun Tryz.prog Tryz.f264 plan264 1 = true := by kernel_rfl
theorem W264_ok {v0 : Value} {w : World} {K : Value → World → Prop} (h : W264 v0 w K) : callF Tryz.prog 264 [v0] w K :=
  tie Tryz.prog 264 Tryz.f264 plan264 [v0] w K 1 (W264 v0 w K) rfl mixed Tryz.func264 W264_chk (W264_eq v0 w K) Tryz.call264 h
end Go.Proofs.YtnoepcndjljolaaGreatDoor
namespace Go.Proofs.YtnoepcndjljolaaGreatDoor
open Go Go.Eng Go.RowKit
set_option maxRecDepth 100000
def badL : Str := [43, 45, 95]
def badB (c : UInt8) : Bool := decide (c = 43) || decide (c = 45) || decide (c = 95)
theorem get!_ofL (l : Str) (i : Nat) : (ofL l).get! i = l.getD i 0 := by
  simp only [ofL, ByteArray.get!, List.getD_eq_getElem?_getD]
  show (l.toArray)[i]! = _
  simp only [List.getElem!_toArray, List.getElem!_eq_getElem?_getD]
  rfl
theorem dec_facts (l : Str) (pos : Nat) (hp : pos < l.length) :
    ((l.getD pos 0).toNat < 128 → Utf8.decode (ofL l) pos = ((l.getD pos 0).toNat, 1)) ∧
    (128 ≤ (l.getD pos 0).toNat → 128 ≤ (Utf8.decode (ofL l) pos).1 ∧ ((Utf8.decode (ofL l) pos).1 < 55296 ∨ (57344 ≤ (Utf8.decode (ofL l) pos).1 ∧ (Utf8.decode (ofL l) pos).1 ≤ 1114111)) ∧ 1 ≤ (Utf8.decode (ofL l) pos).2 ∧
      pos + (Utf8.decode (ofL l) pos).2 ≤ l.length ∧ ∀ k, pos ≤ k → k < pos + (Utf8.decode (ofL l) pos).2 → 128 ≤ (l.getD k 0).toNat) := by
  have hd := Lib.decode_at (ofL l) pos
  rw [ofL_size] at hd
  simp only [get!_ofL] at hd
  have hb : ∀ i, (l.getD i 0).toNat < 256 := fun i => UInt8.toNat_lt _
  have h0 := hb pos
  have h1 := hb (pos + 1)
  have h2 := hb (pos + 2)
  have h3 := hb (pos + 3)
  have hs := Lib.decodeN_shape (l.length - pos) (l.getD pos 0).toNat (l.getD (pos + 1) 0).toNat (l.getD (pos + 2) 0).toNat (l.getD (pos + 3) 0).toNat
  rw [← hd] at hs
  have hasc : (l.getD pos 0).toNat < 128 → Utf8.decode (ofL l) pos = ((l.getD pos 0).toNat, 1) := fun h => by rw [hd]; unfold Lib.decodeN; rw [if_pos h]
  refine ⟨hasc, ?_⟩
  clear hasc
  generalize Utf8.decode (ofL l) pos = d at *
  obtain ⟨c, wd⟩ := d
  clear hd hb
  have one : ∀ k, pos ≤ k → k < pos + 1 → k = pos := fun k h1 h2 => by omega
  have two : ∀ k, pos ≤ k → k < pos + 2 → k = pos ∨ k = pos + 1 := fun k h1 h2 => by omega
  have three : ∀ k, pos ≤ k → k < pos + 3 → k = pos ∨ k = pos + 1 ∨ k = pos + 2 := fun k h1 h2 => by omega
  have four : ∀ k, pos ≤ k → k < pos + 4 → k = pos ∨ k = pos + 1 ∨ k = pos + 2 ∨ k = pos + 3 := fun k h1 h2 => by omega
  rcases hs with ⟨ha, he⟩ | ⟨ha, hn, q1, q2, he⟩ | ⟨ha, hn, q1, q2, q3, q4, he⟩ | ⟨ha, hn, q1, q2, q3, q4, q5, he⟩ | he <;> simp only [Prod.mk.injEq] at he <;> obtain ⟨rfl, rfl⟩ := he
  · exact fun h => by omega
  · refine fun h => ⟨q2, .inl (by omega), by omega, by omega, fun k hk1 hk2 => ?_⟩
    rcases two k hk1 hk2 with rfl | rfl <;> omega
  · refine fun h => ⟨by omega, by omega, by omega, by omega, fun k hk1 hk2 => ?_⟩
    rcases three k hk1 hk2 with rfl | rfl | rfl <;> omega
  · refine fun h => ⟨by omega, by omega, by omega, by omega, fun k hk1 hk2 => ?_⟩
    rcases four k hk1 hk2 with rfl | rfl | rfl | rfl <;> omega
  · refine fun h => ⟨by omega, by omega, by omega, by omega, fun k hk1 hk2 => ?_⟩
    rw [one k hk1 hk2]; exact h
section
variable [HX]
theorem enc_facts {c : Int} (h0 : 128 ≤ c) (hv : c < 55296 ∨ (57344 ≤ c ∧ c ≤ 1114111)) : ∃ l : Str, Utf8.encode c = ofL l ∧ 2 ≤ l.length ∧ l.length ≤ 4 ∧ ∃ b, l[l.length - 1]? = some b ∧ 128 ≤ b.toNat := by
  obtain ⟨n, rfl⟩ := Int.eq_ofNat_of_zero_le (show 0 ≤ c by omega)
  have hval : Utf8.valid (n : Int) = true := by
    simp only [Utf8.valid, Bool.or_eq_true, Bool.and_eq_true, decide_eq_true_eq]
    omega
  have last : ∀ m : Nat, 128 ≤ (UInt8.ofNat (0x80 + m % 64)).toNat := by
    intro m
    rw [UInt8.toNat_ofNat']
    omega
  unfold Utf8.encode
  simp only [hval, if_true, Int.toNat_natCast]
  rw [if_neg (by omega)]
  split
  · exact ⟨[_, _], rfl, by simp, by simp, _, rfl, last _⟩
  · split
    · exact ⟨[_, _, _], rfl, by simp, by simp, _, rfl, last _⟩
    · exact ⟨[_, _, _, _], rfl, by simp, by simp, _, rfl, last _⟩
theorem cvs_int {k : IntKind} {c : Int} {K : Value → Prop} : cvsW (.int k c) K ↔ K (.string (Utf8.encode c)) := Iff.rfl
theorem idx_none (l : Str) (b : UInt8) (h : ∀ x ∈ l, x.toNat < 128) (hb : 128 ≤ b.toNat) : Lib.indexByte l b = -1 := by
  induction l with
  | nil => rfl
  | cons x l ih =>
    have hx := h x List.mem_cons_self
    have ih := ih fun y hy => h y (List.mem_cons_of_mem _ hy)
    have hne : (x == b) = false := by
      rw [beq_eq_false_iff_ne]
      intro e
      subst e
      omega
    simp [Lib.indexByte, hne, ih]
theorem idx_bad (n : Nat) (hn : n < 128) : 0 ≤ Lib.indexByte badL (UInt8.ofNat n) → n = 43 ∨ n = 45 ∨ n = 95 := by
  have : ∀ m : Fin 128, (0 ≤ Lib.indexByte badL (UInt8.ofNat m.val) → m.val = 43 ∨ m.val = 45 ∨ m.val = 95) := by decide +kernel
  exact this ⟨n, hn⟩
theorem wrap_u8 {n : Nat} (h : n < 256) : IntKind.u8.wrap (n : Int) = (n : Int) := by
  have e1 : (2 : Int) ^ 8 = 256 := by decide
  simp only [IntKind.wrap, IntKind.bits, IntKind.signed, Bool.false_and, e1]
  simp
  omega
theorem valid_rune {n : Nat} {w : World} {K : Value → World → Prop} (hv : n < 55296 ∨ 57344 ≤ n ∧ n ≤ 1114111) (hK : K (.bool true) w) : callF Tryz.prog 264 [.int .i32 (n : Nat)] w K := by
  refine W264_ok ?_
  unfold W264
  rw [bin_leq, decide_eq_true (by omega)]
  simp only [isB_t, bin_lss, GdW_pure, cond_true, List.getD_cons_zero, pick_t]
  intro _
  rw [condW_dec]
  refine ⟨fun _ => hK, fun hn => ?_⟩
  rw [decide_eq_true (by omega)]
  simp only [isB_t, bin_leq, GdW_pure, cond_true, List.getD_cons_zero, pick_t]
  intro _
  rw [decide_eq_true (by omega), condW_true]
  exact hK
theorem index_rune {n : Nat} {w : World} {K : Value → World → Prop} (hv : n < 55296 ∨ 57344 ≤ n ∧ n ≤ 1114111)
    (hK : ∀ r : Int, ∀ w', (0 ≤ r → n = 43 ∨ n = 45 ∨ n = 95) → Ext w w' → K (i64 r) w') : callF Tryz.prog 260 [str badL, .int .i32 (n : Nat)] w K := by
  refine W260_ok ?_
  unfold W260
  rw [bin_leq, decide_eq_true (by omega)]
  simp only [isB_t, bin_lss, GdW_pure, cond_true, List.getD_cons_zero, pick_t]
  intro _
  rw [condW_dec]
  refine ⟨fun hasc => ?_, fun hasc => ?_⟩
  · rw [cvt_int, wrap_u8 (by omega)]
    exact index_b (by omega) (hK _ _ (idx_bad n (by omega)) (Chg.refl _ _))
  rw [bin_eql, condW_dec]
  refine ⟨fun hF => ?_, fun hF => ?_⟩
  · refine range_str ?_
    refine LoopW.go (fun st w' => st = [] ∧ ∃ pos, w'.heap[w.heap.size]? = some (.stringIter (ofL badL) pos) ∧ pos ≤ 3 ∧ Ext w w') (fun _ w' => match w'.heap[w.heap.size]? with | some (.stringIter _ pos) => 3 - pos | _ => 0) ?_ ?_
    · exact ⟨rfl, 0, heap_anew _ _ _ rfl, by omega, Chg.alloc (Chg.refl _ _) _⟩
    · rintro s g w' ⟨rfl, pos, hw, hp, hx⟩
      refine next_str hw (fun hle => ?_) (fun hlt w1 hw1 hc _ => ?_)
      · rw [ext_tuple]
        refine ⟨_, rfl, ?_⟩
        rw [condW_false]
        exact hK (-1) _ (by omega) hx
      · have hlt' : pos < 3 := hlt
        have hd : Utf8.decode (ofL badL) pos = ((badL.getD pos 0).toNat, 1) ∧ (badL.getD pos 0).toNat < 128 := by
          have : (badL.getD pos 0).toNat < 128 := by
            rcases (show pos = 0 ∨ pos = 1 ∨ pos = 2 by omega) with rfl | rfl | rfl <;> decide
          exact ⟨(dec_facts badL pos hlt).1 this, this⟩
        have hne : ¬ (((Utf8.decode (ofL badL) pos).1 : Nat) : Int) = 65533 := by rw [hd.1]; have := hd.2; simp only; omega
        simp only [ext_tuple]
        refine ⟨_, rfl, ?_⟩
        rw [condW_true]
        refine ⟨_, rfl, _, rfl, ?_⟩
        rw [bin_eql, decide_eq_false hne, condW_false]
        have hx1 : Ext w w1 := Chg.then hx hc fun k hk e => by omega
        rw [hd.1] at hw1
        refine ⟨⟨trivial, _, hw1, by simp only; omega, hx1⟩, ?_⟩
        rw [hw1, hw]
        simp only
        omega
  · refine valid_rune hv ?_
    rw [un_not, Bool.not_true, condW_false]
    obtain ⟨l, hl, hl2, hl4, b, hb, hb128⟩ := enc_facts (c := (n : Int)) (by omega) (by omega)
    rw [cvs_int, hl, lens_str, bin_sub, wrap_id (by omega) (by omega)]
    refine LoopW.go (fun s w'' => s = [i64 ((l.length : Int) - 1)] ∧ w'' = w) (fun _ _ => 0) ⟨rfl, rfl⟩ ?_
    rintro s g w'' ⟨rfl, rfl⟩
    simp only [List.getD_cons_zero]
    rw [lens_str, bin_lss, condW_dec]
    have e3 : badL.length = 3 := rfl
    refine ⟨fun h3 => ?_, fun _ => hK (-1) _ (by omega) (Chg.refl _ _)⟩
    rw [e3] at h3
    refine JoinW.cut (fun _ _ => False) ?_ (fun _ _ _ h => h.elim)
    have hi : ((l.length : Int) - 1).toNat = l.length - 1 := by omega
    have hbyte : ∀ x : UInt8, x.toNat < 128 → ((x.toNat : Int) ≠ (b.toNat : Int)) := fun x hx e => by omega
    have hd : ∀ k, Lib.indexByte (badL.drop k) b = -1 := fun k => idx_none _ b (fun x hx => by
      have hx := List.mem_of_mem_drop hx
      simp only [badL, List.mem_cons, List.not_mem_nil, or_false] at hx
      rcases hx with rfl | rfl | rfl <;> decide) hb128
    obtain ⟨x, hx, hx128⟩ : ∃ x, badL[l.length - 1]? = some x ∧ x.toNat < 128 := by
      rcases (show l.length = 2 ∨ l.length = 3 by omega) with h2 | h2 <;> rw [h2]
      · exact ⟨45, rfl, by decide⟩
      · exact ⟨95, rfl, by decide⟩
    rw [ixs_str]
    refine ⟨by omega, x, by rw [hi]; exact hx, ?_⟩
    rw [ixs_str]
    refine ⟨by omega, b, by rw [hi]; exact hb, ?_⟩
    rw [bin_neq, decide_eq_true (hbyte x hx128), condW_true, bin_add, wrap_id (by omega) (by omega), sls_str, bd_none, bd_some]
    refine ⟨by omega, by rw [e3]; omega, ?_⟩
    rw [ixs_str]
    refine ⟨by omega, b, by rw [hi]; exact hb, ?_⟩
    refine index_b (UInt8.toNat_lt b) ?_
    rw [List.take_length, UInt8.ofNat_toNat, hd, bin_lss, decide_eq_true (by decide), condW_true]
    have hxd : ∀ w : World, Ext w w.drew := fun w => Chg.drew (Chg.refl (fun _ => False) w)
    exact hK (-1) _ (by omega) ((hxd _).trans (hxd _))
theorem contains_any {l : Str} {w : World} {K : Value → World → Prop} (hl : l.length ≤ 8) (hK : ∀ r w', (r = true → ∃ c ∈ l, badB c = true) → Ext w w' → K (.bool r) w') : callF Tryz.prog 241 [str l, str badL] w K := by
  refine W241_ok ?_
  unfold W241
  have fin : ∀ (r : Int) (w' : World), (0 ≤ r → ∃ c ∈ l, badB c = true) → Ext w w' → binW .geq (i64 r) (.int .i64 0) fun t8 => K t8 w' := fun r w' h hx => by
    rw [bin_geq]
    exact hK _ w' (fun e => h (of_decide_eq_true e)) hx
  refine W257_ok ?_
  unfold W257
  have e0 : decide (badL = []) = false := by decide
  have e3 : ((badL.length : Nat) : Int) = 3 := rfl
  rw [bin_seq, e0, condW_false, lens_str, bin_eql, e3, decide_eq_false (by decide), condW_false]
  refine JoinW.cut (fun _ w' => w' = w) ?_ ?_
  · rw [lens_str]
    refine W261_ok ?_
    unfold W261
    rw [bin_gtr, decide_eq_false (by omega)]
    dsimp only
    rw [condW_false]
  rintro _ g w' rfl
  refine range_str ?_
  refine LoopW.go (fun st w1 => st = [] ∧ ∃ pos, w1.heap[w'.heap.size]? = some (.stringIter (ofL l) pos) ∧ pos ≤ l.length ∧ Ext w' w1)
    (fun _ w1 => match w1.heap[w'.heap.size]? with | some (.stringIter _ pos) => l.length - pos | _ => 0) ?_ ?_
  · exact ⟨rfl, 0, heap_anew _ _ _ rfl, by omega, Chg.alloc (Chg.refl _ _) _⟩
  rintro st g w1 ⟨rfl, pos, hw, hp, hx⟩
  refine next_str hw (fun hle => ?_) (fun hlt w2 hw2 hc _ => ?_)
  · rw [ext_tuple]
    refine ⟨_, rfl, ?_⟩
    rw [condW_false]
    exact fin (-1) _ (by omega) hx
  have hx2 : Ext w' w2 := Chg.then hx hc fun k hk e => by omega
  obtain ⟨f1, f2⟩ := dec_facts l pos hlt
  have hget : l[pos]? = some (l.getD pos 0) := by simp [hlt]
  simp only [ext_tuple]
  refine ⟨_, rfl, ?_⟩
  rw [condW_true]
  refine ⟨_, rfl, _, rfl, ?_⟩
  have hcv : (Utf8.decode (ofL l) pos).1 < 55296 ∨ 57344 ≤ (Utf8.decode (ofL l) pos).1 ∧ (Utf8.decode (ofL l) pos).1 ≤ 1114111 := by
    by_cases h : (l.getD pos 0).toNat < 128
    · rw [f1 h]; simp only; omega
    · exact (f2 (by omega)).2.1
  have hstep : pos + (Utf8.decode (ofL l) pos).2 ≤ l.length ∧ 1 ≤ (Utf8.decode (ofL l) pos).2 := by
    by_cases h1 : (l.getD pos 0).toNat < 128
    · rw [f1 h1]; simp only; omega
    · exact ⟨(f2 (by omega)).2.2.2.1, (f2 (by omega)).2.2.1⟩
  refine index_rune hcv fun r w3 hr hx3 => ?_
  have hx4 : Ext w' w3 := hx2.trans hx3
  rw [bin_geq, condW_dec]
  refine ⟨fun h0 => ?_, fun h0 => ?_⟩
  · refine fin pos _ (fun _ => ⟨_, List.mem_of_getElem? hget, ?_⟩) hx4
    have h := hr h0
    by_cases h1 : (l.getD pos 0).toNat < 128
    · rw [f1 h1] at h
      simp only at h
      generalize l.getD pos 0 = x at *
      have : ∀ y : UInt8, x.toNat = y.toNat → x = y := fun y e => UInt8.toNat_inj.1 e
      rcases h with h | h | h
      · rw [this 43 h]; rfl
      · rw [this 45 h]; rfl
      · rw [this 95 h]; rfl
    · have := (f2 (by omega)).1; omega
  · have hw3 : w3.heap[w'.heap.size]? = some (.stringIter (ofL l) (pos + (Utf8.decode (ofL l) pos).2)) := hx3.at hw2 id
    refine ⟨⟨trivial, _, hw3, hstep.1, hx4⟩, ?_⟩
    rw [hw3, hw]
    simp only
    omega
end
end Go.Proofs.YtnoepcndjljolaaGreatDoor
namespace Go.Proofs.YtnoepcndjljolaaGreatDoor
open Go Go.Eng Go.RowKit
set_option maxRecDepth 100000
def isHex (c : UInt8) : Bool := decide (0 ≤ hexV c.toNat)
def hexD1 (c : UInt8) : Nat := (hexV c.toNat).toNat
def hexN (l : Str) : Nat := l.foldl (fun n c => n * 16 + hexD1 c) 0
theorem hexN_snoc (l : Str) (c : UInt8) : hexN (l ++ [c]) = hexN l * 16 + hexD1 c := by unfold hexN; rw [List.foldl_append]; rfl
theorem hexD1_le (c : UInt8) : hexD1 c ≤ 15 := by
  unfold hexD1
  have := hexV_le c.toNat
  omega
theorem hexN_go (l : Str) : ∀ n : Nat, l.foldl (fun n c => n * 16 + hexD1 c) n < (n + 1) * 16 ^ l.length := by
  induction l with
  | nil => intro n; simp
  | cons c l ih =>
    intro n
    have h := ih (n * 16 + hexD1 c)
    have hc := hexD1_le c
    rw [List.foldl_cons, List.length_cons, Nat.pow_succ]
    refine Nat.lt_of_lt_of_le h ?_
    rw [Nat.mul_comm (16 ^ l.length) 16, ← Nat.mul_assoc]
    exact Nat.mul_le_mul_right _ (by omega)
theorem hexN_lt (l : Str) : hexN l < 16 ^ l.length := by
  have := hexN_go l 0
  simpa [hexN] using this
theorem or32 (n : Nat) (h : n < 256) : IntKind.u8.wrap (((BitVec.ofInt IntKind.u8.bits (n : Int)) ||| (BitVec.ofInt IntKind.u8.bits 32)).toNat : Int) = ((n ||| 32 : Nat) : Int) := by
  have : ∀ m : Fin 256, IntKind.u8.wrap (((BitVec.ofInt IntKind.u8.bits (m.val : Int)) ||| (BitVec.ofInt IntKind.u8.bits 32)).toNat : Int) = ((m.val ||| 32 : Nat) : Int) := by decide +kernel
  exact this ⟨n, h⟩
def digW (n : Nat) : Option Nat := if 48 ≤ n ∧ n ≤ 57 then some (n - 48) else if 97 ≤ n ||| 32 ∧ n ||| 32 ≤ 122 then some ((n ||| 32) - 87) else none
def digOk (n : Nat) : Bool := match digW n with | some d => decide (d ≤ 35) && (if d < 16 then decide (hexV n = d) else decide (hexV n = -1)) | none => decide (hexV n = -1)
theorem digOk_all : ∀ m : Fin 256, digOk m.val = true := by decide +kernel
theorem dig_some {n d : Nat} (h : n < 256) (hd : digW n = some d) : d ≤ 35 ∧ (d < 16 → hexV n = d) ∧ (16 ≤ d → hexV n = -1) := by
  have := digOk_all ⟨n, h⟩
  simp only [digOk, hd, Bool.and_eq_true, decide_eq_true_eq] at this
  obtain ⟨h1, h2⟩ := this
  refine ⟨h1, fun h => ?_, fun h => ?_⟩
  · rw [if_pos h] at h2; exact of_decide_eq_true h2
  · rw [if_neg (by omega)] at h2; exact of_decide_eq_true h2
theorem dig_none {n : Nat} (h : n < 256) (hd : digW n = none) : hexV n = -1 := by
  have := digOk_all ⟨n, h⟩
  simp only [digOk, hd, decide_eq_true_eq] at this
  exact this
theorem or32_le (n : Nat) (h : n < 256) : n ||| 32 < 256 := by
  have : ∀ m : Fin 256, m.val ||| 32 < 256 := by decide +kernel
  exact this ⟨n, h⟩
section
variable [HX]
theorem lower_p {n : Nat} {w : World} {K : Value → World → Prop} (h : n < 256) (hK : K (.int .u8 ((n ||| 32 : Nat) : Int)) w) : callF Tryz.prog 243 [.int .u8 (n : Nat)] w K := by
  refine W243_ok ?_
  unfold W243
  show binW .or (.int .u8 (n : Int)) (.int .u8 32) _
  refine ⟨rfl, ?_⟩
  rw [or32 n h]
  exact hK
abbrev eSyn : Value := .iface 201 (.int .i64 2)
theorem uint16_p {l : Str} {w : World} {K : Value → World → Prop} (hl : l.length = 4) (hok : l.all isHex = true → ∀ w', Ext w w' → K (.tuple #[.int .u64 (hexN l : Nat), .nilIface]) w') (hno : l.all isHex = false → ∀ w', Ext w w' → K (.tuple #[.int .u64 0, eSyn]) w') :
    callF Tryz.prog 218 [str l, i64 16, i64 32] w K := by
  refine W218_ok ?_
  unfold W218
  have hne : l ≠ [] := fun e => by rw [e] at hl; simp at hl
  rw [bin_seq, decide_eq_false hne, condW_false, bin_eql, decide_eq_false (by decide)]
  refine JoinW.cut (fun st w' => st = [str l, i64 16] ∧ w' = w) ?_ ?_
  · rw [bin_leq, decide_eq_true (by decide)]
    simp only [isB_t, bin_leq, GdW_pure, cond_true, List.getD_cons_zero, pick_t]
    intro _
    rw [decide_eq_true (by decide), condW_true]
    exact ⟨trivial, trivial⟩
  rintro st g w1 ⟨rfl, rfl⟩
  simp only [List.getD_cons_zero, List.getD_cons_succ]
  refine JoinW.cut (fun st w' => st = [i64 32] ∧ w' = w1) ?_ ?_
  · rw [bin_eql, decide_eq_false (by decide), condW_false, bin_lss, decide_eq_false (by decide)]
    simp only [isB_f, bin_gtr, GdW_pure, Bool.not_false, cond_true, List.getD_cons_zero, pick_f]
    intro _
    rw [decide_eq_false (by decide), condW_false]
    exact ⟨trivial, trivial⟩
  rintro st g w2 ⟨rfl, rfl⟩
  simp only [List.getD_cons_zero]
  refine JoinW.cut (fun st w' => st = [.int .u64 1152921504606846976] ∧ w' = w2) ?_ ?_
  · rw [bin_eql, decide_eq_false (by decide), condW_false, bin_eql, decide_eq_true rfl, condW_true]
    exact ⟨rfl, rfl⟩
  rintro st g w3 ⟨rfl, rfl⟩
  simp only [List.getD_cons_zero]
  rw [cvt_int]
  have e1 : IntKind.u64.wrap (32 : Int) = 32 := by decide
  have e2 : IntKind.u64.wrap (1 * 2 ^ min (32 : Int).toNat IntKind.u64.bits) = 4294967296 := by decide
  have e3 : IntKind.u64.wrap (4294967296 - 1) = 4294967295 := by decide
  have e4 : IntKind.u64.wrap (16 : Int) = 16 := by decide
  have e5 : IntKind.u8.wrap (16 : Int) = 16 := by decide
  rw [e1, bin_shl]
  refine ⟨by decide, ?_⟩
  rw [e2, bin_sub, e3]
  refine to_bytes (l := l) (by kernel_rfl) (by kernel_rfl) (by kernel_rfl) fun v w4 hv hx4 => ?_
  rw [lenl_at hv, hl]
  have hxe : ∀ w', Ext w4 w' → Ext w3 w' := fun w' h => hx4.trans h
  refine LoopW.go (fun st w' => ∃ i : Nat, i ≤ 4 ∧ st = [.bool false, .int .u64 (hexN (l.take i) : Nat), i64 (i : Nat)] ∧ w' = w4 ∧ (l.take i).all isHex = true) (fun st _ => match st with | [_, _, .int _ i] => 4 - i.toNat | _ => 0) ⟨0, by omega, rfl, rfl, rfl⟩ ?_
  rintro st g w5 ⟨i, hi, rfl, rfl, hall⟩
  simp only [List.getD_cons_zero, List.getD_cons_succ]
  rw [bin_lss, condW_dec]
  refine ⟨fun hlt => ?_, fun hge => ?_⟩
  · have hlt : i < 4 := by omega
    obtain ⟨c, hc⟩ : ∃ c, l[i]? = some c := ⟨_, List.getElem?_eq_getElem (by omega)⟩
    have hn := UInt8.toNat_lt c
    have etake : l.take (i + 1) = l.take i ++ [c] := by rw [List.take_add_one, hc]; rfl
    have hN := hexN_lt (l.take i)
    have hN2 : hexN (l.take i) < 65536 := by
      have h1 : (l.take i).length ≤ 3 := by rw [List.length_take]; omega
      have h2 : (16 : Nat) ^ (l.take i).length ≤ 16 ^ 3 := Nat.pow_le_pow_right (by omega) h1
      omega
    have bad : isHex c = false → K (.tuple #[.int .u64 0, eSyn]) w5 := fun h => hno (by
      rw [List.all_eq_false]
      exact ⟨c, List.mem_of_getElem? hc, by simp [h]⟩) _ hx4
    have eb : isHex c = decide (0 ≤ hexV c.toNat) := rfl
    have ed1 : hexD1 c = (hexV c.toNat).toNat := rfl
    refine JoinW.cut (fun st w' => st = [.bool false, .int .u64 (hexN (l.take (i + 1)) : Nat)] ∧ w' = w5 ∧ isHex c = true) ?_ ?_
    · obtain ⟨n, hcn⟩ : ∃ n, c.toNat = n := ⟨_, rfl⟩
      rw [hcn] at hn eb ed1
      refine ixa_ld (x := .int .u8 (n : Nat)) hv (by rw [u8s_length]) (by rw [u8s_get, hc, ← hcn]; rfl) ?_
      refine JoinW.cut (fun st w' => ∃ d, digW n = some d ∧ st = [.bool false, .int .u8 (d : Nat)] ∧ w' = w5) ?_ ?_
      · rw [bin_eql]
        simp only [isB_t, GdW_pure]
        intro _
        simp only [List.getD_cons_zero]
        rw [pick_gd_and, Bool.and_false, condW_false, bin_leq]
        simp only [isB_t, bin_leq, GdW_pure]
        intro _
        simp only [List.getD_cons_zero]
        rw [pick_gd_and, condW_b]
        refine ⟨fun h => ?_, fun h => ?_⟩
        · rw [Bool.and_eq_true, decide_eq_true_iff, decide_eq_true_iff] at h
          rw [bin_sub]
          have e : IntKind.u8.wrap ((n : Int) - 48) = ((n - 48 : Nat) : Int) := by
            rw [show (n : Int) - 48 = ((n - 48 : Nat) : Int) by omega]
            exact wrap_u8 (by omega)
          rw [e]
          exact ⟨n - 48, by unfold digW; rw [if_pos (by omega)], rfl, trivial⟩
        · have hnd : ¬ (48 ≤ n ∧ n ≤ 57) := by
            rintro ⟨h1, h2⟩
            rw [decide_eq_true (by omega), decide_eq_true (by omega)] at h
            cases h
          have hor := or32_le n hn
          refine lower_p hn ?_
          rw [bin_leq]
          refine GdW.act (decide (((n ||| 32 : Nat) : Int) ≤ 122)) (fun w' => w' = w5) (fun _ => rfl) ?_ ?_
          · intro _ J hJ
            refine lower_p hn ?_
            rw [bin_leq]
            exact hJ _ rfl
          rintro g2 w6 rfl
          simp only [List.getD_cons_zero, isB_t]
          rw [pick_gd_and, condW_b]
          refine ⟨fun h => ?_, fun h => ?_⟩
          · rw [Bool.and_eq_true, decide_eq_true_iff, decide_eq_true_iff] at h
            refine lower_p hn ?_
            rw [bin_sub, bin_add]
            have e : IntKind.u8.wrap (((n ||| 32 : Nat) : Int) - 97) = (((n ||| 32) - 97 : Nat) : Int) := by
              rw [show ((n ||| 32 : Nat) : Int) - 97 = (((n ||| 32) - 97 : Nat) : Int) by omega]
              exact wrap_u8 (by omega)
            have e' : IntKind.u8.wrap ((((n ||| 32) - 97 : Nat) : Int) + 10) = (((n ||| 32) - 87 : Nat) : Int) := by
              rw [show (((n ||| 32) - 97 : Nat) : Int) + 10 = (((n ||| 32) - 87 : Nat) : Int) by omega]
              exact wrap_u8 (by omega)
            rw [e, e']
            exact ⟨(n ||| 32) - 87, by unfold digW; rw [if_neg hnd, if_pos (by omega)], rfl, rfl⟩
          · refine bad ?_
            rw [eb, dig_none hn]
            · rfl
            unfold digW
            rw [if_neg hnd, if_neg]
            rintro ⟨h1, h2⟩
            rw [decide_eq_true (by omega), decide_eq_true (by omega)] at h
            cases h
      rintro st g2 w6 ⟨d, hd, rfl, rfl⟩
      obtain ⟨d1, d2, d3⟩ := dig_some hn hd
      simp only [List.getD_cons_zero, List.getD_cons_succ]
      rw [cvt_int, e5, bin_geq, condW_dec]
      refine ⟨fun h16 => ?_, fun h16 => ?_⟩
      · exact bad (by rw [eb, d3 (by omega)]; rfl)
      · have hv16 := d2 (by omega)
        rw [bin_geq, decide_eq_false (by omega), condW_false, cvt_int, e4, bin_mul, cvt_int]
        have em : IntKind.u64.wrap ((hexN (l.take i) : Int) * 16) = ((hexN (l.take i) * 16 : Nat) : Int) := by
          rw [show (hexN (l.take i) : Int) * 16 = ((hexN (l.take i) * 16 : Nat) : Int) by omega]
          exact u64_wrap (by omega) (by omega)
        have ed : IntKind.u64.wrap (d : Int) = (d : Int) := u64_wrap (by omega) (by omega)
        have ea : IntKind.u64.wrap (((hexN (l.take i) * 16 : Nat) : Int) + (d : Int)) = ((hexN (l.take i) * 16 + d : Nat) : Int) := by
          rw [show ((hexN (l.take i) * 16 : Nat) : Int) + (d : Int) = ((hexN (l.take i) * 16 + d : Nat) : Int) by omega]
          exact u64_wrap (by omega) (by omega)
        rw [em, ed, bin_add, ea, bin_lss, decide_eq_false (by omega)]
        simp only [isB_f, bin_gtr, GdW_pure, Bool.not_false, cond_true, List.getD_cons_zero, pick_f]
        intro _
        rw [decide_eq_false (by omega), condW_false]
        refine ⟨?_, trivial, by rw [eb, hv16]; exact decide_eq_true (by omega)⟩
        have e : hexN (l.take (i + 1)) = hexN (l.take i) * 16 + d := by
          rw [etake, hexN_snoc, ed1, hv16]
          rfl
        rw [e]
    rintro st g2 w6 ⟨rfl, rfl, hx⟩
    simp only [List.getD_cons_zero, List.getD_cons_succ]
    rw [bin_add, up1 (by omega)]
    refine ⟨⟨i + 1, by omega, rfl, trivial, ?_⟩, ?_⟩
    · rw [etake, List.all_append, hall]
      simp [hx]
    · simp only [Int.toNat_natCast]; omega
  · obtain rfl : i = 4 := by omega
    rw [List.take_of_length_le (by omega)] at hall ⊢
    simp only [isB_t, GdW_f]
    intro _
    rw [pick_f, condW_false]
    exact hok hall _ hx4
end
end Go.Proofs.YtnoepcndjljolaaGreatDoor
namespace Go.Proofs.YtnoepcndjljolaaGreatDoor
open Go Go.Eng Go.RowKit
set_option maxRecDepth 100000
theorem hexM_four {s : Str} {a : Nat} (hl : a + 6 ≤ s.length) (hu : (s.drop a).take 2 = [92, 117]) : hexM s a = if ((s.drop (a + 2)).take 4).all isHex = true then (hexN ((s.drop (a + 2)).take 4) : Int) else -1 := by
  have hlen : (s.drop a).length = s.length - a := List.length_drop
  match hd : s.drop a, hlen with
  | [], h | [_], h | [_, _], h | [_, _, _], h | [_, _, _, _], h | [_, _, _, _, _], h => exact absurd h (by simp; omega)
  | b0 :: b1 :: c0 :: c1 :: c2 :: c3 :: r, _ =>
    have e2 : s.drop (a + 2) = c0 :: c1 :: c2 :: c3 :: r := drop_app (l := [b0, b1]) hd
    rw [hd] at hu
    simp only [List.take_succ_cons, List.take_zero, List.cons.injEq, and_true] at hu
    obtain ⟨rfl, rfl⟩ := hu
    have e4 : (s.drop (a + 2)).take 4 = [c0, c1, c2, c3] := by rw [e2]; rfl
    rw [hexM_at hd, e4]
    unfold hexM
    rw [show byteM [92, 117, c0, c1, c2, c3] 0 = 92 from rfl, show byteM [92, 117, c0, c1, c2, c3] (0 + 1) = 117 from rfl, show byteM [92, 117, c0, c1, c2, c3] (0 + 2) = c0.toNat from rfl, show byteM [92, 117, c0, c1, c2, c3] (0 + 3) = c1.toNat from rfl, show byteM [92, 117, c0, c1, c2, c3] (0 + 4) = c2.toNat from rfl, show byteM [92, 117, c0, c1, c2, c3] (0 + 5) = c3.toNat from rfl]
    have ea : ([c0, c1, c2, c3] : Str).all isHex = (decide (0 ≤ hexV c0.toNat) && (decide (0 ≤ hexV c1.toNat) && (decide (0 ≤ hexV c2.toNat) && (decide (0 ≤ hexV c3.toNat) && true)))) := rfl
    have en : hexN [c0, c1, c2, c3] = (((0 * 16 + hexD1 c0) * 16 + hexD1 c1) * 16 + hexD1 c2) * 16 + hexD1 c3 := rfl
    rw [en]
    by_cases h : 0 ≤ hexV c0.toNat ∧ 0 ≤ hexV c1.toNat ∧ 0 ≤ hexV c2.toNat ∧ 0 ≤ hexV c3.toNat
    · obtain ⟨h0, h1, h2, h3⟩ := h
      rw [if_pos ⟨by simp, rfl, rfl, h0, h1, h2, h3⟩, if_pos (ea.trans (by rw [decide_eq_true h0, decide_eq_true h1, decide_eq_true h2, decide_eq_true h3]; rfl))]
      unfold hexD1
      omega
    · rw [if_neg fun h' => h h'.2.2.2, if_neg]
      intro h'
      have h' := ea.symm.trans h'
      simp only [Bool.and_eq_true, decide_eq_true_eq] at h'
      exact h ⟨h'.1, h'.2.1, h'.2.2.1, h'.2.2.2.1⟩
theorem hexM_no {s : Str} {a : Nat} (h : a + 6 ≤ s.length → (s.drop a).take 2 ≠ [92, 117]) : hexM s a = -1 := by
  unfold hexM
  rw [if_neg]
  rintro ⟨h1, h2, h3, _⟩
  refine h h1 ?_
  have ha : a < s.length := by omega
  have hb : a + 1 < s.length := by omega
  rw [drop_here ha, drop_here hb]
  simp only [List.take_succ_cons, List.take_zero]
  rw [Go.Eng.byte_at (drop_here ha)] at h2
  rw [Go.Eng.byte_at (drop_here hb)] at h3
  congr 1
  · exact UInt8.toNat_inj.1 (by show s[a].toNat = 92; omega)
  · congr 1
    exact UInt8.toNat_inj.1 (by show s[a + 1].toNat = 117; omega)
theorem bad_hex {c : UInt8} (h : badB c = true) : isHex c = false := by
  unfold badB at h
  simp only [Bool.or_eq_true, decide_eq_true_eq] at h
  rcases h with (rfl | rfl) | rfl <;> decide
theorem eq_nil_err (K : Value → Prop) (w : World) : eqQ Tryz.prog .neq 103 false true .nilIface .nilIface w K ↔ K (.bool false) := by
  have h : (do eqGuard .neq 103 (stand false) (stand true) .nilIface .nilIface; binOp .neq 103 .nilIface .nilIface : Sem Value).run Tryz.prog w = .ok (.bool false) w := by kernel_rfl
  unfold eqQ semQ
  rw [h]
  exact ⟨fun ⟨v, h1, h2⟩ => by cases h1; exact h2, fun h2 => ⟨_, rfl, h2⟩⟩
theorem ne_nil_err (T : TypeId) (v : Value) (w : World) (K : Value → Prop) : eqQ Tryz.prog .neq 103 false true (.iface T v) .nilIface w K ↔ K (.bool true) := by
  have h : (do eqGuard .neq 103 (stand false) (stand true) (.iface T v) .nilIface; binOp .neq 103 (.iface T v) .nilIface : Sem Value).run Tryz.prog w = .ok (.bool true) w := by kernel_rfl
  unfold eqQ semQ
  rw [h]
  exact ⟨fun ⟨v, h1, h2⟩ => by cases h1; exact h2, fun h2 => ⟨_, rfl, h2⟩⟩
theorem eq_syn (w : World) (K : Value → Prop) : eqQ Tryz.prog .eql 103 false false eSyn eSyn w K ↔ K (.bool true) := by
  have h : (do eqGuard .eql 103 (stand false) (stand false) eSyn eSyn; binOp .eql 103 eSyn eSyn : Sem Value).run Tryz.prog w = .ok (.bool true) w := by kernel_rfl
  unfold eqQ semQ
  rw [h]
  exact ⟨fun ⟨v, h1, h2⟩ => by cases h1; exact h2, fun h2 => ⟨_, rfl, h2⟩⟩
def TabE (w : World) : Prop := ∃ T v, w.cell? ⟨2, 0, none⟩ = some (.iface T v)
theorem TabE.ext {w w' : World} (h : TabE w) (hx : Ext w w') : TabE w' := by
  obtain ⟨T, v, h⟩ := h
  exact ⟨T, v, cell_ext hx h⟩
section
variable [HX]
theorem sclone_p' {s : Str} {w : World} {K : Value → World → Prop} (hl : s.length ≤ 1000000) (hK : ∀ w', Ext w w' → K (str s) w') : callF Tryz.prog 219 [str s] w K := by
  refine of_calls (args := #[str s]) Tryz.call219 ((Tryz.stringslite_Clone (ofL s) w (by rw [ofL_size]; omega)).mono ?_)
  rintro e w' ⟨rfl, hb⟩
  exact ⟨_, rfl, hK w' (Chg.of_below hb)⟩
theorem parse16_p {l : Str} {w : World} {K : Value → World → Prop} (hE : TabE w) (hl : l.length = 4) (hok : l.all isHex = true → ∀ w', Ext w w' → K (.tuple #[.int .u64 (hexN l : Nat), .nilIface]) w') (hno : l.all isHex = false → ∀ T v w', Ext w w' → K (.tuple #[.int .u64 0, .iface T v]) w') :
    callF Tryz.prog 242 [str l, i64 16, i64 32] w K := by
  refine W242_ok ?_
  unfold W242
  refine uint16_p hl (fun h w1 hx1 => ?_) (fun h w1 hx1 => ?_)
  · simp only [ext_tuple]
    refine ⟨_, rfl, _, rfl, ?_⟩
    rw [eq_nil_err, condW_false]
    exact hok h w1 hx1
  · simp only [ext_tuple]
    refine ⟨_, rfl, _, rfl, ?_⟩
    rw [ne_nil_err, condW_true]
    refine W121_ok ?_
    unfold W121
    rw [eq_syn, condW_true]
    refine W176_ok ?_
    unfold W176
    have hxd : Ext w1 w1.drew := Chg.drew (Chg.refl (fun _ => False) w1)
    obtain ⟨T, v, hc⟩ := hE.ext (hx1.trans hxd)
    rw [ld_one]
    refine ⟨_, hc, ?_⟩
    refine sclone_p' (by omega) fun w2 hx2 => ?_
    rw [ld_one]
    refine ⟨⟨_, cell_ext hx2 hc, rfl⟩, ?_⟩
    rw [put_one _ _ _ _ _ rfl]
    refine ⟨by simp, ?_⟩
    rw [put_one _ _ _ _ _ rfl]
    refine ⟨by simp, ?_⟩
    rw [put_one _ _ _ _ _ rfl]
    refine ⟨by simp, ?_⟩
    rw [put_nil]
    refine box_new fun a w3 ha hz hb hx3 => ?_
    exact hno h _ _ w3 (hx1.trans (hxd.trans (hx2.trans hx3)))
theorem hex_p {w : World} {p i c a : Nat} {s : Str} {K : Value → World → Prop} (h : Rdr w p s i c) (hE : TabE w) (ha : a ≤ 2000000) (hs : s.length ≤ 1000000) (hK : ∀ w', Ext w w' → K (.int .i32 (hexM s a)) w') :
    callF Tryz.prog 217 [.pointer (some ⟨p, 0, none⟩), i64 (a : Nat)] w K := by
  refine W217_ok ?_
  unfold W217
  have e6 : IntKind.i64.wrap ((a : Int) + 6) = ((a + 6 : Nat) : Int) := upk (k := 6) (by omega)
  have e2 : IntKind.i64.wrap ((a : Int) + 2) = ((a + 2 : Nat) : Int) := upk (k := 2) (by omega)
  rw [bin_add, e6]
  refine h.ld rfl ?_
  rw [lens_str, bin_gtr]
  refine GdW.act (decide ((s.drop a).take 2 ≠ [92, 117])) (fun w' => w' = w) (fun _ => rfl) ?_ ?_
  · intro hc J hJ
    have hle : a + 6 ≤ s.length := by
      rw [isB_f, Bool.not_eq_true', decide_eq_false_iff_not] at hc
      omega
    refine h.ld rfl ?_
    rw [bin_add, e2, sls_str, bd_some]
    refine ⟨by omega, by omega, ?_⟩
    rw [bd_some]
    refine ⟨by omega, by omega, ?_⟩
    simp only [Int.toNat_natCast]
    rw [show (s.take (a + 2)).drop a = (s.drop a).take 2 by rw [List.drop_take]; congr 1; omega, bin_sne]
    exact hJ _ rfl
  rintro g w1 rfl
  simp only [List.getD_cons_zero, isB_f]
  rw [pick_gd_or]
  generalize hq : (decide ((s.length : Int) < ((a + 6 : Nat) : Int)) || decide ((s.drop a).take 2 ≠ [92, 117])) = q
  refine ⟨fun st w' => Ext w1 w' ∧ ((q = true ∧ st = [undef]) ∨ (q = false ∧ ∃ r : Bool, st = [.bool r] ∧ (r = true → ∃ c ∈ (s.drop (a + 2)).take 4, badB c = true))), ?_, ?_, ?_⟩
  · intro hc
    have hq0 : q = false := by simpa [isB_f] using hc
    rw [hq0, Bool.or_eq_false_iff, decide_eq_false_iff_not] at hq
    refine h.ld rfl ?_
    rw [bin_add, e2, bin_add, e6, sls_str, bd_some]
    refine ⟨by omega, by omega, ?_⟩
    rw [bd_some]
    refine ⟨by omega, by omega, ?_⟩
    simp only [Int.toNat_natCast]
    rw [show (s.take (a + 6)).drop (a + 2) = (s.drop (a + 2)).take 4 by rw [List.drop_take]; congr 1; omega]
    refine contains_any (by rw [List.length_take]; omega) fun r w2 hr hx2 => ?_
    exact ⟨hx2, .inr ⟨hq0, r, rfl, hr⟩⟩
  · intro hc
    have hq1 : q = true := by simpa [isB_f] using hc
    exact ⟨Chg.refl _ _, .inl ⟨hq1, rfl⟩⟩
  rintro st g2 w2 ⟨hx2, hst⟩
  rcases hst with ⟨rfl, rfl⟩ | ⟨rfl, r, rfl, hr⟩
  · rw [pick_t, condW_true]
    rw [hexM_no] at hK
    · exact hK w2 hx2
    intro hle he
    rw [decide_eq_false (by omega), decide_eq_false (by simpa using he)] at hq
    cases hq
  · rw [Bool.or_eq_false_iff, decide_eq_false_iff_not, decide_eq_false_iff_not] at hq
    have hu : (s.drop a).take 2 = [92, 117] := by simpa using hq.2
    have hle : a + 6 ≤ s.length := by omega
    rw [hexM_four hle hu] at hK
    simp only [List.getD_cons_zero]
    rw [pick_f, condW_b]
    refine ⟨fun hr1 => ?_, fun _ => ?_⟩
    · obtain ⟨c, hc, hb⟩ := hr hr1
      rw [if_neg] at hK
      · exact hK w2 hx2
      intro hall
      have := List.all_eq_true.1 hall c hc
      rw [bad_hex hb] at this
      cases this
    · refine (h.ext hx2).ld rfl ?_
      rw [bin_add, e2, bin_add, e6, sls_str, bd_some]
      refine ⟨by omega, by omega, ?_⟩
      rw [bd_some]
      refine ⟨by omega, by omega, ?_⟩
      simp only [Int.toNat_natCast]
      rw [show (s.take (a + 6)).drop (a + 2) = (s.drop (a + 2)).take 4 by rw [List.drop_take]; congr 1; omega]
      have h4 : ((s.drop (a + 2)).take 4).length = 4 := by rw [List.length_take, List.length_drop]; omega
      generalize (s.drop (a + 2)).take 4 = l4 at *
      refine parse16_p (hE.ext hx2) h4 (fun hall w3 hx3 => ?_) (fun hall T v w3 hx3 => ?_)
      · simp only [ext_tuple]
        refine ⟨_, rfl, _, rfl, ?_⟩
        rw [eq_nil_err, condW_false, cvt_int]
        rw [if_pos hall] at hK
        have hN := hexN_lt l4
        rw [h4] at hN
        have e : IntKind.i32.wrap (hexN l4 : Int) = (hexN l4 : Int) := by
          rw [IntKind.wrap_i32]
          omega
        rw [e]
        exact hK w3 (hx2.trans hx3)
      · simp only [ext_tuple]
        refine ⟨_, rfl, _, rfl, ?_⟩
        rw [ne_nil_err, condW_true]
        rw [if_neg (by rw [hall]; simp)] at hK
        exact hK w3 (hx2.trans hx3)
end
end Go.Proofs.YtnoepcndjljolaaGreatDoor
namespace Go.Proofs.YtnoepcndjljolaaGreatDoor
open Go Go.Eng Go.RowKit
set_option maxRecDepth 100000
theorem pk_eq {s : Str} {i k : Nat} (hk : 0 < k) : pkM s i = (k : Int) ↔ byteM s i = (k : Int) := by
  unfold pkM
  by_cases h : i < s.length
  · rw [if_pos h, byteM_in h]
  · rw [if_neg h, byteM_out (by omega)]; omega
theorem bt_drop (s : Str) (i j : Nat) : bt (s.drop i) j = bt s (i + j) := by
  unfold bt
  rw [List.getD_eq_getElem?_getD, List.getD_eq_getElem?_getD, List.getElem?_drop]
theorem dec_drop (s : Str) (i : Nat) : Utf8.decode (ofL (s.drop i)) 0 = Utf8.decode (ofL s) i := by
  rw [dec_ofL, dec_ofL]
  simp only [bt_drop, List.length_drop, Nat.sub_zero, Nat.add_zero, Nat.zero_add]
theorem i32_id {n : Int} (h1 : -2147483648 ≤ n) (h2 : n ≤ 2147483647) : IntKind.i32.wrap n = n := by
  rw [IntKind.wrap_i32]; omega
theorem bt_i32 (n : Nat) (h : n < 256) : IntKind.i32.wrap (n : Int) = (n : Int) := i32_id (by omega) (by omega)
theorem cell_chg {w w' : World} {p b o : Nat} {v : Value} (hc : Chg (Cr p) w w') (hb : b ≠ p) (h : w.cell? ⟨b, o, none⟩ = some v) : w'.cell? ⟨b, o, none⟩ = some v := by
  rw [cell_eq] at h ⊢
  cases hx : w.heap[b]? with
  | none => rw [hx] at h; cases h
  | some x => rw [hx] at h; rw [hc.at hx hb]; exact h
theorem Rdr.ne {w : World} {p i c b : Nat} {s : Str} {v : Value} (h : Rdr w p s i c) (hv : w.cell? ⟨b, 0, none⟩ = some v) (hs : ∀ t, v ≠ str t) : b ≠ p := fun e => by
  subst e
  rw [cell_eq, h, cellO_some] at hv
  simp at hv
  exact hs s hv.symm
theorem TabU.rd {w w' : World} {p i c : Nat} {s : Str} (hT : TabU w) (h : Rdr w p s i c) (hc : Chg (Cr p) w w') : TabU w' :=
  ⟨fun k hk => cell_chg hc (h.ne (hT.1 0 (by omega)) fun t e => (by cases e)) (hT.1 k hk), fun k hk => ⟨cell_chg hc (h.ne (hT.2 0 (by omega)).1 fun t e => (by cases e)) (hT.2 k hk).1, cell_chg hc (h.ne (hT.2 0 (by omega)).1 fun t e => (by cases e)) (hT.2 k hk).2⟩⟩
theorem TabE.rd {w w' : World} {p i c : Nat} {s : Str} (hE : TabE w) (h : Rdr w p s i c) (hc : Chg (Cr p) w w') : TabE w' := by
  obtain ⟨T, v, hv⟩ := hE
  exact ⟨T, v, cell_chg hc (h.ne hv fun t e => (by cases e)) hv⟩
section
variable [HX]
theorem decode_rune {s : Str} {i : Nat} {w : World} {K : Value → World → Prop} (hT : TabU w) (hi : i < s.length) (hK : ∀ w', Ext w w' → K (.tuple #[.int .i32 ((Utf8.decode (ofL s) i).1 : Nat), i64 ((Utf8.decode (ofL s) i).2 : Nat)]) w') :
    callF Tryz.prog 171 [str (s.drop i)] w K := by
  refine of_calls (args := #[str (s.drop i)]) Tryz.call171 ((Tryz.utf8_DecodeRuneInString (ofL (s.drop i)) w hT).mono ?_)
  rintro e w' ⟨rfl, hb⟩
  refine ⟨_, rfl, ?_⟩
  unfold Lib.decodeGo
  rw [if_neg (by rw [ofL_size, List.length_drop]; omega), dec_drop]
  exact hK w' (Chg.of_below hb)
theorem escaped_p {w : World} {p i c : Nat} {s : Str} {K : Value → World → Prop} (h : Rdr w p s i c) (hE : TabE w) (hi : i < s.length) (hs : s.length ≤ 1000000)
    (hok : ∀ t k, escM s i = some (t, k) → ∀ (n : Nat) (w' : World), (n < 55296 ∨ 57343 < n ∧ n ≤ 1114111) → wrM n = t → Rdr w' p s (i + k) c → Chg (Cr p) w w' → K (.int .i32 (n : Nat)) w') (hbad : escM s i = none → Thr w p 30 i) :
    callF Tryz.prog 172 [.pointer (some ⟨p, 0, none⟩)] w K := by
  refine W172_ok ?_
  unfold W172
  rw [escM_def] at hok hbad
  refine h.ld rfl ?_
  refine JoinW.cut (fun st w' => st = [.int .u8 (pkM s (i + 1))] ∧ w' = w) ?_ ?_
  · rw [bin_add, up1 (by omega)]
    refine h.ld rfl ?_
    rw [lens_str, bin_lss, condW_dec]
    unfold pkM
    refine ⟨fun hlt => ?_, fun hge => ?_⟩
    · have hlt : i + 1 < s.length := by omega
      rw [if_pos hlt]
      refine h.ld rfl ?_
      obtain ⟨e1, e2⟩ := get_bt' hlt
      rw [bin_add, up1 (by omega), ixs_str]
      refine ⟨by omega, s[i + 1], by simpa using e1, ?_⟩
      rw [e2]
      exact ⟨rfl, rfl⟩
    · rw [if_neg (by omega)]
      exact ⟨rfl, rfl⟩
  rintro st g w1 ⟨rfl, rfl⟩
  refine h.go (k := 2) (by omega) fun w2 h2 hc2 hz2 => ?_
  simp only [List.getD_cons_zero]
  have pk := fun (k : Nat) (hk : 0 < k) => pk_eq (s := s) (i := i + 1) (k := k) hk
  have p34 : pkM s (i + 1) = 34 ↔ byteM s (i + 1) = 34 := pk 34 (by omega)
  have p92 : pkM s (i + 1) = 92 ↔ byteM s (i + 1) = 92 := pk 92 (by omega)
  have p47 : pkM s (i + 1) = 47 ↔ byteM s (i + 1) = 47 := pk 47 (by omega)
  have p98 : pkM s (i + 1) = 98 ↔ byteM s (i + 1) = 98 := pk 98 (by omega)
  have p102 : pkM s (i + 1) = 102 ↔ byteM s (i + 1) = 102 := pk 102 (by omega)
  have p110 : pkM s (i + 1) = 110 ↔ byteM s (i + 1) = 110 := pk 110 (by omega)
  have p114 : pkM s (i + 1) = 114 ↔ byteM s (i + 1) = 114 := pk 114 (by omega)
  have p116 : pkM s (i + 1) = 116 ↔ byteM s (i + 1) = 116 := pk 116 (by omega)
  have hpk0 : 0 ≤ pkM s (i + 1) ∧ pkM s (i + 1) < 256 := by
    unfold pkM
    split
    · have := bt_lt s (i + 1); omega
    · omega
  generalize pkM s (i + 1) = q at *
  have two : ∀ (n : Nat) (t : Str), n < 128 → wrM n = t → some (t, 2) = (some (t, 2) : Option (Str × Nat)) := fun _ _ _ _ => rfl
  refine JoinW.cut (fun st w' => st = [.bool (decide (q = 34) || decide (q = 92) || decide (q = 47))] ∧ w' = w2) ?_ ?_
  · rw [bin_eql, condW_dec]
    refine ⟨fun e => ⟨by rw [decide_eq_true e]; rfl, rfl⟩, fun e => ?_⟩
    rw [bin_eql, condW_dec]
    refine ⟨fun e2 => ⟨by rw [decide_eq_true e2, decide_eq_false e]; rfl, rfl⟩, fun e2 => ?_⟩
    rw [bin_eql]
    exact ⟨by rw [decide_eq_false e2, decide_eq_false e]; rfl, rfl⟩
  rintro st g w3 ⟨rfl, rfl⟩
  simp only [List.getD_cons_zero]
  rw [condW_b]
  refine ⟨fun e => ?_, fun e => ?_⟩
  · rw [Bool.or_eq_true, Bool.or_eq_true, decide_eq_true_iff, decide_eq_true_iff, decide_eq_true_iff] at e
    rw [cvt_int]
    obtain ⟨n, rfl⟩ := Int.eq_ofNat_of_zero_le hpk0.1
    have hn : n < 256 := by omega
    rw [show ((n : Nat) : Int) = (n : Int) from rfl, bt_i32 n hn]
    have key : ∀ (t : Str), wrM n = t → (if byteM s (i + 1) = 34 then some (([34] : Str), 2) else if byteM s (i + 1) = 92 then some ([92], 2) else if byteM s (i + 1) = 47 then some ([47], 2) else none) = some (t, 2) → K (.int .i32 (n : Nat)) w3 := fun t ht he => by
      refine hok t 2 ?_ n w3 (by omega) ht h2 hc2
      split at he
      · rename_i h1; rw [if_pos h1]; exact he
      · rename_i h1; rw [if_neg h1]
        split at he
        · rename_i h1; rw [if_pos h1]; exact he
        · rename_i h1; rw [if_neg h1]
          split at he
          · rename_i h1; rw [if_pos h1]; exact he
          · cases he
    rcases e with (e | e) | e
    · obtain rfl : n = 34 := by omega
      refine key [34] (by decide) ?_
      rw [if_pos (p34.1 rfl)]
    · obtain rfl : n = 92 := by omega
      have b := p92.1 rfl
      refine key [92] (by decide) ?_
      rw [b]; rfl
    · obtain rfl : n = 47 := by omega
      have b := p47.1 rfl
      refine key [47] (by decide) ?_
      rw [b]; rfl
  rw [Bool.or_eq_false_iff, Bool.or_eq_false_iff, decide_eq_false_iff_not, decide_eq_false_iff_not, decide_eq_false_iff_not] at e
  obtain ⟨⟨n34, n92⟩, n47⟩ := e
  rw [if_neg (fun e => n34 (p34.2 e)), if_neg (fun e => n92 (p92.2 e)), if_neg (fun e => n47 (p47.2 e))] at hok hbad
  have step : ∀ {k m : Nat} {t : Str} {R : Option (Str × Nat)} {B : Prop}, m < 128 → wrM m = t → (q = (k : Int) ↔ byteM s (i + 1) = (k : Int)) →
      (∀ t' k', (if byteM s (i + 1) = (k : Int) then some (t, 2) else R) = some (t', k') → ∀ (n : Nat) (w' : World), (n < 55296 ∨ 57343 < n ∧ n ≤ 1114111) → wrM n = t' → Rdr w' p s (i + k') c → Chg (Cr p) w1 w' → K (.int .i32 (n : Nat)) w') →
      ((if byteM s (i + 1) = (k : Int) then some (t, 2) else R) = none → Thr w1 p 30 i) →
      ((∀ t' k', R = some (t', k') → ∀ (n : Nat) (w' : World), (n < 55296 ∨ 57343 < n ∧ n ≤ 1114111) → wrM n = t' → Rdr w' p s (i + k') c → Chg (Cr p) w1 w' → K (.int .i32 (n : Nat)) w') → (R = none → Thr w1 p 30 i) → B) →
      binW .eql (.int .u8 q) (.int .u8 (k : Int)) fun t41 => condW t41 (K (.int .i32 (m : Nat)) w3) B := fun {k m t R B} hm hw hq hok hbad hB => by
    rw [bin_eql, condW_dec]
    refine ⟨fun e => ?_, fun e => ?_⟩
    · exact hok t 2 (by rw [if_pos (hq.1 e)]) m w3 (by omega) hw h2 hc2
    · rw [if_neg (fun h => e (hq.2 h))] at hok hbad
      exact hB hok hbad
  refine step (k := 98) (m := 8) (by decide) (by decide) p98 hok hbad fun hok hbad => ?_
  refine step (k := 102) (m := 12) (by decide) (by decide) p102 hok hbad fun hok hbad => ?_
  refine step (k := 110) (m := 10) (by decide) (by decide) p110 hok hbad fun hok hbad => ?_
  refine step (k := 114) (m := 13) (by decide) (by decide) p114 hok hbad fun hok hbad => ?_
  refine step (k := 116) (m := 9) (by decide) (by decide) p116 hok hbad fun hok hbad => ?_
  clear step two
  have hr1 := hexM_range s i
  have hr2 := hexM_range s (i + 6)
  refine hex_p h2 (hE.rd h hc2) (by omega) hs fun w4 hx4 => ?_
  have h4 := h2.ext hx4
  have hc4 := hc2.then hx4 fun _ _ e => e.elim
  have e6 : IntKind.i64.wrap ((i : Int) + 6) = ((i + 6 : Nat) : Int) := upk (k := 6) (by omega)
  rw [bin_add, e6]
  refine h4.st1 fun w5 h5 hc5 hz5 => ?_
  have hc5 := hc4.trans hc5
  rw [bin_geq]
  simp only [isB_t, bin_lss, GdW_pure]
  intro _
  simp only [List.getD_cons_zero]
  rw [pick_gd_and, condW_b]
  refine ⟨fun e => ?_, fun e => ?_⟩
  · rw [Bool.and_eq_true, decide_eq_true_iff, decide_eq_true_iff] at e
    rw [if_neg (by omega), if_pos (by omega)] at hok hbad
    refine h5.ld rfl ?_
    refine hex_p h5 (hE.rd h hc5) (by omega) hs fun w6 hx6 => ?_
    have h6 := h5.ext hx6
    have hc6 := hc5.then hx6 fun _ _ e => e.elim
    refine JoinW.cut (fun st w' => w' = w6 ∧ ¬ (hexM s (i + 6) < 56320 ∨ 57343 < hexM s (i + 6))) ?_ ?_
    · rw [bin_lss]
      simp only [isB_f, bin_gtr, GdW_pure]
      intro _
      simp only [List.getD_cons_zero]
      rw [pick_gd_or, condW_b]
      refine ⟨fun e2 => ?_, fun e2 => ?_⟩
      · rw [Bool.or_eq_true, decide_eq_true_iff, decide_eq_true_iff] at e2
        rw [if_pos e2] at hbad
        exact fail_p ((hbad rfl).from hc6)
      · rw [Bool.or_eq_false_iff, decide_eq_false_iff_not, decide_eq_false_iff_not] at e2
        exact ⟨trivial, by omega⟩
    rintro st g2 w7 ⟨rfl, hb2⟩
    rw [if_neg hb2] at hok
    have hb2 : 56320 ≤ hexM s (i + 6) ∧ hexM s (i + 6) ≤ 57343 := by omega
    refine h6.go (k := 6) (by omega) fun w8 h8 hc8 hz8 => ?_
    have hc8 := hc6.trans hc8
    generalize hexM s i = x at *
    generalize hexM s (i + 6) = y at *
    have e10 : (2 : Int) ^ min (10 : Int).toNat IntKind.i32.bits = 1024 := by decide
    rw [bin_sub, i32_id (by omega) (by omega)]
    refine ⟨by decide, ?_⟩
    rw [e10, i32_id (by omega) (by omega)]
    dsimp only
    rw [bin_add, i32_id (by omega) (by omega), bin_sub, i32_id (by omega) (by omega), bin_add, i32_id (by omega) (by omega)]
    have en : (65536 + (x - 55296) * 1024 + (y - 56320)) = (((65536 + (x - 55296) * 1024 + y - 56320).toNat : Nat) : Int) := by omega
    rw [en]
    refine hok _ _ rfl _ w8 (by omega) rfl ?_ hc8
    exact h8
  · have e : ¬ (55296 ≤ hexM s i ∧ hexM s i < 56320) := by
      rintro ⟨e1, e2⟩
      rw [decide_eq_true e1, decide_eq_true e2] at e
      cases e
    simp only [isB_f, isB_t, isB_gd_t, bin_geq, bin_lss, GdW_pure, GdW_nest_and, List.getD_cons_zero, pick_gd_or]
    intros
    rw [condW_b]
    refine ⟨fun e2 => ?_, fun e2 => ?_⟩
    · rw [Bool.or_eq_true, Bool.and_eq_true, decide_eq_true_iff, decide_eq_true_iff, decide_eq_true_iff] at e2
      rw [if_pos (by omega)] at hbad
      exact fail_p ((hbad rfl).from hc5)
    · have e2 : ¬ (hexM s i < 0 ∨ 56320 ≤ hexM s i ∧ hexM s i < 57344) := by
        intro h
        rw [Bool.or_eq_false_iff, Bool.and_eq_false_iff, decide_eq_false_iff_not, decide_eq_false_iff_not, decide_eq_false_iff_not] at e2
        omega
      rw [if_neg (by omega), if_neg (by omega)] at hok
      have en : hexM s i = (((hexM s i).toNat : Nat) : Int) := by omega
      rw [en]
      exact hok _ _ rfl _ _ (by omega) rfl h5 hc5
theorem quoted_p {w : World} {p i c : Nat} {s : Str} {K : Value → World → Prop} (h : Rdr w p s i c) (hT : TabU w) (hE : TabE w) (hi : i < s.length) (hs : s.length ≤ 1000000)
    (hok : ∀ t j c', quotM En s i c = .ok t j c' → ∀ w', Rdr w' p s j c' → Chg (Cr p) w w' → K (str t) w') (hbad : ∀ e j, quotM En s i c = .bad e j → Thr w p e j) :
    callF Tryz.prog 117 [.pointer (some ⟨p, 0, none⟩)] w K := by
  refine W117_ok ?_
  unfold W117
  have hplt := h.lt
  refine h.ld rfl ?_
  refine h.go (k := 1) (by omega) fun w1 h1 hc1 hz1 => ?_
  refine bnew (B := w1.heap.size) (Nat.le_refl _) fun b w2 hb hB2 hx2 => ?_
  have h2 := h1.ext hx2
  have hc2 := hc1.then hx2 fun _ _ e => e.elim
  have hbB := hB2.base
  generalize hBB : w1.heap.size = B at *
  have hpB : p < B := by omega
  -- what a builder's write leaves
  have keepR : ∀ {w' w'' : World} {j : Nat}, Chg (BCh w' B b) w' w'' → Rdr w' p s j c → Rdr w'' p s j c := fun hc h => BCh.keep hc h (by omega) (by decide)
  have keepC : ∀ {w' w'' : World}, Chg (BCh w' B b) w' w'' → Chg (Cr p) w w' → Chg (Cr p) w w'' := fun hc h => h.then hc fun k hk e => by
    rcases e with rfl | ⟨e, _⟩
    · omega
    · omega
  have keepB : ∀ {w' w'' : World} {l : Str}, Chg (Cr p) w' w'' → Bld w' B b l → Bld w'' B b l := fun hc h => h.chg hc (fun e => by have e : b = p := e; omega) fun k hk e => by
    have e : k = p := e
    have := hk.1
    omega
  refine LoopW.go (fun st w' => st = [] ∧ ∃ j out n, Rdr w' p s j c ∧ Bld w' B b out ∧ Chg (Cr p) w w' ∧ B ≤ w'.heap.size ∧ j ≤ s.length ∧ out.length ≤ 4 * j ∧ s.length + 1 ≤ n + j ∧ quotGo En s i n j out c = quotM En s i c) (fun _ w' => s.length - rdAt w' p)
    ⟨rfl, i + 1, [], s.length + 1, h2, hB2, hc2, by have := hx2.size; omega, by omega, by simp, by omega, rfl⟩ ?_
  rintro st g w3 ⟨rfl, j, out, n, h3, hB3, hc3, hz3, hj, hout, hn, hq⟩
  obtain ⟨n, rfl⟩ : ∃ m, n = m + 1 := ⟨n - 1, by omega⟩
  rw [quotGo] at hq
  have hxd : ∀ w : World, Ext w w.drew := fun w => Chg.drew (Chg.refl (fun _ => False) w)
  refine JoinW.cut (fun st w' => st = [] ∧ w' = w3.drew ∧ j < s.length) ?_ ?_
  · refine h3.drew.ld rfl ?_
    refine h3.drew.ld rfl ?_
    rw [lens_str, bin_geq, condW_dec]
    refine ⟨fun e => ?_, fun e => ⟨rfl, rfl, by omega⟩⟩
    obtain rfl : j = s.length := by omega
    rw [byteM_out (Nat.le_refl _), if_neg (by decide), if_pos (by decide)] at hq
    refine h3.drew.ld rfl ?_
    rw [lens_str]
    exact fail_p ((hbad _ _ hq.symm).from (hc3.then (hxd _) fun _ _ e => e.elim))
  rintro st g2 w4 ⟨rfl, rfl, hlt⟩
  refine h3.drew.drew.ld rfl ?_
  refine h3.drew.drew.ld rfl ?_
  rw [sls_str, bd_none, bd_some]
  refine ⟨by omega, by omega, ?_⟩
  simp only [Int.toNat_natCast, List.take_length]
  have hcd := (hc3.then (hxd _) fun _ _ e => e.elim).then (hxd w3.drew) fun _ _ e => e.elim
  refine decode_rune (hT.rd h hcd) hlt fun w5 hx5 => ?_
  have h5 := h3.drew.drew.ext hx5
  have hB5 : Bld w5 B b out := ((hB3.ext (hxd _)).ext (hxd _)).ext hx5
  have hc5 := hcd.then hx5 fun _ _ e => e.elim
  have hz5 : B ≤ w5.heap.size := by
    have := hx5.size
    have e : w3.drew.drew.heap.size = w3.heap.size := rfl
    omega
  have hbj := byteM_in hlt
  have hb256 := bt_lt s j
  simp only [ext_tuple]
  refine ⟨_, rfl, _, rfl, ?_⟩
  -- what begins at the place
  have hrune : (runeM s j = 0 ∧ 128 ≤ bt s j ∧ Utf8.decode (ofL s) j = (65533, 1)) ∨ (∃ r, RuneAt s j (runeM s j) r ∧ 1 ≤ runeM s j ∧ Utf8.decode (ofL s) j = (r, runeM s j)) := by
    by_cases h0 : runeM s j = 0
    · refine .inl ⟨h0, ?_, rune_bad hlt h0⟩
      apply Nat.le_of_not_lt
      intro hl
      have : runeM s j = 1 := by
        unfold runeM
        rw [hbj]
        simp only
        rw [if_neg (by omega), if_pos (by omega)]
      omega
    · obtain ⟨r, hr⟩ := rune_good hlt h0
      exact .inr ⟨r, hr, by omega, hr.dec⟩
  generalize Utf8.decode (ofL s) j = dd at *
  obtain ⟨cr, sz⟩ := dd
  simp only at hrune ⊢
  -- a low byte is its own rune
  have low : ∀ k : Nat, k < 128 → ((cr : Int) = (k : Int) ↔ byteM s j = (k : Int)) := fun k hk => by
    rw [hbj]
    rcases hrune with ⟨_, hb, he⟩ | ⟨r, hr, hp, he⟩
    · cases he
      omega
    · cases he
      rcases Nat.lt_or_ge (runeM s j) 2 with h1 | h1
      · have := hr.low (by omega)
        omega
      · have := hr.high h1
        omega
  have low32 : ((cr : Int) < 32 ↔ byteM s j < 32) := by
    rw [hbj]
    rcases hrune with ⟨_, hb, he⟩ | ⟨r, hr, hp, he⟩
    · cases he
      omega
    · cases he
      rcases Nat.lt_or_ge (runeM s j) 2 with h1 | h1
      · have := hr.low (by omega)
        omega
      · have := hr.high h1
        omega
  have l34 : (cr : Int) = 34 ↔ byteM s j = 34 := low 34 (by omega)
  have l92 : (cr : Int) = 92 ↔ byteM s j = 92 := low 92 (by omega)
  refine JoinW.cut (fun st w' => st = [] ∧ w' = w5 ∧ byteM s j ≠ 34 ∧ byteM s j ≠ 92 ∧ ¬ byteM s j < 32 ∧ runeM s j ≠ 0) ?_ ?_
  · rw [bin_eql, condW_dec]
    refine ⟨fun e => ?_, fun n34 => ?_⟩
    · rw [if_pos (l34.1 e)] at hq
      refine h5.go (k := 1) (by omega) fun w6 h6 hc6 hz6 => ?_
      have hB6 := keepB hc6 hB5
      have hc6' := hc5.trans hc6
      refine JoinW.cut (fun st w' => st = [] ∧ w' = w6 ∧ ¬ 16384 < out.length) ?_ ?_
      · refine len_p hB6 ?_
        rw [bin_gtr, condW_dec]
        refine ⟨fun e2 => ?_, fun e2 => ⟨rfl, rfl, by omega⟩⟩
        rw [if_pos (by omega)] at hq
        exact fail_p ((hbad _ _ hq.symm).from hc6')
      rintro st g3 w7 ⟨rfl, rfl, hshort⟩
      rw [if_neg hshort] at hq
      refine string_p hB6 (by omega) fun w8 hc8 => ?_
      refine hok _ _ _ hq.symm w8 (hc8.at h6 (by omega)) (hc6'.then hc8 fun k hk e => by omega)
    rw [if_neg (fun e => n34 (l34.2 e)), if_neg (by omega)] at hq
    rw [bin_eql, condW_dec]
    refine ⟨fun e => ?_, fun n92 => ?_⟩
    · rw [if_pos (l92.1 e)] at hq
      refine escaped_p h5 (hE.rd h hc5) hlt hs (fun t k he r w6 hr ht h6 hc6 => ?_) (fun he => ?_)
      · rw [he] at hq
        simp only at hq
        have hB6 := keepB hc6 hB5
        have hc6' := hc5.trans hc6
        have hfit := escM_fits he
        have hk := (escM_rune he).2.2
        have hrn := rn_len (escM_rune he).1
        refine wrune_p hB6 (by have := hc6.size; omega) (by omega) hr fun _ w7 hB7 hc7 => ?_
        rw [ht] at hB7
        have h7 := keepR hc7 h6
        refine ⟨⟨(by first | rfl | trivial), j + k, out ++ t, n, h7, hB7, keepC hc7 hc6', by have := hc7.size; have := hc6.size; omega, hfit, by rw [List.length_append]; omega, by omega, hq⟩, ?_⟩
        rw [h7.at_, h3.at_]; omega
      · rw [he] at hq
        exact (hbad _ _ hq.symm).from hc5
    rw [if_neg (fun e => n92 (l92.2 e))] at hq
    rw [bin_lss, condW_dec]
    refine ⟨fun e => ?_, fun n32 => ?_⟩
    · rw [if_pos (low32.1 e)] at hq
      refine h5.ld rfl ?_
      exact fail_p ((hbad _ _ hq.symm).from hc5)
    rw [if_neg (fun e => n32 (low32.2 e))] at hq
    rw [bin_eql]
    simp only [isB_t, bin_lss, GdW_pure]
    intro _
    simp only [List.getD_cons_zero]
    rw [pick_gd_and, condW_b]
    refine ⟨fun e => ?_, fun e => ?_⟩
    · rw [Bool.and_eq_true, decide_eq_true_iff, decide_eq_true_iff] at e
      have h0 : runeM s j = 0 := by
        rcases hrune with ⟨h0, _⟩ | ⟨r, hr, hp, he⟩
        · exact h0
        · exfalso
          cases he
          have := hr.low (by omega)
          omega
      rw [if_pos h0] at hq
      refine h5.ld rfl ?_
      exact fail_p ((hbad _ _ hq.symm).from hc5)
    · refine ⟨(by first | rfl | trivial), (by first | rfl | trivial), fun e => n34 (l34.2 e), fun e => n92 (l92.2 e), fun e => n32 (low32.2 e), fun h0 => ?_⟩
      rcases hrune with ⟨_, _, he⟩ | ⟨r, hr, hp, he⟩
      · cases he
        exact absurd e (by decide)
      · omega
  rintro st g3 w6 ⟨rfl, rfl, n34, n92, n32, hr0⟩
  rw [if_neg n34, if_neg (by omega), if_neg n92, if_neg n32, if_neg hr0] at hq
  rcases hrune with ⟨h0, _⟩ | ⟨r, hr, hp, he⟩
  · exact absurd h0 hr0
  cases he
  have hw : wrM cr = (s.drop j).take (runeM s j) := by
    rw [← wr_enc (by have := hr.val; have := hr.top; omega)]
    exact hr.bytes
  have hfit := hr.fits
  have hsm := hr.small
  refine wrune_p hB5 hz5 (by omega) (by have := hr.val; have := hr.top; omega) fun _ w7 hB7 hc7 => ?_
  rw [hw] at hB7
  have h7 := keepR hc7 h5
  have hc7' := keepC hc7 hc5
  refine h7.ld rfl ?_
  rw [bin_add, upk (by omega)]
  refine h7.st1 fun w8 h8 hc8 hz8 => ?_
  refine ⟨⟨(by first | rfl | trivial), j + runeM s j, _, n, h8, keepB hc8 hB7, hc7'.trans hc8, by have := hc8.size; have := hc7.size; omega, hfit, ?_, by omega, hq⟩, ?_⟩
  · rw [List.length_append, List.length_take, List.length_drop]; omega
  · rw [h8.at_, h3.at_]; omega
end
end Go.Proofs.YtnoepcndjljolaaGreatDoor
namespace Go.Proofs.YtnoepcndjljolaaGreatDoor
open Go Go.Eng Go.RowKit
set_option maxRecDepth 100000
theorem few_cnt (v : JV) : plainM v = true → cntM v ≤ 100000 → fewM v = true := by
  induction v using JV.ind' with
  | h v ih =>
    intro hp hc
    rw [plainM_eq, Bool.and_eq_true, plainL_all, List.all_eq_true] at hp
    obtain ⟨_, _, _, _, _, k6, _, _, k9, _⟩ := headOk_out hp.1
    have hcl : cntM v = 1 + cntL v.xs := by cases v; rfl
    have hlen : ∀ xs : List JV, xs.length ≤ cntL xs := fun xs => by
      induction xs with
      | nil => exact Nat.zero_le _
      | cons x xs ih2 =>
        have := cnt_pos x
        simp only [List.length_cons, cntL]
        omega
    have hmem : ∀ (xs : List JV) x, x ∈ xs → cntM x ≤ cntL xs := fun xs => by
      induction xs with
      | nil => intro x hx; cases hx
      | cons y xs ih2 =>
        intro x hx
        simp only [cntL]
        rcases List.mem_cons.1 hx with rfl | hx
        · omega
        · have := ih2 x hx; omega
    have h1 := hlen v.xs
    rw [fewM_eq, fewL_all]
    have e2 : v.ks.length ≤ 100000 := by
      by_cases hk : v.ks = []
      · rw [hk]; simp
      · have := k9 (k6 hk); omega
    rw [decide_eq_true (by omega : v.xs.length ≤ 100000), decide_eq_true e2]
    simp only [Bool.and_self, Bool.true_and, List.all_eq_true]
    intro x hx
    exact ih x hx (hp.2 x hx) (by have := hmem _ _ hx; omega)
theorem word_pre (s p : Str) (i : Nat) : Lib.hasPrefix (s.drop i) p = wordM s i p := by
  have e : Lib.hasPrefix (s.drop i) p = p.isPrefixOf (s.drop i) := rfl
  rw [e]
  unfold wordM
  by_cases h : (s.drop i).take p.length = p
  · rw [decide_eq_true h, List.isPrefixOf_iff_prefix, List.prefix_iff_eq_take]
    exact h.symm
  · rw [decide_eq_false h]
    cases hb : p.isPrefixOf (s.drop i) with
    | false => rfl
    | true =>
      rw [List.isPrefixOf_iff_prefix, List.prefix_iff_eq_take] at hb
      exact absurd hb.symm h
section
variable [HX]
theorem word_p {s p : Str} {i : Nat} {w : World} {K : Value → World → Prop} (hK : K (.bool (wordM s i p)) w) : callF Tryz.prog 113 [str (s.drop i), str p] w K := by
  refine of_calls (args := #[str (s.drop i), str p]) Tryz.call113 ((Tryz.strings_HasPrefix (ofL (s.drop i)) (ofL p) w).mono ?_)
  rintro e w' ⟨rfl, rfl⟩
  refine ⟨_, rfl, ?_⟩
  rw [ofL_data, ofL_data, word_pre]
  exact hK
def VP (n : Nat) : Prop := ∀ {deep i c p : Nat} {s : Str} {w : World} {K : Value → World → Prop}, Rdr w p s i c → TabU w → TabE w → i ≤ s.length → s.length ≤ 65536 → c ≤ 2000 → deep ≤ 25 → 2 * (2000 - c) + 1 ≤ n →
  (∀ v j c', valM En s n deep i c = .ok v j c' → ∀ cs w', Rdr w' p s j c' → Chg (Cr p) w w' → VRepP (From w.heap.size) w' v cs → K (.agg cs.toArray) w') → (∀ e j, valM En s n deep i c = .bad e j → Thr w p e j) →
  callF Tryz.prog 58 [.pointer (some ⟨p, 0, none⟩), i64 (deep : Nat)] w K
theorem list_p {n deep i c p : Nat} {s : Str} {w : World} {K : Value → World → Prop} (ih : ∀ m, m ≤ n → VP m) (h : Rdr w p s i c) (hT : TabU w) (hE : TabE w) (hi : i < s.length) (hs : s.length ≤ 65536) (hc : c ≤ 2000) (hdeep : deep ≤ 24) (hn : 2 * (2000 - c) + 2 ≤ n)
    (hok : ∀ v j c', (if byteM s (blankM s (i + 1)) = 93 then .ok (.mk 5 false [] [] []) (blankM s (i + 1) + 1) c else listM En s n deep (blankM s (i + 1)) c []) = RR.ok v j c' → ∀ cs w', Rdr w' p s j c' → Chg (Cr p) w w' → VRepP (From w.heap.size) w' v cs → K (.agg cs.toArray) w')
    (hbad : ∀ e j, (if byteM s (blankM s (i + 1)) = 93 then .ok (.mk 5 false [] [] []) (blankM s (i + 1) + 1) c else listM En s n deep (blankM s (i + 1)) c []) = RR.bad e j → Thr w p e j) :
    callF Tryz.prog 118 [.pointer (some ⟨p, 0, none⟩), i64 (deep : Nat)] w K := by
  refine W118_ok ?_
  unfold W118
  have hp := h.lt
  refine alloc_new fun a4 w1 ha4 hz1 hb4 hx1 => ?_
  rw [put_int]
  refine ⟨by simp, ?_⟩
  rw [put_nil]
  simp only [List.set_cons_zero]
  refine alloc_new fun a5 w2 ha5 hz2 hb5 hx2 => ?_
  refine st_agg_at (l := [i64 5, .bool false, str [], .slice none 0 0, .slice none 0 0]) hb5 rfl rfl rfl fun w3 hz3 hb5 hc3 => ?_
  have hx3 : Ext w w3 := (hx1.trans hx2).new hc3 (by omega)
  have h3 := h.ext hx3
  have hb4 := hc3.at (hx2.at hb4 id) (by omega)
  refine h3.go (k := 1) (by omega) fun w4 h4 hc4 hz4 => ?_
  refine blanks_p h4 (by omega) (by omega) fun w5 h5 hc5 => ?_
  have hc35 := hc4.trans hc5
  have hcw5 := (Chg.of_ext hx3).trans hc35
  have hble : blankM s (i + 1) ≤ s.length := blank_le (by omega)
  have hbge := blank_ge s (i + 1)
  generalize hj0 : blankM s (i + 1) = j0 at *
  have keep5 : ∀ {w' w'' : World} {a : Nat} {o : Obj}, Chg (Cr p) w' w'' → w'.heap[a]? = some o → w.heap.size ≤ a → w''.heap[a]? = some o := fun hc hb hle => hc.at hb fun e => by
    have e : _ = p := e
    omega
  -- what is handed back
  have fin : ∀ {w6 : World} {sv : Value} {acc : List JV} {L : List Value} {B j c' : Nat}, Rdr w6 p s j c' → Chg (Cr p) w w6 → w6.heap[a4]? = some (.cells [i64 0, .bool false, str [], .slice none 0 0, .slice none 0 0].toArray VT (0, 0)) → w6.heap[a5]? = some (.cells [i64 5, .bool false, str [], sv, .slice none 0 0].toArray VT (0, 0)) →
      Own w6 B VT 5 sv acc.length L → VRepsP (From B) w6 acc L → a4 < B → w.heap.size ≤ B → acc.length ≤ 2000 → (∀ cs w', Rdr w' p s j c' → Chg (Cr p) w w' → VRepP (From w.heap.size) w' (.mk 5 false [] acc []) cs → K (.agg cs.toArray) w') →
      ldW true 5 (.pointer (some ⟨a5, 0, none⟩)) w6 fun t18 => stW 5 (.pointer (some ⟨a4, 0, none⟩)) t18 w6 fun w8 => ldW true 5 (.pointer (some ⟨a4, 0, none⟩)) w8 fun r9 => K r9 w8 := fun {w6 sv acc L B j c'} h6 hc6 hb4 hb5 hO hR hB hwB hal hk => by
    refine ld_all hb5 rfl ?_
    refine ret_leaf (l := [i64 5, .bool false, str [], sv, .slice none 0 0]) hb4 rfl rfl (obj_one (own_one hO) rfl) fun w7 hc7 => ?_
    refine hk _ w7 (hc7.at h6 fun e => by have e : p = a4 := e; omega) (hc6.then hc7 fun k hk e => by have e : k = a4 := e; omega) ?_
    have hrep : VRepP (From B) w6 (.mk 5 false [] acc []) [i64 5, .bool false, str [], sv, .slice none 0 0] :=
      VRepP.mk (v := .mk 5 false [] acc []) (T1 := VT) (T2 := 0) (L := L) hO.sl hR (SlAt.nil w6 0) ⟨by show acc.length ≤ _; omega, by simp [JV.ks], by simp [JV.t], by simp [JV.ks]⟩ (fun _ q hq => (own_in hO hq).1) (fun e => absurd rfl e)
    exact (VRepP.chg hc7 (fun q hq _ e => by have : B ≤ q := hq; have e : q = a4 := e; omega) hrep).mono fun q _ hq => by have : B ≤ q := hq; show w.heap.size ≤ q; omega
  refine take_p (n := 93) h5 hble (by omega) (fun e w6 h6 hc6 => ?_) (fun e w6 h6 hc6 => ?_)
  · have e : byteM s j0 = 93 := e
    rw [if_pos e] at hok
    rw [condW_true]
    have hc6' := hcw5.trans hc6
    have hc36 := hc35.trans hc6
    refine fin (B := w3.heap.size) (acc := []) (L := []) h6 hc6' (keep5 hc36 hb4 (by omega)) (keep5 hc36 hb5 (by omega)) ⟨by simp, .inl ⟨rfl, rfl⟩⟩ (by simp [VRepsP]) (by omega) (by omega) (by simp) fun cs w' h' hc' hr' => hok _ _ _ rfl cs w' h' hc' hr'
  have e : byteM s j0 ≠ 93 := e
  rw [if_neg e] at hok hbad
  rw [condW_false]
  have hc36 := hc35.trans hc6
  refine LoopW.go (fun st w' => st = [] ∧ ∃ m j c' acc sv L, Rdr w' p s j c' ∧ Chg (Cr p) w w' ∧ w'.heap[a4]? = some (.cells [i64 0, .bool false, str [], .slice none 0 0, .slice none 0 0].toArray VT (0, 0)) ∧ w'.heap[a5]? = some (.cells [i64 5, .bool false, str [], sv, .slice none 0 0].toArray VT (0, 0)) ∧
      Own w' w3.heap.size VT 5 sv acc.length L ∧ VRepsP (fun q => w3.heap.size ≤ q ∧ sv.ownBlock ≠ some q) w' acc L ∧ m ≤ n ∧ 2 * (2000 - c') + 2 ≤ m ∧ c' ≤ 2000 ∧ acc.length ≤ c' ∧ j ≤ s.length ∧ listM En s m deep j c' acc = listM En s n deep j0 c []) (fun _ w' => s.length + 1 - rdAt w' p)
    ⟨rfl, n, j0, c, [], .slice none 0 0, [], h6, hcw5.trans hc6, keep5 hc36 hb4 (by omega), keep5 hc36 hb5 (by omega), ⟨by simp, .inl ⟨rfl, rfl⟩⟩, by simp [VRepsP], Nat.le_refl _, hn, hc, Nat.zero_le _, hble, rfl⟩ ?_
  rintro st g w7 ⟨rfl, m, j, c', acc, sv, L, h7, hc7, hb4, hb5, hO, hR, hmn, hm, hc2, hacc, hj, heq⟩
  obtain ⟨m, rfl⟩ : ∃ m', m = m' + 1 := ⟨m - 1, by omega⟩
  rw [listM] at heq
  rw [← heq] at hok hbad
  have hxd : Ext w7 w7.drew := Chg.drew (Chg.refl (fun _ => False) w7)
  rw [fld_ptr, add_mk, ld_one]
  refine ⟨sv, by rw [cell_eq, heap_drew, hb5]; rfl, ?_⟩
  rw [bin_add, up1 (by omega)]
  have h7d := h7.ext hxd
  have hc7d := hc7.then hxd fun _ _ e => e.elim
  refine ih m (by omega) h7d (hT.rd h hc7d) (hE.rd h hc7d) hj hs hc2 (by omega) (by omega) (fun x j1 c1 hv cs w8 h8 hc8 hr8 => ?_) (fun e1 j1 hv => ?_)
  · rw [hv] at hok hbad
    simp only at hok hbad
    have hbk := val_back hj hc2 hv
    have hcp := cnt_pos x
    have hcnt := hbk.cnt
    have hmax := hbk.max
    have hlen := hbk.len
    have hfit := hbk.fits
    have hc78 : Chg (Cr p) w7 w8 := (Chg.of_ext hxd).trans hc8
    have hb48 := keep5 hc78 hb4 (by omega)
    have hb58 := keep5 hc78 hb5 (by omega)
    have s3 : w3.heap.size ≤ w7.heap.size := by have := at_lt hb5; have := hc7.size; omega
    have nown : ∀ q, sv.ownBlock = some q → q ≠ p := fun q hq e => by have := (own_in hO hq).1; omega
    have hO8 := own_chg hO hc78 fun q hq e => nown q hq e
    have hR8 := VRepsP.chg hc78 (fun q hq _ e => by have := hq.1; have e : q = p := e; omega) hR
    have ld8 : ∀ {w' : World}, w'.heap[a5]? = some (.cells [i64 5, .bool false, str [], sv, .slice none 0 0].toArray VT (0, 0)) → ldW false 1 (.pointer (some ⟨a5, 0 + 3, none⟩)) w' fun x => x = sv := fun hb => by
      rw [ld_one]; exact ⟨sv, by rw [cell_eq, hb]; rfl, rfl⟩
    refine ⟨ld8 hb58, ?_⟩
    refine row_v hr8.rep.len fun t w9 ht hx9 => ?_
    refine ⟨ld8 (hx9.at hb58 id), ?_⟩
    have hO9 := own_chg hO8 hx9 fun _ _ e => e
    have s78 := hc78.size
    have s9 := hx9.size
    have hglt : ∀ k, sv.ownBlock = some k → k < w7.heap.size := fun k hk => (own_in hO hk).2.1
    refine append_own3 elem_v hO9 ht (m := 1) (by rw [hr8.rep.len]) hr8.rep.one (by omega) (by omega) (by omega) fun sv' w10 h10 hc10 hb10 => ?_
    have hb410 := hc10.at (hx9.at hb48 id) fun e => by have := (own_in hO9 e).1; omega
    have hb510 := hc10.at (hx9.at hb58 id) fun e => by have := (own_in hO9 e).1; omega
    rw [fld_ptr, add_mk]
    refine st_at hb510 (own_one h10) (by simp) fun w11 hz11 hb511 hc11 => ?_
    have hb511 : w11.heap[a5]? = some (.cells [i64 5, .bool false, str [], sv', .slice none 0 0].toArray VT (0, 0)) := by rw [hb511]; simp
    have hb411 := hc11.at hb410 (by omega)
    have h11r : Rdr w11 p s j1 c1 := hc11.at (hc10.at (h8.ext hx9) fun e => nown _ e rfl) (by omega)
    have sv'lo : ∀ q, sv'.ownBlock = some q → w3.heap.size ≤ q := fun q hq => (own_in h10 hq).1
    have h11 := own_chg h10 hc11 fun q hq e => by have := sv'lo q hq; omega
    have s10 := hc10.size
    have s11 := hc11.size
    have hc711 : Chg (Cr p) w w11 := by
      have h1 : Chg (Cr p) w w9 := (hc7.trans hc78).then hx9 fun _ _ e => e.elim
      have h2 : Chg (Cr p) w w10 := h1.then hc10 fun q hq e => by have := (own_in hO9 e).1; omega
      exact h2.then hc11 fun q hq e => by omega
    have hall : VRepsP (fun q => w3.heap.size ≤ q ∧ sv.ownBlock ≠ some q) w9 (acc ++ [x]) (L ++ cs) :=
      VRepsP.snoc (VRepsP.chg hx9 (fun _ _ _ e => e) hR8) ((VRepP.chg hx9 (fun _ _ _ e => e) hr8).mono fun q _ hq => ⟨by have : w7.drew.heap.size ≤ q := hq; have e : w7.drew.heap.size = w7.heap.size := rfl; omega, fun e => by have := hglt q e; have : w7.drew.heap.size ≤ q := hq; have e : w7.drew.heap.size = w7.heap.size := rfl; omega⟩)
    have hall2 : VRepsP (fun q => (w3.heap.size ≤ q ∧ sv.ownBlock ≠ some q) ∧ q < w9.heap.size) w9 (acc ++ [x]) (L ++ cs) := hall.mono fun q hlt hq => ⟨hq, hlt⟩
    have hall3 := VRepsP.chg hc11 (fun q hq _ e => by have := hq.1.1; omega) (VRepsP.chg hc10 (fun q hq _ e => hq.1.2 e) hall2)
    have hall4 : VRepsP (fun q => w3.heap.size ≤ q ∧ sv'.ownBlock ≠ some q) w11 (acc ++ [x]) (L ++ cs) := hall3.mono fun q _ hq => ⟨hq.1.1, fun e => by
      rcases hb10 q e with h | h
      · exact hq.1.2 h
      · omega⟩
    have hlenx : (acc ++ [x]).length = acc.length + 1 := by simp
    have h11' : Own w11 w3.heap.size VT 5 sv' (acc ++ [x]).length (L ++ cs) := by rw [hlenx]; exact h11
    refine blanks_p h11r hfit (by omega) fun w12 h12 hc12 => ?_
    have hge1 := blank_ge s j1
    have hle1 := blank_le hfit
    have hidem := blank_idem s j1
    have step : ∀ {w' : World}, Chg (Cr p) w11 w' → Chg (Cr p) w w' ∧ w'.heap[a4]? = some (.cells [i64 0, .bool false, str [], .slice none 0 0, .slice none 0 0].toArray VT (0, 0)) ∧ w'.heap[a5]? = some (.cells [i64 5, .bool false, str [], sv', .slice none 0 0].toArray VT (0, 0)) ∧
        Own w' w3.heap.size VT 5 sv' (acc ++ [x]).length (L ++ cs) ∧ VRepsP (fun q => w3.heap.size ≤ q ∧ sv'.ownBlock ≠ some q) w' (acc ++ [x]) (L ++ cs) := fun {w'} hc' =>
      ⟨hc711.trans hc', keep5 hc' hb411 (by omega), keep5 hc' hb511 (by omega), own_chg h11' hc' fun q hq e => by have := sv'lo q hq; have e : q = p := e; omega, VRepsP.chg hc' (fun q hq _ e => by have := hq.1; have e : q = p := e; omega) hall4⟩
    refine take_p (n := 93) h12 hle1 (by omega) (fun e w13 h13 hc13 => ?_) (fun e w13 h13 hc13 => ?_)
    · have e : byteM s (blankM s j1) = 93 := e
      rw [if_pos e] at hok
      rw [condW_true]
      obtain ⟨q1, q2, q3, q4, q5⟩ := step (hc12.trans hc13)
      exact fin h13 q1 q2 q3 q4 (q5.mono fun q _ hq => hq.1) (by omega) (by omega) (by rw [hlenx]; omega) fun cs w' h' hc' hr' => hok _ _ _ rfl cs w' h' hc' hr'
    · have e : byteM s (blankM s j1) ≠ 93 := e
      rw [if_neg e] at hok hbad
      rw [condW_false]
      refine want_p (n := 44) h13 hle1 (by omega) (fun e2 w14 h14 hc14 => ?_) (fun e2 => ?_)
      · rw [hidem] at e2 h14
        have e2 : byteM s (blankM s j1) = 44 := e2
        rw [hv] at heq
        simp only at heq
        rw [if_neg e, if_pos e2] at heq
        obtain ⟨q1, q2, q3, q4, q5⟩ := step ((hc12.trans hc13).trans hc14)
        have hlt44 := byte_lt (s := s) (i := blankM s j1) (by omega)
        refine ⟨⟨rfl, m, blankM s j1 + 1, c1, acc ++ [x], sv', L ++ cs, h14, q1, q2, q3, q4, q5, by omega, by omega, by omega, by rw [hlenx]; omega, by omega, heq⟩, ?_⟩
        rw [h14.at_, h7.at_]; omega
      · rw [hidem] at e2 ⊢
        have e2 : byteM s (blankM s j1) ≠ 44 := e2
        rw [if_neg e2] at hbad
        exact (hbad _ _ rfl).from (step (hc12.trans hc13)).1
  · rw [hv] at hbad
    exact (hbad _ _ rfl).from hc7d
end
end Go.Proofs.YtnoepcndjljolaaGreatDoor
namespace Go.Proofs.YtnoepcndjljolaaGreatDoor
open Go Go.Eng Go.RowKit
set_option maxRecDepth 100000
section
variable [HX]
theorem object_p {n deep i c p : Nat} {s : Str} {w : World} {K : Value → World → Prop} (ih : ∀ m, m ≤ n → VP m) (h : Rdr w p s i c) (hT : TabU w) (hE : TabE w) (hi : i < s.length) (hs : s.length ≤ 65536) (hc : c ≤ 2000) (hdeep : deep ≤ 24) (hn : 2 * (2000 - c) + 2 ≤ n)
    (hok : ∀ v j c', (if byteM s (blankM s (i + 1)) = 125 then .ok (.mk 6 false [] [] []) (blankM s (i + 1) + 1) c else objM En s n deep (blankM s (i + 1)) c (.mk 6 false [] [] [])) = RR.ok v j c' → ∀ cs w', Rdr w' p s j c' → Chg (Cr p) w w' → VRepP (From w.heap.size) w' v cs → K (.agg cs.toArray) w')
    (hbad : ∀ e j, (if byteM s (blankM s (i + 1)) = 125 then .ok (.mk 6 false [] [] []) (blankM s (i + 1) + 1) c else objM En s n deep (blankM s (i + 1)) c (.mk 6 false [] [] [])) = RR.bad e j → Thr w p e j) :
    callF Tryz.prog 119 [.pointer (some ⟨p, 0, none⟩), i64 (deep : Nat)] w K := by
  refine W119_ok ?_
  unfold W119
  have hp := h.lt
  refine alloc_new fun a4 w1 ha4 hz1 hb4 hx1 => ?_
  rw [put_int]
  refine ⟨by simp, ?_⟩
  rw [put_nil]
  simp only [List.set_cons_zero]
  refine alloc_new fun a5 w2 ha5 hz2 hb5 hx2 => ?_
  refine st_agg_at (l := [i64 6, .bool false, str [], .slice none 0 0, .slice none 0 0]) hb5 rfl rfl rfl fun w3 hz3 hb5 hc3 => ?_
  have hx3 : Ext w w3 := (hx1.trans hx2).new hc3 (by omega)
  have h3 := h.ext hx3
  have hb4 := hc3.at (hx2.at hb4 id) (by omega)
  refine h3.go (k := 1) (by omega) fun w4 h4 hc4 hz4 => ?_
  refine blanks_p h4 (by omega) (by omega) fun w5 h5 hc5 => ?_
  have hc35 := hc4.trans hc5
  have hcw5 := (Chg.of_ext hx3).trans hc35
  have hble : blankM s (i + 1) ≤ s.length := blank_le (by omega)
  have hbge := blank_ge s (i + 1)
  generalize hj0 : blankM s (i + 1) = j0 at *
  have keep5 : ∀ {w' w'' : World} {a : Nat} {o : Obj}, Chg (Cr p) w' w'' → w'.heap[a]? = some o → w.heap.size ≤ a → w''.heap[a]? = some o := fun hc hb hle => hc.at hb fun e => by
    have e : _ = p := e
    omega
  have fin : ∀ {w6 : World} {es : List Value} {l : List (Str × JV)} {j c' : Nat}, Rdr w6 p s j c' → Chg (Cr p) w w6 → w6.heap[a4]? = some (.cells [i64 0, .bool false, str [], .slice none 0 0, .slice none 0 0].toArray VT (0, 0)) → w6.heap[a5]? = some (.cells es.toArray VT (0, 0)) →
      VRepP (From w3.heap.size) w6 (mkO l) es → (∀ cs w', Rdr w' p s j c' → Chg (Cr p) w w' → VRepP (From w.heap.size) w' (mkO l) cs → K (.agg cs.toArray) w') →
      ldW true 5 (.pointer (some ⟨a5, 0, none⟩)) w6 fun t18 => stW 5 (.pointer (some ⟨a4, 0, none⟩)) t18 w6 fun w8 => ldW true 5 (.pointer (some ⟨a4, 0, none⟩)) w8 fun r9 => K r9 w8 := fun {w6 es l j c'} h6 hc6 hb4 hb5 hR hk => by
    refine ld_all hb5 hR.rep.len ?_
    refine ret_leaf hb4 rfl hR.rep.len hR.rep.all_one fun w7 hc7 => ?_
    refine hk _ w7 (hc7.at h6 fun e => by have e : p = a4 := e; omega) (hc6.then hc7 fun k hk e => by have e : k = a4 := e; omega) ?_
    exact (VRepP.chg hc7 (fun q hq _ e => by have : w3.heap.size ≤ q := hq; have e : q = a4 := e; omega) hR).mono fun q _ hq => by have : w3.heap.size ≤ q := hq; show w.heap.size ≤ q; omega
  have hemp : ∀ w' : World, VRepP (From w3.heap.size) w' (mkO []) [i64 6, .bool false, str [], .slice none 0 0, .slice none 0 0] := fun w' => leaf_rep (by simp)
  refine take_p (n := 125) h5 hble (by omega) (fun e w6 h6 hc6 => ?_) (fun e w6 h6 hc6 => ?_)
  · have e : byteM s j0 = 125 := e
    rw [if_pos e] at hok
    rw [condW_true]
    have hc36 := hc35.trans hc6
    exact fin (l := []) h6 (hcw5.trans hc6) (keep5 hc36 hb4 (by omega)) (keep5 hc36 hb5 (by omega)) (hemp _) fun cs w' h' hc' hr' => hok _ _ _ rfl cs w' h' hc' hr'
  have e : byteM s j0 ≠ 125 := e
  rw [if_neg e] at hok hbad
  rw [condW_false]
  have hc36 := hc35.trans hc6
  have e0 : (.mk 6 false [] [] [] : JV) = mkO [] := rfl
  rw [e0] at hok hbad
  refine LoopW.go (fun st w' => st = [] ∧ ∃ m j c' l es, Rdr w' p s j c' ∧ Chg (Cr p) w w' ∧ w'.heap[a4]? = some (.cells [i64 0, .bool false, str [], .slice none 0 0, .slice none 0 0].toArray VT (0, 0)) ∧ w'.heap[a5]? = some (.cells es.toArray VT (0, 0)) ∧
      VRepP (From w3.heap.size) w' (mkO l) es ∧ Rise (l.map (·.1)) ∧ (∀ q ∈ l, ItemP (24 - deep) q) ∧ cntP l ≤ c' ∧ l.length ≤ c' ∧ m ≤ n ∧ 2 * (2000 - c') + 2 ≤ m ∧ c' ≤ 2000 ∧ j ≤ s.length ∧ objM En s m deep j c' (mkO l) = objM En s n deep j0 c (mkO [])) (fun _ w' => s.length + 1 - rdAt w' p)
    ⟨rfl, n, j0, c, [], [i64 6, .bool false, str [], .slice none 0 0, .slice none 0 0], h6, hcw5.trans hc6, keep5 hc36 hb4 (by omega), keep5 hc36 hb5 (by omega), hemp _, List.Pairwise.nil, (fun q hq => by cases hq), Nat.zero_le _, Nat.zero_le _, Nat.le_refl _, hn, hc, hble, rfl⟩ ?_
  rintro st g w7 ⟨rfl, m, j, c', l, es, h7, hc7, hb4, hb5, hR, hrise, hitems, hcl, hll, hmn, hm, hc2, hj, heq⟩
  obtain ⟨m, rfl⟩ : ∃ m', m = m' + 1 := ⟨m - 1, by omega⟩
  rw [objM] at heq
  rw [← heq] at hok hbad
  have hjb := blank_le hj
  have hjg := blank_ge s j
  refine blanks_p h7 hj (by omega) fun w8 h8 hc8 => ?_
  generalize hj8 : blankM s j = j8 at *
  have s7 : w3.heap.size ≤ w7.heap.size := by have := at_lt hb5; have := at_lt hb4; have := hc7.size; omega
  have keepR : ∀ {w' w'' : World}, Chg (Cr p) w' w'' → VRepP (From w3.heap.size) w' (mkO l) es → VRepP (From w3.heap.size) w'' (mkO l) es := fun hc hr => VRepP.chg hc (fun q hq _ e => by have : w3.heap.size ≤ q := hq; have e : q = p := e; omega) hr
  have hc78 := hc7.trans hc8
  refine h8.ld rfl ?_
  refine JoinW.cut (fun st w' => ∃ (_ : byteM s j8 = 34), Ext w8 w') ?_ ?_
  · refine peek_p h8 hjb fun w9 hx9 => ?_
    rw [bin_neq, condW_dec]
    have hpk : pkM s j8 = 34 ↔ byteM s j8 = 34 := pk_eq (k := 34) (by omega)
    refine ⟨fun e => ?_, fun e => ?_⟩
    · have e : byteM s j8 ≠ 34 := fun h => e (hpk.2 h)
      rw [if_pos e] at hbad
      refine (h8.ext hx9).ld rfl ?_
      exact fail_p ((hbad _ _ rfl).from (hc78.then hx9 fun _ _ e => e.elim))
    · have e : pkM s j8 = 34 := Classical.byContradiction fun h => e h
      exact ⟨hpk.1 e, hx9⟩
  rintro st g9 w9 ⟨h34, hx9⟩
  rw [if_neg (fun e => e h34)] at hok hbad heq
  have h9 := h8.ext hx9
  have hc79 : Chg (Cr p) w7 w9 := hc8.then hx9 fun _ _ e => e.elim
  have hlt8 := byte_lt (s := s) (i := j8) (by omega)
  refine quoted_p h9 (hT.rd h (hc7.trans hc79)) (hE.rd h (hc7.trans hc79)) hlt8 (by omega) (fun key jq cq hq w10 h10 hc10 => ?_) (fun e1 j1 hq => ?_)
  · rw [hq] at hok hbad heq
    simp only at hok hbad heq
    have hq' := hq
    unfold quotM at hq'
    obtain ⟨a1, a2, a3, a4', a5', a6⟩ := quot_back hq' .nil
    subst a1
    have hc710 := hc79.trans hc10
    have hR10 := keepR hc710 hR
    have hb510 := keep5 hc710 hb5 (by omega)
    have hIO := item_obj hrise hitems
    have hfew : fewM (mkO l) = true := few_cnt _ hIO.plain (by show 1 + cntL (l.map (·.2)) ≤ _; rw [cntL_map]; omega)
    have hg1 := blank_ge s jq
    have hg2 := blank_le a5'
    refine JoinW.cut (fun st w' => ∃ (_ : (getM (mkO l) key).isSome = false), Ext w10 w') ?_ ?_
    · refine ld_all hb510 hR10.rep.len ?_
      refine get_p hR10.rep rfl (by show (l.map (·.1)).length = (l.map (·.2)).length; rw [List.length_map, List.length_map]) hfew hrise fun cs' w11 hx11 hr11 => ?_
      simp only [ext_tuple]
      refine ⟨_, rfl, _, rfl, ?_⟩
      refine alloc_new fun a8 w12 ha8 hz12 hb12 hx12 => ?_
      refine st_agg_at hb12 (hr11.len) rfl hr11.all_one fun w13 hz13 hb13 hc13 => ?_
      have hx13 : Ext w10 w13 := (hx11.trans hx12).new hc13 (by have := hx11.size; omega)
      rw [condW_b]
      refine ⟨fun e => ?_, fun e => ⟨e, hx13⟩⟩
      rw [if_pos e] at hbad
      exact fail_p ((hbad _ _ rfl).from ((hc7.trans hc710).then hx13 fun _ _ e => e.elim))
    rintro st g11 w11 ⟨hget, hx11⟩
    rw [if_neg (by rw [hget]; simp)] at hok hbad heq
    have hnk := get_none hget
    have h11 := h10.ext hx11
    have hc711 := hc710.then hx11 fun _ _ e => e.elim
    refine want_p (n := 58) h11 a5' (by omega) (fun e58 w12 h12 hc12 => ?_) (fun e58 => ?_)
    · have e58 : byteM s (blankM s jq) = 58 := e58
      rw [if_neg (fun e => e e58)] at hok hbad heq
      have hlt58 := byte_lt (s := s) (i := blankM s jq) (by omega)
      have hc712 := hc711.trans hc12
      have hxd : Ext w12 w12.drew := Chg.drew (Chg.refl (fun _ => False) w12)
      have hc712d := hc712.then hxd fun _ _ e => e.elim
      have hb512 := keep5 hc712d hb5 (by omega)
      have hR12 := keepR hc712d hR
      refine ld_all hb512 hR12.rep.len ?_
      rw [bin_add, up1 (by omega)]
      have hcw := hc7.trans hc712d
      refine ih m (by omega) (h12.ext hxd) (hT.rd h hcw) (hE.rd h hcw) (by omega) hs hc2 (by omega) (by omega) (fun x j2 c2 hv ds w13 h13 hc13 hr13 => ?_) (fun e1 j2 hv => ?_)
      · rw [hv] at hok hbad heq
        simp only at hok hbad heq
        have hbk := val_back (by omega) hc2 hv
        have hcp := cnt_pos x
        have hcnt := hbk.cnt
        have hmax := hbk.max
        have hlen := hbk.len
        have hfit := hbk.fits
        have hit := hbk.item
        rw [show 25 - (deep + 1) = 24 - deep by omega] at hit
        have hb513 := keep5 hc13 hb512 (by omega)
        have hR13 := keepR hc13 hR12
        have hcw13 := hcw.trans hc13
        refine ⟨ld_all hb513 hR13.rep.len rfl, ?_⟩
        have s13 := hcw13.size
        have s713 := (hc712d.trans hc13).size
        refine put_n hR13.rep hr13.rep hfew (few_cnt x hit.plain (by omega)) hrise hnk (by omega) (by omega) fun es' w14 hx14 hr14 => ?_
        have hb514 := hx14.at hb513 id
        refine st_agg_at hb514 hr14.rep.len hR13.rep.len hr14.rep.all_one fun w15 hz15 hb515 hc15 => ?_
        have h15 := hc15.at (h13.ext hx14) (by omega)
        have hr15 : VRepP (From w3.heap.size) w15 (mkO (insP l key x)) es' := (VRepP.chg hc15 (fun q hq _ e => by have : w13.heap.size ≤ q := hq; have := at_lt hb513; omega) hr14).mono fun q _ hq => by have : w13.heap.size ≤ q := hq; show w3.heap.size ≤ q; omega
        have hb415 := hc15.at (hx14.at (keep5 (hc712d.trans hc13) hb4 (by omega)) id) (by omega)
        have hcw15 : Chg (Cr p) w w15 := (hcw13.then hx14 fun _ _ e => e.elim).then hc15 fun q hq e => by omega
        have hr' := rise_ins (x := x) hrise hnk
        have hp' : ∀ q ∈ insP l key x, ItemP (24 - deep) q := fun q hq => by
          rcases (ins_mem q).1 hq with rfl | hq
          · exact ⟨a3, (utf_iff key).2 a2, hit⟩
          · exact hitems q hq
        rw [put_mkO hnk] at hok hbad heq
        refine blanks_p h15 hfit (by omega) fun w16 h16 hc16 => ?_
        have hge1 := blank_ge s j2
        have hle1 := blank_le hfit
        have hidem := blank_idem s j2
        have step : ∀ {w' : World}, Chg (Cr p) w15 w' → Chg (Cr p) w w' ∧ w'.heap[a4]? = some (.cells [i64 0, .bool false, str [], .slice none 0 0, .slice none 0 0].toArray VT (0, 0)) ∧ w'.heap[a5]? = some (.cells es'.toArray VT (0, 0)) ∧ VRepP (From w3.heap.size) w' (mkO (insP l key x)) es' := fun {w'} hc' =>
          ⟨hcw15.trans hc', keep5 hc' hb415 (by omega), keep5 hc' hb515 (by omega), VRepP.chg hc' (fun q hq _ e => by have : w3.heap.size ≤ q := hq; have e : q = p := e; omega) hr15⟩
        refine take_p (n := 125) h16 hle1 (by omega) (fun e w17 h17 hc17 => ?_) (fun e w17 h17 hc17 => ?_)
        · have e : byteM s (blankM s j2) = 125 := e
          rw [if_pos e] at hok
          rw [condW_true]
          obtain ⟨q1, q2, q3, q4⟩ := step (hc16.trans hc17)
          exact fin h17 q1 q2 q3 q4 fun cs w' h' hc' hr' => hok _ _ _ rfl cs w' h' hc' hr'
        · have e : byteM s (blankM s j2) ≠ 125 := e
          rw [if_neg e] at hok hbad heq
          rw [condW_false]
          refine want_p (n := 44) h17 hle1 (by omega) (fun e2 w18 h18 hc18 => ?_) (fun e2 => ?_)
          · rw [hidem] at e2 h18
            have e2 : byteM s (blankM s j2) = 44 := e2
            rw [if_pos e2] at heq
            obtain ⟨q1, q2, q3, q4⟩ := step ((hc16.trans hc17).trans hc18)
            have hlt44 := byte_lt (s := s) (i := blankM s j2) (by omega)
            refine ⟨⟨rfl, m, blankM s j2 + 1, c2, insP l key x, es', h18, q1, q2, q3, q4, hr', hp', by rw [ins_cnt]; omega, by rw [ins_len]; omega, by omega, by omega, hmax, by omega, heq⟩, ?_⟩
            rw [h18.at_, h7.at_]; omega
          · rw [hidem] at e2 ⊢
            have e2 : byteM s (blankM s j2) ≠ 44 := e2
            rw [if_neg e2] at hbad
            exact (hbad _ _ rfl).from (step (hc16.trans hc17)).1
      · rw [hv] at hbad
        exact (hbad _ _ rfl).from hcw
    · have e58 : byteM s (blankM s jq) ≠ 58 := e58
      rw [if_pos e58] at hbad
      exact (hbad _ _ rfl).from (hc7.trans hc711)
  · rw [hq] at hbad
    exact (hbad _ _ rfl).from (hc7.trans hc79)
end
end Go.Proofs.YtnoepcndjljolaaGreatDoor
namespace Go.Proofs.YtnoepcndjljolaaGreatDoor
open Go Go.Eng Go.RowKit
set_option maxRecDepth 100000
section
variable [HX]
theorem bool_p {b : Bool} {w : World} {K : Value → World → Prop} (hK : ∀ w', Ext w w' → K (.agg [i64 2, .bool b, str [], .slice none 0 0, .slice none 0 0].toArray) w') : callF Tryz.prog 115 [.bool b] w K := by
  refine W115_ok ?_
  unfold W115
  refine alloc_new fun a w1 ha hz hb hx => ?_
  simp only [put_int, put_bool, put_nil, List.length_cons, List.length_nil, List.set_cons_zero, List.set_cons_succ]
  refine ⟨by omega, by omega, ?_⟩
  exact ret_leaf (l := [i64 2, .bool b, str [], .slice none 0 0, .slice none 0 0]) hb rfl rfl rfl fun w2 hc2 => hK w2 (hx.new hc2 (by omega))
theorem null_p {w : World} {K : Value → World → Prop} (hK : ∀ w', Ext w w' → K (.agg [i64 0, .bool false, str [], .slice none 0 0, .slice none 0 0].toArray) w') : callF Tryz.prog 114 [] w K := by
  refine W114_ok ?_
  unfold W114
  refine alloc_new fun a w1 ha hz hb hx => ?_
  rw [put_nil]
  exact ret_leaf (l := [i64 0, .bool false, str [], .slice none 0 0, .slice none 0 0]) hb rfl rfl rfl fun w2 hc2 => hK w2 (hx.new hc2 (by omega))
theorem textv_p {t : Str} {w : World} {K : Value → World → Prop} (hK : ∀ w', Ext w w' → K (.agg [i64 4, .bool false, str t, .slice none 0 0, .slice none 0 0].toArray) w') : callF Tryz.prog 23 [str t] w K := by
  refine W23_ok ?_
  unfold W23
  refine alloc_new fun b w1 hb hz hbb hx => ?_
  simp only [put_int, put_str, put_nil, List.length_cons, List.length_nil, List.set_cons_zero, List.set_cons_succ]
  refine ⟨by omega, by omega, ?_⟩
  exact ret_leaf (l := [i64 4, .bool false, str t, .slice none 0 0, .slice none 0 0]) hbb rfl rfl rfl fun w2 hc2 => hK w2 (hx.new hc2 (by omega))
theorem value_p : ∀ n, VP n := by
  intro n
  induction n using Nat.strongRecOn with
  | ind n ihs =>
  intro deep i c p s w K h hT hE hi hs hc hdeep hn hok hbad
  obtain ⟨n, rfl⟩ : ∃ m, n = m + 1 := ⟨n - 1, by omega⟩
  have ih : ∀ m, m ≤ n → VP m := fun m hm => ihs m (by omega)
  refine W58_ok ?_
  unfold W58
  have hp := h.lt
  rw [valM] at hok hbad
  refine alloc_new fun a4 w1 ha4 hz1 hb4 hx1 => ?_
  refine blanks_p (h.ext hx1) hi (by omega) fun w2 h2 hc2 => ?_
  have hj := blank_le hi
  generalize hjj : blankM s i = j at *
  have hcw2 := (Chg.of_ext hx1).trans hc2
  have hpa : p ≠ a4 := by omega
  have hb42 := hc2.at hb4 (fun e => hpa e.symm)
  refine JoinW.cut (fun st w' => w' = w2 ∧ ¬ 24 < deep ∧ ¬ 2000 ≤ c) ?_ ?_
  · rw [bin_gtr, condW_dec]
    refine ⟨fun e => ?_, fun e => ?_⟩
    · rw [if_pos (by omega)] at hbad
      refine h2.ld rfl ?_
      exact fail_p ((hbad _ _ rfl).from hcw2)
    · rw [if_neg (by omega)] at hbad
      refine h2.ld rfl ?_
      rw [bin_eql, condW_dec]
      refine ⟨fun e2 => ?_, fun e2 => ⟨rfl, by omega, by omega⟩⟩
      rw [if_pos (by omega)] at hbad
      refine h2.ld rfl ?_
      exact fail_p ((hbad _ _ rfl).from hcw2)
  rintro st g w3 ⟨rfl, hd, hcnt⟩
  rw [if_neg hd, if_neg hcnt] at hok hbad
  refine h2.ld rfl ?_
  rw [bin_add, up1 (by omega)]
  refine h2.st2 fun w4 h4 hc4 hz4 => ?_
  have hxd : Ext w4 w4.drew := Chg.drew (Chg.refl (fun _ => False) w4)
  have h4d := h4.ext hxd
  refine h4d.ld rfl ?_
  refine h4d.ld rfl ?_
  rw [sls_str, bd_none, bd_some]
  refine ⟨by omega, by omega, ?_⟩
  simp only [Int.toNat_natCast, List.take_length]
  refine peek_p h4d hj fun w5 hx5 => ?_
  have h5 := h4d.ext hx5
  have hc5 : Chg (Cr p) w w5 := ((hcw2.trans hc4).then hxd fun _ _ e => e.elim).then hx5 fun _ _ e => e.elim
  have hb45 := hx5.at (hxd.at (hc4.at hb42 (fun e => hpa e.symm)) id) id
  -- what is handed back
  have ret : ∀ {w6 w7 : World} {j' c' : Nat} {v : JV} {cs : List Value}, Rdr w6 p s j' c' → Chg (Cr p) w5 w6 → VRepP (From w5.heap.size) w6 v cs → (∀ cs w', Rdr w' p s j' c' → Chg (Cr p) w w' → VRepP (From w.heap.size) w' v cs → K (.agg cs.toArray) w') →
      stW 5 (.pointer (some ⟨a4, 0, none⟩)) (.agg cs.toArray) w6 fun w8 => ldW true 5 (.pointer (some ⟨a4, 0, none⟩)) w8 fun r9 => K r9 w8 := fun {w6 _ j' c' v cs} h6 hc6 hr hk => by
    refine ret_leaf (hc6.at hb45 (fun e => hpa e.symm)) rfl hr.rep.len hr.rep.all_one fun w7 hc7 => ?_
    have s5 := hc5.size
    have := at_lt hb45
    refine hk _ w7 (hc7.at h6 hpa) ((hc5.trans hc6).then hc7 fun k hk e => by have e : k = a4 := e; omega) ?_
    exact (VRepP.chg hc7 (fun q hq _ e => by have : w5.heap.size ≤ q := hq; have e : q = a4 := e; omega) hr).mono fun q _ hq => by have : w5.heap.size ≤ q := hq; show w.heap.size ≤ q; omega
  have wlen : ∀ {p : Str}, wordM s j p = true → j + p.length ≤ s.length := fun {p} hw => by
    unfold wordM at hw
    have := congrArg List.length (of_decide_eq_true hw)
    rw [List.length_take, List.length_drop] at this
    omega
  refine word_p ?_
  rw [condW_b]
  refine ⟨fun e => ?_, fun e => ?_⟩
  · rw [if_pos e] at hok
    have hw := wlen e
    refine h5.go (k := 4) (by omega) fun w6 h6 hc6 hz6 => ?_
    refine null_p fun w7 hx7 => ?_
    exact ret (w7 := w7) (v := JV.null) (h6.ext hx7) (hc6.then hx7 fun _ _ e => e.elim) (leaf_rep (by simp)) fun cs w' h' hc' hr' => hok _ _ _ rfl cs w' h' hc' hr'
  rw [if_neg (by rw [e]; simp)] at hok hbad
  refine word_p ?_
  rw [condW_b]
  refine ⟨fun e => ?_, fun e => ?_⟩
  · rw [if_pos e] at hok
    have hw := wlen e
    refine h5.go (k := 4) (by omega) fun w6 h6 hc6 hz6 => ?_
    refine bool_p fun w7 hx7 => ?_
    exact ret (w7 := w7) (h6.ext hx7) (hc6.then hx7 fun _ _ e => e.elim) (leaf_rep (by simp)) fun cs w' h' hc' hr' => hok _ _ _ rfl cs w' h' hc' hr'
  rw [if_neg (by rw [e]; simp)] at hok hbad
  refine word_p ?_
  rw [condW_b]
  refine ⟨fun e => ?_, fun e => ?_⟩
  · rw [if_pos e] at hok
    have hw := wlen e
    refine h5.go (k := 5) (by omega) fun w6 h6 hc6 hz6 => ?_
    refine bool_p fun w7 hx7 => ?_
    exact ret (w7 := w7) (h6.ext hx7) (hc6.then hx7 fun _ _ e => e.elim) (leaf_rep (by simp)) fun cs w' h' hc' hr' => hok _ _ _ rfl cs w' h' hc' hr'
  rw [if_neg (by rw [e]; simp)] at hok hbad
  have q45 : pkM s j = 45 ↔ byteM s j = 45 := pk_eq (k := 45) (by omega)
  have q34 : pkM s j = 34 ↔ byteM s j = 34 := pk_eq (k := 34) (by omega)
  have q91 : pkM s j = 91 ↔ byteM s j = 91 := pk_eq (k := 91) (by omega)
  have q123 : pkM s j = 123 ↔ byteM s j = 123 := pk_eq (k := 123) (by omega)
  rw [bin_eql]
  simp only [isB_f, isB_t, isB_gd_t, bin_geq, bin_leq, GdW_pure, GdW_nest_and, List.getD_cons_zero, pick_gd_or]
  intros
  rw [pk_dig, condW_b]
  have hthr : ∀ {w' : World} {e : Int} {j' : Nat}, Chg (Cr p) w5 w' → Thr w p e j' → Thr w' p e j' := fun hc ht => ht.from (hc5.trans hc)
  refine ⟨fun e => ?_, fun e => ?_⟩
  · have e : byteM s j = 45 ∨ isDig (byteM s j) = true := by
      rw [Bool.or_eq_true, decide_eq_true_iff] at e
      exact e.imp q45.1 id
    rw [if_pos e] at hok hbad
    refine number_p h5 hj (by omega) (fun v j' c' hv cs w6 h6 hc6 hr6 => ?_) (fun e1 j' hv => (hbad _ _ hv).from hc5)
    exact ret (w7 := w6) h6 hc6 hr6 fun cs w' h' hc' hr' => hok _ _ _ hv cs w' h' hc' hr'
  have e : ¬ (byteM s j = 45 ∨ isDig (byteM s j) = true) := by
    rw [Bool.or_eq_false_iff, decide_eq_false_iff_not] at e
    rintro (h | h)
    · exact e.1 (q45.2 h)
    · rw [e.2] at h; cases h
  rw [if_neg e] at hok hbad
  rw [bin_eql, condW_dec]
  refine ⟨fun e => ?_, fun e => ?_⟩
  · have e := q34.1 e
    rw [if_pos e] at hok hbad
    have hlt := byte_lt (s := s) (i := j) (by omega)
    refine quoted_p h5 (hT.rd h hc5) (hE.rd h hc5) hlt (by omega) (fun t j' c' hq w6 h6 hc6 => ?_) (fun e1 j' hq => ?_)
    · rw [hq] at hok
      refine textv_p fun w7 hx7 => ?_
      unfold quotM at hq
      obtain ⟨_, _, a3, _⟩ := quot_back hq .nil
      exact ret (w7 := w7) (h6.ext hx7) (hc6.then hx7 fun _ _ e => e.elim) (leaf_rep (by omega)) fun cs w' h' hc' hr' => hok _ _ _ rfl cs w' h' hc' hr'
    · rw [hq] at hbad
      exact (hbad _ _ rfl).from hc5
  rw [if_neg (fun h => e (q34.2 h))] at hok hbad
  rw [bin_eql, condW_dec]
  refine ⟨fun e => ?_, fun e => ?_⟩
  · have e := q91.1 e
    rw [if_pos e] at hok hbad
    have hlt := byte_lt (s := s) (i := j) (by omega)
    refine list_p ih h5 (hT.rd h hc5) (hE.rd h hc5) hlt hs (by omega) (by omega) (by omega) (fun v j' c' hv cs w6 h6 hc6 hr6 => ?_) (fun e1 j' hv => (hbad _ _ hv).from hc5)
    exact ret (w7 := w6) h6 hc6 hr6 fun cs w' h' hc' hr' => hok _ _ _ hv cs w' h' hc' hr'
  rw [if_neg (fun h => e (q91.2 h))] at hok hbad
  rw [bin_eql, condW_dec]
  refine ⟨fun e => ?_, fun e => ?_⟩
  · have e := q123.1 e
    rw [if_pos e] at hok hbad
    have hlt := byte_lt (s := s) (i := j) (by omega)
    refine object_p ih h5 (hT.rd h hc5) (hE.rd h hc5) hlt hs (by omega) (by omega) (by omega) (fun v j' c' hv cs w6 h6 hc6 hr6 => ?_) (fun e1 j' hv => (hbad _ _ hv).from hc5)
    exact ret (w7 := w6) h6 hc6 hr6 fun cs w' h' hc' hr' => hok _ _ _ hv cs w' h' hc' hr'
  rw [if_neg (fun h => e (q123.2 h))] at hbad
  refine h5.ld rfl ?_
  exact fail_p ((hbad _ _ rfl).from hc5)
end
theorem as_diag (v : Value) (w : World) : (Instr.typeAssert (.iface DT v) 20 DT false).run Tryz.prog w = .ok v w := by kernel_rfl
theorem nil_idle (w : World) (K : Value → Prop) : eqQ Tryz.prog .neq 20 false true .nilIface .nilIface w K ↔ K (.bool false) := by
  have h : (do eqGuard .neq 20 (stand false) (stand true) .nilIface .nilIface; binOp .neq 20 .nilIface .nilIface : Sem Value).run Tryz.prog w = .ok (.bool false) w := by kernel_rfl
  unfold eqQ semQ
  rw [h]
  exact ⟨fun ⟨v, h1, h2⟩ => by cases h1; exact h2, fun h2 => ⟨_, rfl, h2⟩⟩
theorem nil_thrown (v : Value) (w : World) (K : Value → Prop) : eqQ Tryz.prog .neq 20 false true (.iface DT v) .nilIface w K ↔ K (.bool true) := by
  have h : (do eqGuard .neq 20 (stand false) (stand true) (.iface DT v) .nilIface; binOp .neq 20 (.iface DT v) .nilIface : Sem Value).run Tryz.prog w = .ok (.bool true) w := by kernel_rfl
  unfold eqQ semQ
  rw [h]
  exact ⟨fun ⟨v, h1, h2⟩ => by cases h1; exact h2, fun h2 => ⟨_, rfl, h2⟩⟩
theorem rec_idle {a b : Value} {w : World} {K : World → Prop} (hK : K w) : DefC Tryz.prog 56 [a, b] .returning w K := by
  letI := noX
  refine R56_ok .idle ?_
  unfold R56
  rw [nil_idle, condW_false]
  exact hK
abbrev zv5 : List Value := [.int .i64 0, .bool false, .string (ofL []), .slice none 0 0, .slice none 0 0]
theorem rec_thrown {a b d : Nat} {cs ds : List Value} {w : World} {K : World → Prop} (ha : w.heap[a]? = some (.cells cs.toArray VT (0, 0))) (hl : cs.length = 5) (hb : w.heap[b]? = some (.cells ds.toArray DT (0, 0))) (hd : ds.length = 1) (hab : a ≠ b)
    (hK : ∀ w', Chg (fun k => k = a ∨ k = b) w w' → w'.heap[a]? = some (.cells zv5.toArray VT (0, 0)) → w'.heap[b]? = some (.cells [.pointer (some ⟨d, 0, none⟩)].toArray DT (0, 0)) → K w') :
    DefC Tryz.prog 56 [.pointer (some ⟨a, 0, none⟩), .pointer (some ⟨b, 0, none⟩)] (.panicking [{ v := .iface DT (.pointer (some ⟨d, 0, none⟩)), recovered := false }]) w K := by
  letI := noX
  refine R56_ok (.thrown _) ?_
  unfold R56
  rw [nil_thrown, condW_true, put_nil]
  refine ⟨_, as_diag _ _, ?_⟩
  refine st_agg_at (l := zv5) (w := w.drew) ha rfl hl rfl fun w2 hz2 ha2 hc2 => ?_
  refine ⟨⟨_, as_diag _ _, rfl⟩, ?_⟩
  have hb2 := hc2.at (w := w.drew) hb (fun e => hab e.symm)
  refine st_at hb2 rfl (by rw [List.size_toArray]; omega) fun w3 hz3 hb3 hc3 => ?_
  refine hK w3 ?_ (hc3.at ha2 hab) (by
    rw [hb3]
    match ds, hd with
    | [x], _ => simp)
  exact ((Chg.drew (Chg.refl _ w)).trans (hc2.mono fun k _ e => .inl e)).trans (hc3.mono fun k _ e => .inr e)
end Go.Proofs.YtnoepcndjljolaaGreatDoor
namespace Go.Proofs.YtnoepcndjljolaaGreatDoor
open Go Go.Eng Go.RowKit
set_option maxRecDepth 100000
abbrev DgT : TypeId := 150
section
variable [HX]
theorem decode_p {s : Str} {w : World} {K : Value → World → Prop} (hT : TabU w) (hE : TabE w) (hs : s.length ≤ 9223372036854775807)
    (hok : ∀ v j c, decM En s = .ok v j c → ∀ cs w', Ext w w' → VRepP (From w.heap.size) w' v cs → K (.tuple #[.agg cs.toArray, .pointer none]) w')
    (hbad : ∀ e i, decM En s = .bad e i → ∀ d w', Ext w w' → w.heap.size ≤ d → w'.heap[d]? = some (.cells [i64 e, str [], i64 (i : Nat)].toArray DgT (0, 0)) → K (.tuple #[.agg zv5.toArray, .pointer (some ⟨d, 0, none⟩)]) w') :
    callF Tryz.prog 27 [str s] w K := by
  refine W27_ok ?_
  unfold W27
  refine alloc_new fun a w1 ha hz1 hba hx1 => ?_
  refine alloc_new fun b w2 hb hz2 hbb hx2 => ?_
  have hba := hx2.at hba id
  have hx02 := hx1.trans hx2
  letI H : HX := ⟨fun ch x3 => DefC Tryz.prog 56 [.pointer (some ⟨a, 0, none⟩), .pointer (some ⟨b, 0, none⟩)] (.panicking ch) x3 fun w3 => ldW true 5 (.pointer (some ⟨a, 0, none⟩)) w3 fun r4 => ldW false 1 (.pointer (some ⟨b, 0, none⟩)) w3 fun r5 => K (.tuple #[r4, r5]) w3⟩
  have hab : a ≠ b := by omega
  unfold decM at hok hbad
  -- what is thrown is handed back
  have thr : ∀ {w3 : World} {p : Nat} {cs ds : List Value} {e : Int} {i : Nat}, (∀ d w', Ext w w' → w.heap.size ≤ d → w'.heap[d]? = some (.cells [i64 e, str [], i64 (i : Nat)].toArray DgT (0, 0)) → K (.tuple #[.agg zv5.toArray, .pointer (some ⟨d, 0, none⟩)]) w') →
      Ext w w3 → w3.heap[a]? = some (.cells cs.toArray VT (0, 0)) → cs.length = 5 → w3.heap[b]? = some (.cells ds.toArray DT (0, 0)) → ds.length = 1 → w2.heap.size ≤ p → Thr w3 p e i := fun {w3 p cs ds e i} hbad hx h1 h2 h3 h4 hp d w' hd hc hbd => by
    show DefC _ _ _ _ _ _
    have s3 := at_lt h3
    refine rec_thrown (hc.at h1 fun e => by have e : a = p := e; omega) h2 (hc.at h3 fun e => by have e : b = p := e; omega) h4 hab fun w'' hc'' h1'' h3'' => ?_
    refine ld_all h1'' rfl ?_
    rw [ld_one]
    refine ⟨_, by rw [cell_eq, h3'']; rfl, ?_⟩
    have hlt := at_lt hbd
    refine hbad d w'' ?_ (by have := hx.size; omega) (hc''.at hbd (by rintro (e | e) <;> omega))
    exact (hx.then hc fun k hk e => by have e : k = p := e; omega).then hc'' fun k hk e => by rcases e with e | e <;> omega
  refine JoinW.cut (fun st w' => w' = w2 ∧ ¬ 65536 < s.length) ?_ ?_
  · rw [lens_str, bin_gtr, condW_dec]
    refine ⟨fun e => ?_, fun e => ⟨rfl, by omega⟩⟩
    rw [if_pos (by omega)] at hbad
    exact fail_p (p := w2.heap.size) (i := 0) (thr (hbad _ _ rfl) hx02 hba rfl hbb rfl (Nat.le_refl _))
  rintro st g w3 ⟨rfl, hlen⟩
  rw [if_neg hlen] at hok hbad
  simp only [put_int, put_str, put_nil, List.length_cons, List.length_nil, List.set_cons_zero, List.set_cons_succ]
  refine ⟨by omega, ?_⟩
  refine box_new (z := [str s, i64 0, i64 0]) fun p w4 hp hz4 hb4 hx4 => ?_
  have hx04 := hx02.trans hx4
  have hR : Rdr w4 p s 0 0 := hb4
  have hba4 := hx4.at hba id
  have hbb4 := hx4.at hbb id
  have hT4 := hT.ext hx04
  have hE4 := hE.ext hx04
  refine value_p 5000 (deep := 1) hR hT4 hE4 (Nat.zero_le _) (by omega) (by omega) (by omega) (by omega) (fun v j c hv cs w5 h5 hc5 hr5 => ?_) (fun e i hv => ?_)
  · rw [hv] at hok hbad
    simp only at hok hbad
    have hbk := val_back (Nat.zero_le _) (Nat.zero_le _) hv
    have hba5 := hc5.at hba4 fun e => by have e : a = p := e; omega
    have hbb5 := hc5.at hbb4 fun e => by have e : b = p := e; omega
    refine st_agg_at hba5 hr5.rep.len rfl hr5.rep.all_one fun w6 hz6 hba6 hc6 => ?_
    have hbb6 := hc6.at hbb5 (by omega)
    have h6 := hc6.at h5 (by omega)
    have hr6 : VRepP (From w4.heap.size) w6 v cs := VRepP.chg hc6 (fun q hq _ e => by have : w4.heap.size ≤ q := hq; omega) hr5
    have hx06 : Ext w w6 := (hx04.then hc5 fun k hk e => by have e : k = p := e; omega).then hc6 fun k hk e => by omega
    refine blanks_p h6 hbk.fits (by omega) fun w7 h7 hc7 => ?_
    have hx07 : Ext w w7 := hx06.then hc7 fun k hk e => by have e : k = p := e; omega
    have hba7 := hc7.at hba6 fun e => by have e : a = p := e; omega
    have hbb7 := hc7.at hbb6 fun e => by have e : b = p := e; omega
    refine JoinW.cut (fun st w' => w' = w7 ∧ ¬ blankM s j < s.length) ?_ ?_
    · refine h7.ld rfl ?_
      rw [lens_str, bin_lss, condW_dec]
      refine ⟨fun e => ?_, fun e => ⟨rfl, by omega⟩⟩
      rw [if_pos (by omega)] at hbad
      refine h7.ld rfl ?_
      exact fail_p (p := p) (thr (hbad _ _ rfl) hx07 hba7 hr5.rep.len hbb7 rfl (by omega))
    rintro st g2 w8 ⟨rfl, hend⟩
    rw [if_neg hend] at hok
    refine ld_all hba7 hr5.rep.len ?_
    refine st_agg_at hba7 hr5.rep.len hr5.rep.len hr5.rep.all_one fun w9 hz9 hba9 hc9 => ?_
    have hbb9 := hc9.at hbb7 (by omega)
    refine st_at hbb9 rfl (by simp) fun w10 hz10 hbb10 hc10 => ?_
    have hba10 := hc10.at hba9 hab
    refine rec_idle ?_
    refine ld_all hba10 hr5.rep.len ?_
    rw [ld_one]
    refine ⟨.pointer none, by rw [cell_eq, hbb10]; simp [cellO_some], ?_⟩
    have hx10 : Ext w w10 := (hx07.then hc9 fun k hk e => by omega).then hc10 fun k hk e => by omega
    refine hok _ _ _ rfl cs w10 hx10 ?_
    have hr7 : VRepP (From w4.heap.size) w8 v cs := VRepP.chg hc7 (fun q hq _ e => by have : w4.heap.size ≤ q := hq; have e : q = p := e; omega) hr6
    refine VRepP.mono (fun q _ hq => ?_) (VRepP.chg hc10 (fun q hq _ e => ?_) (VRepP.chg hc9 (fun q hq _ e => ?_) hr7))
    · have : w4.heap.size ≤ q := hq
      show w.heap.size ≤ q
      omega
    · have : w4.heap.size ≤ q := hq; omega
    · have : w4.heap.size ≤ q := hq; omega
  · rw [hv] at hbad
    exact thr (hbad _ _ rfl) hx04 hba4 rfl hbb4 rfl (by omega)
end
end Go.Proofs.YtnoepcndjljolaaGreatDoor
namespace Go.Proofs.YtnoepcndjljolaaGreatDoor
open Go Go.Eng Go.RowKit
set_option maxRecDepth 100000
structure TabJ (w : World) : Prop where
  utf : TabU w
  bru : TabB w
  err : TabE w
theorem TabJ.ext {w w' : World} (h : TabJ w) (hx : Ext w w') : TabJ w' := ⟨h.utf.ext hx, cell_ext hx h.bru, h.err.ext hx⟩
section
variable [HX]
theorem eqp_nn (n : Bool) (K : Value → Prop) : eqW .ptr n (.pointer none) (.pointer none) K ↔ K (.bool (!n)) := by cases n <;> exact Iff.rfl
theorem eqp_sn (n : Bool) (a : Addr) (K : Value → Prop) : eqW .ptr n (.pointer (some a)) (.pointer none) K ↔ K (.bool n) := Iff.rfl
theorem keep_val {w : World} {v : JV} {cs : List Value} {K : Value → World → Prop} (h : VRep w v cs) (hK : ∀ a w' sv kv, ValB w' a v sv kv → Ext w w' → K (.pointer (some ⟨a, 0, none⟩)) w') :
    allocW VT [(.int .i64 0), (.bool false), (.string (ofL [])), (.slice none 0 0), (.slice none 0 0)] w fun t1 w2 => stW 5 t1 (.agg cs.toArray) w2 fun w3 => K t1 w3 := copy_new h hK
end
end Go.Proofs.YtnoepcndjljolaaGreatDoor

namespace Go.Proofs.YtnoepcndjljolaaGreatDoor
open Go Go.Eng Go.RowKit
set_option maxRecDepth 100000
theorem enc_ok {v : JV} (h : (encM 1 20 31 3 v).2 = 0) : Eng.Item 24 v ∧ cntM v ≤ 2000 ∧ (showM v).length ≤ 65536 ∧ encM 1 20 31 3 v = (showM v, 0) := by
  unfold encM at h ⊢
  split at h
  · cases h
  split at h
  · cases h
  split at h
  · cases h
  split at h
  · cases h
  rename_i h1 h2 h3 h4
  have hg : goodM v = true := by simpa using h1
  have hg' := hg
  simp only [goodM, Bool.and_eq_true, decide_eq_true_eq] at hg'
  refine ⟨⟨hg'.2, by simpa using h3, by simpa using h2, hg'.1.2⟩, good_cnt hg, by omega, ?_⟩
  rw [if_neg h1, if_neg h2, if_neg h3, if_neg h4]
section
variable [HX]
end
end Go.Proofs.YtnoepcndjljolaaGreatDoor

namespace Go.Proofs.YtnoepcndjljolaaGreatDoor
open Go Go.Eng Go.RowKit
set_option maxRecDepth 100000
def DRep (w : World) (d : Value) : RR JV → Prop
  | .ok _ _ _ => d = .pointer none
  | .bad e i => ∃ b, d = .pointer (some ⟨b, 0, none⟩) ∧ w.heap[b]? = some (.cells [i64 e, str [], i64 (i : Nat)].toArray DgT (0, 0))
theorem DRep.ext {w w' : World} {d : Value} {r : RR JV} (h : DRep w d r) (hx : Ext w w') : DRep w' d r := by
  cases r with
  | ok v j c => exact h
  | bad e i => obtain ⟨b, h1, h2⟩ := h; exact ⟨b, h1, hx.at h2 id⟩
section
variable [HX]
end
end Go.Proofs.YtnoepcndjljolaaGreatDoor
namespace Go.Proofs.YtnoepcndjljolaaGreatDoor
open Go Go.Eng Go.RowKit
set_option maxRecDepth 100000
section
variable [HX]
theorem bad_ref {s : Str} {w : World} {K : Value → World → Prop} (hl : s.length ≤ 4611686018427387904) (hK : ∀ r : Int, decide (0 ≤ r) = !utfM s → K (i64 r) w) : callF Tryz.prog 64 [str s] w K := by
  refine W64_ok ?_
  unfold W64
  refine LoopW.go (fun st w' => w' = w ∧ ∃ i n : Nat, st = [i64 (i : Nat)] ∧ i ≤ s.length ∧ s.length ≤ n + i ∧ utfGo s n i = utfM s) (fun st _ => match st with | [.int _ i] => s.length - i.toNat | _ => 0) ⟨rfl, 0, s.length, rfl, Nat.zero_le _, by omega, rfl⟩ ?_
  rintro st g w2 ⟨rfl, i, n, rfl, hi, hn, hu⟩
  simp only [List.getD_cons_zero]
  rw [lens_str, bin_lss, condW_dec]
  refine ⟨fun hlt => ?_, fun hge => ?_⟩
  · have hlt : i < s.length := by omega
    obtain ⟨n, rfl⟩ : ∃ m, n = m + 1 := ⟨n - 1, by omega⟩
    rw [utfGo, if_neg (by omega)] at hu
    refine rune_ref hl (by omega) ?_
    rw [bin_eql, condW_dec]
    refine ⟨fun e => ?_, fun e => ?_⟩
    · rw [if_pos (by omega)] at hu
      refine hK _ ?_
      rw [← hu, decide_eq_true (by omega)]; rfl
    · have hr : runeM s i ≠ 0 := by omega
      rw [if_neg hr] at hu
      have hf := rune_fits hr
      rw [bin_add, upk (by omega)]
      refine ⟨⟨rfl, i + runeM s i, n, rfl, hf, by omega, hu⟩, ?_⟩
      simp only [Int.toNat_natCast]
      omega
  · have e : utfGo s n i = true := by
      cases n with
      | zero => rw [utfGo]; exact decide_eq_true (by omega)
      | succ n => rw [utfGo, if_pos (by omega)]
    rw [e] at hu
    exact hK _ (by rw [← hu]; rfl)
theorem textsr_ref (v : JV) : ∀ {cs : List Value} {w : World} {K : Value → World → Prop}, fewM v = true → (∀ s ∈ v.ks, s.length ≤ 4611686018427387904) → VRep w v cs → plainM v = true → (∀ w', Ext w w' → K (.bool (textsM v)) w') → callF Tryz.prog 124 [.agg cs.toArray] w K := by
  induction v using JV.ind' with
  | h v ih =>
    intro cs w K hfew hks h hp hK
    rw [fewM_eq, fewL_all] at hfew
    simp only [Bool.and_eq_true, decide_eq_true_eq, List.all_eq_true] at hfew
    obtain ⟨⟨f1, f2⟩, f3⟩ := hfew
    rw [plainM_eq, Bool.and_eq_true, plainL_all, List.all_eq_true] at hp
    have hh := headOk_out hp.1
    have htl : v.t.length ≤ 4611686018427387904 := by
      by_cases ht : v.t = []
      · rw [ht]; simp
      · rcases hh.2.2.2.1 ht with h3 | h4
        · obtain ⟨_, g2, _, _⟩ := Go.Num.goodN_out (hh.2.2.2.2.2.2.1 h3)
          have : v.t.length ≤ (Go.Num.dig v.t).length + 1 := by
            cases v.t with
            | nil => simp
            | cons a r =>
              by_cases h45 : a = 45
              · simp [Go.Num.dig, h45]
              · simp [Go.Num.dig, h45]
          omega
        · have := hh.2.2.2.2.2.2.2.1 h4; omega
    rw [textsM_eq] at hK
    refine W124_ok ?_
    unfold W124
    refine box_val h fun a w1 sv kv hB hx1 ha => ?_
    rw [fld_ptr, ld_one]
    refine ⟨str v.t, by rw [add_mk, cell_eq, hB.hb]; rfl, ?_⟩
    refine bad_ref htl fun r hr => ?_
    rw [bin_geq, hr, condW_b]
    refine ⟨fun e => ?_, fun e => ?_⟩
    · have e : utfM v.t = false := by simpa using e
      rw [e] at hK
      exact hK w1 hx1
    have ht : utfM v.t = true := by simpa using e
    rw [ht, Bool.true_and] at hK
    rw [fld_ptr, ld_one]
    refine ⟨kv, by rw [add_mk, cell_eq, hB.hb]; rfl, ?_⟩
    rw [hB.lenk]
    refine loop_up v.ks.length (fun i w' => w' = w1 ∧ (v.ks.take i).all utfM = true) ⟨rfl, by simp⟩ ?_ ?_
    · rintro i w4 g L hi ⟨rfl, hall⟩ hL
      obtain ⟨k, hk⟩ : ∃ k, v.ks[i]? = some k := ⟨_, List.getElem?_eq_getElem hi⟩
      simp only [List.getD_cons_zero]
      rw [bin_lss, decide_eq_true (by omega), condW_true, fld_ptr, ld_one]
      refine ⟨kv, by rw [add_mk, cell_eq, hB.hb]; rfl, ?_⟩
      refine hB.key hk ?_
      refine bad_ref (hks k (List.mem_of_getElem? hk)) fun r hr => ?_
      rw [bin_geq, hr, condW_b]
      refine ⟨fun e => ?_, fun e => ?_⟩
      · have e : utfM k = false := by simpa using e
        have := hK w4 hx1
        rw [all_no hk e, Bool.false_and] at this
        exact this
      · have e : utfM k = true := by simpa using e
        rw [bin_add, up1 (by omega)]
        exact hL w4 ⟨rfl, by rw [all_take hk, hall, e]; rfl⟩
    rintro w4 g L ⟨rfl, hall⟩
    rw [List.take_length] at hall
    rw [hall, Bool.true_and] at hK
    simp only [List.getD_cons_zero]
    rw [bin_lss, decide_eq_false (by omega), condW_false, fld_ptr, ld_one]
    refine ⟨sv, by rw [add_mk, cell_eq, hB.hb]; rfl, ?_⟩
    rw [hB.lenx]
    refine loop_up v.xs.length (fun i w' => Ext w4 w' ∧ (v.xs.take i).all textsM = true) ⟨Chg.refl _ _, by simp⟩ ?_ ?_
    · rintro i w7 g L hi ⟨hx7, hall⟩ hL
      obtain ⟨x, hxi⟩ : ∃ x, v.xs[i]? = some x := ⟨_, List.getElem?_eq_getElem hi⟩
      have hB7 := hB.ext hx7
      simp only [List.getD_cons_zero]
      rw [bin_lss, decide_eq_true (by omega), condW_true, fld_ptr, ld_one]
      refine ⟨sv, by rw [add_mk, cell_eq, hB7.hb]; rfl, ?_⟩
      refine hB7.item hxi fun cs2 h2 => ?_
      have hxm := List.mem_of_getElem? hxi
      refine ih x hxm (f3 x hxm) (fun s hs => ?_) h2 (hp.2 x hxm) fun w8 hx8 => ?_
      · have hpx := hp.2 x hxm
        rw [plainM_eq, Bool.and_eq_true] at hpx
        have := keysOk_len (headOk_out hpx.1).2.2.2.2.2.2.2.2.2 s hs
        omega
      rw [un_not, condW_b]
      refine ⟨fun e => ?_, fun e => ?_⟩
      · have e : textsM x = false := by simpa using e
        have := hK w8 ((hx1.trans hx7).trans hx8)
        rw [textsL_all, all_no hxi e] at this
        exact this
      · have e : textsM x = true := by simpa using e
        rw [bin_add, up1 (by omega)]
        exact hL w8 ⟨hx7.trans hx8, by rw [all_take hxi, hall, e]; rfl⟩
    rintro w7 g L ⟨hx7, hall⟩
    rw [List.take_length] at hall
    simp only [List.getD_cons_zero]
    rw [bin_lss, decide_eq_false (by omega), condW_false]
    have := hK w7 (hx1.trans hx7)
    rw [textsL_all, hall] at this
    exact this
end
end Go.Proofs.YtnoepcndjljolaaGreatDoor
namespace Go.Proofs.YtnoepcndjljolaaGreatDoor
open Go Go.Eng Go.RowKit
set_option maxRecDepth 100000
section
variable [HX]
theorem row_b {c : UInt8} {w : World} {K : Value → World → Prop} (hK : ∀ t w', SlAt w' U8 t 1 (u8s [c]) → Ext w w' → K t w') : bslW U8 1 [(.int .u8 0)] [(0, 1, .int .u8 (c.toNat : Nat))] w K := by
  rw [bslW]
  simp only [put_int, put_nil, List.length_cons, List.length_nil, List.set_cons_zero]
  refine ⟨by omega, ?_⟩
  refine hK _ _ ⟨_, _, rfl, Nat.le_refl _, fun e => (by cases e), fun _ => ⟨_, _, _, _, rfl, heap_anew _ _ _ rfl, fun i _ => by rw [Nat.zero_add]; simp [u8s]⟩⟩ (Chg.alloc (Chg.refl _ _) _)
end
end Go.Proofs.YtnoepcndjljolaaGreatDoor
namespace Go.Proofs.YtnoepcndjljolaaGreatDoor
open Go Go.Eng Go.RowKit
set_option maxRecDepth 100000
section
variable [HX]
theorem row_b2 {c d : UInt8} {w : World} {K : Value → World → Prop} (hK : ∀ t w', SlAt w' U8 t 2 (u8s [c, d]) → Ext w w' → K t w') : bslW U8 2 [(.int .u8 0), (.int .u8 0)] [(0, 1, .int .u8 (c.toNat : Nat)), (1, 1, .int .u8 (d.toNat : Nat))] w K := by
  rw [bslW]
  simp only [put_int, put_nil, List.length_cons, List.length_nil, List.set_cons_zero, List.set_cons_succ]
  refine ⟨by omega, by omega, ?_⟩
  refine hK _ _ ⟨_, _, rfl, Nat.le_refl _, fun e => (by cases e), fun _ => ⟨_, _, _, _, rfl, heap_anew _ _ _ rfl, fun i _ => by rw [Nat.zero_add]; simp [u8s]⟩⟩ (Chg.alloc (Chg.refl _ _) _)
theorem row_b6 {a b c d e f : UInt8} {w : World} {K : Value → World → Prop} (hK : ∀ t w', SlAt w' U8 t 6 (u8s [a, b, c, d, e, f]) → Ext w w' → K t w') :
    bslW U8 6 [(.int .u8 0), (.int .u8 0), (.int .u8 0), (.int .u8 0), (.int .u8 0), (.int .u8 0)] [(0, 1, .int .u8 (a.toNat : Nat)), (1, 1, .int .u8 (b.toNat : Nat)), (2, 1, .int .u8 (c.toNat : Nat)), (3, 1, .int .u8 (d.toNat : Nat)), (4, 1, .int .u8 (e.toNat : Nat)), (5, 1, .int .u8 (f.toNat : Nat))] w K := by
  rw [bslW]
  simp only [put_int, put_nil, List.length_cons, List.length_nil, List.set_cons_zero, List.set_cons_succ]
  refine ⟨by omega, by omega, by omega, by omega, by omega, by omega, ?_⟩
  refine hK _ _ ⟨_, _, rfl, Nat.le_refl _, fun e => (by cases e), fun _ => ⟨_, _, _, _, rfl, heap_anew _ _ _ rfl, fun i _ => by rw [Nat.zero_add]; simp [u8s]⟩⟩ (Chg.alloc (Chg.refl _ _) _)
theorem app_l {w w1 : World} {B : Nat} {v t : Value} {l m : Str} {K : Value → World → Prop} (h : Own w B U8 1 v l.length (u8s l)) (hx : Ext w w1) (ht : SlAt w1 U8 t m.length (u8s m)) (hl : l.length + m.length ≤ 100000000000) (hB : B ≤ w.heap.size) (hK : ∀ v' w', Own w' B U8 1 v' (l ++ m).length (u8s (l ++ m)) → Chg (fun q => B ≤ q) w w' → K v' w') :
    semE Tryz.prog (Builtin.append_ #[27, 27] 27 #[v, t]) w1 K := by
  refine append_own3 elem_u8 (own_chg h hx fun _ _ e => e) ht (by rw [u8s_length, Nat.mul_one]) (u8s_one _) (by omega) (by omega) (by have := hx.size; omega) fun v' w2 hO hc _ => ?_
  refine hK v' w2 (by rw [u8s_app, List.length_append]; exact hO) ((Chg.of_ext hx).trans (hc.mono fun q _ e => (own_in h e).1))
theorem quote_ref {s : Str} {w : World} {K : Value → World → Prop} (hl : s.length ≤ 1000000000) (hK : ∀ w', Ext w w' → K (str (quoteM s)) w') : callF Tryz.prog 99 [str s] w K := by
  refine W99_ok ?_
  unfold W99
  have e34 : (.int .u8 34 : Value) = .int .u8 (((34 : UInt8).toNat : Nat) : Int) := rfl
  have first : ∀ {K : Value → World → Prop}, (∀ v w', Own w' w.heap.size U8 1 v ([34] : Str).length (u8s [34]) → Ext w w' → K v w') → bslW U8 1 [(.int .u8 0)] [(0, 1, .int .u8 34)] w K := fun {K} hK => by
    rw [bslW]
    simp only [put_int, put_nil, List.length_cons, List.length_nil, List.set_cons_zero]
    refine ⟨by omega, ?_⟩
    refine hK _ _ ⟨rfl, .inr ⟨w.heap.size, 1, _, rfl, Nat.le_refl _, heap_anew _ _ _ rfl, Nat.le_refl _, by decide, rfl, by simp [u8s]⟩⟩ (Chg.alloc (Chg.refl _ _) _)
  refine first fun v0 w1 hO1 hx1 => ?_
  refine LoopW.go (fun st w' => ∃ (i : Nat) (v : Value), i ≤ s.length ∧ st = [v, i64 (i : Nat)] ∧ Ext w w' ∧ Own w' w.heap.size U8 1 v ([34] ++ (s.take i).flatMap escB).length (u8s ([34] ++ (s.take i).flatMap escB))) (fun st _ => match st with | [_, .int _ i] => s.length - i.toNat | _ => 0)
    ⟨0, v0, Nat.zero_le _, rfl, hx1, by simpa using hO1⟩ ?_
  rintro st g w3 ⟨i, v, hi, rfl, hx3, hO3⟩
  simp only [List.getD_cons_zero, List.getD_cons_succ]
  have hfl := flat_len (s.take i)
  have htl : (s.take i).length = i := by rw [List.length_take]; omega
  have hol : ([34] ++ (s.take i).flatMap escB).length ≤ 6 * i + 1 := by rw [List.length_append, List.length_singleton]; omega
  have hup : ∀ {w1 w2 : World}, Ext w w1 → Chg (fun q => w.heap.size ≤ q) w1 w2 → Ext w w2 := fun hx hc => hx.then hc fun q hq e => by omega
  rw [lens_str, bin_lss, condW_dec]
  refine ⟨fun hlt => ?_, fun hge => ?_⟩
  · obtain ⟨c, hc⟩ : ∃ c, s[i]? = some c := ⟨_, List.getElem?_eq_getElem (by omega)⟩
    have etake : s.take (i + 1) = s.take i ++ [c] := by rw [List.take_add_one, hc]; rfl
    have eflat : (s.take (i + 1)).flatMap escB = (s.take i).flatMap escB ++ escB c := by rw [etake, List.flatMap_append]; simp
    have hn := UInt8.toNat_lt c
    refine JoinW.cut (fun st w' => ∃ v', st = [v'] ∧ Ext w w' ∧ Own w' w.heap.size U8 1 v' ([34] ++ (s.take i).flatMap escB ++ escB c).length (u8s ([34] ++ (s.take i).flatMap escB ++ escB c))) ?_ ?_
    · rw [ixs_str]
      refine ⟨by omega, c, by simpa using hc, ?_⟩
      have eqn : ∀ d : UInt8, (((c.toNat : Nat) : Int) = (d.toNat : Int)) ↔ c = d := fun d => ⟨fun h => UInt8.toNat_inj.1 (by omega), fun h => by rw [h]⟩
      have q34 : ((c.toNat : Nat) : Int) = 34 ↔ c = 34 := eqn 34
      have q92 : ((c.toNat : Nat) : Int) = 92 ↔ c = 92 := eqn 92
      have q8 : ((c.toNat : Nat) : Int) = 8 ↔ c = 8 := eqn 8
      have q12 : ((c.toNat : Nat) : Int) = 12 ↔ c = 12 := eqn 12
      have q10 : ((c.toNat : Nat) : Int) = 10 ↔ c = 10 := eqn 10
      have q13 : ((c.toNat : Nat) : Int) = 13 ↔ c = 13 := eqn 13
      have q9 : ((c.toNat : Nat) : Int) = 9 ↔ c = 9 := eqn 9
      refine JoinW.cut (fun st w' => st = [.bool (decide (c = 34) || decide (c = 92))] ∧ w' = w3) ?_ ?_
      · rw [bin_eql, condW_dec]
        refine ⟨fun e => ?_, fun e => ?_⟩
        · rw [decide_eq_true (q34.1 e), decide_eq_true e]
          exact ⟨rfl, rfl⟩
        · rw [bin_eql, decide_eq_false (fun h => e (q34.2 h))]
          refine ⟨?_, rfl⟩
          by_cases h : c = 92
          · rw [decide_eq_true h, decide_eq_true (q92.2 h)]; rfl
          · rw [decide_eq_false h, decide_eq_false (fun e => h (q92.1 e))]; rfl
      rintro st g6 w6 ⟨rfl, rfl⟩
      simp only [List.getD_cons_zero]
      have done : ∀ {v' : Value} {w' : World}, Chg (fun q => w.heap.size ≤ q) w6 w' → Own w' w.heap.size U8 1 v' ([34] ++ (s.take i).flatMap escB ++ escB c).length (u8s ([34] ++ (s.take i).flatMap escB ++ escB c)) →
          ∃ v'', [v'] = [v''] ∧ Ext w w' ∧ Own w' w.heap.size U8 1 v'' ([34] ++ (s.take i).flatMap escB ++ escB c).length (u8s ([34] ++ (s.take i).flatMap escB ++ escB c)) := fun {v' w'} hc hO => ⟨v', rfl, hup hx3 hc, hO⟩
      have two : ∀ (d : UInt8), escB c = [92, d] → bslW U8 2 [(.int .u8 0), (.int .u8 0)] [(0, 1, .int .u8 92), (1, 1, .int .u8 (d.toNat : Nat))] w6 fun t w7 => semE Tryz.prog (Builtin.append_ #[27, 27] 27 #[v, t]) w7 fun t38 w8 =>
          ∃ v'', [t38] = [v''] ∧ Ext w w8 ∧ Own w8 w.heap.size U8 1 v'' ([34] ++ (s.take i).flatMap escB ++ escB c).length (u8s ([34] ++ (s.take i).flatMap escB ++ escB c)) := fun d he => by
        refine row_b2 (c := 92) fun t w7 ht hx7 => ?_
        rw [he]
        refine app_l (m := [92, d]) hO3 hx7 ht (by simp; simp at hol; omega) hx3.size fun v' w8 hO8 hc8 => ?_
        exact ⟨v', rfl, hup hx3 hc8, hO8⟩
      rw [condW_b]
      refine ⟨fun e => ?_, fun e => ?_⟩
      · refine two c ?_
        rw [Bool.or_eq_true, decide_eq_true_iff, decide_eq_true_iff] at e
        unfold escB
        rw [if_pos e]
      rw [Bool.or_eq_false_iff, decide_eq_false_iff_not, decide_eq_false_iff_not] at e
      have n0 : ¬ (c = 34 ∨ c = 92) := fun h => h.elim e.1 e.2
      rw [bin_eql, condW_dec]
      refine ⟨fun e => two 98 (by unfold escB; rw [if_neg n0, if_pos (q8.1 e)]), fun e8 => ?_⟩
      rw [bin_eql, condW_dec]
      refine ⟨fun e => two 102 (by unfold escB; rw [if_neg n0, if_neg (fun h => e8 (q8.2 h)), if_pos (q12.1 e)]), fun e12 => ?_⟩
      rw [bin_eql, condW_dec]
      refine ⟨fun e => two 110 (by unfold escB; rw [if_neg n0, if_neg (fun h => e8 (q8.2 h)), if_neg (fun h => e12 (q12.2 h)), if_pos (q10.1 e)]), fun e10 => ?_⟩
      rw [bin_eql, condW_dec]
      refine ⟨fun e => two 114 (by unfold escB; rw [if_neg n0, if_neg (fun h => e8 (q8.2 h)), if_neg (fun h => e12 (q12.2 h)), if_neg (fun h => e10 (q10.2 h)), if_pos (q13.1 e)]), fun e13 => ?_⟩
      rw [bin_eql, condW_dec]
      refine ⟨fun e => two 116 (by unfold escB; rw [if_neg n0, if_neg (fun h => e8 (q8.2 h)), if_neg (fun h => e12 (q12.2 h)), if_neg (fun h => e10 (q10.2 h)), if_neg (fun h => e13 (q13.2 h)), if_pos (q9.1 e)]), fun e9 => ?_⟩
      have he0 : escB c = if c < 32 then [92, 117, 48, 48, b8 (48 + c.toNat / 16), hexD (c.toNat % 16)] else [c] := by
        unfold escB
        rw [if_neg n0, if_neg (fun h => e8 (q8.2 h)), if_neg (fun h => e12 (q12.2 h)), if_neg (fun h => e10 (q10.2 h)), if_neg (fun h => e13 (q13.2 h)), if_neg (fun h => e9 (q9.2 h))]
      rw [bin_lss, condW_dec]
      refine ⟨fun e => ?_, fun e => ?_⟩
      · have hlt32 : c.toNat < 32 := by omega
        rw [if_pos (show c < 32 from hlt32)] at he0
        rw [bin_quo]
        refine ⟨by decide, ?_⟩
        have ediv : ((c.toNat : Nat) : Int).tdiv 16 = ((c.toNat / 16 : Nat) : Int) := by rw [Int.tdiv_eq_ediv_of_nonneg (by omega)]; omega
        have erem : ((c.toNat : Nat) : Int).tmod 16 = ((c.toNat % 16 : Nat) : Int) := by rw [Int.tmod_eq_emod_of_nonneg (by omega)]; omega
        rw [ediv, wrap_u8 (by omega), bin_add, show (48 : Int) + ((c.toNat / 16 : Nat) : Int) = ((48 + c.toNat / 16 : Nat) : Int) by omega, wrap_u8 (by omega), bin_rem]
        refine ⟨by decide, ?_⟩
        rw [erem]
        have hh : ∀ n : Fin 16, ([48, 49, 50, 51, 52, 53, 54, 55, 56, 57, 97, 98, 99, 100, 101, 102] : Str)[n.val]? = some (hexD n.val) := by decide +kernel
        rw [ixs_str]
        refine ⟨by omega, hexD (c.toNat % 16), (by rw [Int.toNat_natCast]; exact hh ⟨c.toNat % 16, by omega⟩), ?_⟩
        have eb : ((48 + c.toNat / 16 : Nat) : Int) = ((b8 (48 + c.toNat / 16)).toNat : Int) := by
          unfold b8
          rw [UInt8.toNat_ofNat']
          omega
        rw [eb]
        refine row_b6 (a := 92) (b := 117) (c := 48) (d := 48) fun t w7 ht hx7 => ?_
        rw [he0]
        refine app_l (m := [92, 117, 48, 48, b8 (48 + c.toNat / 16), hexD (c.toNat % 16)]) hO3 hx7 ht (by simp; simp at hol; omega) hx3.size fun v' w8 hO8 hc8 => ?_
        exact ⟨v', rfl, hup hx3 hc8, hO8⟩
      · rw [if_neg (show ¬ c < 32 from fun h => e (by have h : c.toNat < 32 := h; omega))] at he0
        refine row_b fun t w7 ht hx7 => ?_
        rw [he0]
        refine app_l (m := [c]) hO3 hx7 ht (by simp; simp at hol; omega) hx3.size fun v' w8 hO8 hc8 => ?_
        exact ⟨v', rfl, hup hx3 hc8, hO8⟩
    rintro st g23 w23 ⟨v', rfl, hx23, hO23⟩
    simp only [List.getD_cons_zero]
    rw [bin_add, up1 (by omega)]
    refine ⟨⟨i + 1, v', by omega, rfl, hx23, ?_⟩, by simp only [Int.toNat_natCast]; omega⟩
    rw [eflat, ← List.append_assoc]
    exact hO23
  · obtain rfl : i = s.length := by omega
    rw [List.take_length] at hO3 hol
    refine row_b (c := 34) fun t w24 ht hx24 => ?_
    refine app_l (m := [34]) hO3 hx24 ht (by simp; simp at hol; omega) hx3.size fun v' w25 hO25 hc25 => ?_
    refine (conv_bytes (e := U8) (by kernel_rfl) (by kernel_rfl) (by kernel_rfl) hO25.sl).2 ?_
    exact hK w25 (hup hx3 hc25)
theorem show_ref (v : JV) : ∀ {cs : List Value} {w : World} {K : Value → World → Prop}, VRep w v cs → plainM v = true → knownM v = true → cntM v ≤ 2000 → (∀ w', Ext w w' → K (str (showM v)) w') → callF Tryz.prog 125 [.agg cs.toArray] w K := by
  induction v using JV.ind with
  | h k bb t xs ks ih =>
    intro cs w K h hp hkn hcnt hK
    have hsl := show_len _ hp
    rw [plainM_eq, Bool.and_eq_true] at hp
    obtain ⟨hp1, hp2⟩ := hp
    have hh := headOk_out hp1
    simp only [JV.k, JV.b, JV.t, JV.xs, JV.ks] at hh hp2
    rw [knownM_eq, Bool.and_eq_true, Bool.not_eq_true', decide_eq_false_iff_not] at hkn
    obtain ⟨hkn1, hkn2⟩ := hkn
    simp only [JV.k, JV.xs] at hkn1 hkn2
    rw [plainL_all, List.all_eq_true] at hp2
    rw [knownL_all, List.all_eq_true] at hkn2
    simp only [cntM] at hcnt hsl
    rw [showM_eq] at hK hsl
    refine W125_ok ?_
    unfold W125
    refine box_val h fun a w1 sv kv hB hx1 ha => ?_
    have hba := hB.hb
    simp only [JV.k, JV.b, JV.t, JV.xs, JV.ks] at hba
    have ld : ∀ {w' : World} {off : Nat} {v : Value} {KK : Value → Prop}, Ext w1 w' → [i64 k, .bool bb, str t, sv, kv][off]? = some v → KK v → fldW off (.pointer (some ⟨a, 0, none⟩)) fun p => ldW false 1 p w' KK := fun {w' off v KK} hx hv hk => by
      rw [fld_ptr, ld_one]
      refine ⟨v, ?_, hk⟩
      rw [add_mk, cell_eq, hx.at hba id, cellO_some, Nat.zero_add]
      simpa using hv
    have r1 : Ext w1 w1 := Chg.refl _ _
    refine ld r1 rfl ?_
    rw [bin_eql, condW_dec]
    refine ⟨fun e0 => ?_, fun e0 => ?_⟩
    · rw [if_pos e0] at hK
      exact hK w1 hx1
    rw [if_neg e0] at hK hsl
    rw [bin_eql, condW_dec]
    refine ⟨fun e2 => ?_, fun e2 => ?_⟩
    · rw [if_pos e2] at hK
      refine ld r1 rfl ?_
      rw [condW_b]
      refine ⟨fun e => ?_, fun e => ?_⟩
      · rw [e] at hK; exact hK w1 hx1
      · rw [e] at hK; exact hK w1 hx1
    rw [if_neg e2] at hK hsl
    rw [bin_eql, condW_dec]
    refine ⟨fun e3 => ?_, fun e3 => ?_⟩
    · rw [if_pos e3] at hK
      refine ld r1 rfl ?_
      exact hK w1 hx1
    rw [if_neg e3] at hK hsl
    rw [bin_eql, condW_dec]
    refine ⟨fun e4 => ?_, fun e4 => ?_⟩
    · rw [if_pos e4] at hK
      refine ld r1 rfl ?_
      have ht4 := hh.2.2.2.2.2.2.2.1 e4
      exact quote_ref (by omega) fun w2 hx2 => hK w2 (hx1.trans hx2)
    rw [if_neg e4] at hK hsl
    refine ld r1 rfl ?_
    have hlx : ∀ K, lenlW sv K ↔ K (i64 (xs.length : Nat)) := hB.lenx
    rw [hlx]
    have hcg := fun n hn => cntS_le xs n hn
    have hfx : xs.length ≤ 9223372036854775807 := hB.fits.1
    have emax : ∀ n : Nat, n ≤ 1000000000 → ((n : Nat) : Int) ≤ IntKind.i64.max := fun n hn => by
      have : IntKind.i64.max = 9223372036854775807 := by decide
      omega
    -- what is written of the items
    obtain ⟨part, hpart⟩ : ∃ part : Nat → Str, part = if k = 6 then partO xs ks else partL xs := ⟨_, rfl⟩
    have hkl : k = 6 → ks.length = xs.length := fun e => hh.2.2.2.2.2.2.2.2.1 e
    have hks := keysOk_len hh.2.2.2.2.2.2.2.2.2
    refine LoopW.go (fun st w' => ∃ i : Nat, i ≤ xs.length ∧ st = [str (sumL part i), i64 (i : Nat)] ∧ Ext w1 w' ∧ (sumL part i).length ≤ 200000 * cntS xs i) (fun st _ => match st with | [_, .int _ i] => xs.length - i.toNat | _ => 0) ⟨0, Nat.zero_le _, rfl, r1, by simp [sumL]⟩ ?_
    rintro st g w4 ⟨i, hi, rfl, hx4, hs4⟩
    simp only [List.getD_cons_zero, List.getD_cons_succ]
    rw [bin_lss, condW_dec]
    refine ⟨fun hlt => ?_, fun hge => ?_⟩
    · have hlt : i < xs.length := by omega
      obtain ⟨x, hxi⟩ : ∃ x, xs[i]? = some x := ⟨_, List.getElem?_eq_getElem hlt⟩
      have hxm := List.mem_of_getElem? hxi
      have hcs := hcg (i + 1) hlt
      rw [cntS, cntAt_get hxi] at hcs
      have hxl := show_len x (hp2 x hxm)
      have hxc := cnt_pos x
      refine JoinW.cut (fun st w' => st = [str (sumL part i ++ (if i = 0 then [] else [44]))] ∧ w' = w4) ?_ ?_
      · rw [bin_gtr, condW_dec]
        refine ⟨fun hpos => ?_, fun hz => ?_⟩
        · rw [bin_sadd]
          refine ⟨emax _ (by simp; omega), ?_⟩
          rw [if_neg (by omega)]
          exact ⟨rfl, rfl⟩
        · rw [if_pos (by omega), List.append_nil]
          exact ⟨rfl, rfl⟩
      rintro st g6 w6 ⟨rfl, rfl⟩
      simp only [List.getD_cons_zero]
      have hcl : (if i = 0 then [] else [44] : Str).length ≤ 1 := by split <;> simp
      refine JoinW.cut (fun st w' => st = [str (sumL part i ++ (if i = 0 then [] else [44]) ++ (if k = 6 then quoteM (ks.getD i []) ++ [58] else []))] ∧ Ext w6 w') ?_ ?_
      · refine ld hx4 rfl ?_
        rw [bin_eql, condW_dec]
        refine ⟨fun e6 => ?_, fun e6 => ?_⟩
        · obtain ⟨key, hki⟩ : ∃ key, ks[i]? = some key := ⟨_, List.getElem?_eq_getElem (by rw [hkl e6]; exact hlt)⟩
          have hkm := List.mem_of_getElem? hki
          have hq := quote_len key
          have hk16 := hks key hkm
          refine ld hx4 rfl ?_
          obtain ⟨T, hkv⟩ := (hB.ext hx4).keys
          refine text_ld hkv hki ?_
          refine quote_ref (by omega) fun w8 hx8 => ?_
          rw [bin_sadd]
          refine ⟨emax _ (by rw [List.length_append]; omega), ?_⟩
          rw [bin_sadd]
          refine ⟨emax _ (by rw [List.length_append, List.length_append]; simp; omega), ?_⟩
          rw [if_pos e6, List.getD_eq_getElem?_getD, hki]
          exact ⟨by simp [List.append_assoc], hx8⟩
        · rw [if_neg e6, List.append_nil]
          exact ⟨rfl, Chg.refl _ _⟩
      rintro st g9 w9 ⟨rfl, hx9⟩
      simp only [List.getD_cons_zero]
      refine ld (hx4.trans hx9) rfl ?_
      refine (hB.ext (hx4.trans hx9)).item hxi fun cs2 h2 => ?_
      have hxcnt : cntM x ≤ 2000 := by have := hcg xs.length (Nat.le_refl _); omega
      refine ih x hxm h2 (hp2 x hxm) (hkn2 x hxm) hxcnt fun w10 hx10 => ?_
      have hplen : (if k = 6 then quoteM (ks.getD i []) ++ [58] else [] : Str).length ≤ 99000 := by
        split
        · rename_i e6
          obtain ⟨key, hki⟩ : ∃ key, ks[i]? = some key := ⟨_, List.getElem?_eq_getElem (by rw [hkl e6]; exact hlt)⟩
          have hq := quote_len key
          have hk16 := hks key (List.mem_of_getElem? hki)
          rw [List.getD_eq_getElem?_getD, hki, List.length_append]
          simp
          omega
        · simp
      have hpi : part i = (if i = 0 then [] else [44]) ++ (if k = 6 then quoteM (ks.getD i []) ++ [58] else []) ++ showM x := by
        rw [hpart]
        by_cases e6 : k = 6
        · rw [if_pos e6, if_pos e6]; unfold partO; rw [hxi]; simp [List.append_assoc]
        · rw [if_neg e6, if_neg e6]; unfold partL; rw [hxi]; simp
      have hsx := hcg xs.length (Nat.le_refl _)
      rw [bin_sadd]
      refine ⟨emax _ (by rw [List.length_append, List.length_append]; omega), ?_⟩
      rw [bin_add, up1 (by omega)]
      refine ⟨⟨i + 1, by omega, ?_, hx4.trans (hx9.trans hx10), ?_⟩, by simp only [Int.toNat_natCast]; omega⟩
      · rw [sum_succ, hpi]; simp [List.append_assoc]
      · rw [sum_succ, List.length_append, cntS, cntAt_get hxi, hpi]
        simp only [List.length_append] at hplen ⊢
        omega
    obtain rfl : i = xs.length := by omega
    have hcs := hcg xs.length (Nat.le_refl _)
    refine ld hx4 rfl ?_
    rw [bin_eql, condW_dec]
    refine ⟨fun e6 => ?_, fun e6 => ?_⟩
    · rw [if_pos e6, ← obj_join (hkl e6)] at hK
      rw [hpart, if_pos e6] at hs4 ⊢
      rw [bin_sadd]
      refine ⟨emax _ (by simp; omega), ?_⟩
      rw [bin_sadd]
      refine ⟨emax _ (by simp; omega), ?_⟩
      exact hK w4 (hx1.trans hx4)
    · rw [if_neg e6, ← list_join] at hK
      rw [hpart, if_neg e6] at hs4 ⊢
      rw [bin_sadd]
      refine ⟨emax _ (by simp; omega), ?_⟩
      rw [bin_sadd]
      refine ⟨emax _ (by simp; omega), ?_⟩
      exact hK w4 (hx1.trans hx4)
theorem encode_ref {v : JV} {cs : List Value} {w : World} {K : Value → World → Prop} (h : VRep w v cs) (hK : ∀ w', Ext w w' → K (.tuple #[str (encM 1 20 31 3 v).1, i64 (encM 1 20 31 3 v).2]) w') : callF Tryz.prog 65 [.agg cs.toArray] w K := by
  refine W65_ok ?_
  unfold W65
  unfold encM at hK
  refine box_val h fun a w1 sv kv hB hx1 ha => ?_
  refine hB.ld fun cs1 h1 => ?_
  refine good_ref h1 fun w2 hx2 => ?_
  rw [un_not, condW_b]
  refine ⟨fun e => ?_, fun e => ?_⟩
  · have e : goodM v = false := by simpa using e
    rw [if_pos e] at hK
    exact hK w2 (hx1.trans hx2)
  have hg : goodM v = true := by simpa using e
  have hgv := good_v hg
  have hcnt := good_cnt hg
  rw [if_neg (by rw [hg]; simp)] at hK
  refine (hB.ext hx2).ld fun cs2 h2 => ?_
  refine known_ref v h2 fun w3 hx3 => ?_
  rw [un_not, condW_b]
  refine ⟨fun e => ?_, fun e => ?_⟩
  · have e : knownM v = false := by simpa using e
    rw [if_pos e] at hK
    exact hK w3 ((hx1.trans hx2).trans hx3)
  have hk : knownM v = true := by simpa using e
  rw [if_neg (by rw [hk]; simp)] at hK
  refine ((hB.ext hx2).ext hx3).ld fun cs3 h3 => ?_
  obtain ⟨_, _, _, hko, _⟩ := hgv.lens
  refine textsr_ref v hgv.few (fun s hs => by have := keysOk_len hko s hs; omega) h3 hgv.plain fun w4 hx4 => ?_
  rw [un_not, condW_b]
  refine ⟨fun e => ?_, fun e => ?_⟩
  · have e : textsM v = false := by simpa using e
    rw [if_pos e] at hK
    exact hK w4 (((hx1.trans hx2).trans hx3).trans hx4)
  have ht : textsM v = true := by simpa using e
  rw [if_neg (by rw [ht]; simp)] at hK
  refine (((hB.ext hx2).ext hx3).ext hx4).ld fun cs4 h4 => ?_
  refine show_ref v h4 hgv.plain hk hcnt fun w5 hx5 => ?_
  have hx05 := ((hx1.trans hx2).trans hx3).trans (hx4.trans hx5)
  rw [lens_str, bin_gtr, condW_dec]
  refine ⟨fun e => ?_, fun e => ?_⟩
  · rw [if_pos (by omega)] at hK
    exact hK w5 hx05
  · rw [if_neg (by omega)] at hK
    exact hK w5 hx05
end
end Go.Proofs.YtnoepcndjljolaaGreatDoor
namespace Go.Proofs.YtnoepcndjljolaaGreatDoor
open Go Go.Eng Go.RowKit
set_option maxRecDepth 100000
abbrev StT : TypeId := 178
abbrev SS (s : Str) (i c : Nat) (e a : Int) : List Value := [str s, i64 (i : Nat), i64 (c : Nat), i64 e, i64 a]
def Cel (w : World) (p : Nat) (s : Str) (i c : Nat) (e a : Int) : Prop := w.heap[p]? = some (.cells (SS s i c e a).toArray StT (0, 0))
theorem Cel.lt {w : World} {p i c : Nat} {e a : Int} {s : Str} (h : Cel w p s i c e a) : p < w.heap.size := at_lt h
theorem Cel.chg {w w' : World} {p i c : Nat} {e a : Int} {s : Str} {S : Nat → Prop} (h : Cel w p s i c e a) (hc : Chg S w w') (hp : ¬ S p) : Cel w' p s i c e a := hc.at h hp
theorem Cel.ext {w w' : World} {p i c : Nat} {e a : Int} {s : Str} (h : Cel w p s i c e a) (hx : Ext w w') : Cel w' p s i c e a := hx.at h id
theorem Cel.drew {w : World} {p i c : Nat} {e a : Int} {s : Str} (h : Cel w p s i c e a) : Cel w.drew p s i c e a := h
theorem Cel.ld {w : World} {p i c : Nat} {e a : Int} {s : Str} {off : Nat} {v : Value} {K : Value → Prop} (h : Cel w p s i c e a) (hv : (SS s i c e a)[off]? = some v) (hk : K v) : fldW off (.pointer (some ⟨p, 0, none⟩)) fun t => ldW false 1 t w K := by
  rw [fld_ptr, ld_one]
  refine ⟨v, ?_, hk⟩
  rw [add_mk, cell_eq, h, cellO_some, Nat.zero_add]
  simpa using hv
theorem Cel.all {w : World} {p i c : Nat} {e a : Int} {s : Str} {K : Value → Prop} (h : Cel w p s i c e a) (hk : K (.agg (SS s i c e a).toArray)) : ldW true 5 (.pointer (some ⟨p, 0, none⟩)) w K := ld_all h rfl hk
theorem Cel.st {w : World} {p i c i' c' : Nat} {e a e' a' : Int} {s : Str} {K : World → Prop} (h : Cel w p s i c e a) (hK : ∀ w', Cel w' p s i' c' e' a' → Chg (Cr p) w w' → w'.heap.size = w.heap.size → K w') : stW 5 (.pointer (some ⟨p, 0, none⟩)) (.agg (SS s i' c' e' a').toArray) w K :=
  st_agg_at h rfl rfl rfl fun w' hz hb hc => hK w' hb hc hz
theorem Cel.st1 {w : World} {p i c i' : Nat} {e a : Int} {s : Str} {K : World → Prop} (h : Cel w p s i c e a) (hK : ∀ w', Cel w' p s i' c e a → Chg (Cr p) w w' → w'.heap.size = w.heap.size → K w') : fldW 1 (.pointer (some ⟨p, 0, none⟩)) fun t => stW 1 t (i64 (i' : Nat)) w K := by
  rw [fld_ptr, add_mk, Nat.zero_add]
  refine st_at h rfl (by simp) fun w' hz hb hc => hK w' ?_ hc hz
  unfold Cel
  rw [hb]; simp
theorem Cel.st2 {w : World} {p i c c' : Nat} {e a : Int} {s : Str} {K : World → Prop} (h : Cel w p s i c e a) (hK : ∀ w', Cel w' p s i c' e a → Chg (Cr p) w w' → w'.heap.size = w.heap.size → K w') : fldW 2 (.pointer (some ⟨p, 0, none⟩)) fun t => stW 1 t (i64 (c' : Nat)) w K := by
  rw [fld_ptr, add_mk, Nat.zero_add]
  refine st_at h rfl (by simp) fun w' hz hb hc => hK w' ?_ hc hz
  unfold Cel
  rw [hb]; simp
theorem Cel.go {w : World} {p i c k : Nat} {e a : Int} {s : Str} {K : World → Prop} (h : Cel w p s i c e a) (hi : i + k ≤ 9223372036854775807) (hK : ∀ w', Cel w' p s (i + k) c e a → Chg (Cr p) w w' → w'.heap.size = w.heap.size → K w') :
    fldW 1 (.pointer (some ⟨p, 0, none⟩)) fun t => ldW false 1 t w fun t => binW .add t (.int .i64 (k : Int)) fun t1 => fldW 1 (.pointer (some ⟨p, 0, none⟩)) fun t => stW 1 t t1 w K := by
  refine h.ld rfl ?_
  rw [bin_add, upk hi]
  exact h.st1 hK
abbrev zs : List Value := [str [], i64 0, i64 0, i64 0, i64 0]
section
variable [HX]
end
end Go.Proofs.YtnoepcndjljolaaGreatDoor

namespace Go.Proofs.YtnoepcndjljolaaGreatDoor
open Go Go.Eng Go.RowKit
set_option maxRecDepth 100000
section
variable [HX]
def celAt (w : World) (p : Nat) : Nat := match w.heap[p]? with | some (.cells cc _ _) => (match (cc[1]? : Option Value) with | some (Value.int _ i) => i.toNat | _ => 0) | _ => 0
theorem Cel.at_ {w : World} {p i c : Nat} {e a : Int} {s : Str} (h : Cel w p s i c e a) : celAt w p = i := by
  unfold Cel at h
  unfold celAt
  rw [h]
  simp
end
end Go.Proofs.YtnoepcndjljolaaGreatDoor

namespace Go.Proofs.YtnoepcndjljolaaGreatDoor
open Go Go.Eng Go.Num
set_option maxRecDepth 100000
theorem VRepsP.get {G : Nat → Prop} {w : World} : ∀ {xs : List JV} {L : List Value} {i : Nat} {x : JV}, VRepsP G w xs L → xs[i]? = some x → ∃ cs, VRepP G w x cs ∧ ∀ j, j < 5 → L[i * 5 + j]? = cs[j]?
  | [], _, _, _, _, h => by simp at h
  | y :: xs, L, 0, x, h, hx => by
    simp only [List.getElem?_cons_zero, Option.some.injEq] at hx
    subst hx
    simp only [VRepsP] at h
    obtain ⟨c, r, rfl, hc, hr⟩ := h
    refine ⟨c, hc, fun j hj => ?_⟩
    rw [Nat.zero_mul, Nat.zero_add, List.getElem?_append_left (by rw [hc.rep.len]; exact hj)]
  | y :: xs, L, i + 1, x, h, hx => by
    simp only [List.getElem?_cons_succ] at hx
    simp only [VRepsP] at h
    obtain ⟨c, r, rfl, hc, hr⟩ := h
    obtain ⟨cs, h1, h2⟩ := VRepsP.get hr hx
    refine ⟨cs, h1, fun j hj => ?_⟩
    rw [List.getElem?_append_right (by rw [hc.rep.len]; omega), hc.rep.len, ← h2 j hj]
    congr 1; omega
theorem VRepP.out {G : Nat → Prop} {w : World} {v : JV} {cs : List Value} (h : VRepP G w v cs) : ∃ sv kv T1 T2 L, cs = [i64 v.k, .bool v.b, str v.t, sv, kv] ∧ SlAt w T1 sv v.xs.length L ∧ VRepsP G w v.xs L ∧ SlAt w T2 kv v.ks.length (v.ks.map str) ∧ Fits v.xs.length v.ks v.t ∧ (L ≠ [] → inG G sv) ∧ (v.ks.map str ≠ [] → inG G kv) := by
  cases v with
  | mk k b t xs ks => simpa only [VRepP, JV.k, JV.b, JV.t, JV.xs, JV.ks] using h
structure ValIP (G : Nat → Prop) (w : World) (v : JV) (sv kv : Value) : Prop where
  items : ∃ T L, SlAt w T sv v.xs.length L ∧ VRepsP G w v.xs L ∧ (L ≠ [] → inG G sv)
  keys : ∃ T, SlAt w T kv v.ks.length (v.ks.map str)
  fits : Fits v.xs.length v.ks v.t
  kin : v.ks.map str ≠ [] → inG G kv
theorem ValIP.rep {G : Nat → Prop} {w : World} {v : JV} {sv kv : Value} (h : ValIP G w v sv kv) : VRepP G w v [i64 v.k, .bool v.b, str v.t, sv, kv] := by
  obtain ⟨T, L, h1, h2, h3⟩ := h.items
  obtain ⟨T', h4⟩ := h.keys
  exact VRepP.mk h1 h2 h4 h.fits h3 h.kin
theorem ValIP.item_old {G : Nat → Prop} {w0 w : World} {v : JV} {sv kv : Value} {k : IntKind} {i : Nat} {x : JV} {K : Value → Prop} (h : ValIP G w0 v sv kv) (hx : Ext w0 w) (hi : v.xs[i]? = some x) (hK : ∀ cs, VRepP G w0 x cs → K (.agg cs.toArray)) : ixaW none 5 sv (.int k i) fun p => ldW true 5 p w K := by
  obtain ⟨T, L, h1, h2, _⟩ := h.items
  obtain ⟨cs, hc, hg⟩ := h2.get hi
  refine ixa_at (size := 5) (h1.ext hx) h2.len (by omega) (List.getElem?_eq_some_iff.1 hi).1 fun b o c fr hb hcc => ?_
  exact ld_cells hb hc.rep.len (fun j hj => (hcc j hj).trans (hg j hj)) (hK cs hc)
section
variable [HX]
structure GrowP (GG : Nat → Prop) (w0 w : World) (b base : Nat) (sv0 kv0 sv kv : Value) (xs : List JV) (ks : List Str) : Prop where
  ext : Ext w0 w
  hb : w.heap[b]? = some (.cells [i64 6, .bool false, str [], sv0, kv0].toArray VT (0, 0))
  low : w0.heap.size ≤ b
  lt : b < base
  le : base ≤ w.heap.size
  items : ∃ L, Own w base VT 5 sv xs.length L ∧ VRepsP GG w0 xs L
  keys : Own w base ST 1 kv ks.length (ks.map str)
theorem GrowP.more {GG : Nat → Prop} {w0 w w' : World} {b base : Nat} {sv0 kv0 sv kv : Value} {xs : List JV} {ks : List Str} (h : GrowP GG w0 w b base sv0 kv0 sv kv xs ks) (hx : Ext w w') : GrowP GG w0 w' b base sv0 kv0 sv kv xs ks :=
  ⟨h.ext.trans hx, hx.at h.hb id, h.low, h.lt, Nat.le_trans h.le hx.size, let ⟨L, h1, h2⟩ := h.items; ⟨L, h1.ext hx, h2⟩, h.keys.ext hx⟩
theorem GrowP.chg {GG : Nat → Prop} {w0 w w' : World} {b b' base : Nat} {sv0 kv0 sv kv : Value} {xs : List JV} {ks : List Str} (h : GrowP GG w0 w b base sv0 kv0 sv kv xs ks) (hc : Chg (fun k => k = b') w w') (h1 : b' ≠ b) (h2 : b' < base) (h3 : w0.heap.size ≤ b') : GrowP GG w0 w' b base sv0 kv0 sv kv xs ks :=
  ⟨h.ext.new hc h3, hc.at h.hb (fun e => h1 e.symm), h.low, h.lt, Nat.le_trans h.le hc.size, let ⟨L, g1, g2⟩ := h.items; ⟨L, g1.chg hc fun k hk e => by have := hk.1; omega, g2⟩, h.keys.chg hc fun k hk e => by have := hk.1; omega⟩
theorem GrowP.set {GG : Nat → Prop} {w0 w : World} {b base off : Nat} {sv0 kv0 sv kv v sv1 kv1 : Value} {xs : List JV} {ks : List Str} {K : World → Prop} (h : GrowP GG w0 w b base sv0 kv0 sv kv xs ks) (h1 : one1 v = true) (ho : off < 5)
    (he : ([i64 6, .bool false, str [], sv0, kv0] : List Value).set off v = [i64 6, .bool false, str [], sv1, kv1]) (hK : ∀ w', GrowP GG w0 w' b base sv1 kv1 sv kv xs ks → Chg (fun k => k = b) w w' → K w') : stW 1 (.pointer (some ⟨b, off, none⟩)) v w K := by
  refine st_at h.hb h1 (by simpa using ho) fun w' hz hb' hc => ?_
  refine hK w' ⟨h.ext.new hc h.low, ?_, h.low, h.lt, by rw [hz]; exact h.le, ?_, h.keys.chg hc fun k hk e => ?_⟩ hc
  · rw [hb', ← he]; simp
  · obtain ⟨L, h1, h2⟩ := h.items
    exact ⟨L, h1.chg hc fun k hk e => by have := hk.1; have := h.lt; omega, h2⟩
  · have := hk.1; have := h.lt; omega
theorem GrowP.one {GG : Nat → Prop} {w0 w : World} {b base : Nat} {sv0 kv0 sv kv : Value} {xs : List JV} {ks : List Str} (h : GrowP GG w0 w b base sv0 kv0 sv kv xs ks) : one1 sv = true ∧ one1 kv = true := by
  obtain ⟨L, h1, _⟩ := h.items
  obtain ⟨p, c, rfl, _⟩ := h1.sl.shape
  obtain ⟨p', c', rfl, _⟩ := h.keys.sl.shape
  exact ⟨rfl, rfl⟩
structure OwnVP (GG : Nat → Prop) (w0 w : World) (base : Nat) (v : JV) (sv kv : Value) : Prop where
  items : ∃ L, Own w base VT 5 sv v.xs.length L ∧ VRepsP GG w0 v.xs L
  keys : Own w base ST 1 kv v.ks.length (v.ks.map str)
  fits : Fits v.xs.length v.ks v.t
theorem OwnVP.chg {GG : Nat → Prop} {w0 w w' : World} {base : Nat} {v : JV} {sv kv : Value} {S : Nat → Prop} (h : OwnVP GG w0 w base v sv kv) (hc : Chg S w w') (hS : ∀ k, base ≤ k → k < w.heap.size → ¬ S k) : OwnVP GG w0 w' base v sv kv :=
  ⟨let ⟨L, h1, h2⟩ := h.items; ⟨L, h1.chg hc fun k hk => hS k hk.1 (by obtain ⟨_, c, hk⟩ := hk; exact at_lt hk), h2⟩, h.keys.chg hc fun k hk => hS k hk.1 (by obtain ⟨_, c, hk⟩ := hk; exact at_lt hk), h.fits⟩
theorem OwnVP.one {GG : Nat → Prop} {w0 w : World} {base : Nat} {v : JV} {sv kv : Value} (h : OwnVP GG w0 w base v sv kv) : one1 sv = true ∧ one1 kv = true := by
  obtain ⟨L, h1, _⟩ := h.items
  obtain ⟨p, c, rfl, _⟩ := h1.sl.shape
  obtain ⟨p', c', rfl, _⟩ := h.keys.sl.shape
  exact ⟨rfl, rfl⟩
theorem GrowP.own {GG : Nat → Prop} {w0 w : World} {b base : Nat} {sv kv : Value} {l : List (Str × JV)} (h : GrowP GG w0 w b base sv kv sv kv (l.map (·.2)) (l.map (·.1))) (hl : l.length ≤ 1000000) (hk : ∀ p ∈ l, p.1.length ≤ 9223372036854775807) : OwnVP GG w0 w base (mkO l) sv kv := by
  refine ⟨h.items, h.keys, ?_, ?_, ?_, ?_⟩
  · simp only [mkO, JV.xs, List.length_map]; omega
  · simp only [mkO, JV.ks, List.length_map]; omega
  · simp [mkO, JV.t]
  · intro s hs
    simp only [mkO, JV.ks, List.mem_map] at hs
    obtain ⟨p, hp, rfl⟩ := hs
    exact hk p hp
theorem OwnVP.item_old {GG : Nat → Prop} {w0 w : World} {base : Nat} {v : JV} {sv kv : Value} {k : IntKind} {i : Nat} {x : JV} {K : Value → Prop} (h : OwnVP GG w0 w base v sv kv) (hi : v.xs[i]? = some x) (hK : ∀ cs, VRepP GG w0 x cs → K (.agg cs.toArray)) : ixaW none 5 sv (.int k i) fun p => ldW true 5 p w K := by
  obtain ⟨L, h1, h2⟩ := h.items
  obtain ⟨cs, hc, hg⟩ := h2.get hi
  refine ixa_at (size := 5) h1.sl h2.len (by omega) (List.getElem?_eq_some_iff.1 hi).1 fun b o c fr hb hcc => ?_
  exact ld_cells hb hc.rep.len (fun j hj => (hcc j hj).trans (hg j hj)) (hK cs hc)
end
end Go.Proofs.YtnoepcndjljolaaGreatDoor
namespace Go.Proofs.YtnoepcndjljolaaGreatDoor
open Go Go.Eng Go.RowKit
set_option maxRecDepth 100000
def OutR (s : Str) (r : RR JV) (w : World) (v : Value) (w' : World) : Prop :=
  Ext w w' ∧ ∃ x cs j c e a, v = .tuple #[.agg (SS s j c e a).toArray, .agg cs.toArray] ∧ VRepP (From w.heap.size) w' x cs ∧ j ≤ s.length ∧ ((e = 0 ∧ a = 0 ∧ r = .ok x j c) ∨ (e ≠ 0 ∧ ∃ k : Nat, a = (k : Int) ∧ r = .bad e k))
theorem OutR.bad {s : Str} {r : RR JV} {w w' : World} {x : JV} {cs : List Value} {j c k : Nat} {e : Int} (hr : r = .bad e k) (he : e ≠ 0) (hx : Ext w w') (h : VRepP (From w.heap.size) w' x cs) (hj : j ≤ s.length) : OutR s r w (.tuple #[.agg (SS s j c e (k : Nat)).toArray, .agg cs.toArray]) w' :=
  ⟨hx, x, cs, j, c, e, k, rfl, h, hj, .inr ⟨he, k, rfl, hr⟩⟩
section
variable [HX]
end
end Go.Proofs.YtnoepcndjljolaaGreatDoor




namespace Go.Proofs.YtnoepcndjljolaaGreatDoor
open Go Go.Eng Go.Num Go.RowKit
set_option maxRecDepth 100000
abbrev RT : TypeId := 42
abbrev StaT : TypeId := 24
def sameR (a b : RV) : Bool := decide (a.addr = b.addr) && decide (a.typ = b.typ) && decide (a.id = b.id) && sameM a.attrs b.attrs && decide (a.deps = b.deps)
theorem sameR_iff (a b : RV) : sameR a b = true ↔ a = b := by
  unfold sameR
  cases a; cases b
  simp only [Bool.and_eq_true, decide_eq_true_eq, same_iff, RV.mk.injEq]
  constructor
  · rintro ⟨⟨⟨⟨h1, h2⟩, h3⟩, h4⟩, h5⟩; exact ⟨h1, h2, h3, h4, h5⟩
  · rintro ⟨h1, h2, h3, h4, h5⟩; exact ⟨⟨⟨⟨h1, h2⟩, h3⟩, h4⟩, h5⟩
def nm15M (s : Str) : Bool := decide (0 < s.length) && decide (s.length ≤ 16384) && utfM s
structure StB (G : Nat → Prop) (w : World) (p : Nat) (ser : Int) (l : List RV) (sv : Value) : Prop where
  hb : w.heap[p]? = some (.cells [i64 ser, sv].toArray StaT (0, 0))
  sl : ∃ T L, SlAt w T sv l.length L ∧ RRepsP G w l L
def StRepP (G : Nat → Prop) (w : World) (ser : Int) (l : List RV) (cs : List Value) : Prop := ∃ sv T L, cs = [i64 ser, sv] ∧ SlAt w T sv l.length L ∧ RRepsP G w l L
theorem StRepP.ext {G : Nat → Prop} {w w' : World} {ser : Int} {l : List RV} {cs : List Value} (h : StRepP G w ser l cs) (hx : Ext w w') : StRepP G w' ser l cs := by
  obtain ⟨sv, T, L, e, h1, h2⟩ := h
  exact ⟨sv, T, L, e, h1.ext hx, h2.ext hx⟩
theorem StRepP.low {G : Nat → Prop} {w : World} {ser : Int} {l : List RV} {cs : List Value} (h : StRepP G w ser l cs) : StRepP (fun k => G k ∧ k < w.heap.size) w ser l cs := by
  obtain ⟨sv, T, L, e, h1, h2⟩ := h
  exact ⟨sv, T, L, e, h1, h2.mono fun k hlt hg => ⟨hg, hlt⟩⟩
theorem StRepP.len {G : Nat → Prop} {w : World} {ser : Int} {l : List RV} {cs : List Value} (h : StRepP G w ser l cs) : cs.length = 2 := by obtain ⟨sv, T, L, rfl, _⟩ := h; rfl
theorem StRepP.one {G : Nat → Prop} {w : World} {ser : Int} {l : List RV} {cs : List Value} (h : StRepP G w ser l cs) : cs.all one1 = true := by
  obtain ⟨sv, T, L, rfl, h1, _⟩ := h
  obtain ⟨p, c, rfl, _⟩ := h1.shape
  rfl
theorem StB.ext {G : Nat → Prop} {w w' : World} {p : Nat} {ser : Int} {l : List RV} {sv : Value} (h : StB G w p ser l sv) (hx : Ext w w') : StB G w' p ser l sv := ⟨hx.at h.hb id, let ⟨T, L, h1, h2⟩ := h.sl; ⟨T, L, h1.ext hx, h2.ext hx⟩⟩
theorem StB.rep {G : Nat → Prop} {w : World} {p : Nat} {ser : Int} {l : List RV} {sv : Value} (h : StB G w p ser l sv) : StRepP G w ser l [i64 ser, sv] := let ⟨T, L, h1, h2⟩ := h.sl; ⟨sv, T, L, rfl, h1, h2⟩
theorem StB.all {G : Nat → Prop} {w : World} {p : Nat} {ser : Int} {l : List RV} {sv : Value} {K : Value → Prop} (h : StB G w p ser l sv) (hk : K (.agg [i64 ser, sv].toArray)) : ldW true 2 (.pointer (some ⟨p, 0, none⟩)) w K := ld_all h.hb rfl hk
theorem StB.ser {G : Nat → Prop} {w : World} {p : Nat} {ser : Int} {l : List RV} {sv : Value} {K : Value → Prop} (h : StB G w p ser l sv) (hk : K (i64 ser)) : ldW false 1 (.pointer (some ((⟨p, 0, none⟩ : Addr).add 0))) w K := by
  rw [ld_one]
  exact ⟨i64 ser, by rw [add_mk, cell_eq, h.hb, cellO_some]; rfl, hk⟩
theorem StB.recs {G : Nat → Prop} {w : World} {p : Nat} {ser : Int} {l : List RV} {sv : Value} {K : Value → Prop} (h : StB G w p ser l sv) (hk : K sv) : ldW false 1 (.pointer (some ((⟨p, 0, none⟩ : Addr).add 1))) w K := by
  rw [ld_one]
  exact ⟨sv, by rw [add_mk, cell_eq, h.hb, cellO_some]; rfl, hk⟩
theorem StB.len {G : Nat → Prop} {w : World} {p : Nat} {ser : Int} {l : List RV} {sv : Value} (h : StB G w p ser l sv) (K : Value → Prop) : lenlW sv K ↔ K (i64 (l.length : Nat)) := by obtain ⟨T, L, h1, _⟩ := h.sl; exact lenl_at h1 K
theorem box_st {G : Nat → Prop} {w : World} {ser : Int} {l : List RV} {cs : List Value} {K : Value → World → Prop} (h : StRepP G w ser l cs) (hK : ∀ p w' sv, cs = [i64 ser, sv] → StB G w' p ser l sv → Ext w w' → p = w.heap.size → K (.pointer (some ⟨p, 0, none⟩)) w') : boxW StaT (.agg cs.toArray) w K := by
  obtain ⟨sv, T, L, rfl, h1, h2⟩ := h
  exact box_new fun p w' hp hz hb hx => hK p w' sv rfl ⟨hb, T, L, h1.ext hx, h2.ext hx⟩ hx hp
section
variable [HX]
theorem rec15_ref {G G' : Nat → Prop} {a b : RV} {cs ds : List Value} {w : World} {K : Value → World → Prop} (h : RRepP G w a cs) (h' : RRepP G' w b ds) (hK : ∀ w', Ext w w' → K (.bool (sameR a b)) w') :
    callF Tryz.prog 31 [.agg cs.toArray, .agg ds.toArray] w K := by
  refine W31_ok ?_
  unfold W31
  refine box_r h fun p w1 vcs dv e1 hA hx1 hp => ?_
  refine box_r (h'.ext hx1) fun q w2 vds ev e2 hB hx2 hq => ?_
  have hA := hA.ext hx2
  simp only [fld_ptr]
  refine hA.ld (off := 0) (v := str a.addr) rfl ?_
  refine hB.ld (off := 0) (v := str b.addr) rfl ?_
  rw [bin_seq]
  simp only [isB_t]
  refine GdW.look (decide (a.typ = b.typ)) (fun _ J hJ => ?_) fun g => ?_
  · refine hA.ld (off := 1) (v := str a.typ) rfl ?_
    refine hB.ld (off := 1) (v := str b.typ) rfl ?_
    rw [bin_seq]; exact hJ
  simp only [List.getD_cons_zero]
  rw [pick_gd_and]
  simp only [isB_t]
  refine GdW.look (decide (a.id = b.id)) (fun _ J hJ => ?_) fun g => ?_
  · refine hA.ld (off := 2) (v := str a.id) rfl ?_
    refine hB.ld (off := 2) (v := str b.id) rfl ?_
    rw [bin_seq]; exact hJ
  simp only [List.getD_cons_zero]
  rw [pick_gd_and]
  simp only [isB_t]
  refine GdW.act (sameM a.attrs b.attrs) (fun w' => Ext w2 w') (fun _ => Chg.refl _ _) (fun _ J hJ => ?_) fun g w9 hx9 => ?_
  · refine hA.attrs ?_
    refine hB.attrs ?_
    exact same_ref _ hA.val.rep hB.val.rep hJ
  simp only [List.getD_cons_zero]
  rw [pick_gd_and]
  simp only [isB_t]
  have hA9 := hA.ext hx9
  have hB9 := hB.ext hx9
  have hd : ∀ (r : RV) (vs : List Value) (d : Value), vs.length = 5 → (rcs r vs d)[8]? = some d := fun r vs d h5 => by
    show (vs ++ [d])[5]? = some d
    rw [List.getElem?_append_right (by omega), h5]
    rfl
  refine GdW.act (decide (a.deps = b.deps)) (fun w' => Ext w9 w') (fun _ => Chg.refl _ _) (fun _ J hJ => ?_) fun g w12 hx12 => ?_
  · refine hA9.ld (hd _ _ _ hA9.val.rep.len) ?_
    refine hB9.ld (hd _ _ _ hB9.val.rep.len) ?_
    obtain ⟨T1, s1⟩ := hA9.sl
    obtain ⟨T2, s2⟩ := hB9.sl
    exact texts_ref s1 s2 hA9.fits.deps hJ
  simp only [List.getD_cons_zero]
  rw [pick_gd_and]
  exact hK w12 (hx1.trans (hx2.trans (hx9.trans hx12)))
theorem few15_p {G : Nat → Prop} {ser : Int} {l : List RV} {cs : List Value} {w : World} {K : Value → World → Prop} (h : StRepP G w ser l cs) (hK : ∀ w', Ext w w' → K (.bool (decide (l.length ≤ 200))) w') : callF Tryz.prog 7 [.agg cs.toArray] w K := by
  refine W7_ok ?_
  unfold W7
  refine box_st h fun p w1 sv e hA hx1 hp => ?_
  simp only [fld_ptr]
  refine hA.recs ?_
  rw [hA.len, bin_leq, decide_eq_decide.2 (show ((l.length : Nat) : Int) ≤ 200 ↔ l.length ≤ 200 by omega)]
  exact hK w1 hx1
end
end Go.Proofs.YtnoepcndjljolaaGreatDoor
