/- One plain sentence: contracts of slices.Grow, slices.Concat, slices.Sort and slices.Compact at rows of texts. Conditions: those that each states. -/
import Derived.Test.YtonblcbpoilndaaGreatDoorVC4
import Derived.Test.YtonblcbpoilndaaGreatDoorWv3
import Derived.Lib.AppendZerosOnto
set_option linter.all false
set_option linter.unusedSimpArgs false
set_option linter.unusedVariables false
set_option linter.unusedSectionVars false
namespace Go.Proofs.YtonblcbpoilndaaGreatDoor
open Go Go.Eng Go.Num
set_option maxRecDepth 100000
section
variable [HX]
theorem len64_0 {w : World} {K : Value → World → Prop} (hK : K (i64 0) w) : callF Tryz.prog 125 [.int .u64 0] w K := by
  refine W125_ok ?_
  unfold W125
  have e1 : decide ((4294967296 : Int) ≤ 0) = false := rfl
  have e2 : decide ((65536 : Int) ≤ 0) = false := rfl
  have e3 : decide ((256 : Int) ≤ 0) = false := rfl
  refine JoinW.go ?_
  simp only [wsv, wsg, wsh, wsl, cond_true, cond_false, exists_eq_left', Option.some.injEq, Option.isSome_some, List.getElem?_toArray, List.getElem?_cons_zero, List.getElem?_cons_succ, List.length_cons, List.length_nil, List.set_cons_zero, List.set_cons_succ, List.getD_cons_zero, List.getD_cons_succ, Nat.zero_add, Nat.add_zero, Nat.reduceAdd, Nat.reduceLT, Nat.lt_add_one, Nat.zero_lt_succ, decide_true, decide_false, ne_eq, reduceCtorEq, e1]
  intro g1
  refine JoinW.go ?_
  simp only [wsv, wsg, wsh, wsl, cond_true, cond_false, exists_eq_left', Option.some.injEq, Option.isSome_some, List.getElem?_toArray, List.getElem?_cons_zero, List.getElem?_cons_succ, List.length_cons, List.length_nil, List.set_cons_zero, List.set_cons_succ, List.getD_cons_zero, List.getD_cons_succ, Nat.zero_add, Nat.add_zero, Nat.reduceAdd, Nat.reduceLT, Nat.lt_add_one, Nat.zero_lt_succ, decide_true, decide_false, ne_eq, reduceCtorEq, e2]
  intro g2
  refine JoinW.go ?_
  simp only [wsv, wsg, wsh, wsl, cond_true, cond_false, exists_eq_left', Option.some.injEq, Option.isSome_some, List.getElem?_toArray, List.getElem?_cons_zero, List.getElem?_cons_succ, List.length_cons, List.length_nil, List.set_cons_zero, List.set_cons_succ, List.getD_cons_zero, List.getD_cons_succ, Nat.zero_add, Nat.add_zero, Nat.reduceAdd, Nat.reduceLT, Nat.lt_add_one, Nat.zero_lt_succ, decide_true, decide_false, ne_eq, reduceCtorEq, e3]
  intro g3
  refine ⟨Int.le_refl _, 0, rfl, ?_⟩
  exact hK
theorem len_0 {w : World} {K : Value → World → Prop} (hK : K (i64 0) w) : callF Tryz.prog 84 [.int .u64 0] w K := by
  refine W84_ok ?_
  unfold W84
  rw [condW_false]
  exact len64_0 hK
theorem insert_0 {a : Option Addr} {cap : Nat} {w : World} {K : Value → World → Prop} (hK : ∀ w', Ext w w' → w'.heap = w.heap → K (.tuple #[]) w') : callF Tryz.prog 115 [.slice a 0 cap, i64 0, i64 0] w K := by
  refine W115_ok ?_
  unfold W115
  simp only [wsv, wsg, wsh, wsl, cond_true, cond_false, exists_eq_left', Option.some.injEq, Option.isSome_some, List.getElem?_toArray, List.getElem?_cons_zero, List.getElem?_cons_succ, List.length_cons, List.length_nil, List.set_cons_zero, List.set_cons_succ, List.getD_cons_zero, List.getD_cons_succ, Nat.zero_add, Nat.add_zero, Nat.reduceAdd, Nat.reduceLT, Nat.lt_add_one, Nat.zero_lt_succ, decide_true, decide_false, ne_eq, reduceCtorEq]
  refine ⟨fun s w' => s = [i64 1] ∧ w' = w, fun _ _ => 0, ⟨rfl, rfl⟩, ?_⟩
  rintro s g w2 ⟨rfl, rfl⟩
  have e1 : decide ((1 : Int) < 0) = false := rfl
  simp only [wsv, wsg, wsh, wsl, cond_true, cond_false, exists_eq_left', Option.some.injEq, Option.isSome_some, List.getElem?_toArray, List.getElem?_cons_zero, List.getElem?_cons_succ, List.length_cons, List.length_nil, List.set_cons_zero, List.set_cons_succ, List.getD_cons_zero, List.getD_cons_succ, Nat.zero_add, Nat.add_zero, Nat.reduceAdd, Nat.reduceLT, Nat.lt_add_one, Nat.zero_lt_succ, decide_true, decide_false, ne_eq, reduceCtorEq, e1]
  exact hK _ (Chg.refl _ _) rfl
theorem pdq_0 {a : Option Addr} {cap : Nat} {w : World} {K : Value → World → Prop} (hK : ∀ w', Ext w w' → w'.heap = w.heap → K (.tuple #[]) w') : callF Tryz.prog 83 [.slice a 0 cap, i64 0, i64 0, i64 0] w K := by
  refine W83_ok ?_
  unfold W83
  refine ⟨fun s w' => s = [i64 0, i64 0, i64 0, .bool true, .bool true] ∧ w' = w, fun _ _ => 0, ⟨rfl, rfl⟩, ?_⟩
  rintro s g w2 ⟨rfl, rfl⟩
  simp only [List.getD_cons_zero, List.getD_cons_succ]
  rw [bin_sub, bin_leq]
  have e1 : decide (IntKind.i64.wrap (0 - 0) ≤ (12 : Int)) = true := rfl
  rw [e1, condW_true]
  exact insert_0 hK
theorem sort_0 {a : Option Addr} {cap : Nat} {w : World} {K : Value → World → Prop} (hK : ∀ w', Ext w w' → w'.heap = w.heap → K (.tuple #[]) w') : callF Tryz.prog 46 [.slice a 0 cap] w K := by
  refine W46_ok ?_
  unfold W46
  rw [lenl_sl]
  rw [cvt_int]
  show callF _ _ [.int .u64 0] _ _
  refine len_0 ?_
  show callF _ _ [.slice a 0 cap, i64 0, i64 0, i64 0] _ _
  exact pdq_0 hK
theorem sort_p {l : List Str} {v : Value} {base : Nat} {w : World} {K : Value → World → Prop} (h : Own w base ST 1 v l.length (l.map str)) (hl : l.length < 4611686018427387904)
    (hK : ∀ w', Chg (fun k => v.ownBlock = some k) w w' → Own w' base ST 1 v l.length ((l.mergeSort fun x y => decide (x ≤ y)).map str) → K (.tuple #[]) w') : callF Tryz.prog 46 [v] w K := by
  obtain ⟨hn, ⟨rfl, h0⟩ | ⟨g, cap, cur, rfl, hb, hg, h1, h2, h3, h4⟩⟩ := h
  · have : l = [] := List.eq_nil_of_length_eq_zero h0
    subst this
    refine sort_0 fun w' hx hh => hK w' (Chg.of_ext hx) ⟨by simp, .inl ⟨rfl, rfl⟩⟩
  · refine of_calls (args := #[.slice (some ⟨g, 0, none⟩) l.length cap]) Tryz.call46 ((Tryz.slices_Sort_string g 0 cap l w (holds_of_block hg (by have := h4; rw [Nat.mul_one] at this; exact this)) (at_lt hg) hl).mono ?_)
    rintro e w' ⟨rfl, n, os, rfl⟩
    refine ⟨_, rfl, hK _ (Chg.of_grown (grownBy_sorted _) fun k hk => hk) (ownsRow_sorted (by simp) hb hg h1 h2 h3)⟩
theorem compact_p {l : List Str} {v : Value} {base : Nat} {w : World} {K : Value → World → Prop} (h : Own w base ST 1 v l.length (l.map str)) (hl : l.length ≤ 9223372036854775807)
    (hK : ∀ v' w', Chg (fun k => v.ownBlock = some k) w w' → Own w' base ST 1 v' (Lib.compact l).length ((Lib.compact l).map str) → K v' w') : callF Tryz.prog 47 [v] w K := by
  obtain ⟨hn, ⟨rfl, h0⟩ | ⟨g, cap, cur, rfl, hb, hg, h1, h2, h3, h4⟩⟩ := h
  · have : l = [] := List.eq_nil_of_length_eq_zero h0
    subst this
    refine of_calls (args := #[.slice none 0 0]) Tryz.call47 ((Tryz.slices_Compact_string_empty none 0 w).mono ?_)
    rintro e w' ⟨rfl, rfl⟩
    exact ⟨_, rfl, hK _ _ (Chg.refl _ _) ⟨rfl, .inl ⟨rfl, rfl⟩⟩⟩
  · refine of_calls (args := #[.slice (some ⟨g, 0, none⟩) l.length cap]) Tryz.call47 ((Tryz.slices_Compact_string g 0 cap l w (holds_of_block hg (by have := h4; rw [Nat.mul_one] at this; exact this)) hl h1).mono ?_)
    rintro e w' ⟨rfl, n, rfl⟩
    have hle : (Lib.compact l).length ≤ l.length := by
      unfold Lib.compact Lib.compactUpTo
      rw [List.length_map]
      exact Nat.le_trans (List.length_filter_le _ _) (by simp)
    have ho := ownsRow_sorted (w := w) (n := n) (os := #[]) (ss := l) (ts := Lib.compact l ++ List.replicate (l.length - (Lib.compact l).length) []) (by simp; omega) hb hg h1 h2 h3
    have eg : ∀ w : World, Sort.grow w #[] = w := fun w => by unfold Sort.grow; simp
    rw [eg] at ho
    refine ⟨_, rfl, hK _ _ (Chg.of_grown (w' := Sort.putRow encStr (Sort.ahead w n) g 0 _) (row := some g) ?_ fun k hk => hk) ?_⟩
    · have := grownBy_sorted (w := w) (g := g) (n := n) (os := #[]) (Lib.compact l ++ List.replicate (l.length - (Lib.compact l).length) []).toArray
      rw [eg] at this
      exact this
    · obtain ⟨_, ⟨h, _⟩ | ⟨g', cap', cur', he, hb', hg', h1', h2', h3', h4'⟩⟩ := ho
      · cases h
      · cases he
        refine ⟨by simp, .inr ⟨g, cap, cur', rfl, hb', hg', by omega, h2', h3', ?_⟩⟩
        have : (cur'.toList.take (l.length * 1)).take ((Lib.compact l).length * 1) = (Lib.compact l).map str := by
          rw [h4', List.map_append, Nat.mul_one, List.take_append_of_le_length (by simp), List.take_of_length_le (by simp)]; rfl
        rw [List.take_take, Nat.min_eq_left (by omega)] at this
        exact this
end
end Go.Proofs.YtonblcbpoilndaaGreatDoor
