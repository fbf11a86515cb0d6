/- One plain sentence: plain laws of sorted lists of texts: what sorting and dropping doubles gives is the merge of two rising lists. Conditions: those that each states. -/
import Derived.Test.YtonblcbpoilndaaGreatDoorVC3
import Derived.Sort.OwnSorted
set_option linter.all false
set_option linter.unusedSimpArgs false
set_option linter.unusedVariables false
set_option linter.unusedSectionVars false
namespace Go.Proofs.YtonblcbpoilndaaGreatDoor
open Go Go.Eng Go.Num
theorem rise_ext : ∀ {a b : List Str}, Rise a → Rise b → (∀ x, x ∈ a ↔ x ∈ b) → a = b
  | [], [], _, _, _ => rfl
  | [], y :: b, _, _, h => by have := (h y).2 (by simp); simp at this
  | x :: a, [], _, _, h => by have := (h x).1 (by simp); simp at this
  | x :: a, y :: b, ha, hb, h => by
    have ha' := List.pairwise_cons.1 ha
    have hb' := List.pairwise_cons.1 hb
    have hxy : x = y := by
      rcases List.mem_cons.1 ((h x).1 (by simp)) with e | e
      · exact e
      · rcases List.mem_cons.1 ((h y).2 (by simp)) with e2 | e2
        · exact e2.symm
        · have h1 := ha'.1 y e2
          have h2 := hb'.1 x e
          rw [less_anti h1] at h2; cases h2
    subst hxy
    have : a = b := rise_ext ha'.2 hb'.2 fun z => by
      constructor
      · intro hz
        rcases List.mem_cons.1 ((h z).1 (List.mem_cons_of_mem _ hz)) with e | e
        · subst e; have := ha'.1 z hz; rw [less_irr] at this; cases this
        · exact e
      · intro hz
        rcases List.mem_cons.1 ((h z).2 (List.mem_cons_of_mem _ hz)) with e | e
        · subst e; have := hb'.1 z hz; rw [less_irr] at this; cases this
        · exact e
    rw [this]
theorem mrg_mem : ∀ (a b : List Str) (x : Str), x ∈ mrg a b ↔ x ∈ a ∨ x ∈ b
  | [], b, x => by simp [mrg]
  | a :: az, [], x => by simp [mrg]
  | a :: az, b :: bs, x => by
    rw [mrg]
    split
    · rw [List.mem_cons, mrg_mem az (b :: bs) x, List.mem_cons, List.mem_cons]
      constructor
      · rintro (h | h | h | h)
        · exact .inl (.inl h)
        · exact .inl (.inr h)
        · exact .inr (.inl h)
        · exact .inr (.inr h)
      · rintro ((h | h) | h | h)
        · exact .inl h
        · exact .inr (.inl h)
        · exact .inr (.inr (.inl h))
        · exact .inr (.inr (.inr h))
    · split
      · rename_i h; subst h
        rw [List.mem_cons, mrg_mem az bs x, List.mem_cons, List.mem_cons]
        constructor
        · rintro (h | h | h)
          · exact .inl (.inl h)
          · exact .inl (.inr h)
          · exact .inr (.inr h)
        · rintro ((h | h) | h | h)
          · exact .inl h
          · exact .inr (.inl h)
          · exact .inl h
          · exact .inr (.inr h)
      · rw [List.mem_cons, mrg_mem (a :: az) bs x, List.mem_cons, List.mem_cons]
        constructor
        · rintro (h | (h | h) | h)
          · exact .inr (.inl h)
          · exact .inl (.inl h)
          · exact .inl (.inr h)
          · exact .inr (.inr h)
        · rintro ((h | h) | h | h)
          · exact .inr (.inl (.inl h))
          · exact .inr (.inl (.inr h))
          · exact .inl h
          · exact .inr (.inr h)
theorem mrg_rise : ∀ {a b : List Str}, Rise a → Rise b → Rise (mrg a b)
  | [], b, _, hb => by simpa [mrg] using hb
  | a :: az, [], ha, _ => by simpa [mrg] using ha
  | a :: az, b :: bs, ha, hb => by
    have ha' := List.pairwise_cons.1 ha
    have hb' := List.pairwise_cons.1 hb
    rw [mrg]
    split
    · rename_i h
      refine List.pairwise_cons.2 ⟨fun x hx => ?_, mrg_rise ha'.2 hb⟩
      rcases (mrg_mem _ _ _).1 hx with e | e
      · exact ha'.1 x e
      · rcases List.mem_cons.1 e with e | e
        · subst e; exact h
        · exact less_trans h (hb'.1 x e)
    · rename_i h
      split
      · rename_i h2; subst h2
        refine List.pairwise_cons.2 ⟨fun x hx => ?_, mrg_rise ha'.2 hb'.2⟩
        rcases (mrg_mem _ _ _).1 hx with e | e
        · exact ha'.1 x e
        · exact hb'.1 x e
      · rename_i h2
        have h3 : Op.bytesLess b a = true := by
          rcases less_tri a b with e | e | e
          · exact absurd e h
          · exact absurd e h2
          · exact e
        refine List.pairwise_cons.2 ⟨fun x hx => ?_, mrg_rise ha hb'.2⟩
        rcases (mrg_mem _ _ _).1 hx with e | e
        · rcases List.mem_cons.1 e with e | e
          · subst e; exact h3
          · exact less_trans h3 (ha'.1 x e)
        · exact hb'.1 x e
theorem le_less (x y : Str) : decide (x ≤ y) = !Op.bytesLess y x := by
  rw [bytesLess_eq, ← decide_not]
  rfl
/-- what is sorted and has its doubles dropped -/
theorem compact_rise (d : Array Str) (hs : ∀ i j : Nat, i < j → j < d.size → Op.bytesLess d[j]! d[i]! = false) : ∀ m, m ≤ d.size → Rise (Lib.compactUpTo d m) ∧ ∀ x, x ∈ Lib.compactUpTo d m ↔ ∃ j, j < m ∧ d[j]! = x
  | 0, _ => ⟨by simp [Lib.compactUpTo, Rise], by simp [Lib.compactUpTo]⟩
  | m + 1, hm => by
    obtain ⟨h1, h2⟩ := compact_rise d hs m (by omega)
    rw [Lib.compactUpTo_succ]
    by_cases hk : Lib.keeps d m = true
    · rw [if_pos hk]
      constructor
      · refine List.pairwise_append.2 ⟨h1, by simp, fun a ha b hb => ?_⟩
        obtain rfl : b = d[m]! := by simpa using hb
        obtain ⟨j, hj, rfl⟩ := (h2 a).1 ha
        simp only [Lib.keeps, decide_eq_true_eq] at hk
        have hne : d[m]! ≠ d[m - 1]! := hk.resolve_left (by omega)
        have h3 : Op.bytesLess d[m - 1]! d[m]! = true := by
          rcases less_tri d[m - 1]! d[m]! with e | e | e
          · exact e
          · exact absurd e.symm hne
          · rw [hs (m - 1) m (by omega) (by omega)] at e; cases e
        rcases Nat.lt_or_ge j (m - 1) with hj2 | hj2
        · rcases less_tri d[j]! d[m - 1]! with e | e | e
          · exact less_trans e h3
          · rw [e]; exact h3
          · rw [hs j (m - 1) hj2 (by omega)] at e; cases e
        · obtain rfl : j = m - 1 := by omega
          exact h3
      · intro x
        rw [List.mem_append, h2 x, List.mem_singleton]
        constructor
        · rintro (⟨j, hj, rfl⟩ | rfl)
          · exact ⟨j, by omega, rfl⟩
          · exact ⟨m, by omega, rfl⟩
        · rintro ⟨j, hj, rfl⟩
          rcases Nat.lt_or_ge j m with h | h
          · exact .inl ⟨j, h, rfl⟩
          · obtain rfl : j = m := by omega
            exact .inr rfl
    · rw [if_neg hk, List.append_nil]
      refine ⟨h1, fun x => ?_⟩
      rw [h2 x]
      simp only [Lib.keeps, decide_eq_true_eq, not_or, ne_eq, Decidable.not_not] at hk
      constructor
      · rintro ⟨j, hj, rfl⟩; exact ⟨j, by omega, rfl⟩
      · rintro ⟨j, hj, rfl⟩
        rcases Nat.lt_or_ge j m with h | h
        · exact ⟨j, h, rfl⟩
        · obtain rfl : j = m := by omega
          exact ⟨j - 1, by omega, hk.2.symm⟩
theorem compact_merge {a b : List Str} (ha : Rise a) (hb : Rise b) : Lib.compact ((a ++ b).mergeSort fun x y => decide (x ≤ y)) = mrg a b := by
  have hp : ((a ++ b).mergeSort fun x y => decide (x ≤ y)).Pairwise fun x y => decide (x ≤ y) = true := by
    refine List.pairwise_mergeSort ?_ ?_ _
    · intro x y z h1 h2
      rw [le_less, Bool.not_eq_true'] at h1 h2 ⊢
      cases h : Op.bytesLess z x with
      | false => rfl
      | true =>
        rcases less_tri y z with e | e | e
        · have := less_trans e h; rw [h1] at this; cases this
        · subst e; rw [h1] at h; cases h
        · rw [h2] at e; cases e
    · intro x y
      rw [le_less, le_less]
      cases h : Op.bytesLess y x with
      | false => rfl
      | true => rw [less_anti h]; rfl
  generalize hl : ((a ++ b).mergeSort fun x y => decide (x ≤ y)) = l at *
  have hm : ∀ x, x ∈ l ↔ x ∈ a ∨ x ∈ b := fun x => by rw [← hl, List.mem_mergeSort, List.mem_append]
  obtain ⟨h1, h2⟩ := compact_rise l.toArray (fun i j hij hj => by
    have hj' : j < l.length := by simpa using hj
    have := (List.pairwise_iff_getElem.1 hp) i j (by omega) hj' hij
    rw [le_less, Bool.not_eq_true'] at this
    rw [getElem!_pos _ j (by simpa using hj'), getElem!_pos _ i (by simp; omega)]
    simpa using this) l.length (by simp)
  refine rise_ext h1 (mrg_rise ha hb) fun x => ?_
  rw [mrg_mem, ← hm x]
  refine (h2 x).trans ?_
  rw [List.mem_iff_getElem]
  constructor
  · rintro ⟨j, hj, rfl⟩
    exact ⟨j, hj, by rw [getElem!_pos _ j (by simpa using hj)]; simp⟩
  · rintro ⟨j, hj, rfl⟩
    exact ⟨j, hj, by rw [getElem!_pos _ j (by simpa using hj)]; simp⟩
end Go.Proofs.YtonblcbpoilndaaGreatDoor
