/- One plain sentence: effects taken one at a time: behind each a fresh world with its facts. Conditions: those that each law states. -/
import Derived.Test.YtonblcbpoilndaaGreatDoorLib3
set_option linter.all false
set_option linter.unusedSimpArgs false
set_option linter.unusedVariables false
set_option linter.unusedSectionVars false
namespace Go.Eng
open Go

theorem Chg.at {S : Nat → Prop} {w w' : World} {k : Nat} {o : Obj} (hc : Chg S w w') (h : w.heap[k]? = some o) (hS : ¬ S k) : w'.heap[k]? = some o := by
  rw [hc.heap k (Array.getElem?_eq_some_iff.1 h).1 hS]; exact h
theorem Chg.new {w w1 w2 : World} {a : Nat} (h1 : Ext w w1) (hc : Chg (fun k => k = a) w1 w2) (ha : w.heap.size ≤ a) : Ext w w2 := h1.then hc fun k hk e => by omega
theorem at_lt {w : World} {k : Nat} {o : Obj} (h : w.heap[k]? = some o) : k < w.heap.size := (Array.getElem?_eq_some_iff.1 h).1

theorem alloc_new {T : TypeId} {z : List Value} {w : World} {K : Value → World → Prop} (h : ∀ a w', a = w.heap.size → w'.heap.size = w.heap.size + 1 → w'.heap[a]? = some (.cells z.toArray T (0, 0)) → Ext w w' → K (.pointer (some ⟨a, 0, none⟩)) w') : allocW T z w K :=
  h _ _ rfl (by simp) (heap_anew _ _ _ rfl) (Chg.alloc (Chg.refl _ _) _)
theorem box_new {T : TypeId} {z : List Value} {w : World} {K : Value → World → Prop} (h : ∀ a w', a = w.heap.size → w'.heap.size = w.heap.size + 1 → w'.heap[a]? = some (.cells z.toArray T (0, 0)) → Ext w w' → K (.pointer (some ⟨a, 0, none⟩)) w') : boxW T (.agg z.toArray) w K :=
  h _ _ rfl (by simp) (heap_anew _ _ _ rfl) (Chg.alloc (Chg.refl _ _) _)
/-- a row's literal -/
theorem row_new {T : TypeId} {n : Nat} {cs : List Value} {w : World} {K : Value → World → Prop} (h : ∀ a w', a = w.heap.size → w'.heap.size = w.heap.size + 1 → w'.heap[a]? = some (.cells cs.toArray T (0, 0)) → Ext w w' → w' = w.alloc (.cells cs.toArray T) → K (.slice (some ⟨a, 0, none⟩) n n) w') :
    K (.slice (some ⟨w.heap.size, 0, none⟩) n n) (w.alloc (.cells cs.toArray T)) :=
  h _ _ rfl (by simp) (heap_anew _ _ _ rfl) (Chg.alloc (Chg.refl _ _) _) rfl

theorem st_at {a off : Nat} {w : World} {T : TypeId} {cs : Array Value} {v : Value} {K : World → Prop} (hb : w.heap[a]? = some (.cells cs T (0, 0))) (h1 : one1 v = true) (hoff : off < cs.size)
    (hK : ∀ w', w'.heap.size = w.heap.size → w'.heap[a]? = some (.cells (cs.setIfInBounds off v) T (0, 0)) → Chg (fun k => k = a) w w' → K w') : stW 1 (.pointer (some ⟨a, off, none⟩)) v w K := by
  have hc : v.cells.toList = [v] := by cases v <;> first | rfl | (simp [one1] at h1)
  have hc2 : v.cells = #[v] := by cases v <;> first | rfl | (simp [one1] at h1)
  have hz : (⟨a, off, none⟩ : Addr).add 0 = ⟨a, off, none⟩ := rfl
  simp only [stW, hc2]
  refine ⟨rfl, ?_⟩
  simp only [stCells, hz]
  refine ⟨h1, ?_, ?_, ?_⟩
  · rw [cell_eq, hb, cellO_some]; simp [hoff]
  · rw [frozen_eq, hb, frO_zero]
  · refine hK _ (by simp) ?_ (Chg.set (S := fun k => k = a) (Chg.refl _ _) (.inl rfl) _)
    rw [heap_set_same, hb, setO_some]

/-- the whole of a block is written -/
theorem st_all {a : Nat} {w : World} {T : TypeId} {K : World → Prop} : ∀ (l : List Value) (i : Nat) (cs : List Value), w.heap[a]? = some (.cells cs.toArray T (0, 0)) → cs.length = i + l.length → (∀ v ∈ l, one1 v = true) →
    (∀ w', w'.heap.size = w.heap.size → w'.heap[a]? = some (.cells (cs.take i ++ l).toArray T (0, 0)) → Chg (fun k => k = a) w w' → K w') → stCells ⟨a, 0, none⟩ l i w K := by
  intro l
  induction l generalizing w with
  | nil =>
    intro i cs hb hl _ hK
    refine hK w rfl ?_ (Chg.refl _ _)
    simp only [List.length_nil, Nat.add_zero] at hl
    rw [List.take_of_length_le (by omega), List.append_nil]; exact hb
  | cons v r ih =>
    intro i cs hb hl h1 hK
    have hadd : (⟨a, 0, none⟩ : Addr).add i = ⟨a, i, none⟩ := by rw [add_mk]; simp
    simp only [List.length_cons] at hl
    simp only [stCells, hadd]
    refine ⟨h1 v List.mem_cons_self, ?_, ?_, ?_⟩
    · rw [cell_eq, hb, cellO_some]; simp; omega
    · rw [frozen_eq, hb, frO_zero]
    · have hb' : (w.setCell ⟨a, i, none⟩ v).heap[a]? = some (.cells (cs.set i v).toArray T (0, 0)) := by
        rw [heap_set_same, hb, setO_some]; simp
      refine ih (i + 1) (cs.set i v) hb' (by rw [List.length_set]; omega) (fun u hu => h1 u (List.mem_cons_of_mem _ hu)) fun w' hz hb2 hc => ?_
      refine hK w' (by rw [hz]; simp) ?_ ((Chg.set (S := fun k => k = a) (Chg.refl _ _) (.inl rfl) _).trans hc)
      rw [hb2]
      have : (cs.set i v).take (i + 1) ++ r = cs.take i ++ v :: r := by
        rw [List.take_add_one, List.getElem?_set_self (by omega), List.take_set_of_le (by omega)]
        simp
      rw [this]
theorem st_agg_at {a n : Nat} {w : World} {T : TypeId} {l cs : List Value} {K : World → Prop} (hb : w.heap[a]? = some (.cells cs.toArray T (0, 0))) (hl : l.length = n) (hc : cs.length = n) (h1 : l.all one1 = true)
    (hK : ∀ w', w'.heap.size = w.heap.size → w'.heap[a]? = some (.cells l.toArray T (0, 0)) → Chg (fun k => k = a) w w' → K w') : stW n (.pointer (some ⟨a, 0, none⟩)) (.agg l.toArray) w K := by
  rw [st_agg]
  refine ⟨hl, ?_⟩
  refine st_all l 0 cs hb (by omega) (fun v hv => List.all_eq_true.1 h1 v hv) fun w' hz hb' hc' => hK w' hz ?_ hc'
  simpa using hb'
theorem cellsAt_of {a : Nat} {w : World} {T : TypeId} {cs : List Value} {fr : Nat × Nat} (hb : w.heap[a]? = some (.cells cs.toArray T fr)) : ∀ (n i : Nat), i + n = cs.length → cellsAt w ⟨a, 0, none⟩ i n = some (cs.drop i)
  | 0, i, h => by simp only [cellsAt]; rw [List.drop_of_length_le (by omega)]
  | n + 1, i, h => by
    have hi : i < cs.length := by omega
    simp only [cellsAt, add_mk, cell_eq, hb, cellO_some, Nat.zero_add, List.getElem?_toArray, List.getElem?_eq_getElem hi]
    rw [cellsAt_of hb n (i + 1) (by omega)]
    simp
theorem ld_all {a n : Nat} {w : World} {T : TypeId} {l : List Value} {fr : Nat × Nat} {K : Value → Prop} (hb : w.heap[a]? = some (.cells l.toArray T fr)) (hn : l.length = n) (hK : K (.agg l.toArray)) : ldW true n (.pointer (some ⟨a, 0, none⟩)) w K := by
  rw [ld_agg]
  exact ⟨l, by rw [cellsAt_of hb n 0 (by omega)]; rfl, hK⟩
/-- what is handed back goes through a block of its own -/
theorem ret_agg {a n : Nat} {T : TypeId} {l cs : List Value} {w : World} {K : Value → World → Prop} (hb : w.heap[a]? = some (.cells cs.toArray T (0, 0))) (hl : l.length = n) (hc : cs.length = n) (h1 : l.all one1 = true)
    (hK : ∀ w', Chg (fun k => k = a) w w' → K (.agg l.toArray) w') : stW n (.pointer (some ⟨a, 0, none⟩)) (.agg l.toArray) w fun w5 => ldW true n (.pointer (some ⟨a, 0, none⟩)) w5 fun r6 => K r6 w5 :=
  st_agg_at hb hl hc h1 fun w' _ hb' hcw => ld_all hb' hl (hK w' hcw)
theorem drew_new {w : World} {K : World → Prop} (hK : ∀ w', w'.heap.size = w.heap.size → Ext w w' → K w') : K w.drew := hK _ rfl (Chg.drew (Chg.refl _ _))
end Go.Eng
