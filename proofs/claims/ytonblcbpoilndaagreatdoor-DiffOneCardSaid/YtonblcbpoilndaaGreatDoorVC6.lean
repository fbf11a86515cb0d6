/- One plain sentence: contracts of slices.Grow at a nil row of texts, and of slices.Concat at two rows. Conditions: those that each states. -/
import Derived.Test.YtonblcbpoilndaaGreatDoorVC5
set_option linter.all false
set_option linter.unusedSimpArgs false
set_option linter.unusedVariables false
set_option linter.unusedSectionVars false
namespace Go.Proofs.YtonblcbpoilndaaGreatDoor
open Go Go.Eng Go.Num
set_option maxRecDepth 100000
section
variable [HX]
theorem cap_sl (p : Option Addr) (n c : Nat) (K : Value → Prop) : capW (.slice p n c) K ↔ K (.int .i64 c) := Iff.rfl
theorem grow_p {n : Nat} {w : World} {K : Value → World → Prop} (hn : n ≤ 1000000) (hK : ∀ v' w', Ext w w' → Own w' w.heap.size ST 1 v' 0 [] → K v' w') : callF Tryz.prog 82 [.slice none 0 0, i64 n] w K := by
  refine W82_ok ?_
  unfold W82
  refine JoinW.go ?_
  have e1 : decide ((n : Int) < 0) = false := decide_eq_false (by omega)
  have e2 : IntKind.i64.wrap ((n : Int) - IntKind.i64.wrap (((0 : Nat) : Int) - ((0 : Nat) : Int))) = (n : Int) := by
    have : IntKind.i64.wrap (((0 : Nat) : Int) - ((0 : Nat) : Int)) = 0 := rfl
    rw [this, wrap_id (by omega) (by omega)]; omega
  rw [bin_lss, e1, condW_false]
  intro g
  rw [cap_sl, lenl_sl, bin_sub, bin_sub, e2, bin_gtr]
  rcases Nat.eq_zero_or_pos n with rfl | hp
  · have e3 : decide ((0 : Int) < ((0 : Nat) : Int)) = false := rfl
    rw [e3, condW_false]
    exact hK _ w (Chg.refl _ _) ⟨rfl, .inl ⟨rfl, rfl⟩⟩
  · have e3 : decide ((0 : Int) < (n : Int)) = true := decide_eq_true (by omega)
    rw [e3, condW_true]
    rw [cap_sl, sll_sl, bd_none, bd_some]
    refine ⟨by decide, by decide, ?_⟩
    rw [bd_none]
    obtain ⟨i, z, hi, hz, h2, h3, h4⟩ := elem_s.get
    have hr := Lib.run_append_grow_zeros (P := Tryz.prog) w 33 3 33 ST i z .i64 .i64 elem_s.und (by kernel_rfl) hi hz none 0 0 [] (by simp [Builtin.firstCells, run_pure]) n hp (by omega) (by omega) (by omega) (by rw [h3]; omega) (growslice_fits (by omega) (by rw [h3]; omega))
    unfold semE
    show (match (Builtin.append_ #[33, 3] 33 #[.slice none 0 0, .int .i64 n]).run Tryz.prog w with | .ok v' w' => _ | _ => False)
    rw [hr]
    show lenlW (.slice none 0 0) _
    rw [lenl_sl, sll_sl, bd_none, bd_some]
    refine ⟨by decide, by simp, ?_⟩
    rw [bd_none]
    have hz1 : z.cells.size = 1 := h4
    refine hK _ _ (Chg.alloc (Chg.drew (Chg.refl _ _)) _) ⟨rfl, .inr ⟨w.heap.size, grownCap w (0 + n) 0 ST, #[] ++ Builtin.zeroCells z.cells n ++ Builtin.zeroCells z.cells (grownCap w (0 + n) 0 ST - (0 + n)), ?_, Nat.le_refl _, ?_, Nat.zero_le _, grownCap_le_maxLen _ _ _ _ (by simp [maxLen]; omega), ?_, by simp⟩⟩
    · simp [Addr.add]
    · exact heap_anew _ _ _ rfl
    · have := grownCap_ge w (0 + n) 0 ST
      simp only [Array.size_append, size_zeroCells, hz1, List.size_toArray, List.length_nil]
      omega
/-- the texts and the count after i of the two rows -/
def pre2 (a b : List Str) : Nat → List Str
  | 0 => []
  | 1 => a
  | _ => a ++ b
theorem concat_p {v x y : Value} {T1 T2 : TypeId} {a b : List Str} {w : World} {K : Value → World → Prop} (h : SlAt w 33 v 2 [x, y]) (h1 : SlAt w T1 x a.length (a.map str)) (h2 : SlAt w T2 y b.length (b.map str)) (ha : a.length ≤ 100000) (hb : b.length ≤ 100000)
    (hK : ∀ v' w', Ext w w' → Own w' w.heap.size ST 1 v' (a ++ b).length ((a ++ b).map str) → K v' w') : callF Tryz.prog 45 [v] w K := by
  refine W45_ok ?_
  unfold W45
  rw [lenl_at h]
  refine ⟨fun s w' => ∃ i : Nat, i ≤ 2 ∧ s = [i64 ((pre2 a b i).length : Nat), i64 i] ∧ w' = w, fun s _ => match s with | [_, .int _ i] => 2 - i.toNat | _ => 0, ⟨0, by omega, rfl, rfl⟩, ?_⟩
  rintro s g w2 ⟨i, hi, rfl, rfl⟩
  have step : i < 2 → ∃ u l T, [x, y][i]? = some u ∧ SlAt w2 T u l.length (l.map str) ∧ pre2 a b (i + 1) = pre2 a b i ++ l ∧ l.length ≤ 100000 ∧ (pre2 a b i).length ≤ 100000 := by
    intro h
    obtain rfl | rfl : i = 0 ∨ i = 1 := by omega
    · exact ⟨x, a, T1, rfl, h1, by simp [pre2], ha, by simp [pre2]⟩
    · exact ⟨y, b, T2, rfl, h2, by simp [pre2], hb, by simpa [pre2] using ha⟩
  rcases Nat.lt_or_ge i 2 with hlt | hge
  · obtain ⟨u, l, T, hu, hl, hp, hl2, hl3⟩ := step hlt
    have e1 : decide ((i : Int) < 2) = true := decide_eq_true (by omega)
    have e1' : decide ((i : Int) < ((2 : Nat) : Int)) = true := decide_eq_true (by omega)
    simp only [List.getD_cons_zero, List.getD_cons_succ]
    rw [bin_lss, e1', condW_true]
    refine JoinW.go ?_
    refine ixa_ld h rfl hu ?_
    rw [lenl_at hl, bin_add]
    have e2 : IntKind.i64.wrap (((pre2 a b i).length : Int) + (l.length : Int)) = (((pre2 a b (i + 1)).length : Nat) : Int) := by
      rw [hp, List.length_append, wrap_id (by omega) (by omega)]; omega
    rw [e2, bin_lss, decide_eq_false (by omega), condW_false]
    intro g1
    simp only [List.getD_cons_zero, List.getD_cons_succ]
    rw [bin_add, up1 (by omega)]
    exact ⟨⟨i + 1, hlt, rfl, (by trivial)⟩, by simp only [Int.toNat_natCast]; omega⟩
  · obtain rfl : i = 2 := by omega
    have e1' : decide (((2 : Nat) : Int) < ((2 : Nat) : Int)) = false := rfl
    simp only [List.getD_cons_zero, List.getD_cons_succ]
    rw [bin_lss, e1', condW_false]
    refine grow_p (by simp [pre2]; omega) fun v' w3 hx3 hO3 => ?_
    rw [lenl_at h]
    refine ⟨fun s w' => ∃ i v, i ≤ 2 ∧ s = [v, i64 (i : Nat)] ∧ Ext w2 w' ∧ Own w' w2.heap.size ST 1 v (pre2 a b i).length ((pre2 a b i).map str), fun s _ => match s with | [_, .int _ i] => 2 - i.toNat | _ => 0, ⟨0, v', by omega, rfl, hx3, hO3⟩, ?_⟩
    clear step
    rintro s g2 w4 ⟨i, v4, hi, rfl, hx4, hO4⟩
    have step : i < 2 → ∃ u l T, [x, y][i]? = some u ∧ SlAt w2 T u l.length (l.map str) ∧ pre2 a b (i + 1) = pre2 a b i ++ l ∧ l.length ≤ 100000 ∧ (pre2 a b i).length ≤ 100000 := by
      intro h
      obtain rfl | rfl : i = 0 ∨ i = 1 := by omega
      · exact ⟨x, a, T1, rfl, h1, by simp [pre2], ha, by simp [pre2]⟩
      · exact ⟨y, b, T2, rfl, h2, by simp [pre2], hb, by simpa [pre2] using ha⟩
    simp only [List.getD_cons_zero, List.getD_cons_succ]
    rcases Nat.lt_or_ge i 2 with hlt | hge
    · obtain ⟨u, l, T, hu, hl, hp, hl2, hl3⟩ := step hlt
      have e1' : decide ((i : Int) < ((2 : Nat) : Int)) = true := decide_eq_true (by omega)
      rw [bin_lss, e1', condW_true]
      refine ixa_ld (h.ext hx4) rfl hu ?_
      refine append_own3 elem_s hO4 (hl.ext hx4) (by simp) ?_ (by omega) (by omega) hx4.size fun v5 w5 hO5 hc5 hb5 => ?_
      · intro z hz
        obtain ⟨t, _, rfl⟩ := List.mem_map.1 hz
        rfl
      rw [bin_add, up1 (by omega)]
      refine ⟨⟨i + 1, v5, hlt, rfl, hx4.then hc5 fun k hk e => ?_, ?_⟩, by simp only [Int.toNat_natCast]; omega⟩
      · have := (hO4.block k e).1; omega
      · rw [hp, List.length_append, List.map_append]
        exact hO5
    · obtain rfl : i = 2 := by omega
      have e1' : decide (((2 : Nat) : Int) < ((2 : Nat) : Int)) = false := rfl
      rw [bin_lss, e1', condW_false]
      exact hK _ _ hx4 hO4
end
end Go.Proofs.YtonblcbpoilndaaGreatDoor
