/- One plain sentence: good values have few parts, and rising keys are found. Conditions: those that each law states. -/
import Derived.Test.YtonblcbpoilndaaGreatDoorJVM
set_option linter.all false
set_option linter.unusedSimpArgs false
set_option linter.unusedVariables false
set_option linter.unusedSectionVars false
namespace Go.Eng
open Go Go.Num

mutual
def fewM : JV → Bool
  | .mk _ _ _ xs ks => decide (xs.length ≤ 100000) && decide (ks.length ≤ 100000) && fewL xs
def fewL : List JV → Bool
  | [] => true
  | x :: xs => fewM x && fewL xs
end
theorem fewM_eq (v : JV) : fewM v = (decide (v.xs.length ≤ 100000) && decide (v.ks.length ≤ 100000) && fewL v.xs) := by cases v; rfl
theorem fewL_all (xs : List JV) : fewL xs = xs.all fewM := by
  induction xs with
  | nil => rfl
  | cons x xs ih => simp [fewL, ih]
theorem size_bound : ∀ (m : Nat), m ≤ 24 → ∀ (v : JV), deepM v m = true → 1 ≤ sizeM v ∧ sizeM v ≤ 2000 * m + 1
  | 0, _, v, h => by rw [deepM_zero] at h; cases h
  | m + 1, hm, v, h => by
    rw [deepM_succ, deepL_all] at h
    rw [sizeM_eq]
    have key : ∀ (xs : List JV) (n : Int), xs.all (deepM · m) = true → 1 ≤ n → n ≤ 2000 * (m + 1) + 1 → 1 ≤ sizeLM xs n ∧ sizeLM xs n ≤ 2000 * (m + 1) + 1 := by
      intro xs
      induction xs with
      | nil => intro n _ h1 h2; exact ⟨h1, h2⟩
      | cons x xs ih =>
        intro n ha h1 h2
        simp only [List.all_cons, Bool.and_eq_true] at ha
        obtain ⟨a1, a2⟩ := size_bound m (by omega) x ha.1
        simp only [sizeLM]
        split
        · rw [wrap_id (by omega) (by omega)]
          exact ih _ ha.2 (by omega) (by omega)
        · exact ⟨h1, h2⟩
    have := key v.xs 1 h (by omega) (by omega)
    exact ⟨this.1, by have := this.2; omega⟩
theorem sizeLM_all {m : Nat} (hm : m ≤ 24) : ∀ (xs : List JV) (n : Int), xs.all (deepM · m) = true → 1 ≤ n → sizeLM xs n ≤ 2000 → n + xs.length ≤ 2000 ∧ ∀ x ∈ xs, sizeM x ≤ 2000
  | [], n, _, _, h => by simp only [sizeLM] at h; exact ⟨by simp; exact h, by simp⟩
  | x :: xs, n, ha, h1, h => by
    simp only [List.all_cons, Bool.and_eq_true] at ha
    obtain ⟨a1, a2⟩ := size_bound m hm x ha.1
    simp only [sizeLM] at h
    split at h
    · rw [wrap_id (by omega) (by omega)] at h
      obtain ⟨i1, i2⟩ := sizeLM_all hm xs _ ha.2 (by omega) h
      refine ⟨by simp only [List.length_cons]; omega, fun y hy => ?_⟩
      rcases List.mem_cons.1 hy with rfl | hy
      · omega
      · exact i2 y hy
    · omega
theorem good_few (v : JV) : ∀ (m : Nat), m ≤ 24 → sizeM v ≤ 2000 → deepM v m = true → plainM v = true → fewM v = true := by
  induction v using JV.ind' with
  | h v ih =>
    intro m hm hs hd hp
    cases m with
    | zero => rw [deepM_zero] at hd; cases hd
    | succ m =>
      rw [deepM_succ, deepL_all] at hd
      rw [sizeM_eq] at hs
      obtain ⟨h1, h2⟩ := sizeLM_all (m := m) (by omega) v.xs 1 hd (by omega) hs
      rw [plainM_eq, Bool.and_eq_true, plainL_all] at hp
      obtain ⟨_, _, _, _, _, k6, _, _, k9, _⟩ := headOk_out hp.1
      rw [fewM_eq, fewL_all]
      have e1 : v.xs.length ≤ 100000 := by omega
      have e2 : v.ks.length ≤ 100000 := by
        by_cases hk : v.ks = []
        · rw [hk]; simp
        · have := k9 (k6 hk); omega
      rw [decide_eq_true e1, decide_eq_true e2]
      simp only [Bool.and_self, Bool.true_and, List.all_eq_true]
      intro x hx
      exact ih x hx m (by omega) (h2 x hx) (List.all_eq_true.1 hd x hx) (List.all_eq_true.1 hp.2 x hx)
structure GoodV (v : JV) : Prop where
  plain : plainM v = true
  few : fewM v = true
theorem good_v {v : JV} (h : goodM v = true) : GoodV v := by
  simp only [goodM, Bool.and_eq_true, decide_eq_true_eq] at h
  exact ⟨h.2, good_few v 24 (Nat.le_refl _) h.1.1 h.1.2 h.2⟩
theorem GoodV.item {v x : JV} (h : GoodV v) (hx : x ∈ v.xs) : GoodV x := by
  have h1 := h.plain
  have h2 := h.few
  rw [plainM_eq, Bool.and_eq_true, plainL_all, List.all_eq_true] at h1
  rw [fewM_eq, fewL_all] at h2
  simp only [Bool.and_eq_true, List.all_eq_true] at h2
  exact ⟨h1.2 x hx, h2.2 x hx⟩
theorem GoodV.lens {v : JV} (h : GoodV v) : v.xs.length ≤ 100000 ∧ v.ks.length ≤ 100000 ∧ (v.k = 6 → v.ks.length = v.xs.length) ∧ keysOk v.ks = true ∧ (v.ks ≠ [] → v.k = 6) := by
  have h1 := h.plain
  have h2 := h.few
  rw [plainM_eq, Bool.and_eq_true] at h1
  rw [fewM_eq] at h2
  simp only [Bool.and_eq_true, decide_eq_true_eq] at h2
  obtain ⟨_, _, _, _, _, k6, _, _, k9, k10⟩ := headOk_out h1.1
  exact ⟨h2.1.1, h2.1.2, k9, k10, k6⟩

/-! ### rising keys -/
theorem less_trans : ∀ {a b c : Str}, Op.bytesLess a b = true → Op.bytesLess b c = true → Op.bytesLess a c = true
  | [], [], _, h, _ => by simp [Op.bytesLess] at h
  | _ :: _, [], _, h, _ => by simp [Op.bytesLess] at h
  | _, _ :: _, [], _, h => by simp [Op.bytesLess] at h
  | [], _ :: _, _ :: _, _, _ => by simp [Op.bytesLess]
  | x :: a, y :: b, z :: c, h1, h2 => by
    simp only [Op.bytesLess, Bool.or_eq_true, Bool.and_eq_true, decide_eq_true_eq, beq_iff_eq] at h1 h2 ⊢
    rcases h1 with h1 | ⟨rfl, h1⟩
    · rcases h2 with h2 | ⟨rfl, h2⟩
      · exact .inl (UInt8.lt_trans h1 h2)
      · exact .inl h1
    · rcases h2 with h2 | ⟨rfl, h2⟩
      · exact .inl h2
      · exact .inr ⟨rfl, less_trans h1 h2⟩
theorem less_tri : ∀ (a b : Str), Op.bytesLess a b = true ∨ a = b ∨ Op.bytesLess b a = true
  | [], [] => .inr (.inl rfl)
  | [], _ :: _ => .inl rfl
  | _ :: _, [] => .inr (.inr rfl)
  | x :: a, y :: b => by
    simp only [Op.bytesLess, Bool.or_eq_true, Bool.and_eq_true, decide_eq_true_eq, beq_iff_eq, List.cons.injEq]
    by_cases h1 : x < y
    · exact .inl (.inl h1)
    · by_cases h2 : y < x
      · exact .inr (.inr (.inl h2))
      · have : x = y := UInt8.le_antisymm (UInt8.not_lt.1 h2) (UInt8.not_lt.1 h1)
        subst this
        rcases less_tri a b with h | h | h
        · exact .inl (.inr ⟨rfl, h⟩)
        · exact .inr (.inl ⟨rfl, h⟩)
        · exact .inr (.inr (.inr ⟨rfl, h⟩))
theorem less_anti {a b : Str} (h : Op.bytesLess a b = true) : Op.bytesLess b a = false := by
  cases hb : Op.bytesLess b a with
  | false => rfl
  | true => have := less_trans h hb; rw [less_irr] at this; cases this
/-- rising -/
def Rise (ks : List Str) : Prop := ks.Pairwise fun a b => Op.bytesLess a b = true
theorem keysOk_rise : ∀ {ks : List Str}, keysOk ks = true → Rise ks
  | [], _ => List.Pairwise.nil
  | [a], _ => List.pairwise_singleton _ _
  | a :: b :: r, h => by
    simp only [keysOk, Bool.and_eq_true] at h
    have ih := keysOk_rise (ks := b :: r) h.2
    refine List.Pairwise.cons (fun c hc => ?_) ih
    rcases List.mem_cons.1 hc with rfl | hc
    · exact h.1.2
    · exact less_trans h.1.2 ((List.pairwise_cons.1 ih).1 c hc)
theorem keysOk_len {ks : List Str} (h : keysOk ks = true) : ∀ k ∈ ks, k.length ≤ 16384 := by
  induction ks with
  | nil => intro k hk; cases hk
  | cons a r ih =>
    intro k hk
    cases r with
    | nil =>
      simp only [keysOk, decide_eq_true_eq] at h
      rw [List.mem_singleton.1 hk]; exact h
    | cons b r =>
      simp only [keysOk, Bool.and_eq_true, decide_eq_true_eq] at h
      rcases List.mem_cons.1 hk with rfl | hk
      · exact h.1.1
      · exact ih h.2 k hk
theorem rise_lt {ks : List Str} (h : Rise ks) {i j : Nat} {a b : Str} (ha : ks[i]? = some a) (hb : ks[j]? = some b) (hij : i < j) : Op.bytesLess a b = true := by
  obtain ⟨h1, e1⟩ := List.getElem?_eq_some_iff.1 ha
  obtain ⟨h2, e2⟩ := List.getElem?_eq_some_iff.1 hb
  have := List.pairwise_iff_getElem.1 h i j h1 h2 hij
  rw [e1, e2] at this
  exact this
end Go.Eng
