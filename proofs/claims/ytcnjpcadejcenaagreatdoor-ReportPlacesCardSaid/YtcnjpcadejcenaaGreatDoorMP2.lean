/- One plain sentence: weakest preconditions, contracts and plain laws that the claim rests on, text behind text. Conditions: those that each states. -/
import Derived.Test.YtcnjpcadejcenaaGreatDoorMP1
import Derived.Test.YtcnjpcadejcenaaGreatDoorProg
set_option linter.all false
set_option linter.unusedSimpArgs false
set_option linter.unusedVariables false
set_option linter.unusedSectionVars false
namespace Go.Eng
open Go Go.Num

mutual
def knownM : JV → Bool
  | .mk k _ _ xs _ => !decide (k = 1) && knownL xs
def knownL : List JV → Bool
  | [] => true
  | x :: xs => knownM x && knownL xs
end
mutual
def sizeM : JV → Int
  | .mk _ _ _ xs _ => sizeLM xs 1
def sizeLM : List JV → Int → Int
  | [], n => n
  | x :: xs, n => if n ≤ 2000 then sizeLM xs (IntKind.i64.wrap (n + sizeM x)) else n
end
mutual
def deepM : JV → Nat → Bool
  | .mk _ _ _ xs _, m => match m with | 0 => false | m + 1 => deepL xs m
def deepL : List JV → Nat → Bool
  | [], _ => true
  | x :: xs, m => deepM x m && deepL xs m
end
/-- rising, and none too long -/
def keysOk : List Str → Bool
  | [] => true
  | [a] => decide (a.length ≤ 16384)
  | a :: b :: r => decide (a.length ≤ 16384) && Op.bytesLess a b && keysOk (b :: r)
def headOk (k : Int) (b : Bool) (t : Str) (n : Nat) (ks : List Str) : Bool :=
  decide (0 ≤ k) && decide (k ≤ 6) && (!b || decide (k = 2)) && (decide (t = []) || decide (k = 3) || decide (k = 4)) && (decide (n = 0) || decide (5 ≤ k)) && (decide (k = 6) || decide (ks = [])) &&
    (!decide (k = 3) || goodN t) && (!decide (k = 4) || decide (t.length ≤ 16384)) && (!decide (k = 6) || decide (ks.length = n)) && keysOk ks
mutual
def plainM : JV → Bool
  | .mk k b t xs ks => headOk k b t xs.length ks && plainL xs
def plainL : List JV → Bool
  | [] => true
  | x :: xs => plainM x && plainL xs
end
def goodM (v : JV) : Bool := decide (sizeM v ≤ 2000) && deepM v 24 && plainM v

mutual
def sameM : JV → JV → Bool
  | .mk k b t xs ks, .mk k' b' t' xs' ks' => decide (k = k') && decide (b = b') && decide (t = t') && decide (ks = ks') && sameL xs xs'
def sameL : List JV → List JV → Bool
  | [], [] => true
  | x :: xs, y :: ys => sameM x y && sameL xs ys
  | _, _ => false
end
mutual
theorem same_iff : ∀ (a b : JV), sameM a b = true ↔ a = b
  | .mk k b t xs ks, .mk k' b' t' xs' ks' => by
    have := sameL_iff xs xs'
    simp only [sameM, Bool.and_eq_true, decide_eq_true_eq, this, JV.mk.injEq]
    constructor
    · rintro ⟨⟨⟨⟨h1, h2⟩, h3⟩, h4⟩, h5⟩; exact ⟨h1, h2, h3, h5, h4⟩
    · rintro ⟨h1, h2, h3, h5, h4⟩; exact ⟨⟨⟨⟨h1, h2⟩, h3⟩, h4⟩, h5⟩
theorem sameL_iff : ∀ (a b : List JV), sameL a b = true ↔ a = b
  | [], [] => by simp [sameL]
  | [], _ :: _ => by simp [sameL]
  | _ :: _, [] => by simp [sameL]
  | x :: xs, y :: ys => by simp [sameL, same_iff x y, sameL_iff xs ys]
end
theorem sameL_len : ∀ {xs ys : List JV}, xs.length ≠ ys.length → sameL xs ys = false := by
  intro xs ys h
  cases hs : sameL xs ys with
  | false => rfl
  | true => exact absurd (by rw [(sameL_iff _ _).1 hs]) h

/-! ### the order -/
def cmpI (a b : Int) : Int := if a < b then -1 else if b < a then 1 else 0
def cmpB (a b : Str) : Int := if Op.bytesLess a b then -1 else if a = b then 0 else 1
def truthI (b : Bool) : Int := if b then 1 else 0
/-- the first that is not 0 -/
def orI (a b : Int) : Int := if a = 0 then b else a
theorem orI_zero (a b : Int) : orI a b = 0 ↔ a = 0 ∧ b = 0 := by
  unfold orI
  by_cases h : a = 0
  · rw [if_pos h]; simp [h]
  · rw [if_neg h]; simp [h]
def cmpKs : List Str → List Str → Int
  | [], [] => 0
  | [], _ :: _ => -1
  | _ :: _, [] => 1
  | a :: r, b :: s => orI (cmpB a b) (cmpKs r s)
mutual
def cmpM : JV → JV → Int
  | .mk k b t xs ks, v =>
    orI (cmpI k v.k) (if k = 2 then cmpI (truthI b) (truthI v.b)
    else if k = 3 then cmpS t v.t
    else if k = 4 then cmpB t v.t
    else orI (cmpKs ks v.ks) (cmpL xs v.xs))
def cmpL : List JV → List JV → Int
  | [], [] => 0
  | [], _ :: _ => -1
  | _ :: _, [] => 1
  | x :: xs, y :: ys => orI (cmpM x y) (cmpL xs ys)
end
theorem less_irr (a : Str) : Op.bytesLess a a = false := by
  induction a with
  | nil => rfl
  | cons x a ih => simp [Op.bytesLess, ih]
theorem cmpI_zero (a b : Int) : cmpI a b = 0 ↔ a = b := by
  unfold cmpI
  constructor
  · intro h; split at h
    · omega
    · split at h <;> omega
  · rintro rfl; simp
theorem cmpB_zero (a b : Str) : cmpB a b = 0 ↔ a = b := by
  unfold cmpB
  constructor
  · intro h
    split at h
    · omega
    · split at h
      · assumption
      · omega
  · rintro rfl; simp [less_irr]
theorem cmpKs_zero : ∀ (a b : List Str), cmpKs a b = 0 ↔ a = b
  | [], [] => by simp [cmpKs]
  | [], _ :: _ => by simp [cmpKs]
  | _ :: _, [] => by simp [cmpKs]
  | a :: r, b :: s => by
    simp only [cmpKs, orI_zero, List.cons.injEq, cmpB_zero, cmpKs_zero r s]
theorem truth_inj {a b : Bool} : truthI a = truthI b ↔ a = b := by cases a <;> cases b <;> simp [truthI]

theorem headOk_out {k : Int} {b : Bool} {t : Str} {n : Nat} {ks : List Str} (h : headOk k b t n ks = true) :
    0 ≤ k ∧ k ≤ 6 ∧ (b = true → k = 2) ∧ (t ≠ [] → k = 3 ∨ k = 4) ∧ (n ≠ 0 → 5 ≤ k) ∧ (ks ≠ [] → k = 6) ∧ (k = 3 → goodN t = true) ∧ (k = 4 → t.length ≤ 16384) ∧ (k = 6 → ks.length = n) ∧ keysOk ks = true := by
  simp only [headOk, Bool.and_eq_true, Bool.or_eq_true, decide_eq_true_eq, Bool.not_eq_true', decide_eq_false_iff_not] at h
  obtain ⟨⟨⟨⟨⟨⟨⟨⟨⟨h1, h2⟩, h3⟩, h4⟩, h5⟩, h6⟩, h7⟩, h8⟩, h9⟩, h10⟩ := h
  refine ⟨h1, h2, fun e => ?_, fun e => ?_, fun e => ?_, fun e => ?_, fun e => ?_, fun e => ?_, fun e => ?_, h10⟩
  · rcases h3 with h3 | h3
    · rw [e] at h3; cases h3
    · exact h3
  · rcases h4 with (h4 | h4) | h4
    · exact absurd h4 e
    · exact .inl h4
    · exact .inr h4
  · exact h5.resolve_left e
  · exact h6.resolve_right e
  · exact h7.resolve_left fun h => h e
  · exact h8.resolve_left fun h => h e
  · exact h9.resolve_left fun h => h e
mutual
theorem cmp_zero : ∀ (a b : JV), plainM a = true → plainM b = true → (cmpM a b = 0 ↔ a = b)
  | .mk k b t xs ks, .mk k' b' t' xs' ks', ha, hb => by
    simp only [plainM, Bool.and_eq_true] at ha hb
    have ih := cmpL_zero xs xs' ha.2 hb.2
    obtain ⟨a1, a2, a3, a4, a5, a6, a7, a8, a9, _⟩ := headOk_out ha.1
    obtain ⟨b1, b2, b3, b4, b5, b6, b7, b8, b9, _⟩ := headOk_out hb.1
    simp only [cmpM, JV.k, JV.b, JV.t, JV.ks, JV.xs, JV.mk.injEq]
    rw [orI_zero, cmpI_zero]
    refine and_congr_right fun hk => ?_
    subst hk
    have hnil : ∀ {xs : List JV}, (xs.length ≠ 0 → 5 ≤ k) → ¬ 5 ≤ k → xs = [] := fun {xs} h h5 => List.eq_nil_of_length_eq_zero (Decidable.byContradiction fun e => h5 (h e))
    have hbf : ∀ {b : Bool}, (b = true → k = 2) → k ≠ 2 → b = false := fun {b} h h2 => by cases b with | false => rfl | true => exact absurd (h rfl) h2
    have hks : ∀ {ks : List Str}, (ks ≠ [] → k = 6) → k ≠ 6 → ks = [] := fun {ks} h h2 => Decidable.byContradiction fun e => h2 (h e)
    have hts : ∀ {t : Str}, (t ≠ [] → k = 3 ∨ k = 4) → ¬ (k = 3 ∨ k = 4) → t = [] := fun {t} h h2 => Decidable.byContradiction fun e => h2 (h e)
    by_cases h2 : k = 2
    · rw [if_pos h2, cmpI_zero, truth_inj, hnil a5 (by omega), hnil b5 (by omega), hks a6 (by omega), hks b6 (by omega), hts a4 (by omega), hts b4 (by omega)]; simp
    · rw [if_neg h2, hbf a3 h2, hbf b3 h2]
      by_cases h3 : k = 3
      · rw [if_pos h3, cmpS_zero (a7 h3) (b7 h3), hnil a5 (by omega), hnil b5 (by omega), hks a6 (by omega), hks b6 (by omega)]; simp
      · rw [if_neg h3]
        by_cases h4 : k = 4
        · rw [if_pos h4, cmpB_zero, hnil a5 (by omega), hnil b5 (by omega), hks a6 (by omega), hks b6 (by omega)]; simp
        · rw [if_neg h4, hts a4 (by omega), hts b4 (by omega), orI_zero, cmpKs_zero, ih]
          simp [and_comm]
theorem cmpL_zero : ∀ (a b : List JV), plainL a = true → plainL b = true → (cmpL a b = 0 ↔ a = b)
  | [], [], _, _ => by simp [cmpL]
  | [], _ :: _, _, _ => by simp [cmpL]
  | _ :: _, [], _, _ => by simp [cmpL]
  | x :: xs, y :: ys, ha, hb => by
    simp only [plainL, Bool.and_eq_true] at ha hb
    have h1 := cmp_zero x y ha.1 hb.1
    have h2 := cmpL_zero xs ys ha.2 hb.2
    simp only [cmpL, orI_zero, List.cons.injEq, h1, h2]
end
theorem plainL_mem : ∀ {xs : List JV}, plainL xs = true → ∀ x ∈ xs, plainM x = true
  | [], _, x, h => by cases h
  | y :: xs, hp, x, h => by
    simp only [plainL, Bool.and_eq_true] at hp
    rcases List.mem_cons.1 h with rfl | h
    · exact hp.1
    · exact plainL_mem hp.2 x h
theorem JV.ind' {p : JV → Prop} (h : ∀ v, (∀ x ∈ v.xs, p x) → p v) (v : JV) : p v := JV.ind (fun k b t xs ks ih => h (.mk k b t xs ks) ih) v
theorem knownM_eq (v : JV) : knownM v = (!decide (v.k = 1) && knownL v.xs) := by cases v; rfl
theorem sizeM_eq (v : JV) : sizeM v = sizeLM v.xs 1 := by cases v; rfl
theorem deepM_zero (v : JV) : deepM v 0 = false := by cases v; rfl
theorem deepM_succ (v : JV) (m : Nat) : deepM v (m + 1) = deepL v.xs m := by cases v; rfl
theorem plainM_eq (v : JV) : plainM v = (headOk v.k v.b v.t v.xs.length v.ks && plainL v.xs) := by cases v; rfl
theorem sameM_eq (a b : JV) : sameM a b = (decide (a.k = b.k) && decide (a.b = b.b) && decide (a.t = b.t) && decide (a.ks = b.ks) && sameL a.xs b.xs) := by cases a; cases b; rfl
theorem cmpM_eq (a v : JV) : cmpM a v = orI (cmpI a.k v.k) (if a.k = 2 then cmpI (truthI a.b) (truthI v.b) else if a.k = 3 then cmpS a.t v.t else if a.k = 4 then cmpB a.t v.t else orI (cmpKs a.ks v.ks) (cmpL a.xs v.xs)) := by cases a; rfl
theorem knownL_all (xs : List JV) : knownL xs = xs.all knownM := by
  induction xs with
  | nil => rfl
  | cons x xs ih => simp [knownL, ih]
theorem deepL_all (xs : List JV) (m : Nat) : deepL xs m = xs.all (deepM · m) := by
  induction xs with
  | nil => rfl
  | cons x xs ih => simp [deepL, ih]
theorem plainL_all (xs : List JV) : plainL xs = xs.all plainM := by
  induction xs with
  | nil => rfl
  | cons x xs ih => simp [plainL, ih]
theorem all_take {α : Type} {p : α → Bool} {xs : List α} {i : Nat} {x : α} (hi : xs[i]? = some x) : (xs.take (i + 1)).all p = ((xs.take i).all p && p x) := by
  rw [List.take_add_one, hi]; simp
theorem all_no {α : Type} {p : α → Bool} {xs : List α} {i : Nat} {x : α} (hi : xs[i]? = some x) (h : p x = false) : xs.all p = false := by
  rw [List.all_eq_false]; exact ⟨x, List.mem_of_getElem? hi, by simp [h]⟩
theorem sizeLM_app (xs ys : List JV) (n : Int) (h : sizeLM xs n ≤ 2000) : sizeLM (xs ++ ys) n = sizeLM ys (sizeLM xs n) := by
  induction xs generalizing n with
  | nil => rfl
  | cons x xs ih =>
    simp only [List.cons_append, sizeLM] at h ⊢
    split at h
    · rename_i hn; rw [if_pos hn, if_pos hn]; exact ih _ h
    · rename_i hn; exact absurd h hn
theorem sizeLM_stop (xs ys : List JV) (n : Int) (h : ¬ sizeLM xs n ≤ 2000) : sizeLM (xs ++ ys) n = sizeLM xs n := by
  induction xs generalizing n with
  | nil =>
    simp only [sizeLM] at h
    cases ys with
    | nil => rfl
    | cons y ys => simp only [List.nil_append, sizeLM]; rw [if_neg h]
  | cons x xs ih =>
    simp only [List.cons_append, sizeLM] at h ⊢
    split at h
    · rename_i hn; rw [if_pos hn, if_pos hn]; exact ih _ h
    · rename_i hn; rw [if_neg hn, if_neg hn]
/-- the place of a key -/
def idxK : List Str → Str → Option Nat
  | [], _ => none
  | a :: r, k => if a = k then some 0 else (idxK r k).map (· + 1)
theorem idxK_hit {ks : List Str} {k : Str} {i : Nat} (h : idxK (ks.take i) k = none) (hi : ks[i]? = some k) : idxK ks k = some i := by
  induction ks generalizing i with
  | nil => simp at hi
  | cons a r ih =>
    cases i with
    | zero => simp only [List.getElem?_cons_zero, Option.some.injEq] at hi; simp [idxK, hi]
    | succ i =>
      simp only [List.getElem?_cons_succ] at hi
      simp only [List.take_succ_cons, idxK] at h ⊢
      split at h
      · cases h
      · rename_i hn
        rw [if_neg hn, ih (by simpa using h) hi]; rfl
theorem idxK_miss {ks : List Str} {k x : Str} {i : Nat} (h : idxK (ks.take i) k = none) (hi : ks[i]? = some x) (hx : x ≠ k) : idxK (ks.take (i + 1)) k = none := by
  induction ks generalizing i with
  | nil => simp at hi
  | cons a r ih =>
    cases i with
    | zero => simp only [List.getElem?_cons_zero, Option.some.injEq] at hi; simp [idxK, hi, hx]
    | succ i =>
      simp only [List.getElem?_cons_succ] at hi
      simp only [List.take_succ_cons, idxK] at h ⊢
      split at h
      · cases h
      · rename_i hn
        rw [if_neg hn, ih (by simpa using h) hi]; rfl
theorem idxK_spec {ks : List Str} {k : Str} {i : Nat} (h : idxK ks k = some i) : ks[i]? = some k := by
  induction ks generalizing i with
  | nil => cases h
  | cons a r ih =>
    simp only [idxK] at h
    split at h
    · rename_i e; cases h; simp [e]
    · rw [Option.map_eq_some_iff] at h
      obtain ⟨j, hj, rfl⟩ := h
      simpa using ih hj
theorem idxK_none {ks : List Str} {k : Str} : idxK ks k = none ↔ k ∉ ks := by
  induction ks with
  | nil => simp [idxK]
  | cons a r ih =>
    simp only [idxK, List.mem_cons, not_or]
    split
    · rename_i e; simp [e]
    · rename_i e; simp only [Option.map_eq_none_iff, ih]
      exact ⟨fun h => ⟨fun e' => e e'.symm, h⟩, fun h => h.2⟩
def idxI (ks : List Str) (k : Str) : Int := match idxK ks k with | some i => i | none => -1
def getM (v : JV) (k : Str) : Option JV := if v.k = 6 then (match idxK v.ks k with | some i => v.xs[i]? | none => none) else none
/-- without a key -/
def dropP (l : List (Str × JV)) (k : Str) : List (Str × JV) := l.filter fun p => !decide (p.1 = k)
def mkO (l : List (Str × JV)) : JV := .mk 6 false [] (l.map (·.2)) (l.map (·.1))
def dropM (v : JV) (k : Str) : JV := if v.k = 6 then mkO (dropP (v.ks.zip v.xs) k) else v
/-- with a key: ahead of the first that is greater -/
def insP : List (Str × JV) → Str → JV → List (Str × JV)
  | [], k, x => [(k, x)]
  | (a, y) :: r, k, x => if Op.bytesLess k a then (k, x) :: (a, y) :: r else (a, y) :: insP r k x
def putM (v : JV) (k : Str) (x : JV) : JV := if v.k = 6 then mkO (insP (dropP (v.ks.zip v.xs) k) k x) else mkO [(k, x)]
/-- what of two values a key tells apart -/
def differsM (a b : JV) (k : Str) : Bool := !((getM a k).isSome == (getM b k).isSome) || !sameM ((getM a k).getD JV.null) ((getM b k).getD JV.null) || !knownM ((getM a k).getD JV.null) || !knownM ((getM b k).getD JV.null)
/-- two rising lists made one -/
def mrg : List Str → List Str → List Str
  | [], ys => ys
  | x :: xs, [] => x :: xs
  | x :: xs, y :: ys => if Op.bytesLess x y then x :: mrg xs (y :: ys) else if x = y then y :: mrg xs ys else y :: mrg (x :: xs) ys
termination_by xs ys => xs.length + ys.length
theorem mrg_nil (xs : List Str) : mrg xs [] = xs := by cases xs <;> simp [mrg]
/-- what the two lists' front gives -/
def selK : List Str → List Str → Option Str
  | [], [] => none
  | [], b :: _ => some b
  | a :: _, [] => some a
  | a :: _, b :: _ => if Op.bytesLess a b then some a else some b
theorem mrg_sel {az bs : List Str} {k : Str} (h : selK az bs = some k) : mrg az bs = k :: mrg (if az.head? = some k then az.tail else az) (if bs.head? = some k then bs.tail else bs) := by
  have irr : ∀ a : Str, Op.bytesLess a a = false := fun a => by
    induction a with
    | nil => rfl
    | cons x a ih => simp [Op.bytesLess, ih]
  cases az with
  | nil =>
    cases bs with
    | nil => simp [selK] at h
    | cons b bs => simp only [selK, Option.some.injEq] at h; subst h; simp [mrg]
  | cons a az =>
    cases bs with
    | nil => simp only [selK, Option.some.injEq] at h; subst h; simp [mrg, mrg_nil]
    | cons b bs =>
      simp only [selK] at h
      simp only [mrg, List.head?_cons, Option.some.injEq, List.tail_cons]
      split at h
      · rename_i hl
        have e := Option.some.inj h
        subst e
        have : b ≠ a := by rintro rfl; rw [irr] at hl; cases hl
        rw [if_pos hl, if_pos rfl, if_neg this]
      · rename_i hl
        have e := Option.some.inj h
        subst e
        rw [if_neg hl, if_pos rfl]
        by_cases e : a = b
        · rw [if_pos e, if_pos e]
        · rw [if_neg e, if_neg e]
def newB : Str := [110, 101, 119, 95]
def forcesM (k : Str) : Bool := decide (4 ≤ k.length) && decide (k.take 4 = [110, 101, 119, 95])
def chooseM (there : Bool) (l : List Str) (swap : Bool) : Int := if there then (if l = [] then 0 else if l.any forcesM then (if swap then 4 else 3) else 2) else 1
theorem take_ne {α : Type} [DecidableEq α] {a b : List α} {i : Nat} {x y : α} (hx : a[i]? = some x) (hy : b[i]? = some y) (h : x ≠ y) : a ≠ b := by
  rintro rfl; rw [hx] at hy; cases hy; exact h rfl
theorem take_eq {α : Type} {a b : List α} {i : Nat} {x : α} (h : a.take i = b.take i) (hx : a[i]? = some x) (hy : b[i]? = some x) : a.take (i + 1) = b.take (i + 1) := by
  rw [List.take_add_one, List.take_add_one, h, hx, hy]
theorem sameL_take {xs ys : List JV} (hl : xs.length = ys.length) {i : Nat} {x y : JV} (hx : xs[i]? = some x) (hy : ys[i]? = some y) (h : sameM x y = false) : sameL xs ys = false := by
  cases hs : sameL xs ys with
  | false => rfl
  | true =>
    have := (sameL_iff _ _).1 hs
    subst this
    rw [hx] at hy
    cases hy
    rw [(same_iff x x).2 rfl] at h; cases h
end Go.Eng

namespace Go.Eng
open Go

/-- append(v, x...): the row stays in its block, or moves into a new one -/
theorem append_own3 {P : Program} {t e T : TypeId} {size bytes : Nat} (hT : ElemT P t e size bytes) {w : World} {base : Nat} {v x : Value} {n m : Nat} {xs news : List Value} {ty : TypeId} {K : Value → World → Prop}
    (hown : Own w base e size v n xs) (hx : SlAt w T x m news) (hl : news.length = m * size) (h1 : ∀ u ∈ news, one1 u = true) (hlen : n + m ≤ 4611686018427387904) (hb : (n + m) * bytes ≤ 140737488355328) (hbase : base ≤ w.heap.size)
    (hK : ∀ v' w', Own w' base e size v' (n + m) (xs ++ news) → Chg (fun k => v.ownBlock = some k) w w' → (∀ k, v'.ownBlock = some k → v.ownBlock = some k ∨ w.heap.size ≤ k) → K v' w') :
    semE P (Builtin.append_ #[t, t] ty #[v, x]) w K := by
  obtain ⟨i, z, hi, hz, h2, h3, h4⟩ := hT.get
  have hsame : ∀ {K' : Value → World → Prop}, semE P (Builtin.append_ #[t, t] ty #[v, x]) w K' → ∃ v' w', (Builtin.append_ #[t, t] ty #[v, x]).run P w = .ok v' w' ∧ K' v' w' := by
    intro K' h
    unfold semE at h
    split at h
    · rename_i v' w' hr; exact ⟨v', w', hr, h⟩
    · exact h.elim
  obtain ⟨v1, w1, hr1, hO1, hc1, hn1⟩ := hsame (append_own2 hT hown hx hl h1 hlen hb hbase fun v' w' a b c => (⟨a, b, c⟩ : Own w' base e size v' (n + m) (xs ++ news) ∧ Chg (fun k => v.ownBlock = some k) w w' ∧ (v' = .slice none 0 0 ↔ v = .slice none 0 0 ∧ m = 0)))
  unfold semE
  rw [hr1]
  refine hK v1 w1 hO1 hc1 ?_
  obtain ⟨hl', ⟨rfl, rfl⟩ | ⟨g, cap, cur, rfl, hbg, hg, hnc, hcm, hcs, htake⟩⟩ := hown
  · have hnil : xs = [] := List.eq_nil_of_length_eq_zero (by simpa using hl')
    subst hnil
    obtain ⟨v2, w2, hr2, hO2⟩ := hsame (append_own2 hT (base := w.heap.size) (show Own w w.heap.size e size (.slice none 0 0) 0 [] from ⟨by simp, .inl ⟨rfl, rfl⟩⟩) hx hl h1 hlen hb (Nat.le_refl _) fun v' w' a _ _ => a)
    rw [hr1] at hr2
    cases hr2
    intro k hk
    exact .inr (hO2.block k hk).1
  · obtain ⟨p, c, rfl, _, hpn, hcells⟩ := hx
    cases p with
    | none =>
      obtain ⟨rfl, rfl⟩ := hpn rfl
      intro k hk
      have hn : news = [] := List.eq_nil_of_length_eq_zero (by simpa using hl)
      subst hn
      have hr : (Builtin.append_ #[t, t] ty #[.slice (some ⟨g, 0, none⟩) n cap, .slice none 0 0]).run P w = .ok (.slice (some ⟨g, 0, none⟩) n cap) w := by
        simp [Builtin.append_, run_bind, run_underlying' hT.und, run_sizeOf' (show (P.info? e).isSome = true by rw [hi]; rfl), Builtin.lenOf, run_pure, Builtin.firstCells, hnc, storeCells]
      rw [hr1] at hr
      cases hr
      exact .inl hk
    | some a =>
      have hcell : ∀ j u, news[j]? = some u → w.cell? (a.add j) = some u := by
        intro j u hu
        have hne : news ≠ [] := fun e => by subst e; simp at hu
        obtain ⟨b, off, c', fr, hp, hb', hcs'⟩ := hcells hne
        cases hp
        rw [add_mk, cell_eq, hb', cellO_some, hcs' j (List.getElem?_eq_some_iff.1 hu).1, hu]
      subst h2
      by_cases hroom : n + m ≤ cap
      · have hfit : n * i.size + news.length ≤ cur.size := by rw [hl, hcs, ← Nat.add_mul]; exact Nat.mul_le_mul_right _ hroom
        have hr := run_append_room (P := P) w t ty e i hT.und hi g n cap cur hg a m c news hl hcell (fun u hu => one1_oneCell' (h1 u hu)) hroom hfit
        rw [hr1] at hr
        cases hr
        intro k hk
        exact .inl (by simpa [Value.ownBlock] using hk)
      · have holds : ∀ j u, xs[j]? = some u → w.cell? ((⟨g, 0, none⟩ : Addr).add j) = some u := World.ownsRow.cells (base := base) (e := e) (size := i.size) (v := .slice (some ⟨g, 0, none⟩) n cap) (n := n) ⟨hl', .inr ⟨g, cap, cur, rfl, hbg, hg, hnc, hcm, hcs, htake⟩⟩ rfl
        have hr := run_append_grow (P := P) w t ty e i z hT.und hi hz ⟨g, 0, none⟩ n cap xs hl' holds a m c news hl hcell (by omega) (by omega) (growslice_fits (by omega) (by rw [h3]; exact hb))
        rw [hr1] at hr
        cases hr
        intro k hk
        right
        simp [Value.ownBlock] at hk
        omega
theorem GdW_pure (c : Bool) (u v : Value) (w : World) (B : List Value → Fr → World → Prop) : GdW c [u] w (fun J => J [v] w) B ↔ ∀ g, B [bif c then v else u] g w := by
  constructor
  · rintro ⟨J, h1, h2, h3⟩ g
    cases c with
    | true => exact h3 _ g _ (h1 rfl)
    | false => exact h3 _ g _ (h2 rfl)
  · intro h
    refine ⟨fun s w' => s = [bif c then v else u] ∧ w' = w, fun hc => ⟨by rw [hc]; rfl, rfl⟩, fun hc => ⟨by rw [hc]; rfl, rfl⟩, ?_⟩
    rintro s g w' ⟨rfl, rfl⟩
    exact h g
/-- the part is looked at only where it matters -/
theorem GdW_nest_and (g e f : Bool) (w : World) (B : List Value → Fr → World → Prop) :
    GdW g [undef] w (fun J => pickW (bif g then .bool e else undef) (bif (g && e) then .bool f else undef) (.bool false) fun t => J [t] w) B ↔ ∀ h, B [bif g then .bool (e && f) else undef] h w := by
  cases g with
  | true =>
    rw [← GdW_pure]
    cases e <;> exact Iff.rfl
  | false =>
    constructor
    · rintro ⟨J, _, h2, h3⟩ h; exact h3 _ h _ (h2 rfl)
    · intro h; exact GdW.f h
theorem GdW_nest_or (g e f : Bool) (w : World) (B : List Value → Fr → World → Prop) :
    GdW g [undef] w (fun J => pickW (bif g then .bool e else undef) (.bool true) (bif (g && !e) then .bool f else undef) fun t => J [t] w) B ↔ ∀ h, B [bif g then .bool (e || f) else undef] h w := by
  cases g with
  | true =>
    rw [← GdW_pure]
    cases e <;> exact Iff.rfl
  | false =>
    constructor
    · rintro ⟨J, _, h2, h3⟩ h; exact h3 _ h _ (h2 rfl)
    · intro h; exact GdW.f h
theorem pick_gd_and (c e : Bool) (K : Value → Prop) : pickW (.bool c) (bif c then .bool e else undef) (.bool false) K ↔ K (.bool (c && e)) := by cases c <;> exact Iff.rfl
theorem pick_gd_or (c e : Bool) (K : Value → Prop) : pickW (.bool c) (.bool true) (bif !c then .bool e else undef) K ↔ K (.bool (c || e)) := by cases c <;> exact Iff.rfl
theorem isB_gd_t (c e : Bool) : isB (bif c then .bool e else undef) true = (c && e) := by cases c <;> cases e <;> rfl
theorem isB_gd_f (c e : Bool) : isB (bif c then .bool e else undef) false = (c && !e) := by cases c <;> cases e <;> rfl
/-- a part that is looked at only where the condition holds, and needs it -/
theorem GdW.look {c : Bool} {w : World} {A : (List Value → World → Prop) → Prop} {B : List Value → Fr → World → Prop} (e : Bool) (h1 : c = true → ∀ J : List Value → World → Prop, J [.bool e] w → A J) (h2 : ∀ g, B [bif c then .bool e else undef] g w) : GdW c [undef] w A B := by
  refine ⟨fun s w' => s = [bif c then .bool e else undef] ∧ w' = w, fun hc => h1 hc _ ⟨by rw [hc]; rfl, rfl⟩, fun hc => ⟨by rw [hc]; rfl, rfl⟩, ?_⟩
  rintro s g w' ⟨rfl, rfl⟩
  exact h2 g
/-- the same with a call, that may turn the world -/
theorem GdW.act {c : Bool} {w : World} {A : (List Value → World → Prop) → Prop} {B : List Value → Fr → World → Prop} (e : Bool) (R : World → Prop) (h0 : c = false → R w) (h1 : c = true → ∀ J : List Value → World → Prop, (∀ w', R w' → J [.bool e] w') → A J) (h2 : ∀ g w', R w' → B [bif c then .bool e else undef] g w') : GdW c [undef] w A B := by
  refine ⟨fun s w' => s = [bif c then .bool e else undef] ∧ R w', fun hc => h1 hc _ fun w' hR => ⟨by rw [hc]; rfl, hR⟩, fun hc => ⟨by rw [hc]; rfl, h0 hc⟩, ?_⟩
  rintro s g w' ⟨rfl, hR⟩
  exact h2 g w' hR
theorem GqW_f (A : (Value → Prop) → Prop) (B : Value → Prop) : GqW false A B ↔ B undef := by
  constructor
  · rintro ⟨v, _, h, hb⟩; rw [← h rfl]; exact hb
  · intro h; exact ⟨undef, (fun e => by cases e), fun _ => rfl, h⟩
theorem GqW_t (A : (Value → Prop) → Prop) (B : Value → Prop) : GqW true A B ↔ ∃ v, A (fun x => x = v) ∧ B v := by
  constructor
  · rintro ⟨v, h, _, hb⟩; exact ⟨v, h rfl, hb⟩
  · rintro ⟨v, h, hb⟩; exact ⟨v, fun _ => h, (fun e => by cases e), hb⟩
theorem GdW_f (u : List Value) (w : World) (A : (List Value → World → Prop) → Prop) (B : List Value → Fr → World → Prop) : GdW false u w A B ↔ ∀ g, B u g w := by
  constructor
  · rintro ⟨J, _, h2, h3⟩ g; exact h3 _ g _ (h2 rfl)
  · intro h; exact GdW.f h
theorem isB_u (c : Bool) : isB undef c = false := rfl
theorem eq_bb (a b : Bool) (K : Value → Prop) : eqW .bool false (.bool a) (.bool b) K ↔ K (.bool (a == b)) := by simp [eqW]
theorem ne_bb (a b : Bool) (K : Value → Prop) : eqW .bool true (.bool a) (.bool b) K ↔ K (.bool (!(a == b))) := by simp [eqW]
theorem condW_b (b : Bool) (A B : Prop) : condW (.bool b) A B ↔ (b = true → A) ∧ (b = false → B) := Iff.rfl

/-- rewriting of plain values -/
def wsv0 := And.intro @put_nil <| And.intro @put_map <| And.intro @put_int <| And.intro @put_str <| And.intro @put_bool <| And.intro @put_ptr <| And.intro @put_slice <| And.intro @bin_add <| And.intro @bin_sub <| And.intro @bin_mul <|
  And.intro @bin_quo <| And.intro @bin_rem <| And.intro @bin_eql <| And.intro @bin_neq <| And.intro @bin_lss <| And.intro @bin_leq <| And.intro @bin_gtr <| And.intro @bin_geq <| And.intro @bin_sadd <| And.intro @bin_seq <| And.intro @bin_sne <|
  And.intro @bin_slt <| And.intro @bin_sgt <| And.intro @bin_sge <| And.intro @bin_sle <| And.intro @nil_ptr <| And.intro @fld_ptr <| And.intro @ld_one <| And.intro @one_int <| And.intro @one_bool <| And.intro @one_str <| And.intro @one_slice <|
  And.intro @one_ptr <| And.intro @one_map <| And.intro @ext_tuple <| And.intro @ixa_slice <| And.intro @ixa_arr <| And.intro @ixs_str <| And.intro @lens_str <| And.intro @lenl_sl <| And.intro @un_not <| And.intro @un_neg <| And.intro @cvt_int <|
  And.intro @min_int <| And.intro @max_int <| And.intro @bd_none <| And.intro @bd_some <| And.intro @sls_str <| And.intro @pick_t <| And.intro @pick_f <| And.intro @condW_true @condW_false
def wsg0 := And.intro @isB_u <| And.intro @GqW_f <| And.intro @GqW_t <| And.intro @GdW_f <| And.intro @GdW_pure <| And.intro @GdW_nest_and <| And.intro @GdW_nest_or <| And.intro @pick_gd_and <| And.intro @pick_gd_or <| And.intro @isB_gd_t <| And.intro @isB_gd_f <| And.intro @isB_t @isB_f
def wsh0 := And.intro @add_mk <| And.intro @cell_eq <| And.intro @cellO_some <| And.intro @frozen_eq <| And.intro @frO_zero <| And.intro @heap_drew @size_drew
def wsl0 := And.intro @true_and <| And.intro @and_true <| And.intro @Bool.and_true <| And.intro @Bool.and_false <| And.intro @Bool.true_and <| And.intro @Bool.false_and <| And.intro @Bool.or_true <|
  And.intro @Bool.or_false <| And.intro @Bool.true_or <| And.intro @Bool.false_or <| And.intro @Bool.not_true @Bool.not_false
theorem wsv : type_of% wsv0 := wsv0
theorem wsg : type_of% wsg0 := wsg0
theorem wsh : type_of% wsh0 := wsh0
theorem wsl : type_of% wsl0 := wsl0
end Go.Eng

namespace Go.Proofs.YtcnjpcadejcenaaGreatDoor
open Go Go.Eng
theorem mixed : Tryz.prog.follows .mixedOrders = true := by kernel_rfl
end Go.Proofs.YtcnjpcadejcenaaGreatDoor

namespace Go.Proofs.YtcnjpcadejcenaaGreatDoor
open Go Go.Eng
set_option maxRecDepth 100000
variable [HX]

/- purlin_purlinref02.Known -/
def plan48 : Plan := { js := [(14, ⟨[10], [2, 3], 10⟩)], ds := [] }
def W48 (v0 : Value) (w : World) (K : Value → World → Prop) : Prop :=
  boxW 26 v0 w fun t1 w1 =>
  fldW 0 t1 fun t4 =>
  ldW false 1 t4 w1 fun t5 =>
  binW .eql t5 (.int .i64 1) fun t6 =>
  condW t6 (
    K (.bool false) w1) (
    fldW 3 t1 fun t7 =>
    ldW false 1 t7 w1 fun t8 =>
    lenlW t8 fun t9 =>
    LoopW [(.int .i64 0)] w1 fun s2 _ w3 L2 =>
      binW .lss (s2.getD 0 undef) t9 fun t11 =>
      condW t11 (
        fldW 3 t1 fun t13 =>
        ldW false 1 t13 w3 fun t14 =>
        ixaW none 5 t14 (s2.getD 0 undef) fun t16 =>
        ldW true 5 t16 w3 fun t17 =>
        callF Tryz.prog 48 [t17] w3 fun t18 w4 =>
        unW .not t18 fun t19 =>
        condW t19 (
          K (.bool false) w4) (
          binW .add (s2.getD 0 undef) (.int .i64 1) fun t20 =>
          L2 [t20] w4)) (
        K (.bool true) w3))
theorem W48_eq (v0 : Value) (w : World) (K : Value → World → Prop) : funW Tryz.prog Tryz.f48 plan48 [v0] w K = W48 v0 w K := by kernel_rfl
theorem W48_chk : chkFun Tryz.prog Tryz.f48 plan48 1 = true := by kernel_rfl
theorem W48_ok {v0 : Value} {w : World} {K : Value → World → Prop} (h : W48 v0 w K) : callF Tryz.prog 48 [v0] w K :=
  tie Tryz.prog 48 Tryz.f48 plan48 [v0] w K 1 (W48 v0 w K) rfl mixed Tryz.func48 W48_chk (W48_eq v0 w K) Tryz.call48 h

/- purlin_purlinref01.Texts -/
def plan58 : Plan := { js := [(14, ⟨[13], [4, 5], 13⟩)], ds := [(26, ⟨[0, 1, 2, 3, 4, 5, 6, 7, 8], [[], [], [0, 1], [0, 1, 2], [], [], [4, 5], [4, 5, 6], [0, 1, 2, 3, 4, 5, 6, 7]]⟩)] }
def W58 (v0 v1 : Value) (w : World) (K : Value → World → Prop) : Prop :=
  lenlW v0 fun t7 =>
  lenlW v1 fun t9 =>
  binW .neq t7 t9 fun t10 =>
  condW t10 (
    K (.bool false) w) (
    lenlW v0 fun t12 =>
    LoopW [(.int .i64 0)] w fun s1 _ w2 L1 =>
      binW .lss (s1.getD 0 undef) t12 fun t14 =>
      condW t14 (
        ixaW none 1 v0 (s1.getD 0 undef) fun t18 =>
        ldW false 1 t18 w2.drew fun t19 =>
        ixaW none 1 v1 (s1.getD 0 undef) fun t22 =>
        ldW false 1 t22 w2.drew fun t23 =>
        binW .neq t19 t23 fun t24 =>
        condW t24 (
          K (.bool false) w2.drew) (
          binW .add (s1.getD 0 undef) (.int .i64 1) fun t25 =>
          L1 [t25] w2.drew)) (
        K (.bool true) w2))
theorem W58_eq (v0 v1 : Value) (w : World) (K : Value → World → Prop) : funW Tryz.prog Tryz.f58 plan58 [v0, v1] w K = W58 v0 v1 w K := by kernel_rfl
theorem W58_chk : chkFun Tryz.prog Tryz.f58 plan58 2 = true := by kernel_rfl
theorem W58_ok {v0 v1 : Value} {w : World} {K : Value → World → Prop} (h : W58 v0 v1 w K) : callF Tryz.prog 58 [v0, v1] w K :=
  tie Tryz.prog 58 Tryz.f58 plan58 [v0, v1] w K 2 (W58 v0 v1 w K) rfl mixed Tryz.func58 W58_chk (W58_eq v0 v1 w K) Tryz.call58 h

/- purlin_purlinref02.Put -/
def plan62 : Plan := { js := [(41, ⟨[], [], 8⟩), (6, ⟨[8], [], 8⟩), (26, ⟨[8], [8], 21⟩), (28008, ⟨[32], [], 26⟩), (15, ⟨[8, 20], [8, 9], 20⟩)], ds := [(38, ⟨[0, 1, 2, 3, 4, 5, 6, 9], [[], [0], [], [2], [], [2, 3, 4], [2, 3, 4, 5], [2, 3, 4, 5, 6], [0, 1, 2, 3, 4, 5, 6, 7], [0, 1, 2, 3, 4, 5, 6, 7, 8], [0, 1, 2, 3, 4, 5, 6, 7, 8, 9]]⟩), (37, ⟨[0, 1, 2, 3, 4, 5, 6, 9], [[], [0], [], [2], [], [2, 3, 4], [2, 3, 4, 5], [2, 3, 4, 5, 6], [0, 1, 2, 3, 4, 5, 6, 7], [0, 1, 2, 3, 4, 5, 6, 7, 8], [0, 1, 2, 3, 4, 5, 6, 7, 8, 9]]⟩)] }
def W62 (v0 v1 v2 : Value) (w : World) (K : Value → World → Prop) : Prop :=
  boxW 26 v0 w fun t3 w1 =>
  boxW 26 v2 w1 fun t5 w2 =>
  allocW 26 [(.int .i64 0), (.bool false), (.string (ofL [])), (.slice none 0 0), (.slice none 0 0)] w2 fun t6 w3 =>
  putW [(.int .i64 0), (.bool false), (.string (ofL [])), (.slice none 0 0), (.slice none 0 0)] [(0, 1, (.int .i64 6))] fun c4 =>
  allocW 26 [(.int .i64 0), (.bool false), (.string (ofL [])), (.slice none 0 0), (.slice none 0 0)] w3 fun t7 w5 =>
  stW 5 t7 (.agg c4.toArray) w5 fun w6 =>
  JoinW (fun J7 =>
    fldW 0 t3 fun t11 =>
    ldW false 1 t11 w6 fun t12 =>
    binW .eql t12 (.int .i64 6) fun t13 =>
    condW t13 (
      ldW true 5 t3 w6 fun t14 =>
      callF Tryz.prog 123 [t14, v1] w6 fun t16 w8 =>
      stW 5 t3 t16 w8 fun w9 =>
      fldW 4 t3 fun t17 =>
      ldW false 1 t17 w9 fun t18 =>
      lenlW t18 fun t19 =>
      LoopW [(.bool false), (.int .i64 0)] w9 fun s10 _ w11 L10 =>
        binW .lss (s10.getD 1 undef) t19 fun t21 =>
        condW t21 (
          JoinW (fun J12 =>
            unW .not (s10.getD 0 undef) fun t24 =>
            GdW (isB t24 true) [undef] w11 (fun J13 =>
              fldW 4 t3 fun t27 =>
              ldW false 1 t27 w11 fun t28 =>
              ixaW none 1 t28 (s10.getD 1 undef) fun t30 =>
              ldW false 1 t30 w11 fun t31 =>
              binW .lss v1 t31 fun t32 =>
              J13 [t32] w11)
            fun s13 _ w14 =>
            pickW t24 (s13.getD 0 undef) (.bool false) fun t33 =>
            condW t33 (
              fldW 4 t7 fun t34 =>
              ldW false 1 t34 w14 fun t35 =>
              bslW 9 1 [(.string (ofL []))] [(0, 1, v1)] w14 fun t37 w15 =>
              semE Tryz.prog (Builtin.append_ #[24, 24] 24 #[t35, t37]) w15 fun t38 w16 =>
              fldW 4 t7 fun t39 =>
              stW 1 t39 t38 w16 fun w17 =>
              fldW 3 t7 fun t40 =>
              ldW false 1 t40 w17 fun t41 =>
              ldW true 5 t5 w17 fun t42 =>
              bslW 26 1 [(.int .i64 0), (.bool false), (.string (ofL [])), (.slice none 0 0), (.slice none 0 0)] [(0, 5, t42)] w17 fun t43 w18 =>
              semE Tryz.prog (Builtin.append_ #[23, 23] 23 #[t41, t43]) w18 fun t44 w19 =>
              fldW 3 t7 fun t45 =>
              stW 1 t45 t44 w19 fun w20 =>
              J12 [(.bool true)] w20) (
              J12 [(s10.getD 0 undef)] w14))
          fun s12 _ w21 =>
          fldW 4 t7 fun t46 =>
          ldW false 1 t46 w21.drew fun t47 =>
          fldW 4 t3 fun t48 =>
          ldW false 1 t48 w21.drew fun t49 =>
          ixaW none 1 t49 (s10.getD 1 undef) fun t51 =>
          ldW false 1 t51 w21.drew fun t52 =>
          bslW 9 1 [(.string (ofL []))] [(0, 1, t52)] w21.drew fun t53 w22 =>
          (ldW false 1 t46 w22 fun x => x = t47) ∧
          semE Tryz.prog (Builtin.append_ #[24, 24] 24 #[t47, t53]) w22 fun t54 w23 =>
          fldW 4 t7 fun t55 =>
          stW 1 t55 t54 w23 fun w24 =>
          fldW 3 t7 fun t56 =>
          ldW false 1 t56 w24.drew fun t57 =>
          fldW 3 t3 fun t58 =>
          ldW false 1 t58 w24.drew fun t59 =>
          ixaW none 5 t59 (s10.getD 1 undef) fun t61 =>
          ldW true 5 t61 w24.drew fun t62 =>
          bslW 26 1 [(.int .i64 0), (.bool false), (.string (ofL [])), (.slice none 0 0), (.slice none 0 0)] [(0, 5, t62)] w24.drew fun t63 w25 =>
          (ldW false 1 t56 w25 fun x => x = t57) ∧
          semE Tryz.prog (Builtin.append_ #[23, 23] 23 #[t57, t63]) w25 fun t64 w26 =>
          fldW 3 t7 fun t65 =>
          stW 1 t65 t64 w26 fun w27 =>
          binW .add (s10.getD 1 undef) (.int .i64 1) fun t66 =>
          L10 [(s12.getD 0 undef), t66] w27) (
          J7 [(s10.getD 0 undef)] w11)) (
      J7 [(.bool false)] w6))
  fun s7 _ w28 =>
  JoinW (fun J29 =>
    unW .not (s7.getD 0 undef) fun t68 =>
    condW t68 (
      fldW 4 t7 fun t69 =>
      ldW false 1 t69 w28 fun t70 =>
      bslW 9 1 [(.string (ofL []))] [(0, 1, v1)] w28 fun t72 w30 =>
      semE Tryz.prog (Builtin.append_ #[24, 24] 24 #[t70, t72]) w30 fun t73 w31 =>
      fldW 4 t7 fun t74 =>
      stW 1 t74 t73 w31 fun w32 =>
      fldW 3 t7 fun t75 =>
      ldW false 1 t75 w32 fun t76 =>
      ldW true 5 t5 w32 fun t77 =>
      bslW 26 1 [(.int .i64 0), (.bool false), (.string (ofL [])), (.slice none 0 0), (.slice none 0 0)] [(0, 5, t77)] w32 fun t78 w33 =>
      semE Tryz.prog (Builtin.append_ #[23, 23] 23 #[t76, t78]) w33 fun t79 w34 =>
      fldW 3 t7 fun t80 =>
      stW 1 t80 t79 w34 fun w35 =>
      J29 [] w35) (
      J29 [] w28))
  fun s29 _ w36 =>
  ldW true 5 t7 w36 fun t81 =>
  stW 5 t6 t81 w36 fun w37 =>
  ldW true 5 t6 w37 fun r38 =>
  K r38 w37
theorem W62_eq (v0 v1 v2 : Value) (w : World) (K : Value → World → Prop) : funW Tryz.prog Tryz.f62 plan62 [v0, v1, v2] w K = W62 v0 v1 v2 w K := by kernel_rfl
theorem W62_chk : chkFun Tryz.prog Tryz.f62 plan62 3 = true := by kernel_rfl
theorem W62_ok {v0 v1 v2 : Value} {w : World} {K : Value → World → Prop} (h : W62 v0 v1 v2 w K) : callF Tryz.prog 62 [v0, v1, v2] w K :=
  tie Tryz.prog 62 Tryz.f62 plan62 [v0, v1, v2] w K 3 (W62 v0 v1 v2 w K) rfl mixed Tryz.func62 W62_chk (W62_eq v0 v1 v2 w K) Tryz.call62 h

/- purlin_purlinref02.Text -/
def plan120 : Plan := { js := [], ds := [] }
def W120 (v0 : Value) (w : World) (K : Value → World → Prop) : Prop :=
  allocW 26 [(.int .i64 0), (.bool false), (.string (ofL [])), (.slice none 0 0), (.slice none 0 0)] w fun t2 w1 =>
  putW [(.int .i64 0), (.bool false), (.string (ofL [])), (.slice none 0 0), (.slice none 0 0)] [(0, 1, (.int .i64 4)), (2, 1, v0)] fun c2 =>
  stW 5 t2 (.agg c2.toArray) w1 fun w3 =>
  ldW true 5 t2 w3 fun r4 =>
  K r4 w3
theorem W120_eq (v0 : Value) (w : World) (K : Value → World → Prop) : funW Tryz.prog Tryz.f120 plan120 [v0] w K = W120 v0 w K := by kernel_rfl
theorem W120_chk : chkFun Tryz.prog Tryz.f120 plan120 1 = true := by kernel_rfl
theorem W120_ok {v0 : Value} {w : World} {K : Value → World → Prop} (h : W120 v0 w K) : callF Tryz.prog 120 [v0] w K :=
  tie Tryz.prog 120 Tryz.f120 plan120 [v0] w K 1 (W120 v0 w K) rfl mixed Tryz.func120 W120_chk (W120_eq v0 w K) Tryz.call120 h

/- purlin_purlinref02.Good -/
def plan22 : Plan := { js := [(3004, ⟨[12], [], 11⟩), (3008, ⟨[8], [], 7⟩)], ds := [] }
def W22 (v0 : Value) (w : World) (K : Value → World → Prop) : Prop :=
  boxW 26 v0 w fun t1 w1 =>
  ldW true 5 t1 w1 fun t3 =>
  callF Tryz.prog 59 [t3] w1 fun t4 w2 =>
  binW .leq t4 (.int .i64 2000) fun t5 =>
  GdW (isB t5 true) [undef] w2 (fun J3 =>
    ldW true 5 t1 w2 fun t7 =>
    callF Tryz.prog 60 [t7, (.int .i64 24)] w2 fun t8 w4 =>
    J3 [t8] w4)
  fun s3 _ w5 =>
  pickW t5 (s3.getD 0 undef) (.bool false) fun t9 =>
  GdW (isB t9 true) [undef] w5 (fun J6 =>
    ldW true 5 t1 w5 fun t11 =>
    callF Tryz.prog 61 [t11] w5 fun t12 w7 =>
    J6 [t12] w7)
  fun s6 _ w8 =>
  pickW t9 (s6.getD 0 undef) (.bool false) fun t13 =>
  K t13 w8
theorem W22_eq (v0 : Value) (w : World) (K : Value → World → Prop) : funW Tryz.prog Tryz.f22 plan22 [v0] w K = W22 v0 w K := by kernel_rfl
theorem W22_chk : chkFun Tryz.prog Tryz.f22 plan22 1 = true := by kernel_rfl
theorem W22_ok {v0 : Value} {w : World} {K : Value → World → Prop} (h : W22 v0 w K) : callF Tryz.prog 22 [v0] w K :=
  tie Tryz.prog 22 Tryz.f22 plan22 [v0] w K 1 (W22 v0 w K) rfl mixed Tryz.func22 W22_chk (W22_eq v0 w K) Tryz.call22 h

/- purlin_purlinref02.Drop -/
def plan123 : Plan := { js := [(23, ⟨[], [6], 16⟩), (16, ⟨[15], [6], 15⟩)], ds := [(32, ⟨[0, 1, 2, 3, 4, 5, 6, 9], [[], [0], [], [2], [], [2, 3, 4], [2, 3, 4, 5], [2, 3, 4, 5, 6], [0, 1, 2, 3, 4, 5, 6, 7], [0, 1, 2, 3, 4, 5, 6, 7, 8], [0, 1, 2, 3, 4, 5, 6, 7, 8, 9]]⟩), (31, ⟨[0, 1, 2, 3, 4, 5, 6, 9], [[], [0], [], [2], [], [2, 3, 4], [2, 3, 4, 5], [2, 3, 4, 5, 6], [0, 1, 2, 3, 4, 5, 6, 7], [0, 1, 2, 3, 4, 5, 6, 7, 8], [0, 1, 2, 3, 4, 5, 6, 7, 8, 9]]⟩)] }
def W123 (v0 v1 : Value) (w : World) (K : Value → World → Prop) : Prop :=
  boxW 26 v0 w fun t2 w1 =>
  allocW 26 [(.int .i64 0), (.bool false), (.string (ofL [])), (.slice none 0 0), (.slice none 0 0)] w1 fun t4 w2 =>
  fldW 0 t2 fun t7 =>
  ldW false 1 t7 w2 fun t8 =>
  binW .neq t8 (.int .i64 6) fun t9 =>
  condW t9 (
    ldW true 5 t2 w2 fun t10 =>
    stW 5 t4 t10 w2 fun w3 =>
    ldW true 5 t4 w3 fun r4 =>
    K r4 w3) (
    putW [(.int .i64 0), (.bool false), (.string (ofL [])), (.slice none 0 0), (.slice none 0 0)] [(0, 1, (.int .i64 6))] fun c5 =>
    allocW 26 [(.int .i64 0), (.bool false), (.string (ofL [])), (.slice none 0 0), (.slice none 0 0)] w2 fun t5 w6 =>
    stW 5 t5 (.agg c5.toArray) w6 fun w7 =>
    fldW 4 t2 fun t12 =>
    ldW false 1 t12 w7 fun t13 =>
    lenlW t13 fun t14 =>
    LoopW [(.int .i64 0)] w7 fun s8 _ w9 L8 =>
      binW .lss (s8.getD 0 undef) t14 fun t16 =>
      condW t16 (
        JoinW (fun J10 =>
          fldW 4 t2 fun t18 =>
          ldW false 1 t18 w9 fun t19 =>
          ixaW none 1 t19 (s8.getD 0 undef) fun t21 =>
          ldW false 1 t21 w9 fun t22 =>
          binW .neq t22 v1 fun t24 =>
          condW t24 (
            fldW 4 t5 fun t25 =>
            ldW false 1 t25 w9.drew fun t26 =>
            fldW 4 t2 fun t27 =>
            ldW false 1 t27 w9.drew fun t28 =>
            ixaW none 1 t28 (s8.getD 0 undef) fun t30 =>
            ldW false 1 t30 w9.drew fun t31 =>
            bslW 9 1 [(.string (ofL []))] [(0, 1, t31)] w9.drew fun t32 w11 =>
            (ldW false 1 t25 w11 fun x => x = t26) ∧
            semE Tryz.prog (Builtin.append_ #[24, 24] 24 #[t26, t32]) w11 fun t33 w12 =>
            fldW 4 t5 fun t34 =>
            stW 1 t34 t33 w12 fun w13 =>
            fldW 3 t5 fun t35 =>
            ldW false 1 t35 w13.drew fun t36 =>
            fldW 3 t2 fun t37 =>
            ldW false 1 t37 w13.drew fun t38 =>
            ixaW none 5 t38 (s8.getD 0 undef) fun t40 =>
            ldW true 5 t40 w13.drew fun t41 =>
            bslW 26 1 [(.int .i64 0), (.bool false), (.string (ofL [])), (.slice none 0 0), (.slice none 0 0)] [(0, 5, t41)] w13.drew fun t42 w14 =>
            (ldW false 1 t35 w14 fun x => x = t36) ∧
            semE Tryz.prog (Builtin.append_ #[23, 23] 23 #[t36, t42]) w14 fun t43 w15 =>
            fldW 3 t5 fun t44 =>
            stW 1 t44 t43 w15 fun w16 =>
            J10 [] w16) (
            J10 [] w9))
        fun s10 _ w17 =>
        binW .add (s8.getD 0 undef) (.int .i64 1) fun t45 =>
        L8 [t45] w17) (
        ldW true 5 t5 w9 fun t46 =>
        stW 5 t4 t46 w9 fun w18 =>
        ldW true 5 t4 w18 fun r19 =>
        K r19 w18))
theorem W123_eq (v0 v1 : Value) (w : World) (K : Value → World → Prop) : funW Tryz.prog Tryz.f123 plan123 [v0, v1] w K = W123 v0 v1 w K := by kernel_rfl
theorem W123_chk : chkFun Tryz.prog Tryz.f123 plan123 2 = true := by kernel_rfl
theorem W123_ok {v0 v1 : Value} {w : World} {K : Value → World → Prop} (h : W123 v0 v1 w K) : callF Tryz.prog 123 [v0, v1] w K :=
  tie Tryz.prog 123 Tryz.f123 plan123 [v0, v1] w K 2 (W123 v0 v1 w K) rfl mixed Tryz.func123 W123_chk (W123_eq v0 v1 w K) Tryz.call123 h

/- purlin_purlinref02.At -/
def plan165 : Plan := { js := [(6, ⟨[9], [4, 5], 9⟩)], ds := [] }
def W165 (v0 v1 : Value) (w : World) (K : Value → World → Prop) : Prop :=
  boxW 26 v0 w fun t2 w1 =>
  fldW 4 t2 fun t6 =>
  ldW false 1 t6 w1 fun t7 =>
  lenlW t7 fun t8 =>
  LoopW [(.int .i64 0)] w1 fun s2 _ w3 L2 =>
    binW .lss (s2.getD 0 undef) t8 fun t10 =>
    condW t10 (
      fldW 4 t2 fun t12 =>
      ldW false 1 t12 w3 fun t13 =>
      ixaW none 1 t13 (s2.getD 0 undef) fun t15 =>
      ldW false 1 t15 w3 fun t16 =>
      binW .eql t16 v1 fun t18 =>
      condW t18 (
        K (s2.getD 0 undef) w3) (
        binW .add (s2.getD 0 undef) (.int .i64 1) fun t20 =>
        L2 [t20] w3)) (
      K (.int .i64 (-1)) w3)
theorem W165_eq (v0 v1 : Value) (w : World) (K : Value → World → Prop) : funW Tryz.prog Tryz.f165 plan165 [v0, v1] w K = W165 v0 v1 w K := by kernel_rfl
theorem W165_chk : chkFun Tryz.prog Tryz.f165 plan165 2 = true := by kernel_rfl
theorem W165_ok {v0 v1 : Value} {w : World} {K : Value → World → Prop} (h : W165 v0 v1 w K) : callF Tryz.prog 165 [v0, v1] w K :=
  tie Tryz.prog 165 Tryz.f165 plan165 [v0, v1] w K 2 (W165 v0 v1 w K) rfl mixed Tryz.func165 W165_chk (W165_eq v0 v1 w K) Tryz.call165 h

/- purlin_purlinref02.Size -/
def plan59 : Plan := { js := [(11003, ⟨[12], [], 11⟩), (8, ⟨[3, 4], [], 2⟩)], ds := [] }
def W59 (v0 : Value) (w : World) (K : Value → World → Prop) : Prop :=
  boxW 26 v0 w fun t1 w1 =>
  LoopW [(.int .i64 1), (.int .i64 0)] w1 fun s2 _ w3 L2 =>
    fldW 3 t1 fun t6 =>
    ldW false 1 t6 w3 fun t7 =>
    lenlW t7 fun t8 =>
    binW .lss (s2.getD 1 undef) t8 fun t9 =>
    GdW (isB t9 true) [undef] w3 (fun J4 =>
      binW .leq (s2.getD 0 undef) (.int .i64 2000) fun t12 =>
      J4 [t12] w3)
    fun s4 _ w5 =>
    pickW t9 (s4.getD 0 undef) (.bool false) fun t13 =>
    condW t13 (
      fldW 3 t1 fun t17 =>
      ldW false 1 t17 w5 fun t18 =>
      ixaW none 5 t18 (s2.getD 1 undef) fun t20 =>
      ldW true 5 t20 w5 fun t21 =>
      callF Tryz.prog 59 [t21] w5 fun t22 w6 =>
      binW .add (s2.getD 0 undef) t22 fun t23 =>
      binW .add (s2.getD 1 undef) (.int .i64 1) fun t15 =>
      L2 [t23, t15] w6) (
      K (s2.getD 0 undef) w5)
theorem W59_eq (v0 : Value) (w : World) (K : Value → World → Prop) : funW Tryz.prog Tryz.f59 plan59 [v0] w K = W59 v0 w K := by kernel_rfl
theorem W59_chk : chkFun Tryz.prog Tryz.f59 plan59 1 = true := by kernel_rfl
theorem W59_ok {v0 : Value} {w : World} {K : Value → World → Prop} (h : W59 v0 w K) : callF Tryz.prog 59 [v0] w K :=
  tie Tryz.prog 59 Tryz.f59 plan59 [v0] w K 1 (W59 v0 w K) rfl mixed Tryz.func59 W59_chk (W59_eq v0 w K) Tryz.call59 h

/- purlin_purlinref02.Deep -/
def plan60 : Plan := { js := [(14, ⟨[11], [4, 5], 11⟩)], ds := [] }
def W60 (v0 v1 : Value) (w : World) (K : Value → World → Prop) : Prop :=
  boxW 26 v0 w fun t2 w1 =>
  binW .eql v1 (.int .i64 0) fun t7 =>
  condW t7 (
    K (.bool false) w1) (
    fldW 3 t2 fun t8 =>
    ldW false 1 t8 w1 fun t9 =>
    lenlW t9 fun t10 =>
    LoopW [(.int .i64 0)] w1 fun s2 _ w3 L2 =>
      binW .lss (s2.getD 0 undef) t10 fun t12 =>
      condW t12 (
        fldW 3 t2 fun t14 =>
        ldW false 1 t14 w3 fun t15 =>
        ixaW none 5 t15 (s2.getD 0 undef) fun t17 =>
        ldW true 5 t17 w3 fun t18 =>
        binW .sub v1 (.int .i64 1) fun t20 =>
        callF Tryz.prog 60 [t18, t20] w3 fun t21 w4 =>
        unW .not t21 fun t22 =>
        condW t22 (
          K (.bool false) w4) (
          binW .add (s2.getD 0 undef) (.int .i64 1) fun t23 =>
          L2 [t23] w4)) (
        K (.bool true) w3))
theorem W60_eq (v0 v1 : Value) (w : World) (K : Value → World → Prop) : funW Tryz.prog Tryz.f60 plan60 [v0, v1] w K = W60 v0 v1 w K := by kernel_rfl
theorem W60_chk : chkFun Tryz.prog Tryz.f60 plan60 2 = true := by kernel_rfl
theorem W60_ok {v0 v1 : Value} {w : World} {K : Value → World → Prop} (h : W60 v0 v1 w K) : callF Tryz.prog 60 [v0, v1] w K :=
  tie Tryz.prog 60 Tryz.f60 plan60 [v0, v1] w K 2 (W60 v0 v1 w K) rfl mixed Tryz.func60 W60_chk (W60_eq v0 v1 w K) Tryz.call60 h

/- purlin_purlinref02.plain -/
def plan61 : Plan := { js := [(47, ⟨[121], [2, 5], 121⟩), (24, ⟨[89], [2, 4], 89⟩), (14002, ⟨[84], [], 74⟩), (14009, ⟨[83], [], 77⟩), (14012, ⟨[76], [], 74⟩), (14015, ⟨[71], [], 64⟩), (14019, ⟨[70], [], 67⟩), (14022, ⟨[66], [], 64⟩), (14028, ⟨[61], [], 58⟩), (6002, ⟨[53], [], 46⟩), (6006, ⟨[52], [], 49⟩), (6009, ⟨[48], [], 46⟩), (6012, ⟨[43], [], 36⟩), (6014, ⟨[42], [], 41⟩), (6019, ⟨[40], [], 36⟩), (6022, ⟨[33], [], 23⟩), (6024, ⟨[32], [], 31⟩), (6026, ⟨[30], [], 23⟩), (6028, ⟨[28], [], 27⟩), (6032, ⟨[26], [], 23⟩), (6035, ⟨[20], [], 15⟩), (6037, ⟨[19], [], 18⟩), (6040, ⟨[17], [], 15⟩), (6044, ⟨[12], [], 11⟩)], ds := [(36, ⟨[0, 1, 2, 3, 4, 5, 6, 7, 8, 9, 10, 11, 12, 13, 14, 15, 16, 17, 18, 19, 20, 21, 22, 23, 24], [[], [0], [], [0, 1, 2], [0, 1, 2, 3], [0, 1, 2, 3, 4], [0, 1, 2, 3, 4, 5], [0, 1, 2, 3, 4, 5, 6], [0, 1, 2, 3, 4, 5, 6, 7], [0, 1, 2, 3, 4, 5, 6, 7, 8], [0, 1, 2, 3, 4, 5, 6, 7, 8, 9], [0, 1, 2, 3, 4, 5, 6, 7, 8, 9, 10], [0, 1, 2, 3, 4, 5, 6, 7, 8, 9, 10, 11], [0, 1, 2, 3, 4, 5, 6, 7, 8, 9, 10], [0, 1, 2, 3, 4, 5, 6, 7, 8, 9, 10, 13], [0, 1, 2, 3, 4, 5, 6, 7, 8, 9, 10, 11, 12, 13, 14], [0, 1, 2, 3, 4, 5, 6, 7, 8, 9, 10, 11, 12, 13, 14, 15], [0, 1, 2, 3, 4, 5, 6, 7, 8, 9, 10], [0, 1, 2, 3, 4, 5, 6, 7, 8, 9, 10, 17], [0, 1, 2, 3, 4, 5, 6, 7, 8, 9, 10], [0, 1, 2, 3, 4, 5, 6, 7, 8, 9, 10, 17, 18, 19], [0, 1, 2, 3, 4, 5, 6, 7, 8, 9, 10, 17, 18, 19, 20], [0, 1, 2, 3, 4, 5, 6, 7, 8, 9, 10, 11, 12, 13, 14, 15, 16, 17, 18, 19, 20, 21], [0, 1, 2, 3, 4, 5, 6, 7, 8, 9, 10, 11, 12, 13, 14, 15, 16, 17, 18, 19, 20, 21, 22], [0, 1, 2, 3, 4, 5, 6, 7, 8, 9, 10, 11, 12, 13, 14, 15, 16, 17, 18, 19, 20, 21, 22, 23]]⟩)] }
def W61 (v0 : Value) (w : World) (K : Value → World → Prop) : Prop :=
  boxW 26 v0 w fun t1 w1 =>
  fldW 0 t1 fun t6 =>
  ldW false 1 t6 w1 fun t7 =>
  binW .lss t7 (.int .i64 0) fun t9 =>
  GdW (isB t9 false) [undef] w1 (fun J2 =>
    binW .gtr t7 (.int .i64 6) fun t12 =>
    J2 [t12] w1)
  fun s2 _ w3 =>
  pickW t9 (.bool true) (s2.getD 0 undef) fun t13 =>
  GdW (isB t13 false) [undef] w3 (fun J4 =>
    fldW 1 t1 fun t15 =>
    ldW false 1 t15 w3 fun t16 =>
    J4 [t16] w3)
  fun s4 _ w5 =>
  GdW (isB (s4.getD 0 undef) true) [undef] w5 (fun J6 =>
    binW .neq t7 (.int .i64 2) fun t19 =>
    J6 [t19] w5)
  fun s6 _ w7 =>
  GdW (isB t13 false) [undef] w7 (fun J8 =>
    pickW (s4.getD 0 undef) (s6.getD 0 undef) (.bool false) fun t20 =>
    J8 [t20] w7)
  fun s8 _ w9 =>
  pickW t13 (.bool true) (s8.getD 0 undef) fun t21 =>
  GdW (isB t21 false) [undef] w9 (fun J10 =>
    fldW 2 t1 fun t23 =>
    ldW false 1 t23 w9 fun t24 =>
    binW .neq t24 (.string (ofL [])) fun t25 =>
    J10 [t25] w9)
  fun s10 _ w11 =>
  GdW (isB (s10.getD 0 undef) true) [undef] w11 (fun J12 =>
    binW .neq t7 (.int .i64 3) fun t28 =>
    J12 [t28] w11)
  fun s12 _ w13 =>
  GdW (isB t21 false) [undef] w13 (fun J14 =>
    pickW (s10.getD 0 undef) (s12.getD 0 undef) (.bool false) fun t29 =>
    J14 [t29] w13)
  fun s14 _ w15 =>
  GdW (isB (s14.getD 0 undef) true) [undef] w15 (fun J16 =>
    binW .neq t7 (.int .i64 4) fun t32 =>
    J16 [t32] w15)
  fun s16 _ w17 =>
  GdW (isB t21 false) [undef] w17 (fun J18 =>
    pickW (s14.getD 0 undef) (s16.getD 0 undef) (.bool false) fun t33 =>
    J18 [t33] w17)
  fun s18 _ w19 =>
  pickW t21 (.bool true) (s18.getD 0 undef) fun t34 =>
  GdW (isB t34 false) [undef] w19 (fun J20 =>
    fldW 3 t1 fun t36 =>
    ldW false 1 t36 w19 fun t37 =>
    lenlW t37 fun t38 =>
    binW .gtr t38 (.int .i64 0) fun t39 =>
    J20 [t39] w19)
  fun s20 _ w21 =>
  GdW (isB (s20.getD 0 undef) true) [undef] w21 (fun J22 =>
    binW .lss t7 (.int .i64 5) fun t42 =>
    J22 [t42] w21)
  fun s22 _ w23 =>
  GdW (isB t34 false) [undef] w23 (fun J24 =>
    pickW (s20.getD 0 undef) (s22.getD 0 undef) (.bool false) fun t43 =>
    J24 [t43] w23)
  fun s24 _ w25 =>
  pickW t34 (.bool true) (s24.getD 0 undef) fun t44 =>
  GdW (isB t44 false) [undef] w25 (fun J26 =>
    binW .neq t7 (.int .i64 6) fun t47 =>
    J26 [t47] w25)
  fun s26 _ w27 =>
  GdW (isB (s26.getD 0 undef) true) [undef] w27 (fun J28 =>
    fldW 4 t1 fun t49 =>
    ldW false 1 t49 w27 fun t50 =>
    lenlW t50 fun t51 =>
    binW .gtr t51 (.int .i64 0) fun t52 =>
    J28 [t52] w27)
  fun s28 _ w29 =>
  GdW (isB t44 false) [undef] w29 (fun J30 =>
    pickW (s26.getD 0 undef) (s28.getD 0 undef) (.bool false) fun t53 =>
    J30 [t53] w29)
  fun s30 _ w31 =>
  pickW t44 (.bool true) (s30.getD 0 undef) fun t54 =>
  condW t54 (
    K (.bool false) w31) (
    binW .eql t7 (.int .i64 3) fun t56 =>
    GdW (isB t56 true) [undef] w31 (fun J32 =>
      fldW 2 t1 fun t58 =>
      ldW false 1 t58 w31 fun t59 =>
      callF Tryz.prog 122 [t59] w31 fun t60 w33 =>
      unW .not t60 fun t61 =>
      J32 [t61] w33)
    fun s32 _ w34 =>
    pickW t56 (s32.getD 0 undef) (.bool false) fun t62 =>
    GdW (isB t62 false) [undef] w34 (fun J35 =>
      binW .eql t7 (.int .i64 4) fun t65 =>
      J35 [t65] w34)
    fun s35 _ w36 =>
    GdW (isB (s35.getD 0 undef) true) [undef] w36 (fun J37 =>
      fldW 2 t1 fun t67 =>
      ldW false 1 t67 w36 fun t68 =>
      lensW t68 fun t69 =>
      binW .gtr t69 (.int .i64 16384) fun t70 =>
      J37 [t70] w36)
    fun s37 _ w38 =>
    GdW (isB t62 false) [undef] w38 (fun J39 =>
      pickW (s35.getD 0 undef) (s37.getD 0 undef) (.bool false) fun t71 =>
      J39 [t71] w38)
    fun s39 _ w40 =>
    pickW t62 (.bool true) (s39.getD 0 undef) fun t72 =>
    GdW (isB t72 false) [undef] w40 (fun J41 =>
      binW .eql t7 (.int .i64 6) fun t75 =>
      J41 [t75] w40)
    fun s41 _ w42 =>
    GdW (isB (s41.getD 0 undef) true) [undef] w42 (fun J43 =>
      fldW 4 t1 fun t77 =>
      ldW false 1 t77 w42 fun t78 =>
      lenlW t78 fun t79 =>
      fldW 3 t1 fun t80 =>
      ldW false 1 t80 w42 fun t81 =>
      lenlW t81 fun t82 =>
      binW .neq t79 t82 fun t83 =>
      J43 [t83] w42)
    fun s43 _ w44 =>
    GdW (isB t72 false) [undef] w44 (fun J45 =>
      pickW (s41.getD 0 undef) (s43.getD 0 undef) (.bool false) fun t84 =>
      J45 [t84] w44)
    fun s45 _ w46 =>
    pickW t72 (.bool true) (s45.getD 0 undef) fun t85 =>
    condW t85 (
      K (.bool false) w46) (
      fldW 4 t1 fun t86 =>
      ldW false 1 t86 w46 fun t87 =>
      lenlW t87 fun t88 =>
      LoopW [(.int .i64 0)] w46 fun s47 _ w48 L47 =>
        binW .lss (s47.getD 0 undef) t88 fun t90 =>
        condW t90 (
          fldW 4 t1 fun t92 =>
          ldW false 1 t92 w48.drew fun t93 =>
          ixaW none 1 t93 (s47.getD 0 undef) fun t95 =>
          ldW false 1 t95 w48.drew fun t96 =>
          lensW t96 fun t97 =>
          binW .gtr t97 (.int .i64 16384) fun t98 =>
          GqW (isB t98 false) (fun k49 => k49 (s47.getD 0 undef)) fun t100 =>
          GqW (isB t98 false) (fun k50 => binW .gtr t100 (.int .i64 0) k50) fun t101 =>
          GqW (isB t98 false) (fun k51 => k51 t101) fun t102 =>
          GqW (isB t102 true) (fun k52 => fldW 4 t1 k52) fun t103 =>
          GqW (isB t102 true) (fun k53 => ldW false 1 t103 w48.drew k53) fun t104 =>
          GqW (isB t102 true) (fun k54 => k54 (s47.getD 0 undef)) fun t105 =>
          GqW (isB t102 true) (fun k55 => binW .sub t105 (.int .i64 1) k55) fun t106 =>
          GqW (isB t102 true) (fun k56 => ixaW none 1 t104 t106 k56) fun t107 =>
          GqW (isB t102 true) (fun k57 => ldW false 1 t107 w48.drew k57) fun t108 =>
          GqW (isB t102 true) (fun k58 => fldW 4 t1 k58) fun t109 =>
          GqW (isB t102 true) (fun k59 => ldW false 1 t109 w48.drew k59) fun t110 =>
          GqW (isB t102 true) (fun k60 => k60 (s47.getD 0 undef)) fun t111 =>
          GqW (isB t102 true) (fun k61 => ixaW none 1 t110 t111 k61) fun t112 =>
          GqW (isB t102 true) (fun k62 => ldW false 1 t112 w48.drew k62) fun t113 =>
          GqW (isB t102 true) (fun k63 => binW .geq t108 t113 k63) fun t114 =>
          GqW (isB t98 false) (fun k64 => pickW t102 t114 (.bool false) k64) fun t115 =>
          pickW t98 (.bool true) t115 fun t116 =>
          condW t116 (
            K (.bool false) w48.drew) (
            binW .add (s47.getD 0 undef) (.int .i64 1) fun t117 =>
            L47 [t117] w48.drew)) (
          fldW 3 t1 fun t118 =>
          ldW false 1 t118 w48 fun t119 =>
          lenlW t119 fun t120 =>
          LoopW [(.int .i64 0)] w48 fun s65 _ w66 L65 =>
            binW .lss (s65.getD 0 undef) t120 fun t122 =>
            condW t122 (
              fldW 3 t1 fun t124 =>
              ldW false 1 t124 w66 fun t125 =>
              ixaW none 5 t125 (s65.getD 0 undef) fun t127 =>
              ldW true 5 t127 w66 fun t128 =>
              callF Tryz.prog 61 [t128] w66 fun t129 w67 =>
              unW .not t129 fun t130 =>
              condW t130 (
                K (.bool false) w67) (
                binW .add (s65.getD 0 undef) (.int .i64 1) fun t131 =>
                L65 [t131] w67)) (
              K (.bool true) w66))))
theorem W61_eq (v0 : Value) (w : World) (K : Value → World → Prop) : funW Tryz.prog Tryz.f61 plan61 [v0] w K = W61 v0 w K := by kernel_rfl
theorem W61_chk : chkFun Tryz.prog Tryz.f61 plan61 1 = true := by kernel_rfl
theorem W61_ok {v0 : Value} {w : World} {K : Value → World → Prop} (h : W61 v0 w K) : callF Tryz.prog 61 [v0] w K :=
  tie Tryz.prog 61 Tryz.f61 plan61 [v0] w K 1 (W61 v0 w K) rfl mixed Tryz.func61 W61_chk (W61_eq v0 w K) Tryz.call61 h

/- purlin_purlinref01.Good -/
def plan122 : Plan := { js := [(32005, ⟨[53], [], 50⟩), (22, ⟨[4], [2], 4⟩), (12002, ⟨[37], [], 25⟩), (12003, ⟨[36], [], 29⟩), (12006, ⟨[35], [], 33⟩), (12010, ⟨[32], [], 29⟩), (12014, ⟨[28], [], 25⟩), (12019, ⟨[22], [], 20⟩), (4, ⟨[3], [], 1⟩), (6004, ⟨[12], [], 10⟩)], ds := [] }
def W122 (v0 : Value) (w : World) (K : Value → World → Prop) : Prop :=
  JoinW (fun J1 =>
    lensW v0 fun t7 =>
    binW .gtr t7 (.int .i64 0) fun t8 =>
    GdW (isB t8 true) [undef] w (fun J2 =>
      ixsW v0 (.int .i64 0) fun t11 =>
      binW .eql t11 (.int .u8 45) fun t12 =>
      J2 [t12] w)
    fun s2 _ w3 =>
    pickW t8 (s2.getD 0 undef) (.bool false) fun t13 =>
    condW t13 (
      slsW v0 (some (.int .i64 1)) none fun t15 =>
      J1 [t15] w3) (
      J1 [v0] w3))
  fun s1 _ w4 =>
  lensW (s1.getD 0 undef) fun t17 =>
  binW .eql t17 (.int .i64 0) fun t18 =>
  GdW (isB t18 false) [undef] w4 (fun J5 =>
    lensW (s1.getD 0 undef) fun t21 =>
    binW .gtr t21 (.int .i64 100) fun t22 =>
    J5 [t22] w4)
  fun s5 _ w6 =>
  pickW t18 (.bool true) (s5.getD 0 undef) fun t23 =>
  GdW (isB t23 false) [undef] w6 (fun J7 =>
    ixsW (s1.getD 0 undef) (.int .i64 0) fun t26 =>
    binW .eql t26 (.int .u8 48) fun t27 =>
    J7 [t27] w6)
  fun s7 _ w8 =>
  GdW (isB (s7.getD 0 undef) true) [undef] w8 (fun J9 =>
    lensW (s1.getD 0 undef) fun t30 =>
    binW .gtr t30 (.int .i64 1) fun t31 =>
    J9 [t31] w8)
  fun s9 _ w10 =>
  GdW (isB (s9.getD 0 undef) false) [undef] w10 (fun J11 =>
    lensW v0 fun t34 =>
    binW .gtr t34 (.int .i64 1) fun t35 =>
    J11 [t35] w10)
  fun s11 _ w12 =>
  GdW (isB (s7.getD 0 undef) true) [undef] w12 (fun J13 =>
    pickW (s9.getD 0 undef) (.bool true) (s11.getD 0 undef) fun t36 =>
    J13 [t36] w12)
  fun s13 _ w14 =>
  GdW (isB t23 false) [undef] w14 (fun J15 =>
    pickW (s7.getD 0 undef) (s13.getD 0 undef) (.bool false) fun t37 =>
    J15 [t37] w14)
  fun s15 _ w16 =>
  pickW t23 (.bool true) (s15.getD 0 undef) fun t38 =>
  condW t38 (
    K (.bool false) w16) (
    LoopW [(.int .i64 0)] w16 fun s17 _ w18 L17 =>
      lensW (s1.getD 0 undef) fun t41 =>
      binW .lss (s17.getD 0 undef) t41 fun t42 =>
      condW t42 (
        ixsW (s1.getD 0 undef) (s17.getD 0 undef) fun t47 =>
        binW .lss t47 (.int .u8 48) fun t48 =>
        GdW (isB t48 false) [undef] w18 (fun J19 =>
          ixsW (s1.getD 0 undef) (s17.getD 0 undef) fun t52 =>
          binW .gtr t52 (.int .u8 57) fun t53 =>
          J19 [t53] w18)
        fun s19 _ w20 =>
        pickW t48 (.bool true) (s19.getD 0 undef) fun t54 =>
        condW t54 (
          K (.bool false) w20) (
          binW .add (s17.getD 0 undef) (.int .i64 1) fun t44 =>
          L17 [t44] w20)) (
        K (.bool true) w18))
theorem W122_eq (v0 : Value) (w : World) (K : Value → World → Prop) : funW Tryz.prog Tryz.f122 plan122 [v0] w K = W122 v0 w K := by kernel_rfl
theorem W122_chk : chkFun Tryz.prog Tryz.f122 plan122 1 = true := by kernel_rfl
theorem W122_ok {v0 : Value} {w : World} {K : Value → World → Prop} (h : W122 v0 w K) : callF Tryz.prog 122 [v0] w K :=
  tie Tryz.prog 122 Tryz.f122 plan122 [v0] w K 1 (W122 v0 w K) rfl mixed Tryz.func122 W122_chk (W122_eq v0 w K) Tryz.call122 h

/- purlin_purlinref02.Same -/
def plan21 : Plan := { js := [(14, ⟨[45], [4, 5], 45⟩), (4008, ⟨[40], [], 34⟩), (4016, ⟨[31], [], 26⟩), (4023, ⟨[23], [], 19⟩), (4030, ⟨[16], [], 12⟩)], ds := [(26, ⟨[0, 1, 2, 3, 4, 5, 6, 7, 8, 9, 11], [[], [0], [], [0, 1, 2], [0, 1, 2, 3], [], [5], [], [5, 6, 7], [5, 6, 7, 8], [0, 1, 2, 3, 4, 5, 6, 7, 8, 9], [0, 1, 2, 3, 4, 5, 6, 7, 8, 9, 10]]⟩)] }
def W21 (v0 v1 : Value) (w : World) (K : Value → World → Prop) : Prop :=
  boxW 26 v0 w fun t2 w1 =>
  boxW 26 v1 w1 fun t3 w2 =>
  fldW 0 t2 fun t6 =>
  ldW false 1 t6 w2 fun t7 =>
  fldW 0 t3 fun t8 =>
  ldW false 1 t8 w2 fun t9 =>
  binW .neq t7 t9 fun t10 =>
  GdW (isB t10 false) [undef] w2 (fun J3 =>
    fldW 1 t2 fun t12 =>
    ldW false 1 t12 w2 fun t13 =>
    fldW 1 t3 fun t14 =>
    ldW false 1 t14 w2 fun t15 =>
    eqW .bool true t13 t15 fun t16 =>
    J3 [t16] w2)
  fun s3 _ w4 =>
  pickW t10 (.bool true) (s3.getD 0 undef) fun t17 =>
  GdW (isB t17 false) [undef] w4 (fun J5 =>
    fldW 2 t2 fun t19 =>
    ldW false 1 t19 w4 fun t20 =>
    fldW 2 t3 fun t21 =>
    ldW false 1 t21 w4 fun t22 =>
    binW .neq t20 t22 fun t23 =>
    J5 [t23] w4)
  fun s5 _ w6 =>
  pickW t17 (.bool true) (s5.getD 0 undef) fun t24 =>
  GdW (isB t24 false) [undef] w6 (fun J7 =>
    fldW 4 t2 fun t26 =>
    ldW false 1 t26 w6 fun t27 =>
    fldW 4 t3 fun t28 =>
    ldW false 1 t28 w6 fun t29 =>
    callF Tryz.prog 58 [t27, t29] w6 fun t30 w8 =>
    unW .not t30 fun t31 =>
    J7 [t31] w8)
  fun s7 _ w9 =>
  pickW t24 (.bool true) (s7.getD 0 undef) fun t32 =>
  GdW (isB t32 false) [undef] w9 (fun J10 =>
    fldW 3 t2 fun t34 =>
    ldW false 1 t34 w9 fun t35 =>
    lenlW t35 fun t36 =>
    fldW 3 t3 fun t37 =>
    ldW false 1 t37 w9 fun t38 =>
    lenlW t38 fun t39 =>
    binW .neq t36 t39 fun t40 =>
    J10 [t40] w9)
  fun s10 _ w11 =>
  pickW t32 (.bool true) (s10.getD 0 undef) fun t41 =>
  condW t41 (
    K (.bool false) w11) (
    fldW 3 t2 fun t42 =>
    ldW false 1 t42 w11 fun t43 =>
    lenlW t43 fun t44 =>
    LoopW [(.int .i64 0)] w11 fun s12 _ w13 L12 =>
      binW .lss (s12.getD 0 undef) t44 fun t46 =>
      condW t46 (
        fldW 3 t2 fun t48 =>
        ldW false 1 t48 w13.drew fun t49 =>
        ixaW none 5 t49 (s12.getD 0 undef) fun t51 =>
        ldW true 5 t51 w13.drew fun t52 =>
        fldW 3 t3 fun t53 =>
        ldW false 1 t53 w13.drew fun t54 =>
        ixaW none 5 t54 (s12.getD 0 undef) fun t56 =>
        ldW true 5 t56 w13.drew fun t57 =>
        callF Tryz.prog 21 [t52, t57] w13.drew fun t58 w14 =>
        unW .not t58 fun t59 =>
        condW t59 (
          K (.bool false) w14) (
          binW .add (s12.getD 0 undef) (.int .i64 1) fun t60 =>
          L12 [t60] w14)) (
        K (.bool true) w13))
theorem W21_eq (v0 v1 : Value) (w : World) (K : Value → World → Prop) : funW Tryz.prog Tryz.f21 plan21 [v0, v1] w K = W21 v0 v1 w K := by kernel_rfl
theorem W21_chk : chkFun Tryz.prog Tryz.f21 plan21 2 = true := by kernel_rfl
theorem W21_ok {v0 v1 : Value} {w : World} {K : Value → World → Prop} (h : W21 v0 v1 w K) : callF Tryz.prog 21 [v0, v1] w K :=
  tie Tryz.prog 21 Tryz.f21 plan21 [v0, v1] w K 2 (W21 v0 v1 w K) rfl mixed Tryz.func21 W21_chk (W21_eq v0 v1 w K) Tryz.call21 h

/- purlin_purlinref02.Int -/
def plan63 : Plan := { js := [], ds := [] }
def W63 (v0 : Value) (w : World) (K : Value → World → Prop) : Prop :=
  allocW 26 [(.int .i64 0), (.bool false), (.string (ofL [])), (.slice none 0 0), (.slice none 0 0)] w fun t2 w1 =>
  callF Tryz.prog 26 [v0] w1 fun t4 w2 =>
  putW [(.int .i64 0), (.bool false), (.string (ofL [])), (.slice none 0 0), (.slice none 0 0)] [(0, 1, (.int .i64 3)), (2, 1, t4)] fun c3 =>
  stW 5 t2 (.agg c3.toArray) w2 fun w4 =>
  ldW true 5 t2 w4 fun r5 =>
  K r5 w4
theorem W63_eq (v0 : Value) (w : World) (K : Value → World → Prop) : funW Tryz.prog Tryz.f63 plan63 [v0] w K = W63 v0 w K := by kernel_rfl
theorem W63_chk : chkFun Tryz.prog Tryz.f63 plan63 1 = true := by kernel_rfl
theorem W63_ok {v0 : Value} {w : World} {K : Value → World → Prop} (h : W63 v0 w K) : callF Tryz.prog 63 [v0] w K :=
  tie Tryz.prog 63 Tryz.f63 plan63 [v0] w K 1 (W63 v0 w K) rfl mixed Tryz.func63 W63_chk (W63_eq v0 w K) Tryz.call63 h

/- purlin_purlinref01.Digits -/
def plan26 : Plan := { js := [(27, ⟨[5], [], 5⟩), (16, ⟨[3, 4], [], 1⟩)], ds := [] }
def W26 (v0 : Value) (w : World) (K : Value → World → Prop) : Prop :=
  binW .eql v0 (.int .i64 0) fun t7 =>
  condW t7 (
    K (.string (ofL [48])) w) (
    LoopW [(.string (ofL [])), v0] w fun s1 _ w2 L1 =>
      binW .neq (s1.getD 1 undef) (.int .i64 0) fun t10 =>
      condW t10 (
        binW .rem (s1.getD 1 undef) (.int .i64 10) fun t14 =>
        JoinW (fun J3 =>
          binW .lss t14 (.int .i64 0) fun t16 =>
          condW t16 (
            unW .neg t14 fun t18 =>
            J3 [t18] w2) (
            J3 [t14] w2))
        fun s3 _ w4 =>
        binW .add (.int .i64 48) (s3.getD 0 undef) fun t20 =>
        cvtW .u8 t20 fun t21 =>
        bslW 5 1 [(.int .u8 0)] [(0, 1, t21)] w4 fun t22 w5 =>
        semQ Tryz.prog (convert 44 9 t22) w5 fun t23 =>
        binW .add t23 (s1.getD 0 undef) fun t25 =>
        binW .quo (s1.getD 1 undef) (.int .i64 10) fun t12 =>
        L1 [t25, t12] w5) (
        binW .lss v0 (.int .i64 0) fun t27 =>
        callF Tryz.prog 68 [t27, (s1.getD 0 undef)] w2 fun t29 w6 =>
        K t29 w6))
theorem W26_eq (v0 : Value) (w : World) (K : Value → World → Prop) : funW Tryz.prog Tryz.f26 plan26 [v0] w K = W26 v0 w K := by kernel_rfl
theorem W26_chk : chkFun Tryz.prog Tryz.f26 plan26 1 = true := by kernel_rfl
theorem W26_ok {v0 : Value} {w : World} {K : Value → World → Prop} (h : W26 v0 w K) : callF Tryz.prog 26 [v0] w K :=
  tie Tryz.prog 26 Tryz.f26 plan26 [v0] w K 1 (W26 v0 w K) rfl mixed Tryz.func26 W26_chk (W26_eq v0 w K) Tryz.call26 h

/- purlin_purlinref01.signed -/
def plan68 : Plan := { js := [(4003, ⟨[8], [], 7⟩)], ds := [] }
def W68 (v0 v1 : Value) (w : World) (K : Value → World → Prop) : Prop :=
  GdW (isB v0 true) [undef] w (fun J1 =>
    binW .neq v1 (.string (ofL [48])) fun t8 =>
    J1 [t8] w)
  fun s1 _ w2 =>
  pickW v0 (s1.getD 0 undef) (.bool false) fun t9 =>
  condW t9 (
    binW .add (.string (ofL [45])) v1 fun t11 =>
    K t11 w2) (
    K v1 w2)
theorem W68_eq (v0 v1 : Value) (w : World) (K : Value → World → Prop) : funW Tryz.prog Tryz.f68 plan68 [v0, v1] w K = W68 v0 v1 w K := by kernel_rfl
theorem W68_chk : chkFun Tryz.prog Tryz.f68 plan68 2 = true := by kernel_rfl
theorem W68_ok {v0 v1 : Value} {w : World} {K : Value → World → Prop} (h : W68 v0 v1 w K) : callF Tryz.prog 68 [v0, v1] w K :=
  tie Tryz.prog 68 Tryz.f68 plan68 [v0, v1] w K 2 (W68 v0 v1 w K) rfl mixed Tryz.func68 W68_chk (W68_eq v0 v1 w K) Tryz.call68 h


end Go.Proofs.YtcnjpcadejcenaaGreatDoor

namespace Go.Proofs.YtcnjpcadejcenaaGreatDoor
open Go Go.Eng Go.Num
set_option maxRecDepth 100000

abbrev VT : TypeId := 26
/-- a value in a block of its own -/
structure ValB (w : World) (a : Nat) (v : JV) (sv kv : Value) : Prop where
  hb : w.heap[a]? = some (.cells [i64 v.k, .bool v.b, str v.t, sv, kv].toArray VT (0, 0))
  items : ∃ T L, SlAt w T sv v.xs.length L ∧ VReps w v.xs L
  keys : ∃ T, SlAt w T kv v.ks.length (v.ks.map str)
  fits : Fits v.xs.length v.ks v.t
theorem ValB.ext {w w' : World} {a : Nat} {v : JV} {sv kv : Value} (h : ValB w a v sv kv) (hx : Ext w w') : ValB w' a v sv kv :=
  ⟨hx.at h.hb id, let ⟨T, L, h1, h2⟩ := h.items; ⟨T, L, h1.ext hx, h2.ext hx⟩, let ⟨T, h1⟩ := h.keys; ⟨T, h1.ext hx⟩, h.fits⟩
theorem ValB.rep {w : World} {a : Nat} {v : JV} {sv kv : Value} (h : ValB w a v sv kv) : VRep w v [i64 v.k, .bool v.b, str v.t, sv, kv] := by
  obtain ⟨T, L, h1, h2⟩ := h.items
  obtain ⟨T', h3⟩ := h.keys
  exact VRep.mk h1 h2 h3 h.fits
theorem ValB.ld {w : World} {a : Nat} {v : JV} {sv kv : Value} {K : Value → Prop} (h : ValB w a v sv kv) (hK : ∀ cs, VRep w v cs → K (.agg cs.toArray)) : ldW true 5 (.pointer (some ⟨a, 0, none⟩)) w K := ld_all h.hb rfl (hK _ h.rep)
theorem ValB.lenx {w : World} {a : Nat} {v : JV} {sv kv : Value} (h : ValB w a v sv kv) (K : Value → Prop) : lenlW sv K ↔ K (i64 v.xs.length) := by obtain ⟨T, L, h1, _⟩ := h.items; exact lenl_at h1 K
theorem ValB.lenk {w : World} {a : Nat} {v : JV} {sv kv : Value} (h : ValB w a v sv kv) (K : Value → Prop) : lenlW kv K ↔ K (i64 v.ks.length) := by obtain ⟨T, h1⟩ := h.keys; exact lenl_at h1 K
theorem ValB.item {w : World} {a : Nat} {v : JV} {sv kv : Value} {k : IntKind} {i : Nat} {x : JV} {K : Value → Prop} (h : ValB w a v sv kv) (hi : v.xs[i]? = some x) (hK : ∀ cs, VRep w x cs → K (.agg cs.toArray)) : ixaW none 5 sv (.int k i) fun p => ldW true 5 p w K := by
  obtain ⟨T, L, h1, h2⟩ := h.items; exact item_ld h1 h2 hi hK
theorem ValB.key {w : World} {a : Nat} {v : JV} {sv kv : Value} {k : IntKind} {i : Nat} {x : Str} {K : Value → Prop} (h : ValB w a v sv kv) (hi : v.ks[i]? = some x) (hK : K (str x)) : ixaW none 1 kv (.int k i) fun p => ldW false 1 p w K := by
  obtain ⟨T, h1⟩ := h.keys; exact text_ld h1 hi hK
theorem box_val {w : World} {v : JV} {cs : List Value} {K : Value → World → Prop} (h : VRep w v cs) (hK : ∀ a w' sv kv, ValB w' a v sv kv → Ext w w' → w.heap.size ≤ a → K (.pointer (some ⟨a, 0, none⟩)) w') : boxW VT (.agg cs.toArray) w K := by
  obtain ⟨sv, kv, T1, T2, L, rfl, h1, h2, h3, h4⟩ := h.out
  refine box_new fun a w' ha hz hb hx => hK a w' sv kv ⟨hb, ⟨T1, L, h1.ext hx, h2.ext hx⟩, ⟨T2, h3.ext hx⟩, h4⟩ hx (by omega)

/-- the two lists of a value -/
structure ValI (w : World) (v : JV) (sv kv : Value) : Prop where
  items : ∃ T L, SlAt w T sv v.xs.length L ∧ VReps w v.xs L
  keys : ∃ T, SlAt w T kv v.ks.length (v.ks.map str)
  fits : Fits v.xs.length v.ks v.t
theorem ValI.box {w w' : World} {a : Nat} {v : JV} {sv kv : Value} (h : ValI w v sv kv) (hx : Ext w w') (hb : w'.heap[a]? = some (.cells [i64 v.k, .bool v.b, str v.t, sv, kv].toArray VT (0, 0))) : ValB w' a v sv kv :=
  ⟨hb, let ⟨T, L, h1, h2⟩ := h.items; ⟨T, L, h1.ext hx, h2.ext hx⟩, let ⟨T, h1⟩ := h.keys; ⟨T, h1.ext hx⟩, h.fits⟩
theorem box_vali {w0 w : World} {v : JV} {cs : List Value} {K : Value → World → Prop} (h : VRep w0 v cs) (hK : ∀ a w' sv kv, w'.heap[a]? = some (.cells [i64 v.k, .bool v.b, str v.t, sv, kv].toArray VT (0, 0)) → ValI w0 v sv kv → Ext w w' → w.heap.size ≤ a → w'.heap.size = a + 1 → K (.pointer (some ⟨a, 0, none⟩)) w') : boxW VT (.agg cs.toArray) w K := by
  obtain ⟨sv, kv, T1, T2, L, rfl, h1, h2, h3, h4⟩ := h.out
  refine box_new fun a w' ha hz hb hx => hK a w' sv kv hb ⟨⟨T1, L, h1, h2⟩, ⟨T2, h3⟩, h4⟩ hx (by omega) (by omega)
/-- an item as it was at an earlier world -/
theorem ValI.item_old {w0 w : World} {v : JV} {sv kv : Value} {k : IntKind} {i : Nat} {x : JV} {K : Value → Prop} (h : ValI w0 v sv kv) (hx : Ext w0 w) (hi : v.xs[i]? = some x) (hK : ∀ cs, VRep w0 x cs → K (.agg cs.toArray)) : ixaW none 5 sv (.int k i) fun p => ldW true 5 p w K := by
  obtain ⟨T, L, h1, h2⟩ := h.items
  obtain ⟨cs, hc, hg⟩ := h2.get hi
  refine ixa_at (size := 5) (h1.ext hx) h2.len (by omega) (List.getElem?_eq_some_iff.1 hi).1 fun b o c fr hb hcc => ?_
  exact ld_cells hb hc.len (fun j hj => (hcc j hj).trans (hg j hj)) (hK cs hc)
/-- the lists at w, what they hold at w0 -/
def VRepS (w0 w : World) (v : JV) (cs : List Value) : Prop := ∃ sv kv T1 T2 L, cs = [i64 v.k, .bool v.b, str v.t, sv, kv] ∧ SlAt w T1 sv v.xs.length L ∧ VReps w0 v.xs L ∧ SlAt w T2 kv v.ks.length (v.ks.map str) ∧ Fits v.xs.length v.ks v.t
theorem VRepS.rep {w0 w : World} {v : JV} {cs : List Value} (h : VRepS w0 w v cs) (hx : Ext w0 w) : VRep w v cs := by
  obtain ⟨sv, kv, T1, T2, L, rfl, h1, h2, h3, h4⟩ := h
  exact VRep.mk h1 (h2.ext hx) h3 h4
theorem VRepS.ext {w0 w w' : World} {v : JV} {cs : List Value} (h : VRepS w0 w v cs) (hx : Ext w w') : VRepS w0 w' v cs := by
  obtain ⟨sv, kv, T1, T2, L, rfl, h1, h2, h3, h4⟩ := h
  exact ⟨sv, kv, T1, T2, L, rfl, h1.ext hx, h2, h3.ext hx, h4⟩
theorem VRep.s {w w' : World} {v : JV} {cs : List Value} (h : VRep w v cs) (hx : Ext w w') : VRepS w w' v cs := by
  obtain ⟨sv, kv, T1, T2, L, rfl, h1, h2, h3, h4⟩ := h.out
  exact ⟨sv, kv, T1, T2, L, rfl, h1.ext hx, h2, h3.ext hx, h4⟩

theorem loop_up (n : Nat) {w1 : World} {B : List Value → Fr → World → (List Value → World → Prop) → Prop} (R : Nat → World → Prop) (h0 : R 0 w1)
    (step : ∀ i w g L, i < n → R i w → (∀ w', R (i + 1) w' → L [i64 ((i + 1 : Nat) : Int)] w') → B [i64 (i : Nat)] g w L)
    (fin : ∀ w g L, R n w → B [i64 (n : Nat)] g w L) : LoopW [i64 0] w1 B := by
  refine ⟨fun s w => ∃ i, i ≤ n ∧ s = [i64 (i : Nat)] ∧ R i w, fun s _ => match s with | [.int _ i] => n - i.toNat | _ => 0, ⟨0, Nat.zero_le _, rfl, h0⟩, ?_⟩
  rintro s g w ⟨i, hi, rfl, hR⟩
  rcases Nat.lt_or_ge i n with hlt | hge
  · exact step i w g _ hlt hR fun w' h' => ⟨⟨i + 1, hlt, rfl, h'⟩, by simp only [Int.toNat_natCast]; omega⟩
  · obtain rfl : i = n := by omega
    exact fin w g _ hR
theorem up1 {i : Nat} (h : (i : Int) < 9223372036854775807) : IntKind.i64.wrap ((i : Int) + 1) = ((i + 1 : Nat) : Int) := by rw [wrap_id (by omega) (by omega)]; simp


section
variable [HX]
theorem known_ref (v : JV) : ∀ {cs : List Value} {w : World} {K : Value → World → Prop}, VRep w v cs → (∀ w', Ext w w' → K (.bool (knownM v)) w') → callF Tryz.prog 48 [.agg cs.toArray] w K := by
  induction v using JV.ind' with
  | h v ih =>
    intro cs w K h hK
    refine W48_ok ?_
    unfold W48
    refine box_val h fun a w1 sv kv hB hx _ => ?_
    rw [knownM_eq] at hK
    simp only [wsv, wsg, wsh, wsl, cond_true, cond_false, exists_eq_left', Option.some.injEq, Option.isSome_some, List.getElem?_toArray, List.getElem?_cons_zero, List.getElem?_cons_succ, List.length_cons, List.length_nil, List.set_cons_zero, List.set_cons_succ, List.getD_cons_zero, List.getD_cons_succ, Nat.zero_add, Nat.add_zero, Nat.reduceAdd, Nat.reduceLT, Nat.lt_add_one, Nat.zero_lt_succ, decide_true, decide_false, ne_eq, reduceCtorEq, wsh, hB.hb, condW_dec]
    refine ⟨fun h1 => ?_, fun h1 => ?_⟩
    · have := hK w1 hx
      rw [decide_eq_true h1] at this
      exact this
    · rw [hB.lenx]
      rw [decide_eq_false h1, knownL_all] at hK
      refine loop_up v.xs.length (fun i w' => Ext w1 w' ∧ (v.xs.take i).all knownM = true) ⟨Chg.refl _ _, rfl⟩ ?_ ?_
      · rintro i w2 g L hi ⟨hx2, hall⟩ hL
        have hB := hB.ext hx2
        obtain ⟨x, hxi⟩ : ∃ x, v.xs[i]? = some x := ⟨_, List.getElem?_eq_getElem hi⟩
        have hlt : ((i : Int) < (v.xs.length : Int)) := by omega
        simp only [wsv, wsg, wsh, wsl, cond_true, cond_false, exists_eq_left', Option.some.injEq, Option.isSome_some, List.getElem?_toArray, List.getElem?_cons_zero, List.getElem?_cons_succ, List.length_cons, List.length_nil, List.set_cons_zero, List.set_cons_succ, List.getD_cons_zero, List.getD_cons_succ, Nat.zero_add, Nat.add_zero, Nat.reduceAdd, Nat.reduceLT, Nat.lt_add_one, Nat.zero_lt_succ, decide_true, decide_false, ne_eq, reduceCtorEq, wsh, hB.hb, hlt]
        refine hB.item hxi fun cs hcs => ?_
        refine ih x (List.mem_of_getElem? hxi) hcs fun w3 hx3 => ?_
        simp only [wsv, wsg, wsh, wsl, cond_true, cond_false, exists_eq_left', Option.some.injEq, Option.isSome_some, List.getElem?_toArray, List.getElem?_cons_zero, List.getElem?_cons_succ, List.length_cons, List.length_nil, List.set_cons_zero, List.set_cons_succ, List.getD_cons_zero, List.getD_cons_succ, Nat.zero_add, Nat.add_zero, Nat.reduceAdd, Nat.reduceLT, Nat.lt_add_one, Nat.zero_lt_succ, decide_true, decide_false, ne_eq, reduceCtorEq, condW_b]
        refine ⟨fun hf => ?_, fun ht => ?_⟩
        · have hf : knownM x = false := by simpa using hf
          have := hK w3 (hx.trans (hx2.trans hx3))
          rw [all_no hxi hf] at this
          exact this
        · have ht : knownM x = true := by simpa using ht
          rw [up1 (by have := hB.fits.1; omega)]
          exact hL w3 ⟨hx2.trans hx3, by rw [all_take hxi, hall, ht]; rfl⟩
      · rintro w2 g L ⟨hx2, hall⟩
        simp only [wsv, wsg, wsh, wsl, cond_true, cond_false, exists_eq_left', Option.some.injEq, Option.isSome_some, List.getElem?_toArray, List.getElem?_cons_zero, List.getElem?_cons_succ, List.length_cons, List.length_nil, List.set_cons_zero, List.set_cons_succ, List.getD_cons_zero, List.getD_cons_succ, Nat.zero_add, Nat.add_zero, Nat.reduceAdd, Nat.reduceLT, Nat.lt_add_one, Nat.zero_lt_succ, decide_true, decide_false, ne_eq, reduceCtorEq, Int.lt_irrefl]
        rw [List.take_length] at hall
        have := hK w2 (hx.trans hx2)
        rw [hall] at this
        exact this

theorem texts_ref {a b : List Str} {x y : Value} {T1 T2 : TypeId} {w : World} {K : Value → World → Prop} (h1 : SlAt w T1 x a.length (a.map str)) (h2 : SlAt w T2 y b.length (b.map str)) (ha : a.length ≤ 9223372036854775807)
    (hK : ∀ w', Ext w w' → K (.bool (decide (a = b))) w') : callF Tryz.prog 58 [x, y] w K := by
  refine W58_ok ?_
  unfold W58
  rw [lenl_at h1, lenl_at h2]
  simp only [wsv, wsg, wsh, wsl, cond_true, cond_false, exists_eq_left', Option.some.injEq, Option.isSome_some, List.getElem?_toArray, List.getElem?_cons_zero, List.getElem?_cons_succ, List.length_cons, List.length_nil, List.set_cons_zero, List.set_cons_succ, List.getD_cons_zero, List.getD_cons_succ, Nat.zero_add, Nat.add_zero, Nat.reduceAdd, Nat.reduceLT, Nat.lt_add_one, Nat.zero_lt_succ, decide_true, decide_false, ne_eq, reduceCtorEq, condW_dec]
  refine ⟨fun hne => ?_, fun he => ?_⟩
  · have : a ≠ b := by rintro rfl; exact hne rfl
    have := hK w (Chg.refl _ _)
    rw [decide_eq_false ‹a ≠ b›] at this
    exact this
  · have hl : a.length = b.length := by omega
    rw [lenl_at h1]
    refine loop_up a.length (fun i w' => Ext w w' ∧ a.take i = b.take i) ⟨Chg.refl _ _, rfl⟩ ?_ ?_
    · rintro i w2 g L hi ⟨hx2, htk⟩ hL
      have hx3 := hx2.trans (Chg.drew (Chg.refl (fun _ => False) w2))
      obtain ⟨u, hu⟩ : ∃ u, a[i]? = some u := ⟨_, List.getElem?_eq_getElem hi⟩
      obtain ⟨v, hv⟩ : ∃ v, b[i]? = some v := ⟨_, List.getElem?_eq_getElem (by omega)⟩
      have hlt : ((i : Int) < (a.length : Int)) := by omega
      simp only [wsv, wsg, wsh, wsl, cond_true, cond_false, exists_eq_left', Option.some.injEq, Option.isSome_some, List.getElem?_toArray, List.getElem?_cons_zero, List.getElem?_cons_succ, List.length_cons, List.length_nil, List.set_cons_zero, List.set_cons_succ, List.getD_cons_zero, List.getD_cons_succ, Nat.zero_add, Nat.add_zero, Nat.reduceAdd, Nat.reduceLT, Nat.lt_add_one, Nat.zero_lt_succ, decide_true, decide_false, ne_eq, reduceCtorEq, hlt]
      refine text_ld (h1.ext hx3) hu ?_
      refine text_ld (h2.ext hx3) hv ?_
      simp only [wsv, wsg, wsh, wsl, cond_true, cond_false, exists_eq_left', Option.some.injEq, Option.isSome_some, List.getElem?_toArray, List.getElem?_cons_zero, List.getElem?_cons_succ, List.length_cons, List.length_nil, List.set_cons_zero, List.set_cons_succ, List.getD_cons_zero, List.getD_cons_succ, Nat.zero_add, Nat.add_zero, Nat.reduceAdd, Nat.reduceLT, Nat.lt_add_one, Nat.zero_lt_succ, decide_true, decide_false, ne_eq, reduceCtorEq, condW_dec]
      refine ⟨fun hne => ?_, fun he => ?_⟩
      · have := hK _ hx3
        rw [decide_eq_false (take_ne hu hv hne)] at this
        exact this
      · rw [up1 (by omega)]
        have he : u = v := by simpa using he
        exact hL _ ⟨hx3, take_eq htk hu (by rw [he]; exact hv)⟩
    · rintro w2 g L ⟨hx2, htk⟩
      simp only [wsv, wsg, wsh, wsl, cond_true, cond_false, exists_eq_left', Option.some.injEq, Option.isSome_some, List.getElem?_toArray, List.getElem?_cons_zero, List.getElem?_cons_succ, List.length_cons, List.length_nil, List.set_cons_zero, List.set_cons_succ, List.getD_cons_zero, List.getD_cons_succ, Nat.zero_add, Nat.add_zero, Nat.reduceAdd, Nat.reduceLT, Nat.lt_add_one, Nat.zero_lt_succ, decide_true, decide_false, ne_eq, reduceCtorEq, Int.lt_irrefl]
      rw [List.take_length, hl, List.take_length] at htk
      have := hK w2 hx2
      rw [decide_eq_true htk] at this
      exact this

theorem at_ref {v : JV} {cs : List Value} {k : Str} {w : World} {K : Value → World → Prop} (h : VRep w v cs) (hK : ∀ w', Ext w w' → K (i64 (idxI v.ks k)) w') : callF Tryz.prog 165 [.agg cs.toArray, str k] w K := by
  refine W165_ok ?_
  unfold W165
  refine box_val h fun a w1 sv kv hB hx _ => ?_
  simp only [wsv, wsg, wsh, wsl, cond_true, cond_false, exists_eq_left', Option.some.injEq, Option.isSome_some, List.getElem?_toArray, List.getElem?_cons_zero, List.getElem?_cons_succ, List.length_cons, List.length_nil, List.set_cons_zero, List.set_cons_succ, List.getD_cons_zero, List.getD_cons_succ, Nat.zero_add, Nat.add_zero, Nat.reduceAdd, Nat.reduceLT, Nat.lt_add_one, Nat.zero_lt_succ, decide_true, decide_false, ne_eq, reduceCtorEq, wsh, hB.hb]
  rw [hB.lenk]
  refine loop_up v.ks.length (fun i w' => Ext w1 w' ∧ idxK (v.ks.take i) k = none) ⟨Chg.refl _ _, rfl⟩ ?_ ?_
  · rintro i w2 g L hi ⟨hx2, hno⟩ hL
    have hB := hB.ext hx2
    obtain ⟨u, hu⟩ : ∃ u, v.ks[i]? = some u := ⟨_, List.getElem?_eq_getElem hi⟩
    have hlt : ((i : Int) < (v.ks.length : Int)) := by omega
    simp only [wsv, wsg, wsh, wsl, cond_true, cond_false, exists_eq_left', Option.some.injEq, Option.isSome_some, List.getElem?_toArray, List.getElem?_cons_zero, List.getElem?_cons_succ, List.length_cons, List.length_nil, List.set_cons_zero, List.set_cons_succ, List.getD_cons_zero, List.getD_cons_succ, Nat.zero_add, Nat.add_zero, Nat.reduceAdd, Nat.reduceLT, Nat.lt_add_one, Nat.zero_lt_succ, decide_true, decide_false, ne_eq, reduceCtorEq, wsh, hB.hb, hlt]
    refine hB.key hu ?_
    simp only [wsv, wsg, wsh, wsl, cond_true, cond_false, exists_eq_left', Option.some.injEq, Option.isSome_some, List.getElem?_toArray, List.getElem?_cons_zero, List.getElem?_cons_succ, List.length_cons, List.length_nil, List.set_cons_zero, List.set_cons_succ, List.getD_cons_zero, List.getD_cons_succ, Nat.zero_add, Nat.add_zero, Nat.reduceAdd, Nat.reduceLT, Nat.lt_add_one, Nat.zero_lt_succ, decide_true, decide_false, ne_eq, reduceCtorEq, condW_dec]
    refine ⟨fun he => ?_, fun hne => ?_⟩
    · have := hK w2 (hx.trans hx2)
      rw [idxI, idxK_hit hno (by rw [hu, he])] at this
      exact this
    · rw [up1 (by have := hB.fits.2.1; omega)]
      exact hL w2 ⟨hx2, idxK_miss hno hu hne⟩
  · rintro w2 g L ⟨hx2, hno⟩
    simp only [wsv, wsg, wsh, wsl, cond_true, cond_false, exists_eq_left', Option.some.injEq, Option.isSome_some, List.getElem?_toArray, List.getElem?_cons_zero, List.getElem?_cons_succ, List.length_cons, List.length_nil, List.set_cons_zero, List.set_cons_succ, List.getD_cons_zero, List.getD_cons_succ, Nat.zero_add, Nat.add_zero, Nat.reduceAdd, Nat.reduceLT, Nat.lt_add_one, Nat.zero_lt_succ, decide_true, decide_false, ne_eq, reduceCtorEq, Int.lt_irrefl]
    rw [List.take_length] at hno
    have := hK w2 (hx.trans hx2)
    rw [idxI, hno] at this
    exact this

theorem size_ref (v : JV) : ∀ {cs : List Value} {w : World} {K : Value → World → Prop}, VRep w v cs → (∀ w', Ext w w' → K (i64 (sizeM v)) w') → callF Tryz.prog 59 [.agg cs.toArray] w K := by
  induction v using JV.ind' with
  | h v ih =>
    intro cs w K h hK
    refine W59_ok ?_
    unfold W59
    refine box_val h fun a w1 sv kv hB hx _ => ?_
    rw [sizeM_eq] at hK
    refine ⟨fun s w' => ∃ i, i ≤ v.xs.length ∧ s = [i64 (sizeLM (v.xs.take i) 1), i64 (i : Nat)] ∧ Ext w1 w', fun s _ => match s with | [_, .int _ i] => v.xs.length - i.toNat | _ => 0, ⟨0, Nat.zero_le _, rfl, Chg.refl _ _⟩, ?_⟩
    rintro s g w2 ⟨i, hi, rfl, hx2⟩
    have hB := hB.ext hx2
    simp only [wsv, wsg, wsh, wsl, cond_true, cond_false, exists_eq_left', Option.some.injEq, Option.isSome_some, List.getElem?_toArray, List.getElem?_cons_zero, List.getElem?_cons_succ, List.length_cons, List.length_nil, List.set_cons_zero, List.set_cons_succ, List.getD_cons_zero, List.getD_cons_succ, Nat.zero_add, Nat.add_zero, Nat.reduceAdd, Nat.reduceLT, Nat.lt_add_one, Nat.zero_lt_succ, decide_true, decide_false, ne_eq, reduceCtorEq, wsh, hB.hb]
    rw [hB.lenx]
    simp only [wsv, wsg, wsh, wsl, cond_true, cond_false, exists_eq_left', Option.some.injEq, Option.isSome_some, List.getElem?_toArray, List.getElem?_cons_zero, List.getElem?_cons_succ, List.length_cons, List.length_nil, List.set_cons_zero, List.set_cons_succ, List.getD_cons_zero, List.getD_cons_succ, Nat.zero_add, Nat.add_zero, Nat.reduceAdd, Nat.reduceLT, Nat.lt_add_one, Nat.zero_lt_succ, decide_true, decide_false, ne_eq, reduceCtorEq]
    intro _
    simp only [wsv, wsg, wsh, wsl, cond_true, cond_false, exists_eq_left', Option.some.injEq, Option.isSome_some, List.getElem?_toArray, List.getElem?_cons_zero, List.getElem?_cons_succ, List.length_cons, List.length_nil, List.set_cons_zero, List.set_cons_succ, List.getD_cons_zero, List.getD_cons_succ, Nat.zero_add, Nat.add_zero, Nat.reduceAdd, Nat.reduceLT, Nat.lt_add_one, Nat.zero_lt_succ, decide_true, decide_false, ne_eq, reduceCtorEq, condW_b]
    refine ⟨fun hc => ?_, fun hc => ?_⟩
    · simp only [Bool.and_eq_true, decide_eq_true_eq] at hc
      obtain ⟨x, hxi⟩ : ∃ x, v.xs[i]? = some x := ⟨_, List.getElem?_eq_getElem (by omega)⟩
      refine hB.item hxi fun cs hcs => ?_
      refine ih x (List.mem_of_getElem? hxi) hcs fun w3 hx3 => ?_
      simp only [wsv, wsg, wsh, wsl, cond_true, cond_false, exists_eq_left', Option.some.injEq, Option.isSome_some, List.getElem?_toArray, List.getElem?_cons_zero, List.getElem?_cons_succ, List.length_cons, List.length_nil, List.set_cons_zero, List.set_cons_succ, List.getD_cons_zero, List.getD_cons_succ, Nat.zero_add, Nat.add_zero, Nat.reduceAdd, Nat.reduceLT, Nat.lt_add_one, Nat.zero_lt_succ, decide_true, decide_false, ne_eq, reduceCtorEq]
      rw [up1 (by have := hB.fits.1; omega)]
      refine ⟨⟨i + 1, by omega, ?_, hx2.trans hx3⟩, by simp only [Int.toNat_natCast]; omega⟩
      have : v.xs.take (i + 1) = v.xs.take i ++ [x] := by rw [List.take_add_one, hxi]; rfl
      rw [this, sizeLM_app _ _ _ hc.2]
      simp only [sizeLM]
      rw [if_pos hc.2]
    · have := hK w2 (hx.trans hx2)
      have e : sizeLM v.xs 1 = sizeLM (v.xs.take i) 1 := by
        by_cases hb : sizeLM (v.xs.take i) 1 ≤ 2000
        · have : i = v.xs.length := by
            simp only [Bool.and_eq_false_iff, decide_eq_false_iff_not] at hc
            omega
          rw [this, List.take_length]
        · have := sizeLM_stop (v.xs.take i) (v.xs.drop i) 1 hb
          rw [List.take_append_drop] at this
          exact this
      rw [e] at this
      exact this

theorem deep_ref (v : JV) : ∀ {cs : List Value} {m : Nat} {w : World} {K : Value → World → Prop}, m ≤ 1000 → VRep w v cs → (∀ w', Ext w w' → K (.bool (deepM v m)) w') → callF Tryz.prog 60 [.agg cs.toArray, i64 (m : Nat)] w K := by
  induction v using JV.ind' with
  | h v ih =>
    intro cs m w K hm h hK
    refine W60_ok ?_
    unfold W60
    refine box_val h fun a w1 sv kv hB hx _ => ?_
    simp only [wsv, wsg, wsh, wsl, cond_true, cond_false, exists_eq_left', Option.some.injEq, Option.isSome_some, List.getElem?_toArray, List.getElem?_cons_zero, List.getElem?_cons_succ, List.length_cons, List.length_nil, List.set_cons_zero, List.set_cons_succ, List.getD_cons_zero, List.getD_cons_succ, Nat.zero_add, Nat.add_zero, Nat.reduceAdd, Nat.reduceLT, Nat.lt_add_one, Nat.zero_lt_succ, decide_true, decide_false, ne_eq, reduceCtorEq, wsh, hB.hb, condW_dec]
    refine ⟨fun h1 => ?_, fun h1 => ?_⟩
    · obtain rfl : m = 0 := by omega
      have := hK w1 hx
      rw [deepM_zero] at this
      exact this
    · obtain ⟨m, rfl⟩ : ∃ k, m = k + 1 := ⟨m - 1, by omega⟩
      rw [hB.lenx]
      rw [deepM_succ, deepL_all] at hK
      refine loop_up v.xs.length (fun i w' => Ext w1 w' ∧ (v.xs.take i).all (deepM · m) = true) ⟨Chg.refl _ _, rfl⟩ ?_ ?_
      · rintro i w2 g L hi ⟨hx2, hall⟩ hL
        have hB := hB.ext hx2
        obtain ⟨x, hxi⟩ : ∃ x, v.xs[i]? = some x := ⟨_, List.getElem?_eq_getElem hi⟩
        have hlt : ((i : Int) < (v.xs.length : Int)) := by omega
        simp only [wsv, wsg, wsh, wsl, cond_true, cond_false, exists_eq_left', Option.some.injEq, Option.isSome_some, List.getElem?_toArray, List.getElem?_cons_zero, List.getElem?_cons_succ, List.length_cons, List.length_nil, List.set_cons_zero, List.set_cons_succ, List.getD_cons_zero, List.getD_cons_succ, Nat.zero_add, Nat.add_zero, Nat.reduceAdd, Nat.reduceLT, Nat.lt_add_one, Nat.zero_lt_succ, decide_true, decide_false, ne_eq, reduceCtorEq, wsh, hB.hb, hlt]
        refine hB.item hxi fun cs hcs => ?_
        have hw : IntKind.i64.wrap (((m + 1 : Nat) : Int) - 1) = ((m : Nat) : Int) := by rw [wrap_id (by omega) (by omega)]; omega
        rw [hw]
        refine ih x (List.mem_of_getElem? hxi) (by omega) hcs fun w3 hx3 => ?_
        simp only [wsv, wsg, wsh, wsl, cond_true, cond_false, exists_eq_left', Option.some.injEq, Option.isSome_some, List.getElem?_toArray, List.getElem?_cons_zero, List.getElem?_cons_succ, List.length_cons, List.length_nil, List.set_cons_zero, List.set_cons_succ, List.getD_cons_zero, List.getD_cons_succ, Nat.zero_add, Nat.add_zero, Nat.reduceAdd, Nat.reduceLT, Nat.lt_add_one, Nat.zero_lt_succ, decide_true, decide_false, ne_eq, reduceCtorEq, condW_b]
        refine ⟨fun hf => ?_, fun ht => ?_⟩
        · have hf : deepM x m = false := by simpa using hf
          have := hK w3 (hx.trans (hx2.trans hx3))
          rw [all_no (p := (deepM · m)) hxi hf] at this
          exact this
        · have ht : deepM x m = true := by simpa using ht
          rw [up1 (by have := hB.fits.1; omega)]
          exact hL w3 ⟨hx2.trans hx3, by rw [all_take (p := (deepM · m)) hxi, hall, ht]; rfl⟩
      · rintro w2 g L ⟨hx2, hall⟩
        simp only [wsv, wsg, wsh, wsl, cond_true, cond_false, exists_eq_left', Option.some.injEq, Option.isSome_some, List.getElem?_toArray, List.getElem?_cons_zero, List.getElem?_cons_succ, List.length_cons, List.length_nil, List.set_cons_zero, List.set_cons_succ, List.getD_cons_zero, List.getD_cons_succ, Nat.zero_add, Nat.add_zero, Nat.reduceAdd, Nat.reduceLT, Nat.lt_add_one, Nat.zero_lt_succ, decide_true, decide_false, ne_eq, reduceCtorEq, Int.lt_irrefl]
        rw [List.take_length] at hall
        have := hK w2 (hx.trans hx2)
        rw [hall] at this
        exact this
end
end Go.Proofs.YtcnjpcadejcenaaGreatDoor

namespace Go.Proofs.YtcnjpcadejcenaaGreatDoor
open Go Go.Eng Go.Num
set_option maxRecDepth 100000
section
variable [HX]

theorem isDig_out (c : UInt8) : (decide (((c.toNat : Nat) : Int) < 48) || decide ((57 : Int) < ((c.toNat : Nat) : Int))) = !Num.isDig c := by
  unfold Num.isDig
  rcases Nat.lt_or_ge c.toNat 48 with h | h
  · rw [decide_eq_true (by omega), decide_eq_false (show ¬ 48 ≤ c.toNat by omega)]; rfl
  · rw [decide_eq_false (show ¬ ((c.toNat : Nat) : Int) < 48 by omega), decide_eq_true (show 48 ≤ c.toNat by omega)]
    rcases Nat.lt_or_ge 57 c.toNat with h2 | h2
    · rw [decide_eq_true (by omega), decide_eq_false (show ¬ c.toNat ≤ 57 by omega)]; rfl
    · rw [decide_eq_false (by omega), decide_eq_true (show c.toNat ≤ 57 by omega)]; rfl
theorem u8_is (c : UInt8) (m : Int) (d : UInt8) (hm : m = (d.toNat : Nat)) : decide (((c.toNat : Nat) : Int) = m) = (c == d) := by
  rw [Bool.eq_iff_iff, decide_eq_true_eq, beq_iff_eq, hm]
  constructor
  · intro h; exact UInt8.toNat_inj.1 (by omega)
  · intro h; rw [h]

theorem goodN_def (a : Str) : goodN a = (!decide ((dig a).length = 0) && !decide (100 < (dig a).length) && !((dig a).head? == some 48 && (decide (1 < (dig a).length) || decide (1 < a.length))) && (dig a).all Num.isDig) := by
  unfold goodN
  have key : (dig a).head? = some 48 → (decide (a = [48]) = !(decide (1 < (dig a).length) || decide (1 < a.length))) := by
    intro h
    have h1 : a = [48] ↔ ¬ (1 < (dig a).length ∨ 1 < a.length) := by
      cases a with
      | nil => simp [dig] at h
      | cons c r =>
        by_cases hc : c = 45
        · have e : dig (c :: r) = r := by simp [dig, hc]
          rw [e] at h ⊢
          cases r with
          | nil => simp at h
          | cons e r => simp
        · have e : dig (c :: r) = c :: r := by simp [dig, hc]
          rw [e] at h ⊢
          simp only [List.head?_cons, Option.some.injEq] at h
          subst h
          cases r <;> simp
    rw [← Bool.decide_or, ← decide_not]
    exact decide_eq_decide.2 h1
  have e1 : decide (1 ≤ (dig a).length) = !decide ((dig a).length = 0) := by rw [← decide_not]; exact decide_eq_decide.2 (by omega)
  have e2 : decide ((dig a).length ≤ 100) = !decide (100 < (dig a).length) := by rw [← decide_not]; exact decide_eq_decide.2 (by omega)
  rw [e1, e2]
  cases hh : ((dig a).head? == some 48) with
  | false => simp
  | true => rw [key (by simpa using hh)]; simp

theorem good01_ref {a : Str} {w : World} {K : Value → World → Prop} (ha : a.length ≤ 9223372036854775807) (hK : ∀ w', Ext w w' → K (.bool (goodN a)) w') : callF Tryz.prog 122 [str a] w K := by
  refine W122_ok ?_
  unfold W122
  refine JoinW.cut (fun s w' => s = [str (dig a)] ∧ w' = w) ?_ ?_
  · cases a with
    | nil =>
      have h0 : ¬ (0 : Int) < ((0 : Nat) : Int) := by simp
      simp only [wsv, wsg, wsh, wsl, cond_true, cond_false, exists_eq_left', Option.some.injEq, Option.isSome_some, List.getElem?_toArray, List.getElem?_cons_zero, List.getElem?_cons_succ, List.length_cons, List.length_nil, List.set_cons_zero, List.set_cons_succ, List.getD_cons_zero, List.getD_cons_succ, Nat.zero_add, Nat.add_zero, Nat.reduceAdd, Nat.reduceLT, Nat.lt_add_one, Nat.zero_lt_succ, decide_true, decide_false, ne_eq, reduceCtorEq, h0]
      intros
      (try simp only [wsv, wsg, wsh, wsl, cond_true, cond_false, exists_eq_left', Option.some.injEq, Option.isSome_some, List.getElem?_toArray, List.getElem?_cons_zero, List.getElem?_cons_succ, List.length_cons, List.length_nil, List.set_cons_zero, List.set_cons_succ, List.getD_cons_zero, List.getD_cons_succ, Nat.zero_add, Nat.add_zero, Nat.reduceAdd, Nat.reduceLT, Nat.lt_add_one, Nat.zero_lt_succ, decide_true, decide_false, ne_eq, reduceCtorEq])
      first | exact ⟨rfl, rfl⟩ | rfl
    | cons c r =>
      have h0 : (0 : Int) < ((r.length + 1 : Nat) : Int) := by omega
      simp only [wsv, wsg, wsh, wsl, cond_true, cond_false, exists_eq_left', Option.some.injEq, Option.isSome_some, List.getElem?_toArray, List.getElem?_cons_zero, List.getElem?_cons_succ, List.length_cons, List.length_nil, List.set_cons_zero, List.set_cons_succ, List.getD_cons_zero, List.getD_cons_succ, Nat.zero_add, Nat.add_zero, Nat.reduceAdd, Nat.reduceLT, Nat.lt_add_one, Nat.zero_lt_succ, decide_true, decide_false, ne_eq, reduceCtorEq, h0, Int.le_refl, Int.toNat_zero]
      intro _
      rw [u8_is c 45 45 rfl]
      simp only [wsv, wsg, wsh, wsl, cond_true, cond_false, exists_eq_left', Option.some.injEq, Option.isSome_some, List.getElem?_toArray, List.getElem?_cons_zero, List.getElem?_cons_succ, List.length_cons, List.length_nil, List.set_cons_zero, List.set_cons_succ, List.getD_cons_zero, List.getD_cons_succ, Nat.zero_add, Nat.add_zero, Nat.reduceAdd, Nat.reduceLT, Nat.lt_add_one, Nat.zero_lt_succ, decide_true, decide_false, ne_eq, reduceCtorEq, condW_b]
      refine ⟨fun h => ?_, fun h => ?_⟩
      · have e : dig (c :: r) = r := by simp [dig, (beq_iff_eq.1 h)]
        rw [e, show (1 : Int).toNat = 1 from rfl, ← List.length_cons (a := c), List.take_length]
        exact ⟨by omega, by simp only [List.length_cons]; omega, rfl⟩
      · have : c ≠ 45 := by simpa using h
        have e : dig (c :: r) = c :: r := by simp [dig, this]
        rw [e]
  · rintro s g w' ⟨rfl, rfl⟩
    have hdl : (dig a).length ≤ a.length := by
      cases a with
      | nil => simp [dig]
      | cons c r => simp only [dig]; split <;> simp
    rw [goodN_def] at hK
    cases hd : dig a with
    | nil =>
      rw [hd] at hK
      have hz : decide (((0 : Nat) : Int) = 0) = true := by decide
      simp only [wsv, wsg, wsh, wsl, cond_true, cond_false, exists_eq_left', Option.some.injEq, Option.isSome_some, List.getElem?_toArray, List.getElem?_cons_zero, List.getElem?_cons_succ, List.length_cons, List.length_nil, List.set_cons_zero, List.set_cons_succ, List.getD_cons_zero, List.getD_cons_succ, Nat.zero_add, Nat.add_zero, Nat.reduceAdd, Nat.reduceLT, Nat.lt_add_one, Nat.zero_lt_succ, decide_true, decide_false, ne_eq, reduceCtorEq, hz]
      intros
      exact hK _ (Chg.refl _ _)
    | cons c r =>
      rw [hd] at hK hdl
      have hz : decide (((r.length + 1 : Nat) : Int) = 0) = false := decide_eq_false (by omega)
      simp only [wsv, wsg, wsh, wsl, cond_true, cond_false, exists_eq_left', Option.some.injEq, Option.isSome_some, List.getElem?_toArray, List.getElem?_cons_zero, List.getElem?_cons_succ, List.length_cons, List.length_nil, List.set_cons_zero, List.set_cons_succ, List.getD_cons_zero, List.getD_cons_succ, Nat.zero_add, Nat.add_zero, Nat.reduceAdd, Nat.reduceLT, Nat.lt_add_one, Nat.zero_lt_succ, decide_true, decide_false, ne_eq, reduceCtorEq, Int.le_refl, Int.toNat_zero, u8_is c 48 48 rfl, hz, condW_b]
      intros
      have e1 : decide ((100 : Int) < ((r.length + 1 : Nat) : Int)) = decide (100 < (c :: r).length) := decide_eq_decide.2 (by simp only [List.length_cons]; omega)
      have e2 : decide ((1 : Int) < ((r.length + 1 : Nat) : Int)) = decide (1 < (c :: r).length) := decide_eq_decide.2 (by simp only [List.length_cons]; omega)
      have e3 : decide ((1 : Int) < (a.length : Int)) = decide (1 < a.length) := decide_eq_decide.2 (by omega)
      rw [e1, e2, e3]
      have e4 : decide ((c :: r).length = 0) = false := decide_eq_false (by simp)
      have e5 : ((c :: r).head? == some 48) = (c == 48) := by simp
      rw [e4, e5] at hK
      generalize decide (100 < (c :: r).length) = b1 at *
      generalize ((c == 48) && (decide (1 < (c :: r).length) || decide (1 < a.length))) = b2 at *
      refine ⟨fun h => ?_, fun h => ?_⟩
      · have := hK _ (Chg.refl _ _)
        have e : (!false && !b1 && !b2 && (c :: r).all Num.isDig) = false := by
          cases b1 <;> cases b2 <;> simp at h ⊢
        rw [e] at this
        exact this
      · have hb : b1 = false ∧ b2 = false := by simpa using h
        rw [hb.1, hb.2] at hK
        have hn : ((r.length + 1 : Nat) : Int) = (((c :: r).length : Nat) : Int) := by simp
        rw [hn]
        generalize c :: r = D at *
        refine loop_up D.length (fun i w2 => Ext w' w2 ∧ (D.take i).all Num.isDig = true) ⟨Chg.refl _ _, rfl⟩ ?_ ?_
        · rintro i w2 g L hi ⟨hx2, hall⟩ hL
          obtain ⟨e, he⟩ : ∃ e, D[i]? = some e := ⟨_, List.getElem?_eq_getElem hi⟩
          have hlt : ((i : Int) < ((D.length : Nat) : Int)) := by omega
          simp only [wsv, wsg, wsh, wsl, cond_true, cond_false, exists_eq_left', Option.some.injEq, Option.isSome_some, List.getElem?_toArray, List.getElem?_cons_zero, List.getElem?_cons_succ, List.length_cons, List.length_nil, List.set_cons_zero, List.set_cons_succ, List.getD_cons_zero, List.getD_cons_succ, Nat.zero_add, Nat.add_zero, Nat.reduceAdd, Nat.reduceLT, Nat.lt_add_one, Nat.zero_lt_succ, decide_true, decide_false, ne_eq, reduceCtorEq, hlt, Int.toNat_natCast, Int.natCast_nonneg, he, isDig_out]
          intros
          rw [condW_b]
          refine ⟨fun hf => ?_, fun ht => ?_⟩
          · have hf : Num.isDig e = false := by simpa using hf
            have := hK _ hx2
            rw [all_no he hf] at this
            exact this
          · have ht : Num.isDig e = true := by simpa using ht
            rw [up1 (by omega)]
            exact hL _ ⟨hx2, by rw [all_take he, hall, ht]; rfl⟩
        · rintro w2 g L ⟨hx2, hall⟩
          simp only [wsv, wsg, wsh, wsl, cond_true, cond_false, exists_eq_left', Option.some.injEq, Option.isSome_some, List.getElem?_toArray, List.getElem?_cons_zero, List.getElem?_cons_succ, List.length_cons, List.length_nil, List.set_cons_zero, List.set_cons_succ, List.getD_cons_zero, List.getD_cons_succ, Nat.zero_add, Nat.add_zero, Nat.reduceAdd, Nat.reduceLT, Nat.lt_add_one, Nat.zero_lt_succ, decide_true, decide_false, ne_eq, reduceCtorEq, Int.lt_irrefl]
          rw [List.take_length] at hall
          have := hK w2 hx2
          rw [hall] at this
          exact this

theorem keysOk_two {ks : List Str} {i : Nat} {a b : Str} (ha : ks[i]? = some a) (hb : ks[i + 1]? = some b) (h : Op.bytesLess a b = false) : keysOk ks = false := by
  induction ks generalizing i with
  | nil => simp at ha
  | cons x r ih =>
    cases r with
    | nil => simp at hb
    | cons y r =>
      cases i with
      | zero => simp only [List.getElem?_cons_zero, Option.some.injEq, Nat.zero_add, List.getElem?_cons_succ] at ha hb; subst ha hb; simp [keysOk, h]
      | succ i =>
        simp only [List.getElem?_cons_succ] at ha hb
        rw [keysOk, ih (by simpa using ha) (by simpa using hb)]; simp
theorem keysOk_long {ks : List Str} {i : Nat} {a : Str} (ha : ks[i]? = some a) (h : 16384 < a.length) : keysOk ks = false := by
  induction ks generalizing i with
  | nil => simp at ha
  | cons x r ih =>
    cases i with
    | zero =>
      simp only [List.getElem?_cons_zero, Option.some.injEq] at ha
      subst ha
      cases r with
      | nil => simp only [keysOk, decide_eq_false_iff_not]; omega
      | cons y r => rw [keysOk, decide_eq_false (by omega)]; rfl
    | succ i =>
      simp only [List.getElem?_cons_succ] at ha
      cases r with
      | nil => simp at ha
      | cons y r => rw [keysOk, ih ha]; simp
theorem keysOk_mk {ks : List Str} (h1 : ∀ (i : Nat) (a : Str), ks[i]? = some a → a.length ≤ 16384) (h2 : ∀ (i : Nat) (a b : Str), ks[i]? = some a → ks[i + 1]? = some b → Op.bytesLess a b = true) : keysOk ks = true := by
  induction ks with
  | nil => rfl
  | cons x r ih =>
    have := ih (fun i a h => h1 (i + 1) a (by rw [List.getElem?_cons_succ]; exact h)) (fun i a b ha hb => h2 (i + 1) a b (by rw [List.getElem?_cons_succ]; exact ha) (by rw [List.getElem?_cons_succ]; exact hb))
    cases r with
    | nil => simp only [keysOk, decide_eq_true_eq]; exact h1 0 x rfl
    | cons y r => rw [keysOk, this, h2 0 x y rfl rfl, decide_eq_true (h1 0 x rfl)]; rfl

theorem plain_ref (v : JV) : ∀ {cs : List Value} {w : World} {K : Value → World → Prop}, VRep w v cs → (∀ w', Ext w w' → K (.bool (plainM v)) w') → callF Tryz.prog 61 [.agg cs.toArray] w K := by
  induction v using JV.ind' with
  | h v ih =>
    intro cs w K h hK
    refine W61_ok ?_
    unfold W61
    refine box_val h fun a w1 sv kv hB hx _ => ?_
    rw [plainM_eq] at hK
    simp only [wsv, wsg, wsh, wsl, cond_true, cond_false, exists_eq_left', Option.some.injEq, Option.isSome_some, List.getElem?_toArray, List.getElem?_cons_zero, List.getElem?_cons_succ, List.length_cons, List.length_nil, List.set_cons_zero, List.set_cons_succ, List.getD_cons_zero, List.getD_cons_succ, Nat.zero_add, Nat.add_zero, Nat.reduceAdd, Nat.reduceLT, Nat.lt_add_one, Nat.zero_lt_succ, decide_true, decide_false, ne_eq, reduceCtorEq, wsh, hB.hb, hB.lenx, hB.lenk]
    intros
    rw [condW_b]
    refine ⟨fun hbad => ?_, fun hok => ?_⟩
    · have := hK w1 hx
      have e : headOk v.k v.b v.t v.xs.length v.ks = false := by
        cases he : headOk v.k v.b v.t v.xs.length v.ks with
        | false => rfl
        | true =>
          obtain ⟨a1, a2, a3, a4, a5, a6, _⟩ := headOk_out he
          exfalso
          simp only [Bool.or_eq_true, Bool.and_eq_true, decide_eq_true_eq] at hbad
          rcases hbad with ((((h1 | h1) | ⟨h1, h2⟩) | ⟨⟨h1, h2⟩, h3⟩) | ⟨h1, h2⟩) | ⟨h1, h2⟩
          · omega
          · omega
          · exact h2 (a3 h1)
          · rcases a4 h1 with h | h
            · exact h2 h
            · exact h3 h
          · have := a5 (by omega); omega
          · exact h1 (a6 fun e => by rw [e] at h2; simp at h2)
      rw [e] at this
      exact this
    · refine GdW.act (!goodN v.t) (fun w' => Ext w1 w') (fun _ => Chg.refl _ _) ?_ ?_
      · intro hc J hJ
        refine good01_ref hB.fits.2.2.1 fun w2 hx2 => ?_
        simp only [wsv, wsg, wsh, wsl, cond_true, cond_false, exists_eq_left', Option.some.injEq, Option.isSome_some, List.getElem?_toArray, List.getElem?_cons_zero, List.getElem?_cons_succ, List.length_cons, List.length_nil, List.set_cons_zero, List.set_cons_succ, List.getD_cons_zero, List.getD_cons_succ, Nat.zero_add, Nat.add_zero, Nat.reduceAdd, Nat.reduceLT, Nat.lt_add_one, Nat.zero_lt_succ, decide_true, decide_false, ne_eq, reduceCtorEq]
        exact hJ w2 hx2
      · intro g w2 hx2
        have hB := hB.ext hx2
        have hx := hx.trans hx2
        clear hx2
        simp only [wsv, wsg, wsh, wsl, cond_true, cond_false, exists_eq_left', Option.some.injEq, Option.isSome_some, List.getElem?_toArray, List.getElem?_cons_zero, List.getElem?_cons_succ, List.length_cons, List.length_nil, List.set_cons_zero, List.set_cons_succ, List.getD_cons_zero, List.getD_cons_succ, Nat.zero_add, Nat.add_zero, Nat.reduceAdd, Nat.reduceLT, Nat.lt_add_one, Nat.zero_lt_succ, decide_true, decide_false, ne_eq, reduceCtorEq, wsh, hB.hb, hB.lenx, hB.lenk]
        intros
        rw [condW_b]
        have hhead : headOk v.k v.b v.t v.xs.length v.ks = (!(decide (v.k = 3) && !goodN v.t || decide (v.k = 4) && decide (16384 < v.t.length) || decide (v.k = 6) && !decide (v.ks.length = v.xs.length)) && keysOk v.ks) := by
          simp only [Bool.or_eq_false_iff, Bool.and_eq_false_iff, decide_eq_false_iff_not] at hok
          obtain ⟨⟨⟨⟨⟨h1, h2⟩, h3⟩, h4⟩, h5⟩, h6⟩ := hok
          unfold headOk
          have a1 : decide (0 ≤ v.k) = true := decide_eq_true (by omega)
          have a2 : decide (v.k ≤ 6) = true := decide_eq_true (by omega)
          have a3 : (!v.b || decide (v.k = 2)) = true := by
            rcases h3 with h3 | h3
            · rw [h3]; rfl
            · rw [decide_eq_true (Decidable.not_not.1 h3)]; simp
          have a4 : (decide (v.t = []) || decide (v.k = 3) || decide (v.k = 4)) = true := by
            simp only [Bool.or_eq_true, decide_eq_true_eq]
            rcases h4 with (h4 | h4) | h4
            · exact .inl (.inl (Decidable.not_not.1 h4))
            · exact .inl (.inr (Decidable.not_not.1 h4))
            · exact .inr (Decidable.not_not.1 h4)
          have a5 : (decide (v.xs.length = 0) || decide (5 ≤ v.k)) = true := by
            simp only [Bool.or_eq_true, decide_eq_true_eq]; omega
          have a6 : (decide (v.k = 6) || decide (v.ks = [])) = true := by
            simp only [Bool.or_eq_true, decide_eq_true_eq]
            rcases h6 with h6 | h6
            · exact .inl (Decidable.not_not.1 h6)
            · exact .inr (List.eq_nil_of_length_eq_zero (by omega))
          rw [a1, a2, a3, a4, a5, a6]
          have a8 : decide (v.t.length ≤ 16384) = !decide (16384 < v.t.length) := by rw [← decide_not]; exact decide_eq_decide.2 (by omega)
          rw [a8]
          cases decide (v.k = 3) <;> cases goodN v.t <;> cases decide (v.k = 4) <;> cases decide (16384 < v.t.length) <;> cases decide (v.k = 6) <;> cases decide (v.ks.length = v.xs.length) <;> rfl
        rw [hhead] at hK
        have e1 : decide ((16384 : Int) < (v.t.length : Int)) = decide (16384 < v.t.length) := decide_eq_decide.2 (by omega)
        have e2 : decide (¬ (v.ks.length : Int) = (v.xs.length : Int)) = !decide (v.ks.length = v.xs.length) := by rw [← decide_not]; exact decide_eq_decide.2 (by omega)
        rw [e1, e2]
        generalize (decide (v.k = 3) && !goodN v.t || decide (v.k = 4) && decide (16384 < v.t.length) || decide (v.k = 6) && !decide (v.ks.length = v.xs.length)) = bb at *
        refine ⟨fun hb => ?_, fun hb => ?_⟩
        · have := hK w2 hx
          rw [hb] at this
          exact this
        · rw [hb] at hK
          refine loop_up v.ks.length (fun i w' => Ext w2 w' ∧ (∀ (j : Nat) (a : Str), j < i → v.ks[j]? = some a → a.length ≤ 16384) ∧ (∀ (j : Nat) (a b : Str), j + 1 < i → v.ks[j]? = some a → v.ks[j + 1]? = some b → Op.bytesLess a b = true)) ⟨Chg.refl _ _, (fun j a h => by omega), fun j a b h => by omega⟩ ?_ ?_
          · rintro i w3 g L hi ⟨hx3, hl, hs⟩ hL
            have hxd := hx3.trans (Chg.drew (Chg.refl (fun _ => False) w3))
            have hB := hB.ext hx3
            have hBd : ValB w3.drew a v sv kv := hB.ext (Chg.drew (Chg.refl (fun _ => False) w3))
            obtain ⟨u, hu⟩ : ∃ u, v.ks[i]? = some u := ⟨_, List.getElem?_eq_getElem hi⟩
            have hlt : ((i : Int) < (v.ks.length : Int)) := by omega
            simp only [wsv, wsg, wsh, wsl, cond_true, cond_false, exists_eq_left', Option.some.injEq, Option.isSome_some, List.getElem?_toArray, List.getElem?_cons_zero, List.getElem?_cons_succ, List.length_cons, List.length_nil, List.set_cons_zero, List.set_cons_succ, List.getD_cons_zero, List.getD_cons_succ, Nat.zero_add, Nat.add_zero, Nat.reduceAdd, Nat.reduceLT, Nat.lt_add_one, Nat.zero_lt_succ, decide_true, decide_false, ne_eq, reduceCtorEq, wsh, hB.hb, hlt]
            refine hBd.key hu ?_
            have hfin : keysOk v.ks = false → K (.bool false) w3.drew := fun hf => by
              have := hK _ (hx.trans hxd)
              rw [hf] at this
              exact this
            have hnext : u.length ≤ 16384 → (∀ x, 0 < i → v.ks[i - 1]? = some x → Op.bytesLess x u = true) → L [i64 ((i + 1 : Nat) : Int)] w3.drew := fun h1 h2 => by
              refine hL _ ⟨hxd, fun j a hj ha => ?_, fun j a b hj ha hb => ?_⟩
              · rcases Nat.lt_or_ge j i with h | h
                · exact hl j a h ha
                · obtain rfl : j = i := by omega
                  rw [hu] at ha; cases ha; exact h1
              · rcases Nat.lt_or_ge (j + 1) i with h | h
                · exact hs j a b h ha hb
                · obtain rfl : i = j + 1 := by omega
                  rw [hu] at hb; cases hb
                  exact h2 a (by omega) (by simpa using ha)
            by_cases hlong : 16384 < u.length
            · have e : decide ((16384 : Int) < (u.length : Int)) = true := decide_eq_true (by omega)
              simp only [wsv, wsg, wsh, wsl, cond_true, cond_false, exists_eq_left', Option.some.injEq, Option.isSome_some, List.getElem?_toArray, List.getElem?_cons_zero, List.getElem?_cons_succ, List.length_cons, List.length_nil, List.set_cons_zero, List.set_cons_succ, List.getD_cons_zero, List.getD_cons_succ, Nat.zero_add, Nat.add_zero, Nat.reduceAdd, Nat.reduceLT, Nat.lt_add_one, Nat.zero_lt_succ, decide_true, decide_false, ne_eq, reduceCtorEq, e]
              exact hfin (keysOk_long hu hlong)
            · have e : decide ((16384 : Int) < (u.length : Int)) = false := decide_eq_false (by omega)
              by_cases h0 : i = 0
              · subst h0
                have e0 : decide ((0 : Int) < ((0 : Nat) : Int)) = false := by decide
                simp only [wsv, wsg, wsh, wsl, cond_true, cond_false, exists_eq_left', Option.some.injEq, Option.isSome_some, List.getElem?_toArray, List.getElem?_cons_zero, List.getElem?_cons_succ, List.length_cons, List.length_nil, List.set_cons_zero, List.set_cons_succ, List.getD_cons_zero, List.getD_cons_succ, Nat.zero_add, Nat.add_zero, Nat.reduceAdd, Nat.reduceLT, Nat.lt_add_one, Nat.zero_lt_succ, decide_true, decide_false, ne_eq, reduceCtorEq, e, e0]
                rw [up1 (by omega)]
                exact hnext (by omega) fun x h => by omega
              · obtain ⟨j, rfl⟩ : ∃ j, i = j + 1 := ⟨i - 1, by omega⟩
                obtain ⟨x, hxj⟩ : ∃ x, v.ks[j]? = some x := ⟨_, List.getElem?_eq_getElem (by omega)⟩
                have e0 : decide ((0 : Int) < ((j + 1 : Nat) : Int)) = true := decide_eq_true (by omega)
                have hw : IntKind.i64.wrap (((j + 1 : Nat) : Int) - 1) = ((j : Nat) : Int) := by rw [wrap_id (by have := hB.fits.2.1; omega) (by have := hB.fits.2.1; omega)]; omega
                obtain ⟨T, hks⟩ := hBd.keys
                obtain ⟨b, o, c, fr, p, hp, hb, hg⟩ : ∃ b o c fr p, kv = .slice (some ⟨b, o, none⟩) v.ks.length p ∧ w3.heap[b]? = some (.cells c T fr) ∧ ∀ m y, v.ks[m]? = some y → c[o + m]? = some (str y) := by
                  obtain ⟨p, cap, rfl, _, _, h3⟩ := hks
                  obtain ⟨b, off, c, fr, rfl, hb, hcs⟩ := h3 (fun e => by
                    have : v.ks = [] := by simpa using e
                    rw [this] at hi; simp at hi)
                  refine ⟨b, off, c, fr, cap, rfl, hb, fun m y hy => ?_⟩
                  rw [hcs m (by simpa using (List.getElem?_eq_some_iff.1 hy).1)]
                  simp [hy]
                subst hp
                have c1 := hg j x hxj
                have c2 := hg (j + 1) u hu
                have d1 : ((j : Nat) : Int) < (v.ks.length : Int) := by omega
                have d2 : ((j + 1 : Nat) : Int) < (v.ks.length : Int) := by omega
                simp only [wsv, wsg, wsh, wsl, cond_true, cond_false, exists_eq_left', Option.some.injEq, Option.isSome_some, List.getElem?_toArray, List.getElem?_cons_zero, List.getElem?_cons_succ, List.length_cons, List.length_nil, List.set_cons_zero, List.set_cons_succ, List.getD_cons_zero, List.getD_cons_succ, Nat.zero_add, Nat.add_zero, Nat.reduceAdd, Nat.reduceLT, Nat.lt_add_one, Nat.zero_lt_succ, decide_true, decide_false, ne_eq, reduceCtorEq, wsh, e, e0, hw, hB.hb, hb, Int.toNat_natCast, Int.natCast_nonneg, d1, d2, Nat.mul_one, c1, c2, condW_b]
                refine ⟨fun hge => ?_, fun hlt2 => ?_⟩
                · exact hfin (keysOk_two hxj hu (by simpa using hge))
                · rw [up1 (by have := hB.fits.2.1; omega)]
                  exact hnext (by omega) fun y _ hy => by
                    have : v.ks[j]? = some y := by simpa using hy
                    rw [hxj] at this; cases this
                    simpa using hlt2
          · rintro w3 g L ⟨hx3, hl, hs⟩
            have hB := hB.ext hx3
            have hkeys : keysOk v.ks = true := keysOk_mk (fun i a h => hl i a (List.getElem?_eq_some_iff.1 h).1 h) (fun i a b h1 h2 => hs i a b (List.getElem?_eq_some_iff.1 h2).1 h1 h2)
            rw [hkeys, plainL_all] at hK
            simp only [wsv, wsg, wsh, wsl, cond_true, cond_false, exists_eq_left', Option.some.injEq, Option.isSome_some, List.getElem?_toArray, List.getElem?_cons_zero, List.getElem?_cons_succ, List.length_cons, List.length_nil, List.set_cons_zero, List.set_cons_succ, List.getD_cons_zero, List.getD_cons_succ, Nat.zero_add, Nat.add_zero, Nat.reduceAdd, Nat.reduceLT, Nat.lt_add_one, Nat.zero_lt_succ, decide_true, decide_false, ne_eq, reduceCtorEq, Int.lt_irrefl, wsh, hB.hb]
            rw [hB.lenx]
            refine loop_up v.xs.length (fun i w' => Ext w3 w' ∧ (v.xs.take i).all plainM = true) ⟨Chg.refl _ _, rfl⟩ ?_ ?_
            · rintro i w4 g L hi ⟨hx4, hall⟩ hL
              have hB := hB.ext hx4
              obtain ⟨x, hxi⟩ : ∃ x, v.xs[i]? = some x := ⟨_, List.getElem?_eq_getElem hi⟩
              have hlt : ((i : Int) < (v.xs.length : Int)) := by omega
              simp only [wsv, wsg, wsh, wsl, cond_true, cond_false, exists_eq_left', Option.some.injEq, Option.isSome_some, List.getElem?_toArray, List.getElem?_cons_zero, List.getElem?_cons_succ, List.length_cons, List.length_nil, List.set_cons_zero, List.set_cons_succ, List.getD_cons_zero, List.getD_cons_succ, Nat.zero_add, Nat.add_zero, Nat.reduceAdd, Nat.reduceLT, Nat.lt_add_one, Nat.zero_lt_succ, decide_true, decide_false, ne_eq, reduceCtorEq, wsh, hB.hb, hlt]
              refine hB.item hxi fun cs hcs => ?_
              refine ih x (List.mem_of_getElem? hxi) hcs fun w5 hx5 => ?_
              simp only [wsv, wsg, wsh, wsl, cond_true, cond_false, exists_eq_left', Option.some.injEq, Option.isSome_some, List.getElem?_toArray, List.getElem?_cons_zero, List.getElem?_cons_succ, List.length_cons, List.length_nil, List.set_cons_zero, List.set_cons_succ, List.getD_cons_zero, List.getD_cons_succ, Nat.zero_add, Nat.add_zero, Nat.reduceAdd, Nat.reduceLT, Nat.lt_add_one, Nat.zero_lt_succ, decide_true, decide_false, ne_eq, reduceCtorEq, condW_b]
              refine ⟨fun hf => ?_, fun ht => ?_⟩
              · have hf : plainM x = false := by simpa using hf
                have := hK w5 (hx.trans (hx3.trans (hx4.trans hx5)))
                rw [all_no hxi hf] at this
                exact this
              · have ht : plainM x = true := by simpa using ht
                rw [up1 (by have := hB.fits.1; omega)]
                exact hL w5 ⟨hx4.trans hx5, by rw [all_take hxi, hall, ht]; rfl⟩
            · rintro w4 g L ⟨hx4, hall⟩
              simp only [wsv, wsg, wsh, wsl, cond_true, cond_false, exists_eq_left', Option.some.injEq, Option.isSome_some, List.getElem?_toArray, List.getElem?_cons_zero, List.getElem?_cons_succ, List.length_cons, List.length_nil, List.set_cons_zero, List.set_cons_succ, List.getD_cons_zero, List.getD_cons_succ, Nat.zero_add, Nat.add_zero, Nat.reduceAdd, Nat.reduceLT, Nat.lt_add_one, Nat.zero_lt_succ, decide_true, decide_false, ne_eq, reduceCtorEq, Int.lt_irrefl]
              rw [List.take_length] at hall
              have := hK w4 (hx.trans (hx3.trans hx4))
              rw [hall] at this
              exact this

theorem good_ref {v : JV} {cs : List Value} {w : World} {K : Value → World → Prop} (h : VRep w v cs) (hK : ∀ w', Ext w w' → K (.bool (goodM v)) w') : callF Tryz.prog 22 [.agg cs.toArray] w K := by
  refine W22_ok ?_
  unfold W22
  refine box_val h fun a w1 sv kv hB hx _ => ?_
  refine hB.ld fun cs1 h1 => ?_
  refine size_ref v h1 fun w2 hx2 => ?_
  have hB := hB.ext hx2
  have hx := hx.trans hx2
  simp only [wsv, wsg, wsh, wsl, cond_true, cond_false, exists_eq_left', Option.some.injEq, Option.isSome_some, List.getElem?_toArray, List.getElem?_cons_zero, List.getElem?_cons_succ, List.length_cons, List.length_nil, List.set_cons_zero, List.set_cons_succ, List.getD_cons_zero, List.getD_cons_succ, Nat.zero_add, Nat.add_zero, Nat.reduceAdd, Nat.reduceLT, Nat.lt_add_one, Nat.zero_lt_succ, decide_true, decide_false, ne_eq, reduceCtorEq]
  refine GdW.act (deepM v 24) (fun w' => Ext w2 w') (fun _ => Chg.refl _ _) ?_ ?_
  · intro hc J hJ
    refine hB.ld fun cs2 h2 => ?_
    exact deep_ref v (m := 24) (by omega) h2 hJ
  intro g w3 hx3
  have hB := hB.ext hx3
  have hx := hx.trans hx3
  simp only [wsv, wsg, wsh, wsl, cond_true, cond_false, exists_eq_left', Option.some.injEq, Option.isSome_some, List.getElem?_toArray, List.getElem?_cons_zero, List.getElem?_cons_succ, List.length_cons, List.length_nil, List.set_cons_zero, List.set_cons_succ, List.getD_cons_zero, List.getD_cons_succ, Nat.zero_add, Nat.add_zero, Nat.reduceAdd, Nat.reduceLT, Nat.lt_add_one, Nat.zero_lt_succ, decide_true, decide_false, ne_eq, reduceCtorEq]
  refine GdW.act (plainM v) (fun w' => Ext w3 w') (fun _ => Chg.refl _ _) ?_ ?_
  · intro hc J hJ
    refine hB.ld fun cs2 h2 => ?_
    exact plain_ref v h2 hJ
  intro g w4 hx4
  have := hK w4 (hx.trans hx4)
  simp only [wsv, wsg, wsh, wsl, cond_true, cond_false, exists_eq_left', Option.some.injEq, Option.isSome_some, List.getElem?_toArray, List.getElem?_cons_zero, List.getElem?_cons_succ, List.length_cons, List.length_nil, List.set_cons_zero, List.set_cons_succ, List.getD_cons_zero, List.getD_cons_succ, Nat.zero_add, Nat.add_zero, Nat.reduceAdd, Nat.reduceLT, Nat.lt_add_one, Nat.zero_lt_succ, decide_true, decide_false, ne_eq, reduceCtorEq]
  exact this

theorem same_ref (a : JV) : ∀ {b : JV} {cs ds : List Value} {w : World} {K : Value → World → Prop}, VRep w a cs → VRep w b ds → (∀ w', Ext w w' → K (.bool (sameM a b)) w') → callF Tryz.prog 21 [.agg cs.toArray, .agg ds.toArray] w K := by
  induction a using JV.ind' with
  | h v ih =>
    intro b cs ds w K h h' hK
    refine W21_ok ?_
    unfold W21
    refine box_val h fun x w1 sv kv hB hx _ => ?_
    refine box_val (h'.ext hx) fun y w2 sv' kv' hC hx2 _ => ?_
    have hB := hB.ext hx2
    have hx := hx.trans hx2
    clear hx2
    rw [sameM_eq] at hK
    simp only [wsv, wsg, wsh, wsl, cond_true, cond_false, exists_eq_left', Option.some.injEq, Option.isSome_some, List.getElem?_toArray, List.getElem?_cons_zero, List.getElem?_cons_succ, List.length_cons, List.length_nil, List.set_cons_zero, List.set_cons_succ, List.getD_cons_zero, List.getD_cons_succ, Nat.zero_add, Nat.add_zero, Nat.reduceAdd, Nat.reduceLT, Nat.lt_add_one, Nat.zero_lt_succ, decide_true, decide_false, ne_eq, reduceCtorEq, wsh, hB.hb, hC.hb, eq_bb, ne_bb]
    intros
    refine GdW.act (!decide (v.ks = b.ks)) (fun w' => Ext w2 w') (fun _ => Chg.refl _ _) ?_ ?_
    · intro hc J hJ
      obtain ⟨T1, k1⟩ := hB.keys
      obtain ⟨T2, k2⟩ := hC.keys
      refine texts_ref k1 k2 hB.fits.2.1 fun w3 hx3 => ?_
      simp only [wsv, wsg, wsh, wsl, cond_true, cond_false, exists_eq_left', Option.some.injEq, Option.isSome_some, List.getElem?_toArray, List.getElem?_cons_zero, List.getElem?_cons_succ, List.length_cons, List.length_nil, List.set_cons_zero, List.set_cons_succ, List.getD_cons_zero, List.getD_cons_succ, Nat.zero_add, Nat.add_zero, Nat.reduceAdd, Nat.reduceLT, Nat.lt_add_one, Nat.zero_lt_succ, decide_true, decide_false, ne_eq, reduceCtorEq]
      exact hJ w3 hx3
    intro g w3 hx3
    have hB := hB.ext hx3
    have hC := hC.ext hx3
    have hx := hx.trans hx3
    clear hx3
    simp only [wsv, wsg, wsh, wsl, cond_true, cond_false, exists_eq_left', Option.some.injEq, Option.isSome_some, List.getElem?_toArray, List.getElem?_cons_zero, List.getElem?_cons_succ, List.length_cons, List.length_nil, List.set_cons_zero, List.set_cons_succ, List.getD_cons_zero, List.getD_cons_succ, Nat.zero_add, Nat.add_zero, Nat.reduceAdd, Nat.reduceLT, Nat.lt_add_one, Nat.zero_lt_succ, decide_true, decide_false, ne_eq, reduceCtorEq, wsh, hB.hb, hC.hb, hB.lenx, hC.lenx]
    intros
    have e1 : (!v.b == b.b) = !decide (v.b = b.b) := by cases v.b <;> cases b.b <;> rfl
    have e2 : decide (¬ (v.xs.length : Int) = (b.xs.length : Int)) = !decide (v.xs.length = b.xs.length) := by rw [← decide_not]; exact decide_eq_decide.2 (by omega)
    rw [e2]
    simp only [decide_not]
    have hsl : v.xs.length ≠ b.xs.length → sameL v.xs b.xs = false := sameL_len
    by_cases hl : v.xs.length = b.xs.length
    · rw [decide_eq_true hl, condW_b]
      refine ⟨fun hne => ?_, fun heq => ?_⟩
      · have := hK w3 hx
        have e : (decide (v.k = b.k) && decide (v.b = b.b) && decide (v.t = b.t) && decide (v.ks = b.ks) && sameL v.xs b.xs) = false := by
          have e1 : (v.b == b.b) = decide (v.b = b.b) := by cases v.b <;> cases b.b <;> rfl
          rw [e1] at hne
          revert hne
          cases decide (v.k = b.k) <;> cases decide (v.b = b.b) <;> cases decide (v.t = b.t) <;> cases decide (v.ks = b.ks) <;> simp
        rw [e] at this
        exact this
      · have e : (decide (v.k = b.k) && decide (v.b = b.b) && decide (v.t = b.t) && decide (v.ks = b.ks)) = true := by
          have e1 : (v.b == b.b) = decide (v.b = b.b) := by cases v.b <;> cases b.b <;> rfl
          rw [e1] at heq
          revert heq
          cases decide (v.k = b.k) <;> cases decide (v.b = b.b) <;> cases decide (v.t = b.t) <;> cases decide (v.ks = b.ks) <;> simp
        rw [e] at hK
        refine loop_up v.xs.length (fun i w' => Ext w3 w' ∧ v.xs.take i = b.xs.take i) ⟨Chg.refl _ _, rfl⟩ ?_ ?_
        · rintro i w4 g L hi ⟨hx4, hall⟩ hL
          have hxd : Ext w3 w4.drew := hx4.trans (Chg.drew (Chg.refl (fun _ => False) w4))
          have hB4 := hB.ext hx4
          have hC4 := hC.ext hx4
          have hB := hB.ext hxd
          have hC := hC.ext hxd
          obtain ⟨p, hp⟩ : ∃ p, v.xs[i]? = some p := ⟨_, List.getElem?_eq_getElem hi⟩
          obtain ⟨q, hq⟩ : ∃ q, b.xs[i]? = some q := ⟨_, List.getElem?_eq_getElem (by omega)⟩
          have hlt : ((i : Int) < (v.xs.length : Int)) := by omega
          simp only [wsv, wsg, wsh, wsl, cond_true, cond_false, exists_eq_left', Option.some.injEq, Option.isSome_some, List.getElem?_toArray, List.getElem?_cons_zero, List.getElem?_cons_succ, List.length_cons, List.length_nil, List.set_cons_zero, List.set_cons_succ, List.getD_cons_zero, List.getD_cons_succ, Nat.zero_add, Nat.add_zero, Nat.reduceAdd, Nat.reduceLT, Nat.lt_add_one, Nat.zero_lt_succ, decide_true, decide_false, ne_eq, reduceCtorEq, wsh, hB4.hb, hC4.hb, hlt]
          refine hB.item hp fun cs1 h1 => ?_
          refine hC.item hq fun cs2 h2 => ?_
          refine ih p (List.mem_of_getElem? hp) h1 h2 fun w5 hx5 => ?_
          simp only [wsv, wsg, wsh, wsl, cond_true, cond_false, exists_eq_left', Option.some.injEq, Option.isSome_some, List.getElem?_toArray, List.getElem?_cons_zero, List.getElem?_cons_succ, List.length_cons, List.length_nil, List.set_cons_zero, List.set_cons_succ, List.getD_cons_zero, List.getD_cons_succ, Nat.zero_add, Nat.add_zero, Nat.reduceAdd, Nat.reduceLT, Nat.lt_add_one, Nat.zero_lt_succ, decide_true, decide_false, ne_eq, reduceCtorEq, condW_b]
          refine ⟨fun hf => ?_, fun ht => ?_⟩
          · have hf : sameM p q = false := by simpa using hf
            have := hK w5 (hx.trans (hxd.trans hx5))
            rw [sameL_take hl hp hq hf] at this
            exact this
          · have ht : sameM p q = true := by simpa using ht
            have := (same_iff p q).1 ht
            subst this
            rw [up1 (by have := hB.fits.1; omega)]
            exact hL w5 ⟨hxd.trans hx5, take_eq hall hp hq⟩
        · rintro w4 g L ⟨hx4, hall⟩
          simp only [wsv, wsg, wsh, wsl, cond_true, cond_false, exists_eq_left', Option.some.injEq, Option.isSome_some, List.getElem?_toArray, List.getElem?_cons_zero, List.getElem?_cons_succ, List.length_cons, List.length_nil, List.set_cons_zero, List.set_cons_succ, List.getD_cons_zero, List.getD_cons_succ, Nat.zero_add, Nat.add_zero, Nat.reduceAdd, Nat.reduceLT, Nat.lt_add_one, Nat.zero_lt_succ, decide_true, decide_false, ne_eq, reduceCtorEq, Int.lt_irrefl]
          rw [List.take_length, hl, List.take_length] at hall
          have := hK w4 (hx.trans hx4)
          rw [(sameL_iff _ _).2 hall] at this
          exact this
    · rw [decide_eq_false hl, Bool.not_false, Bool.or_true, condW_true]
      have := hK w3 hx
      rw [hsl hl, Bool.and_false] at this
      exact this
end
end Go.Proofs.YtcnjpcadejcenaaGreatDoor

namespace Go.Proofs.YtcnjpcadejcenaaGreatDoor
open Go Go.Eng Go.Num
set_option maxRecDepth 100000
abbrev ST : TypeId := 9
theorem elem_s : ElemT Tryz.prog 24 ST 1 16 := ⟨by kernel_rfl, by kernel_rfl, by decide⟩
theorem elem_v : ElemT Tryz.prog 23 VT 5 80 := ⟨by kernel_rfl, by kernel_rfl, by decide⟩
abbrev zv : List Value := [i64 0, .bool false, str [], .slice none 0 0, .slice none 0 0]
abbrev ptr (b : Nat) : Value := .pointer (some ⟨b, 0, none⟩)

/-- an object that grows in block b: the block holds (sv0, kv0), the lists are (sv, kv) by now -/
structure Grow (w0 w : World) (b base : Nat) (sv0 kv0 sv kv : Value) (xs : List JV) (ks : List Str) : Prop where
  ext : Ext w0 w
  hb : w.heap[b]? = some (.cells [i64 6, .bool false, str [], sv0, kv0].toArray VT (0, 0))
  low : w0.heap.size ≤ b
  lt : b < base
  le : base ≤ w.heap.size
  items : ∃ L, Own w base VT 5 sv xs.length L ∧ VReps w0 xs L
  keys : Own w base ST 1 kv ks.length (ks.map str)
theorem Grow.more {w0 w w' : World} {b base : Nat} {sv0 kv0 sv kv : Value} {xs : List JV} {ks : List Str} (h : Grow w0 w b base sv0 kv0 sv kv xs ks) (hx : Ext w w') : Grow w0 w' b base sv0 kv0 sv kv xs ks :=
  ⟨h.ext.trans hx, hx.at h.hb id, h.low, h.lt, Nat.le_trans h.le hx.size, let ⟨L, h1, h2⟩ := h.items; ⟨L, h1.ext hx, h2⟩, h.keys.ext hx⟩
theorem Grow.chg {w0 w w' : World} {b b' base : Nat} {sv0 kv0 sv kv : Value} {xs : List JV} {ks : List Str} (h : Grow w0 w b base sv0 kv0 sv kv xs ks) (hc : Chg (fun k => k = b') w w') (h1 : b' ≠ b) (h2 : b' < base) (h3 : w0.heap.size ≤ b') : Grow w0 w' b base sv0 kv0 sv kv xs ks :=
  ⟨h.ext.new hc h3, hc.at h.hb (fun e => h1 e.symm), h.low, h.lt, Nat.le_trans h.le hc.size, let ⟨L, g1, g2⟩ := h.items; ⟨L, g1.chg hc fun k hk e => by have := hk.1; omega, g2⟩, h.keys.chg hc fun k hk e => by have := hk.1; omega⟩
theorem own_ge {w : World} {base : Nat} {e : TypeId} {size : Nat} {v : Value} {n : Nat} {xs : List Value} (h : Own w base e size v n xs) {k : Nat} (hk : v.ownBlock = some k) : base ≤ k ∧ ∃ c, w.heap[k]? = some (.cells c e (0, 0)) := h.block k hk
theorem Grow.appk {w0 w : World} {b base : Nat} {sv0 kv0 sv kv t : Value} {xs : List JV} {ks : List Str} {x : Str} {T : TypeId} {K : Value → World → Prop} (h : Grow w0 w b base sv0 kv0 sv kv xs ks) (ht : SlAt w T t 1 [str x]) (hl : ks.length ≤ 1000000)
    (hK : ∀ kv' w', Grow w0 w' b base sv0 kv0 sv kv' xs (ks ++ [x]) → Chg (fun k => base ≤ k) w w' → K kv' w') : semE Tryz.prog (Builtin.append_ #[24, 24] 24 #[kv, t]) w K := by
  refine append_own2 elem_s h.keys ht (m := 1) rfl (fun u hu => by simp only [List.mem_singleton] at hu; subst hu; rfl) (by omega) (by omega) h.le fun v' w' h' hc _ => ?_
  refine hK v' w' ⟨h.ext.then hc fun k hk e => ?_, hc.at h.hb fun e => ?_, h.low, h.lt, Nat.le_trans h.le hc.size, ?_, by simpa using h'⟩ (hc.mono fun k _ e => (own_ge h.keys e).1)
  · have := (own_ge h.keys e).1; have := h.low; have := h.lt; omega
  · have := (own_ge h.keys e).1; have := h.lt; omega
  · obtain ⟨L, h1, h2⟩ := h.items
    refine ⟨L, h1.chg hc fun k hk e => ?_, h2⟩
    obtain ⟨_, c, hc1⟩ := hk
    obtain ⟨_, c', hc2⟩ := own_ge h.keys e
    rw [hc1] at hc2; cases hc2
theorem Grow.appx {w0 w : World} {b base : Nat} {sv0 kv0 sv kv t : Value} {xs : List JV} {ks : List Str} {x : JV} {cs : List Value} {T : TypeId} {K : Value → World → Prop} (h : Grow w0 w b base sv0 kv0 sv kv xs ks) (ht : SlAt w T t 1 cs) (hx : VRep w0 x cs) (hl : xs.length ≤ 1000000)
    (hK : ∀ sv' w', Grow w0 w' b base sv0 kv0 sv' kv (xs ++ [x]) ks → Chg (fun k => base ≤ k) w w' → K sv' w') : semE Tryz.prog (Builtin.append_ #[23, 23] 23 #[sv, t]) w K := by
  obtain ⟨L, h1, h2⟩ := h.items
  refine append_own2 elem_v h1 ht (m := 1) (by rw [hx.len]) hx.one (by omega) (by omega) h.le fun v' w' h' hc _ => ?_
  refine hK v' w' ⟨h.ext.then hc fun k hk e => ?_, hc.at h.hb fun e => ?_, h.low, h.lt, Nat.le_trans h.le hc.size, ⟨L ++ cs, by simpa using h', h2.snoc hx⟩, h.keys.chg hc fun k hk e => ?_⟩ (hc.mono fun k _ e => (own_ge h1 e).1)
  · have := (own_ge h1 e).1; have := h.low; have := h.lt; omega
  · have := (own_ge h1 e).1; have := h.lt; omega
  · obtain ⟨_, c, hc1⟩ := hk
    obtain ⟨_, c', hc2⟩ := own_ge h1 e
    rw [hc1] at hc2; cases hc2
theorem Grow.set {w0 w : World} {b base off : Nat} {sv0 kv0 sv kv v sv1 kv1 : Value} {xs : List JV} {ks : List Str} {K : World → Prop} (h : Grow w0 w b base sv0 kv0 sv kv xs ks) (h1 : one1 v = true) (ho : off < 5)
    (he : ([i64 6, .bool false, str [], sv0, kv0] : List Value).set off v = [i64 6, .bool false, str [], sv1, kv1]) (hK : ∀ w', Grow w0 w' b base sv1 kv1 sv kv xs ks → Chg (fun k => k = b) w w' → K w') : stW 1 (.pointer (some ⟨b, off, none⟩)) v w K := by
  refine st_at h.hb h1 (by simpa using ho) fun w' hz hb' hc => ?_
  refine hK w' ⟨h.ext.new hc h.low, ?_, h.low, h.lt, by rw [hz]; exact h.le, ?_, h.keys.chg hc fun k hk e => ?_⟩ hc
  · rw [hb', ← he]; simp
  · obtain ⟨L, h1, h2⟩ := h.items
    exact ⟨L, h1.chg hc fun k hk e => by have := hk.1; have := h.lt; omega, h2⟩
  · have := hk.1; have := h.lt; omega
theorem Grow.one {w0 w : World} {b base : Nat} {sv0 kv0 sv kv : Value} {xs : List JV} {ks : List Str} (h : Grow w0 w b base sv0 kv0 sv kv xs ks) : one1 sv = true ∧ one1 kv = true := by
  obtain ⟨L, h1, _⟩ := h.items
  obtain ⟨p, c, rfl, _⟩ := h1.sl.shape
  obtain ⟨p', c', rfl, _⟩ := h.keys.sl.shape
  exact ⟨rfl, rfl⟩

/-- the blocks below base stay, but for g -/
abbrev Low (g base : Nat) (w w' : World) : Prop := Chg (fun k => k = g ∨ base ≤ k) w w'
theorem low_ext {g base : Nat} {w w1 w2 : World} (h1 : Low g base w w1) (h2 : Ext w1 w2) : Low g base w w2 := h1.trans (Chg.of_ext h2)
theorem low_step {g base : Nat} {w w1 w2 : World} (h1 : Low g base w w1) (h2 : Chg (fun k => base ≤ k) w1 w2) : Low g base w w2 := h1.trans (h2.mono fun k _ e => .inr e)
theorem low_set {g base : Nat} {w w1 w2 : World} (h1 : Low g base w w1) (h2 : Chg (fun k => k = g) w1 w2) : Low g base w w2 := h1.trans (h2.mono fun k _ e => .inl e)
theorem low_get {g base : Nat} {w w1 : World} (h1 : Low g base w w1) {j : Nat} (hj : j < base) (hg : j ≠ g) {o : Obj} (h : w.heap[j]? = some o) : w1.heap[j]? = some o := h1.at h (by omega)
theorem low_new {g base : Nat} {w w1 w2 : World} (h1 : Ext w w1) (hg : w.heap.size ≤ g) (hb : w.heap.size ≤ base) (h2 : Low g base w1 w2) : Ext w w2 := h1.then h2 fun k hk e => by omega
/-- an object whose lists are the call's own -/
structure OwnV (w0 w : World) (base : Nat) (v : JV) (sv kv : Value) : Prop where
  items : ∃ L, Own w base VT 5 sv v.xs.length L ∧ VReps w0 v.xs L
  keys : Own w base ST 1 kv v.ks.length (v.ks.map str)
  fits : Fits v.xs.length v.ks v.t
theorem OwnV.chg {w0 w w' : World} {base : Nat} {v : JV} {sv kv : Value} {S : Nat → Prop} (h : OwnV w0 w base v sv kv) (hc : Chg S w w') (hS : ∀ k, base ≤ k → k < w.heap.size → ¬ S k) : OwnV w0 w' base v sv kv :=
  ⟨let ⟨L, h1, h2⟩ := h.items; ⟨L, h1.chg hc fun k hk => hS k hk.1 (by obtain ⟨_, c, hk⟩ := hk; exact at_lt hk), h2⟩, h.keys.chg hc fun k hk => hS k hk.1 (by obtain ⟨_, c, hk⟩ := hk; exact at_lt hk), h.fits⟩
theorem OwnV.one {w0 w : World} {base : Nat} {v : JV} {sv kv : Value} (h : OwnV w0 w base v sv kv) : one1 sv = true ∧ one1 kv = true := by
  obtain ⟨L, h1, _⟩ := h.items
  obtain ⟨p, c, rfl, _⟩ := h1.sl.shape
  obtain ⟨p', c', rfl, _⟩ := h.keys.sl.shape
  exact ⟨rfl, rfl⟩
theorem OwnV.val {w0 w : World} {base : Nat} {v : JV} {sv kv : Value} (h : OwnV w0 w base v sv kv) : VRepS w0 w v [i64 v.k, .bool v.b, str v.t, sv, kv] := by
  obtain ⟨L, h1, h2⟩ := h.items
  exact ⟨sv, kv, VT, ST, L, rfl, h1.sl, h2, h.keys.sl, h.fits⟩
theorem Grow.own {w0 w : World} {b base : Nat} {sv kv : Value} {l : List (Str × JV)} (h : Grow w0 w b base sv kv sv kv (l.map (·.2)) (l.map (·.1))) (hl : l.length ≤ 1000000) (hk : ∀ p ∈ l, p.1.length ≤ 9223372036854775807) : OwnV w0 w base (mkO l) sv kv := by
  refine ⟨h.items, h.keys, ?_, ?_, ?_, ?_⟩
  · simp only [mkO, JV.xs, List.length_map]; omega
  · simp only [mkO, JV.ks, List.length_map]; omega
  · simp [mkO, JV.t]
  · intro s hs
    simp only [mkO, JV.ks, List.mem_map] at hs
    obtain ⟨p, hp, rfl⟩ := hs
    exact hk p hp
theorem Grow.rebase {w0 w : World} {b base base' : Nat} (h : Grow w0 w b base (.slice none 0 0) (.slice none 0 0) (.slice none 0 0) (.slice none 0 0) [] []) (h1 : b < base') (h2 : base' ≤ w.heap.size) : Grow w0 w b base' (.slice none 0 0) (.slice none 0 0) (.slice none 0 0) (.slice none 0 0) [] [] :=
  ⟨h.ext, h.hb, h.low, h1, h2, ⟨[], ⟨rfl, .inl ⟨rfl, rfl⟩⟩, by simp [VReps]⟩, ⟨rfl, .inl ⟨rfl, rfl⟩⟩⟩
/-- one text, or one value, as a row -/
theorem row_s {w : World} {x : Str} {K : Value → World → Prop} (hK : ∀ t w', SlAt w' ST t 1 [str x] → Ext w w' → K t w') : bslW ST 1 [.string (ofL [])] [(0, 1, str x)] w K := by
  unfold bslW
  simp only [wsv, wsg, wsh, wsl, cond_true, cond_false, exists_eq_left', Option.some.injEq, Option.isSome_some, List.getElem?_toArray, List.getElem?_cons_zero, List.getElem?_cons_succ, List.length_cons, List.length_nil, List.set_cons_zero, List.set_cons_succ, List.getD_cons_zero, List.getD_cons_succ, Nat.zero_add, Nat.add_zero, Nat.reduceAdd, Nat.reduceLT, Nat.lt_add_one, Nat.zero_lt_succ, decide_true, decide_false, ne_eq, reduceCtorEq]
  exact hK _ _ (own_new (w := w) (base := w.heap.size) (e := ST) (size := 1) (n := 1) (cs := [str x]) (Nat.le_refl _) rfl (by omega)).sl (by repeat (first | assumption | exact Chg.refl _ _ | refine Chg.drew ?_ | refine Chg.alloc ?_ _ | refine Chg.set ?_ (by first | exact .inl rfl | exact .inr (by omega) | exact .inr (by simp only [size_set, size_alloc, size_drew]; omega) | (left; simp; done)) _ | exact Chg.of_ext (by assumption)))
theorem row_v {w : World} {cs : List Value} {K : Value → World → Prop} (hc : cs.length = 5) (hK : ∀ t w', SlAt w' VT t 1 cs → Ext w w' → K t w') : bslW VT 1 [(.int .i64 0), (.bool false), (.string (ofL [])), (.slice none 0 0), (.slice none 0 0)] [(0, 5, .agg cs.toArray)] w K := by
  unfold bslW
  have hp : ∀ K : List Value → Prop, K cs → putW [(.int .i64 0), (.bool false), (.string (ofL [])), (.slice none 0 0), (.slice none 0 0)] [(0, 5, .agg cs.toArray)] K := by
    intro K hK
    refine ⟨by simp [Value.cells, hc], by simp, ?_⟩
    have : List.take 0 [(Value.int .i64 0), (.bool false), (.string (ofL [])), (.slice none 0 0), (.slice none 0 0)] ++ ((Value.agg cs.toArray).cells.toList ++ List.drop (0 + 5) [(Value.int .i64 0), (.bool false), (.string (ofL [])), (.slice none 0 0), (.slice none 0 0)]) = cs := by simp [Value.cells]
    rw [this]
    exact hK
  refine hp _ ?_
  exact hK _ _ (own_new (w := w) (base := w.heap.size) (e := VT) (size := 5) (n := 1) (cs := cs) (Nat.le_refl _) (by omega) (by omega)).sl (by repeat (first | assumption | exact Chg.refl _ _ | refine Chg.drew ?_ | refine Chg.alloc ?_ _ | refine Chg.set ?_ (by first | exact .inl rfl | exact .inr (by omega) | exact .inr (by simp only [size_set, size_alloc, size_drew]; omega) | (left; simp; done)) _ | exact Chg.of_ext (by assumption)))
theorem grow_key {w0 w : World} {g base : Nat} {sv kv : Value} {xs : List JV} {ks : List Str} {x : Str} {K : World → Prop} (G : Grow w0 w g base sv kv sv kv xs ks) (hl : ks.length ≤ 1000000)
    (hK : ∀ kv' w', Grow w0 w' g base sv kv' sv kv' xs (ks ++ [x]) → Low g base w w' → K w') :
    bslW ST 1 [.string (ofL [])] [(0, 1, str x)] w fun t w1 => semE Tryz.prog (Builtin.append_ #[24, 24] 24 #[kv, t]) w1 fun t2 w2 => stW 1 (.pointer (some ⟨g, 4, none⟩)) t2 w2 K := by
  refine row_s fun t6 w6 ht6 hx6 => ?_
  refine (G.more hx6).appk ht6 hl fun kv2 w7 G7 hb7 => ?_
  refine G7.set (sv1 := sv) (kv1 := kv2) G7.one.2 (by omega) rfl fun w8 G8 hb8 => ?_
  exact hK kv2 w8 G8 (low_set (low_step (Chg.of_ext hx6) hb7) hb8)
theorem grow_key' {w0 w : World} {g base : Nat} {sv kv : Value} {xs : List JV} {ks : List Str} {x : Str} {K : World → Prop} (G : Grow w0 w g base sv kv sv kv xs ks) (hl : ks.length ≤ 1000000)
    (hK : ∀ kv' w', Grow w0 w' g base sv kv' sv kv' xs (ks ++ [x]) → Low g base w w' → K w') :
    bslW ST 1 [.string (ofL [])] [(0, 1, str x)] w fun t w1 => (∃ v, cellO w1.heap[g]? 4 = some v ∧ v = kv) ∧ semE Tryz.prog (Builtin.append_ #[24, 24] 24 #[kv, t]) w1 fun t2 w2 => stW 1 (.pointer (some ⟨g, 4, none⟩)) t2 w2 K := by
  refine row_s fun t6 w6 ht6 hx6 => ⟨⟨kv, by rw [(G.more hx6).hb]; rfl, rfl⟩, ?_⟩
  refine (G.more hx6).appk ht6 hl fun kv2 w7 G7 hb7 => ?_
  refine G7.set (sv1 := sv) (kv1 := kv2) G7.one.2 (by omega) rfl fun w8 G8 hb8 => ?_
  exact hK kv2 w8 G8 (low_set (low_step (Chg.of_ext hx6) hb7) hb8)
theorem grow_item {w0 w : World} {g base : Nat} {sv kv : Value} {xs : List JV} {ks : List Str} {x : JV} {cs : List Value} {K : World → Prop} (G : Grow w0 w g base sv kv sv kv xs ks) (hx : VRep w0 x cs) (hl : xs.length ≤ 1000000)
    (hK : ∀ sv' w', Grow w0 w' g base sv' kv sv' kv (xs ++ [x]) ks → Low g base w w' → K w') :
    bslW VT 1 [(.int .i64 0), (.bool false), (.string (ofL [])), (.slice none 0 0), (.slice none 0 0)] [(0, 5, .agg cs.toArray)] w fun t w1 => semE Tryz.prog (Builtin.append_ #[23, 23] 23 #[sv, t]) w1 fun t2 w2 => stW 1 (.pointer (some ⟨g, 3, none⟩)) t2 w2 K := by
  refine row_v hx.len fun t6 w6 ht6 hx6 => ?_
  refine (G.more hx6).appx ht6 hx hl fun sv2 w7 G7 hb7 => ?_
  refine G7.set (sv1 := sv2) (kv1 := kv) G7.one.1 (by omega) rfl fun w8 G8 hb8 => ?_
  exact hK sv2 w8 G8 (low_set (low_step (Chg.of_ext hx6) hb7) hb8)
theorem grow_item' {w0 w : World} {g base : Nat} {sv kv : Value} {xs : List JV} {ks : List Str} {x : JV} {cs : List Value} {K : World → Prop} (G : Grow w0 w g base sv kv sv kv xs ks) (hx : VRep w0 x cs) (hl : xs.length ≤ 1000000)
    (hK : ∀ sv' w', Grow w0 w' g base sv' kv sv' kv (xs ++ [x]) ks → Low g base w w' → K w') :
    bslW VT 1 [(.int .i64 0), (.bool false), (.string (ofL [])), (.slice none 0 0), (.slice none 0 0)] [(0, 5, .agg cs.toArray)] w fun t w1 => (∃ v, cellO w1.heap[g]? 3 = some v ∧ v = sv) ∧ semE Tryz.prog (Builtin.append_ #[23, 23] 23 #[sv, t]) w1 fun t2 w2 => stW 1 (.pointer (some ⟨g, 3, none⟩)) t2 w2 K := by
  refine row_v hx.len fun t6 w6 ht6 hx6 => ⟨⟨sv, by rw [(G.more hx6).hb]; rfl, rfl⟩, ?_⟩
  refine (G.more hx6).appx ht6 hx hl fun sv2 w7 G7 hb7 => ?_
  refine G7.set (sv1 := sv2) (kv1 := kv) G7.one.1 (by omega) rfl fun w8 G8 hb8 => ?_
  exact hK sv2 w8 G8 (low_set (low_step (Chg.of_ext hx6) hb7) hb8)
theorem OwnV.item_old {w0 w : World} {base : Nat} {v : JV} {sv kv : Value} {k : IntKind} {i : Nat} {x : JV} {K : Value → Prop} (h : OwnV w0 w base v sv kv) (hi : v.xs[i]? = some x) (hK : ∀ cs, VRep w0 x cs → K (.agg cs.toArray)) : ixaW none 5 sv (.int k i) fun p => ldW true 5 p w K := by
  obtain ⟨L, h1, h2⟩ := h.items
  obtain ⟨cs, hc, hg⟩ := h2.get hi
  refine ixa_at (size := 5) h1.sl h2.len (by omega) (List.getElem?_eq_some_iff.1 hi).1 fun b o c fr hb hcc => ?_
  exact ld_cells hb hc.len (fun j hj => (hcc j hj).trans (hg j hj)) (hK cs hc)
end Go.Proofs.YtcnjpcadejcenaaGreatDoor

namespace Go.Proofs.YtcnjpcadejcenaaGreatDoor
open Go Go.Eng Go.Num
set_option maxRecDepth 100000
section
variable [HX]

/-- what is handed back through a block of its own -/
theorem ret_val {w w0 : World} {b : Nat} {cs ds : List Value} {v : JV} {K : Value → World → Prop} (hb : w.heap[b]? = some (.cells ds.toArray VT (0, 0))) (hd : ds.length = 5) (hl : w0.heap.size ≤ b) (hx : Ext w0 w) (h : VRep w0 v cs)
    (hK : ∀ w', Ext w0 w' → Chg (fun k => k = b) w w' → VRep w' v cs → K (.agg cs.toArray) w') : stW 5 (ptr b) (.agg cs.toArray) w fun w5 => ldW true 5 (ptr b) w5 fun r6 => K r6 w5 :=
  ret_agg hb h.len hd h.all_one fun w' hc => by
    have hx' := hx.new hc hl
    exact hK w' hx' hc (h.ext hx')

/-- an item as it was at an earlier world -/
theorem ValB.item_old {w0 w : World} {a : Nat} {v : JV} {sv kv : Value} {k : IntKind} {i : Nat} {x : JV} {K : Value → Prop} (h : ValB w0 a v sv kv) (hx : Ext w0 w) (hi : v.xs[i]? = some x) (hK : ∀ cs, VRep w0 x cs → K (.agg cs.toArray)) : ixaW none 5 sv (.int k i) fun p => ldW true 5 p w K := by
  obtain ⟨T, L, h1, h2⟩ := h.items
  obtain ⟨cs, hc, hg⟩ := h2.get hi
  refine ixa_at (size := 5) (h1.ext hx) h2.len (by omega) (List.getElem?_eq_some_iff.1 hi).1 fun b o c fr hb hcc => ?_
  exact ld_cells hb hc.len (fun j hj => (hcc j hj).trans (hg j hj)) (hK cs hc)
theorem idxI_neg {ks : List Str} {k : Str} : idxI ks k < 0 ↔ idxK ks k = none := by
  unfold idxI
  cases h : idxK ks k with
  | none => simp
  | some i => simp

theorem obj_one {k : Int} {b : Bool} {t : Str} {sv kv : Value} (h1 : one1 sv = true) (h2 : one1 kv = true) : ([i64 k, .bool b, str t, sv, kv] : List Value).all one1 = true := by
  simp only [List.all_cons, List.all_nil, h1, h2, Bool.and_true]; rfl
theorem dropP_take {l : List (Str × JV)} {k : Str} {i : Nat} {p : Str × JV} (hi : l[i]? = some p) : dropP (l.take (i + 1)) k = if p.1 = k then dropP (l.take i) k else dropP (l.take i) k ++ [p] := by
  rw [List.take_add_one, hi]
  simp only [dropP, Option.toList_some, List.filter_append]
  by_cases h : p.1 = k <;> simp [h]
theorem zip_get {ks : List Str} {xs : List JV} {i : Nat} {u : Str} {x : JV} (hu : ks[i]? = some u) (hx : xs[i]? = some x) : (ks.zip xs)[i]? = some (u, x) := by
  rw [List.getElem?_zip_eq_some]; exact ⟨hu, hx⟩
theorem drop_ref {v : JV} {cs : List Value} {k : Str} {w0 w : World} {K : Value → World → Prop} (h : VRep w0 v cs) (h0 : Ext w0 w) (he : v.k = 6) (hl : v.ks.length = v.xs.length) (hfew : v.ks.length ≤ 100000)
    (hK : ∀ sv kv base w', Ext w w' → w.heap.size ≤ base → OwnV w0 w' base (mkO (dropP (v.ks.zip v.xs) k)) sv kv → K (.agg [i64 6, .bool false, str [], sv, kv].toArray) w') : callF Tryz.prog 123 [.agg cs.toArray, str k] w K := by
  refine W123_ok ?_
  unfold W123
  refine box_vali h fun a w1 sv kv hba I hx ha hz1 => ?_
  refine alloc_new fun b w2 hb hz2 hbb hx2 => ?_
  have hB := I.box (h0.trans (hx.trans hx2)) (hx2.at hba id)
  have hB0 := I.box (h0.trans hx) hba
  simp only [wsv, wsg, wsh, wsl, cond_true, cond_false, exists_eq_left', Option.some.injEq, Option.isSome_some, List.getElem?_toArray, List.getElem?_cons_zero, List.getElem?_cons_succ, List.length_cons, List.length_nil, List.set_cons_zero, List.set_cons_succ, List.getD_cons_zero, List.getD_cons_succ, Nat.zero_add, Nat.add_zero, Nat.reduceAdd, Nat.reduceLT, Nat.lt_add_one, Nat.zero_lt_succ, decide_true, decide_false, ne_eq, reduceCtorEq, wsh, hB.hb, condW_dec]
  refine ⟨fun hne => absurd he hne, fun _ => ?_⟩
  · skip
    refine alloc_new fun g w3 hg hz3 hgg hx3 => ?_
    refine st_agg_at (l := [i64 6, .bool false, str [], .slice none 0 0, .slice none 0 0]) hgg rfl rfl rfl fun w4 hz4 hg4 hc4 => ?_
    have hx14 : Ext w w4 := (hx.trans (hx2.trans hx3)).new hc4 (by have := hx.size; omega)
    have hsz := hx.size
    have hx24 : Ext w2 w4 := hx3.new hc4 (by omega)
    have hbb := hx24.at hbb id
    have hB := hB.ext hx24
    have hba4 := (hx2.trans hx24).at hba id
    have h00 := h0.size
    have G0 : Grow w0 w4 g (g + 1) (.slice none 0 0) (.slice none 0 0) (.slice none 0 0) (.slice none 0 0) [] [] := ⟨h0.trans hx14, hg4, by omega, by omega, by omega, ⟨[], ⟨rfl, .inl ⟨rfl, rfl⟩⟩, by simp [VReps]⟩, ⟨rfl, .inl ⟨rfl, rfl⟩⟩⟩
    simp only [wsv, wsg, wsh, wsl, cond_true, cond_false, exists_eq_left', Option.some.injEq, Option.isSome_some, List.getElem?_toArray, List.getElem?_cons_zero, List.getElem?_cons_succ, List.length_cons, List.length_nil, List.set_cons_zero, List.set_cons_succ, List.getD_cons_zero, List.getD_cons_succ, Nat.zero_add, Nat.add_zero, Nat.reduceAdd, Nat.reduceLT, Nat.lt_add_one, Nat.zero_lt_succ, decide_true, decide_false, ne_eq, reduceCtorEq, wsh, hB.hb]
    rw [hB.lenk]
    refine loop_up v.ks.length (fun i w' => ∃ sv kv, Grow w0 w' g (g + 1) sv kv sv kv ((dropP ((v.ks.zip v.xs).take i) k).map (·.2)) ((dropP ((v.ks.zip v.xs).take i) k).map (·.1)) ∧ Low g (g + 1) w4 w') ⟨_, _, G0, Chg.refl _ _⟩ ?_ ?_
    · rintro i w5 gg L hi ⟨sv1, kv1, G, lo⟩ hL
      have hB := I.box G.ext (low_get lo (by omega) (by omega) hba4)
      obtain ⟨u, hu⟩ : ∃ u, v.ks[i]? = some u := ⟨_, List.getElem?_eq_getElem hi⟩
      obtain ⟨x, hx'⟩ : ∃ x, v.xs[i]? = some x := ⟨_, List.getElem?_eq_getElem (by omega)⟩
      have hz := zip_get hu hx'
      have hnx := dropP_take (k := k) hz
      have hcnt : (dropP ((v.ks.zip v.xs).take i) k).length ≤ 1000000 := by
        have h1 : (dropP ((v.ks.zip v.xs).take i) k).length ≤ ((v.ks.zip v.xs).take i).length := List.length_filter_le _ _
        rw [List.length_take] at h1
        omega
      have hlt : ((i : Int) < (v.ks.length : Int)) := by omega
      simp only [wsv, wsg, wsh, wsl, cond_true, cond_false, exists_eq_left', Option.some.injEq, Option.isSome_some, List.getElem?_toArray, List.getElem?_cons_zero, List.getElem?_cons_succ, List.length_cons, List.length_nil, List.set_cons_zero, List.set_cons_succ, List.getD_cons_zero, List.getD_cons_succ, Nat.zero_add, Nat.add_zero, Nat.reduceAdd, Nat.reduceLT, Nat.lt_add_one, Nat.zero_lt_succ, decide_true, decide_false, ne_eq, reduceCtorEq, wsh, hB.hb, hlt]
      refine JoinW.cut (fun s w' => s = [] ∧ ∃ sv kv, Grow w0 w' g (g + 1) sv kv sv kv ((dropP ((v.ks.zip v.xs).take (i + 1)) k).map (·.2)) ((dropP ((v.ks.zip v.xs).take (i + 1)) k).map (·.1)) ∧ Low g (g + 1) w4 w') ?_ ?_
      · refine hB.key hu ?_
        simp only [wsv, wsg, wsh, wsl, cond_true, cond_false, exists_eq_left', Option.some.injEq, Option.isSome_some, List.getElem?_toArray, List.getElem?_cons_zero, List.getElem?_cons_succ, List.length_cons, List.length_nil, List.set_cons_zero, List.set_cons_succ, List.getD_cons_zero, List.getD_cons_succ, Nat.zero_add, Nat.add_zero, Nat.reduceAdd, Nat.reduceLT, Nat.lt_add_one, Nat.zero_lt_succ, decide_true, decide_false, ne_eq, reduceCtorEq, condW_dec]
        refine ⟨fun hne => ?_, fun he => ⟨sv1, kv1, ?_, lo⟩⟩
        · have hne : u ≠ k := by simpa using hne
          rw [if_neg hne] at hnx
          have hxd : Ext w5 w5.drew := Chg.drew (Chg.refl (fun _ => False) w5)
          have Gd := G.more hxd
          have hBd := hB.ext hxd
          (try simp only [wsv, wsg, wsh, wsl, cond_true, cond_false, exists_eq_left', Option.some.injEq, Option.isSome_some, List.getElem?_toArray, List.getElem?_cons_zero, List.getElem?_cons_succ, List.length_cons, List.length_nil, List.set_cons_zero, List.set_cons_succ, List.getD_cons_zero, List.getD_cons_succ, Nat.zero_add, Nat.add_zero, Nat.reduceAdd, Nat.reduceLT, Nat.lt_add_one, Nat.zero_lt_succ, decide_true, decide_false, ne_eq, reduceCtorEq, wsh, G.hb])
          refine ValB.key hBd hu ?_
          refine row_s fun t6 w6 ht6 hx6 => ?_
          have lo := low_ext (low_ext lo hxd) hx6
          have G := Gd.more hx6
          (try simp only [wsv, wsg, wsh, wsl, cond_true, cond_false, exists_eq_left', Option.some.injEq, Option.isSome_some, List.getElem?_toArray, List.getElem?_cons_zero, List.getElem?_cons_succ, List.length_cons, List.length_nil, List.set_cons_zero, List.set_cons_succ, List.getD_cons_zero, List.getD_cons_succ, Nat.zero_add, Nat.add_zero, Nat.reduceAdd, Nat.reduceLT, Nat.lt_add_one, Nat.zero_lt_succ, decide_true, decide_false, ne_eq, reduceCtorEq, wsh, G.hb])
          refine G.appk ht6 (by rw [List.length_map]; exact hcnt) fun kv2 w7 G7 hb7 => ?_
          have lo := low_step lo hb7
          refine G7.set (sv1 := sv1) (kv1 := kv2) G7.one.2 (by omega) rfl fun w8 G8 hb8 => ?_
          have lo := low_set lo hb8
          have hB8 := I.box G8.ext (low_get lo (by omega) (by omega) hba4)
          (try simp only [wsv, wsg, wsh, wsl, cond_true, cond_false, exists_eq_left', Option.some.injEq, Option.isSome_some, List.getElem?_toArray, List.getElem?_cons_zero, List.getElem?_cons_succ, List.length_cons, List.length_nil, List.set_cons_zero, List.set_cons_succ, List.getD_cons_zero, List.getD_cons_succ, Nat.zero_add, Nat.add_zero, Nat.reduceAdd, Nat.reduceLT, Nat.lt_add_one, Nat.zero_lt_succ, decide_true, decide_false, ne_eq, reduceCtorEq, wsh, G8.hb])
          have hxd8 : Ext w8 w8.drew := Chg.drew (Chg.refl (fun _ => False) w8)
          have G := G8.more hxd8
          have lo := low_ext lo hxd8
          (try simp only [wsv, wsg, wsh, wsl, cond_true, cond_false, exists_eq_left', Option.some.injEq, Option.isSome_some, List.getElem?_toArray, List.getElem?_cons_zero, List.getElem?_cons_succ, List.length_cons, List.length_nil, List.set_cons_zero, List.set_cons_succ, List.getD_cons_zero, List.getD_cons_succ, Nat.zero_add, Nat.add_zero, Nat.reduceAdd, Nat.reduceLT, Nat.lt_add_one, Nat.zero_lt_succ, decide_true, decide_false, ne_eq, reduceCtorEq, wsh, hB8.hb])
          refine I.item_old G.ext hx' fun cs2 h2 => ?_
          refine row_v h2.len fun t9 w9 ht9 hx9 => ?_
          have lo := low_ext lo hx9
          have G := G.more hx9
          (try simp only [wsv, wsg, wsh, wsl, cond_true, cond_false, exists_eq_left', Option.some.injEq, Option.isSome_some, List.getElem?_toArray, List.getElem?_cons_zero, List.getElem?_cons_succ, List.length_cons, List.length_nil, List.set_cons_zero, List.set_cons_succ, List.getD_cons_zero, List.getD_cons_succ, Nat.zero_add, Nat.add_zero, Nat.reduceAdd, Nat.reduceLT, Nat.lt_add_one, Nat.zero_lt_succ, decide_true, decide_false, ne_eq, reduceCtorEq, wsh, G.hb])
          refine G.appx ht9 h2 (by rw [List.length_map]; exact hcnt) fun sv2 w10 G10 hb10 => ?_
          have lo := low_step lo hb10
          refine G10.set (sv1 := sv2) (kv1 := kv2) G10.one.1 (by omega) rfl fun w11 G11 hb11 => ?_
          have lo := low_set lo hb11
          refine ⟨sv2, kv2, ?_, lo⟩
          rw [hnx, List.map_append, List.map_append]
          exact G11
        · have he : u = k := by simpa using he
          rw [if_pos he] at hnx
          rw [hnx]; exact G
      · rintro s g' w6 ⟨rfl, sv2, kv2, G2, lo⟩
        rw [up1 (by omega)]
        exact hL w6 ⟨sv2, kv2, G2, lo⟩
    · rintro w5 gg L ⟨sv1, kv1, G, lo⟩
      rw [List.take_of_length_le (by rw [List.length_zip]; omega)] at G
      simp only [wsv, wsg, wsh, wsl, cond_true, cond_false, exists_eq_left', Option.some.injEq, Option.isSome_some, List.getElem?_toArray, List.getElem?_cons_zero, List.getElem?_cons_succ, List.length_cons, List.length_nil, List.set_cons_zero, List.set_cons_succ, List.getD_cons_zero, List.getD_cons_succ, Nat.zero_add, Nat.add_zero, Nat.reduceAdd, Nat.reduceLT, Nat.lt_add_one, Nat.zero_lt_succ, decide_true, decide_false, ne_eq, reduceCtorEq, Int.lt_irrefl]
      have hcnt : (dropP (v.ks.zip v.xs) k).length ≤ 1000000 := by
        have h1 : (dropP (v.ks.zip v.xs) k).length ≤ (v.ks.zip v.xs).length := List.length_filter_le _ _
        rw [List.length_zip] at h1
        omega
      have hbb := low_get lo (by omega) (by omega) hbb
      have hO := G.own hcnt fun p hp => I.fits.2.2.2 _ (List.of_mem_zip (List.mem_filter.1 hp).1).1
      refine ld_all G.hb rfl ?_
      have h1 := hO.one
      refine ret_agg hbb rfl rfl (obj_one h1.1 h1.2) fun w6 hc6 => ?_
      exact hK _ _ (g + 1) w6 ((low_new hx14 (by omega) (by omega) lo).new hc6 (by omega)) (by omega) (hO.chg hc6 fun k hk _ e => by omega)

theorem insP_take {l : List (Str × JV)} {k : Str} {x : JV} : ∀ (i : Nat), (∀ p ∈ l.take i, Op.bytesLess k p.1 = false) → insP l k x = l.take i ++ insP (l.drop i) k x := by
  induction l with
  | nil => intro i _; simp [insP]
  | cons p l ih =>
    intro i hi
    cases i with
    | zero => rfl
    | succ i =>
      simp only [List.take_succ_cons, List.drop_succ_cons, List.cons_append]
      obtain ⟨a, y⟩ := p
      have h0 := hi (a, y) (by simp)
      simp only [insP, h0, Bool.false_eq_true, if_false]
      rw [ih i fun q hq => hi q (by simp [hq])]
/-- how far the loop of Put is: what is out, and whether the key is in it -/
def putGo (l : List (Str × JV)) (k : Str) (x : JV) : Nat → List (Str × JV) × Bool
  | 0 => ([], false)
  | i + 1 => match l[i]? with
    | none => putGo l k x i
    | some p => if (!(putGo l k x i).2 && Op.bytesLess k p.1) then ((putGo l k x i).1 ++ [(k, x)] ++ [p], true) else ((putGo l k x i).1 ++ [p], (putGo l k x i).2)
theorem putGo_spec {l : List (Str × JV)} {k : Str} {x : JV} : ∀ (i : Nat), i ≤ l.length → ((putGo l k x i).2 = false → (putGo l k x i).1 = l.take i ∧ ∀ p ∈ l.take i, Op.bytesLess k p.1 = false) ∧ ((putGo l k x i).2 = true → (putGo l k x i).1 ++ l.drop i = insP l k x)
  | 0, _ => by simp [putGo]
  | i + 1, h => by
    obtain ⟨h1, h2⟩ := putGo_spec (l := l) (k := k) (x := x) i (by omega)
    obtain ⟨p, hp⟩ : ∃ p, l[i]? = some p := ⟨_, List.getElem?_eq_getElem (by omega)⟩
    have hd : l.drop i = p :: l.drop (i + 1) := by
      have hi : i < l.length := h
      rw [List.drop_eq_getElem_cons hi]
      congr 1
      exact Option.some.inj ((List.getElem?_eq_getElem hi).symm.trans hp)
    have ht : l.take (i + 1) = l.take i ++ [p] := by rw [List.take_add_one, hp]; rfl
    simp only [putGo, hp]
    cases hg : (putGo l k x i).2 with
    | true =>
      simp only [Bool.not_true, Bool.false_and, Bool.false_eq_true, if_false]
      refine ⟨(fun e => by cases e), fun _ => ?_⟩
      rw [← h2 hg, hd]; simp
    | false =>
      obtain ⟨e1, e2⟩ := h1 hg
      cases hb : Op.bytesLess k p.1 with
      | true =>
        simp only [Bool.not_false, Bool.and_self, if_true]
        refine ⟨(fun e => by cases e), fun _ => ?_⟩
        obtain ⟨a, y⟩ := p
        rw [e1, insP_take i e2, hd]
        simp only [insP, hb, if_true]
        simp
      | false =>
        simp only [Bool.not_false, Bool.true_and, Bool.false_eq_true, if_false]
        refine ⟨fun _ => ⟨by rw [e1, ht], fun q hq => ?_⟩, fun e => by cases e⟩
        rw [ht] at hq
        rcases List.mem_append.1 hq with hq | hq
        · exact e2 q hq
        · rw [List.mem_singleton.1 hq]; exact hb
theorem putGo_end {l : List (Str × JV)} {k : Str} {x : JV} : insP l k x = if (putGo l k x l.length).2 then (putGo l k x l.length).1 else (putGo l k x l.length).1 ++ [(k, x)] := by
  obtain ⟨h1, h2⟩ := putGo_spec (k := k) (x := x) l.length (Nat.le_refl _)
  cases hg : (putGo l k x l.length).2 with
  | true =>
    rw [if_pos rfl, ← h2 hg]; simp
  | false =>
    obtain ⟨e1, e2⟩ := h1 hg
    rw [List.take_length] at e1 e2
    rw [if_neg (by simp), e1]
    have := insP_take (l := l) (k := k) (x := x) l.length (by rw [List.take_length]; exact e2)
    rw [this]; simp [insP]
theorem putGo_len (l : List (Str × JV)) (k : Str) (x : JV) : ∀ i, (putGo l k x i).1.length ≤ 2 * i
  | 0 => by simp [putGo]
  | i + 1 => by
    have := putGo_len l k x i
    simp only [putGo]
    split
    · omega
    · split <;> simp <;> omega
end
end Go.Proofs.YtcnjpcadejcenaaGreatDoor

namespace Go.Proofs.YtcnjpcadejcenaaGreatDoor
open Go Go.Eng Go.Num
set_option maxRecDepth 100000
section
variable [HX]
theorem put_ref0 {v x : JV} {cs ds : List Value} {k : Str} {w0 w : World} {K : Value → World → Prop} (h : VRep w0 v cs) (hd : VRep w0 x ds) (h0 : Ext w0 w) (hl : v.k = 6 → v.ks.length = v.xs.length) (hfew : v.ks.length ≤ 100000) (hk : k.length ≤ 9223372036854775807)
    (hK : ∀ sv kv base w', Ext w w' → w.heap.size ≤ base → OwnV w0 w' base (putM v k x) sv kv → K (.agg [i64 6, .bool false, str [], sv, kv].toArray) w') : callF Tryz.prog 62 [.agg cs.toArray, str k, .agg ds.toArray] w K := by
  refine W62_ok ?_
  unfold W62
  refine box_vali h fun a w1 sv kv hba I hx ha hz1 => ?_
  refine box_vali hd fun c w2 sv' kv' hbc Ix hx2 hc hz2 => ?_
  refine alloc_new fun b w3 hb hz3 hbb hx3 => ?_
  simp only [wsv, wsg, wsh, wsl, cond_true, cond_false, exists_eq_left', Option.some.injEq, Option.isSome_some, List.getElem?_toArray, List.getElem?_cons_zero, List.getElem?_cons_succ, List.length_cons, List.length_nil, List.set_cons_zero, List.set_cons_succ, List.getD_cons_zero, List.getD_cons_succ, Nat.zero_add, Nat.add_zero, Nat.reduceAdd, Nat.reduceLT, Nat.lt_add_one, Nat.zero_lt_succ, decide_true, decide_false, ne_eq, reduceCtorEq]
  refine alloc_new fun g w4 hg hz4 hgg hx4 => ?_
  refine st_agg_at (l := [i64 6, .bool false, str [], .slice none 0 0, .slice none 0 0]) hgg rfl rfl rfl fun w5 hz5 hg5 hc5 => ?_
  have hw5 : Ext w w5 := (((hx.trans hx2).trans hx3).trans hx4).new hc5 (by omega)
  have hba5 := hc5.at (hx4.at (hx3.at (hx2.at hba id) id) id) (by omega)
  have hbc5 := hc5.at (hx4.at (hx3.at hbc id) id) (by omega)
  have hbb5 := hc5.at (hx4.at hbb id) (by omega)
  clear hgg hbb hbc hc5
  have h00 := h0.size
  have hxs := hx.size
  have G0 : Grow w0 w5 g (g + 1) (.slice none 0 0) (.slice none 0 0) (.slice none 0 0) (.slice none 0 0) [] [] := ⟨h0.trans hw5, hg5, by omega, by omega, by omega, ⟨[], ⟨rfl, .inl ⟨rfl, rfl⟩⟩, by simp [VReps]⟩, ⟨rfl, .inl ⟨rfl, rfl⟩⟩⟩
  have hB := I.box (h0.trans hw5) hba5
  -- the one key more
  let P : List (Str × JV) := if v.k = 6 then dropP (v.ks.zip v.xs) k else []
  have hP : putM v k x = mkO (insP P k x) := by
    show putM v k x = mkO (insP (if v.k = 6 then dropP (v.ks.zip v.xs) k else []) k x)
    unfold putM; split <;> rfl
  have hPl : P.length ≤ 100000 := by
    show (if v.k = 6 then dropP (v.ks.zip v.xs) k else []).length ≤ 100000
    split
    · have h1 : (dropP (v.ks.zip v.xs) k).length ≤ (v.ks.zip v.xs).length := List.length_filter_le _ _
      rw [List.length_zip] at h1; omega
    · simp
  have hPk : ∀ p ∈ P, p.1.length ≤ 9223372036854775807 := by
    intro p hp
    have hp : p ∈ (if v.k = 6 then dropP (v.ks.zip v.xs) k else []) := hp
    split at hp
    · exact I.fits.2.2.2 _ (List.of_mem_zip (List.mem_filter.1 hp).1).1
    · simp at hp
  rw [hP] at hK
  refine JoinW.cut (fun s w' => ∃ sv kv base, s = [.bool (putGo P k x P.length).2] ∧ b < base ∧ c < base ∧ Grow w0 w' g base sv kv sv kv ((putGo P k x P.length).1.map (·.2)) ((putGo P k x P.length).1.map (·.1)) ∧ w'.heap[c]? = some (.cells [i64 x.k, .bool x.b, str x.t, sv', kv'].toArray VT (0, 0)) ∧ w'.heap[b]? = some (.cells zv.toArray VT (0, 0)) ∧ Ext w w') ?_ ?_
  · simp only [wsv, wsg, wsh, wsl, cond_true, cond_false, exists_eq_left', Option.some.injEq, Option.isSome_some, List.getElem?_toArray, List.getElem?_cons_zero, List.getElem?_cons_succ, List.length_cons, List.length_nil, List.set_cons_zero, List.set_cons_succ, List.getD_cons_zero, List.getD_cons_succ, Nat.zero_add, Nat.add_zero, Nat.reduceAdd, Nat.reduceLT, Nat.lt_add_one, Nat.zero_lt_succ, decide_true, decide_false, ne_eq, reduceCtorEq, wsh, hB.hb, condW_dec]
    refine ⟨fun he => ?_, fun hne => ?_⟩
    · have hPe : P = dropP (v.ks.zip v.xs) k := if_pos he
      refine ld_all hB.hb rfl ?_
      refine drop_ref (w0 := w0) (v := v) (cs := [i64 v.k, .bool v.b, str v.t, sv, kv]) ?_ (h0.trans hw5) he (hl he) hfew fun sw kw base0 w6 hx6 hbase0 hO => ?_
      · obtain ⟨T, L, i1, i2⟩ := I.items
        obtain ⟨T', i3⟩ := I.keys
        exact VRep.mk i1 i2 i3 I.fits
      have hs6 := hx6.size
      rw [← hPe] at hO
      have hba6 := hx6.at hba5 id
      refine st_agg_at (l := [i64 6, .bool false, str [], sw, kw]) hba6 rfl rfl (obj_one hO.one.1 hO.one.2) fun w7 hz7 hba7 hc7 => ?_
      have hO := hO.chg hc7 fun j hj _ e => by omega
      have hbc7 := hc7.at (hx6.at hbc5 id) (by omega)
      have hbb7 := hc7.at (hx6.at hbb5 id) (by omega)
      have hw7 : Ext w w7 := (hw5.trans hx6).new hc7 (by omega)
      have G7 := ((G0.more hx6).chg hc7 (by omega) (by omega) (by omega)).rebase (base' := w7.heap.size) (by omega) (Nat.le_refl _)
      have hPx : (mkO P).xs = P.map (·.2) := rfl
      have hPks : (mkO P).ks = P.map (·.1) := rfl
      simp only [wsv, wsg, wsh, wsl, cond_true, cond_false, exists_eq_left', Option.some.injEq, Option.isSome_some, List.getElem?_toArray, List.getElem?_cons_zero, List.getElem?_cons_succ, List.length_cons, List.length_nil, List.set_cons_zero, List.set_cons_succ, List.getD_cons_zero, List.getD_cons_succ, Nat.zero_add, Nat.add_zero, Nat.reduceAdd, Nat.reduceLT, Nat.lt_add_one, Nat.zero_lt_succ, decide_true, decide_false, ne_eq, reduceCtorEq, wsh, hba7]
      rw [lenl_at hO.keys.sl, hPks, List.length_map]
      refine ⟨fun s w' => ∃ i sv kv, i ≤ P.length ∧ s = [.bool (putGo P k x i).2, i64 (i : Nat)] ∧ Grow w0 w' g w7.heap.size sv kv sv kv ((putGo P k x i).1.map (·.2)) ((putGo P k x i).1.map (·.1)) ∧ Low g w7.heap.size w7 w', fun s _ => match s with | [_, .int _ i] => P.length - i.toNat | _ => 0, ⟨0, _, _, Nat.zero_le _, rfl, G7, Chg.refl _ _⟩, ?_⟩
      rintro s gg w8 ⟨i, sv8, kv8, hi, rfl, G8, lo8⟩
      rcases Nat.lt_or_ge i P.length with hlt | hge
      · have hltI : ((i : Int) < (P.length : Int)) := by omega
        have hlen8 := putGo_len P k x i
        obtain ⟨p, hp⟩ : ∃ p, P[i]? = some p := ⟨_, List.getElem?_eq_getElem hlt⟩
        have hstay : ∀ {w9 : World}, Low g w7.heap.size w7 w9 → w9.heap[a]? = some (.cells [i64 6, .bool false, str [], sw, kw].toArray VT (0, 0)) ∧ w9.heap[c]? = some (.cells [i64 x.k, .bool x.b, str x.t, sv', kv'].toArray VT (0, 0)) ∧ OwnV w0 w9 base0 (mkO P) sw kw := fun lo =>
          ⟨low_get lo (by omega) (by omega) hba7, low_get lo (by omega) (by omega) hbc7, hO.chg lo fun k hk hk2 e => by omega⟩
        obtain ⟨hba8, hbc8, hO8⟩ := hstay lo8
        have hkey : ∀ {w9 : World} {KK : Value → Prop}, OwnV w0 w9 base0 (mkO P) sw kw → KK (str p.1) → ixaW none 1 kw (.int .i64 i) fun q => ldW false 1 q w9 KK := fun h hk => text_ld h.keys.sl (by rw [hPks]; simp [hp]) hk
        simp only [wsv, wsg, wsh, wsl, cond_true, cond_false, exists_eq_left', Option.some.injEq, Option.isSome_some, List.getElem?_toArray, List.getElem?_cons_zero, List.getElem?_cons_succ, List.length_cons, List.length_nil, List.set_cons_zero, List.set_cons_succ, List.getD_cons_zero, List.getD_cons_succ, Nat.zero_add, Nat.add_zero, Nat.reduceAdd, Nat.reduceLT, Nat.lt_add_one, Nat.zero_lt_succ, decide_true, decide_false, ne_eq, reduceCtorEq, wsh, hltI, hba8]
        refine JoinW.cut (fun s w' => ∃ sv kv, s = [.bool (putGo P k x (i + 1)).2] ∧ Grow w0 w' g w7.heap.size sv kv sv kv ((if (!(putGo P k x i).2 && Op.bytesLess k p.1) then (putGo P k x i).1 ++ [(k, x)] else (putGo P k x i).1).map (·.2)) ((if (!(putGo P k x i).2 && Op.bytesLess k p.1) then (putGo P k x i).1 ++ [(k, x)] else (putGo P k x i).1).map (·.1)) ∧ Low g w7.heap.size w7 w') ?_ ?_
        · refine GdW.look (Op.bytesLess k p.1) ?_ ?_
          · intro _ J hJ
            refine hkey hO8 ?_
            simp only [wsv, wsg, wsh, wsl, cond_true, cond_false, exists_eq_left', Option.some.injEq, Option.isSome_some, List.getElem?_toArray, List.getElem?_cons_zero, List.getElem?_cons_succ, List.length_cons, List.length_nil, List.set_cons_zero, List.set_cons_succ, List.getD_cons_zero, List.getD_cons_succ, Nat.zero_add, Nat.add_zero, Nat.reduceAdd, Nat.reduceLT, Nat.lt_add_one, Nat.zero_lt_succ, decide_true, decide_false, ne_eq, reduceCtorEq]
            exact hJ
          · intro gd
            simp only [wsv, wsg, wsh, wsl, cond_true, cond_false, exists_eq_left', Option.some.injEq, Option.isSome_some, List.getElem?_toArray, List.getElem?_cons_zero, List.getElem?_cons_succ, List.length_cons, List.length_nil, List.set_cons_zero, List.set_cons_succ, List.getD_cons_zero, List.getD_cons_succ, Nat.zero_add, Nat.add_zero, Nat.reduceAdd, Nat.reduceLT, Nat.lt_add_one, Nat.zero_lt_succ, decide_true, decide_false, ne_eq, reduceCtorEq, condW_b]
            refine ⟨fun hc => ?_, fun hc => ?_⟩
            · simp only [wsv, wsg, wsh, wsl, cond_true, cond_false, exists_eq_left', Option.some.injEq, Option.isSome_some, List.getElem?_toArray, List.getElem?_cons_zero, List.getElem?_cons_succ, List.length_cons, List.length_nil, List.set_cons_zero, List.set_cons_succ, List.getD_cons_zero, List.getD_cons_succ, Nat.zero_add, Nat.add_zero, Nat.reduceAdd, Nat.reduceLT, Nat.lt_add_one, Nat.zero_lt_succ, decide_true, decide_false, ne_eq, reduceCtorEq, wsh, G8.hb]
              rw [if_pos hc]
              refine grow_key G8 (by rw [List.length_map]; omega) fun kv9 w9 G9 lo9 => ?_
              obtain ⟨hba9, hbc9, hO9⟩ := hstay (lo8.trans lo9)
              simp only [wsv, wsg, wsh, wsl, cond_true, cond_false, exists_eq_left', Option.some.injEq, Option.isSome_some, List.getElem?_toArray, List.getElem?_cons_zero, List.getElem?_cons_succ, List.length_cons, List.length_nil, List.set_cons_zero, List.set_cons_succ, List.getD_cons_zero, List.getD_cons_succ, Nat.zero_add, Nat.add_zero, Nat.reduceAdd, Nat.reduceLT, Nat.lt_add_one, Nat.zero_lt_succ, decide_true, decide_false, ne_eq, reduceCtorEq, wsh, G9.hb]
              refine ld_all hbc9 rfl ?_
              refine grow_item G9 (?_ : VRep w0 x _) (by rw [List.length_map]; omega) fun sv10 w10 G10 lo10 => ?_
              · obtain ⟨T, L, i1, i2⟩ := Ix.items
                obtain ⟨T', i3⟩ := Ix.keys
                exact VRep.mk i1 i2 i3 Ix.fits
              refine ⟨sv10, kv9, ?_, ?_, (lo8.trans lo9).trans lo10⟩
              · simp only [putGo, hp, hc, if_true]
              · rw [List.map_append, List.map_append]; exact G10
            · rw [if_neg (by rw [hc]; simp)]
              refine ⟨sv8, kv8, ?_, G8, lo8⟩
              simp only [putGo, hp, hc, Bool.false_eq_true, if_false]
        · rintro s gd w9 ⟨sv9, kv9, rfl, G9, lo9⟩
          have hxd : Ext w9 w9.drew := Chg.drew (Chg.refl (fun _ => False) w9)
          obtain ⟨hba9, hbc9, hO9⟩ := hstay lo9
          obtain ⟨_, _, hO9d⟩ := hstay (low_ext lo9 hxd)
          have hl9 : (if (!(putGo P k x i).2 && Op.bytesLess k p.1) then (putGo P k x i).1 ++ [(k, x)] else (putGo P k x i).1).length ≤ 2 * i + 1 := by split <;> (first | omega | (simp; omega))
          simp only [wsv, wsg, wsh, wsl, cond_true, cond_false, exists_eq_left', Option.some.injEq, Option.isSome_some, List.getElem?_toArray, List.getElem?_cons_zero, List.getElem?_cons_succ, List.length_cons, List.length_nil, List.set_cons_zero, List.set_cons_succ, List.getD_cons_zero, List.getD_cons_succ, Nat.zero_add, Nat.add_zero, Nat.reduceAdd, Nat.reduceLT, Nat.lt_add_one, Nat.zero_lt_succ, decide_true, decide_false, ne_eq, reduceCtorEq, wsh, G9.hb, hba9]
          refine hkey hO9d ?_
          refine grow_key' (G9.more hxd) (by rw [List.length_map]; omega) fun kv10 w10 G10 lo10 => ?_
          have lo10 := (low_ext lo9 hxd).trans lo10
          obtain ⟨hba10, hbc10, hO10⟩ := hstay lo10
          have hxd10 : Ext w10 w10.drew := Chg.drew (Chg.refl (fun _ => False) w10)
          obtain ⟨_, _, hO10d⟩ := hstay (low_ext lo10 hxd10)
          simp only [wsv, wsg, wsh, wsl, cond_true, cond_false, exists_eq_left', Option.some.injEq, Option.isSome_some, List.getElem?_toArray, List.getElem?_cons_zero, List.getElem?_cons_succ, List.length_cons, List.length_nil, List.set_cons_zero, List.set_cons_succ, List.getD_cons_zero, List.getD_cons_succ, Nat.zero_add, Nat.add_zero, Nat.reduceAdd, Nat.reduceLT, Nat.lt_add_one, Nat.zero_lt_succ, decide_true, decide_false, ne_eq, reduceCtorEq, wsh, G10.hb, hba10]
          refine hO10d.item_old (by rw [hPx]; simp only [List.getElem?_map, hp]; rfl) fun cs2 h2 => ?_
          refine grow_item' (G10.more hxd10) h2 (by rw [List.length_map]; omega) fun sv11 w11 G11 lo11 => ?_
          rw [up1 (by omega)]
          refine ⟨⟨i + 1, sv11, kv10, hlt, rfl, ?_, (low_ext lo10 hxd10).trans lo11⟩, by simp only [Int.toNat_natCast]; omega⟩
          have e : (putGo P k x (i + 1)).1 = (if (!(putGo P k x i).2 && Op.bytesLess k p.1) then (putGo P k x i).1 ++ [(k, x)] else (putGo P k x i).1) ++ [p] := by
            simp only [putGo, hp]; split <;> rfl
          rw [e, List.map_append, List.map_append]
          exact G11
      · obtain rfl : i = P.length := by omega
        simp only [wsv, wsg, wsh, wsl, cond_true, cond_false, exists_eq_left', Option.some.injEq, Option.isSome_some, List.getElem?_toArray, List.getElem?_cons_zero, List.getElem?_cons_succ, List.length_cons, List.length_nil, List.set_cons_zero, List.set_cons_succ, List.getD_cons_zero, List.getD_cons_succ, Nat.zero_add, Nat.add_zero, Nat.reduceAdd, Nat.reduceLT, Nat.lt_add_one, Nat.zero_lt_succ, decide_true, decide_false, ne_eq, reduceCtorEq, Int.lt_irrefl]
        exact ⟨sv8, kv8, w7.heap.size, by omega, by omega, G8, low_get lo8 (by omega) (by omega) hbc7, low_get lo8 (by omega) (by omega) hbb7, low_new hw7 (by omega) (by have := hw7.size; omega) lo8⟩
    · have hPe : P = [] := if_neg hne
      rw [hPe]
      exact ⟨_, _, g + 1, rfl, by omega, by omega, G0, hbc5, hbb5, hw5⟩
  · rintro s g' w6 ⟨sv6, kv6, base, rfl, hbb0, hcc0, G6, hbc6, hbb6, hw6⟩
    have hlen := putGo_len P k x P.length
    have hins : ∀ p ∈ insP P k x, p.1.length ≤ 9223372036854775807 := by
      intro p hp
      rw [putGo_end] at hp
      have hgo : ∀ i, ∀ p ∈ (putGo P k x i).1, p.1.length ≤ 9223372036854775807 := by
        intro i
        induction i with
        | zero => intro p hp; simp [putGo] at hp
        | succ i ih =>
          intro p hp
          simp only [putGo] at hp
          split at hp
          · exact ih p hp
          · rename_i q hq
            have hq' := hPk q (List.mem_of_getElem? hq)
            split at hp <;> simp only [List.mem_append, List.mem_cons, List.not_mem_nil, or_false] at hp
            · rcases hp with (hp | rfl) | rfl
              · exact ih p hp
              · exact hk
              · exact hq'
            · rcases hp with hp | rfl
              · exact ih p hp
              · exact hq'
      split at hp
      · exact hgo _ p hp
      · rcases List.mem_append.1 hp with hp | hp
        · exact hgo _ p hp
        · rw [List.mem_singleton.1 hp]; exact hk
    have hil : (insP P k x).length ≤ 1000000 := by rw [putGo_end]; split <;> (first | omega | (simp; omega))
    refine JoinW.cut (fun s w' => ∃ sv kv, s = [] ∧ Grow w0 w' g base sv kv sv kv ((insP P k x).map (·.2)) ((insP P k x).map (·.1)) ∧ w'.heap[b]? = some (.cells zv.toArray VT (0, 0)) ∧ Ext w w') ?_ ?_
    · simp only [wsv, wsg, wsh, wsl, cond_true, cond_false, exists_eq_left', Option.some.injEq, Option.isSome_some, List.getElem?_toArray, List.getElem?_cons_zero, List.getElem?_cons_succ, List.length_cons, List.length_nil, List.set_cons_zero, List.set_cons_succ, List.getD_cons_zero, List.getD_cons_succ, Nat.zero_add, Nat.add_zero, Nat.reduceAdd, Nat.reduceLT, Nat.lt_add_one, Nat.zero_lt_succ, decide_true, decide_false, ne_eq, reduceCtorEq, condW_b]
      refine ⟨fun hn => ?_, fun hy => ?_⟩
      · have hn : (putGo P k x P.length).2 = false := by simpa using hn
        rw [putGo_end, if_neg (by rw [hn]; simp), List.map_append, List.map_append]
        simp only [wsv, wsg, wsh, wsl, cond_true, cond_false, exists_eq_left', Option.some.injEq, Option.isSome_some, List.getElem?_toArray, List.getElem?_cons_zero, List.getElem?_cons_succ, List.length_cons, List.length_nil, List.set_cons_zero, List.set_cons_succ, List.getD_cons_zero, List.getD_cons_succ, Nat.zero_add, Nat.add_zero, Nat.reduceAdd, Nat.reduceLT, Nat.lt_add_one, Nat.zero_lt_succ, decide_true, decide_false, ne_eq, reduceCtorEq, wsh, G6.hb]
        refine grow_key G6 (by rw [List.length_map]; omega) fun kv9 w9 G9 lo9 => ?_
        have hbc9 := low_get lo9 hcc0 (by omega) hbc6
        simp only [wsv, wsg, wsh, wsl, cond_true, cond_false, exists_eq_left', Option.some.injEq, Option.isSome_some, List.getElem?_toArray, List.getElem?_cons_zero, List.getElem?_cons_succ, List.length_cons, List.length_nil, List.set_cons_zero, List.set_cons_succ, List.getD_cons_zero, List.getD_cons_succ, Nat.zero_add, Nat.add_zero, Nat.reduceAdd, Nat.reduceLT, Nat.lt_add_one, Nat.zero_lt_succ, decide_true, decide_false, ne_eq, reduceCtorEq, wsh, G9.hb]
        refine ld_all hbc9 rfl ?_
        refine grow_item G9 (?_ : VRep w0 x _) (by rw [List.length_map]; omega) fun sv10 w10 G10 lo10 => ?_
        · obtain ⟨T, L, i1, i2⟩ := Ix.items
          obtain ⟨T', i3⟩ := Ix.keys
          exact VRep.mk i1 i2 i3 Ix.fits
        exact ⟨sv10, kv9, G10, low_get (lo9.trans lo10) hbb0 (by omega) hbb6, low_new hw6 (by omega) (by omega) (lo9.trans lo10)⟩
      · have hy : (putGo P k x P.length).2 = true := by simpa using hy
        rw [putGo_end, if_pos hy]
        exact ⟨sv6, kv6, G6, hbb6, hw6⟩
    · rintro s gd w9 ⟨sv9, kv9, rfl, G9, hbb9, hw9⟩
      have hO := G9.own hil hins
      refine ld_all G9.hb rfl ?_
      refine ret_agg hbb9 rfl rfl (obj_one hO.one.1 hO.one.2) fun w10 hc10 => ?_
      have hsz := hx.size
      exact hK _ _ base w10 (hw9.new hc10 (by omega)) (by omega) (hO.chg hc10 fun k hk _ e => by omega)
theorem put_ref {v x : JV} {cs ds : List Value} {k : Str} {w : World} {K : Value → World → Prop} (h : VRep w v cs) (hd : VRep w x ds) (hl : v.k = 6 → v.ks.length = v.xs.length) (hfew : v.ks.length ≤ 100000) (hk : k.length ≤ 9223372036854775807)
    (hK : ∀ sv kv base w', Ext w w' → w.heap.size ≤ base → OwnV w w' base (putM v k x) sv kv → K (.agg [i64 6, .bool false, str [], sv, kv].toArray) w') : callF Tryz.prog 62 [.agg cs.toArray, str k, .agg ds.toArray] w K := put_ref0 h hd (Chg.refl _ _) hl hfew hk hK
end
end Go.Proofs.YtcnjpcadejcenaaGreatDoor

namespace Go.Proofs.YtcnjpcadejcenaaGreatDoor
open Go Go.Eng Go.Num
set_option maxRecDepth 100000
section
variable [HX]

theorem text_ref {s : Str} {w : World} {K : Value → World → Prop} (hs : s.length ≤ 9223372036854775807) (hK : ∀ cs w', Ext w w' → VRep w' (.mk 4 false s [] []) cs → K (.agg cs.toArray) w') : callF Tryz.prog 120 [str s] w K := by
  refine W120_ok ?_
  unfold W120
  refine alloc_new fun b w1 hb hz hbb hx => ?_
  simp only [wsv, wsg, wsh, wsl, cond_true, cond_false, exists_eq_left', Option.some.injEq, Option.isSome_some, List.getElem?_toArray, List.getElem?_cons_zero, List.getElem?_cons_succ, List.length_cons, List.length_nil, List.set_cons_zero, List.set_cons_succ, List.getD_cons_zero, List.getD_cons_succ, Nat.zero_add, Nat.add_zero, Nat.reduceAdd, Nat.reduceLT, Nat.lt_add_one, Nat.zero_lt_succ, decide_true, decide_false, ne_eq, reduceCtorEq]
  have h : VRep w (.mk 4 false s [] []) [i64 4, .bool false, str s, .slice none 0 0, .slice none 0 0] := VRep.mk (v := .mk 4 false s [] []) (T1 := 0) (T2 := 0) (SlAt.nil w 0) (by simp [JV.xs, VReps]) (SlAt.nil w 0) ⟨by simp [JV.xs], by simp [JV.ks], by simpa [JV.t] using hs, by simp [JV.ks]⟩
  exact ret_val hbb rfl (by omega) hx h fun w2 hx2 _ h2 => hK _ w2 hx2 h2

/-- a copy in a block of its own -/
theorem copy_new {w : World} {v : JV} {cs : List Value} {K : Value → World → Prop} (h : VRep w v cs) (hK : ∀ a w' sv kv, ValB w' a v sv kv → Ext w w' → K (ptr a) w') :
    allocW VT [(.int .i64 0), (.bool false), (.string (ofL [])), (.slice none 0 0), (.slice none 0 0)] w fun t w1 => stW 5 t (.agg cs.toArray) w1 fun w2 => K t w2 := by
  obtain ⟨sv, kv, T1, T2, L, rfl, h1, h2, h3, h4⟩ := h.out
  refine alloc_new fun a w1 ha hz hb hx => ?_
  refine st_agg_at hb rfl rfl h.all_one fun w2 hz2 hb2 hc2 => ?_
  have hx' := hx.new hc2 (by omega)
  exact hK a w2 sv kv ⟨hb2, ⟨T1, L, h1.ext hx', h2.ext hx'⟩, ⟨T2, h3.ext hx'⟩, h4⟩ hx'

theorem ValB.kcells {w : World} {a : Nat} {v : JV} {sv kv : Value} (h : ValB w a v sv kv) {i : Nat} (hi : i < v.ks.length) : ∃ T b o c fr p, kv = .slice (some ⟨b, o, none⟩) v.ks.length p ∧ w.heap[b]? = some (.cells c T fr) ∧ ∀ m y, v.ks[m]? = some y → c[o + m]? = some (str y) := by
  obtain ⟨T, hks⟩ := h.keys
  obtain ⟨p, cap, rfl, _, _, h3⟩ := hks
  obtain ⟨b, off, c, fr, rfl, hb, hcs⟩ := h3 (fun e => by
    have : v.ks = [] := by simpa using e
    rw [this] at hi; simp at hi)
  refine ⟨T, b, off, c, fr, cap, rfl, hb, fun m y hy => ?_⟩
  rw [hcs m (by simpa using (List.getElem?_eq_some_iff.1 hy).1)]
  simp [hy]
theorem bytesLess_ne {a b : Str} (h : Op.bytesLess a b = true) : a ≠ b := by rintro rfl; rw [less_irr] at h; cases h
theorem any_take {α : Type} {p : α → Bool} {xs : List α} {i : Nat} {x : α} (hi : xs[i]? = some x) : (xs.take (i + 1)).any p = ((xs.take i).any p || p x) := by
  rw [List.take_add_one, hi]; simp
theorem any_yes {α : Type} {p : α → Bool} {xs : List α} {i : Nat} {x : α} (hi : xs[i]? = some x) (h : p x = true) : xs.any p = true := List.any_eq_true.2 ⟨x, List.mem_of_getElem? hi, h⟩
end
end Go.Proofs.YtcnjpcadejcenaaGreatDoor

namespace Go.Proofs.YtcnjpcadejcenaaGreatDoor
open Go Go.Eng
set_option maxRecDepth 100000
variable [HX]

/- purlin_diff.Keys -/
def plan124 : Plan := { js := [(27, ⟨[6], [6, 8, 9, 10, 11, 12], 33⟩), (36004, ⟨[60], [], 58⟩), (36010, ⟨[55], [], 52⟩), (20, ⟨[6, 32], [6, 8, 9, 10, 11, 12], 32⟩), (4004, ⟨[19], [], 17⟩)], ds := [] }
def W124 (v0 v1 : Value) (w : World) (K : Value → World → Prop) : Prop :=
  boxW 26 v0 w fun t2 w1 =>
  boxW 26 v1 w1 fun t3 w2 =>
  fldW 0 t2 fun t13 =>
  ldW false 1 t13 w2 fun t14 =>
  binW .neq t14 (.int .i64 6) fun t15 =>
  GdW (isB t15 false) [undef] w2 (fun J3 =>
    fldW 0 t3 fun t17 =>
    ldW false 1 t17 w2 fun t18 =>
    binW .neq t18 (.int .i64 6) fun t19 =>
    J3 [t19] w2)
  fun s3 _ w4 =>
  pickW t15 (.bool true) (s3.getD 0 undef) fun t20 =>
  condW t20 (
    K (.slice none 0 0) w4) (
    fldW 4 t2 fun t21 =>
    ldW false 1 t21 w4 fun t22 =>
    fldW 4 t3 fun t23 =>
    ldW false 1 t23 w4 fun t24 =>
    bslW 24 2 [(.slice none 0 0), (.slice none 0 0)] [(0, 1, t22), (1, 1, t24)] w4 fun t25 w5 =>
    callF Tryz.prog 166 [t25] w5 fun t26 w6 =>
    callF Tryz.prog 167 [t26] w6 fun t28 w7 =>
    callF Tryz.prog 168 [t26] w7 fun t30 w8 =>
    lenlW t30 fun t31 =>
    LoopW [(.slice none 0 0), (.int .i64 0)] w8 fun s9 _ w10 L9 =>
      binW .lss (s9.getD 1 undef) t31 fun t33 =>
      condW t33 (
        JoinW (fun J11 =>
          ixaW none 1 t30 (s9.getD 1 undef) fun t34 =>
          ldW false 1 t34 w10 fun t35 =>
          ldW true 5 t2 w10 fun t37 =>
          callF Tryz.prog 162 [t37, t35] w10 fun t39 w12 =>
          extW 0 t39 fun t40 =>
          extW 1 t39 fun t41 =>
          allocW 26 [(.int .i64 0), (.bool false), (.string (ofL [])), (.slice none 0 0), (.slice none 0 0)] w12 fun t9 w13 =>
          stW 5 t9 t40 w13 fun w14 =>
          ldW true 5 t3 w14 fun t43 =>
          callF Tryz.prog 162 [t43, t35] w14 fun t45 w15 =>
          extW 0 t45 fun t46 =>
          extW 1 t45 fun t47 =>
          allocW 26 [(.int .i64 0), (.bool false), (.string (ofL [])), (.slice none 0 0), (.slice none 0 0)] w15 fun t11 w16 =>
          stW 5 t11 t46 w16 fun w17 =>
          eqW .bool true t41 t47 fun t50 =>
          GdW (isB t50 false) [undef] w17 (fun J18 =>
            ldW true 5 t9 w17 fun t52 =>
            ldW true 5 t11 w17 fun t53 =>
            callF Tryz.prog 169 [t52, t53] w17 fun t54 w19 =>
            unW .not t54 fun t55 =>
            J18 [t55] w19)
          fun s18 _ w20 =>
          pickW t50 (.bool true) (s18.getD 0 undef) fun t56 =>
          GdW (isB t56 false) [undef] w20 (fun J21 =>
            ldW true 5 t9 w20 fun t58 =>
            callF Tryz.prog 43 [t58] w20 fun t59 w22 =>
            unW .not t59 fun t60 =>
            J21 [t60] w22)
          fun s21 _ w23 =>
          pickW t56 (.bool true) (s21.getD 0 undef) fun t61 =>
          condW t61 (
            bslW 9 1 [(.string (ofL []))] [(0, 1, t35)] w23 fun t64 w24 =>
            semE Tryz.prog (Builtin.append_ #[24, 24] 24 #[(s9.getD 0 undef), t64]) w24 fun t65 w25 =>
            J11 [t65] w25) (
            J11 [(s9.getD 0 undef)] w23))
        fun s11 _ w26 =>
        binW .add (s9.getD 1 undef) (.int .i64 1) fun t66 =>
        L9 [(s11.getD 0 undef), t66] w26) (
        K (s9.getD 0 undef) w10))
theorem W124_eq (v0 v1 : Value) (w : World) (K : Value → World → Prop) : funW Tryz.prog Tryz.f124 plan124 [v0, v1] w K = W124 v0 v1 w K := by kernel_rfl
theorem W124_chk : chkFun Tryz.prog Tryz.f124 plan124 2 = true := by kernel_rfl
theorem W124_ok {v0 v1 : Value} {w : World} {K : Value → World → Prop} (h : W124 v0 v1 w K) : callF Tryz.prog 124 [v0, v1] w K :=
  tie Tryz.prog 124 Tryz.f124 plan124 [v0, v1] w K 2 (W124 v0 v1 w K) rfl mixed Tryz.func124 W124_chk (W124_eq v0 v1 w K) Tryz.call124 h

/- slices.ContainsFunc___string_string_ -/
def plan76 : Plan := { js := [], ds := [] }
def W76 (v0 v1 : Value) (w : World) (K : Value → World → Prop) : Prop :=
  callF Tryz.prog 136 [v0, v1] w fun t7 w1 =>
  binW .geq t7 (.int .i64 0) fun t8 =>
  K t8 w1
theorem W76_eq (v0 v1 : Value) (w : World) (K : Value → World → Prop) : funW Tryz.prog Tryz.f76 plan76 [v0, v1] w K = W76 v0 v1 w K := by kernel_rfl
theorem W76_chk : chkFun Tryz.prog Tryz.f76 plan76 2 = true := by kernel_rfl
theorem W76_ok {v0 v1 : Value} {w : World} {K : Value → World → Prop} (h : W76 v0 v1 w K) : callF Tryz.prog 76 [v0, v1] w K :=
  tie Tryz.prog 76 Tryz.f76 plan76 [v0, v1] w K 2 (W76 v0 v1 w K) rfl mixed Tryz.func76 W76_chk (W76_eq v0 v1 w K) Tryz.call76 h

/- strings.HasPrefix -/
def plan107 : Plan := { js := [], ds := [] }
def W107 (v0 v1 : Value) (w : World) (K : Value → World → Prop) : Prop :=
  callF Tryz.prog 156 [v0, v1] w fun t7 w1 =>
  K t7 w1
theorem W107_eq (v0 v1 : Value) (w : World) (K : Value → World → Prop) : funW Tryz.prog Tryz.f107 plan107 [v0, v1] w K = W107 v0 v1 w K := by kernel_rfl
theorem W107_chk : chkFun Tryz.prog Tryz.f107 plan107 2 = true := by kernel_rfl
theorem W107_ok {v0 v1 : Value} {w : World} {K : Value → World → Prop} (h : W107 v0 v1 w K) : callF Tryz.prog 107 [v0, v1] w K :=
  tie Tryz.prog 107 Tryz.f107 plan107 [v0, v1] w K 2 (W107 v0 v1 w K) rfl mixed Tryz.func107 W107_chk (W107_eq v0 v1 w K) Tryz.call107 h

/- internal_stringslite.HasPrefix -/
def plan156 : Plan := { js := [(3008, ⟨[16], [], 11⟩)], ds := [] }
def W156 (v0 v1 : Value) (w : World) (K : Value → World → Prop) : Prop :=
  lensW v0 fun t6 =>
  lensW v1 fun t8 =>
  binW .geq t6 t8 fun t9 =>
  GdW (isB t9 true) [undef] w (fun J1 =>
    lensW v1 fun t13 =>
    slsW v0 none (some t13) fun t14 =>
    binW .eql t14 v1 fun t16 =>
    J1 [t16] w)
  fun s1 _ w2 =>
  pickW t9 (s1.getD 0 undef) (.bool false) fun t17 =>
  K t17 w2
theorem W156_eq (v0 v1 : Value) (w : World) (K : Value → World → Prop) : funW Tryz.prog Tryz.f156 plan156 [v0, v1] w K = W156 v0 v1 w K := by kernel_rfl
theorem W156_chk : chkFun Tryz.prog Tryz.f156 plan156 2 = true := by kernel_rfl
theorem W156_ok {v0 v1 : Value} {w : World} {K : Value → World → Prop} (h : W156 v0 v1 w K) : callF Tryz.prog 156 [v0, v1] w K :=
  tie Tryz.prog 156 Tryz.f156 plan156 [v0, v1] w K 2 (W156 v0 v1 w K) rfl mixed Tryz.func156 W156_chk (W156_eq v0 v1 w K) Tryz.call156 h

/- slices.Concat___string_string_ -/
def plan166 : Plan := { js := [(33, ⟨[6, 27], [6, 8], 27⟩), (15, ⟨[3], [3, 5], 12⟩), (8, ⟨[3, 11], [3, 5], 11⟩)], ds := [] }
def W166 (v0 : Value) (w : World) (K : Value → World → Prop) : Prop :=
  lenlW v0 fun t10 =>
  LoopW [(.int .i64 0), (.int .i64 0)] w fun s1 _ w2 L1 =>
    binW .lss (s1.getD 1 undef) t10 fun t12 =>
    condW t12 (
      JoinW (fun J3 =>
        ixaW none 1 v0 (s1.getD 1 undef) fun t13 =>
        ldW false 1 t13 w2 fun t14 =>
        lenlW t14 fun t17 =>
        binW .add (s1.getD 0 undef) t17 fun t18 =>
        binW .lss t18 (.int .i64 0) fun t20 =>
        condW t20 (
          pncW (.iface 9 (.string (ofL [108, 101, 110, 32, 111, 117, 116, 32, 111, 102, 32, 114, 97, 110, 103, 101]))) w2) (
          J3 [t18] w2))
      fun s3 _ w4 =>
      binW .add (s1.getD 1 undef) (.int .i64 1) fun t22 =>
      L1 [(s3.getD 0 undef), t22] w4) (
      callF Tryz.prog 193 [(.slice none 0 0), (s1.getD 0 undef)] w2 fun t24 w5 =>
      lenlW v0 fun t26 =>
      LoopW [t24, (.int .i64 0)] w5 fun s6 _ w7 L6 =>
        binW .lss (s6.getD 1 undef) t26 fun t28 =>
        condW t28 (
          ixaW none 1 v0 (s6.getD 1 undef) fun t29 =>
          ldW false 1 t29 w7 fun t30 =>
          semE Tryz.prog (Builtin.append_ #[24, 24] 24 #[(s6.getD 0 undef), t30]) w7 fun t33 w8 =>
          binW .add (s6.getD 1 undef) (.int .i64 1) fun t34 =>
          L6 [t33, t34] w8) (
          K (s6.getD 0 undef) w7))
theorem W166_eq (v0 : Value) (w : World) (K : Value → World → Prop) : funW Tryz.prog Tryz.f166 plan166 [v0] w K = W166 v0 w K := by kernel_rfl
theorem W166_chk : chkFun Tryz.prog Tryz.f166 plan166 1 = true := by kernel_rfl
theorem W166_ok {v0 : Value} {w : World} {K : Value → World → Prop} (h : W166 v0 w K) : callF Tryz.prog 166 [v0] w K :=
  tie Tryz.prog 166 Tryz.f166 plan166 [v0] w K 1 (W166 v0 w K) rfl mixed Tryz.func166 W166_chk (W166_eq v0 w K) Tryz.call166 h

/- slices.Compact___string_string_ -/
def plan168 : Plan := { js := [(39, ⟨[3], [3], 6⟩), (32, ⟨[3, 5], [3], 5⟩), (14, ⟨[3], [], 1⟩)], ds := [(42, ⟨[0, 1, 2, 3, 4, 5, 6, 7, 8, 9], [[], [], [0, 1], [0, 1, 2], [], [], [5], [4, 5, 6], [4, 5, 6, 7], [0, 1, 2, 3, 4, 5, 6, 7, 8]]⟩), (24, ⟨[0, 1, 2, 3, 4, 5, 6, 7, 8, 9], [[], [], [0, 1], [0, 1, 2], [], [], [5], [4, 5, 6], [4, 5, 6, 7], [0, 1, 2, 3, 4, 5, 6, 7, 8]]⟩)] }
def W168 (v0 : Value) (w : World) (K : Value → World → Prop) : Prop :=
  lenlW v0 fun t7 =>
  binW .lss t7 (.int .i64 2) fun t8 =>
  condW t8 (
    K v0 w) (
    LoopW [(.int .i64 1)] w fun s1 _ w2 L1 =>
      lenlW v0 fun t12 =>
      binW .lss (s1.getD 0 undef) t12 fun t13 =>
      condW t13 (
        ixaW none 1 v0 (s1.getD 0 undef) fun t18 =>
        ldW false 1 t18 w2.drew fun t19 =>
        binW .sub (s1.getD 0 undef) (.int .i64 1) fun t22 =>
        ixaW none 1 v0 t22 fun t23 =>
        ldW false 1 t23 w2.drew fun t24 =>
        binW .eql t19 t24 fun t25 =>
        condW t25 (
          sllW 1 v0 (some (s1.getD 0 undef)) none none fun t28 =>
          LoopW [(s1.getD 0 undef), (.int .i64 1)] w2.drew fun s3 _ w4 L3 =>
            lenlW t28 fun t31 =>
            binW .lss (s3.getD 1 undef) t31 fun t32 =>
            condW t32 (
              JoinW (fun J5 =>
                ixaW none 1 t28 (s3.getD 1 undef) fun t37 =>
                ldW false 1 t37 w4.drew fun t38 =>
                binW .sub (s3.getD 1 undef) (.int .i64 1) fun t41 =>
                ixaW none 1 t28 t41 fun t42 =>
                ldW false 1 t42 w4.drew fun t43 =>
                binW .neq t38 t43 fun t44 =>
                condW t44 (
                  ixaW none 1 t28 (s3.getD 1 undef) fun t49 =>
                  ldW false 1 t49 w4.drew fun t50 =>
                  ixaW none 1 v0 (s3.getD 0 undef) fun t51 =>
                  stW 1 t51 t50 w4.drew fun w6 =>
                  binW .add (s3.getD 0 undef) (.int .i64 1) fun t53 =>
                  J5 [t53] w6) (
                  J5 [(s3.getD 0 undef)] w4.drew))
              fun s5 _ w7 =>
              binW .add (s3.getD 1 undef) (.int .i64 1) fun t34 =>
              L3 [(s5.getD 0 undef), t34] w7) (
              sllW 1 v0 (some (s3.getD 0 undef)) none none fun t56 =>
              semE Tryz.prog (Builtin.clear_ #[24] 0 #[t56]) w4 fun _ w8 =>
              sllW 1 v0 none (some (s3.getD 0 undef)) none fun t59 =>
              K t59 w8)) (
          binW .add (s1.getD 0 undef) (.int .i64 1) fun t15 =>
          L1 [t15] w2.drew)) (
        K v0 w2))
theorem W168_eq (v0 : Value) (w : World) (K : Value → World → Prop) : funW Tryz.prog Tryz.f168 plan168 [v0] w K = W168 v0 w K := by kernel_rfl
theorem W168_chk : chkFun Tryz.prog Tryz.f168 plan168 1 = true := by kernel_rfl
theorem W168_ok {v0 : Value} {w : World} {K : Value → World → Prop} (h : W168 v0 w K) : callF Tryz.prog 168 [v0] w K :=
  tie Tryz.prog 168 Tryz.f168 plan168 [v0] w K 1 (W168 v0 w K) rfl mixed Tryz.func168 W168_chk (W168_eq v0 w K) Tryz.call168 h

/- purlin_value.Get -/
def plan162 : Plan := { js := [(6004, ⟨[19], [], 17⟩)], ds := [] }
def W162 (v0 v1 : Value) (w : World) (K : Value → World → Prop) : Prop :=
  boxW 26 v0 w fun t2 w1 =>
  allocW 26 [(.int .i64 0), (.bool false), (.string (ofL [])), (.slice none 0 0), (.slice none 0 0)] w1 fun t4 w2 =>
  fldW 4 t2 fun t9 =>
  ldW false 1 t9 w2 fun t10 =>
  callF Tryz.prog 188 [t10, v1] w2 fun t12 w3 =>
  extW 0 t12 fun t13 =>
  extW 1 t12 fun t14 =>
  GdW (isB t14 true) [undef] w3 (fun J4 =>
    fldW 0 t2 fun t17 =>
    ldW false 1 t17 w3 fun t18 =>
    binW .eql t18 (.int .i64 6) fun t19 =>
    J4 [t19] w3)
  fun s4 _ w5 =>
  pickW t14 (s4.getD 0 undef) (.bool false) fun t20 =>
  condW t20 (
    fldW 3 t2 fun t21 =>
    ldW false 1 t21 w5 fun t22 =>
    ixaW none 5 t22 t13 fun t24 =>
    ldW true 5 t24 w5 fun t25 =>
    callF Tryz.prog 189 [t25] w5 fun t26 w6 =>
    stW 5 t4 t26 w6 fun w7 =>
    ldW true 5 t4 w7 fun r8 =>
    K (.tuple #[r8, (.bool true)]) w7) (
    putW [(.int .i64 0), (.bool false), (.string (ofL [])), (.slice none 0 0), (.slice none 0 0)] [] fun c9 =>
    stW 5 t4 (.agg c9.toArray) w5 fun w10 =>
    ldW true 5 t4 w10 fun r11 =>
    K (.tuple #[r11, (.bool false)]) w10)
theorem W162_eq (v0 v1 : Value) (w : World) (K : Value → World → Prop) : funW Tryz.prog Tryz.f162 plan162 [v0, v1] w K = W162 v0 v1 w K := by kernel_rfl
theorem W162_chk : chkFun Tryz.prog Tryz.f162 plan162 2 = true := by kernel_rfl
theorem W162_ok {v0 v1 : Value} {w : World} {K : Value → World → Prop} (h : W162 v0 v1 w K) : callF Tryz.prog 162 [v0, v1] w K :=
  tie Tryz.prog 162 Tryz.f162 plan162 [v0, v1] w K 2 (W162 v0 v1 w K) rfl mixed Tryz.func162 W162_chk (W162_eq v0 v1 w K) Tryz.call162 h

/- purlin_value.Equal -/
def plan169 : Plan := { js := [], ds := [] }
def W169 (v0 v1 : Value) (w : World) (K : Value → World → Prop) : Prop :=
  boxW 26 v0 w fun t2 w1 =>
  boxW 26 v1 w1 fun t3 w2 =>
  ldW true 5 t2 w2 fun t5 =>
  ldW true 5 t3 w2 fun t6 =>
  callF Tryz.prog 195 [t5, t6] w2 fun t7 w3 =>
  binW .eql t7 (.int .i64 0) fun t8 =>
  K t8 w3
theorem W169_eq (v0 v1 : Value) (w : World) (K : Value → World → Prop) : funW Tryz.prog Tryz.f169 plan169 [v0, v1] w K = W169 v0 v1 w K := by kernel_rfl
theorem W169_chk : chkFun Tryz.prog Tryz.f169 plan169 2 = true := by kernel_rfl
theorem W169_ok {v0 v1 : Value} {w : World} {K : Value → World → Prop} (h : W169 v0 v1 w K) : callF Tryz.prog 169 [v0, v1] w K :=
  tie Tryz.prog 169 Tryz.f169 plan169 [v0, v1] w K 2 (W169 v0 v1 w K) rfl mixed Tryz.func169 W169_chk (W169_eq v0 v1 w K) Tryz.call169 h

/- purlin_value.Known -/
def plan43 : Plan := { js := [(3006, ⟨[10], [], 7⟩)], ds := [] }
def W43 (v0 : Value) (w : World) (K : Value → World → Prop) : Prop :=
  boxW 26 v0 w fun t1 w1 =>
  fldW 0 t1 fun t3 =>
  ldW false 1 t3 w1 fun t4 =>
  binW .neq t4 (.int .i64 1) fun t5 =>
  GdW (isB t5 true) [undef] w1 (fun J2 =>
    fldW 3 t1 fun t7 =>
    ldW false 1 t7 w1 fun t8 =>
    callF Tryz.prog 99 [t8, (.func (.func 100) #[] #[])] w1 fun t9 w3 =>
    unW .not t9 fun t10 =>
    J2 [t10] w3)
  fun s2 _ w4 =>
  pickW t5 (s2.getD 0 undef) (.bool false) fun t11 =>
  K t11 w4
theorem W43_eq (v0 : Value) (w : World) (K : Value → World → Prop) : funW Tryz.prog Tryz.f43 plan43 [v0] w K = W43 v0 w K := by kernel_rfl
theorem W43_chk : chkFun Tryz.prog Tryz.f43 plan43 1 = true := by kernel_rfl
theorem W43_ok {v0 : Value} {w : World} {K : Value → World → Prop} (h : W43 v0 w K) : callF Tryz.prog 43 [v0] w K :=
  tie Tryz.prog 43 Tryz.f43 plan43 [v0] w K 1 (W43 v0 w K) rfl mixed Tryz.func43 W43_chk (W43_eq v0 w K) Tryz.call43 h

/- slices.IndexFunc___string_string_ -/
def plan136 : Plan := { js := [(6, ⟨[8], [4, 5], 8⟩)], ds := [] }
def W136 (v0 v1 : Value) (w : World) (K : Value → World → Prop) : Prop :=
  lenlW v0 fun t7 =>
  LoopW [(.int .i64 0)] w fun s1 _ w2 L1 =>
    binW .lss (s1.getD 0 undef) t7 fun t9 =>
    condW t9 (
      ixaW none 1 v0 (s1.getD 0 undef) fun t14 =>
      ldW false 1 t14 w2 fun t15 =>
      callV Tryz.prog v1 [t15] w2 fun t16 w3 =>
      condW t16 (
        K (s1.getD 0 undef) w3) (
        binW .add (s1.getD 0 undef) (.int .i64 1) fun t18 =>
        L1 [t18] w3)) (
      K (.int .i64 (-1)) w2)
theorem W136_eq (v0 v1 : Value) (w : World) (K : Value → World → Prop) : funW Tryz.prog Tryz.f136 plan136 [v0, v1] w K = W136 v0 v1 w K := by kernel_rfl
theorem W136_chk : chkFun Tryz.prog Tryz.f136 plan136 2 = true := by kernel_rfl
theorem W136_ok {v0 v1 : Value} {w : World} {K : Value → World → Prop} (h : W136 v0 v1 w K) : callF Tryz.prog 136 [v0, v1] w K :=
  tie Tryz.prog 136 Tryz.f136 plan136 [v0, v1] w K 2 (W136 v0 v1 w K) rfl mixed Tryz.func136 W136_chk (W136_eq v0 v1 w K) Tryz.call136 h

/- slices.Grow___string_string_ -/
def plan193 : Plan := { js := [(2, ⟨[], [], 2⟩)], ds := [] }
def W193 (v0 v1 : Value) (w : World) (K : Value → World → Prop) : Prop :=
  JoinW (fun J1 =>
    binW .lss v1 (.int .i64 0) fun t6 =>
    condW t6 (
      pncW (.iface 9 (.string (ofL [99, 97, 110, 110, 111, 116, 32, 98, 101, 32, 110, 101, 103, 97, 116, 105, 118, 101]))) w) (
      J1 [] w))
  fun s1 _ w2 =>
  capW v0 fun t10 =>
  lenlW v0 fun t12 =>
  binW .sub t10 t12 fun t13 =>
  binW .sub v1 t13 fun t14 =>
  binW .gtr t14 (.int .i64 0) fun t16 =>
  condW t16 (
    capW v0 fun t19 =>
    sllW 1 v0 none (some t19) none fun t20 =>
    semE Tryz.prog (Builtin.append_ #[24, 3] 24 #[t20, t14]) w2 fun t22 w3 =>
    lenlW v0 fun t24 =>
    sllW 1 t22 none (some t24) none fun t25 =>
    K t25 w3) (
    K v0 w2)
theorem W193_eq (v0 v1 : Value) (w : World) (K : Value → World → Prop) : funW Tryz.prog Tryz.f193 plan193 [v0, v1] w K = W193 v0 v1 w K := by kernel_rfl
theorem W193_chk : chkFun Tryz.prog Tryz.f193 plan193 2 = true := by kernel_rfl
theorem W193_ok {v0 v1 : Value} {w : World} {K : Value → World → Prop} (h : W193 v0 v1 w K) : callF Tryz.prog 193 [v0, v1] w K :=
  tie Tryz.prog 193 Tryz.f193 plan193 [v0, v1] w K 2 (W193 v0 v1 w K) rfl mixed Tryz.func193 W193_chk (W193_eq v0 v1 w K) Tryz.call193 h

/- slices.BinarySearch___string_string_ -/
def plan188 : Plan := { js := [(24004, ⟨[52], [], 36⟩), (24005, ⟨[51], [], 43⟩), (24007, ⟨[50], [], 49⟩), (24013, ⟨[48], [], 43⟩), (24020, ⟨[42], [], 36⟩), (8, ⟨[7, 8], [], 7⟩)], ds := [] }
def W188 (v0 v1 : Value) (w : World) (K : Value → World → Prop) : Prop :=
  lenlW v0 fun t11 =>
  LoopW [(.int .i64 0), t11] w fun s1 _ w2 L1 =>
    binW .lss (s1.getD 0 undef) (s1.getD 1 undef) fun t15 =>
    condW t15 (
      binW .add (s1.getD 0 undef) (s1.getD 1 undef) fun t18 =>
      cvtW .u64 t18 fun t19 =>
      binW .shr t19 (.int .u64 1) fun t20 =>
      cvtW .i64 t20 fun t21 =>
      ixaW none 1 v0 t21 fun t24 =>
      ldW false 1 t24 w2 fun t25 =>
      callF Tryz.prog 226 [t25, v1] w2 fun t27 w3 =>
      condW t27 (
        binW .add t21 (.int .i64 1) fun t29 =>
        L1 [t29, (s1.getD 1 undef)] w3) (
        L1 [(s1.getD 0 undef), t21] w3)) (
      binW .lss (s1.getD 0 undef) t11 fun t34 =>
      GdW (isB t34 true) [undef] w2 (fun J4 =>
        ixaW none 1 v0 (s1.getD 0 undef) fun t38 =>
        ldW false 1 t38 w2 fun t39 =>
        binW .eql t39 v1 fun t41 =>
        J4 [t41] w2)
      fun s4 _ w5 =>
      GdW (isB (s4.getD 0 undef) false) [undef] w5 (fun J6 =>
        ixaW none 1 v0 (s1.getD 0 undef) fun t45 =>
        ldW false 1 t45 w5 fun t46 =>
        callF Tryz.prog 227 [t46] w5 fun t47 w7 =>
        J6 [t47] w7)
      fun s6 _ w8 =>
      GdW (isB (s6.getD 0 undef) true) [undef] w8 (fun J9 =>
        callF Tryz.prog 227 [v1] w8 fun t50 w10 =>
        J9 [t50] w10)
      fun s9 _ w11 =>
      GdW (isB (s4.getD 0 undef) false) [undef] w11 (fun J12 =>
        pickW (s6.getD 0 undef) (s9.getD 0 undef) (.bool false) fun t51 =>
        J12 [t51] w11)
      fun s12 _ w13 =>
      GdW (isB t34 true) [undef] w13 (fun J14 =>
        pickW (s4.getD 0 undef) (.bool true) (s12.getD 0 undef) fun t52 =>
        J14 [t52] w13)
      fun s14 _ w15 =>
      pickW t34 (s14.getD 0 undef) (.bool false) fun t53 =>
      K (.tuple #[(s1.getD 0 undef), t53]) w15)
theorem W188_eq (v0 v1 : Value) (w : World) (K : Value → World → Prop) : funW Tryz.prog Tryz.f188 plan188 [v0, v1] w K = W188 v0 v1 w K := by kernel_rfl
theorem W188_chk : chkFun Tryz.prog Tryz.f188 plan188 2 = true := by kernel_rfl
theorem W188_ok {v0 v1 : Value} {w : World} {K : Value → World → Prop} (h : W188 v0 v1 w K) : callF Tryz.prog 188 [v0, v1] w K :=
  tie Tryz.prog 188 Tryz.f188 plan188 [v0, v1] w K 2 (W188 v0 v1 w K) rfl mixed Tryz.func188 W188_chk (W188_eq v0 v1 w K) Tryz.call188 h

/- purlin_value.Clone -/
def plan189 : Plan := { js := [], ds := [(3, ⟨[0, 1, 3, 4, 6, 8], [[], [0], [0, 1], [], [3], [0, 1, 2, 3, 4], [0, 1, 2, 3, 4], [0, 1, 2, 3, 4, 5, 6], [0, 1, 2, 3, 4, 5, 6, 7], [0, 1, 2, 3, 4, 5, 6, 7, 8]]⟩)] }
def W189 (v0 : Value) (w : World) (K : Value → World → Prop) : Prop :=
  boxW 26 v0 w fun t1 w1 =>
  allocW 26 [(.int .i64 0), (.bool false), (.string (ofL [])), (.slice none 0 0), (.slice none 0 0)] w1 fun t2 w2 =>
  fldW 4 t1 fun t3 =>
  ldW false 1 t3 w2.drew fun t4 =>
  fldW 3 t1 fun t6 =>
  ldW false 1 t6 w2.drew fun t7 =>
  callF Tryz.prog 228 [t4] w2.drew fun t5 w3 =>
  (ldW false 1 t6 w3 fun x => x = t7) ∧
  fldW 4 t1 fun t9 =>
  callF Tryz.prog 229 [t7] w3 fun t8 w4 =>
  stW 1 t9 t5 w4 fun w5 =>
  fldW 3 t1 fun t10 =>
  stW 1 t10 t8 w5 fun w6 =>
  ldW true 5 t1 w6 fun t11 =>
  stW 5 t2 t11 w6 fun w7 =>
  ldW true 5 t2 w7 fun r8 =>
  K r8 w7
theorem W189_eq (v0 : Value) (w : World) (K : Value → World → Prop) : funW Tryz.prog Tryz.f189 plan189 [v0] w K = W189 v0 w K := by kernel_rfl
theorem W189_chk : chkFun Tryz.prog Tryz.f189 plan189 1 = true := by kernel_rfl
theorem W189_ok {v0 : Value} {w : World} {K : Value → World → Prop} (h : W189 v0 w K) : callF Tryz.prog 189 [v0] w K :=
  tie Tryz.prog 189 Tryz.f189 plan189 [v0] w K 1 (W189 v0 w K) rfl mixed Tryz.func189 W189_chk (W189_eq v0 w K) Tryz.call189 h

/- purlin_value.Cmp -/
def plan195 : Plan := { js := [], ds := [(36, ⟨[0, 1, 2, 3, 5, 6, 7, 8, 12], [[], [0], [], [2], [0, 1, 2, 3], [], [5], [], [7], [0, 1, 2, 3, 4, 5, 6, 7, 8], [0, 1, 2, 3, 4, 5, 6, 7, 8, 9], [0, 1, 2, 3, 4, 5, 6, 7, 8, 9, 10], [0, 1, 2, 3, 4, 5, 6, 7, 8, 9, 10, 11]]⟩), (20, ⟨[0, 1, 3, 4, 7], [[], [0], [0, 1], [], [3], [0, 1, 2, 3, 4], [0, 1, 2, 3, 4, 5], [0, 1, 2, 3, 4, 5, 6]]⟩)] }
def W195 (v0 v1 : Value) (w : World) (K : Value → World → Prop) : Prop :=
  boxW 26 v0 w fun t2 w1 =>
  boxW 26 v1 w1 fun t3 w2 =>
  fldW 0 t2 fun t6 =>
  ldW false 1 t6 w2 fun t7 =>
  fldW 0 t3 fun t8 =>
  ldW false 1 t8 w2 fun t9 =>
  callF Tryz.prog 240 [t7, t9] w2 fun t10 w3 =>
  binW .neq t10 (.int .i64 0) fun t12 =>
  condW t12 (
    K t10 w3) (
    fldW 0 t2 fun t14 =>
    ldW false 1 t14 w3 fun t15 =>
    binW .eql t15 (.int .i64 2) fun t17 =>
    condW t17 (
      fldW 1 t2 fun t18 =>
      ldW false 1 t18 w3.drew fun t19 =>
      fldW 1 t3 fun t21 =>
      ldW false 1 t21 w3.drew fun t22 =>
      callF Tryz.prog 241 [t19] w3.drew fun t20 w4 =>
      (ldW false 1 t21 w4 fun x => x = t22) ∧
      callF Tryz.prog 241 [t22] w4 fun t23 w5 =>
      callF Tryz.prog 93 [t20, t23] w5 fun t24 w6 =>
      K t24 w6) (
      binW .eql t15 (.int .i64 3) fun t26 =>
      condW t26 (
        fldW 2 t2 fun t27 =>
        ldW false 1 t27 w3 fun t28 =>
        fldW 2 t3 fun t29 =>
        ldW false 1 t29 w3 fun t30 =>
        callF Tryz.prog 242 [t28, t30] w3 fun t31 w7 =>
        K t31 w7) (
        binW .eql t15 (.int .i64 4) fun t33 =>
        condW t33 (
          fldW 2 t2 fun t34 =>
          ldW false 1 t34 w3 fun t35 =>
          fldW 2 t3 fun t36 =>
          ldW false 1 t36 w3 fun t37 =>
          callF Tryz.prog 243 [t35, t37] w3 fun t38 w8 =>
          K t38 w8) (
          fldW 4 t2 fun t39 =>
          ldW false 1 t39 w3.drew fun t40 =>
          fldW 4 t3 fun t41 =>
          ldW false 1 t41 w3.drew fun t42 =>
          fldW 3 t2 fun t44 =>
          ldW false 1 t44 w3.drew fun t45 =>
          fldW 3 t3 fun t46 =>
          ldW false 1 t46 w3.drew fun t47 =>
          callF Tryz.prog 91 [t40, t42] w3.drew fun t43 w9 =>
          (ldW false 1 t46 w9 fun x => x = t47) ∧
          (ldW false 1 t44 w9 fun x => x = t45) ∧
          callF Tryz.prog 244 [t45, t47, (.func (.func 195) #[] #[])] w9 fun t48 w10 =>
          bslW 3 2 [(.int .i64 0), (.int .i64 0)] [(0, 1, t43), (1, 1, t48)] w10 fun t49 w11 =>
          callF Tryz.prog 90 [t49] w11 fun t50 w12 =>
          K t50 w12))))
theorem W195_eq (v0 v1 : Value) (w : World) (K : Value → World → Prop) : funW Tryz.prog Tryz.f195 plan195 [v0, v1] w K = W195 v0 v1 w K := by kernel_rfl
theorem W195_chk : chkFun Tryz.prog Tryz.f195 plan195 2 = true := by kernel_rfl
theorem W195_ok {v0 v1 : Value} {w : World} {K : Value → World → Prop} (h : W195 v0 v1 w K) : callF Tryz.prog 195 [v0, v1] w K :=
  tie Tryz.prog 195 Tryz.f195 plan195 [v0, v1] w K 2 (W195 v0 v1 w K) rfl mixed Tryz.func195 W195_chk (W195_eq v0 v1 w K) Tryz.call195 h

/- slices.ContainsFunc___purlin_api.Value_purlin_api.Value_ -/
def plan99 : Plan := { js := [], ds := [] }
def W99 (v0 v1 : Value) (w : World) (K : Value → World → Prop) : Prop :=
  callF Tryz.prog 150 [v0, v1] w fun t7 w1 =>
  binW .geq t7 (.int .i64 0) fun t8 =>
  K t8 w1
theorem W99_eq (v0 v1 : Value) (w : World) (K : Value → World → Prop) : funW Tryz.prog Tryz.f99 plan99 [v0, v1] w K = W99 v0 v1 w K := by kernel_rfl
theorem W99_chk : chkFun Tryz.prog Tryz.f99 plan99 2 = true := by kernel_rfl
theorem W99_ok {v0 v1 : Value} {w : World} {K : Value → World → Prop} (h : W99 v0 v1 w K) : callF Tryz.prog 99 [v0, v1] w K :=
  tie Tryz.prog 99 Tryz.f99 plan99 [v0, v1] w K 2 (W99 v0 v1 w K) rfl mixed Tryz.func99 W99_chk (W99_eq v0 v1 w K) Tryz.call99 h

/- purlin_value.Known_1 -/
def plan100 : Plan := { js := [], ds := [] }
def W100 (v0 : Value) (w : World) (K : Value → World → Prop) : Prop :=
  boxW 26 v0 w fun t1 w1 =>
  ldW true 5 t1 w1 fun t3 =>
  callF Tryz.prog 43 [t3] w1 fun t4 w2 =>
  unW .not t4 fun t5 =>
  K t5 w2
theorem W100_eq (v0 : Value) (w : World) (K : Value → World → Prop) : funW Tryz.prog Tryz.f100 plan100 [v0] w K = W100 v0 w K := by kernel_rfl
theorem W100_chk : chkFun Tryz.prog Tryz.f100 plan100 1 = true := by kernel_rfl
theorem W100_ok {v0 : Value} {w : World} {K : Value → World → Prop} (h : W100 v0 w K) : callF Tryz.prog 100 [v0] w K :=
  tie Tryz.prog 100 Tryz.f100 plan100 [v0] w K 1 (W100 v0 w K) rfl mixed Tryz.func100 W100_chk (W100_eq v0 w K) Tryz.call100 h

/- purlin_num.Good -/
def plan148 : Plan := { js := [(28003, ⟨[36], [], 35⟩), (16, ⟨[28], [2, 5], 28⟩), (6002, ⟨[23], [], 17⟩), (6004, ⟨[22], [], 21⟩), (6008, ⟨[20], [], 17⟩), (6013, ⟨[14], [], 12⟩)], ds := [] }
def W148 (v0 : Value) (w : World) (K : Value → World → Prop) : Prop :=
  callF Tryz.prog 184 [v0, (.string (ofL [45]))] w fun t7 w1 =>
  lensW t7 fun t9 =>
  binW .lss t9 (.int .i64 1) fun t10 =>
  GdW (isB t10 false) [undef] w1 (fun J2 =>
    lensW t7 fun t13 =>
    binW .gtr t13 (.int .i64 100) fun t14 =>
    J2 [t14] w1)
  fun s2 _ w3 =>
  pickW t10 (.bool true) (s2.getD 0 undef) fun t15 =>
  GdW (isB t15 false) [undef] w3 (fun J4 =>
    ixsW t7 (.int .i64 0) fun t18 =>
    binW .eql t18 (.int .u8 48) fun t19 =>
    J4 [t19] w3)
  fun s4 _ w5 =>
  GdW (isB (s4.getD 0 undef) true) [undef] w5 (fun J6 =>
    binW .neq v0 (.string (ofL [48])) fun t22 =>
    J6 [t22] w5)
  fun s6 _ w7 =>
  GdW (isB t15 false) [undef] w7 (fun J8 =>
    pickW (s4.getD 0 undef) (s6.getD 0 undef) (.bool false) fun t23 =>
    J8 [t23] w7)
  fun s8 _ w9 =>
  pickW t15 (.bool true) (s8.getD 0 undef) fun t24 =>
  condW t24 (
    K (.bool false) w9) (
    semE Tryz.prog (convert 9 44 t7) w9 fun t26 w10 =>
    lenlW t26 fun t27 =>
    LoopW [(.int .i64 0)] w10 fun s11 _ w12 L11 =>
      binW .lss (s11.getD 0 undef) t27 fun t29 =>
      condW t29 (
        ixaW none 1 t26 (s11.getD 0 undef) fun t30 =>
        ldW false 1 t30 w12 fun t31 =>
        binW .lss t31 (.int .u8 48) fun t33 =>
        GdW (isB t33 false) [undef] w12 (fun J13 =>
          binW .gtr t31 (.int .u8 57) fun t36 =>
          J13 [t36] w12)
        fun s13 _ w14 =>
        pickW t33 (.bool true) (s13.getD 0 undef) fun t37 =>
        condW t37 (
          K (.bool false) w14) (
          binW .add (s11.getD 0 undef) (.int .i64 1) fun t38 =>
          L11 [t38] w14)) (
        K (.bool true) w12))
theorem W148_eq (v0 : Value) (w : World) (K : Value → World → Prop) : funW Tryz.prog Tryz.f148 plan148 [v0] w K = W148 v0 w K := by kernel_rfl
theorem W148_chk : chkFun Tryz.prog Tryz.f148 plan148 1 = true := by kernel_rfl
theorem W148_ok {v0 : Value} {w : World} {K : Value → World → Prop} (h : W148 v0 w K) : callF Tryz.prog 148 [v0] w K :=
  tie Tryz.prog 148 Tryz.f148 plan148 [v0] w K 1 (W148 v0 w K) rfl mixed Tryz.func148 W148_chk (W148_eq v0 w K) Tryz.call148 h

/- slices.Clone___string_string_ -/
def plan228 : Plan := { js := [], ds := [] }
def W228 (v0 : Value) (w : World) (K : Value → World → Prop) : Prop :=
  eqW .slice false v0 (.slice none 0 0) fun t4 =>
  condW t4 (
    K (.slice none 0 0) w) (
    bslW 9 0 [] [] w fun t5 w1 =>
    semE Tryz.prog (Builtin.append_ #[24, 24] 24 #[t5, v0]) w1 fun t7 w2 =>
    K t7 w2)
theorem W228_eq (v0 : Value) (w : World) (K : Value → World → Prop) : funW Tryz.prog Tryz.f228 plan228 [v0] w K = W228 v0 w K := by kernel_rfl
theorem W228_chk : chkFun Tryz.prog Tryz.f228 plan228 1 = true := by kernel_rfl
theorem W228_ok {v0 : Value} {w : World} {K : Value → World → Prop} (h : W228 v0 w K) : callF Tryz.prog 228 [v0] w K :=
  tie Tryz.prog 228 Tryz.f228 plan228 [v0] w K 1 (W228 v0 w K) rfl mixed Tryz.func228 W228_chk (W228_eq v0 w K) Tryz.call228 h

/- purlin_value.clones -/
def plan229 : Plan := { js := [(8, ⟨[3, 8], [3, 5], 8⟩)], ds := [] }
def W229 (v0 : Value) (w : World) (K : Value → World → Prop) : Prop :=
  lenlW v0 fun t7 =>
  LoopW [(.slice none 0 0), (.int .i64 0)] w fun s1 _ w2 L1 =>
    binW .lss (s1.getD 1 undef) t7 fun t9 =>
    condW t9 (
      ixaW none 5 v0 (s1.getD 1 undef) fun t10 =>
      ldW true 5 t10 w2 fun t11 =>
      allocW 26 [(.int .i64 0), (.bool false), (.string (ofL [])), (.slice none 0 0), (.slice none 0 0)] w2 fun t5 w3 =>
      stW 5 t5 t11 w3 fun w4 =>
      ldW true 5 t5 w4 fun t13 =>
      callF Tryz.prog 189 [t13] w4 fun t14 w5 =>
      bslW 26 1 [(.int .i64 0), (.bool false), (.string (ofL [])), (.slice none 0 0), (.slice none 0 0)] [(0, 5, t14)] w5 fun t15 w6 =>
      semE Tryz.prog (Builtin.append_ #[23, 23] 23 #[(s1.getD 0 undef), t15]) w6 fun t16 w7 =>
      binW .add (s1.getD 1 undef) (.int .i64 1) fun t17 =>
      L1 [t16, t17] w7) (
      K (s1.getD 0 undef) w2)
theorem W229_eq (v0 : Value) (w : World) (K : Value → World → Prop) : funW Tryz.prog Tryz.f229 plan229 [v0] w K = W229 v0 w K := by kernel_rfl
theorem W229_chk : chkFun Tryz.prog Tryz.f229 plan229 1 = true := by kernel_rfl
theorem W229_ok {v0 : Value} {w : World} {K : Value → World → Prop} (h : W229 v0 w K) : callF Tryz.prog 229 [v0] w K :=
  tie Tryz.prog 229 Tryz.f229 plan229 [v0] w K 1 (W229 v0 w K) rfl mixed Tryz.func229 W229_chk (W229_eq v0 w K) Tryz.call229 h

/- cmp.Compare_purlin_api.Kind_ -/
def plan240 : Plan := { js := [], ds := [] }
def W240 (v0 v1 : Value) (w : World) (K : Value → World → Prop) : Prop :=
  callF Tryz.prog 267 [v0] w fun t8 w1 =>
  callF Tryz.prog 267 [v1] w1 fun t10 w2 =>
  condW t8 (
    condW t10 (
      K (.int .i64 0) w2) (
      K (.int .i64 (-1)) w2)) (
    condW t10 (
      K (.int .i64 1) w2) (
      binW .lss v0 v1 fun t16 =>
      condW t16 (
        K (.int .i64 (-1)) w2) (
        binW .gtr v0 v1 fun t19 =>
        condW t19 (
          K (.int .i64 1) w2) (
          K (.int .i64 0) w2))))
theorem W240_eq (v0 v1 : Value) (w : World) (K : Value → World → Prop) : funW Tryz.prog Tryz.f240 plan240 [v0, v1] w K = W240 v0 v1 w K := by kernel_rfl
theorem W240_chk : chkFun Tryz.prog Tryz.f240 plan240 2 = true := by kernel_rfl
theorem W240_ok {v0 v1 : Value} {w : World} {K : Value → World → Prop} (h : W240 v0 v1 w K) : callF Tryz.prog 240 [v0, v1] w K :=
  tie Tryz.prog 240 Tryz.f240 plan240 [v0, v1] w K 2 (W240 v0 v1 w K) rfl mixed Tryz.func240 W240_chk (W240_eq v0 v1 w K) Tryz.call240 h

/- cmp.Compare_int_ -/
def plan93 : Plan := { js := [], ds := [] }
def W93 (v0 v1 : Value) (w : World) (K : Value → World → Prop) : Prop :=
  callF Tryz.prog 147 [v0] w fun t8 w1 =>
  callF Tryz.prog 147 [v1] w1 fun t10 w2 =>
  condW t8 (
    condW t10 (
      K (.int .i64 0) w2) (
      K (.int .i64 (-1)) w2)) (
    condW t10 (
      K (.int .i64 1) w2) (
      binW .lss v0 v1 fun t16 =>
      condW t16 (
        K (.int .i64 (-1)) w2) (
        binW .gtr v0 v1 fun t19 =>
        condW t19 (
          K (.int .i64 1) w2) (
          K (.int .i64 0) w2))))
theorem W93_eq (v0 v1 : Value) (w : World) (K : Value → World → Prop) : funW Tryz.prog Tryz.f93 plan93 [v0, v1] w K = W93 v0 v1 w K := by kernel_rfl
theorem W93_chk : chkFun Tryz.prog Tryz.f93 plan93 2 = true := by kernel_rfl
theorem W93_ok {v0 v1 : Value} {w : World} {K : Value → World → Prop} (h : W93 v0 v1 w K) : callF Tryz.prog 93 [v0, v1] w K :=
  tie Tryz.prog 93 Tryz.f93 plan93 [v0, v1] w K 2 (W93 v0 v1 w K) rfl mixed Tryz.func93 W93_chk (W93_eq v0 v1 w K) Tryz.call93 h

/- purlin_value.truth -/
def plan241 : Plan := { js := [], ds := [] }
def W241 (v0 : Value) (w : World) (K : Value → World → Prop) : Prop :=
  condW v0 (
    K (.int .i64 1) w) (
    K (.int .i64 0) w)
theorem W241_eq (v0 : Value) (w : World) (K : Value → World → Prop) : funW Tryz.prog Tryz.f241 plan241 [v0] w K = W241 v0 w K := by kernel_rfl
theorem W241_chk : chkFun Tryz.prog Tryz.f241 plan241 1 = true := by kernel_rfl
theorem W241_ok {v0 : Value} {w : World} {K : Value → World → Prop} (h : W241 v0 w K) : callF Tryz.prog 241 [v0] w K :=
  tie Tryz.prog 241 Tryz.f241 plan241 [v0] w K 1 (W241 v0 w K) rfl mixed Tryz.func241 W241_chk (W241_eq v0 w K) Tryz.call241 h

/- purlin_num.Cmp -/
def plan242 : Plan := { js := [(4004, ⟨[12], [], 10⟩)], ds := [] }
def W242 (v0 v1 : Value) (w : World) (K : Value → World → Prop) : Prop :=
  callF Tryz.prog 148 [v0] w fun t7 w1 =>
  unW .not t7 fun t8 =>
  GdW (isB t8 false) [undef] w1 (fun J2 =>
    callF Tryz.prog 148 [v1] w1 fun t11 w3 =>
    unW .not t11 fun t12 =>
    J2 [t12] w3)
  fun s2 _ w4 =>
  pickW t8 (.bool true) (s2.getD 0 undef) fun t13 =>
  condW t13 (
    K (.int .i64 0) w4) (
    callF Tryz.prog 269 [v0] w4 fun t15 w5 =>
    callF Tryz.prog 269 [v1] w5 fun t17 w6 =>
    callF Tryz.prog 270 [t17] w6 fun t18 w7 =>
    callF Tryz.prog 268 [t15, t18] w7 fun t19 w8 =>
    allocW 244 [(.bool false), (.slice none 0 0)] w8 fun t5 w9 =>
    stW 2 t5 t19 w9 fun w10 =>
    fldW 1 t5 fun t21 =>
    ldW false 1 t21 w10 fun t22 =>
    lenlW t22 fun t23 =>
    binW .eql t23 (.int .i64 0) fun t24 =>
    condW t24 (
      K (.int .i64 0) w10) (
      fldW 0 t5 fun t26 =>
      ldW false 1 t26 w10 fun t27 =>
      condW t27 (
        K (.int .i64 (-1)) w10) (
        K (.int .i64 1) w10)))
theorem W242_eq (v0 v1 : Value) (w : World) (K : Value → World → Prop) : funW Tryz.prog Tryz.f242 plan242 [v0, v1] w K = W242 v0 v1 w K := by kernel_rfl
theorem W242_chk : chkFun Tryz.prog Tryz.f242 plan242 2 = true := by kernel_rfl
theorem W242_ok {v0 v1 : Value} {w : World} {K : Value → World → Prop} (h : W242 v0 v1 w K) : callF Tryz.prog 242 [v0, v1] w K :=
  tie Tryz.prog 242 Tryz.f242 plan242 [v0, v1] w K 2 (W242 v0 v1 w K) rfl mixed Tryz.func242 W242_chk (W242_eq v0 v1 w K) Tryz.call242 h

/- cmp.Or_int_ -/
def plan90 : Plan := { js := [(8, ⟨[8], [2, 5], 8⟩)], ds := [] }
def W90 (v0 : Value) (w : World) (K : Value → World → Prop) : Prop :=
  lenlW v0 fun t7 =>
  LoopW [(.int .i64 0)] w fun s1 _ w2 L1 =>
    binW .lss (s1.getD 0 undef) t7 fun t9 =>
    condW t9 (
      ixaW none 1 v0 (s1.getD 0 undef) fun t10 =>
      ldW false 1 t10 w2 fun t11 =>
      binW .neq t11 (.int .i64 0) fun t14 =>
      condW t14 (
        K t11 w2) (
        binW .add (s1.getD 0 undef) (.int .i64 1) fun t16 =>
        L1 [t16] w2)) (
      K (.int .i64 0) w2)
theorem W90_eq (v0 : Value) (w : World) (K : Value → World → Prop) : funW Tryz.prog Tryz.f90 plan90 [v0] w K = W90 v0 w K := by kernel_rfl
theorem W90_chk : chkFun Tryz.prog Tryz.f90 plan90 1 = true := by kernel_rfl
theorem W90_ok {v0 : Value} {w : World} {K : Value → World → Prop} (h : W90 v0 w K) : callF Tryz.prog 90 [v0] w K :=
  tie Tryz.prog 90 Tryz.f90 plan90 [v0] w K 1 (W90 v0 w K) rfl mixed Tryz.func90 W90_chk (W90_eq v0 w K) Tryz.call90 h

/- slices.Compare___string_string_ -/
def plan91 : Plan := { js := [(6, ⟨[11], [4, 5, 6, 7, 8], 11⟩)], ds := [] }
def W91 (v0 v1 : Value) (w : World) (K : Value → World → Prop) : Prop :=
  lenlW v0 fun t10 =>
  LoopW [(.int .i64 0)] w fun s1 _ w2 L1 =>
    binW .lss (s1.getD 0 undef) t10 fun t12 =>
    condW t12 (
      ixaW none 1 v0 (s1.getD 0 undef) fun t14 =>
      ldW false 1 t14 w2 fun t15 =>
      lenlW v1 fun t18 =>
      binW .geq (s1.getD 0 undef) t18 fun t19 =>
      condW t19 (
        K (.int .i64 1) w2) (
        ixaW none 1 v1 (s1.getD 0 undef) fun t22 =>
        ldW false 1 t22 w2 fun t23 =>
        callF Tryz.prog 92 [t15, t23] w2 fun t26 w3 =>
        binW .neq t26 (.int .i64 0) fun t28 =>
        condW t28 (
          K t26 w3) (
          binW .add (s1.getD 0 undef) (.int .i64 1) fun t30 =>
          L1 [t30] w3))) (
      lenlW v0 fun t32 =>
      lenlW v1 fun t34 =>
      binW .lss t32 t34 fun t35 =>
      condW t35 (
        K (.int .i64 (-1)) w2) (
        K (.int .i64 0) w2))
theorem W91_eq (v0 v1 : Value) (w : World) (K : Value → World → Prop) : funW Tryz.prog Tryz.f91 plan91 [v0, v1] w K = W91 v0 v1 w K := by kernel_rfl
theorem W91_chk : chkFun Tryz.prog Tryz.f91 plan91 2 = true := by kernel_rfl
theorem W91_ok {v0 v1 : Value} {w : World} {K : Value → World → Prop} (h : W91 v0 v1 w K) : callF Tryz.prog 91 [v0, v1] w K :=
  tie Tryz.prog 91 Tryz.f91 plan91 [v0, v1] w K 2 (W91 v0 v1 w K) rfl mixed Tryz.func91 W91_chk (W91_eq v0 v1 w K) Tryz.call91 h

/- slices.CompareFunc___purlin_api.Value___purlin_api.Value_purlin_api.Value_purlin_api.Value_ -/
def plan244 : Plan := { js := [(6, ⟨[13], [6, 7, 8, 9, 10], 13⟩)], ds := [] }
def W244 (v0 v1 v2 : Value) (w : World) (K : Value → World → Prop) : Prop :=
  lenlW v0 fun t12 =>
  LoopW [(.int .i64 0)] w fun s1 _ w2 L1 =>
    binW .lss (s1.getD 0 undef) t12 fun t14 =>
    condW t14 (
      ixaW none 5 v0 (s1.getD 0 undef) fun t16 =>
      ldW true 5 t16 w2 fun t17 =>
      allocW 26 [(.int .i64 0), (.bool false), (.string (ofL [])), (.slice none 0 0), (.slice none 0 0)] w2 fun t8 w3 =>
      stW 5 t8 t17 w3 fun w4 =>
      lenlW v1 fun t20 =>
      binW .geq (s1.getD 0 undef) t20 fun t21 =>
      condW t21 (
        K (.int .i64 1) w4) (
        ixaW none 5 v1 (s1.getD 0 undef) fun t24 =>
        ldW true 5 t24 w4 fun t25 =>
        allocW 26 [(.int .i64 0), (.bool false), (.string (ofL [])), (.slice none 0 0), (.slice none 0 0)] w4 fun t9 w5 =>
        stW 5 t9 t25 w5 fun w6 =>
        ldW true 5 t8 w6 fun t27 =>
        ldW true 5 t9 w6 fun t28 =>
        callV Tryz.prog v2 [t27, t28] w6 fun t29 w7 =>
        binW .neq t29 (.int .i64 0) fun t31 =>
        condW t31 (
          K t29 w7) (
          binW .add (s1.getD 0 undef) (.int .i64 1) fun t33 =>
          L1 [t33] w7))) (
      lenlW v0 fun t35 =>
      lenlW v1 fun t37 =>
      binW .lss t35 t37 fun t38 =>
      condW t38 (
        K (.int .i64 (-1)) w2) (
        K (.int .i64 0) w2))
theorem W244_eq (v0 v1 v2 : Value) (w : World) (K : Value → World → Prop) : funW Tryz.prog Tryz.f244 plan244 [v0, v1, v2] w K = W244 v0 v1 v2 w K := by kernel_rfl
theorem W244_chk : chkFun Tryz.prog Tryz.f244 plan244 3 = true := by kernel_rfl
theorem W244_ok {v0 v1 v2 : Value} {w : World} {K : Value → World → Prop} (h : W244 v0 v1 v2 w K) : callF Tryz.prog 244 [v0, v1, v2] w K :=
  tie Tryz.prog 244 Tryz.f244 plan244 [v0, v1, v2] w K 3 (W244 v0 v1 v2 w K) rfl mixed Tryz.func244 W244_chk (W244_eq v0 v1 v2 w K) Tryz.call244 h

/- slices.IndexFunc___purlin_api.Value_purlin_api.Value_ -/
def plan150 : Plan := { js := [(6, ⟨[8], [4, 5], 8⟩)], ds := [] }
def W150 (v0 v1 : Value) (w : World) (K : Value → World → Prop) : Prop :=
  lenlW v0 fun t7 =>
  LoopW [(.int .i64 0)] w fun s1 _ w2 L1 =>
    binW .lss (s1.getD 0 undef) t7 fun t9 =>
    condW t9 (
      ixaW none 5 v0 (s1.getD 0 undef) fun t14 =>
      ldW true 5 t14 w2 fun t15 =>
      callV Tryz.prog v1 [t15] w2 fun t16 w3 =>
      condW t16 (
        K (s1.getD 0 undef) w3) (
        binW .add (s1.getD 0 undef) (.int .i64 1) fun t18 =>
        L1 [t18] w3)) (
      K (.int .i64 (-1)) w2)
theorem W150_eq (v0 v1 : Value) (w : World) (K : Value → World → Prop) : funW Tryz.prog Tryz.f150 plan150 [v0, v1] w K = W150 v0 v1 w K := by kernel_rfl
theorem W150_chk : chkFun Tryz.prog Tryz.f150 plan150 2 = true := by kernel_rfl
theorem W150_ok {v0 v1 : Value} {w : World} {K : Value → World → Prop} (h : W150 v0 v1 w K) : callF Tryz.prog 150 [v0, v1] w K :=
  tie Tryz.prog 150 Tryz.f150 plan150 [v0, v1] w K 2 (W150 v0 v1 w K) rfl mixed Tryz.func150 W150_chk (W150_eq v0 v1 w K) Tryz.call150 h

/- cmp.isNaN_purlin_api.Kind_ -/
def plan267 : Plan := { js := [], ds := [] }
def W267 (v0 : Value) (w : World) (K : Value → World → Prop) : Prop :=
  binW .neq v0 v0 fun t5 =>
  K t5 w
theorem W267_eq (v0 : Value) (w : World) (K : Value → World → Prop) : funW Tryz.prog Tryz.f267 plan267 [v0] w K = W267 v0 w K := by kernel_rfl
theorem W267_chk : chkFun Tryz.prog Tryz.f267 plan267 1 = true := by kernel_rfl
theorem W267_ok {v0 : Value} {w : World} {K : Value → World → Prop} (h : W267 v0 w K) : callF Tryz.prog 267 [v0] w K :=
  tie Tryz.prog 267 Tryz.f267 plan267 [v0] w K 1 (W267 v0 w K) rfl mixed Tryz.func267 W267_chk (W267_eq v0 w K) Tryz.call267 h

/- cmp.isNaN_int_ -/
def plan147 : Plan := { js := [], ds := [] }
def W147 (v0 : Value) (w : World) (K : Value → World → Prop) : Prop :=
  binW .neq v0 v0 fun t5 =>
  K t5 w
theorem W147_eq (v0 : Value) (w : World) (K : Value → World → Prop) : funW Tryz.prog Tryz.f147 plan147 [v0] w K = W147 v0 w K := by kernel_rfl
theorem W147_chk : chkFun Tryz.prog Tryz.f147 plan147 1 = true := by kernel_rfl
theorem W147_ok {v0 : Value} {w : World} {K : Value → World → Prop} (h : W147 v0 w K) : callF Tryz.prog 147 [v0] w K :=
  tie Tryz.prog 147 Tryz.f147 plan147 [v0] w K 1 (W147 v0 w K) rfl mixed Tryz.func147 W147_chk (W147_eq v0 w K) Tryz.call147 h

/- purlin_num.sum -/
def plan268 : Plan := { js := [], ds := [(18, ⟨[0, 1, 2, 3, 5], [[], [0], [], [], [2, 3], [0, 1, 2, 3, 4], [0, 1, 2, 3, 4, 5], [0, 1, 2, 3, 4, 5, 6]]⟩), (14, ⟨[0, 1, 2, 3, 5], [[], [0], [], [], [2, 3], [0, 1, 2, 3, 4], [0, 1, 2, 3, 4, 5], [0, 1, 2, 3, 4, 5, 6]]⟩), (8, ⟨[0, 1, 2, 3, 5], [[], [0], [], [], [2, 3], [0, 1, 2, 3, 4], [0, 1, 2, 3, 4, 5], [0, 1, 2, 3, 4, 5, 6]]⟩)] }
def W268 (v0 v1 : Value) (w : World) (K : Value → World → Prop) : Prop :=
  boxW 244 v0 w fun t2 w1 =>
  boxW 244 v1 w1 fun t3 w2 =>
  allocW 244 [(.bool false), (.slice none 0 0)] w2 fun t4 w3 =>
  fldW 0 t2 fun t6 =>
  ldW false 1 t6 w3 fun t7 =>
  fldW 0 t3 fun t8 =>
  ldW false 1 t8 w3 fun t9 =>
  eqW .bool false t7 t9 fun t10 =>
  condW t10 (
    fldW 0 t2 fun t11 =>
    ldW false 1 t11 w3.drew fun t12 =>
    ldW true 2 t2 w3.drew fun t13 =>
    ldW true 2 t3 w3.drew fun t14 =>
    callF Tryz.prog 284 [t13, t14] w3.drew fun t15 w4 =>
    (ldW false 1 t11 w4 fun x => x = t12) ∧
    putW [(.bool false), (.slice none 0 0)] [(0, 1, t12), (1, 1, t15)] fun c5 =>
    callF Tryz.prog 285 [(.agg c5.toArray)] w4 fun t17 w6 =>
    stW 2 t4 t17 w6 fun w7 =>
    ldW true 2 t4 w7 fun r8 =>
    K r8 w7) (
    ldW true 2 t2 w3 fun t19 =>
    ldW true 2 t3 w3 fun t20 =>
    callF Tryz.prog 286 [t19, t20] w3 fun t21 w9 =>
    binW .geq t21 (.int .i64 0) fun t22 =>
    condW t22 (
      fldW 0 t2 fun t23 =>
      ldW false 1 t23 w9.drew fun t24 =>
      ldW true 2 t2 w9.drew fun t25 =>
      ldW true 2 t3 w9.drew fun t26 =>
      callF Tryz.prog 287 [t25, t26] w9.drew fun t27 w10 =>
      (ldW false 1 t23 w10 fun x => x = t24) ∧
      putW [(.bool false), (.slice none 0 0)] [(0, 1, t24), (1, 1, t27)] fun c11 =>
      callF Tryz.prog 285 [(.agg c11.toArray)] w10 fun t29 w12 =>
      stW 2 t4 t29 w12 fun w13 =>
      ldW true 2 t4 w13 fun r14 =>
      K r14 w13) (
      fldW 0 t3 fun t30 =>
      ldW false 1 t30 w9.drew fun t31 =>
      ldW true 2 t3 w9.drew fun t32 =>
      ldW true 2 t2 w9.drew fun t33 =>
      callF Tryz.prog 287 [t32, t33] w9.drew fun t34 w15 =>
      (ldW false 1 t30 w15 fun x => x = t31) ∧
      putW [(.bool false), (.slice none 0 0)] [(0, 1, t31), (1, 1, t34)] fun c16 =>
      callF Tryz.prog 285 [(.agg c16.toArray)] w15 fun t36 w17 =>
      stW 2 t4 t36 w17 fun w18 =>
      ldW true 2 t4 w18 fun r19 =>
      K r19 w18))
theorem W268_eq (v0 v1 : Value) (w : World) (K : Value → World → Prop) : funW Tryz.prog Tryz.f268 plan268 [v0, v1] w K = W268 v0 v1 w K := by kernel_rfl
theorem W268_chk : chkFun Tryz.prog Tryz.f268 plan268 2 = true := by kernel_rfl
theorem W268_ok {v0 v1 : Value} {w : World} {K : Value → World → Prop} (h : W268 v0 v1 w K) : callF Tryz.prog 268 [v0, v1] w K :=
  tie Tryz.prog 268 Tryz.f268 plan268 [v0, v1] w K 2 (W268 v0 v1 w K) rfl mixed Tryz.func268 W268_chk (W268_eq v0 v1 w K) Tryz.call268 h

/- purlin_num.read -/
def plan269 : Plan := { js := [(10, ⟨[6], [], 6⟩)], ds := [] }
def W269 (v0 : Value) (w : World) (K : Value → World → Prop) : Prop :=
  allocW 244 [(.bool false), (.slice none 0 0)] w fun t2 w1 =>
  callF Tryz.prog 288 [v0, (.string (ofL [45]))] w1 fun t11 w2 =>
  extW 0 t11 fun t12 =>
  extW 1 t11 fun t13 =>
  putW [(.bool false), (.slice none 0 0)] [(0, 1, t13)] fun c3 =>
  allocW 244 [(.bool false), (.slice none 0 0)] w2 fun t5 w4 =>
  stW 2 t5 (.agg c3.toArray) w4 fun w5 =>
  lensW t12 fun t17 =>
  LoopW [t17] w5 fun s6 _ w7 L6 =>
    binW .gtr (s6.getD 0 undef) (.int .i64 0) fun t19 =>
    condW t19 (
      binW .sub (s6.getD 0 undef) (.int .i64 9) fun t25 =>
      maxW (.int .i64 0) t25 fun t26 =>
      slsW t12 (some t26) (some (s6.getD 0 undef)) fun t28 =>
      callF Tryz.prog 225 [t28, (.int .i64 10), (.int .i64 64)] w7 fun t29 w8 =>
      extW 0 t29 fun t30 =>
      extW 1 t29 fun t31 =>
      fldW 1 t5 fun t32 =>
      ldW false 1 t32 w8 fun t33 =>
      bslW 182 1 [(.int .u64 0)] [(0, 1, t30)] w8 fun t35 w9 =>
      semE Tryz.prog (Builtin.append_ #[242, 242] 242 #[t33, t35]) w9 fun t36 w10 =>
      fldW 1 t5 fun t37 =>
      stW 1 t37 t36 w10 fun w11 =>
      binW .sub (s6.getD 0 undef) (.int .i64 9) fun t21 =>
      L6 [t21] w11) (
      ldW true 2 t5 w7 fun t38 =>
      callF Tryz.prog 285 [t38] w7 fun t39 w12 =>
      stW 2 t2 t39 w12 fun w13 =>
      ldW true 2 t2 w13 fun r14 =>
      K r14 w13)
theorem W269_eq (v0 : Value) (w : World) (K : Value → World → Prop) : funW Tryz.prog Tryz.f269 plan269 [v0] w K = W269 v0 w K := by kernel_rfl
theorem W269_chk : chkFun Tryz.prog Tryz.f269 plan269 1 = true := by kernel_rfl
theorem W269_ok {v0 : Value} {w : World} {K : Value → World → Prop} (h : W269 v0 w K) : callF Tryz.prog 269 [v0] w K :=
  tie Tryz.prog 269 Tryz.f269 plan269 [v0] w K 1 (W269 v0 w K) rfl mixed Tryz.func269 W269_chk (W269_eq v0 w K) Tryz.call269 h

/- _purlin_num.big_.turned -/
def plan270 : Plan := { js := [], ds := [] }
def W270 (v0 : Value) (w : World) (K : Value → World → Prop) : Prop :=
  boxW 244 v0 w fun t1 w1 =>
  allocW 244 [(.bool false), (.slice none 0 0)] w1 fun t2 w2 =>
  fldW 0 t1 fun t3 =>
  ldW false 1 t3 w2 fun t4 =>
  unW .not t4 fun t5 =>
  fldW 1 t1 fun t6 =>
  ldW false 1 t6 w2 fun t7 =>
  putW [(.bool false), (.slice none 0 0)] [(0, 1, t5), (1, 1, t7)] fun c3 =>
  callF Tryz.prog 285 [(.agg c3.toArray)] w2 fun t9 w4 =>
  stW 2 t2 t9 w4 fun w5 =>
  ldW true 2 t2 w5 fun r6 =>
  K r6 w5
theorem W270_eq (v0 : Value) (w : World) (K : Value → World → Prop) : funW Tryz.prog Tryz.f270 plan270 [v0] w K = W270 v0 w K := by kernel_rfl
theorem W270_chk : chkFun Tryz.prog Tryz.f270 plan270 1 = true := by kernel_rfl
theorem W270_ok {v0 : Value} {w : World} {K : Value → World → Prop} (h : W270 v0 w K) : callF Tryz.prog 270 [v0] w K :=
  tie Tryz.prog 270 Tryz.f270 plan270 [v0] w K 1 (W270 v0 w K) rfl mixed Tryz.func270 W270_chk (W270_eq v0 w K) Tryz.call270 h

/- cmp.Compare_string_ -/
def plan92 : Plan := { js := [], ds := [] }
def W92 (v0 v1 : Value) (w : World) (K : Value → World → Prop) : Prop :=
  callF Tryz.prog 146 [v0] w fun t8 w1 =>
  callF Tryz.prog 146 [v1] w1 fun t10 w2 =>
  condW t8 (
    condW t10 (
      K (.int .i64 0) w2) (
      K (.int .i64 (-1)) w2)) (
    condW t10 (
      K (.int .i64 1) w2) (
      binW .lss v0 v1 fun t16 =>
      condW t16 (
        K (.int .i64 (-1)) w2) (
        binW .gtr v0 v1 fun t19 =>
        condW t19 (
          K (.int .i64 1) w2) (
          K (.int .i64 0) w2))))
theorem W92_eq (v0 v1 : Value) (w : World) (K : Value → World → Prop) : funW Tryz.prog Tryz.f92 plan92 [v0, v1] w K = W92 v0 v1 w K := by kernel_rfl
theorem W92_chk : chkFun Tryz.prog Tryz.f92 plan92 2 = true := by kernel_rfl
theorem W92_ok {v0 v1 : Value} {w : World} {K : Value → World → Prop} (h : W92 v0 v1 w K) : callF Tryz.prog 92 [v0, v1] w K :=
  tie Tryz.prog 92 Tryz.f92 plan92 [v0, v1] w K 2 (W92 v0 v1 w K) rfl mixed Tryz.func92 W92_chk (W92_eq v0 v1 w K) Tryz.call92 h

/- purlin_num.plus -/
def plan284 : Plan := { js := [(27, ⟨[6], [6], 16⟩), (21, ⟨[6], [6], 16⟩), (10, ⟨[5, 6, 15], [5, 6, 7], 15⟩)], ds := [] }
def W284 (v0 v1 : Value) (w : World) (K : Value → World → Prop) : Prop :=
  boxW 244 v0 w fun t2 w1 =>
  boxW 244 v1 w1 fun t3 w2 =>
  fldW 1 t2 fun t8 =>
  ldW false 1 t8 w2 fun t9 =>
  lenlW t9 fun t10 =>
  fldW 1 t3 fun t11 =>
  ldW false 1 t11 w2 fun t12 =>
  lenlW t12 fun t13 =>
  maxW t10 t13 fun t14 =>
  LoopW [(.slice none 0 0), (.int .u64 0), (.int .i64 0)] w2 fun s3 _ w4 L3 =>
    binW .lss (s3.getD 2 undef) t14 fun t16 =>
    condW t16 (
      JoinW (fun J5 =>
        fldW 1 t2 fun t19 =>
        ldW false 1 t19 w4 fun t20 =>
        lenlW t20 fun t21 =>
        binW .lss (s3.getD 2 undef) t21 fun t22 =>
        condW t22 (
          fldW 1 t2 fun t24 =>
          ldW false 1 t24 w4 fun t25 =>
          ixaW none 1 t25 (s3.getD 2 undef) fun t27 =>
          ldW false 1 t27 w4 fun t28 =>
          binW .add (s3.getD 1 undef) t28 fun t29 =>
          J5 [t29] w4) (
          J5 [(s3.getD 1 undef)] w4))
      fun s5 _ w6 =>
      JoinW (fun J7 =>
        fldW 1 t3 fun t31 =>
        ldW false 1 t31 w6 fun t32 =>
        lenlW t32 fun t33 =>
        binW .lss (s3.getD 2 undef) t33 fun t34 =>
        condW t34 (
          fldW 1 t3 fun t36 =>
          ldW false 1 t36 w6 fun t37 =>
          ixaW none 1 t37 (s3.getD 2 undef) fun t39 =>
          ldW false 1 t39 w6 fun t40 =>
          binW .add (s5.getD 0 undef) t40 fun t41 =>
          J7 [t41] w6) (
          J7 [(s5.getD 0 undef)] w6))
      fun s7 _ w8 =>
      binW .rem (s7.getD 0 undef) (.int .u64 1000000000) fun t44 =>
      bslW 182 1 [(.int .u64 0)] [(0, 1, t44)] w8 fun t45 w9 =>
      semE Tryz.prog (Builtin.append_ #[242, 242] 242 #[(s3.getD 0 undef), t45]) w9 fun t46 w10 =>
      binW .quo (s7.getD 0 undef) (.int .u64 1000000000) fun t48 =>
      binW .add (s3.getD 2 undef) (.int .i64 1) fun t49 =>
      L3 [t46, t48, t49] w10) (
      bslW 182 1 [(.int .u64 0)] [(0, 1, (s3.getD 1 undef))] w4 fun t52 w11 =>
      semE Tryz.prog (Builtin.append_ #[242, 242] 242 #[(s3.getD 0 undef), t52]) w11 fun t53 w12 =>
      K t53 w12)
theorem W284_eq (v0 v1 : Value) (w : World) (K : Value → World → Prop) : funW Tryz.prog Tryz.f284 plan284 [v0, v1] w K = W284 v0 v1 w K := by kernel_rfl
theorem W284_chk : chkFun Tryz.prog Tryz.f284 plan284 2 = true := by kernel_rfl
theorem W284_ok {v0 v1 : Value} {w : World} {K : Value → World → Prop} (h : W284 v0 v1 w K) : callF Tryz.prog 284 [v0, v1] w K :=
  tie Tryz.prog 284 Tryz.f284 plan284 [v0, v1] w K 2 (W284 v0 v1 w K) rfl mixed Tryz.func284 W284_chk (W284_eq v0 v1 w K) Tryz.call284 h

/- _purlin_num.big_.trim -/
def plan285 : Plan := { js := [(14007, ⟨[32], [], 29⟩), (7010, ⟨[16], [], 8⟩), (4, ⟨[], [], 3⟩)], ds := [] }
def W285 (v0 : Value) (w : World) (K : Value → World → Prop) : Prop :=
  boxW 244 v0 w fun t1 w1 =>
  allocW 244 [(.bool false), (.slice none 0 0)] w1 fun t2 w2 =>
  LoopW [] w2 fun s3 _ w4 L3 =>
    fldW 1 t1 fun t3 =>
    ldW false 1 t3 w4 fun t4 =>
    lenlW t4 fun t5 =>
    binW .gtr t5 (.int .i64 0) fun t6 =>
    GdW (isB t6 true) [undef] w4 (fun J5 =>
      fldW 1 t1 fun t8 =>
      ldW false 1 t8 w4 fun t9 =>
      fldW 1 t1 fun t10 =>
      ldW false 1 t10 w4 fun t11 =>
      lenlW t11 fun t12 =>
      binW .sub t12 (.int .i64 1) fun t13 =>
      ixaW none 1 t9 t13 fun t14 =>
      ldW false 1 t14 w4 fun t15 =>
      binW .eql t15 (.int .u64 0) fun t16 =>
      J5 [t16] w4)
    fun s5 _ w6 =>
    pickW t6 (s5.getD 0 undef) (.bool false) fun t17 =>
    condW t17 (
      fldW 1 t1 fun t18 =>
      ldW false 1 t18 w6 fun t19 =>
      fldW 1 t1 fun t20 =>
      ldW false 1 t20 w6 fun t21 =>
      lenlW t21 fun t22 =>
      binW .sub t22 (.int .i64 1) fun t23 =>
      sllW 1 t19 none (some t23) none fun t24 =>
      fldW 1 t1 fun t25 =>
      stW 1 t25 t24 w6 fun w7 =>
      L3 [] w7) (
      fldW 0 t1 fun t26 =>
      ldW false 1 t26 w6 fun t27 =>
      GdW (isB t27 true) [undef] w6 (fun J8 =>
        fldW 1 t1 fun t29 =>
        ldW false 1 t29 w6 fun t30 =>
        lenlW t30 fun t31 =>
        binW .gtr t31 (.int .i64 0) fun t32 =>
        J8 [t32] w6)
      fun s8 _ w9 =>
      pickW t27 (s8.getD 0 undef) (.bool false) fun t33 =>
      fldW 0 t1 fun t34 =>
      stW 1 t34 t33 w9 fun w10 =>
      ldW true 2 t1 w10 fun t35 =>
      stW 2 t2 t35 w10 fun w11 =>
      ldW true 2 t2 w11 fun r12 =>
      K r12 w11)
theorem W285_eq (v0 : Value) (w : World) (K : Value → World → Prop) : funW Tryz.prog Tryz.f285 plan285 [v0] w K = W285 v0 w K := by kernel_rfl
theorem W285_chk : chkFun Tryz.prog Tryz.f285 plan285 1 = true := by kernel_rfl
theorem W285_ok {v0 : Value} {w : World} {K : Value → World → Prop} (h : W285 v0 w K) : callF Tryz.prog 285 [v0] w K :=
  tie Tryz.prog 285 Tryz.f285 plan285 [v0] w K 1 (W285 v0 w K) rfl mixed Tryz.func285 W285_chk (W285_eq v0 w K) Tryz.call285 h

/- purlin_num.size -/
def plan286 : Plan := { js := [(16, ⟨[6], [], 4⟩)], ds := [(26, ⟨[0, 1, 2, 3, 4, 5, 6, 7, 8, 9, 11], [[], [0], [], [0, 1, 2], [0, 1, 2, 3], [], [5], [], [5, 6, 7], [5, 6, 7, 8], [0, 1, 2, 3, 4, 5, 6, 7, 8, 9], [0, 1, 2, 3, 4, 5, 6, 7, 8, 9, 10]]⟩)] }
def W286 (v0 v1 : Value) (w : World) (K : Value → World → Prop) : Prop :=
  boxW 244 v0 w fun t2 w1 =>
  boxW 244 v1 w1 fun t3 w2 =>
  fldW 1 t2 fun t8 =>
  ldW false 1 t8 w2 fun t9 =>
  lenlW t9 fun t10 =>
  fldW 1 t3 fun t11 =>
  ldW false 1 t11 w2 fun t12 =>
  lenlW t12 fun t13 =>
  callF Tryz.prog 93 [t10, t13] w2 fun t14 w3 =>
  binW .neq t14 (.int .i64 0) fun t16 =>
  condW t16 (
    K t14 w3) (
    fldW 1 t2 fun t18 =>
    ldW false 1 t18 w3 fun t19 =>
    lenlW t19 fun t20 =>
    binW .sub t20 (.int .i64 1) fun t21 =>
    LoopW [t21] w3 fun s4 _ w5 L4 =>
      binW .geq (s4.getD 0 undef) (.int .i64 0) fun t23 =>
      condW t23 (
        fldW 1 t2 fun t26 =>
        ldW false 1 t26 w5.drew fun t27 =>
        ixaW none 1 t27 (s4.getD 0 undef) fun t29 =>
        ldW false 1 t29 w5.drew fun t30 =>
        fldW 1 t3 fun t31 =>
        ldW false 1 t31 w5.drew fun t32 =>
        ixaW none 1 t32 (s4.getD 0 undef) fun t34 =>
        ldW false 1 t34 w5.drew fun t35 =>
        callF Tryz.prog 293 [t30, t35] w5.drew fun t36 w6 =>
        binW .neq t36 (.int .i64 0) fun t38 =>
        condW t38 (
          K t36 w6) (
          binW .sub (s4.getD 0 undef) (.int .i64 1) fun t25 =>
          L4 [t25] w6)) (
        K (.int .i64 0) w5))
theorem W286_eq (v0 v1 : Value) (w : World) (K : Value → World → Prop) : funW Tryz.prog Tryz.f286 plan286 [v0, v1] w K = W286 v0 v1 w K := by kernel_rfl
theorem W286_chk : chkFun Tryz.prog Tryz.f286 plan286 2 = true := by kernel_rfl
theorem W286_ok {v0 v1 : Value} {w : World} {K : Value → World → Prop} (h : W286 v0 v1 w K) : callF Tryz.prog 286 [v0, v1] w K :=
  tie Tryz.prog 286 Tryz.f286 plan286 [v0, v1] w K 2 (W286 v0 v1 w K) rfl mixed Tryz.func286 W286_chk (W286_eq v0 v1 w K) Tryz.call286 h

/- purlin_num.minus -/
def plan287 : Plan := { js := [(31, ⟨[6, 8], [6, 8], 14⟩), (23, ⟨[9], [9], 14⟩), (10, ⟨[5, 6, 13], [5, 6, 7, 8, 9], 13⟩)], ds := [] }
def W287 (v0 v1 : Value) (w : World) (K : Value → World → Prop) : Prop :=
  boxW 244 v0 w fun t2 w1 =>
  boxW 244 v1 w1 fun t3 w2 =>
  fldW 1 t2 fun t10 =>
  ldW false 1 t10 w2 fun t11 =>
  lenlW t11 fun t12 =>
  LoopW [(.slice none 0 0), (.int .u64 0), (.int .i64 0)] w2 fun s3 _ w4 L3 =>
    binW .lss (s3.getD 2 undef) t12 fun t14 =>
    condW t14 (
      ixaW none 1 t11 (s3.getD 2 undef) fun t16 =>
      ldW false 1 t16 w4 fun t17 =>
      JoinW (fun J5 =>
        fldW 1 t3 fun t20 =>
        ldW false 1 t20 w4 fun t21 =>
        lenlW t21 fun t22 =>
        binW .lss (s3.getD 2 undef) t22 fun t23 =>
        condW t23 (
          fldW 1 t3 fun t25 =>
          ldW false 1 t25 w4 fun t26 =>
          ixaW none 1 t26 (s3.getD 2 undef) fun t28 =>
          ldW false 1 t28 w4 fun t29 =>
          binW .add (s3.getD 1 undef) t29 fun t30 =>
          J5 [t30] w4) (
          J5 [(s3.getD 1 undef)] w4))
      fun s5 _ w6 =>
      JoinW (fun J7 =>
        binW .lss t17 (s5.getD 0 undef) fun t33 =>
        condW t33 (
          binW .add t17 (.int .u64 1000000000) fun t35 =>
          J7 [(.int .u64 1), t35] w6) (
          J7 [(.int .u64 0), t17] w6))
      fun s7 _ w8 =>
      binW .sub (s7.getD 1 undef) (s5.getD 0 undef) fun t39 =>
      bslW 182 1 [(.int .u64 0)] [(0, 1, t39)] w8 fun t40 w9 =>
      semE Tryz.prog (Builtin.append_ #[242, 242] 242 #[(s3.getD 0 undef), t40]) w9 fun t41 w10 =>
      binW .add (s3.getD 2 undef) (.int .i64 1) fun t42 =>
      L3 [t41, (s7.getD 0 undef), t42] w10) (
      K (s3.getD 0 undef) w4)
theorem W287_eq (v0 v1 : Value) (w : World) (K : Value → World → Prop) : funW Tryz.prog Tryz.f287 plan287 [v0, v1] w K = W287 v0 v1 w K := by kernel_rfl
theorem W287_chk : chkFun Tryz.prog Tryz.f287 plan287 2 = true := by kernel_rfl
theorem W287_ok {v0 v1 : Value} {w : World} {K : Value → World → Prop} (h : W287 v0 v1 w K) : callF Tryz.prog 287 [v0, v1] w K :=
  tie Tryz.prog 287 Tryz.f287 plan287 [v0, v1] w K 2 (W287 v0 v1 w K) rfl mixed Tryz.func287 W287_chk (W287_eq v0 v1 w K) Tryz.call287 h

/- strings.CutPrefix -/
def plan288 : Plan := { js := [], ds := [] }
def W288 (v0 v1 : Value) (w : World) (K : Value → World → Prop) : Prop :=
  callF Tryz.prog 294 [v0, v1] w fun t8 w1 =>
  extW 0 t8 fun t9 =>
  extW 1 t8 fun t10 =>
  K (.tuple #[t9, t10]) w1
theorem W288_eq (v0 v1 : Value) (w : World) (K : Value → World → Prop) : funW Tryz.prog Tryz.f288 plan288 [v0, v1] w K = W288 v0 v1 w K := by kernel_rfl
theorem W288_chk : chkFun Tryz.prog Tryz.f288 plan288 2 = true := by kernel_rfl
theorem W288_ok {v0 v1 : Value} {w : World} {K : Value → World → Prop} (h : W288 v0 v1 w K) : callF Tryz.prog 288 [v0, v1] w K :=
  tie Tryz.prog 288 Tryz.f288 plan288 [v0, v1] w K 2 (W288 v0 v1 w K) rfl mixed Tryz.func288 W288_chk (W288_eq v0 v1 w K) Tryz.call288 h

/- cmp.Compare_uint64_ -/
def plan293 : Plan := { js := [], ds := [] }
def W293 (v0 v1 : Value) (w : World) (K : Value → World → Prop) : Prop :=
  callF Tryz.prog 295 [v0] w fun t8 w1 =>
  callF Tryz.prog 295 [v1] w1 fun t10 w2 =>
  condW t8 (
    condW t10 (
      K (.int .i64 0) w2) (
      K (.int .i64 (-1)) w2)) (
    condW t10 (
      K (.int .i64 1) w2) (
      binW .lss v0 v1 fun t16 =>
      condW t16 (
        K (.int .i64 (-1)) w2) (
        binW .gtr v0 v1 fun t19 =>
        condW t19 (
          K (.int .i64 1) w2) (
          K (.int .i64 0) w2))))
theorem W293_eq (v0 v1 : Value) (w : World) (K : Value → World → Prop) : funW Tryz.prog Tryz.f293 plan293 [v0, v1] w K = W293 v0 v1 w K := by kernel_rfl
theorem W293_chk : chkFun Tryz.prog Tryz.f293 plan293 2 = true := by kernel_rfl
theorem W293_ok {v0 v1 : Value} {w : World} {K : Value → World → Prop} (h : W293 v0 v1 w K) : callF Tryz.prog 293 [v0, v1] w K :=
  tie Tryz.prog 293 Tryz.f293 plan293 [v0, v1] w K 2 (W293 v0 v1 w K) rfl mixed Tryz.func293 W293_chk (W293_eq v0 v1 w K) Tryz.call293 h

/- internal_stringslite.CutPrefix -/
def plan294 : Plan := { js := [], ds := [] }
def W294 (v0 v1 : Value) (w : World) (K : Value → World → Prop) : Prop :=
  callF Tryz.prog 156 [v0, v1] w fun t8 w1 =>
  unW .not t8 fun t9 =>
  condW t9 (
    K (.tuple #[v0, (.bool false)]) w1) (
    lensW v1 fun t13 =>
    slsW v0 (some t13) none fun t14 =>
    K (.tuple #[t14, (.bool true)]) w1)
theorem W294_eq (v0 v1 : Value) (w : World) (K : Value → World → Prop) : funW Tryz.prog Tryz.f294 plan294 [v0, v1] w K = W294 v0 v1 w K := by kernel_rfl
theorem W294_chk : chkFun Tryz.prog Tryz.f294 plan294 2 = true := by kernel_rfl
theorem W294_ok {v0 v1 : Value} {w : World} {K : Value → World → Prop} (h : W294 v0 v1 w K) : callF Tryz.prog 294 [v0, v1] w K :=
  tie Tryz.prog 294 Tryz.f294 plan294 [v0, v1] w K 2 (W294 v0 v1 w K) rfl mixed Tryz.func294 W294_chk (W294_eq v0 v1 w K) Tryz.call294 h

/- cmp.isNaN_uint64_ -/
def plan295 : Plan := { js := [], ds := [] }
def W295 (v0 : Value) (w : World) (K : Value → World → Prop) : Prop :=
  binW .neq v0 v0 fun t5 =>
  K t5 w
theorem W295_eq (v0 : Value) (w : World) (K : Value → World → Prop) : funW Tryz.prog Tryz.f295 plan295 [v0] w K = W295 v0 w K := by kernel_rfl
theorem W295_chk : chkFun Tryz.prog Tryz.f295 plan295 1 = true := by kernel_rfl
theorem W295_ok {v0 : Value} {w : World} {K : Value → World → Prop} (h : W295 v0 w K) : callF Tryz.prog 295 [v0] w K :=
  tie Tryz.prog 295 Tryz.f295 plan295 [v0] w K 1 (W295 v0 w K) rfl mixed Tryz.func295 W295_chk (W295_eq v0 w K) Tryz.call295 h

/- slices.isNaN_string_ -/
def plan227 : Plan := { js := [], ds := [] }
def W227 (v0 : Value) (w : World) (K : Value → World → Prop) : Prop :=
  binW .neq v0 v0 fun t5 =>
  K t5 w
theorem W227_eq (v0 : Value) (w : World) (K : Value → World → Prop) : funW Tryz.prog Tryz.f227 plan227 [v0] w K = W227 v0 w K := by kernel_rfl
theorem W227_chk : chkFun Tryz.prog Tryz.f227 plan227 1 = true := by kernel_rfl
theorem W227_ok {v0 : Value} {w : World} {K : Value → World → Prop} (h : W227 v0 w K) : callF Tryz.prog 227 [v0] w K :=
  tie Tryz.prog 227 Tryz.f227 plan227 [v0] w K 1 (W227 v0 w K) rfl mixed Tryz.func227 W227_chk (W227_eq v0 w K) Tryz.call227 h

/- strings.TrimPrefix -/
def plan184 : Plan := { js := [], ds := [] }
def W184 (v0 v1 : Value) (w : World) (K : Value → World → Prop) : Prop :=
  callF Tryz.prog 222 [v0, v1] w fun t7 w1 =>
  K t7 w1
theorem W184_eq (v0 v1 : Value) (w : World) (K : Value → World → Prop) : funW Tryz.prog Tryz.f184 plan184 [v0, v1] w K = W184 v0 v1 w K := by kernel_rfl
theorem W184_chk : chkFun Tryz.prog Tryz.f184 plan184 2 = true := by kernel_rfl
theorem W184_ok {v0 v1 : Value} {w : World} {K : Value → World → Prop} (h : W184 v0 v1 w K) : callF Tryz.prog 184 [v0, v1] w K :=
  tie Tryz.prog 184 Tryz.f184 plan184 [v0, v1] w K 2 (W184 v0 v1 w K) rfl mixed Tryz.func184 W184_chk (W184_eq v0 v1 w K) Tryz.call184 h

/- internal_stringslite.TrimPrefix -/
def plan222 : Plan := { js := [], ds := [] }
def W222 (v0 v1 : Value) (w : World) (K : Value → World → Prop) : Prop :=
  callF Tryz.prog 156 [v0, v1] w fun t7 w1 =>
  condW t7 (
    lensW v1 fun t10 =>
    slsW v0 (some t10) none fun t11 =>
    K t11 w1) (
    K v0 w1)
theorem W222_eq (v0 v1 : Value) (w : World) (K : Value → World → Prop) : funW Tryz.prog Tryz.f222 plan222 [v0, v1] w K = W222 v0 v1 w K := by kernel_rfl
theorem W222_chk : chkFun Tryz.prog Tryz.f222 plan222 2 = true := by kernel_rfl
theorem W222_ok {v0 v1 : Value} {w : World} {K : Value → World → Prop} (h : W222 v0 v1 w K) : callF Tryz.prog 222 [v0, v1] w K :=
  tie Tryz.prog 222 Tryz.f222 plan222 [v0, v1] w K 2 (W222 v0 v1 w K) rfl mixed Tryz.func222 W222_chk (W222_eq v0 v1 w K) Tryz.call222 h

/- strings.Compare -/
def plan243 : Plan := { js := [], ds := [] }
def W243 (v0 v1 : Value) (w : World) (K : Value → World → Prop) : Prop :=
  callF Tryz.prog 271 [v0, v1] w fun t7 w1 =>
  K t7 w1
theorem W243_eq (v0 v1 : Value) (w : World) (K : Value → World → Prop) : funW Tryz.prog Tryz.f243 plan243 [v0, v1] w K = W243 v0 v1 w K := by kernel_rfl
theorem W243_chk : chkFun Tryz.prog Tryz.f243 plan243 2 = true := by kernel_rfl
theorem W243_ok {v0 v1 : Value} {w : World} {K : Value → World → Prop} (h : W243 v0 v1 w K) : callF Tryz.prog 243 [v0, v1] w K :=
  tie Tryz.prog 243 Tryz.f243 plan243 [v0, v1] w K 2 (W243 v0 v1 w K) rfl mixed Tryz.func243 W243_chk (W243_eq v0 v1 w K) Tryz.call243 h

/- internal_bytealg.CompareString -/
def plan271 : Plan := { js := [], ds := [] }
def W271 (v0 v1 : Value) (w : World) (K : Value → World → Prop) : Prop :=
  callF Tryz.prog 289 [v0, v1] w fun t7 w1 =>
  K t7 w1
theorem W271_eq (v0 v1 : Value) (w : World) (K : Value → World → Prop) : funW Tryz.prog Tryz.f271 plan271 [v0, v1] w K = W271 v0 v1 w K := by kernel_rfl
theorem W271_chk : chkFun Tryz.prog Tryz.f271 plan271 2 = true := by kernel_rfl
theorem W271_ok {v0 v1 : Value} {w : World} {K : Value → World → Prop} (h : W271 v0 v1 w K) : callF Tryz.prog 271 [v0, v1] w K :=
  tie Tryz.prog 271 Tryz.f271 plan271 [v0, v1] w K 2 (W271 v0 v1 w K) rfl mixed Tryz.func271 W271_chk (W271_eq v0 v1 w K) Tryz.call271 h

/- strconv.ParseUint -/
def plan225 : Plan := { js := [], ds := [] }
def W225 (v0 v1 v2 : Value) (w : World) (K : Value → World → Prop) : Prop :=
  callF Tryz.prog 255 [v0, v1, v2] w fun t14 w1 =>
  extW 0 t14 fun t15 =>
  extW 1 t14 fun t16 =>
  eqQ Tryz.prog .neq 111 false true t16 .nilIface w1 fun t18 =>
  condW t18 (
    callF Tryz.prog 180 [(.string (ofL [80, 97, 114, 115, 101, 85, 105, 110, 116])), v0, v1, v2, t16] w1 fun t24 w2 =>
    K (.tuple #[t15, t24]) w2) (
    K (.tuple #[t15, .nilIface]) w1)
theorem W225_eq (v0 v1 v2 : Value) (w : World) (K : Value → World → Prop) : funW Tryz.prog Tryz.f225 plan225 [v0, v1, v2] w K = W225 v0 v1 v2 w K := by kernel_rfl
theorem W225_chk : chkFun Tryz.prog Tryz.f225 plan225 3 = true := by kernel_rfl
theorem W225_ok {v0 v1 v2 : Value} {w : World} {K : Value → World → Prop} (h : W225 v0 v1 v2 w K) : callF Tryz.prog 225 [v0, v1, v2] w K :=
  tie Tryz.prog 225 Tryz.f225 plan225 [v0, v1, v2] w K 3 (W225 v0 v1 v2 w K) rfl mixed Tryz.func225 W225_chk (W225_eq v0 v1 v2 w K) Tryz.call225 h

/- cmp.Less_string_ -/
def plan226 : Plan := { js := [(3005, ⟨[15], [], 13⟩), (3010, ⟨[10], [], 8⟩)], ds := [] }
def W226 (v0 v1 : Value) (w : World) (K : Value → World → Prop) : Prop :=
  callF Tryz.prog 146 [v0] w fun t6 w1 =>
  GdW (isB t6 true) [undef] w1 (fun J2 =>
    callF Tryz.prog 146 [v1] w1 fun t9 w3 =>
    unW .not t9 fun t10 =>
    J2 [t10] w3)
  fun s2 _ w4 =>
  pickW t6 (s2.getD 0 undef) (.bool false) fun t11 =>
  GdW (isB t11 false) [undef] w4 (fun J5 =>
    binW .lss v0 v1 fun t15 =>
    J5 [t15] w4)
  fun s5 _ w6 =>
  pickW t11 (.bool true) (s5.getD 0 undef) fun t16 =>
  K t16 w6
theorem W226_eq (v0 v1 : Value) (w : World) (K : Value → World → Prop) : funW Tryz.prog Tryz.f226 plan226 [v0, v1] w K = W226 v0 v1 w K := by kernel_rfl
theorem W226_chk : chkFun Tryz.prog Tryz.f226 plan226 2 = true := by kernel_rfl
theorem W226_ok {v0 v1 : Value} {w : World} {K : Value → World → Prop} (h : W226 v0 v1 w K) : callF Tryz.prog 226 [v0, v1] w K :=
  tie Tryz.prog 226 Tryz.f226 plan226 [v0, v1] w K 2 (W226 v0 v1 w K) rfl mixed Tryz.func226 W226_chk (W226_eq v0 v1 w K) Tryz.call226 h

/- cmp.isNaN_string_ -/
def plan146 : Plan := { js := [], ds := [] }
def W146 (v0 : Value) (w : World) (K : Value → World → Prop) : Prop :=
  binW .neq v0 v0 fun t5 =>
  K t5 w
theorem W146_eq (v0 : Value) (w : World) (K : Value → World → Prop) : funW Tryz.prog Tryz.f146 plan146 [v0] w K = W146 v0 w K := by kernel_rfl
theorem W146_chk : chkFun Tryz.prog Tryz.f146 plan146 1 = true := by kernel_rfl
theorem W146_ok {v0 : Value} {w : World} {K : Value → World → Prop} (h : W146 v0 w K) : callF Tryz.prog 146 [v0] w K :=
  tie Tryz.prog 146 Tryz.f146 plan146 [v0] w K 1 (W146 v0 w K) rfl mixed Tryz.func146 W146_chk (W146_eq v0 w K) Tryz.call146 h


end Go.Proofs.YtcnjpcadejcenaaGreatDoor

