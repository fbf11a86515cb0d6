/- One plain sentence: plain functions on values: good, known, the same, their order, and that the order tells the same ones. Conditions: those that each law states. -/
import Derived.Test.YtonblcbpoilndaaGreatDoorJV
import Derived.Test.YtonblcbpoilndaaGreatDoorNumM
set_option linter.all false
set_option linter.unusedSimpArgs false
set_option linter.unusedVariables false
set_option linter.unusedSectionVars false
namespace Go.Eng
open Go Go.Num

mutual
def knownM : JV → Bool
  | .mk k _ _ xs _ => !decide (k = 1) && knownL xs
def knownL : List JV → Bool
  | [] => true
  | x :: xs => knownM x && knownL xs
end
mutual
def sizeM : JV → Int
  | .mk _ _ _ xs _ => sizeLM xs 1
def sizeLM : List JV → Int → Int
  | [], n => n
  | x :: xs, n => if n ≤ 2000 then sizeLM xs (IntKind.i64.wrap (n + sizeM x)) else n
end
mutual
def deepM : JV → Nat → Bool
  | .mk _ _ _ xs _, m => match m with | 0 => false | m + 1 => deepL xs m
def deepL : List JV → Nat → Bool
  | [], _ => true
  | x :: xs, m => deepM x m && deepL xs m
end
/-- rising, and none too long -/
def keysOk : List Str → Bool
  | [] => true
  | [a] => decide (a.length ≤ 16384)
  | a :: b :: r => decide (a.length ≤ 16384) && Op.bytesLess a b && keysOk (b :: r)
def headOk (k : Int) (b : Bool) (t : Str) (n : Nat) (ks : List Str) : Bool :=
  decide (0 ≤ k) && decide (k ≤ 6) && (!b || decide (k = 2)) && (decide (t = []) || decide (k = 3) || decide (k = 4)) && (decide (n = 0) || decide (5 ≤ k)) && (decide (k = 6) || decide (ks = [])) &&
    (!decide (k = 3) || goodN t) && (!decide (k = 4) || decide (t.length ≤ 16384)) && (!decide (k = 6) || decide (ks.length = n)) && keysOk ks
mutual
def plainM : JV → Bool
  | .mk k b t xs ks => headOk k b t xs.length ks && plainL xs
def plainL : List JV → Bool
  | [] => true
  | x :: xs => plainM x && plainL xs
end
def goodM (v : JV) : Bool := decide (sizeM v ≤ 2000) && deepM v 24 && plainM v

mutual
def sameM : JV → JV → Bool
  | .mk k b t xs ks, .mk k' b' t' xs' ks' => decide (k = k') && decide (b = b') && decide (t = t') && decide (ks = ks') && sameL xs xs'
def sameL : List JV → List JV → Bool
  | [], [] => true
  | x :: xs, y :: ys => sameM x y && sameL xs ys
  | _, _ => false
end
mutual
theorem same_iff : ∀ (a b : JV), sameM a b = true ↔ a = b
  | .mk k b t xs ks, .mk k' b' t' xs' ks' => by
    have := sameL_iff xs xs'
    simp only [sameM, Bool.and_eq_true, decide_eq_true_eq, this, JV.mk.injEq]
    constructor
    · rintro ⟨⟨⟨⟨h1, h2⟩, h3⟩, h4⟩, h5⟩; exact ⟨h1, h2, h3, h5, h4⟩
    · rintro ⟨h1, h2, h3, h5, h4⟩; exact ⟨⟨⟨⟨h1, h2⟩, h3⟩, h4⟩, h5⟩
theorem sameL_iff : ∀ (a b : List JV), sameL a b = true ↔ a = b
  | [], [] => by simp [sameL]
  | [], _ :: _ => by simp [sameL]
  | _ :: _, [] => by simp [sameL]
  | x :: xs, y :: ys => by simp [sameL, same_iff x y, sameL_iff xs ys]
end
theorem sameL_len : ∀ {xs ys : List JV}, xs.length ≠ ys.length → sameL xs ys = false := by
  intro xs ys h
  cases hs : sameL xs ys with
  | false => rfl
  | true => exact absurd (by rw [(sameL_iff _ _).1 hs]) h

/-! ### the order -/
def cmpI (a b : Int) : Int := if a < b then -1 else if b < a then 1 else 0
def cmpB (a b : Str) : Int := if Op.bytesLess a b then -1 else if a = b then 0 else 1
def truthI (b : Bool) : Int := if b then 1 else 0
/-- the first that is not 0 -/
def orI (a b : Int) : Int := if a = 0 then b else a
theorem orI_zero (a b : Int) : orI a b = 0 ↔ a = 0 ∧ b = 0 := by
  unfold orI
  by_cases h : a = 0
  · rw [if_pos h]; simp [h]
  · rw [if_neg h]; simp [h]
def cmpKs : List Str → List Str → Int
  | [], [] => 0
  | [], _ :: _ => -1
  | _ :: _, [] => 1
  | a :: r, b :: s => orI (cmpB a b) (cmpKs r s)
mutual
def cmpM : JV → JV → Int
  | .mk k b t xs ks, v =>
    orI (cmpI k v.k) (if k = 2 then cmpI (truthI b) (truthI v.b)
    else if k = 3 then cmpS t v.t
    else if k = 4 then cmpB t v.t
    else orI (cmpKs ks v.ks) (cmpL xs v.xs))
def cmpL : List JV → List JV → Int
  | [], [] => 0
  | [], _ :: _ => -1
  | _ :: _, [] => 1
  | x :: xs, y :: ys => orI (cmpM x y) (cmpL xs ys)
end
theorem less_irr (a : Str) : Op.bytesLess a a = false := by
  induction a with
  | nil => rfl
  | cons x a ih => simp [Op.bytesLess, ih]
theorem cmpI_zero (a b : Int) : cmpI a b = 0 ↔ a = b := by
  unfold cmpI
  constructor
  · intro h; split at h
    · omega
    · split at h <;> omega
  · rintro rfl; simp
theorem cmpB_zero (a b : Str) : cmpB a b = 0 ↔ a = b := by
  unfold cmpB
  constructor
  · intro h
    split at h
    · omega
    · split at h
      · assumption
      · omega
  · rintro rfl; simp [less_irr]
theorem cmpKs_zero : ∀ (a b : List Str), cmpKs a b = 0 ↔ a = b
  | [], [] => by simp [cmpKs]
  | [], _ :: _ => by simp [cmpKs]
  | _ :: _, [] => by simp [cmpKs]
  | a :: r, b :: s => by
    simp only [cmpKs, orI_zero, List.cons.injEq, cmpB_zero, cmpKs_zero r s]
theorem truth_inj {a b : Bool} : truthI a = truthI b ↔ a = b := by cases a <;> cases b <;> simp [truthI]

theorem headOk_out {k : Int} {b : Bool} {t : Str} {n : Nat} {ks : List Str} (h : headOk k b t n ks = true) :
    0 ≤ k ∧ k ≤ 6 ∧ (b = true → k = 2) ∧ (t ≠ [] → k = 3 ∨ k = 4) ∧ (n ≠ 0 → 5 ≤ k) ∧ (ks ≠ [] → k = 6) ∧ (k = 3 → goodN t = true) ∧ (k = 4 → t.length ≤ 16384) ∧ (k = 6 → ks.length = n) ∧ keysOk ks = true := by
  simp only [headOk, Bool.and_eq_true, Bool.or_eq_true, decide_eq_true_eq, Bool.not_eq_true', decide_eq_false_iff_not] at h
  obtain ⟨⟨⟨⟨⟨⟨⟨⟨⟨h1, h2⟩, h3⟩, h4⟩, h5⟩, h6⟩, h7⟩, h8⟩, h9⟩, h10⟩ := h
  refine ⟨h1, h2, fun e => ?_, fun e => ?_, fun e => ?_, fun e => ?_, fun e => ?_, fun e => ?_, fun e => ?_, h10⟩
  · rcases h3 with h3 | h3
    · rw [e] at h3; cases h3
    · exact h3
  · rcases h4 with (h4 | h4) | h4
    · exact absurd h4 e
    · exact .inl h4
    · exact .inr h4
  · exact h5.resolve_left e
  · exact h6.resolve_right e
  · exact h7.resolve_left fun h => h e
  · exact h8.resolve_left fun h => h e
  · exact h9.resolve_left fun h => h e
mutual
theorem cmp_zero : ∀ (a b : JV), plainM a = true → plainM b = true → (cmpM a b = 0 ↔ a = b)
  | .mk k b t xs ks, .mk k' b' t' xs' ks', ha, hb => by
    simp only [plainM, Bool.and_eq_true] at ha hb
    have ih := cmpL_zero xs xs' ha.2 hb.2
    obtain ⟨a1, a2, a3, a4, a5, a6, a7, a8, a9, _⟩ := headOk_out ha.1
    obtain ⟨b1, b2, b3, b4, b5, b6, b7, b8, b9, _⟩ := headOk_out hb.1
    simp only [cmpM, JV.k, JV.b, JV.t, JV.ks, JV.xs, JV.mk.injEq]
    rw [orI_zero, cmpI_zero]
    refine and_congr_right fun hk => ?_
    subst hk
    have hnil : ∀ {xs : List JV}, (xs.length ≠ 0 → 5 ≤ k) → ¬ 5 ≤ k → xs = [] := fun {xs} h h5 => List.eq_nil_of_length_eq_zero (Decidable.byContradiction fun e => h5 (h e))
    have hbf : ∀ {b : Bool}, (b = true → k = 2) → k ≠ 2 → b = false := fun {b} h h2 => by cases b with | false => rfl | true => exact absurd (h rfl) h2
    have hks : ∀ {ks : List Str}, (ks ≠ [] → k = 6) → k ≠ 6 → ks = [] := fun {ks} h h2 => Decidable.byContradiction fun e => h2 (h e)
    have hts : ∀ {t : Str}, (t ≠ [] → k = 3 ∨ k = 4) → ¬ (k = 3 ∨ k = 4) → t = [] := fun {t} h h2 => Decidable.byContradiction fun e => h2 (h e)
    by_cases h2 : k = 2
    · rw [if_pos h2, cmpI_zero, truth_inj, hnil a5 (by omega), hnil b5 (by omega), hks a6 (by omega), hks b6 (by omega), hts a4 (by omega), hts b4 (by omega)]; simp
    · rw [if_neg h2, hbf a3 h2, hbf b3 h2]
      by_cases h3 : k = 3
      · rw [if_pos h3, cmpS_zero (a7 h3) (b7 h3), hnil a5 (by omega), hnil b5 (by omega), hks a6 (by omega), hks b6 (by omega)]; simp
      · rw [if_neg h3]
        by_cases h4 : k = 4
        · rw [if_pos h4, cmpB_zero, hnil a5 (by omega), hnil b5 (by omega), hks a6 (by omega), hks b6 (by omega)]; simp
        · rw [if_neg h4, hts a4 (by omega), hts b4 (by omega), orI_zero, cmpKs_zero, ih]
          simp [and_comm]
theorem cmpL_zero : ∀ (a b : List JV), plainL a = true → plainL b = true → (cmpL a b = 0 ↔ a = b)
  | [], [], _, _ => by simp [cmpL]
  | [], _ :: _, _, _ => by simp [cmpL]
  | _ :: _, [], _, _ => by simp [cmpL]
  | x :: xs, y :: ys, ha, hb => by
    simp only [plainL, Bool.and_eq_true] at ha hb
    have h1 := cmp_zero x y ha.1 hb.1
    have h2 := cmpL_zero xs ys ha.2 hb.2
    simp only [cmpL, orI_zero, List.cons.injEq, h1, h2]
end
theorem plainL_mem : ∀ {xs : List JV}, plainL xs = true → ∀ x ∈ xs, plainM x = true
  | [], _, x, h => by cases h
  | y :: xs, hp, x, h => by
    simp only [plainL, Bool.and_eq_true] at hp
    rcases List.mem_cons.1 h with rfl | h
    · exact hp.1
    · exact plainL_mem hp.2 x h
theorem JV.ind' {p : JV → Prop} (h : ∀ v, (∀ x ∈ v.xs, p x) → p v) (v : JV) : p v := JV.ind (fun k b t xs ks ih => h (.mk k b t xs ks) ih) v
theorem knownM_eq (v : JV) : knownM v = (!decide (v.k = 1) && knownL v.xs) := by cases v; rfl
theorem sizeM_eq (v : JV) : sizeM v = sizeLM v.xs 1 := by cases v; rfl
theorem deepM_zero (v : JV) : deepM v 0 = false := by cases v; rfl
theorem deepM_succ (v : JV) (m : Nat) : deepM v (m + 1) = deepL v.xs m := by cases v; rfl
theorem plainM_eq (v : JV) : plainM v = (headOk v.k v.b v.t v.xs.length v.ks && plainL v.xs) := by cases v; rfl
theorem sameM_eq (a b : JV) : sameM a b = (decide (a.k = b.k) && decide (a.b = b.b) && decide (a.t = b.t) && decide (a.ks = b.ks) && sameL a.xs b.xs) := by cases a; cases b; rfl
theorem cmpM_eq (a v : JV) : cmpM a v = orI (cmpI a.k v.k) (if a.k = 2 then cmpI (truthI a.b) (truthI v.b) else if a.k = 3 then cmpS a.t v.t else if a.k = 4 then cmpB a.t v.t else orI (cmpKs a.ks v.ks) (cmpL a.xs v.xs)) := by cases a; rfl
theorem knownL_all (xs : List JV) : knownL xs = xs.all knownM := by
  induction xs with
  | nil => rfl
  | cons x xs ih => simp [knownL, ih]
theorem deepL_all (xs : List JV) (m : Nat) : deepL xs m = xs.all (deepM · m) := by
  induction xs with
  | nil => rfl
  | cons x xs ih => simp [deepL, ih]
theorem plainL_all (xs : List JV) : plainL xs = xs.all plainM := by
  induction xs with
  | nil => rfl
  | cons x xs ih => simp [plainL, ih]
theorem all_take {α : Type} {p : α → Bool} {xs : List α} {i : Nat} {x : α} (hi : xs[i]? = some x) : (xs.take (i + 1)).all p = ((xs.take i).all p && p x) := by
  rw [List.take_add_one, hi]; simp
theorem all_no {α : Type} {p : α → Bool} {xs : List α} {i : Nat} {x : α} (hi : xs[i]? = some x) (h : p x = false) : xs.all p = false := by
  rw [List.all_eq_false]; exact ⟨x, List.mem_of_getElem? hi, by simp [h]⟩
theorem sizeLM_app (xs ys : List JV) (n : Int) (h : sizeLM xs n ≤ 2000) : sizeLM (xs ++ ys) n = sizeLM ys (sizeLM xs n) := by
  induction xs generalizing n with
  | nil => rfl
  | cons x xs ih =>
    simp only [List.cons_append, sizeLM] at h ⊢
    split at h
    · rename_i hn; rw [if_pos hn, if_pos hn]; exact ih _ h
    · rename_i hn; exact absurd h hn
theorem sizeLM_stop (xs ys : List JV) (n : Int) (h : ¬ sizeLM xs n ≤ 2000) : sizeLM (xs ++ ys) n = sizeLM xs n := by
  induction xs generalizing n with
  | nil =>
    simp only [sizeLM] at h
    cases ys with
    | nil => rfl
    | cons y ys => simp only [List.nil_append, sizeLM]; rw [if_neg h]
  | cons x xs ih =>
    simp only [List.cons_append, sizeLM] at h ⊢
    split at h
    · rename_i hn; rw [if_pos hn, if_pos hn]; exact ih _ h
    · rename_i hn; rw [if_neg hn, if_neg hn]
/-- the place of a key -/
def idxK : List Str → Str → Option Nat
  | [], _ => none
  | a :: r, k => if a = k then some 0 else (idxK r k).map (· + 1)
theorem idxK_hit {ks : List Str} {k : Str} {i : Nat} (h : idxK (ks.take i) k = none) (hi : ks[i]? = some k) : idxK ks k = some i := by
  induction ks generalizing i with
  | nil => simp at hi
  | cons a r ih =>
    cases i with
    | zero => simp only [List.getElem?_cons_zero, Option.some.injEq] at hi; simp [idxK, hi]
    | succ i =>
      simp only [List.getElem?_cons_succ] at hi
      simp only [List.take_succ_cons, idxK] at h ⊢
      split at h
      · cases h
      · rename_i hn
        rw [if_neg hn, ih (by simpa using h) hi]; rfl
theorem idxK_miss {ks : List Str} {k x : Str} {i : Nat} (h : idxK (ks.take i) k = none) (hi : ks[i]? = some x) (hx : x ≠ k) : idxK (ks.take (i + 1)) k = none := by
  induction ks generalizing i with
  | nil => simp at hi
  | cons a r ih =>
    cases i with
    | zero => simp only [List.getElem?_cons_zero, Option.some.injEq] at hi; simp [idxK, hi, hx]
    | succ i =>
      simp only [List.getElem?_cons_succ] at hi
      simp only [List.take_succ_cons, idxK] at h ⊢
      split at h
      · cases h
      · rename_i hn
        rw [if_neg hn, ih (by simpa using h) hi]; rfl
theorem idxK_spec {ks : List Str} {k : Str} {i : Nat} (h : idxK ks k = some i) : ks[i]? = some k := by
  induction ks generalizing i with
  | nil => cases h
  | cons a r ih =>
    simp only [idxK] at h
    split at h
    · rename_i e; cases h; simp [e]
    · rw [Option.map_eq_some_iff] at h
      obtain ⟨j, hj, rfl⟩ := h
      simpa using ih hj
theorem idxK_none {ks : List Str} {k : Str} : idxK ks k = none ↔ k ∉ ks := by
  induction ks with
  | nil => simp [idxK]
  | cons a r ih =>
    simp only [idxK, List.mem_cons, not_or]
    split
    · rename_i e; simp [e]
    · rename_i e; simp only [Option.map_eq_none_iff, ih]
      exact ⟨fun h => ⟨fun e' => e e'.symm, h⟩, fun h => h.2⟩
def idxI (ks : List Str) (k : Str) : Int := match idxK ks k with | some i => i | none => -1
def getM (v : JV) (k : Str) : Option JV := if v.k = 6 then (match idxK v.ks k with | some i => v.xs[i]? | none => none) else none
/-- without a key -/
def dropP (l : List (Str × JV)) (k : Str) : List (Str × JV) := l.filter fun p => !decide (p.1 = k)
def mkO (l : List (Str × JV)) : JV := .mk 6 false [] (l.map (·.2)) (l.map (·.1))
def dropM (v : JV) (k : Str) : JV := if v.k = 6 then mkO (dropP (v.ks.zip v.xs) k) else v
/-- with a key: ahead of the first that is greater -/
def insP : List (Str × JV) → Str → JV → List (Str × JV)
  | [], k, x => [(k, x)]
  | (a, y) :: r, k, x => if Op.bytesLess k a then (k, x) :: (a, y) :: r else (a, y) :: insP r k x
def putM (v : JV) (k : Str) (x : JV) : JV := if v.k = 6 then mkO (insP (dropP (v.ks.zip v.xs) k) k x) else mkO [(k, x)]
/-- what of two values a key tells apart -/
def differsM (a b : JV) (k : Str) : Bool := !((getM a k).isSome == (getM b k).isSome) || !sameM ((getM a k).getD JV.null) ((getM b k).getD JV.null) || !knownM ((getM a k).getD JV.null) || !knownM ((getM b k).getD JV.null)
/-- two rising lists made one -/
def mrg : List Str → List Str → List Str
  | [], ys => ys
  | x :: xs, [] => x :: xs
  | x :: xs, y :: ys => if Op.bytesLess x y then x :: mrg xs (y :: ys) else if x = y then y :: mrg xs ys else y :: mrg (x :: xs) ys
termination_by xs ys => xs.length + ys.length
theorem mrg_nil (xs : List Str) : mrg xs [] = xs := by cases xs <;> simp [mrg]
/-- what the two lists' front gives -/
def selK : List Str → List Str → Option Str
  | [], [] => none
  | [], b :: _ => some b
  | a :: _, [] => some a
  | a :: _, b :: _ => if Op.bytesLess a b then some a else some b
theorem mrg_sel {as bs : List Str} {k : Str} (h : selK as bs = some k) : mrg as bs = k :: mrg (if as.head? = some k then as.tail else as) (if bs.head? = some k then bs.tail else bs) := by
  have irr : ∀ a : Str, Op.bytesLess a a = false := fun a => by
    induction a with
    | nil => rfl
    | cons x a ih => simp [Op.bytesLess, ih]
  cases as with
  | nil =>
    cases bs with
    | nil => simp [selK] at h
    | cons b bs => simp only [selK, Option.some.injEq] at h; subst h; simp [mrg]
  | cons a as =>
    cases bs with
    | nil => simp only [selK, Option.some.injEq] at h; subst h; simp [mrg, mrg_nil]
    | cons b bs =>
      simp only [selK] at h
      simp only [mrg, List.head?_cons, Option.some.injEq, List.tail_cons]
      split at h
      · rename_i hl
        have e := Option.some.inj h
        subst e
        have : b ≠ a := by rintro rfl; rw [irr] at hl; cases hl
        rw [if_pos hl, if_pos rfl, if_neg this]
      · rename_i hl
        have e := Option.some.inj h
        subst e
        rw [if_neg hl, if_pos rfl]
        by_cases e : a = b
        · rw [if_pos e, if_pos e]
        · rw [if_neg e, if_neg e]
def newB : Str := [110, 101, 119, 95]
def forcesM (k : Str) : Bool := decide (4 ≤ k.length) && decide (k.take 4 = [110, 101, 119, 95])
def chooseM (there : Bool) (l : List Str) (swap : Bool) : Int := if there then (if l = [] then 0 else if l.any forcesM then (if swap then 4 else 3) else 2) else 1
theorem take_ne {α : Type} [DecidableEq α] {a b : List α} {i : Nat} {x y : α} (hx : a[i]? = some x) (hy : b[i]? = some y) (h : x ≠ y) : a ≠ b := by
  rintro rfl; rw [hx] at hy; cases hy; exact h rfl
theorem take_eq {α : Type} {a b : List α} {i : Nat} {x : α} (h : a.take i = b.take i) (hx : a[i]? = some x) (hy : b[i]? = some x) : a.take (i + 1) = b.take (i + 1) := by
  rw [List.take_add_one, List.take_add_one, h, hx, hy]
theorem sameL_take {xs ys : List JV} (hl : xs.length = ys.length) {i : Nat} {x y : JV} (hx : xs[i]? = some x) (hy : ys[i]? = some y) (h : sameM x y = false) : sameL xs ys = false := by
  cases hs : sameL xs ys with
  | false => rfl
  | true =>
    have := (sameL_iff _ _).1 hs
    subst this
    rw [hx] at hy
    cases hy
    rw [(same_iff x x).2 rfl] at h; cases h
end Go.Eng
