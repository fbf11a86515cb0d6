/- One plain sentence: plain laws of one key: what a key put or dropped turns, and at which keys two values differ. Conditions: those that each states. -/
import Derived.Test.YtonblcbpoilndaaGreatDoorVL5
set_option linter.all false
set_option linter.unusedSimpArgs false
set_option linter.unusedVariables false
set_option linter.unusedSectionVars false
namespace Go.Proofs.YtonblcbpoilndaaGreatDoor
open Go Go.Eng Go.Num
set_option maxRecDepth 100000
def lookP (l : List (Str × JV)) (x : Str) : Option JV := match l with
  | [] => none
  | p :: r => if p.1 = x then some p.2 else lookP r x
theorem get_look (l : List (Str × JV)) (x : Str) : getM (mkO l) x = lookP l x := by
  have h : ∀ l : List (Str × JV), (match idxK (l.map (·.1)) x with | some i => (l.map (·.2))[i]? | none => none) = lookP l x := by
    intro l
    induction l with
    | nil => rfl
    | cons p r ih =>
      rw [lookP, ← ih]
      simp only [List.map_cons, idxK]
      by_cases h : p.1 = x
      · rw [if_pos h, if_pos h]; rfl
      · rw [if_neg h, if_neg h]
        cases idxK (r.map (·.1)) x with
        | none => rfl
        | some i => simp
  have := h l
  unfold getM
  rw [if_pos (show (mkO l).k = 6 from rfl)]
  exact this
theorem get_zip {v : JV} (hk : v.k = 6) (hl : v.ks.length = v.xs.length) (x : Str) : getM v x = lookP (v.ks.zip v.xs) x := by
  rw [← get_look]
  unfold getM
  rw [if_pos hk, if_pos (show (mkO (v.ks.zip v.xs)).k = 6 from rfl)]
  have e1 : (mkO (v.ks.zip v.xs)).ks = v.ks := by show (v.ks.zip v.xs).map (·.1) = _; exact List.map_fst_zip (by omega)
  have e2 : (mkO (v.ks.zip v.xs)).xs = v.xs := by show (v.ks.zip v.xs).map (·.2) = _; exact List.map_snd_zip (by omega)
  rw [e1, e2]
theorem look_drop (l : List (Str × JV)) (k x : Str) : lookP (dropP l k) x = if x = k then none else lookP l x := by
  induction l with
  | nil => simp [dropP, lookP]
  | cons p r ih =>
    simp only [dropP, List.filter_cons] at ih ⊢
    by_cases h : p.1 = k
    · rw [decide_eq_true h, Bool.not_true, if_neg (by simp), ih, lookP]
      by_cases h2 : x = k
      · rw [if_pos h2, if_pos h2]
      · rw [if_neg h2, if_neg h2, if_neg (fun e => h2 (e.symm.trans h))]
    · rw [decide_eq_false h, Bool.not_false, if_pos rfl, lookP, ih, lookP]
      by_cases h2 : x = k
      · rw [if_pos h2, if_pos h2, if_neg (fun e => h (e.trans h2))]
      · rw [if_neg h2, if_neg h2]
theorem look_ins {l : List (Str × JV)} {k : Str} {t : JV} (x : Str) (h : ∀ p ∈ l, p.1 ≠ k) : lookP (insP l k t) x = if x = k then some t else lookP l x := by
  induction l with
  | nil =>
    simp only [insP, lookP]
    by_cases h2 : x = k
    · rw [if_pos h2, if_pos h2.symm]
    · rw [if_neg h2, if_neg (fun e => h2 e.symm)]
  | cons p r ih =>
    obtain ⟨a, y⟩ := p
    simp only [insP]
    have ha : a ≠ k := h (a, y) List.mem_cons_self
    have ih := ih fun p hp => h p (List.mem_cons_of_mem _ hp)
    split
    · rw [lookP]
      by_cases h2 : x = k
      · rw [if_pos h2, if_pos h2.symm]
      · rw [if_neg h2, if_neg (fun e => h2 e.symm)]
    · rw [lookP, ih, lookP]
      by_cases h2 : x = k
      · rw [if_pos h2, if_pos h2, if_neg (fun e => ha (e.trans h2))]
      · rw [if_neg h2, if_neg h2]
theorem dropP_ne (l : List (Str × JV)) (k : Str) : ∀ p ∈ dropP l k, p.1 ≠ k := by
  intro p hp
  have := (List.mem_filter.1 hp).2
  simpa using this
theorem put_get {v t : JV} {k : Str} (hk : v.k = 6) (hl : v.ks.length = v.xs.length) (x : Str) : getM (putM v k t) x = if x = k then some t else getM v x := by
  unfold putM
  rw [if_pos hk, get_look, look_ins x (dropP_ne _ _), look_drop, get_zip hk hl]
  by_cases h2 : x = k
  · rw [if_pos h2, if_pos h2]
  · rw [if_neg h2, if_neg h2, if_neg h2]
theorem drop_get {o : JV} {k : Str} (hk : o.k = 6) (hl : o.ks.length = o.xs.length) (x : Str) : getM (mkO (dropP (o.ks.zip o.xs) k)) x = if x = k then none else getM o x := by
  rw [get_look, look_drop, get_zip hk hl]
theorem get_mem {o x : JV} {k : Str} (h : getM o k = some x) : k ∈ o.ks ∧ x ∈ o.xs := by
  unfold getM at h
  split at h
  · split at h
    · rename_i i hi
      exact ⟨List.mem_of_getElem? (idxK_spec hi), List.mem_of_getElem? h⟩
    · cases h
  · cases h
theorem known_get {v : JV} (h : knownM v = true) (x : Str) : knownM ((getM v x).getD JV.null) = true := by
  cases hg : getM v x with
  | none => rfl
  | some y =>
    rw [knownM_eq, Bool.and_eq_true, knownL_all, List.all_eq_true] at h
    exact h.2 y (get_mem hg).2
/-- the one key at which two values differ -/
theorem only_key {a b : JV} {k : Str} (ga : GoodV a) (gb : GoodV b) (h1 : ∀ x, x ≠ k → getM a x = getM b x) (h2 : ∀ x, x ≠ k → knownM ((getM a x).getD JV.null) = true) (h3 : differsM a b k = true) (h4 : k ∈ a.ks ∨ k ∈ b.ks) :
    (mrg a.ks b.ks).filter (differsM a b) = [k] := by
  have ra := keysOk_rise ga.lens.2.2.2.1
  have rb := keysOk_rise gb.lens.2.2.2.1
  refine rise_ext ((mrg_rise ra rb).sublist List.filter_sublist) (List.pairwise_singleton _ _) fun x => ?_
  rw [List.mem_filter, List.mem_singleton, mrg_mem]
  constructor
  · rintro ⟨_, hd⟩
    refine Classical.byContradiction fun hne => ?_
    have e1 := h1 x hne
    have e2 := h2 x hne
    unfold differsM at hd
    rw [← e1, e2, (same_iff _ _).2 rfl] at hd
    simp at hd
  · rintro rfl
    exact ⟨h4, h3⟩
theorem insP_mem {l : List (Str × JV)} {k : Str} {t : JV} : ∀ p, p ∈ insP l k t ↔ p = (k, t) ∨ p ∈ l := by
  induction l with
  | nil => intro p; simp [insP]
  | cons q r ih =>
    obtain ⟨a, y⟩ := q
    intro p
    simp only [insP]
    split
    · rw [List.mem_cons]
    · rw [List.mem_cons, ih p, List.mem_cons]
      constructor
      · rintro (h | h | h)
        · exact .inr (.inl h)
        · exact .inl h
        · exact .inr (.inr h)
      · rintro (h | h | h)
        · exact .inr (.inl h)
        · exact .inl h
        · exact .inr (.inr h)
theorem insP_keys (l : List (Str × JV)) (k : Str) (t t' : JV) : (insP l k t).map (·.1) = (insP l k t').map (·.1) := by
  induction l with
  | nil => rfl
  | cons q r ih =>
    obtain ⟨a, y⟩ := q
    simp only [insP]
    split
    · rfl
    · simp only [List.map_cons, ih]
theorem keysOk_of : ∀ {ks : List Str}, Rise ks → (∀ k ∈ ks, k.length ≤ 16384) → keysOk ks = true
  | [], _, _ => rfl
  | [a], _, h => by simp only [keysOk, decide_eq_true_eq]; exact h a (by simp)
  | a :: b :: r, hr, h => by
    have hr' := List.pairwise_cons.1 hr
    simp only [keysOk, Bool.and_eq_true, decide_eq_true_eq]
    exact ⟨⟨h a (by simp), hr'.1 b (by simp)⟩, keysOk_of hr'.2 fun k hk => h k (List.mem_cons_of_mem _ hk)⟩
theorem good_mkO {l : List (Str × JV)} (h1 : keysOk (l.map (·.1)) = true) (h2 : l.length ≤ 100000) (h3 : ∀ p ∈ l, GoodV p.2) : GoodV (mkO l) := by
  constructor
  · rw [plainM_eq, Bool.and_eq_true, plainL_all, List.all_eq_true]
    refine ⟨?_, fun x hx => ?_⟩
    · show headOk 6 false [] (l.map (·.2)).length (l.map (·.1)) = true
      unfold headOk
      rw [h1]
      simp
    · obtain ⟨p, hp, rfl⟩ := List.mem_map.1 hx
      exact (h3 p hp).plain
  · rw [fewM_eq, fewL_all]
    simp only [Bool.and_eq_true, decide_eq_true_eq, List.all_eq_true]
    refine ⟨⟨?_, ?_⟩, fun x hx => ?_⟩
    · show (l.map (·.2)).length ≤ _; simpa using h2
    · show (l.map (·.1)).length ≤ _; simpa using h2
    · obtain ⟨p, hp, rfl⟩ := List.mem_map.1 hx
      exact (h3 p hp).few
theorem good_pairs {l : List (Str × JV)} (h : GoodV (mkO l)) : keysOk (l.map (·.1)) = true ∧ l.length ≤ 100000 ∧ ∀ p ∈ l, GoodV p.2 := by
  obtain ⟨h1, h2, _, h4, _⟩ := h.lens
  refine ⟨h4, ?_, fun p hp => h.item (List.mem_map.2 ⟨p, hp, rfl⟩)⟩
  have : (l.map (·.1)).length ≤ 100000 := h2
  simpa using this
theorem good_swap {l : List (Str × JV)} {k : Str} {t t' : JV} (h : GoodV (mkO (insP l k t))) (ht : GoodV t') : GoodV (mkO (insP l k t')) := by
  obtain ⟨h1, h2, h3⟩ := good_pairs h
  rw [insP_keys l k t t'] at h1
  have e : (insP l k t').length = (insP l k t).length := by
    have := congrArg List.length (insP_keys l k t t')
    simpa using this.symm
  refine good_mkO h1 (by omega) fun p hp => ?_
  rcases (insP_mem p).1 hp with rfl | hp
  · exact ht
  · exact h3 p ((insP_mem p).2 (.inr hp))
theorem good_put {v t t' : JV} {k : Str} (h : GoodV (putM v k t)) (ht : GoodV t') : GoodV (putM v k t') := by
  unfold putM at h ⊢
  split at h
  · rename_i e; rw [if_pos e]; exact good_swap h ht
  · rename_i e; rw [if_neg e]; exact good_swap (l := []) h ht
theorem good_drop {o : JV} {k : Str} (h : GoodV o) : GoodV (mkO (dropP (o.ks.zip o.xs) k)) := by
  obtain ⟨h1, h2, h3, h4, _⟩ := h.lens
  have hs : ((dropP (o.ks.zip o.xs) k).map (·.1)).Sublist ((o.ks.zip o.xs).map (·.1)) := List.filter_sublist.map _
  have hs2 : ((o.ks.zip o.xs).map (·.1)).Sublist o.ks := by
    have : ∀ (a : List Str) (b : List JV), ((a.zip b).map (·.1)).Sublist a := by
      intro a
      induction a with
      | nil => intro b; simp
      | cons x a ih =>
        intro b
        cases b with
        | nil => simp
        | cons y b => simp only [List.zip_cons_cons, List.map_cons]; exact (ih b).cons₂ x
    exact this _ _
  have hss := hs.trans hs2
  refine good_mkO (keysOk_of ((keysOk_rise h4).sublist hss) fun k hk => keysOk_len h4 k (hss.subset hk)) ?_ fun p hp => ?_
  · have := hss.length_le
    rw [List.length_map] at this
    omega
  · have hp := (List.mem_filter.1 hp).1
    exact h.item (List.of_mem_zip hp).2
end Go.Proofs.YtonblcbpoilndaaGreatDoor
