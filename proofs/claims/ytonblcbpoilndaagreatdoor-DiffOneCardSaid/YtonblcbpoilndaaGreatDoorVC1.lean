/- One plain sentence: copies of values lie in new memory. Conditions: those that each states. -/
import Derived.Test.YtonblcbpoilndaaGreatDoorVN4
set_option linter.all false
set_option linter.unusedSimpArgs false
set_option linter.unusedVariables false
set_option linter.unusedSectionVars false
namespace Go.Proofs.YtonblcbpoilndaaGreatDoor
open Go Go.Eng Go.Num
set_option maxRecDepth 100000

def inG (G : Nat → Prop) (v : Value) : Prop := ∀ k, v.ownBlock = some k → G k
mutual
/-- a value all whose lists lie in blocks of G -/
def VRepP (G : Nat → Prop) (w : World) : JV → List Value → Prop
  | .mk k b t xs ks, cs => ∃ sv kv T1 T2 L, cs = [i64 k, .bool b, str t, sv, kv] ∧ SlAt w T1 sv xs.length L ∧ VRepsP G w xs L ∧ SlAt w T2 kv ks.length (ks.map str) ∧ Fits xs.length ks t ∧ (L ≠ [] → inG G sv) ∧ (ks.map str ≠ [] → inG G kv)
def VRepsP (G : Nat → Prop) (w : World) : List JV → List Value → Prop
  | [], L => L = []
  | x :: xs, L => ∃ c r, L = c ++ r ∧ VRepP G w x c ∧ VRepsP G w xs r
end
theorem slat_chgG {S G : Nat → Prop} {w w' : World} {T : TypeId} {v : Value} {n : Nat} {cs : List Value} (h : SlAt w T v n cs) (hg : cs ≠ [] → inG G v) (hc : Chg S w w') (hS : ∀ k, G k → k < w.heap.size → ¬ S k) : SlAt w' T v n cs := by
  obtain ⟨p, cap, rfl, h1, h2, h3⟩ := h
  refine ⟨p, cap, rfl, h1, h2, fun hne => ?_⟩
  obtain ⟨b, off, c, fr, rfl, hb, hcs⟩ := h3 hne
  exact ⟨b, off, c, fr, rfl, hc.at hb (hS b (hg hne b rfl) (at_lt hb)), hcs⟩
theorem slat_lt {w : World} {T : TypeId} {v : Value} {n : Nat} {cs : List Value} (h : SlAt w T v n cs) (hne : cs ≠ []) : inG (fun k => k < w.heap.size) v := by
  obtain ⟨p, cap, rfl, h1, h2, h3⟩ := h
  obtain ⟨b, off, c, fr, rfl, hb, hcs⟩ := h3 hne
  intro k hk
  cases hk
  exact at_lt hb
mutual
theorem VRepP.chg {S G : Nat → Prop} {w w' : World} (hc : Chg S w w') (hS : ∀ k, G k → k < w.heap.size → ¬ S k) : ∀ {v : JV} {cs : List Value}, VRepP G w v cs → VRepP G w' v cs
  | .mk k b t xs ks, cs, h => by
    simp only [VRepP] at h ⊢
    obtain ⟨sv, kv, T1, T2, L, rfl, h1, h2, h3, h4, h5, h6⟩ := h
    exact ⟨sv, kv, T1, T2, L, rfl, slat_chgG h1 h5 hc hS, VRepsP.chg hc hS h2, slat_chgG h3 h6 hc hS, h4, h5, h6⟩
theorem VRepsP.chg {S G : Nat → Prop} {w w' : World} (hc : Chg S w w') (hS : ∀ k, G k → k < w.heap.size → ¬ S k) : ∀ {xs : List JV} {L : List Value}, VRepsP G w xs L → VRepsP G w' xs L
  | [], L, h => by simp only [VRepsP] at h ⊢; exact h
  | x :: xs, L, h => by
    simp only [VRepsP] at h ⊢
    obtain ⟨c, r, rfl, h1, h2⟩ := h
    exact ⟨c, r, rfl, VRepP.chg hc hS h1, VRepsP.chg hc hS h2⟩
end
mutual
theorem VRepP.mono {G G' : Nat → Prop} {w : World} (hG : ∀ k, k < w.heap.size → G k → G' k) : ∀ {v : JV} {cs : List Value}, VRepP G w v cs → VRepP G' w v cs
  | .mk k b t xs ks, cs, h => by
    simp only [VRepP] at h ⊢
    obtain ⟨sv, kv, T1, T2, L, rfl, h1, h2, h3, h4, h5, h6⟩ := h
    exact ⟨sv, kv, T1, T2, L, rfl, h1, VRepsP.mono hG h2, h3, h4, fun hne k hk => hG k (slat_lt h1 hne k hk) (h5 hne k hk), fun hne k hk => hG k (slat_lt h3 hne k hk) (h6 hne k hk)⟩
theorem VRepsP.mono {G G' : Nat → Prop} {w : World} (hG : ∀ k, k < w.heap.size → G k → G' k) : ∀ {xs : List JV} {L : List Value}, VRepsP G w xs L → VRepsP G' w xs L
  | [], L, h => by simp only [VRepsP] at h ⊢; exact h
  | x :: xs, L, h => by
    simp only [VRepsP] at h ⊢
    obtain ⟨c, r, rfl, h1, h2⟩ := h
    exact ⟨c, r, rfl, VRepP.mono hG h1, VRepsP.mono hG h2⟩
end
mutual
theorem VRepP.rep {G : Nat → Prop} {w : World} : ∀ {v : JV} {cs : List Value}, VRepP G w v cs → VRep w v cs
  | .mk k b t xs ks, cs, h => by
    simp only [VRepP] at h
    simp only [VRep]
    obtain ⟨sv, kv, T1, T2, L, rfl, h1, h2, h3, h4, h5, h6⟩ := h
    exact ⟨sv, kv, T1, T2, L, rfl, h1, VRepsP.rep h2, h3, h4⟩
theorem VRepsP.rep {G : Nat → Prop} {w : World} : ∀ {xs : List JV} {L : List Value}, VRepsP G w xs L → VReps w xs L
  | [], L, h => by simp only [VRepsP] at h; simp only [VReps]; exact h
  | x :: xs, L, h => by
    simp only [VRepsP] at h
    simp only [VReps]
    obtain ⟨c, r, rfl, h1, h2⟩ := h
    exact ⟨c, r, rfl, VRepP.rep h1, VRepsP.rep h2⟩
end
theorem VRepsP.snoc {G : Nat → Prop} {w : World} : ∀ {xs : List JV} {x : JV} {L cs : List Value}, VRepsP G w xs L → VRepP G w x cs → VRepsP G w (xs ++ [x]) (L ++ cs)
  | [], x, L, cs, h, hx => by
    simp only [VRepsP] at h
    subst h
    simp only [List.nil_append, VRepsP]
    exact ⟨cs, [], by simp, hx, rfl⟩
  | y :: xs, x, L, cs, h, hx => by
    simp only [VRepsP] at h
    obtain ⟨c, r, rfl, h1, h2⟩ := h
    simp only [List.cons_append, VRepsP]
    exact ⟨c, r ++ cs, by simp, h1, VRepsP.snoc h2 hx⟩
theorem VRepP.mk {G : Nat → Prop} {w : World} {v : JV} {sv kv : Value} {T1 T2 : TypeId} {L : List Value} (h1 : SlAt w T1 sv v.xs.length L) (h2 : VRepsP G w v.xs L) (h3 : SlAt w T2 kv v.ks.length (v.ks.map str)) (h4 : Fits v.xs.length v.ks v.t) (h5 : L ≠ [] → inG G sv) (h6 : v.ks.map str ≠ [] → inG G kv) : VRepP G w v [i64 v.k, .bool v.b, str v.t, sv, kv] := by
  cases v with
  | mk k b t xs ks => simp only [VRepP]; exact ⟨sv, kv, T1, T2, L, rfl, h1, h2, h3, h4, h5, h6⟩
abbrev From (n : Nat) : Nat → Prop := fun k => n ≤ k
section
variable [HX]
/-- a copy of texts -/
theorem clone_s {v : Value} {T : TypeId} {l : List Str} {w : World} {K : Value → World → Prop} (h : SlAt w T v l.length (l.map str)) (hl : l.length ≤ 1000000)
    (hK : ∀ v' w', Ext w w' → SlAt w' ST v' l.length (l.map str) → inG (From w.heap.size) v' → K v' w') : callF Tryz.prog 127 [v] w K := by
  refine W127_ok ?_
  unfold W127
  obtain ⟨p, cap, rfl, hcap, hp, hc⟩ := h
  cases p with
  | none =>
    obtain ⟨h0, rfl⟩ := hp rfl
    have : l = [] := List.eq_nil_of_length_eq_zero h0
    subst this
    have e : ∀ K : Value → Prop, eqW .slice false (.slice none ([] : List Str).length 0) (.slice none 0 0) K ↔ K (.bool true) := fun K => Iff.rfl
    rw [e]
    simp only [wsv, wsg, wsh, wsl, cond_true, cond_false, exists_eq_left', Option.some.injEq, Option.isSome_some, List.getElem?_toArray, List.getElem?_cons_zero, List.getElem?_cons_succ, List.length_cons, List.length_nil, List.set_cons_zero, List.set_cons_succ, List.getD_cons_zero, List.getD_cons_succ, Nat.zero_add, Nat.add_zero, Nat.reduceAdd, Nat.reduceLT, Nat.lt_add_one, Nat.zero_lt_succ, decide_true, decide_false, ne_eq, reduceCtorEq]
    exact hK _ w (Chg.refl _ _) (SlAt.nil _ _) (by intro k hk; cases hk)
  | some a =>
    have e : ∀ K : Value → Prop, eqW .slice false (.slice (some a) l.length cap) (.slice none 0 0) K ↔ K (.bool false) := fun K => Iff.rfl
    rw [e]
    unfold bslW
    simp only [wsv, wsg, wsh, wsl, cond_true, cond_false, exists_eq_left', Option.some.injEq, Option.isSome_some, List.getElem?_toArray, List.getElem?_cons_zero, List.getElem?_cons_succ, List.length_cons, List.length_nil, List.set_cons_zero, List.set_cons_succ, List.getD_cons_zero, List.getD_cons_succ, Nat.zero_add, Nat.add_zero, Nat.reduceAdd, Nat.reduceLT, Nat.lt_add_one, Nat.zero_lt_succ, decide_true, decide_false, ne_eq, reduceCtorEq]
    refine append_own3 elem_s (base := w.heap.size) (own_new (w := w) (base := w.heap.size) (e := ST) (size := 1) (n := 0) (cs := []) (Nat.le_refl _) rfl (by omega)) (x := .slice (some a) l.length cap) (T := T) (m := l.length) (news := l.map str) ?_ (by simp) ?_ (by omega) (by omega) (by rw [size_alloc]; omega) fun v' w' h' hc' hb' => ?_
    · have hx : Ext w (w.alloc (.cells ([] : List Value).toArray ST)) := (by repeat (first | assumption | exact Chg.refl _ _ | refine Chg.drew ?_ | refine Chg.alloc ?_ _ | refine Chg.set ?_ (by first | exact .inl rfl | exact .inr (by omega) | exact .inr (by simp only [size_set, size_alloc, size_drew]; omega) | (left; simp; done)) _ | exact Chg.of_ext (by assumption)))
      exact SlAt.ext ⟨some a, cap, rfl, hcap, hp, hc⟩ hx
    · intro u hu
      obtain ⟨s, _, rfl⟩ := List.mem_map.1 hu
      rfl
    · have hx : Ext w (w.alloc (.cells ([] : List Value).toArray ST)) := (by repeat (first | assumption | exact Chg.refl _ _ | refine Chg.drew ?_ | refine Chg.alloc ?_ _ | refine Chg.set ?_ (by first | exact .inl rfl | exact .inr (by omega) | exact .inr (by simp only [size_set, size_alloc, size_drew]; omega) | (left; simp; done)) _ | exact Chg.of_ext (by assumption)))
      refine hK v' w' (hx.then hc' fun k hk e => ?_) (by simpa using h'.sl) fun k hk => (h'.block k hk).1
      simp only [Value.ownBlock, Option.some.injEq] at e
      omega

theorem clones_p {xs : List JV} (hcl : ∀ x ∈ xs, ∀ {cs : List Value} {w : World} {K : Value → World → Prop}, VRep w x cs → (∀ cs' w', Ext w w' → VRepP (From w.heap.size) w' x cs' → K (.agg cs'.toArray) w') → callF Tryz.prog 86 [.agg cs.toArray] w K)
    {sv : Value} {w : World} {K : Value → World → Prop} (h : ItemsAt w sv xs) (hl : xs.length ≤ 1000000)
    (hK : ∀ sv' w', Ext w w' → (∃ L, SlAt w' VT sv' xs.length L ∧ VRepsP (From w.heap.size) w' xs L) → inG (From w.heap.size) sv' → K sv' w') : callF Tryz.prog 128 [sv] w K := by
  refine W128_ok ?_
  unfold W128
  rw [h.len]
  refine ⟨fun s w' => ∃ i v L, i ≤ xs.length ∧ s = [v, i64 (i : Nat)] ∧ Ext w w' ∧ Own w' w.heap.size VT 5 v i L ∧ VRepsP (fun k => w.heap.size ≤ k ∧ v.ownBlock ≠ some k) w' (xs.take i) L,
    fun s _ => match s with | [_, .int _ i] => xs.length - i.toNat | _ => 0, ⟨0, _, [], by omega, rfl, Chg.refl _ _, ⟨by simp, .inl ⟨rfl, rfl⟩⟩, by simp [VRepsP]⟩, ?_⟩
  rintro s g w2 ⟨i, v, L, hi, rfl, hx2, hO, hr⟩
  rcases Nat.lt_or_ge i xs.length with hlt | hge
  · obtain ⟨x, hxi⟩ : ∃ x, xs[i]? = some x := ⟨_, List.getElem?_eq_getElem hlt⟩
    have hltI : (i : Int) < (xs.length : Int) := by omega
    simp only [wsv, wsg, wsh, wsl, cond_true, cond_false, exists_eq_left', Option.some.injEq, Option.isSome_some, List.getElem?_toArray, List.getElem?_cons_zero, List.getElem?_cons_succ, List.length_cons, List.length_nil, List.set_cons_zero, List.set_cons_succ, List.getD_cons_zero, List.getD_cons_succ, Nat.zero_add, Nat.add_zero, Nat.reduceAdd, Nat.reduceLT, Nat.lt_add_one, Nat.zero_lt_succ, decide_true, decide_false, ne_eq, reduceCtorEq, hltI]
    refine (h.ext hx2).at hxi fun cs hcs => ?_
    refine copy_new hcs fun p w3 sp kp hP hx3 => ?_
    refine hP.ld fun cs2 h2 => ?_
    refine hcl x (List.mem_of_getElem? hxi) h2 fun cs3 w4 hx4 h3 => ?_
    refine row_v h3.rep.len fun t w5 ht hx5 => ?_
    have hx25 := hx3.trans (hx4.trans hx5)
    have hO5 := hO.ext hx25
    have s0 := hx2.size
    have s3 := hx3.size
    have s25 := hx25.size
    have hglt : ∀ k, v.ownBlock = some k → k < w2.heap.size := fun k hk => (World.ownsRow.lt hO k hk).2
    refine append_own3 elem_v hO5 ht (m := 1) (by rw [h3.rep.len]) h3.rep.one (by omega) (by omega) (by omega) fun v' w6 h6 hc6 hb6 => ?_
    have hx6 : Ext w w6 := (hx2.trans hx25).then hc6 fun k hk e => by
      have := (own_ge hO5 e).1; omega
    rw [up1 (by omega)]
    refine ⟨⟨i + 1, v', L ++ cs3, hlt, rfl, hx6, h6, ?_⟩, by simp only [Int.toNat_natCast]; omega⟩
    have e : xs.take (i + 1) = xs.take i ++ [x] := by rw [List.take_add_one, hxi]; rfl
    rw [e]
    have hr5 := VRepsP.chg hx25 (fun _ _ _ e => e) hr
    have h35 := VRepP.chg hx5 (fun _ _ _ e => e) h3
    have hall : VRepsP (fun k => w.heap.size ≤ k ∧ v.ownBlock ≠ some k) w5 (xs.take i ++ [x]) (L ++ cs3) :=
      hr5.snoc (h35.mono fun k _ hk => ⟨by have : w3.heap.size ≤ k := hk; omega, fun e => by have := hglt k e; have : w3.heap.size ≤ k := hk; omega⟩)
    have hall2 : VRepsP (fun k => (w.heap.size ≤ k ∧ v.ownBlock ≠ some k) ∧ k < w5.heap.size) w5 (xs.take i ++ [x]) (L ++ cs3) := hall.mono fun k hlt hk => ⟨hk, hlt⟩
    have hall3 := VRepsP.chg hc6 (fun k hk _ e => hk.1.2 e) hall2
    exact hall3.mono fun k _ hk => ⟨hk.1.1, fun e => by
      rcases hb6 k e with h | h
      · exact hk.1.2 h
      · omega⟩
  · obtain rfl : i = xs.length := by omega
    simp only [wsv, wsg, wsh, wsl, cond_true, cond_false, exists_eq_left', Option.some.injEq, Option.isSome_some, List.getElem?_toArray, List.getElem?_cons_zero, List.getElem?_cons_succ, List.length_cons, List.length_nil, List.set_cons_zero, List.set_cons_succ, List.getD_cons_zero, List.getD_cons_succ, Nat.zero_add, Nat.add_zero, Nat.reduceAdd, Nat.reduceLT, Nat.lt_add_one, Nat.zero_lt_succ, decide_true, decide_false, ne_eq, reduceCtorEq, Int.lt_irrefl]
    rw [List.take_length] at hr
    exact hK v w2 hx2 ⟨L, hO.sl, hr.mono fun k _ hk => hk.1⟩ fun k hk => (hO.block k hk).1
end
end Go.Proofs.YtonblcbpoilndaaGreatDoor
