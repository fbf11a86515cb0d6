/- One plain sentence: values of the program as trees, and what a tree looks like in memory. Conditions: those that each law states. -/
import Derived.Test.YtonblcbpoilndaaGreatDoorLib4
set_option linter.all false
set_option linter.unusedSimpArgs false
set_option linter.unusedVariables false
set_option linter.unusedSectionVars false
namespace Go.Eng
open Go

inductive JV where
  | mk (k : Int) (b : Bool) (t : Str) (xs : List JV) (ks : List Str)
namespace JV
def k : JV → Int | .mk k _ _ _ _ => k
def b : JV → Bool | .mk _ b _ _ _ => b
def t : JV → Str | .mk _ _ t _ _ => t
def xs : JV → List JV | .mk _ _ _ xs _ => xs
def ks : JV → List Str | .mk _ _ _ _ ks => ks
theorem eta (v : JV) : v = .mk v.k v.b v.t v.xs v.ks := by cases v; rfl
theorem ind {p : JV → Prop} (h : ∀ k b t xs ks, (∀ x ∈ xs, p x) → p (.mk k b t xs ks)) (v : JV) : p v :=
  JV.rec (motive_1 := p) (motive_2 := fun l => ∀ x ∈ l, p x) (fun k b t xs ks ih => h k b t xs ks ih) (by intro x hx; cases hx)
    (fun x l hx hl y hy => by rcases List.mem_cons.1 hy with rfl | hy; exact hx; exact hl y hy) v
/-- nothing -/
def null : JV := .mk 0 false [] [] []
end JV

/-- no longer than Go's lists and texts are -/
def Fits (n : Nat) (ks : List Str) (t : Str) : Prop := n ≤ 9223372036854775807 ∧ ks.length ≤ 9223372036854775807 ∧ t.length ≤ 9223372036854775807 ∧ ∀ s ∈ ks, s.length ≤ 9223372036854775807
mutual
/-- the five cells of a value -/
def VRep (w : World) : JV → List Value → Prop
  | .mk k b t xs ks, cs => ∃ sv kv T1 T2 L, cs = [i64 k, .bool b, str t, sv, kv] ∧ SlAt w T1 sv xs.length L ∧ VReps w xs L ∧ SlAt w T2 kv ks.length (ks.map str) ∧ Fits xs.length ks t
/-- the cells of a row of values -/
def VReps (w : World) : List JV → List Value → Prop
  | [], L => L = []
  | x :: xs, L => ∃ c r, L = c ++ r ∧ VRep w x c ∧ VReps w xs r
end
theorem VRep.out {w : World} {v : JV} {cs : List Value} (h : VRep w v cs) : ∃ sv kv T1 T2 L, cs = [i64 v.k, .bool v.b, str v.t, sv, kv] ∧ SlAt w T1 sv v.xs.length L ∧ VReps w v.xs L ∧ SlAt w T2 kv v.ks.length (v.ks.map str) ∧ Fits v.xs.length v.ks v.t := by
  cases v with
  | mk k b t xs ks => simpa only [VRep, JV.k, JV.b, JV.t, JV.xs, JV.ks] using h
theorem VRep.mk {w : World} {v : JV} {sv kv : Value} {T1 T2 : TypeId} {L : List Value} (h1 : SlAt w T1 sv v.xs.length L) (h2 : VReps w v.xs L) (h3 : SlAt w T2 kv v.ks.length (v.ks.map str)) (h4 : Fits v.xs.length v.ks v.t) : VRep w v [i64 v.k, .bool v.b, str v.t, sv, kv] := by
  cases v with
  | mk k b t xs ks => simp only [VRep]; exact ⟨sv, kv, T1, T2, L, rfl, h1, h2, h3, h4⟩
theorem VRep.len {w : World} {v : JV} {cs : List Value} (h : VRep w v cs) : cs.length = 5 := by
  obtain ⟨sv, kv, T1, T2, L, rfl, _⟩ := h.out; rfl
theorem VRep.one {w : World} {v : JV} {cs : List Value} (h : VRep w v cs) : ∀ u ∈ cs, one1 u = true := by
  obtain ⟨sv, kv, T1, T2, L, rfl, h1, _, h3, _⟩ := h.out
  obtain ⟨p, c, rfl, _⟩ := h1.shape
  obtain ⟨p', c', rfl, _⟩ := h3.shape
  intro u hu
  simp only [List.mem_cons, List.not_mem_nil, or_false] at hu
  rcases hu with rfl | rfl | rfl | rfl | rfl <;> rfl
theorem VRep.all_one {w : World} {v : JV} {cs : List Value} (h : VRep w v cs) : cs.all one1 = true := List.all_eq_true.2 h.one
theorem VReps.len {w : World} : ∀ {xs : List JV} {L : List Value}, VReps w xs L → L.length = xs.length * 5
  | [], L, h => by simp only [VReps] at h; subst h; rfl
  | x :: xs, L, h => by
    simp only [VReps] at h
    obtain ⟨c, r, rfl, hc, hr⟩ := h
    rw [List.length_append, hc.len, VReps.len hr, List.length_cons]; omega
theorem VReps.one {w : World} : ∀ {xs : List JV} {L : List Value}, VReps w xs L → ∀ u ∈ L, one1 u = true
  | [], L, h => by simp only [VReps] at h; subst h; intro u hu; cases hu
  | x :: xs, L, h => by
    simp only [VReps] at h
    obtain ⟨c, r, rfl, hc, hr⟩ := h
    intro u hu
    rcases List.mem_append.1 hu with hu | hu
    · exact hc.one u hu
    · exact VReps.one hr u hu
theorem VReps.get {w : World} : ∀ {xs : List JV} {L : List Value} {i : Nat} {x : JV}, VReps w xs L → xs[i]? = some x → ∃ cs, VRep w x cs ∧ ∀ j, j < 5 → L[i * 5 + j]? = cs[j]?
  | [], _, _, _, _, h => by simp at h
  | y :: xs, L, 0, x, h, hx => by
    simp only [List.getElem?_cons_zero, Option.some.injEq] at hx
    subst hx
    simp only [VReps] at h
    obtain ⟨c, r, rfl, hc, hr⟩ := h
    refine ⟨c, hc, fun j hj => ?_⟩
    rw [Nat.zero_mul, Nat.zero_add, List.getElem?_append_left (by rw [hc.len]; exact hj)]
  | y :: xs, L, i + 1, x, h, hx => by
    simp only [List.getElem?_cons_succ] at hx
    simp only [VReps] at h
    obtain ⟨c, r, rfl, hc, hr⟩ := h
    obtain ⟨cs, h1, h2⟩ := VReps.get hr hx
    refine ⟨cs, h1, fun j hj => ?_⟩
    rw [List.getElem?_append_right (by rw [hc.len]; omega), hc.len, ← h2 j hj]
    congr 1; omega
theorem VReps.app {w : World} : ∀ {xs ys : List JV} {L M : List Value}, VReps w xs L → VReps w ys M → VReps w (xs ++ ys) (L ++ M)
  | [], ys, L, M, h, h' => by simp only [VReps] at h; subst h; exact h'
  | x :: xs, ys, L, M, h, h' => by
    simp only [VReps] at h
    obtain ⟨c, r, rfl, hc, hr⟩ := h
    simp only [List.cons_append, VReps]
    exact ⟨c, r ++ M, by simp, hc, VReps.app hr h'⟩
theorem VReps.one' {w : World} {x : JV} {cs : List Value} (h : VRep w x cs) : VReps w [x] cs := by
  simp only [VReps]; exact ⟨cs, [], by simp, h, rfl⟩
theorem VReps.snoc {w : World} {xs : List JV} {x : JV} {L cs : List Value} (h : VReps w xs L) (hx : VRep w x cs) : VReps w (xs ++ [x]) (L ++ cs) := h.app (VReps.one' hx)

mutual
theorem VRep.ext {w w' : World} (hx : Ext w w') : ∀ {v : JV} {cs : List Value}, VRep w v cs → VRep w' v cs
  | .mk k b t xs ks, cs, h => by
    simp only [VRep] at h ⊢
    obtain ⟨sv, kv, T1, T2, L, rfl, h1, h2, h3, h4⟩ := h
    exact ⟨sv, kv, T1, T2, L, rfl, h1.ext hx, VReps.ext hx h2, h3.ext hx, h4⟩
theorem VReps.ext {w w' : World} (hx : Ext w w') : ∀ {xs : List JV} {L : List Value}, VReps w xs L → VReps w' xs L
  | [], L, h => by simp only [VReps] at h ⊢; exact h
  | x :: xs, L, h => by
    simp only [VReps] at h ⊢
    obtain ⟨c, r, rfl, hc, hr⟩ := h
    exact ⟨c, r, rfl, VRep.ext hx hc, VReps.ext hx hr⟩
end

theorem vrep_null (w : World) : VRep w JV.null [i64 0, .bool false, str [], .slice none 0 0, .slice none 0 0] :=
  VRep.mk (v := JV.null) (T1 := 0) (T2 := 0) (SlAt.nil w 0) (by simp [JV.null, JV.xs, VReps]) (SlAt.nil w 0) (by simp [Fits, JV.null, JV.xs, JV.ks, JV.t])

/-- an element of a row of values -/
theorem item_at {w : World} {T : TypeId} {sv : Value} {xs : List JV} {L : List Value} {k : IntKind} {i : Nat} {x : JV} {K : Value → Prop} (h : SlAt w T sv xs.length L) (hr : VReps w xs L) (hi : xs[i]? = some x)
    (hK : ∀ b o c fr cs, w.heap[b]? = some (.cells c T fr) → VRep w x cs → (∀ j, j < 5 → c[o + j]? = cs[j]?) → K (.pointer (some ⟨b, o, none⟩))) : ixaW none 5 sv (.int k i) K := by
  obtain ⟨cs, hc, hg⟩ := hr.get hi
  refine ixa_at (size := 5) h hr.len (by omega) (List.getElem?_eq_some_iff.1 hi).1 fun b o c fr hb hcc => ?_
  exact hK b o c fr cs hb hc fun j hj => (hcc j hj).trans (hg j hj)
theorem ld_cells {w : World} {b o n : Nat} {c : Array Value} {T : TypeId} {fr : Nat × Nat} {cs : List Value} {K : Value → Prop} (hb : w.heap[b]? = some (.cells c T fr)) (hn : cs.length = n) (hc : ∀ j, j < n → c[o + j]? = cs[j]?) (hK : K (.agg cs.toArray)) :
    ldW true n (.pointer (some ⟨b, o, none⟩)) w K := by
  rw [ld_agg]
  refine ⟨cs, ?_, hK⟩
  have key : ∀ (m i : Nat), i + m = n → cellsAt w ⟨b, o, none⟩ i m = some (cs.drop i) := by
    intro m
    induction m with
    | zero => intro i h; simp only [cellsAt]; rw [List.drop_of_length_le (by omega)]
    | succ m ih =>
      intro i h
      have hi : i < cs.length := by omega
      simp only [cellsAt, add_mk, cell_eq, hb, cellO_some, hc i (by omega), List.getElem?_eq_getElem hi]
      rw [ih (i + 1) (by omega)]
      simp
  simpa using key n 0 (by omega)
/-- .. read whole -/
theorem item_ld {w : World} {T : TypeId} {sv : Value} {xs : List JV} {L : List Value} {k : IntKind} {i : Nat} {x : JV} {K : Value → Prop} (h : SlAt w T sv xs.length L) (hr : VReps w xs L) (hi : xs[i]? = some x)
    (hK : ∀ cs, VRep w x cs → K (.agg cs.toArray)) : ixaW none 5 sv (.int k i) fun p => ldW true 5 p w K :=
  item_at h hr hi fun _ _ _ _ cs hb hc hg => ld_cells hb hc.len hg (hK cs hc)
/-- an element of a row of texts -/
theorem text_ld {w : World} {T : TypeId} {kv : Value} {ks : List Str} {k : IntKind} {i : Nat} {x : Str} {K : Value → Prop} (h : SlAt w T kv ks.length (ks.map str)) (hi : ks[i]? = some x) (hK : K (str x)) : ixaW none 1 kv (.int k i) fun p => ldW false 1 p w K :=
  ixa_ld h (by simp) (by simp [hi]) hK
end Go.Eng
