/- One plain sentence: laws on maps whose keys are strings: what is looked up, stored, deleted, counted. Conditions: those that each law states. -/
import Derived.Test.YtonblcbpoilndaaGreatDoorLib2
set_option linter.all false
set_option linter.unusedSimpArgs false
set_option linter.unusedVariables false
set_option linter.unusedSectionVars false
namespace Go.Eng
open Go

abbrev Str := List UInt8

def alook : List (Str × Value) → Str → Option Value
  | [], _ => none
  | (k, v) :: r, x => if k = x then some v else alook r x
def aput : List (Str × Value) → Str → Value → List (Str × Value)
  | [], x, v => [(x, v)]
  | (k, u) :: r, x, v => if k = x then (x, v) :: r else (k, u) :: aput r x v
def adel : List (Str × Value) → Str → List (Str × Value)
  | [], _ => []
  | (k, u) :: r, x => if k = x then r else (k, u) :: adel r x

theorem alook_none {A : List (Str × Value)} {x : Str} : alook A x = none ↔ x ∉ A.map (·.1) := by
  induction A with
  | nil => simp [alook]
  | cons p r ih =>
    obtain ⟨k, v⟩ := p
    simp only [alook]
    by_cases h : k = x
    · simp [h]
    · simp only [if_neg h, ih, List.map_cons, List.mem_cons]
      constructor
      · exact fun h1 h2 => h2.elim (fun e => h e.symm) h1
      · exact fun h1 h2 => h1 (.inr h2)
theorem aput_keys {A : List (Str × Value)} {x : Str} {v : Value} : (aput A x v).map (·.1) = if x ∈ A.map (·.1) then A.map (·.1) else A.map (·.1) ++ [x] := by
  induction A with
  | nil => simp [aput]
  | cons p r ih =>
    obtain ⟨k, u⟩ := p
    simp only [aput]
    by_cases h : k = x
    · simp [h]
    · rw [if_neg h, List.map_cons, ih]
      simp only [List.map_cons, List.mem_cons, Ne.symm h, false_or]
      split <;> simp
theorem aput_nodup {A : List (Str × Value)} {x : Str} {v : Value} (h : (A.map (·.1)).Nodup) : ((aput A x v).map (·.1)).Nodup := by
  rw [aput_keys]
  split
  · exact h
  · rename_i hx
    exact List.nodup_append.2 ⟨h, by simp, fun a ha b hb => by simp at hb; subst hb; exact fun e => hx (e ▸ ha)⟩
theorem adel_sub {A : List (Str × Value)} {x : Str} : List.Sublist (adel A x) A := by
  induction A with
  | nil => exact List.Sublist.refl _
  | cons p r ih =>
    obtain ⟨k, u⟩ := p
    simp only [adel]
    split
    · exact List.sublist_cons_self _ _
    · exact ih.cons_cons _
theorem adel_nodup {A : List (Str × Value)} {x : Str} (h : (A.map (·.1)).Nodup) : ((adel A x).map (·.1)).Nodup := (adel_sub.map _).nodup h

/-- block m is a map that holds A -/
def MapAt (w : World) (m : Nat) (A : List (Str × Value)) : Prop :=
  ∃ es clock, w.heap[m]? = some (.map es clock) ∧ es.toList.map (fun e => (e.key, e.val)) = A.map (fun p => (str p.1, p.2)) ∧ (A.map (·.1)).Nodup ∧ (es.toList.map (·.born)).Nodup ∧ ∀ e ∈ es.toList, e.born < clock

theorem MapAt.nodup {w : World} {m : Nat} {A : List (Str × Value)} (h : MapAt w m A) : (A.map (·.1)).Nodup := h.choose_spec.choose_spec.2.2.1
theorem MapAt.lt {w : World} {m : Nat} {A : List (Str × Value)} (h : MapAt w m A) : m < w.heap.size := by
  obtain ⟨es, clock, hb, _⟩ := h
  exact (Array.getElem?_eq_some_iff.1 hb).1
theorem MapAt.ne {w : World} {m b : Nat} {A : List (Str × Value)} {c : Array Value} {T : TypeId} {fr : Nat × Nat} (h : MapAt w m A) (hb : w.heap[b]? = some (.cells c T fr)) : m ≠ b := by
  obtain ⟨es, clock, hm, _⟩ := h
  intro e
  subst e
  rw [hm] at hb
  cases hb
theorem MapAt.chg {S : Nat → Prop} {w w' : World} {m : Nat} {A : List (Str × Value)} (h : MapAt w m A) (hc : Chg S w w') (hS : ¬ S m) : MapAt w' m A := by
  have hl := h.lt
  obtain ⟨es, clock, hb, r⟩ := h
  exact ⟨es, clock, by rw [hc.heap m hl hS]; exact hb, r⟩

theorem str_beq (a b : Str) : (ofL a == ofL b) = decide (a = b) := by
  have h : (ofL a == ofL b) = ((ofL a).data == (ofL b).data) := rfl
  rw [h, Bool.eq_iff_iff]
  simp [ofL]

def afind : List (Str × Value) → Str → Nat → Option (Nat × Value)
  | [], _, _ => none
  | (k, v) :: r, x, i => if x = k then some (i, v) else afind r x (i + 1)

theorem findNow_str : ∀ (l : List MapEntry) (A : List (Str × Value)) (x : Str) (i : Nat), l.map (fun e => (e.key, e.val)) = A.map (fun p => (str p.1, p.2)) → Instr.findNow .string (str x) l i = some (afind A x i)
  | [], A, x, i, h => by
    have : A = [] := by simpa using h.symm
    subst this
    rfl
  | e :: l, [], x, i, h => by simp at h
  | e :: l, (k, v) :: A, x, i, h => by
    simp only [List.map_cons, List.cons.injEq, Prod.mk.injEq] at h
    obtain ⟨⟨hk, hv⟩, hr⟩ := h
    simp only [Instr.findNow, hk, Instr.sameNow, str_beq, afind, hv]
    by_cases hx : x = k
    · simp [hx]
    · simp only [hx, decide_false, if_false]
      exact findNow_str l A x (i + 1) hr

theorem afind_look (A : List (Str × Value)) (x : Str) (i : Nat) : (afind A x i).map (·.2) = alook A x := by
  induction A generalizing i with
  | nil => rfl
  | cons p r ih =>
    obtain ⟨k, v⟩ := p
    simp only [afind, alook]
    by_cases h : x = k
    · simp [h]
    · rw [if_neg h, if_neg (Ne.symm h), ih]

theorem afind_at : ∀ (A : List (Str × Value)) (x : Str) (i j : Nat) (v : Value), afind A x i = some (j, v) → ∃ k, j = i + k ∧ A[k]? = some (x, v) ∧ ∀ u, aput A x u = A.set k (x, u) ∧ adel A x = A.eraseIdx k
  | [], _, _, _, _, h => by cases h
  | (k, u) :: r, x, i, j, v, h => by
    simp only [afind] at h
    by_cases hx : x = k
    · rw [if_pos hx] at h
      cases h
      subst hx
      exact ⟨0, rfl, rfl, fun u => ⟨by simp [aput], by simp [adel]⟩⟩
    · rw [if_neg hx] at h
      obtain ⟨k', h1, h2, h3⟩ := afind_at r x (i + 1) j v h
      exact ⟨k' + 1, by omega, by simpa using h2, fun u => ⟨by simp [aput, Ne.symm hx, (h3 u).1], by simp [adel, Ne.symm hx, (h3 u).2]⟩⟩

theorem map_erase {α β : Type} (f : α → β) : ∀ (l : List α) (j : Nat), (l.map f).eraseIdx j = (l.eraseIdx j).map f
  | [], _ => rfl
  | _ :: _, 0 => rfl
  | a :: l, j + 1 => by simp [map_erase f l j]

theorem afind_none : ∀ (A : List (Str × Value)) (x : Str) (i : Nat), afind A x i = none → ∀ u, aput A x u = A ++ [(x, u)] ∧ adel A x = A
  | [], _, _, _, _ => ⟨rfl, rfl⟩
  | (k, u) :: r, x, i, h, u' => by
    simp only [afind] at h
    by_cases hx : x = k
    · rw [if_pos hx] at h; cases h
    · rw [if_neg hx] at h
      obtain ⟨h1, h2⟩ := afind_none r x (i + 1) h u'
      exact ⟨by simp [aput, Ne.symm hx, h1], by simp [adel, Ne.symm hx, h2]⟩

section
variable {P : Program} {T kt et : TypeId} {w : World} {m : Nat} {A : List (Str × Value)}

theorem run_checkKey (hk : P.underlying kt = some .string) (e : Bool) (s : ByteArray) (w : World) : (Instr.checkKey e 10000 kt (.string s)).run P w = .ok () w := by
  show (Instr.checkKey e (9999 + 1) kt (.string s)).run P w = .ok () w
  unfold Instr.checkKey
  simp [run_bind, run_underlying' hk, run_pure]

theorem run_findKey (hk : P.underlying kt = some .string) (x : Str) (es : List MapEntry) (h : es.map (fun e => (e.key, e.val)) = A.map (fun p => (str p.1, p.2))) (w : World) : (Instr.findKey kt (str x) es).run P w = .ok (afind A x 0) w := by
  simp only [Instr.findKey, run_bind, run_underlying' hk]
  rw [findNow_str es A x 0 h]
  rfl

theorem lookup_at (hT : P.underlying T = some (.map kt et)) (hk : P.underlying kt = some .string) {z : Value} (hz : ∀ w, (zeroValue et).run P w = .ok z w) {x : Str} {ok : Bool} {K : Value → Prop} (h : MapAt w m A) :
    semQ P (Instr.lookup T (.map (some m)) (str x) ok) w K ↔ K (bif ok then .tuple #[(alook A x).getD z, .bool (alook A x).isSome] else (alook A x).getD z) := by
  obtain ⟨es, clock, hb, he, _⟩ := h
  have hr : (Instr.lookup T (.map (some m)) (str x) ok).run P w = .ok (bif ok then .tuple #[(alook A x).getD z, .bool (alook A x).isSome] else (alook A x).getD z) w := by
    have hg : (getObj m).run P w = .ok (.map es clock) w := by simp [getObj, Sem.run, hb]
    simp only [Instr.lookup, run_bind, run_underlying' hT, hg, run_pure, run_checkKey hk, run_findKey (A := A) hk x _ he]
    rw [← afind_look A x 0]
    cases hf : afind A x 0 with
    | none => simp only [run_bind, hz, run_pure, Option.map_none, Option.getD_none, Option.isSome_none]; cases ok <;> rfl
    | some p => obtain ⟨i, v⟩ := p; simp only [run_pure, Option.map_some, Option.getD_some, Option.isSome_some]; cases ok <;> rfl
  constructor
  · rintro ⟨u, hu, hK⟩
    rw [hr] at hu
    cases hu
    exact hK
  · exact fun hK => ⟨_, hr, hK⟩

theorem len_at (hT : P.underlying T = some (.map kt et)) {ty : TypeId} {K : Value → Prop} (h : MapAt w m A) : semQ P (Builtin.len_ #[T] ty #[.map (some m)]) w K ↔ K (i64 A.length) := by
  obtain ⟨es, clock, hb, he, _⟩ := h
  have hlen : es.size = A.length := by simpa using congrArg List.length he
  have hr : (Builtin.len_ #[T] ty #[.map (some m)]).run P w = .ok (i64 A.length) w := by
    have hg : (getObj m).run P w = .ok (.map es clock) w := by simp [getObj, Sem.run, hb]
    simp [Builtin.len_, run_bind, run_underlying' hT, hg, run_pure, goInt, hlen]
  constructor
  · rintro ⟨u, hu, hK⟩
    rw [hr] at hu
    cases hu
    exact hK
  · exact fun hK => ⟨_, hr, hK⟩

theorem setObj_chg {w : World} {m : Nat} {o : Obj} : Chg (· = m) w { w with heap := w.heap.setIfInBounds m o } :=
  ⟨rfl, rfl, rfl, by simp, fun k hk hne => by simp [Array.getElem?_setIfInBounds, Ne.symm hne]⟩

theorem update_at (hT : P.underlying T = some (.map kt et)) (hk : P.underlying kt = some .string) {x : Str} {v : Value} {K : World → Prop} (h : MapAt w m A)
    (hK : ∀ w', MapAt w' m (aput A x v) → Chg (· = m) w w' → K w') : semU P (Instr.mapUpdate T (.map (some m)) (str x) v) w K := by
  have hn := h.nodup
  have hlt := h.lt
  obtain ⟨es, clock, hb, he, _, hbn, hcl⟩ := h
  have hg : (getObj m).run P w = .ok (.map es clock) w := by simp [getObj, Sem.run, hb]
  have hset : ∀ o : Obj, (setObj m o).run P w = .ok () { w with heap := w.heap.setIfInBounds m o } := fun o => by simp [setObj, Sem.run, hb]
  have hlen : es.toList.length = A.length := by simpa using congrArg List.length he
  unfold semU
  simp only [Instr.mapUpdate, run_bind, run_underlying' hT, hg, run_checkKey hk, run_findKey (A := A) hk x _ he]
  cases hf : afind A x 0 with
  | none =>
    simp only [hset]
    refine hK _ ⟨es.push { key := str x, val := v, born := clock }, clock + 1, by simp [hlt], ?_, aput_nodup hn, ?_, ?_⟩ setObj_chg
    · rw [(afind_none A x 0 hf v).1]; simp [he]
    · simp only [Array.toList_push, List.map_append, List.map_cons, List.map_nil]
      exact List.nodup_append.2 ⟨hbn, by simp, fun a ha b hb' => by
        simp at hb'
        subst hb'
        obtain ⟨e, he', rfl⟩ := List.mem_map.1 ha
        have := hcl e he'
        omega⟩
    · intro e he'
      simp only [Array.toList_push, List.mem_append, List.mem_singleton] at he'
      rcases he' with he' | rfl
      · have := hcl e he'; omega
      · exact Nat.lt_succ_self _
  | some p =>
    obtain ⟨j, u⟩ := p
    obtain ⟨k, hjk, hAk, hput⟩ := afind_at A x 0 j u hf
    have hjk : j = k := by omega
    subst hjk
    have hjl : j < es.toList.length := by rw [hlen]; exact (List.getElem?_eq_some_iff.1 hAk).1
    have hjs : j < es.size := by simpa using hjl
    have hkey : es[j].key = str x := by
      have h1 := congrArg (fun l => l[j]?) he
      simp only [List.getElem?_map, hAk, Option.map_some] at h1
      have h2 : es.toList[j]? = some es[j] := by simp [hjs]
      rw [h2] at h1
      simp only [Option.map_some, Option.some.injEq, Prod.mk.injEq] at h1
      exact h1.1
    have hkeep : (Instr.keyThatStays (((es[j]?).map (·.key)).getD (str x)) (str x)).run P w = .ok (str x) w := by
      have : ((es[j]?).map (·.key)).getD (str x) = str x := by simp [hjs, hkey]
      rw [this]
      have hsame : Instr.sameBits 10000 (str x) (str x) = true := by
        have : (ofL x == ofL x) = true := by rw [str_beq]; simp
        simpa [Instr.sameBits, str] using this
      simp [Instr.keyThatStays, hsame, run_pure]
    simp only [run_bind, hkeep, hset]
    have hmod : (es.modify j fun e => { e with key := str x, val := v }).toList = es.toList.set j { es[j] with key := str x, val := v } := by
      rw [Array.toList_modify, List.modify_eq_set]
      simp [hjs]
    refine hK _ ⟨es.modify j fun e => { e with key := str x, val := v }, clock, by simp [hlt], ?_, aput_nodup hn, ?_, ?_⟩ setObj_chg
    · rw [hmod, (hput v).1, List.map_set, List.map_set, he]
    · rw [hmod, List.map_set]
      have : (es.toList.map (·.born)).set j es[j].born = es.toList.map (·.born) := by
        apply List.ext_getElem?
        intro i
        rw [List.getElem?_set]
        split
        · rename_i hij
          subst hij
          simp [hjs]
        · rfl
      simp only [this]
      exact hbn
    · intro e he'
      rw [hmod] at he'
      rcases List.mem_or_eq_of_mem_set he' with h1 | rfl
      · exact hcl e h1
      · exact hcl es[j] (by simp)

theorem delete_at (hT : P.underlying T = some (.map kt et)) (hk : P.underlying kt = some .string) {x : Str} {ts : Array TypeId} {ty : TypeId} {K : Value → World → Prop} (h : MapAt w m A) (hts : ts[0]? = some T)
    (hK : ∀ w', MapAt w' m (adel A x) → Chg (· = m) w w' → K (.tuple #[]) w') : semE P (Builtin.delete_ ts ty #[.map (some m), str x]) w K := by
  have hn := h.nodup
  have hlt := h.lt
  obtain ⟨es, clock, hb, he, _, hbn, hcl⟩ := h
  have hg : (getObj m).run P w = .ok (.map es clock) w := by simp [getObj, Sem.run, hb]
  have hset : ∀ o : Obj, (setObj m o).run P w = .ok () { w with heap := w.heap.setIfInBounds m o } := fun o => by simp [setObj, Sem.run, hb]
  have hlen : es.toList.length = A.length := by simpa using congrArg List.length he
  unfold semE
  have hargs : ((#[.map (some m), str x] : Array Value)[0]?, (#[.map (some m), str x] : Array Value)[1]?) = (some (.map (some m)), some (str x)) := rfl
  simp only [Builtin.delete_, hts, show (#[.map (some m), str x] : Array Value)[0]? = some (.map (some m)) from rfl, show (#[.map (some m), str x] : Array Value)[1]? = some (str x) from rfl, run_bind, run_underlying' hT, hg, run_checkKey hk, run_findKey (A := A) hk x _ he]
  cases hf : afind A x 0 with
  | none =>
    simp only [run_bind, hset, run_pure]
    refine hK { w with heap := w.heap.setIfInBounds m (.map es clock) } ⟨es, clock, by simp [hlt], ?_, adel_nodup hn, hbn, hcl⟩ setObj_chg
    rw [(afind_none A x 0 hf (.nilIface)).2, he]
  | some p =>
    obtain ⟨j, u⟩ := p
    obtain ⟨k, hjk, hAk, hput⟩ := afind_at A x 0 j u hf
    have hjk : j = k := by omega
    subst hjk
    have hjl : j < es.toList.length := by rw [hlen]; exact (List.getElem?_eq_some_iff.1 hAk).1
    have hjs : j < es.size := by simpa using hjl
    simp only [run_bind, hset, run_pure]
    have her : (es.eraseIdxIfInBounds j).toList = es.toList.eraseIdx j := by simp [Array.eraseIdxIfInBounds, hjs]
    refine hK { w with heap := w.heap.setIfInBounds m (.map (es.eraseIdxIfInBounds j) clock) } ⟨es.eraseIdxIfInBounds j, clock, by simp [hlt], ?_, adel_nodup hn, ?_, ?_⟩ setObj_chg
    · rw [her, (hput .nilIface).2, ← map_erase, ← map_erase, he]
    · rw [her, ← map_erase]
      exact (List.eraseIdx_sublist _ _).nodup hbn
    · intro e he'
      rw [her] at he'
      exact hcl e ((List.eraseIdx_sublist _ _).subset he')

theorem makeMap_at {K : Value → World → Prop} (hK : MapAt (w.alloc (.map #[] 0)) w.heap.size [] → K (.map (some w.heap.size)) (w.alloc (.map #[] 0))) : semE P (Instr.makeMap T none) w K := by
  unfold semE
  have hr : (Instr.makeMap T none).run P w = .ok (.map (some w.heap.size)) (w.alloc (.map #[] 0)) := by
    simp [Instr.makeMap, run_bind, newObj, Sem.run, run_pure]
  rw [hr]
  exact hK ⟨#[], 0, heap_anew _ _ _ rfl, by simp, by simp, by simp, by simp⟩
end
end Go.Eng
