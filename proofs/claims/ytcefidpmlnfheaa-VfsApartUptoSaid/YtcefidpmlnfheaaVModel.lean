/- One plain sentence: the file system of the document as a plain machine over sorted lists, and the laws of its lists. Conditions: none. -/
import Derived.Test.YtcefidpmlnfheaaLib3
set_option linter.all false
set_option linter.unusedSimpArgs false
set_option linter.unusedVariables false
set_option linter.unusedSectionVars false
namespace Go.Vfs
open Go Go.Eng

structure MF where
  data : Str
  safe : Str
  saved : Bool

abbrev Files := List (Str × MF)
structure MS where
  files : Files
  steps : Int
  left : Int
  dead : Bool

def newM : MS := ⟨[], 0, -1, false⟩

def badB (c : UInt8) : Bool := c == 0 || c == 10 || c == 32
def good (p : Str) : Bool := decide (1 ≤ p.length) && decide (p.length ≤ 64) && !p.any badB

def lkM : Files → Str → Option MF
  | [], _ => none
  | (k, x) :: r, p => if k = p then some x else lkM r p
def wo : Files → Str → Files
  | [], _ => []
  | (k, x) :: r, p => if k = p then wo r p else (k, x) :: wo r p
def ins : Files → Str → MF → Files
  | [], p, x => [(p, x)]
  | (k, y) :: r, p, x => if Op.bytesLess p k = true then (p, x) :: (k, y) :: r else (k, y) :: ins r p x
def wth (l : Files) (p : Str) (x : MF) : Files := ins (wo l p) p x

def stepM (s : MS) : MS × Int :=
  if s.dead = true ∨ s.left = 0 then ({ s with dead := true }, 5)
  else ({ s with left := if s.left > 0 then IntKind.i64.wrap (s.left - 1) else s.left, steps := IntKind.i64.wrap (s.steps + 1) }, 0)

def writeM (s : MS) (p data : Str) (made : Bool) : MS × Int :=
  if good p = false then (s, 6)
  else if data.length > 65536 ∨ (lkM s.files p = none ∧ 64 ≤ s.files.length) then (s, 3)
  else if made = true ∧ (lkM s.files p).isSome = true then (s, 2)
  else if (stepM s).2 ≠ 0 then stepM s
  else ({ (stepM s).1 with files := wth s.files p ⟨data, ((lkM s.files p).map (·.safe)).getD [], ((lkM s.files p).map (·.saved)).getD false⟩ }, 0)

def syncM (s : MS) (p : Str) : MS × Int :=
  if good p = false then (s, 6)
  else match lkM s.files p with
    | none => (s, 4)
    | some x => if (stepM s).2 ≠ 0 then stepM s else ({ (stepM s).1 with files := wth s.files p ⟨x.data, x.data, true⟩ }, 0)

def renameM (s : MS) (p q : Str) : MS × Int :=
  if good p = false ∨ good q = false then (s, 6)
  else match lkM s.files p with
    | none => (s, 4)
    | some x => if (stepM s).2 ≠ 0 then stepM s else ({ (stepM s).1 with files := wth (wo s.files p) q x }, 0)

def removeM (s : MS) (p : Str) : MS × Int :=
  if good p = false then (s, 6)
  else match lkM s.files p with
    | none => (s, 4)
    | some _ => if (stepM s).2 ≠ 0 then stepM s else ({ (stepM s).1 with files := wo s.files p }, 0)

def armM (s : MS) (n : Int) : MS × Int := if n < 0 then (s, 1) else ({ s with left := n }, 0)

/-- is it sure? -/
def sureM (x : MF) : Bool := x.saved && decide (x.safe = x.data)
def keepAt (keep : List Int) (k : Nat) : Int := keep.getD k 0
/-- the files behind a loss of power, from the k-th unsure one on -/
def crashL (keep : List Int) : Files → Nat → Files
  | [], _ => []
  | (p, x) :: r, k =>
    if sureM x = true then (p, x) :: crashL keep r k
    else if 1 ≤ keepAt keep k then (p, ⟨x.data.take (keepAt keep k).toNat, x.data.take (keepAt keep k).toNat, true⟩) :: crashL keep r (k + 1)
    else if x.saved = true then (p, ⟨x.safe, x.safe, true⟩) :: crashL keep r (k + 1)
    else crashL keep r (k + 1)
def crashM (s : MS) (keep : List Int) : MS := ⟨crashL keep s.files 0, 0, -1, false⟩

/-! ### The order of texts -/

theorem less_irrefl : ∀ a : Str, Op.bytesLess a a = false
  | [] => rfl
  | x :: a => by simp [Op.bytesLess, less_irrefl a, UInt8.lt_irrefl]
theorem less_trans : ∀ {a b c : Str}, Op.bytesLess a b = true → Op.bytesLess b c = true → Op.bytesLess a c = true
  | _, _, [], _, h => by cases ‹List UInt8› <;> simp [Op.bytesLess] at h
  | [], _, _ :: _, _, _ => rfl
  | x :: a, [], z :: c, h, _ => by simp [Op.bytesLess] at h
  | x :: a, y :: b, z :: c, h1, h2 => by
    simp only [Op.bytesLess, Bool.or_eq_true, decide_eq_true_eq, Bool.and_eq_true, beq_iff_eq] at h1 h2 ⊢
    rcases h1 with h1 | ⟨rfl, h1⟩ <;> rcases h2 with h2 | ⟨rfl, h2⟩
    · exact .inl (UInt8.lt_trans h1 h2)
    · exact .inl h1
    · exact .inl h2
    · exact .inr ⟨rfl, less_trans h1 h2⟩
theorem less_total : ∀ (a b : Str), a ≠ b → Op.bytesLess a b = true ∨ Op.bytesLess b a = true
  | [], [], h => absurd rfl h
  | [], _ :: _, _ => .inl rfl
  | _ :: _, [], _ => .inr rfl
  | x :: a, y :: b, h => by
    simp only [Op.bytesLess, Bool.or_eq_true, decide_eq_true_eq, Bool.and_eq_true, beq_iff_eq]
    by_cases hxy : x = y
    · subst hxy
      have : a ≠ b := fun e => h (by rw [e])
      rcases less_total a b this with h1 | h1
      · exact .inl (.inr ⟨rfl, h1⟩)
      · exact .inr (.inr ⟨rfl, h1⟩)
    · have : x < y ∨ y < x := by
        simp only [UInt8.lt_iff_toNat_lt]
        have : x.toNat ≠ y.toNat := fun e => hxy (UInt8.toNat_inj.1 e)
        omega
      rcases this with h1 | h1
      · exact .inl (.inl h1)
      · exact .inr (.inl h1)

/-- rising by path -/
def Srt (l : Files) : Prop := (l.map (·.1)).Pairwise (fun a b => Op.bytesLess a b = true)

theorem Srt.nodup {l : Files} (h : Srt l) : (l.map (·.1)).Nodup := by
  refine List.Pairwise.imp ?_ h
  intro a b hab e
  subst e
  rw [less_irrefl] at hab
  cases hab
theorem Srt.tail {x : Str × MF} {l : Files} (h : Srt (x :: l)) : Srt l := (List.pairwise_cons.1 h).2
theorem wo_sub (l : Files) (p : Str) : List.Sublist (wo l p) l := by
  induction l with
  | nil => exact List.Sublist.refl _
  | cons x r ih =>
    obtain ⟨k, y⟩ := x
    simp only [wo]
    split
    · exact ih.cons _
    · exact ih.cons_cons _
theorem wo_srt {l : Files} (p : Str) (h : Srt l) : Srt (wo l p) := List.Pairwise.sublist ((wo_sub l p).map _) h
theorem wo_not (l : Files) (p : Str) : p ∉ (wo l p).map (·.1) := by
  induction l with
  | nil => simp [wo]
  | cons x r ih =>
    obtain ⟨k, y⟩ := x
    simp only [wo]
    split
    · exact ih
    · rename_i h
      simp only [List.map_cons, List.mem_cons, not_or]
      exact ⟨fun e => h e.symm, ih⟩
theorem lk_wo (l : Files) (p q : Str) : lkM (wo l p) q = if q = p then none else lkM l q := by
  induction l with
  | nil => simp [wo, lkM]
  | cons x r ih =>
    obtain ⟨k, y⟩ := x
    simp only [wo, lkM]
    by_cases h : k = p
    · rw [if_pos h, ih]
      by_cases hq : q = p
      · simp [hq]
      · rw [if_neg hq, if_neg hq, if_neg (fun e => hq (by rw [← h, e]))]
    · rw [if_neg h]
      simp only [lkM, ih]
      by_cases hk : k = q
      · rw [if_pos hk, if_pos hk, if_neg (fun e => h (by rw [hk, e]))]
      · rw [if_neg hk, if_neg hk]
theorem mem_ins (l : Files) (p : Str) (x : MF) (y : Str × MF) : y ∈ ins l p x ↔ y = (p, x) ∨ y ∈ l := by
  induction l with
  | nil => simp [ins]
  | cons z r ih =>
    obtain ⟨k, u⟩ := z
    simp only [ins]
    split
    · simp
    · simp only [List.mem_cons, ih]
      constructor
      · rintro (h | h | h)
        · exact .inr (.inl h)
        · exact .inl h
        · exact .inr (.inr h)
      · rintro (h | h | h)
        · exact .inr (.inl h)
        · exact .inl h
        · exact .inr (.inr h)
theorem ins_perm (l : Files) (p : Str) (x : MF) : (ins l p x).Perm ((p, x) :: l) := by
  induction l with
  | nil => exact List.Perm.refl _
  | cons z r ih =>
    obtain ⟨k, u⟩ := z
    simp only [ins]
    split
    · exact List.Perm.refl _
    · exact (List.Perm.cons _ ih).trans (List.Perm.swap _ _ _)
theorem ins_srt {l : Files} {p : Str} (x : MF) (h : Srt l) (hp : p ∉ l.map (·.1)) : Srt (ins l p x) := by
  induction l with
  | nil => simp [ins, Srt]
  | cons z r ih =>
    obtain ⟨k, u⟩ := z
    have hpk : p ≠ k := fun e => hp (by simp [e])
    have hpr : p ∉ r.map (·.1) := fun e => hp (by simp [e])
    simp only [ins]
    split
    · rename_i hlt
      refine List.pairwise_cons.2 ⟨?_, h⟩
      intro y hy
      rcases List.mem_cons.1 hy with rfl | hy
      · exact hlt
      · exact less_trans hlt ((List.pairwise_cons.1 h).1 y hy)
    · rename_i hlt
      refine List.pairwise_cons.2 ⟨?_, ih h.tail hpr⟩
      intro y hy
      obtain ⟨z, hz, rfl⟩ := List.mem_map.1 hy
      rcases (mem_ins r p x z).1 hz with rfl | hz
      · exact (less_total p k hpk).resolve_left hlt
      · exact (List.pairwise_cons.1 h).1 z.1 (List.mem_map_of_mem hz)
theorem wth_srt {l : Files} (p : Str) (x : MF) (h : Srt l) : Srt (wth l p x) := ins_srt x (wo_srt p h) (wo_not l p)
theorem lk_ins (l : Files) (p q : Str) (x : MF) (hp : p ∉ l.map (·.1)) : lkM (ins l p x) q = if q = p then some x else lkM l q := by
  induction l with
  | nil =>
    simp only [ins, lkM]
    by_cases h : p = q
    · simp [h]
    · rw [if_neg h, if_neg (Ne.symm h)]
  | cons z r ih =>
    obtain ⟨k, u⟩ := z
    have hpk : p ≠ k := fun e => hp (by simp [e])
    have hpr : p ∉ r.map (·.1) := fun e => hp (by simp [e])
    simp only [ins]
    split
    · simp only [lkM]
      by_cases h : p = q
      · simp [h]
      · rw [if_neg h, if_neg (Ne.symm h)]
    · simp only [lkM, ih hpr]
      by_cases hk : k = q
      · subst hk; simp [Ne.symm hpk]
      · rw [if_neg hk, if_neg hk]
theorem lk_wth (l : Files) (p q : Str) (x : MF) : lkM (wth l p x) q = if q = p then some x else lkM l q := by
  unfold wth
  rw [lk_ins _ _ _ _ (wo_not l p), lk_wo]
  split <;> rfl
theorem lk_none {l : Files} {p : Str} : lkM l p = none ↔ p ∉ l.map (·.1) := by
  induction l with
  | nil => simp [lkM]
  | cons x r ih =>
    obtain ⟨k, v⟩ := x
    simp only [lkM]
    by_cases h : k = p
    · simp [h]
    · simp only [if_neg h, ih, List.map_cons, List.mem_cons]
      exact ⟨fun h1 h2 => h2.elim (fun e => h e.symm) h1, fun h1 h2 => h1 (.inr h2)⟩
theorem wo_len {l : Files} {p : Str} (h : Srt l) : (wo l p).length = if (lkM l p).isSome = true then l.length - 1 else l.length := by
  induction l with
  | nil => simp [wo, lkM]
  | cons x r ih =>
    obtain ⟨k, y⟩ := x
    have ih := ih h.tail
    simp only [wo, lkM]
    by_cases hk : k = p
    · have : lkM r p = none := by
        rw [lk_none]
        intro hm
        have := (List.pairwise_cons.1 h).1 p hm
        rw [hk, less_irrefl] at this
        cases this
      rw [this] at ih
      simp at ih
      simp [hk, ih]
    · simp only [if_neg hk, List.length_cons, ih]
      split
      · rename_i hs
        have : r.length ≠ 0 := fun e => by
          have : r = [] := List.eq_nil_of_length_eq_zero e
          subst this
          simp [lkM] at hs
        omega
      · rfl
theorem wth_len {l : Files} {p : Str} {x : MF} (h : Srt l) : (wth l p x).length = if (lkM l p).isSome = true then l.length else l.length + 1 := by
  have h1 : (wth l p x).length = (wo l p).length + 1 := by unfold wth; rw [(ins_perm _ _ _).length_eq]; rfl
  rw [h1, wo_len h]
  split
  · rename_i hs
    have : l.length ≠ 0 := fun e => by
      have : l = [] := List.eq_nil_of_length_eq_zero e
      subst this
      simp [lkM] at hs
    omega
  · rfl

/-- what holds of every file system that was made -/
structure Ok (s : MS) : Prop where
  srt : Srt s.files
  few : s.files.length ≤ 64
  each : ∀ y ∈ s.files, good y.1 = true ∧ y.2.data.length ≤ 65536 ∧ y.2.safe.length ≤ 65536

theorem lk_mem {l : Files} {p : Str} {x : MF} (h : lkM l p = some x) : (p, x) ∈ l := by
  induction l with
  | nil => cases h
  | cons z r ih =>
    obtain ⟨k, y⟩ := z
    simp only [lkM] at h
    by_cases hk : k = p
    · rw [if_pos hk] at h
      cases h
      subst hk
      exact List.mem_cons_self
    · rw [if_neg hk] at h
      exact List.mem_cons_of_mem _ (ih h)
theorem mem_lk {l : Files} {p : Str} {x : MF} (hs : Srt l) (h : (p, x) ∈ l) : lkM l p = some x := by
  induction l with
  | nil => cases h
  | cons z r ih =>
    obtain ⟨k, y⟩ := z
    simp only [lkM]
    rcases List.mem_cons.1 h with h | h
    · cases h
      rw [if_pos rfl]
    · have : k ≠ p := fun e => by
        have := (List.pairwise_cons.1 hs).1 p (List.mem_map.2 ⟨(p, x), h, rfl⟩)
        rw [e, less_irrefl] at this
        cases this
      rw [if_neg this]
      exact ih hs.tail h

theorem ok_new : Ok newM := ⟨List.Pairwise.nil, by simp [newM], by simp [newM]⟩
theorem ok_step {s : MS} (h : Ok s) : Ok (stepM s).1 := by
  unfold stepM
  split <;> exact ⟨h.srt, h.few, h.each⟩
theorem step_files (s : MS) : (stepM s).1.files = s.files := by unfold stepM; split <;> rfl
theorem mem_wth {l : Files} {p : Str} {x : MF} {y : Str × MF} (h : y ∈ wth l p x) : y = (p, x) ∨ y ∈ l := by
  rcases (mem_ins _ _ _ _).1 h with h | h
  · exact .inl h
  · exact .inr ((wo_sub l p).subset h)
theorem ok_write {s : MS} (h : Ok s) (p data : Str) (made : Bool) : Ok (writeM s p data made).1 := by
  unfold writeM
  split
  · exact h
  · rename_i hg
    split
    · exact h
    · rename_i hl
      split
      · exact h
      · split
        · exact ok_step h
        · refine ⟨wth_srt _ _ h.srt, ?_, ?_⟩
          · show (wth s.files p _).length ≤ 64
            rw [wth_len h.srt]
            have := h.few
            split
            · exact this
            · rename_i hn
              have : lkM s.files p = none := by cases hx : lkM s.files p with
                | none => rfl
                | some _ => rw [hx] at hn; simp at hn
              simp only [not_or, not_and, Nat.not_le] at hl
              exact hl.2 this
          · intro y hy
            rcases mem_wth hy with rfl | hy
            · refine ⟨by simpa using hg, by show data.length ≤ 65536; simp only [not_or] at hl; omega, ?_⟩
              cases hx : lkM s.files p with
              | none => simp
              | some x => simpa using (h.each _ (lk_mem hx)).2.2
            · exact h.each y hy
theorem ok_sync {s : MS} (h : Ok s) (p : Str) : Ok (syncM s p).1 := by
  unfold syncM
  split
  · exact h
  · rename_i hg
    split
    · exact h
    · rename_i x hx
      split
      · exact ok_step h
      · refine ⟨wth_srt _ _ h.srt, ?_, ?_⟩
        · show (wth s.files p _).length ≤ 64
          rw [wth_len h.srt, hx]
          exact h.few
        · intro y hy
          rcases mem_wth hy with rfl | hy
          · have := h.each _ (lk_mem hx)
            exact ⟨by simpa using hg, this.2.1, this.2.1⟩
          · exact h.each y hy
theorem ok_rename {s : MS} (h : Ok s) (p q : Str) : Ok (renameM s p q).1 := by
  unfold renameM
  split
  · exact h
  · rename_i hg
    split
    · exact h
    · rename_i x hx
      split
      · exact ok_step h
      · have hs := wo_srt p h.srt
        refine ⟨wth_srt _ _ hs, ?_, ?_⟩
        · show (wth (wo s.files p) q x).length ≤ 64
          rw [wth_len hs, wo_len h.srt, hx]
          have h1 := h.few
          have h2 : s.files.length ≠ 0 := fun e => by
            have : s.files = [] := List.eq_nil_of_length_eq_zero e
            rw [this] at hx
            cases hx
          simp only [Option.isSome_some, if_true]
          split <;> omega
        · intro y hy
          rcases mem_wth hy with rfl | hy
          · have := h.each _ (lk_mem hx)
            simp only [not_or] at hg
            exact ⟨by simpa using hg.2, this.2⟩
          · exact h.each y ((wo_sub _ _).subset hy)
theorem ok_remove {s : MS} (h : Ok s) (p : Str) : Ok (removeM s p).1 := by
  unfold removeM
  split
  · exact h
  · split
    · exact h
    · split
      · exact ok_step h
      · exact ⟨wo_srt p h.srt, Nat.le_trans (wo_sub _ _).length_le h.few, fun y hy => h.each y ((wo_sub _ _).subset hy)⟩
theorem ok_arm {s : MS} (h : Ok s) (n : Int) : Ok (armM s n).1 := by unfold armM; split <;> exact ⟨h.srt, h.few, h.each⟩
theorem crash_keys (keep : List Int) : ∀ (l : Files) (k : Nat), List.Sublist ((crashL keep l k).map (·.1)) (l.map (·.1))
  | [], _ => List.Sublist.refl _
  | (p, x) :: r, k => by
    simp only [crashL]
    (repeat' split) <;> first
      | exact (crash_keys keep r _).cons_cons _
      | exact (crash_keys keep r _).cons _
theorem crash_each (keep : List Int) : ∀ (l : Files) (k : Nat), (∀ y ∈ l, good y.1 = true ∧ y.2.data.length ≤ 65536 ∧ y.2.safe.length ≤ 65536) → ∀ y ∈ crashL keep l k, good y.1 = true ∧ y.2.data.length ≤ 65536 ∧ y.2.safe.length ≤ 65536
  | [], _, _, y, hy => by cases hy
  | (p, x) :: r, k, h, y, hy => by
    have hx := h _ List.mem_cons_self
    have hr := fun z hz => h z (List.mem_cons_of_mem _ hz)
    simp only [crashL] at hy
    split at hy
    · rcases List.mem_cons.1 hy with rfl | hy
      · exact hx
      · exact crash_each keep r _ hr y hy
    · split at hy
      · rcases List.mem_cons.1 hy with rfl | hy
        · have hl : (x.data.take (keepAt keep k).toNat).length ≤ 65536 := Nat.le_trans (by rw [List.length_take]; exact Nat.min_le_right _ _) hx.2.1
          exact ⟨hx.1, hl, hl⟩
        · exact crash_each keep r _ hr y hy
      · split at hy
        · rcases List.mem_cons.1 hy with rfl | hy
          · exact ⟨hx.1, hx.2.2, hx.2.2⟩
          · exact crash_each keep r _ hr y hy
        · exact crash_each keep r _ hr y hy
theorem ok_crash {s : MS} (h : Ok s) (keep : List Int) : Ok (crashM s keep) :=
  ⟨List.Pairwise.sublist (crash_keys keep _ _) h.srt, Nat.le_trans (show (crashL keep s.files 0).length ≤ s.files.length by have := (crash_keys keep s.files 0).length_le; simpa using this) h.few, crash_each keep _ _ h.each⟩
end Go.Vfs
