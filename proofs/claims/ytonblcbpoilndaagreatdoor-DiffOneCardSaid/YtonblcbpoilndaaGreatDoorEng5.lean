/- One plain sentence: a region whose order Go leaves open does what the canonical run says, whatever order is picked. Conditions: the static checks hold. -/
import Derived.Test.YtonblcbpoilndaaGreatDoorEng4
import Derived.Tactics
set_option linter.all false
set_option linter.unusedSimpArgs false
set_option linter.unusedVariables false
set_option linter.unusedSectionVars false
namespace Go.Eng
open Go

def memb : List Nat → Nat → Bool
  | [], _ => false
  | x :: r, i => bif Nat.beq x i then true else memb r i
theorem memb_iff {l : List Nat} {i : Nat} : memb l i = true ↔ i ∈ l := by
  induction l with
  | nil => simp [memb]
  | cons x r ih =>
    simp only [memb, List.mem_cons]
    cases h : Nat.beq x i with
    | true => simp [Nat.eq_of_beq_eq_true h]
    | false =>
      have : ¬ i = x := fun e => by subst e; simp at h
      simp [this, ih]

def isB (v : Value) (want : Bool) : Bool := match v with | .bool b => b == want | _ => false

def dstOf (ops : List Oper) (g : Nat) : Option Nat := match ops[g]? with | some o => o.dst | none => none
/-- is the guard met? -/
def yv (ops : List Oper) (f : Fr) (g : Nat) (want : Bool) : Bool := match dstOf ops g with | some d => isB (f d) want | none => false
def wantF (ops : List Oper) (f : Fr) (o : Oper) : Bool := match o.guard with | none => true | some (g, want) => yv ops f g want

/-- a state of slots and the frame that stands for it -/
def Ag (n : Nat) (D : List Deferred) (f : Fr) (a : Act) : Prop := a.defers = D ∧ a.tmps.size = n ∧ ∀ t, a.tmps.getD t undef = f t

theorem ev_eq {f : Fr} {a : Act} {x : Operand} (h : ∀ t, x = .tmp t → a.tmps.getD t undef = f t) : a.eval x = ev f x := by
  cases x <;> first | rfl | exact h _ rfl

theorem eval_fun {n : Nat} {D : List Deferred} {f : Fr} {a : Act} (h : Ag n D f a) : a.eval = ev f := funext fun _ => ev_eq fun t _ => h.2.2 t

theorem wanted_eq {ops : List Oper} {f : Fr} {a : Act} {o : Oper} (h : ∀ g want d, o.guard = some (g, want) → dstOf ops g = some d → a.tmps.getD d undef = f d) :
    Region.wanted o (yielded ops.toArray a.tmps) = wantF ops f o := by
  unfold Region.wanted wantF
  cases hg : o.guard with
  | none => rfl
  | some gw =>
    obtain ⟨g, want⟩ := gw
    have hy : yielded ops.toArray a.tmps g = match dstOf ops g with | some d => (match f d with | .bool b => some b | _ => none) | none => none := by
      unfold yielded
      have h' := h g want
      unfold dstOf at *
      simp only [List.getElem?_toArray]
      cases hx : ops[g]? with
      | none => rfl
      | some o' =>
        rw [hx] at h'
        cases hd : o'.dst with
        | none => simp [hd]
        | some d =>
          have hfd := h' d hg hd
          simp only [Option.bind_some, hd]
          rw [← hfd]
          rcases Nat.lt_or_ge d a.tmps.size with hlt | hge
          · have e1 : a.tmps[d]? = some a.tmps[d] := by simp [hlt]
            have e2 : a.tmps.getD d undef = a.tmps[d] := by simp [hlt]
            rw [e1, e2]
            generalize a.tmps[d] = x
            cases x <;> rfl
          · simp [Array.getElem?_eq_none hge, undef, Array.getD, Nat.not_lt.2 hge]
    simp only [yv, hy]
    cases hd : dstOf ops g with
    | none => simp
    | some d => simp only [isB]; cases f d <;> simp

theorem put_size (a : Act) (d : Option Nat) (v : Value) : (a.put d v).tmps.size = a.tmps.size := by cases d <;> simp [Act.put]
theorem put_defers (a : Act) (d : Option Nat) (v : Value) : (a.put d v).defers = a.defers := by cases d <;> rfl
theorem put_get (a : Act) (d : Nat) (v : Value) (t : Nat) (hd : d < a.tmps.size) : (a.put (some d) v).tmps.getD t undef = if t = d then v else a.tmps.getD t undef := by
  simp only [Act.put, Array.getD_eq_getD_getElem?, Array.getElem?_setIfInBounds]
  by_cases h : t = d
  · subst h; simp [hd]
  · rw [if_neg h, if_neg (Ne.symm h)]
theorem upd_some (f : Fr) (d : Nat) (v : Value) (t : Nat) : upd f (some d) v t = if t = d then v else f t := by
  simp only [upd]
  by_cases h : t = d
  · subst h; simp
  · have : Nat.beq t d = false := by
      cases hb : Nat.beq t d with
      | false => rfl
      | true => exact absurd (Nat.eq_of_beq_eq_true hb) h
    simp [this, h]

theorem Ag.put {n : Nat} {D : List Deferred} {f : Fr} {a : Act} {d : Option Nat} (h : Ag n D f a) (hd : ∀ t, d = some t → t < n) (v : Value) : Ag n D (upd f d v) (a.put d v) := by
  refine ⟨by rw [put_defers]; exact h.1, by rw [put_size]; exact h.2.1, fun t => ?_⟩
  cases d with
  | none => exact h.2.2 t
  | some d => rw [put_get _ _ _ _ (by rw [h.2.1]; exact hd d rfl), upd_some, h.2.2]

/-! ### The canonical run of a region that draws -/

structure DE where
  fl : List Nat
  anc : List (List Nat)

def bindsOn (o : Oper) : List Nat := (o.after.toList.filter (Region.binds .any)).map (·.on)
def allIn (done : List Nat) : List Nat → Bool
  | [] => true
  | x :: r => bif memb done x then allIn done r else false
theorem allIn_iff {done l : List Nat} : allIn done l = true ↔ ∀ x ∈ l, x ∈ done := by
  induction l with
  | nil => simp [allIn]
  | cons x r ih =>
    simp only [allIn, List.mem_cons, forall_eq_or_imp]
    cases h : memb done x with
    | true => simp [memb_iff.1 h, ih]
    | false =>
      have : x ∉ done := fun e => by simp [memb_iff.2 e] at h
      simp [this]

def nextFl (ops : List Oper) (done : List Nat) : List Nat → Option (Nat × Oper)
  | [] => none
  | i :: r => bif memb done i then nextFl ops done r else
      (match ops[i]? with
       | some o => bif allIn done (bindsOn o) then some (i, o) else nextFl ops done r
       | none => nextFl ops done r)

def effs (ops : List Oper) (fl done : List Nat) : Nat → List Oper → List (Nat × Oper)
  | _, [] => []
  | i, o :: r => bif (bif memb done i then false else (bif memb fl i then false else allIn done (bindsOn o))) then (i, o) :: effs ops fl done (i + 1) r else effs ops fl done (i + 1) r

def anyQ (P : Program) (f : Fr) (o : Oper) (w : World) (K : Value → Prop) : Prop := bif isPure P o.op then pureW P f o.op K else readW P f o w K

/-- a guarded operation that only yields -/
def GqW (c : Bool) (A : (Value → Prop) → Prop) (B : Value → Prop) : Prop := ∃ v, (c = true → A (fun x => x = v)) ∧ (c = false → v = undef) ∧ B v
/-- a guarded operation that acts -/
def GeW (c : Bool) (w : World) (A : (Value → World → Prop) → Prop) (B : Value → World → Prop) : Prop := (c = true → A B) ∧ (c = false → B undef w)

def qfW (P : Program) (ops : List Oper) (f : Fr) (o : Oper) (w : World) (K : Value → Prop) : Prop :=
  match o.guard with
  | none => anyQ P f o w K
  | some (g, want) => GqW (yv ops f g want) (anyQ P f o w) K
def geW [HX] (P : Program) (ops : List Oper) (f : Fr) (o : Oper) (w : World) (K : Value → World → Prop) : Prop :=
  match o.guard with
  | none => anyW P f o w K
  | some (g, want) => GeW (yv ops f g want) w (anyW P f o w) K

/-- what was read reads so still -/
def stabW (P : Program) (ops : List Oper) (f : Fr) (w : World) (rest : Prop) : List Nat → Prop
  | [] => rest
  | i :: r => match ops[i]? with
    | some o => (match o.dst with
      | some d => bif isPure P o.op then stabW P ops f w rest r else
          ((match o.guard with
            | none => readW P f o w (fun x => x = f d)
            | some (g, want) => yv ops f g want = true → readW P f o w (fun x => x = f d)) ∧ stabW P ops f w rest r)
      | none => stabW P ops f w rest r)
    | none => stabW P ops f w rest r

def notIn (l : List Nat) : List Nat → List Nat
  | [] => []
  | x :: r => bif memb l x then notIn l r else x :: notIn l r
theorem mem_notIn {l r : List Nat} {x : Nat} (h : x ∈ r) (hl : x ∉ l) : x ∈ notIn l r := by
  induction r with
  | nil => cases h
  | cons y r ih =>
    simp only [notIn]
    rcases List.mem_cons.1 h with rfl | h
    · have : memb l x = false := by
        cases hm : memb l x with
        | false => rfl
        | true => exact absurd (memb_iff.1 hm) hl
      simp [this]
    · cases hm : memb l y with
      | true => exact ih h
      | false => simp [ih h]

def conjW (p : Nat × Oper → Prop) : List (Nat × Oper) → Prop
  | [] => True
  | [x] => p x
  | x :: y :: r => p x ∧ conjW p (y :: r)
theorem conjW_mem {p : Nat × Oper → Prop} : ∀ {l : List (Nat × Oper)} {x}, conjW p l → x ∈ l → p x
  | [], _, _, h => by cases h
  | [y], x, h, hx => by simp at hx; subst hx; exact h
  | y :: z :: r, x, h, hx => by
    rcases List.mem_cons.1 hx with rfl | hx
    · exact h.1
    · exact conjW_mem h.2 hx

def drawW [HX] (P : Program) (ops : List Oper) (e : DE) : Nat → List Nat → List Nat → Fr → World → (Fr → World → Prop) → Prop
  | 0, _, _, _, _, _ => False
  | n + 1, done, pend, f, w, K =>
    match nextFl ops done e.fl with
    | some (i, o) => qfW P ops f o w fun v => drawW P ops e n (i :: done) (i :: pend) (upd f o.dst v) w K
    | none => match effs ops e.fl done 0 ops with
      | [] => K f w
      | x :: r => conjW (fun io => geW P ops f io.2 w fun v w' =>
          stabW P ops (upd f io.2.dst v) w' (drawW P ops e n (io.1 :: done) (notIn (e.anc.getD io.1 []) pend) (upd f io.2.dst v) w' K) (notIn (e.anc.getD io.1 []) pend)) (x :: r)

/-! ### The static check -/

def looksL (ops : List Oper) (o : Oper) : List Nat :=
  (o.op.operands.toList.filterMap fun | .tmp t => some t | _ => none) ++ (match o.guard with | some (g, _) => (dstOf ops g).toList | none => [])

def noSel (o : Oper) : Bool := match o.op with | .select .. => false | _ => true

def chkFl (P : Program) (ops : List Oper) (e : DE) (i : Nat) : Bool :=
  match ops[i]? with
  | some o => (isPure P o.op || isRead P o.op) &&
    (match o.dst with
     | some d => (List.range ops.length).all fun k => match ops[k]? with
        | some ok => (k == i || ok.dst != some d) && (!(memb (looksL ops ok) d) || memb (e.anc.getD k []) i) &&
            (match ok.dst with
             | some dk => !(memb (looksL ops o) dk) || memb (e.anc.getD i []) k || (!(memb e.fl k) && memb (e.anc.getD k []) i)
             | none => true)
        | none => true
     | none => false)
  | none => false

def chkOp (n : Nat) (ops : List Oper) (e : DE) (k : Nat) : Bool :=
  match ops[k]? with
  | some o => (match o.dst with | some d => decide (d < n) | none => true) && noSel o && (bindsOn o).all (fun x => decide (x < k)) &&
      (e.anc.getD k []).all (fun x => (bindsOn o).any fun y => x == y || memb (e.anc.getD y []) x)
  | none => true

def chkDraw (P : Program) (n : Nat) (ops : List Oper) (e : DE) : Bool :=
  e.fl.all (chkFl P ops e) && (List.range ops.length).all (chkOp n ops e)

section
variable {P : Program} {n : Nat} {ops : List Oper} {e : DE}

theorem chk_op (h : chkDraw P n ops e = true) {k : Nat} {o : Oper} (hk : ops[k]? = some o) :
    (∀ d, o.dst = some d → d < n) ∧ noSel o = true ∧ (∀ x ∈ bindsOn o, x < k) ∧ ∀ x ∈ e.anc.getD k [], ∃ y ∈ bindsOn o, x = y ∨ x ∈ e.anc.getD y [] := by
  simp only [chkDraw, Bool.and_eq_true, List.all_eq_true] at h
  have hlt : k < ops.length := by
    rcases Nat.lt_or_ge k ops.length with h' | h'
    · exact h'
    · rw [List.getElem?_eq_none h'] at hk; cases hk
  have := h.2 k (List.mem_range.2 hlt)
  simp only [chkOp, hk, Bool.and_eq_true, List.all_eq_true, List.any_eq_true, Bool.or_eq_true, beq_iff_eq, decide_eq_true_eq] at this
  obtain ⟨⟨⟨h1, h2⟩, h3⟩, h4⟩ := this
  refine ⟨fun d hd => by simpa [hd] using h1, h2, h3, fun x hx => ?_⟩
  obtain ⟨y, hy, hxy⟩ := h4 x hx
  exact ⟨y, hy, hxy.imp id memb_iff.1⟩

theorem chk_fl (h : chkDraw P n ops e = true) {i : Nat} (hi : i ∈ e.fl) : ∃ o d, ops[i]? = some o ∧ o.dst = some d ∧ (isPure P o.op = true ∨ isRead P o.op = true) ∧
    ∀ k ok, ops[k]? = some ok → (k ≠ i → ok.dst ≠ some d) ∧ (d ∈ looksL ops ok → i ∈ e.anc.getD k []) ∧
      ∀ dk, ok.dst = some dk → dk ∈ looksL ops o → k ∈ e.anc.getD i [] ∨ (k ∉ e.fl ∧ i ∈ e.anc.getD k []) := by
  simp only [chkDraw, Bool.and_eq_true, List.all_eq_true] at h
  have h1 := h.1 i hi
  unfold chkFl at h1
  cases ho : ops[i]? with
  | none => simp [ho] at h1
  | some o =>
    simp only [ho] at h1
    cases hd : o.dst with
    | none => simp [hd] at h1
    | some d =>
      simp only [hd, Bool.and_eq_true, Bool.or_eq_true, List.all_eq_true] at h1
      refine ⟨o, d, rfl, hd, h1.1, fun k ok hk => ?_⟩
      have hlt : k < ops.length := by
        rcases Nat.lt_or_ge k ops.length with h' | h'
        · exact h'
        · rw [List.getElem?_eq_none h'] at hk; cases hk
      have h2 := h1.2 k (List.mem_range.2 hlt)
      simp only [hk, Bool.and_eq_true, Bool.or_eq_true, beq_iff_eq, bne_iff_ne, Bool.not_eq_true'] at h2
      obtain ⟨⟨h3, h4⟩, h5⟩ := h2
      refine ⟨fun hne => h3.resolve_left hne, fun hm => ?_, fun dk hdk hm => ?_⟩
      · rcases h4 with h4 | h4
        · rw [memb_iff.2 hm] at h4; cases h4
        · exact memb_iff.1 h4
      · simp only [hdk, Bool.and_eq_true, Bool.or_eq_true, Bool.not_eq_true'] at h5
        rcases h5 with (h5 | h5) | ⟨h5, h6⟩
        · rw [memb_iff.2 hm] at h5; cases h5
        · exact .inl (memb_iff.1 h5)
        · exact .inr ⟨(fun hk' => by rw [memb_iff.2 hk'] at h5; cases h5), memb_iff.1 h6⟩

theorem anc_in (h : chkDraw P n ops e = true) {done : List Nat} (hc : ∀ k ∈ done, ∀ o, ops[k]? = some o → ∀ x ∈ bindsOn o, x ∈ done) :
    ∀ (k : Nat) (o : Oper), ops[k]? = some o → (∀ x ∈ bindsOn o, x ∈ done) → ∀ x ∈ e.anc.getD k [], x ∈ done := by
  intro k
  induction k using Nat.strongRecOn with
  | _ k ih =>
    intro o ho hd x hx
    obtain ⟨_, _, h3, h4⟩ := chk_op h ho
    obtain ⟨y, hy, hxy⟩ := h4 x hx
    rcases hxy with rfl | hxy
    · exact hd x hy
    · have hyd := hd y hy
      cases hoy : ops[y]? with
      | none =>
        rw [List.getElem?_eq_none_iff] at hoy
        have hk : k < ops.length := by
          rcases Nat.lt_or_ge k ops.length with h' | h'
          · exact h'
          · rw [List.getElem?_eq_none h'] at ho; cases ho
        have := h3 y hy
        omega
      | some oy => exact ih y (h3 y hy) oy hoy (fun z hz => hc y hyd oy hoy z hz) x hxy
end
end Go.Eng
