/- One plain sentence: the weakest precondition of a whole function body, and that a call of the function meets it. Conditions: the static checks hold. -/
import Derived.Test.YtonblcbpoilndaaGreatDoorEng7
set_option linter.all false
set_option linter.unusedSimpArgs false
set_option linter.unusedVariables false
set_option linter.unusedSectionVars false
namespace Go.Eng
open Go

structure PE where
  C : List Nat
  V : List Nat
  lo : Nat

/-- what a place of the code is given: slots carried; the floats and forebears of a region that draws -/
structure Plan where
  js : List (Nat × PE)
  ds : List (Nat × DE)

def lk {α : Type} : List (Nat × α) → Nat → Option α
  | [], _ => none
  | (k, e) :: r, i => bif Nat.beq k i then some e else lk r i

def inS (V : List Nat) (lo t : Nat) : Bool := bif Nat.ble lo t then true else memb V t

def ovl : List Nat → Nat → List Value → Fr → Fr
  | [], _, _, f => f
  | c :: C, k, s, f => fun j => bif Nat.beq j c then s.getD k undef else ovl C (k + 1) s f j
def ovf (e : PE) (f : Fr) (s : List Value) (g : Fr) : Fr := ovl e.C 0 s (fun j => bif inS e.V e.lo j then g j else f j)

def JoinW (A : (List Value → World → Prop) → Prop) (B : List Value → Fr → World → Prop) : Prop :=
  ∃ J : List Value → World → Prop, A J ∧ ∀ s g w, J s w → B s g w
def GdW (c : Bool) (u : List Value) (w : World) (A : (List Value → World → Prop) → Prop) (B : List Value → Fr → World → Prop) : Prop :=
  ∃ J : List Value → World → Prop, (c = true → A J) ∧ (c = false → J u w) ∧ ∀ s g w', J s w' → B s g w'
def LoopW (s0 : List Value) (w0 : World) (B : List Value → Fr → World → (List Value → World → Prop) → Prop) : Prop :=
  ∃ (I : List Value → World → Prop) (μ : List Value → World → Nat), I s0 w0 ∧ ∀ s g w, I s w → B s g w (fun s' w' => I s' w' ∧ μ s' w' < μ s w)
def condW (v : Value) (A B : Prop) : Prop := match v with | .bool t => (t = true → A) ∧ (t = false → B) | _ => False

def gEq : Option (Nat × Bool) → Nat → Bool → Bool
  | some (g', w'), g, w => bif Nat.beq g g' then w == w' else false
  | none, _, _ => false
def grpOf (g : Nat) (want : Bool) : List Oper → List Oper
  | [] => []
  | o :: r => bif gEq o.guard g want then o :: grpOf g want r else []
def restOf (g : Nat) (want : Bool) : List Oper → List Oper
  | [] => []
  | o :: r => bif gEq o.guard g want then restOf g want r else o :: r

def opsL [HX] (P : Program) : List Oper → Fr → World → (Fr → World → Prop) → Prop
  | [], f, w, K => K f w
  | o :: r, f, w, K => anyW P f o w fun v w' => opsL P r (upd f o.dst v) w' K
def undefs : List Oper → Fr → Fr
  | [], f => f
  | o :: r, f => undefs r (upd f o.dst undef)

/-- a place inside a region: the region's number, and how many operations are left -/
def inPos (i k : Nat) : Nat := i * 1000 + k

def opsW [HX] (P : Program) (pl : Plan) (i : Nat) (ops : List Oper) : Nat → List Oper → Fr → World → (Fr → World → Prop) → Prop
  | 0, _, _, _, _ => False
  | _ + 1, [], f, w, K => K f w
  | n + 1, o :: r, f, w, K =>
    match o.guard with
    | none => anyW P f o w fun v w' => opsW P pl i ops n r (upd f o.dst v) w' K
    | some (g, want) =>
      match lk pl.js (inPos i (o :: r).length) with
      | some e => GdW (yv ops f g want) (e.C.map (undefs (grpOf g want (o :: r)) f)) w (fun J => opsL P (grpOf g want (o :: r)) f w fun f' w' => J (e.C.map f') w')
          fun s h w' => opsW P pl i ops n (restOf g want (o :: r)) (ovf e f s h) w' K
      | none => False

/-- how many places a code has -/
def nodes : Code → Nat
  | .seq a b => nodes a + nodes b + 1
  | .cond _ a b => nodes a + nodes b + 1
  | .block _ b => nodes b + 1
  | .loop b => nodes b + 1
  | .scope b => nodes b + 1
  | _ => 1

def codeW [HX] (P : Program) (pl : Plan) : Code → Nat → Fr → World → (Fr → World → Prop) → (Nat → Fr → World → Prop) → (Fr → World → Prop) → Prop
  | .skip, _, f, w, kn, _, _ => kn f w
  | .label _, _, f, w, kn, _, _ => kn f w
  | .region _ ops draw, i, f, w, kn, _, _ =>
    bif draw then (match lk pl.ds i with | some e => drawW P ops.toList e (ops.toList.length + 1) [] [] f w.drew kn | none => False)
    else opsW P pl i ops.toList (ops.toList.length + 1) ops.toList f w kn
  | .seq a b, i, f, w, kn, kx, kr =>
    match lk pl.js i with
    | none => codeW P pl a (i + 1) f w (fun f' w' => codeW P pl b (i + 1 + nodes a) f' w' kn kx kr) kx kr
    | some e => JoinW (fun J => codeW P pl a (i + 1) f w (fun f' w' => J (e.C.map f') w') kx kr) fun s g w' => codeW P pl b (i + 1 + nodes a) (ovf e f s g) w' kn kx kr
  | .cond c a b, i, f, w, kn, kx, kr => condW (ev f c) (codeW P pl a (i + 1) f w kn kx kr) (codeW P pl b (i + 1 + nodes a) f w kn kx kr)
  | .block id b, i, f, w, kn, kx, kr => codeW P pl b (i + 1) f w kn (fun j f' w' => bif Nat.beq j id then kn f' w' else kx j f' w') kr
  | .loop b, i, f, w, _, kx, kr =>
    match lk pl.js i with
    | none => False
    | some e => LoopW (e.C.map f) w fun s g w' again => codeW P pl b (i + 1) (ovf e f s g) w' (fun f' w'' => again (e.C.map f') w'') kx kr
  | .scope b, i, f, w, kn, kx, kr => codeW P pl b (i + 1) f w kn kx kr
  | .exit id, _, f, w, _, kx, _ => kx id f w
  | .ret, _, f, w, _, _, kr => kr f w
  | _, _, _, _, _, _, _ => False

/-! ### The static check -/

/-- an entry of the plan within the slots that may turn -/
def chkPE (V : List Nat) (lo : Nat) (e : PE) : Bool := Nat.ble lo e.lo && e.V.all (inS V lo) && e.C.all (inS e.V e.lo)
def dstIn (V : List Nat) (lo : Nat) (o : Oper) : Bool := match o.dst with | some d => inS V lo d | none => true
def dstLt (n : Nat) (o : Oper) : Bool := match o.dst with | some d => Nat.blt d n | none => true

def chkGuards (pl : Plan) (V : List Nat) (lo : Nat) (i : Nat) (ops : List Oper) : List Oper → Bool
  | [] => true
  | o :: r => (match o.guard with
    | none => true
    | some (g, want) => (match lk pl.js (inPos i (o :: r).length) with
      | some e => chkPE V lo e && (grpOf g want (o :: r)).all fun x => dstIn e.V e.lo x && (match x.dst, dstOf ops g with | some d, some dg => !(Nat.beq d dg) | _, _ => true)
      | none => true)) && chkGuards pl V lo i ops r

def chk (P : Program) (n : Nat) (pl : Plan) (V : List Nat) (lo : Nat) : Code → Nat → Bool
  | .region _ ops draw, i => ops.toList.all (fun o => dstIn V lo o && dstLt n o) &&
    (bif draw then (match lk pl.ds i with | some e => chkDraw P n ops.toList e | none => true) else chkGuards pl V lo i ops.toList ops.toList)
  | .seq a b, i => (match lk pl.js i with | none => chk P n pl V lo a (i + 1) | some e => chkPE V lo e && chk P n pl e.V e.lo a (i + 1)) && chk P n pl V lo b (i + 1 + nodes a)
  | .cond _ a b, i => chk P n pl V lo a (i + 1) && chk P n pl V lo b (i + 1 + nodes a)
  | .block _ b, i => chk P n pl V lo b (i + 1)
  | .scope b, i => chk P n pl V lo b (i + 1)
  | .loop b, i => (match lk pl.js i with | none => true | some e => chkPE V lo e && chk P n pl e.V e.lo b (i + 1))
  | _, _ => true

/-! ### Soundness -/

def Same (V : List Nat) (lo : Nat) (f f' : Fr) : Prop := ∀ t, inS V lo t = false → f' t = f t
theorem Same.refl (V : List Nat) (lo : Nat) (f : Fr) : Same V lo f f := fun _ _ => rfl
theorem Same.trans {V : List Nat} {lo : Nat} {f g h : Fr} (h1 : Same V lo f g) (h2 : Same V lo g h) : Same V lo f h := fun t ht => (h2 t ht).trans (h1 t ht)

theorem inS_iff {V : List Nat} {lo t : Nat} : inS V lo t = true ↔ lo ≤ t ∨ t ∈ V := by
  unfold inS
  cases h : Nat.ble lo t with
  | true => simp [Nat.le_of_ble_eq_true h]
  | false =>
    have : ¬ lo ≤ t := fun hle => by rw [Nat.ble_eq_true_of_le hle] at h; cases h
    simp [this, memb_iff]

theorem chkPE_sub {V : List Nat} {lo : Nat} {e : PE} (h : chkPE V lo e = true) : (∀ t, inS e.V e.lo t = true → inS V lo t = true) ∧ ∀ c ∈ e.C, inS e.V e.lo c = true := by
  simp only [chkPE, Bool.and_eq_true, List.all_eq_true] at h
  refine ⟨fun t ht => ?_, h.2⟩
  rcases inS_iff.1 ht with h1 | h1
  · exact inS_iff.2 (.inl (Nat.le_trans (Nat.le_of_ble_eq_true h.1.1) h1))
  · exact h.1.2 t h1

theorem Same.wider {V V' : List Nat} {lo lo' : Nat} {f f' : Fr} (hs : ∀ t, inS V lo t = true → inS V' lo' t = true) (h : Same V lo f f') : Same V' lo' f f' := fun t ht => h t (by
  cases hi : inS V lo t with
  | false => rfl
  | true => rw [hs t hi] at ht; cases ht)

theorem ovl_notin : ∀ (C : List Nat) (k : Nat) (s : List Value) (f : Fr) (t : Nat), t ∉ C → ovl C k s f t = f t
  | [], _, _, _, _, _ => rfl
  | c :: C, k, s, f, t, h => by
    have hne : Nat.beq t c = false := by
      cases hb : Nat.beq t c with
      | false => rfl
      | true => exact absurd (List.mem_cons.2 (.inl (Nat.eq_of_beq_eq_true hb))) h
    simp only [ovl, hne, cond_false]
    exact ovl_notin C (k + 1) s f t fun hm => h (List.mem_cons_of_mem _ hm)

theorem ovl_map (f' : Fr) : ∀ (C : List Nat) (k : Nat) (s : List Value) (f : Fr) (t : Nat), (∀ j, j < C.length → s.getD (k + j) undef = f' (C.getD j 0)) → (t ∉ C → f t = f' t) → ovl C k s f t = f' t
  | [], _, _, _, _, _, h => h (by simp)
  | c :: C, k, s, f, t, hs, h => by
    simp only [ovl]
    cases hb : Nat.beq t c with
    | true =>
      have := hs 0 (by simp)
      simp only [cond_true]
      rw [Nat.eq_of_beq_eq_true hb]
      simpa using this
    | false =>
      simp only [cond_false]
      have hne : t ≠ c := fun e => by subst e; simp at hb
      refine ovl_map f' C (k + 1) s f t (fun j hj => ?_) fun hn => h (by simp [hne, hn])
      have := hs (j + 1) (by simp; omega)
      rw [show k + 1 + j = k + (j + 1) by omega, this]
      rfl

/-- what is carried, laid over, is the frame itself -/
theorem ovf_self {e : PE} {f f' : Fr} (h : Same e.V e.lo f f') : ovf e f (e.C.map f') f' = f' := by
  funext t
  refine ovl_map f' e.C 0 _ _ t (fun j hj => ?_) fun _ => ?_
  · simp [hj]
  · cases hi : inS e.V e.lo t with
    | true => simp [hi]
    | false => simp [hi, h t hi]

theorem ovf_same {e : PE} (hC : ∀ c ∈ e.C, inS e.V e.lo c = true) (f : Fr) (s : List Value) (g : Fr) : Same e.V e.lo f (ovf e f s g) := by
  intro t ht
  have hn : t ∉ e.C := fun hm => by rw [hC t hm] at ht; cases ht
  show ovl e.C 0 s _ t = f t
  rw [ovl_notin _ _ _ _ _ hn]
  simp [ht]

theorem Same.upd {V : List Nat} {lo : Nat} {f : Fr} {o : Oper} (h : dstIn V lo o = true) (v : Value) : Same V lo f (upd f o.dst v) := by
  intro t ht
  unfold dstIn at h
  cases hd : o.dst with
  | none => rfl
  | some d =>
    rw [hd] at h
    rw [upd_some, if_neg]
    intro e
    subst e
    have h : inS V lo t = true := h
    rw [h] at ht
    cases ht

theorem dstLt_spec {n : Nat} {o : Oper} (h : dstLt n o = true) : ∀ t, o.dst = some t → t < n := by
  intro t ht
  rw [dstLt, ht] at h
  exact Nat.le_of_ble_eq_true h

theorem gEq_spec {x : Option (Nat × Bool)} {g : Nat} {w : Bool} (h : gEq x g w = true) : x = some (g, w) := by
  cases x with
  | none => cases h
  | some p =>
    obtain ⟨g', w'⟩ := p
    simp only [gEq] at h
    cases hb : Nat.beq g g' with
    | false => rw [hb] at h; cases h
    | true =>
      rw [hb] at h
      simp only [cond_true, beq_iff_eq] at h
      rw [Nat.eq_of_beq_eq_true hb, h]

theorem grp_split (g : Nat) (want : Bool) : ∀ l : List Oper, l = grpOf g want l ++ restOf g want l ∧ ∀ o ∈ grpOf g want l, o.guard = some (g, want)
  | [] => ⟨rfl, by simp [grpOf]⟩
  | o :: r => by
    simp only [grpOf, restOf]
    cases h : gEq o.guard g want with
    | false => simp
    | true =>
      obtain ⟨h1, h2⟩ := grp_split g want r
      refine ⟨by simp only [cond_true, List.cons_append]; rw [← h1], fun x hx => ?_⟩
      simp only [cond_true, List.mem_cons] at hx
      rcases hx with rfl | hx
      · exact gEq_spec h
      · exact h2 x hx

section
variable [HX] {P : Program} {n : Nat} {D : List Deferred} {ops : List Oper} {Q : Exit → Act → World → Prop} {V : List Nat} {lo : Nat}

/-- what is asked of a panic that leaves -/
def PX [HX] (V : List Nat) (lo : Nat) (D : List Deferred) (Q : Exit → Act → World → Prop) (f : Fr) : Prop :=
  ∀ c a w, a.defers = D → (∀ t, inS V lo t = false → a.tmps.getD t undef = f t) → HX.X c w → Q (.panic c) a w
theorem PX.same {f f' : Fr} (h : PX V lo D Q f) (hs : Same V lo f f') : PX V lo D Q f' := fun c a w hd ht hx => h c a w hd (fun t hn => (ht t hn).trans (hs t hn)) hx
theorem PX.sub {V' : List Nat} {lo' : Nat} {f : Fr} (h : PX V lo D Q f) (hs : ∀ t, inS V' lo' t = true → inS V lo t = true) : PX V' lo' D Q f := fun c a w hd ht hx => h c a w hd (fun t hn => ht t (by
  cases hh : inS V' lo' t with
  | false => rfl
  | true => rw [hs t hh] at hn; cases hn)) hx
theorem PX.ag {f : Fr} {a : Act} (h : PX V lo D Q f) (hag : Ag n D f a) : ∀ c w, HX.X c w → Q (.panic c) a w := fun c w hx => h c a w hag.1 (fun t _ => hag.2.2 t) hx

theorem want_ag {f : Fr} {a : Act} {o : Oper} (h : Ag n D f a) : Region.wanted o (yielded ops.toArray a.tmps) = wantF ops f o := wanted_eq fun _ _ d _ _ => h.2.2 d

theorem op_step {f : Fr} {a : Act} {w : World} {o : Oper} {rest : List Oper} {K : Value → World → Prop} (hag : Ag n D f a) (hw : wantF ops f o = true) (h : anyW P f o w K)
    (hk : ∀ v w', K v w' → wpList P ops.toArray Q rest (a.put o.dst v) w') (hx : ∀ c w, HX.X c w → Q (.panic c) a w) : wpList P ops.toArray Q (o :: rest) a w := by
  unfold wpList
  rw [if_pos (by rw [want_ag hag]; exact hw)]
  refine .inl ?_
  unfold Oper.wp
  rw [eval_fun hag]
  exact (any_sound h).upon hk hx

theorem op_skip {f : Fr} {a : Act} {w : World} {o : Oper} {rest : List Oper} (hag : Ag n D f a) (hw : wantF ops f o = false)
    (hk : wpList P ops.toArray Q rest (a.put o.dst undef) w) : wpList P ops.toArray Q (o :: rest) a w := by
  unfold wpList
  rw [if_neg (by rw [want_ag hag, hw]; simp)]
  exact hk

theorem yv_upd {f : Fr} {g : Nat} {want : Bool} {o : Oper} {v : Value} (h : ∀ d dg, o.dst = some d → dstOf ops g = some dg → d ≠ dg) : yv ops (upd f o.dst v) g want = yv ops f g want := by
  unfold yv
  cases hg : dstOf ops g with
  | none => rfl
  | some dg =>
    cases hd : o.dst with
    | none => rfl
    | some d => simp only; rw [upd_some, if_neg (Ne.symm (h d dg hd hg))]

theorem opsL_sound {g : Nat} {want : Bool} : ∀ (grp rest : List Oper) (f : Fr) (a : Act) (w : World) (K : Fr → World → Prop), (∀ o ∈ grp, o.guard = some (g, want)) →
    (∀ o ∈ grp, dstIn V lo o = true ∧ (∀ t, o.dst = some t → t < n) ∧ ∀ d dg, o.dst = some d → dstOf ops g = some dg → d ≠ dg) → Ag n D f a → yv ops f g want = true → opsL P grp f w K →
    (∀ f' a' w', Ag n D f' a' → Same V lo f f' → K f' w' → wpList P ops.toArray Q rest a' w') → PX V lo D Q f → wpList P ops.toArray Q (grp ++ rest) a w
  | [], rest, f, a, w, K, _, _, hag, _, h, hk, _ => hk f a w hag (Same.refl _ _ _) h
  | o :: grp, rest, f, a, w, K, hg, hd, hag, hy, h, hk, hX => by
    obtain ⟨h1, h2, h3⟩ := hd o List.mem_cons_self
    refine op_step hag (by simp only [wantF, hg o List.mem_cons_self]; exact hy) h (fun v w' h' => ?_) (hX.ag hag)
    refine opsL_sound grp rest (upd f o.dst v) (a.put o.dst v) w' K (fun x hx => hg x (List.mem_cons_of_mem _ hx)) (fun x hx => hd x (List.mem_cons_of_mem _ hx)) (hag.put h2 v) (by rw [yv_upd h3]; exact hy) h' ?_ (hX.same (Same.upd h1 v))
    exact fun f' a' w'' hag' hs hK => hk f' a' w'' hag' (Same.trans (Same.upd h1 v) hs) hK

theorem undefs_sound {g : Nat} {want : Bool} : ∀ (grp rest : List Oper) (f : Fr) (a : Act) (w : World), (∀ o ∈ grp, o.guard = some (g, want)) →
    (∀ o ∈ grp, dstIn V lo o = true ∧ (∀ t, o.dst = some t → t < n) ∧ ∀ d dg, o.dst = some d → dstOf ops g = some dg → d ≠ dg) → Ag n D f a → yv ops f g want = false →
    (∀ a', Ag n D (undefs grp f) a' → Same V lo f (undefs grp f) → wpList P ops.toArray Q rest a' w) → wpList P ops.toArray Q (grp ++ rest) a w
  | [], rest, f, a, w, _, _, hag, _, hk => hk a hag (Same.refl _ _ _)
  | o :: grp, rest, f, a, w, hg, hd, hag, hy, hk => by
    obtain ⟨h1, h2, h3⟩ := hd o List.mem_cons_self
    refine op_skip hag (by simp only [wantF, hg o List.mem_cons_self]; exact hy) ?_
    refine undefs_sound grp rest (upd f o.dst undef) (a.put o.dst undef) w (fun x hx => hg x (List.mem_cons_of_mem _ hx)) (fun x hx => hd x (List.mem_cons_of_mem _ hx)) (hag.put h2 undef) (by rw [yv_upd h3]; exact hy) ?_
    exact fun a' hag' hs => hk a' hag' (Same.trans (Same.upd h1 undef) hs)

theorem chkGuards_rest {pl : Plan} {i : Nat} : ∀ (x y : List Oper), chkGuards pl V lo i ops (x ++ y) = true → chkGuards pl V lo i ops y = true
  | [], _, h => h
  | o :: x, y, h => by
    simp only [List.cons_append, chkGuards, Bool.and_eq_true] at h
    exact chkGuards_rest x y h.2

theorem opsW_sound {pl : Plan} {i : Nat} {K : Fr → World → Prop} : ∀ (m : Nat) (l : List Oper) (f : Fr) (a : Act) (w : World), (∀ o ∈ l, dstIn V lo o = true ∧ dstLt n o = true) → chkGuards pl V lo i ops l = true →
    Ag n D f a → opsW P pl i ops m l f w K → (∀ f' a' w', Ag n D f' a' → Same V lo f f' → K f' w' → Q .normal a' w') → PX V lo D Q f → wpList P ops.toArray Q l a w
  | 0, _, _, _, _, _, _, _, h, _, _ => by cases h
  | m + 1, [], f, a, w, _, _, hag, h, hQ, _ => hQ f a w hag (Same.refl _ _ _) h
  | m + 1, o :: r, f, a, w, hd, hc, hag, h, hQ, hX => by
    unfold opsW at h
    cases hg : o.guard with
    | none =>
      simp only [hg] at h
      have hd0 := hd o List.mem_cons_self
      refine op_step hag (by simp [wantF, hg]) h (fun v w' h' => ?_) (hX.ag hag)
      simp only [chkGuards, Bool.and_eq_true] at hc
      refine opsW_sound m r _ _ w' (fun x hx => hd x (List.mem_cons_of_mem _ hx)) hc.2 (hag.put (dstLt_spec hd0.2) v) h' ?_ (hX.same (Same.upd hd0.1 v))
      exact fun f' a' w'' hag' hs hK => hQ f' a' w'' hag' (Same.trans (Same.upd hd0.1 v) hs) hK
    | some gw =>
      obtain ⟨g, want⟩ := gw
      simp only [hg] at h
      cases he : lk pl.js (inPos i (o :: r).length) with
      | none => simp only [he] at h
      | some e =>
        simp only [he] at h
        obtain ⟨J, hT, hF, hB⟩ := h
        obtain ⟨hsplit, hgs⟩ := grp_split g want (o :: r)
        have hc0 := hc
        simp only [chkGuards, hg, he, Bool.and_eq_true, List.all_eq_true] at hc
        obtain ⟨⟨hpe, hgrp⟩, hc2⟩ := hc
        obtain ⟨hsub, hC⟩ := chkPE_sub hpe
        have hgd : ∀ x ∈ grpOf g want (o :: r), dstIn e.V e.lo x = true ∧ (∀ t, x.dst = some t → t < n) ∧ ∀ d dg, x.dst = some d → dstOf ops g = some dg → d ≠ dg := by
          intro x hx
          have h1 := hgrp x hx
          refine ⟨h1.1, dstLt_spec (hd x (by rw [hsplit]; exact List.mem_append_left _ hx)).2, fun d dg hxd hdg hne => ?_⟩
          have h2 := h1.2
          simp only [hxd, hdg, hne] at h2
          simp at h2
        have hcr : chkGuards pl V lo i ops (restOf g want (o :: r)) = true := by
          rw [hsplit] at hc0
          exact chkGuards_rest _ _ hc0
        have hdr : ∀ x ∈ restOf g want (o :: r), dstIn V lo x = true ∧ dstLt n x = true := fun x hx => hd x (by rw [hsplit]; exact List.mem_append_right _ hx)
        rw [hsplit]
        cases hy : yv ops f g want with
        | true =>
          refine opsL_sound (V := e.V) (lo := e.lo) _ _ f a w _ hgs hgd hag hy (hT hy) (fun f' a' w' hag' hs hJ => ?_) (hX.sub hsub)
          have h' := hB _ f' _ hJ
          simp only [ovf_self hs] at h'
          refine opsW_sound m _ f' a' w' hdr hcr hag' h' ?_ (hX.same (Same.wider hsub hs))
          exact fun f'' a'' w'' hag'' hs' hK => hQ f'' a'' w'' hag'' (Same.trans (Same.wider hsub hs) hs') hK
        | false =>
          refine undefs_sound (V := e.V) (lo := e.lo) _ _ f a w hgs hgd hag hy fun a' hag' hs => ?_
          have h' := hB _ (undefs (grpOf g want (o :: r)) f) _ (hF hy)
          simp only [ovf_self hs] at h'
          refine opsW_sound m _ _ a' w hdr hcr hag' h' ?_ (hX.same (Same.wider hsub hs))
          exact fun f'' a'' w'' hag'' hs' hK => hQ f'' a'' w'' hag'' (Same.trans (Same.wider hsub hs) hs') hK
end
end Go.Eng
