/- One plain sentence: a call of a function does what the weakest precondition of its body says. Conditions: the static checks hold. -/
import Derived.Test.YtonblcbpoilndaaGreatDoorEng8
import Derived.Scope
set_option linter.all false
set_option linter.unusedSimpArgs false
set_option linter.unusedVariables false
set_option linter.unusedSectionVars false
namespace Go.Eng
open Go
section
variable [HX] {P : Program} {n : Nat} {D : List Deferred} {pl : Plan}

theorem codeW_sound (hm : P.follows .mixedOrders = true) : ∀ (c : Code) (V : List Nat) (lo i : Nat) (f : Fr) (a : Act) (w : World) (kn : Fr → World → Prop) (kx : Nat → Fr → World → Prop) (kr : Fr → World → Prop) (Q : Exit → Act → World → Prop),
    chk P n pl V lo c i = true → Ag n D f a → codeW P pl c i f w kn kx kr →
    (∀ f' a' w', Ag n D f' a' → Same V lo f f' → kn f' w' → Q .normal a' w') → (∀ j f' a' w', Ag n D f' a' → Same V lo f f' → kx j f' w' → Q (.exit j) a' w') →
    (∀ f' a' w', Ag n D f' a' → Same V lo f f' → kr f' w' → Q .ret a' w') → PX V lo D Q f → c.wp P Q a w := by
  intro c
  induction c with
  | skip => intro V lo i f a w kn kx kr Q _ hag h hn _ _ _; exact wp_skip (hn f a w hag (Same.refl _ _ _) h)
  | label l => intro V lo i f a w kn kx kr Q _ hag h hn _ _ _; exact wp_label (hn f a w hag (Same.refl _ _ _) h)
  | exit id => intro V lo i f a w kn kx kr Q _ hag h _ hx _ _; exact wp_exit (hx id f a w hag (Same.refl _ _ _) h)
  | ret => intro V lo i f a w kn kx kr Q _ hag h _ _ hr _; exact wp_ret (hr f a w hag (Same.refl _ _ _) h)
  | goto l => intro V lo i f a w kn kx kr Q _ _ h _ _ _ _; exact h.elim
  | refuse l => intro V lo i f a w kn kx kr Q _ _ h _ _ _ _; exact h.elim
  | scope b ih =>
    intro V lo i f a w kn kx kr Q hc hag h hn hx hr hX
    simp only [chk] at hc
    simp only [codeW] at h
    refine wp_scope_straight ?_
    exact ih V lo _ f a w kn kx kr _ hc hag h hn hx hr hX
  | rangeFunc f' ps as b => intro V lo i f a w kn kx kr Q _ _ h _ _ _ _; exact h.elim
  | region id ops draw =>
    intro V lo i f a w kn kx kr Q hc hag h hn _ _ hX
    simp only [chk, Bool.and_eq_true, List.all_eq_true] at hc
    simp only [codeW] at h
    cases draw with
    | false =>
      simp only [cond_false] at h hc
      refine wp_region_list ?_
      have := opsW_sound (ops := ops.toList) (Q := Q) (n := n) (V := V) (lo := lo) _ _ f a w hc.1 hc.2 hag h hn hX
      simpa using this
    | true =>
      simp only [cond_true] at h hc
      cases he : lk pl.ds i with
      | none => simp only [he] at h
      | some e =>
        simp only [he] at h hc
        have := region_draw (R := Same V lo f) (id := id) (Q := Q) (K := kn) (fun f' o v ho hs => Same.trans hs (Same.upd (hc.1 o ho).1 v)) hm hc.2
          (fun f' a' w' hag' hs hk => hn f' a' w' hag' hs hk) (fun c f' a' w' hd hs ht hx => hX c a' w' hd (fun t hn => (ht t fun o ho he => by
            have := (hc.1 o ho).1
            simp only [dstIn, he] at this
            rw [this] at hn; cases hn).trans (hs t hn)) hx) hag (Same.refl _ _ _) h
        simpa using this
  | seq x y ihx ihy =>
    intro V lo i f a w kn kx kr Q hc hag h hn hx hr hX
    simp only [chk, Bool.and_eq_true] at hc
    simp only [codeW] at h
    refine wp_seq ?_
    cases he : lk pl.js i with
    | none =>
      simp only [he] at h hc
      refine ihx V lo (i + 1) f a w _ kx kr _ hc.1 hag h ?_ hx hr hX
      intro f' a' w' hag' hs h'
      exact ihy V lo _ f' a' w' kn kx kr Q hc.2 hag' h' (fun f'' a'' w'' hag'' hs' hk => hn f'' a'' w'' hag'' (hs.trans hs') hk)
        (fun j f'' a'' w'' hag'' hs' hk => hx j f'' a'' w'' hag'' (hs.trans hs') hk) (fun f'' a'' w'' hag'' hs' hk => hr f'' a'' w'' hag'' (hs.trans hs') hk) (hX.same hs)
    | some e =>
      simp only [he, Bool.and_eq_true] at h hc
      obtain ⟨hsub, hC⟩ := chkPE_sub hc.1.1
      obtain ⟨J, hA, hB⟩ := h
      refine ihx e.V e.lo (i + 1) f a w _ kx kr _ hc.1.2 hag hA ?_ (fun j f' a' w' hag' hs hk => hx j f' a' w' hag' (hs.wider hsub) hk) (fun f' a' w' hag' hs hk => hr f' a' w' hag' (hs.wider hsub) hk) (hX.sub hsub)
      intro f' a' w' hag' hs hJ
      have h' := hB _ f' _ hJ
      simp only [ovf_self hs] at h'
      have hs0 := hs.wider hsub
      exact ihy V lo _ f' a' w' kn kx kr Q hc.2 hag' h' (fun f'' a'' w'' hag'' hs' hk => hn f'' a'' w'' hag'' (hs0.trans hs') hk)
        (fun j f'' a'' w'' hag'' hs' hk => hx j f'' a'' w'' hag'' (hs0.trans hs') hk) (fun f'' a'' w'' hag'' hs' hk => hr f'' a'' w'' hag'' (hs0.trans hs') hk) (hX.same hs0)
  | cond c x y ihx ihy =>
    intro V lo i f a w kn kx kr Q hc hag h hn hx hr hX
    simp only [chk, Bool.and_eq_true] at hc
    simp only [codeW] at h
    have he : a.eval c = ev f c := congrFun (eval_fun hag) c
    cases hv : ev f c <;> rw [hv] at h <;> simp only [condW] at h <;> try exact h.elim
    rename_i t
    refine wp_cond_split (he.trans hv) (fun ht => ?_) (fun ht => ?_)
    · exact ihx V lo _ f a w kn kx kr Q hc.1 hag (h.1 ht) hn hx hr hX
    · exact ihy V lo _ f a w kn kx kr Q hc.2 hag (h.2 ht) hn hx hr hX
  | block id b ih =>
    intro V lo i f a w kn kx kr Q hc hag h hn hx hr hX
    simp only [chk] at hc
    simp only [codeW] at h
    refine wp_block ?_
    refine ih V lo _ f a w kn _ kr _ hc hag h hn ?_ hr hX
    intro j f' a' w' hag' hs hk
    simp only [Exit.inBlock]
    cases hj : Nat.beq j id with
    | true =>
      rw [hj] at hk
      rw [if_pos (Nat.eq_of_beq_eq_true hj)]
      exact hn f' a' w' hag' hs hk
    | false =>
      rw [hj] at hk
      rw [if_neg (fun e => by subst e; simp at hj)]
      exact hx j f' a' w' hag' hs hk
  | loop b ih =>
    intro V lo i f a w kn kx kr Q hc hag h hn hx hr hX
    simp only [chk] at hc
    simp only [codeW] at h
    cases he : lk pl.js i with
    | none => simp only [he] at h
    | some e =>
      simp only [he, Bool.and_eq_true] at h hc
      obtain ⟨hsub, hC⟩ := chkPE_sub hc.1
      obtain ⟨I, μ, h0, hround⟩ := h
      refine wp_loop (fun a' w' => ∃ f', Ag n D f' a' ∧ Same e.V e.lo f f' ∧ I (e.C.map f') w') (fun a' w' => μ (e.C.map fun t => a'.tmps.getD t undef) w') ⟨f, hag, Same.refl _ _ _, h0⟩ ?_
      rintro a' w' ⟨f', hag', hs, hI⟩
      have h' := hround _ f' _ hI
      simp only [ovf_self hs] at h'
      have hfun : (fun t => a'.tmps.getD t undef) = f' := funext hag'.2.2
      refine ih e.V e.lo _ f' a' w' _ kx kr _ hc.2 hag' h' ?_ (fun j f'' a'' w'' hag'' hs' hk => hx j f'' a'' w'' hag'' ((hs.trans hs').wider hsub) hk)
        (fun f'' a'' w'' hag'' hs' hk => hr f'' a'' w'' hag'' ((hs.trans hs').wider hsub) hk) ((hX.sub hsub).same hs)
      intro f'' a'' w'' hag'' hs' hk
      have hfun' : (fun t => a''.tmps.getD t undef) = f'' := funext hag''.2.2
      refine ⟨⟨f'', hag'', hs.trans hs', hk.1⟩, ?_⟩
      rw [hfun, hfun']
      exact hk.2

/-- the results, out of the frame at the end -/
def resW (P : Program) : List ResultVar → Fr → World → (List Value → Prop) → Prop
  | [], _, _, K => K []
  | .tmp t :: r, f, w, K => resW P r f w fun l => K (f t :: l)
  | .cell a T :: r, f, w, K => andB (P.underlying T).isSome (ldW (isAggT P T) (sizeT P T) (f a) w fun v => resW P r f w fun l => K (v :: l))
def one : List Value → Value
  | [v] => v
  | l => .tuple l.toArray

def resOf (tmps : Array Value) : ResultVar → Sem Value
  | .tmp t => pure (tmps.getD t undef)
  | .cell x t => do loadVar t (← asAddr (tmps.getD x undef))

theorem results_eq (fn : Func) (tmps : Array Value) : results fn tmps = (do let vs ← fn.results.mapM (resOf tmps); pure (if h : vs.size = 1 then vs[0] else .tuple vs)) := rfl

theorem res_run {f : Fr} {a : Act} {w : World} (hag : Ag n D f a) : ∀ (l : List ResultVar) (K : List Value → Prop), resW P l f w K →
    ∃ vs, K vs ∧ (l.mapM (resOf a.tmps)).run P w = .ok vs w
  | [], K, h => ⟨[], h, rfl⟩
  | .tmp t :: r, K, h => by
    obtain ⟨vs, hk, hr⟩ := res_run hag r _ h
    refine ⟨_, hk, ?_⟩
    rw [List.mapM_cons, run_bind]
    simp only [resOf, run_pure, run_bind, hr]
    rw [hag.2.2 t]
  | .cell x T :: r, K, h => by
    replace h := andB.out h
    obtain ⟨hT, h⟩ := h
    obtain ⟨v, h', hl⟩ := ld_run hT h
    obtain ⟨vs, hk, hr⟩ := res_run hag r _ h'
    refine ⟨_, hk, ?_⟩
    have hl' : (resOf a.tmps (.cell x T)).run P w = .ok v w := by
      show (do loadVar T (← asAddr (a.tmps.getD x undef)) : Sem Value).run P w = .ok v w
      rw [hag.2.2 x]
      cases hv : f x <;> rw [hv] at h hl <;> simp only [ldW] at h <;> try exact h.elim
      rename_i p
      cases p with
      | none => exact h.elim
      | some p => exact hl
    rw [List.mapM_cons, run_bind]
    simp only [hl', run_bind, hr, run_pure]

theorem results_run {fn : Func} {f : Fr} {a : Act} {w : World} {K : Value → Prop} (hag : Ag n D f a) (h : resW P fn.results.toList f w fun l => K (one l)) :
    ∃ v, K v ∧ (results fn a.tmps).run P w = .ok v w := by
  obtain ⟨vs, hk, hr⟩ := res_run hag _ _ h
  refine ⟨_, hk, ?_⟩
  rw [results_eq, run_bind]
  have : (fn.results.mapM (resOf a.tmps)).run P w = .ok vs.toArray w := by
    rw [Array.mapM_eq_mapM_toList, ← bind_pure_comp, run_bind, hr]
    rfl
  rw [this]
  simp only [run_pure]
  congr 1
  cases vs with
  | nil => rfl
  | cons v r => cases r <;> rfl

def fr0 (args : List Value) : Fr := fun j => args.getD j undef

/-- a whole function -/
def funW [HX] (P : Program) (fn : Func) (pl : Plan) (args : List Value) (w : World) (K : Value → World → Prop) : Prop :=
  match fn.body with
  | some c => codeW P pl c 0 (fr0 args) w (fun f w' => resW P fn.results.toList f w' fun l => K (one l) w') (fun _ _ _ => False) (fun f w' => resW P fn.results.toList f w' fun l => K (one l) w')
  | none => False

def chkFun (P : Program) (fn : Func) (pl : Plan) (k : Nat) : Bool :=
  match fn.body with
  | some c => Nat.ble k fn.ntmps && chk P fn.ntmps pl [] 0 c 0
  | none => false

theorem funW_sound {g : FuncId} {fn : Func} {args : List Value} {w : World} {K : Value → World → Prop} (hm : P.follows .mixedOrders = true) (hf : P.funcs[g]? = some fn) (hc : chkFun P fn pl args.length = true)
    (h : funW P fn pl args w K) : callW P g args w K := by
  unfold funW at h
  unfold chkFun at hc
  cases hb : fn.body with
  | none => rw [hb] at h; exact h.elim
  | some c =>
    rw [hb] at h hc
    simp only [Bool.and_eq_true] at hc
    unfold callW
    refine calls_of_wp hf hb ?_
    have hle : args.length ≤ fn.ntmps := Nat.le_of_ble_eq_true hc.1
    have hag : Ag fn.ntmps [] (fr0 args) { tmps := args.toArray ++ Array.replicate (fn.ntmps - args.toArray.size) undef, defers := [] } := by
      refine ⟨rfl, by simp; omega, fun t => ?_⟩
      simp only [Array.getD_eq_getD_getElem?, Array.getElem?_append, List.size_toArray, List.getElem?_toArray, Array.getElem?_replicate, fr0, List.getD_eq_getElem?_getD]
      split
      · rfl
      · rename_i hlt
        rw [List.getElem?_eq_none (by omega)]
        split <;> rfl
    have hend : ∀ (f' : Fr) (a' : Act) (w' : World), Ag fn.ntmps [] f' a' → (resW P fn.results.toList f' w' fun l => K (one l) w') → a'.defers = [] ∧ ∃ v, (results fn a'.tmps).run P w' = .ok v w' ∧ EndK K (.returned v) w' := by
      intro f' a' w' hag' hk
      obtain ⟨v, hk', hr⟩ := results_run (K := fun v => K v w') hag' hk
      exact ⟨hag'.1, v, hr, hk'⟩
    exact codeW_sound hm c [] 0 0 _ _ w _ _ _ _ hc.2 hag h (fun f' a' w' hag' _ hk => hend f' a' w' hag' hk) (fun _ _ _ _ _ _ hk => hk.elim) (fun f' a' w' hag' _ hk => hend f' a' w' hag' hk) (fun c a' w' hd _ hx => ⟨hd, hx⟩)

/-- what ties a printed text to the function -/
theorem tie (P : Program) (g : FuncId) (fn : Func) (pl : Plan) (args : List Value) (w : World) (K : Value → World → Prop) (k : Nat) (X : Prop) (hk : args.length = k) (hm : P.follows .mixedOrders = true) (hf : P.funcs[g]? = some fn)
    (hc : chkFun P fn pl k = true) (he : funW P fn pl args w K = X) (hr : ∀ (as : Array Value) (w : World), (callFunc g as).run P w = .ok (.enter g as) w) (h : X) : callF P g args w K := by
  unfold callF
  rw [hr]
  exact funW_sound hm hf (by rw [hk]; exact hc) (by rw [he]; exact h)

theorem callF_of {g : FuncId} {args : List Value} {w : World} {K : Value → World → Prop} (hr : (callFunc g args.toArray).run P w = .ok (.enter g args.toArray) w) (h : callW P g args w K) : callF P g args w K := by
  unfold callF
  rw [hr]
  exact h

theorem callF_calls {g : FuncId} {args : List Value} {w : World} {K : Value → World → Prop} (hr : (callFunc g args.toArray).run P w = .ok (.enter g args.toArray) w) (h : callF P g args w K) :
    Calls P g args.toArray w (EndK K) := by
  unfold callF at h
  rw [hr] at h
  exact h
end
end Go.Eng
