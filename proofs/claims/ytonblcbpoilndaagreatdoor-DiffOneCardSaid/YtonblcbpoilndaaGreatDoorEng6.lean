/- One plain sentence: whatever order the tape picks in a region, what the canonical run asks is enough. Conditions: the static checks hold. -/
import Derived.Test.YtonblcbpoilndaaGreatDoorEng5
set_option linter.all false
set_option linter.unusedSimpArgs false
set_option linter.unusedVariables false
set_option linter.unusedSectionVars false
namespace Go.Eng
open Go
section
variable {P : Program} {n : Nat} {D : List Deferred} {ops : List Oper} {e : DE}

/-- operation number i yields what its slot holds, in the world w -/
def YY (P : Program) (ops : List Oper) (f : Fr) (o : Oper) (d : Nat) (w : World) : Prop :=
  (wantF ops f o = true ∧ (execOp (ev f) o).run P w = .ok (.value (f d)) w) ∨ (wantF ops f o = false ∧ f d = undef)

structure Inv (R : Fr → Prop) (P : Program) (n : Nat) (D : List Deferred) (ops : List Oper) (e : DE) (listed : Array Bool) (a : Act) (done pend : List Nat) (f : Fr) (w : World) : Prop where
  fr : R f
  defers : a.defers = D
  size : a.tmps.size = n
  lsize : listed.size = ops.length
  l1 : ∀ i : Nat, listed.getD i false = true → i ∈ done
  l2 : ∀ i ∈ done, i < ops.length ∧ (listed.getD i false = false → i ∈ e.fl ∧ i ∈ pend)
  l3 : ∀ t, (∀ i ∈ done, listed.getD i false = false → dstOf ops i ≠ some t) → a.tmps.getD t undef = f t
  l4 : ∀ i ∈ done, listed.getD i false = false → ∀ o d, ops[i]? = some o → o.dst = some d → YY P ops f o d w ∧ (isPure P o.op = true → ∀ w', YY P ops f o d w')
  l5 : ∀ i ∈ done, ∀ o, ops[i]? = some o → ∀ x ∈ bindsOn o, x ∈ done
  l6 : ∀ i : Nat, listed.getD i false = true → ∀ o, ops[i]? = some o → ∀ x ∈ bindsOn o, listed.getD x false = true

theorem looks_op {o : Oper} {t : Nat} (h : Operand.tmp t ∈ o.op.operands.toList) : t ∈ looksL ops o := by
  unfold looksL
  exact List.mem_append_left _ (List.mem_filterMap.2 ⟨.tmp t, h, rfl⟩)

theorem looks_guard {o : Oper} {g : Nat} {want : Bool} {d : Nat} (hg : o.guard = some (g, want)) (hd : dstOf ops g = some d) : d ∈ looksL ops o := by
  unfold looksL
  refine List.mem_append_right _ ?_
  simp [hg, hd]

theorem noSel_spec {o : Oper} (h : noSel o = true) : ∀ cs b, o.op ≠ .select cs b := by
  intro cs b he
  simp [noSel, he] at h

theorem exec_same {o : Oper} (hs : noSel o = true) {ρ ρ' : Operand → Value} (h : ∀ x ∈ o.op.operands.toList, ρ x = ρ' x) : execOp ρ o = execOp ρ' o :=
  execOp_congr o (noSel_spec hs) (fun x hx => h x (by simpa using hx))

theorem ev_same {f f' : Fr} {x : Operand} (h : ∀ t, x = .tmp t → f t = f' t) : ev f x = ev f' x := by
  cases x <;> first | rfl | exact h _ rfl

theorem wantF_same {f f' : Fr} {o : Oper} (h : ∀ t ∈ looksL ops o, f t = f' t) : wantF ops f o = wantF ops f' o := by
  unfold wantF
  cases hg : o.guard with
  | none => rfl
  | some gw =>
    obtain ⟨g, want⟩ := gw
    simp only [yv]
    cases hd : dstOf ops g with
    | none => rfl
    | some d => simp only [h d (looks_guard hg hd)]

theorem YY.same {f f' : Fr} {o : Oper} {d : Nat} {w : World} (hs : noSel o = true) (h : ∀ t ∈ looksL ops o, f t = f' t) (hd : f d = f' d) (hy : YY P ops f o d w) : YY P ops f' o d w := by
  unfold YY at *
  rw [← wantF_same h, ← hd]
  rw [← exec_same hs (ρ := ev f) (ρ' := ev f') (fun x hx => ev_same fun t ht => h t (looks_op (ht ▸ hx)))]
  exact hy

/-- what a float's canonical step gives -/
theorem qf_sound {f : Fr} {o : Oper} {w : World} {K : Value → Prop} (hp : isPure P o.op = true ∨ isRead P o.op = true) (h : qfW P ops f o w K) :
    ∃ v, K v ∧ ((wantF ops f o = true ∧ (execOp (ev f) o).run P w = .ok (.value v) w ∧ (isPure P o.op = true → ∀ w', (execOp (ev f) o).run P w' = .ok (.value v) w')) ∨ (wantF ops f o = false ∧ v = undef)) := by
  have key : ∀ K : Value → Prop, anyQ P f o w K → ∃ v, K v ∧ (execOp (ev f) o).run P w = .ok (.value v) w ∧ (isPure P o.op = true → ∀ w', (execOp (ev f) o).run P w' = .ok (.value v) w') := by
    intro K h
    unfold anyQ at h
    cases hp' : isPure P o.op with
    | true =>
      rw [hp'] at h
      obtain ⟨v, hk, hr⟩ := pure_sound (o := o) h
      exact ⟨v, hk, hr w, fun _ => hr⟩
    | false =>
      rw [hp'] at h
      obtain ⟨v, hk, hr⟩ := read_sound (o := o) h
      exact ⟨v, hk, hr, fun hh => by cases hh⟩
  unfold qfW at h
  unfold wantF
  cases hg : o.guard with
  | none =>
    simp only [hg] at h
    obtain ⟨v, hk, h1, h2⟩ := key K h
    exact ⟨v, hk, .inl ⟨rfl, h1, h2⟩⟩
  | some gw =>
    obtain ⟨g, want⟩ := gw
    simp only [hg] at h
    obtain ⟨v, ht, hf, hk⟩ := h
    cases hc : yv ops f g want with
    | true =>
      obtain ⟨v', rfl, h1, h2⟩ := key _ (ht hc)
      exact ⟨v', hk, .inl ⟨hc, h1, h2⟩⟩
    | false => exact ⟨v, hk, .inr ⟨hc, hf hc⟩⟩

theorem nextFl_some {done : List Nat} : ∀ {l : List Nat} {i : Nat} {o : Oper}, nextFl ops done l = some (i, o) → i ∈ l ∧ i ∉ done ∧ ops[i]? = some o ∧ ∀ x ∈ bindsOn o, x ∈ done
  | [], _, _, h => by cases h
  | j :: l, i, o, h => by
    simp only [nextFl] at h
    cases hm : memb done j with
    | true => rw [hm] at h; obtain ⟨h1, h2⟩ := nextFl_some (l := l) h; exact ⟨List.mem_cons_of_mem _ h1, h2⟩
    | false =>
      rw [hm] at h
      simp only [cond_false] at h
      have rec_ : nextFl ops done l = some (i, o) → i ∈ j :: l ∧ i ∉ done ∧ ops[i]? = some o ∧ ∀ x ∈ bindsOn o, x ∈ done := fun h => by
        obtain ⟨h1, h2⟩ := nextFl_some (l := l) h
        exact ⟨List.mem_cons_of_mem _ h1, h2⟩
      cases ho : ops[j]? with
      | none => rw [ho] at h; exact rec_ h
      | some o' =>
        rw [ho] at h
        simp only at h
        cases hall : allIn done (bindsOn o') with
        | true =>
          rw [hall] at h
          simp only [cond_true, Option.some.injEq, Prod.mk.injEq] at h
          obtain ⟨rfl, rfl⟩ := h
          exact ⟨List.mem_cons_self, (fun hd => by rw [memb_iff.2 hd] at hm; cases hm), ho, allIn_iff.1 hall⟩
        | false => rw [hall] at h; exact rec_ h

theorem nextFl_none {done : List Nat} : ∀ {l : List Nat}, nextFl ops done l = none → ∀ i ∈ l, i ∉ done → ∀ o, ops[i]? = some o → ¬ ∀ x ∈ bindsOn o, x ∈ done
  | [], _, _, hi, _, _, _, _ => by cases hi
  | j :: l, h, i, hi, hd, o, ho, hall => by
    simp only [nextFl] at h
    cases hm : memb done j with
    | true =>
      rw [hm] at h
      rcases List.mem_cons.1 hi with rfl | hi
      · exact hd (memb_iff.1 hm)
      · exact nextFl_none (l := l) h i hi hd o ho hall
    | false =>
      rw [hm] at h
      simp only [cond_false] at h
      rcases List.mem_cons.1 hi with rfl | hi
      · rw [ho] at h
        simp [allIn_iff.2 hall] at h
      · cases ho' : ops[j]? with
        | none => rw [ho'] at h; exact nextFl_none (l := l) h i hi hd o ho hall
        | some o' =>
          rw [ho'] at h
          simp only at h
          cases hall' : allIn done (bindsOn o') with
          | true => rw [hall'] at h; cases h
          | false => rw [hall'] at h; exact nextFl_none (l := l) h i hi hd o ho hall

theorem mem_effs {fl done : List Nat} : ∀ (l : List Oper) (k i : Nat) (o : Oper), l[i]? = some o → k + i ∉ done → k + i ∉ fl → (∀ x ∈ bindsOn o, x ∈ done) → (k + i, o) ∈ effs ops fl done k l
  | [], _, i, o, h, _, _, _ => by simp at h
  | p :: l, k, 0, o, h, h1, h2, h3 => by
    simp only [List.getElem?_cons_zero, Option.some.injEq] at h
    subst h
    have e1 : memb done k = false := by
      cases hm : memb done k with
      | false => rfl
      | true => exact absurd (memb_iff.1 hm) h1
    have e2 : memb fl k = false := by
      cases hm : memb fl k with
      | false => rfl
      | true => exact absurd (memb_iff.1 hm) h2
    simp [effs, e1, e2, allIn_iff.2 h3]
  | p :: l, k, i + 1, o, h, h1, h2, h3 => by
    have h' : l[i]? = some o := by simpa using h
    have := mem_effs (fl := fl) (done := done) l (k + 1) i o h' (by rwa [show k + 1 + i = k + (i + 1) by omega]) (by rwa [show k + 1 + i = k + (i + 1) by omega]) h3
    rw [show k + 1 + i = k + (i + 1) by omega] at this
    simp only [effs]
    generalize (bif memb done k then false else bif memb fl k then false else allIn done (bindsOn p)) = b
    cases b
    · exact this
    · exact List.mem_cons_of_mem _ this

theorem effs_mem {fl done : List Nat} : ∀ (l : List Oper) (k : Nat) (io : Nat × Oper), io ∈ effs ops fl done k l → k ≤ io.1 ∧ l[io.1 - k]? = some io.2 ∧ io.1 ∉ done ∧ io.1 ∉ fl ∧ ∀ x ∈ bindsOn io.2, x ∈ done
  | [], _, _, h => by cases h
  | p :: l, k, io, h => by
    simp only [effs] at h
    have tail : io ∈ effs ops fl done (k + 1) l → k ≤ io.1 ∧ (p :: l)[io.1 - k]? = some io.2 ∧ io.1 ∉ done ∧ io.1 ∉ fl ∧ ∀ x ∈ bindsOn io.2, x ∈ done := by
      intro h
      obtain ⟨h1, h2, h3⟩ := effs_mem l (k + 1) io h
      refine ⟨by omega, ?_, h3⟩
      rw [show io.1 - k = (io.1 - (k + 1)) + 1 by omega]
      simpa using h2
    cases hm : memb done k with
    | true => rw [hm] at h; exact tail h
    | false =>
      cases hf : memb fl k with
      | true => rw [hm, hf] at h; exact tail h
      | false =>
        cases ha : allIn done (bindsOn p) with
        | false => rw [hm, hf, ha] at h; exact tail h
        | true =>
          rw [hm, hf, ha] at h
          simp only [cond_false, cond_true] at h
          rcases List.mem_cons.1 h with rfl | h
          · refine ⟨Nat.le_refl _, by simp, (fun hd => by rw [memb_iff.2 hd] at hm; cases hm), (fun hd => by rw [memb_iff.2 hd] at hf; cases hf), allIn_iff.1 ha⟩
          · exact tail h

theorem stab_rest {f : Fr} {w : World} {R : Prop} : ∀ {l : List Nat}, stabW P ops f w R l → R
  | [], h => h
  | i :: l, h => by
    unfold stabW at h
    split at h
    · split at h
      · cases hp : isPure P _ <;> rw [hp] at h
        · exact stab_rest (l := l) h.2
        · exact stab_rest (l := l) h
      · exact stab_rest (l := l) h
    · exact stab_rest (l := l) h

theorem stab_get {f : Fr} {w : World} {R : Prop} : ∀ {l : List Nat}, stabW P ops f w R l → ∀ i ∈ l, ∀ o d, ops[i]? = some o → o.dst = some d → isPure P o.op = false → wantF ops f o = true →
    readW P f o w (fun x => x = f d)
  | [], _, _, hi, _, _, _, _, _, _ => by cases hi
  | j :: l, h, i, hi, o, d, ho, hd, hp, hw => by
    rcases List.mem_cons.1 hi with rfl | hi
    · unfold stabW at h
      simp only [ho, hd, hp, cond_false] at h
      unfold wantF at hw
      cases hg : o.guard with
      | none => simp only [hg] at h; exact h.1
      | some gw =>
        obtain ⟨g, want⟩ := gw
        simp only [hg] at h hw
        exact h.1 hw
    · unfold stabW at h
      split at h
      · split at h
        · cases hp' : isPure P _ <;> rw [hp'] at h
          · exact stab_get (l := l) h.2 i hi o d ho hd hp hw
          · exact stab_get (l := l) h i hi o d ho hd hp hw
        · exact stab_get (l := l) h i hi o d ho hd hp hw
      · exact stab_get (l := l) h i hi o d ho hd hp hw
end
end Go.Eng
