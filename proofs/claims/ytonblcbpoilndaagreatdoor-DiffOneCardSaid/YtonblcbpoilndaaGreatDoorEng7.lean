/- One plain sentence: the theorem on regions that draw: the canonical run is enough for every order. Conditions: the static checks hold. -/
import Derived.Test.YtonblcbpoilndaaGreatDoorEng6
set_option linter.all false
set_option linter.unusedSimpArgs false
set_option linter.unusedVariables false
set_option linter.unusedSectionVars false
namespace Go.Eng
open Go
section
variable {R : Fr → Prop} {P : Program} {n : Nat} {D : List Deferred} {ops : List Oper} {e : DE}

theorem nodup_le : ∀ (N : Nat) (l : List Nat), l.Nodup → (∀ i ∈ l, i < N) → l.length ≤ N
  | 0, [], _, _ => Nat.le_refl _
  | 0, x :: _, _, h => by have := h x List.mem_cons_self; omega
  | N + 1, l, hnd, h => by
    have h1 : (l.erase N).length ≤ N := nodup_le N (l.erase N) (hnd.erase N) fun i hi => by
      have h2 := h i (List.mem_of_mem_erase hi)
      have h3 : i ≠ N := fun e => by subst e; exact (List.Nodup.not_mem_erase hnd) hi
      omega
    have h4 := List.length_erase (a := N) (l := l)
    split at h4 <;> omega

theorem lt_of_some {k : Nat} {o : Oper} (h : ops[k]? = some o) : k < ops.length := by
  rcases Nat.lt_or_ge k ops.length with h' | h'
  · exact h'
  · rw [List.getElem?_eq_none h'] at h; cases h

theorem dstOf_some {k : Nat} {o : Oper} (h : ops[k]? = some o) : dstOf ops k = o.dst := by simp [dstOf, h]

/-- one float more in the canonical run -/
theorem Inv.float (hR : ∀ f o v, o ∈ ops → R f → R (upd f o.dst v)) (hc : chkDraw P n ops e = true) {listed : Array Bool} {a : Act} {done pend : List Nat} {f : Fr} {w : World} (I : Inv R P n D ops e listed a done pend f w)
    {i : Nat} {o : Oper} (hi : i ∈ e.fl) (hd : i ∉ done) (ho : ops[i]? = some o) (hb : ∀ x ∈ bindsOn o, x ∈ done) {v : Value}
    (hv : (wantF ops f o = true ∧ (execOp (ev f) o).run P w = .ok (.value v) w ∧ (isPure P o.op = true → ∀ w', (execOp (ev f) o).run P w' = .ok (.value v) w')) ∨ (wantF ops f o = false ∧ v = undef)) :
    Inv R P n D ops e listed a (i :: done) (i :: pend) (upd f o.dst v) w := by
  obtain ⟨o', d, ho', hdst, hkind, hall⟩ := chk_fl hc hi
  rw [ho] at ho'
  cases ho'
  have hself : d ∉ looksL ops o := fun hm => hd (anc_in hc I.l5 i o ho hb i ((hall i o ho).2.1 hm))
  have hfd : ∀ t, t ≠ d → upd f o.dst v t = f t := fun t ht => by rw [hdst, upd_some, if_neg ht]
  refine ⟨hR _ _ _ (List.mem_of_getElem? ho) I.fr, I.defers, I.size, I.lsize, fun k hk => List.mem_cons_of_mem _ (I.l1 k hk), ?_, ?_, ?_, ?_, I.l6⟩
  · intro k hk
    rcases List.mem_cons.1 hk with rfl | hk
    · exact ⟨lt_of_some ho, fun _ => ⟨hi, List.mem_cons_self⟩⟩
    · exact ⟨(I.l2 k hk).1, fun hl => ⟨((I.l2 k hk).2 hl).1, List.mem_cons_of_mem _ ((I.l2 k hk).2 hl).2⟩⟩
  · intro t ht
    have htd : t ≠ d := fun h => by
      subst h
      refine ht i List.mem_cons_self ?_ (by rw [dstOf_some ho, hdst])
      cases hl : listed.getD i false with
      | false => rfl
      | true => exact absurd (I.l1 i hl) hd
    rw [hfd t htd]
    exact I.l3 t fun k hk hl => ht k (List.mem_cons_of_mem _ hk) hl
  · intro k hk hl ok dk hok hdk
    rcases List.mem_cons.1 hk with rfl | hk
    · rw [ho] at hok
      cases hok
      rw [hdst] at hdk
      cases hdk
      have hsame : ∀ t ∈ looksL ops o, f t = upd f o.dst v t := fun t ht => (hfd t (fun h => hself (h ▸ ht))).symm
      have hval : upd f o.dst v d = v := by rw [hdst, upd_some, if_pos rfl]
      have hsel := (chk_op hc ho).2.1
      have hex : execOp (ev f) o = execOp (ev (upd f o.dst v)) o := exec_same hsel (fun x hx => ev_same fun t ht => hsame t (looks_op (ht ▸ hx)))
      rcases hv with ⟨h1, h2, h3⟩ | ⟨h1, h2⟩
      · rw [hex] at h2 h3
        rw [wantF_same hsame] at h1
        exact ⟨.inl ⟨h1, by rw [hval]; exact h2⟩, fun hp w' => .inl ⟨h1, by rw [hval]; exact h3 hp w'⟩⟩
      · rw [wantF_same hsame] at h1
        exact ⟨.inr ⟨h1, by rw [hval]; exact h2⟩, fun _ _ => .inr ⟨h1, by rw [hval]; exact h2⟩⟩
    · have hki : k ≠ i := fun h => hd (h ▸ hk)
      have hdl : d ∉ looksL ops ok := fun hm => hd (anc_in hc I.l5 k ok hok (I.l5 k hk ok hok) i ((hall k ok hok).2.1 hm))
      have hdd : dk ≠ d := fun h => (hall k ok hok).1 hki (by rw [hdk, h])
      have hsel := (chk_op hc hok).2.1
      have h4 := I.l4 k hk hl ok dk hok hdk
      have hsame : ∀ t ∈ looksL ops ok, f t = upd f o.dst v t := fun t ht => (hfd t (fun h => hdl (h ▸ ht))).symm
      exact ⟨h4.1.same hsel hsame (hfd dk hdd).symm, fun hp w' => (h4.2 hp w').same hsel hsame (hfd dk hdd).symm⟩
  · intro k hk ok hok x hx
    rcases List.mem_cons.1 hk with rfl | hk
    · rw [ho] at hok
      cases hok
      exact List.mem_cons_of_mem _ (hb x hx)
    · exact List.mem_cons_of_mem _ (I.l5 k hk ok hok x hx)

/-- all floats that may come now are taken -/
theorem draw_norm [HX] (hR : ∀ f o v, o ∈ ops → R f → R (upd f o.dst v)) (hc : chkDraw P n ops e = true) {K : Fr → World → Prop} {listed : Array Bool} {a : Act} {w : World} : ∀ (m : Nat) (done pend : List Nat) (f : Fr),
    Inv R P n D ops e listed a done pend f w → drawW P ops e m done pend f w K →
    ∃ m' done' pend' f', Inv R P n D ops e listed a done' pend' f' w ∧ drawW P ops e (m' + 1) done' pend' f' w K ∧ nextFl ops done' e.fl = none
  | 0, _, _, _, _, h => by cases h
  | m + 1, done, pend, f, I, h => by
    cases hn : nextFl ops done e.fl with
    | none => exact ⟨m, done, pend, f, I, h, hn⟩
    | some io =>
      obtain ⟨i, o⟩ := io
      simp only [drawW, hn] at h
      obtain ⟨h1, h2, h3, h4⟩ := nextFl_some hn
      obtain ⟨o', d, ho', hdst, hkind, _⟩ := chk_fl hc h1
      rw [h3] at ho'
      cases ho'
      obtain ⟨v, hk, hv⟩ := qf_sound hkind h
      exact draw_norm hR hc m _ _ _ (I.float hR hc h1 h2 h3 h4 hv) hk

theorem mem_ready' {listed : Array Bool} {i : Nat} (hsz : listed.size = ops.length) : i ∈ Region.ready .any ops.toArray listed ↔
    ∃ o, ops[i]? = some o ∧ listed.getD i false = false ∧ ∀ x ∈ bindsOn o, listed.getD x false = true := by
  unfold Region.ready
  simp only [List.mem_filter, List.mem_range, List.size_toArray, Bool.and_eq_true, Bool.not_eq_true', List.getElem?_toArray]
  constructor
  · rintro ⟨h1, h2, h3⟩
    have ho : ops[i]? = some ops[i] := List.getElem?_eq_getElem h1
    rw [ho] at h3
    simp only [Option.map_some, Option.getD_some, Array.all_eq_true_iff_forall_mem, Bool.or_eq_true, Bool.not_eq_true'] at h3
    refine ⟨_, ho, ?_, fun x hx => ?_⟩
    · simp only [Array.getD_eq_getD_getElem?] at h2 ⊢
      have : i < listed.size := by rw [hsz]; exact h1
      simpa [this] using h2
    · simp only [bindsOn, List.mem_map, List.mem_filter, Array.mem_toList_iff] at hx
      obtain ⟨ed, ⟨hm, hb⟩, rfl⟩ := hx
      rcases h3 ed hm with h3 | h3
      · rw [hb] at h3; cases h3
      · exact h3
  · rintro ⟨o, ho, h2, h3⟩
    have h1 := lt_of_some ho
    refine ⟨h1, ?_, ?_⟩
    · simp only [Array.getD_eq_getD_getElem?] at h2 ⊢
      have : i < listed.size := by rw [hsz]; exact h1
      simpa [this] using h2
    · rw [ho]
      simp only [Option.map_some, Option.getD_some, Array.all_eq_true_iff_forall_mem, Bool.or_eq_true, Bool.not_eq_true']
      intro ed hm
      cases hb : Region.binds .any ed with
      | false => exact .inl rfl
      | true => exact .inr (h3 _ (by simp only [bindsOn, List.mem_map, List.mem_filter, Array.mem_toList_iff]; exact ⟨ed, ⟨hm, hb⟩, rfl⟩))

theorem getD_set (listed : Array Bool) (i k : Nat) (hi : i < listed.size) : (listed.setIfInBounds i true).getD k false = (if k = i then true else listed.getD k false) := by
  simp only [Array.getD_eq_getD_getElem?, Array.getElem?_setIfInBounds]
  by_cases h : k = i
  · subst h; simp [hi]
  · rw [if_neg h, if_neg (Ne.symm h)]

theorem draw_sound [HX] (hR : ∀ f o v, o ∈ ops → R f → R (upd f o.dst v)) (hc : chkDraw P n ops e = true) {Q : Exit → Act → World → Prop} {K : Fr → World → Prop}
    (hQ : ∀ f a w, Ag n D f a → R f → K f w → Q .normal a w) (hX : ∀ c f a w, a.defers = D → R f → (∀ t, (∀ o ∈ ops, o.dst ≠ some t) → a.tmps.getD t undef = f t) → HX.X c w → Q (.panic c) a w) : ∀ (m : Nat) (listed : Array Bool) (a : Act) (done pend : List Nat) (f : Fr) (w : World) (k : Nat),
    Inv R P n D ops e listed a done pend f w → drawW P ops e k done pend f w K → (∀ l : List Nat, l.Nodup → (∀ i ∈ l, i < ops.length ∧ listed.getD i false = false) → l.length ≤ m) →
    wpAny P .any ops.toArray Q m listed a w := by
  -- all is listed: the end
  have fin : ∀ (listed : Array Bool) (a : Act) (done pend : List Nat) (f : Fr) (w : World) (k : Nat), Inv R P n D ops e listed a done pend f w → drawW P ops e k done pend f w K →
      (∀ i, i < ops.length → listed.getD i false = true) → Q .normal a w := by
    intro listed a done pend f w k I h hall
    obtain ⟨k', done', pend', f', I', h', hn⟩ := draw_norm hR hc k done pend f I h
    simp only [drawW, hn] at h'
    have hag : Ag n D f' a := ⟨I'.defers, I'.size, fun t => I'.l3 t fun i hi hl => by
      have := hall i (I'.l2 i hi).1
      rw [this] at hl
      cases hl⟩
    cases he : effs ops e.fl done' 0 ops with
    | nil => rw [he] at h'; exact hQ _ _ _ hag I'.fr h'
    | cons x r =>
      have hx : x ∈ effs ops e.fl done' 0 ops := by rw [he]; exact List.mem_cons_self
      obtain ⟨_, h2, h3, _⟩ := effs_mem ops 0 x hx
      exact absurd (I'.l1 x.1 (hall x.1 (lt_of_some (by simpa using h2)))) h3
  -- nothing may come: all is listed
  have stop : ∀ (listed : Array Bool), listed.size = ops.length → Region.ready .any ops.toArray listed = [] → ∀ i, i < ops.length → listed.getD i false = true := by
    intro listed hsz hr i
    induction i using Nat.strongRecOn with
    | _ i ih =>
      intro hi
      cases hl : listed.getD i false with
      | true => rfl
      | false =>
        have ho : ops[i]? = some ops[i] := List.getElem?_eq_getElem hi
        have : i ∈ Region.ready .any ops.toArray listed := (mem_ready' hsz).2 ⟨_, ho, hl, fun x hx => by
          have := (chk_op hc ho).2.2.1 x hx
          exact ih x this (by omega)⟩
        rw [hr] at this
        cases this
  intro m
  induction m with
  | zero =>
    intro listed a done pend f w k I h hcount
    have hall : ∀ i, i < ops.length → listed.getD i false = true := fun i hi => by
      cases hl : listed.getD i false with
      | true => rfl
      | false => have := hcount [i] (by simp) (by intro j hj; rw [List.mem_singleton.1 hj]; exact ⟨hi, hl⟩); simp at this
    refine ⟨?_, fin _ _ _ _ _ _ _ I h hall⟩
    cases hr : Region.ready .any ops.toArray listed with
    | nil => rfl
    | cons i r =>
      have : i ∈ Region.ready .any ops.toArray listed := by rw [hr]; exact List.mem_cons_self
      obtain ⟨o, ho, hl, _⟩ := (mem_ready' I.lsize).1 this
      rw [hall i (lt_of_some ho)] at hl
      cases hl
  | succ m ih =>
    intro listed a done pend f w k I h hcount
    refine ⟨fun hr => fin _ _ _ _ _ _ _ I h (stop listed I.lsize hr), fun i hi => ?_⟩
    obtain ⟨o, ho, hl, hb⟩ := (mem_ready' I.lsize).1 hi
    have hilt := lt_of_some ho
    have hils : i < listed.size := by rw [I.lsize]; exact hilt
    obtain ⟨k', done', pend', f', I', h', hn⟩ := draw_norm hR hc k done pend f I h
    clear I h
    -- what i looks at is the same in the slots and in the frame
    have hagree : ∀ t ∈ looksL ops o, a.tmps.getD t undef = f' t := fun t ht => I'.l3 t fun j hj hlj hdj => by
      obtain ⟨hjf, _⟩ := (I'.l2 j hj).2 hlj
      obtain ⟨oj, dj, hoj, hdst, _, hall⟩ := chk_fl hc hjf
      rw [dstOf_some hoj, hdst] at hdj
      cases hdj
      have hanc := (hall i o ho).2.1 ht
      have hlist : ∀ x ∈ e.anc.getD i [], listed.getD x false = true := by
        have := anc_in hc (done := (List.range ops.length).filter fun x => listed.getD x false) (fun x hx ox hox y hy => by
          simp only [List.mem_filter, List.mem_range] at hx ⊢
          exact ⟨by have := (chk_op hc hox).2.2.1 y hy; omega, I'.l6 x hx.2 ox hox y hy⟩) i o ho (fun x hx => by
          simp only [List.mem_filter, List.mem_range]
          exact ⟨by have := (chk_op hc ho).2.2.1 x hx; omega, hb x hx⟩)
        intro x hx
        have := this x hx
        simp only [List.mem_filter] at this
        exact this.2
      rw [hlist j hanc] at hlj
      cases hlj
    have hsel := (chk_op hc ho).2.1
    have hwant : Region.wanted o (yielded ops.toArray a.tmps) = wantF ops f' o := wanted_eq fun g want d hg hd => hagree d (looks_guard hg hd)
    have hexec : execOp a.eval o = execOp (ev f') o := exec_same hsel fun x hx => ev_eq fun t ht => hagree t (looks_op (ht ▸ hx))
    have hcount' : ∀ l : List Nat, l.Nodup → (∀ j ∈ l, j < ops.length ∧ (listed.setIfInBounds i true).getD j false = false) → l.length ≤ m := by
      intro l hnd hl'
      have hil : i ∉ l := fun hm => by
        have := (hl' i hm).2
        rw [getD_set _ _ _ hils, if_pos rfl] at this
        cases this
      have := hcount (i :: l) (List.nodup_cons.2 ⟨hil, hnd⟩) (fun j hj => by
        rcases List.mem_cons.1 hj with rfl | hj
        · exact ⟨hilt, hl⟩
        · have hne : j ≠ i := fun h => hil (h ▸ hj)
          have := hl' j hj
          rw [getD_set _ _ _ hils, if_neg hne] at this
          exact this)
      simpa using this
    have hl6 : ∀ j : Nat, (listed.setIfInBounds i true).getD j false = true → ∀ oj, ops[j]? = some oj → ∀ x ∈ bindsOn oj, (listed.setIfInBounds i true).getD x false = true := by
      intro j hj oj hoj x hx
      rw [getD_set _ _ _ hils]
      by_cases hxi : x = i
      · rw [if_pos hxi]
      · rw [if_neg hxi]
        rw [getD_set _ _ _ hils] at hj
        by_cases hji : j = i
        · subst hji; rw [ho] at hoj; cases hoj; exact hb x hx
        · rw [if_neg hji] at hj; exact I'.l6 j hj oj hoj x hx
    by_cases hdone : i ∈ done'
    · -- a float that the canonical run has taken already
      obtain ⟨hif, _⟩ := (I'.l2 i hdone).2 hl
      obtain ⟨o', d, ho', hdst, _, hall⟩ := chk_fl hc hif
      rw [ho] at ho'
      cases ho'
      have hdn := (chk_op hc ho).1 d hdst
      have hI : Inv R P n D ops e (listed.setIfInBounds i true) (a.put o.dst (f' d)) done' pend' f' w := by
        refine ⟨I'.fr, by rw [put_defers]; exact I'.defers, by rw [put_size]; exact I'.size, by simp [I'.lsize], ?_, ?_, ?_, ?_, I'.l5, hl6⟩
        · intro j hj
          rw [getD_set _ _ _ hils] at hj
          by_cases hji : j = i
          · subst hji; exact hdone
          · rw [if_neg hji] at hj; exact I'.l1 j hj
        · intro j hj
          refine ⟨(I'.l2 j hj).1, fun hlj => ?_⟩
          rw [getD_set _ _ _ hils] at hlj
          by_cases hji : j = i
          · rw [if_pos hji] at hlj; cases hlj
          · rw [if_neg hji] at hlj; exact (I'.l2 j hj).2 hlj
        · intro t ht
          rw [hdst, put_get _ _ _ _ (by rw [I'.size]; exact hdn)]
          by_cases htd : t = d
          · rw [if_pos htd, htd]
          · rw [if_neg htd]
            refine I'.l3 t fun j hj hlj hdj => ?_
            by_cases hji : j = i
            · subst hji
              rw [dstOf_some ho, hdst] at hdj
              cases hdj
              exact htd rfl
            · exact ht j hj (by rw [getD_set _ _ _ hils, if_neg hji]; exact hlj) hdj
        · intro j hj hlj
          rw [getD_set _ _ _ hils] at hlj
          by_cases hji : j = i
          · rw [if_pos hji] at hlj; cases hlj
          · rw [if_neg hji] at hlj; exact I'.l4 j hj hlj
      have hnext := ih _ _ done' pend' f' w (k' + 1) hI h' hcount'
      have hy := (I'.l4 i hdone hl o d ho hdst).1
      unfold wpOp
      simp only [List.getElem?_toArray, ho]
      rw [hwant]
      rcases hy with ⟨h1, h2⟩ | ⟨h1, h2⟩
      · rw [if_pos h1]
        refine .inl ?_
        unfold Oper.wp
        rw [hexec, h2]
        exact hnext
      · rw [if_neg (by rw [h1]; simp), ← h2]
        exact hnext
    · -- an operation that acts
      have hbd : ∀ x ∈ bindsOn o, x ∈ done' := fun x hx => I'.l1 x (hb x hx)
      have hnf : i ∉ e.fl := fun hf => nextFl_none hn i hf hdone o ho hbd
      have hmem : (i, o) ∈ effs ops e.fl done' 0 ops := by
        have := mem_effs (ops := ops) (fl := e.fl) (done := done') ops 0 i o ho (by simpa using hdone) (by simpa using hnf) hbd
        simpa using this
      simp only [drawW, hn] at h'
      have hge : geW P ops f' o w fun v w' => stabW P ops (upd f' o.dst v) w' (drawW P ops e k' (i :: done') (notIn (e.anc.getD i []) pend') (upd f' o.dst v) w' K) (notIn (e.anc.getD i []) pend') := by
        cases he : effs ops e.fl done' 0 ops with
        | nil => rw [he] at hmem; cases hmem
        | cons x r =>
          rw [he] at h' hmem
          exact conjW_mem h' hmem
      have hdn := (chk_op hc ho).1
      have hlanc : ∀ x ∈ e.anc.getD i [], listed.getD x false = true := by
        have := anc_in hc (done := (List.range ops.length).filter fun x => listed.getD x false) (fun x hx ox hox y hy => by
          simp only [List.mem_filter, List.mem_range] at hx ⊢
          exact ⟨by have := (chk_op hc hox).2.2.1 y hy; omega, I'.l6 x hx.2 ox hox y hy⟩) i o ho (fun x hx => by
          simp only [List.mem_filter, List.mem_range]
          exact ⟨by have := (chk_op hc ho).2.2.1 x hx; omega, hb x hx⟩)
        intro x hx
        have := this x hx
        simp only [List.mem_filter] at this
        exact this.2
      -- what stands behind it
      have cont : ∀ v w', stabW P ops (upd f' o.dst v) w' (drawW P ops e k' (i :: done') (notIn (e.anc.getD i []) pend') (upd f' o.dst v) w' K) (notIn (e.anc.getD i []) pend') →
          wpAny P .any ops.toArray Q m (listed.setIfInBounds i true) (a.put o.dst v) w' := by
        intro v w' hst
        refine ih _ _ (i :: done') (notIn (e.anc.getD i []) pend') (upd f' o.dst v) w' k' ?_ (stab_rest hst) hcount'
        have hunl : ∀ j ∈ i :: done', (listed.setIfInBounds i true).getD j false = false → j ≠ i ∧ j ∈ done' ∧ listed.getD j false = false := by
          intro j hj hlj
          rw [getD_set _ _ _ hils] at hlj
          by_cases hji : j = i
          · rw [if_pos hji] at hlj; cases hlj
          · rw [if_neg hji] at hlj
            exact ⟨hji, (List.mem_cons.1 hj).resolve_left hji, hlj⟩
        refine ⟨hR _ _ _ (List.mem_of_getElem? ho) I'.fr, by rw [put_defers]; exact I'.defers, by rw [put_size]; exact I'.size, by simp [I'.lsize], ?_, ?_, ?_, ?_, ?_, hl6⟩
        · intro j hj
          rw [getD_set _ _ _ hils] at hj
          by_cases hji : j = i
          · subst hji; exact List.mem_cons_self
          · rw [if_neg hji] at hj; exact List.mem_cons_of_mem _ (I'.l1 j hj)
        · intro j hj
          refine ⟨?_, fun hlj => ?_⟩
          · rcases List.mem_cons.1 hj with rfl | hj
            · exact hilt
            · exact (I'.l2 j hj).1
          · obtain ⟨hji, hjd, hlj'⟩ := hunl j hj hlj
            obtain ⟨h1, h2⟩ := (I'.l2 j hjd).2 hlj'
            exact ⟨h1, mem_notIn h2 fun hm => by rw [hlanc j hm] at hlj'; cases hlj'⟩
        · intro t ht
          have h3 : ∀ (h : ∀ d, o.dst = some d → t ≠ d), a.tmps.getD t undef = f' t := fun h => I'.l3 t fun j hj hlj hdj => by
            have hji : j ≠ i := fun h' => hdone (h' ▸ hj)
            exact ht j (List.mem_cons_of_mem _ hj) (by rw [getD_set _ _ _ hils, if_neg hji]; exact hlj) hdj
          cases hdst : o.dst with
          | none => rw [hdst] at h3; exact h3 (fun d hd => by cases hd)
          | some d =>
            rw [put_get _ _ _ _ (by rw [I'.size]; exact hdn d hdst), upd_some]
            by_cases htd : t = d
            · rw [if_pos htd, if_pos htd]
            · rw [if_neg htd, if_neg htd]
              exact h3 (fun d' hd' => by rw [hdst] at hd'; cases hd'; exact htd)
        · intro j hj hlj oj dj hoj hdj
          obtain ⟨hji, hjd, hlj'⟩ := hunl j hj hlj
          obtain ⟨hjf, hjp⟩ := (I'.l2 j hjd).2 hlj'
          obtain ⟨oj', dj', hoj', hdj', hkind, hall⟩ := chk_fl hc hjf
          rw [hoj] at hoj'
          cases hoj'
          rw [hdj] at hdj'
          cases hdj'
          have hselj := (chk_op hc hoj).2.1
          have hanc : j ∉ e.anc.getD i [] := fun hm => by rw [hlanc j hm] at hlj'; cases hlj'
          -- the slot that i writes is none of j's
          have hfree : ∀ t, (t ∈ looksL ops oj ∨ t = dj) → f' t = upd f' o.dst v t := by
            intro t ht
            cases hdst : o.dst with
            | none => rfl
            | some d =>
              rw [upd_some]
              by_cases htd : t = d
              · exfalso
                subst htd
                rcases ht with ht | ht
                · rcases (hall i o ho).2.2 t hdst ht with h1 | ⟨_, h1⟩
                  · exact hdone (anc_in hc I'.l5 j oj hoj (I'.l5 j hjd oj hoj) i h1)
                  · exact hanc h1
                · exact (hall i o ho).1 (Ne.symm hji) (by rw [hdst, ht])
              · rw [if_neg htd]
          obtain ⟨hy1, hy2⟩ := I'.l4 j hjd hlj' oj dj hoj hdj
          have hpure : isPure P oj.op = true → ∀ w', YY P ops (upd f' o.dst v) oj dj w' := fun hp w' => (hy2 hp w').same hselj (fun t ht => hfree t (.inl ht)) (hfree dj (.inr rfl))
          refine ⟨?_, hpure⟩
          cases hp : isPure P oj.op with
          | true => exact hpure hp w'
          | false =>
            cases hwj : wantF ops (upd f' o.dst v) oj with
            | true =>
              have := stab_get hst j (mem_notIn hjp hanc) oj dj hoj hdj hp hwj
              obtain ⟨x, rfl, hr⟩ := read_sound this
              exact .inl ⟨hwj, hr⟩
            | false =>
              refine .inr ⟨hwj, ?_⟩
              have hw0 : wantF ops f' oj = false := by rw [wantF_same (fun t ht => hfree t (.inl ht))]; exact hwj
              rcases hy1 with ⟨h1, _⟩ | ⟨_, h1⟩
              · rw [hw0] at h1; cases h1
              · rw [← hfree dj (.inr rfl)]; exact h1
        · intro j hj oj hoj x hx
          rcases List.mem_cons.1 hj with rfl | hj
          · rw [ho] at hoj; cases hoj; exact List.mem_cons_of_mem _ (hbd x hx)
          · exact List.mem_cons_of_mem _ (I'.l5 j hj oj hoj x hx)
      unfold wpOp
      simp only [List.getElem?_toArray, ho]
      rw [hwant]
      unfold geW at hge
      unfold wantF
      have hxa : ∀ c w, HX.X c w → Q (.panic c) a w := fun c w hx => hX c f' a w I'.defers I'.fr (fun t ht => I'.l3 t fun j hj _ hdj => by
        obtain ⟨oj, hoj⟩ : ∃ oj, ops[j]? = some oj := ⟨_, List.getElem?_eq_getElem (I'.l2 j hj).1⟩
        rw [dstOf_some hoj] at hdj
        exact ht oj (List.mem_of_getElem? hoj) hdj) hx
      have act : ∀ {K' : Value → World → Prop}, (∀ v w', K' v w' → wpAny P .any ops.toArray Q m (listed.setIfInBounds i true) (a.put o.dst v) w') → anyW P f' o w K' →
          o.wp P a w (wpAny P .any ops.toArray Q m (listed.setIfInBounds i true)) Q := by
        intro K' hk ha
        unfold Oper.wp
        rw [hexec]
        exact (any_sound ha).upon hk hxa
      cases hg : o.guard with
      | none =>
        simp only [hg] at hge
        exact .inl (act cont hge)
      | some gw =>
        obtain ⟨g, want⟩ := gw
        simp only [hg] at hge
        obtain ⟨h1, h2⟩ := hge
        cases hcv : yv ops f' g want with
        | true => simp only [hcv, if_true]; exact .inl (act cont (h1 hcv))
        | false => simp only [hcv, Bool.false_eq_true, if_false]; exact cont _ _ (h2 hcv)

/-- A region that draws: the canonical run, in the world behind the draw, is enough. -/
theorem region_draw [HX] {id : Nat} (hR : ∀ f o v, o ∈ ops → R f → R (upd f o.dst v)) (hm : P.follows .mixedOrders = true) (hc : chkDraw P n ops e = true) {Q : Exit → Act → World → Prop} {K : Fr → World → Prop} {f : Fr} {a : Act} {w : World} {k : Nat}
    (hQ : ∀ f a w, Ag n D f a → R f → K f w → Q .normal a w) (hX : ∀ c f a w, a.defers = D → R f → (∀ t, (∀ o ∈ ops, o.dst ≠ some t) → a.tmps.getD t undef = f t) → HX.X c w → Q (.panic c) a w) (ha : Ag n D f a) (hf : R f) (h : drawW P ops e k [] [] f w.drew K) : (Code.region id ops.toArray true).wp P Q a w := by
  refine wp_region_any hm ?_
  have hfalse : ∀ i : Nat, (Array.replicate ops.length false).getD i false = false := fun i => by
    simp only [Array.getD_eq_getD_getElem?, Array.getElem?_replicate]
    split <;> rfl
  refine draw_sound hR hc hQ hX _ _ a [] [] f _ k ⟨hf, ha.1, ha.2.1, by simp, ?_, ?_, ?_, ?_, ?_, ?_⟩ h ?_
  · intro i hi; rw [show ops.toArray.size = ops.length from by simp, hfalse] at hi; cases hi
  · intro i hi; cases hi
  · intro t _; exact ha.2.2 t
  · intro i hi; cases hi
  · intro i hi; cases hi
  · intro i hi; rw [show ops.toArray.size = ops.length from by simp, hfalse] at hi; cases hi
  · intro l hnd hl
    have : l.length ≤ ops.length := by
      exact nodup_le _ l hnd fun i hi => (hl i hi).1
    simpa using this
end
end Go.Eng
