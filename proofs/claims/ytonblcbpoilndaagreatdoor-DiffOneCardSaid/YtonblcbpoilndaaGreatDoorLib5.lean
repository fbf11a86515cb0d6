/- One plain sentence: chains of && and || whose parts only look, and the sets of laws that a walk rewrites by. Conditions: those that each law states. -/
import Derived.Test.YtonblcbpoilndaaGreatDoorLib4
set_option linter.all false
set_option linter.unusedSimpArgs false
set_option linter.unusedVariables false
set_option linter.unusedSectionVars false
namespace Go.Eng
open Go

/-- append(v, x...): the row stays in its block, or moves into a new one -/
theorem append_own3 {P : Program} {t e T : TypeId} {size bytes : Nat} (hT : ElemT P t e size bytes) {w : World} {base : Nat} {v x : Value} {n m : Nat} {xs news : List Value} {ty : TypeId} {K : Value → World → Prop}
    (hown : Own w base e size v n xs) (hx : SlAt w T x m news) (hl : news.length = m * size) (h1 : ∀ u ∈ news, one1 u = true) (hlen : n + m ≤ 4611686018427387904) (hb : (n + m) * bytes ≤ 140737488355328) (hbase : base ≤ w.heap.size)
    (hK : ∀ v' w', Own w' base e size v' (n + m) (xs ++ news) → Chg (fun k => v.ownBlock = some k) w w' → (∀ k, v'.ownBlock = some k → v.ownBlock = some k ∨ w.heap.size ≤ k) → K v' w') :
    semE P (Builtin.append_ #[t, t] ty #[v, x]) w K := by
  obtain ⟨i, z, hi, hz, h2, h3, h4⟩ := hT.get
  have hsame : ∀ {K' : Value → World → Prop}, semE P (Builtin.append_ #[t, t] ty #[v, x]) w K' → ∃ v' w', (Builtin.append_ #[t, t] ty #[v, x]).run P w = .ok v' w' ∧ K' v' w' := by
    intro K' h
    unfold semE at h
    split at h
    · rename_i v' w' hr; exact ⟨v', w', hr, h⟩
    · exact h.elim
  obtain ⟨v1, w1, hr1, hO1, hc1, hn1⟩ := hsame (append_own2 hT hown hx hl h1 hlen hb hbase fun v' w' a b c => (⟨a, b, c⟩ : Own w' base e size v' (n + m) (xs ++ news) ∧ Chg (fun k => v.ownBlock = some k) w w' ∧ (v' = .slice none 0 0 ↔ v = .slice none 0 0 ∧ m = 0)))
  unfold semE
  rw [hr1]
  refine hK v1 w1 hO1 hc1 ?_
  obtain ⟨hl', ⟨rfl, rfl⟩ | ⟨g, cap, cur, rfl, hbg, hg, hnc, hcm, hcs, htake⟩⟩ := hown
  · have hnil : xs = [] := List.eq_nil_of_length_eq_zero (by simpa using hl')
    subst hnil
    obtain ⟨v2, w2, hr2, hO2⟩ := hsame (append_own2 hT (base := w.heap.size) (show Own w w.heap.size e size (.slice none 0 0) 0 [] from ⟨by simp, .inl ⟨rfl, rfl⟩⟩) hx hl h1 hlen hb (Nat.le_refl _) fun v' w' a _ _ => a)
    rw [hr1] at hr2
    cases hr2
    intro k hk
    exact .inr (hO2.block k hk).1
  · obtain ⟨p, c, rfl, _, hpn, hcells⟩ := hx
    cases p with
    | none =>
      obtain ⟨rfl, rfl⟩ := hpn rfl
      intro k hk
      have hn : news = [] := List.eq_nil_of_length_eq_zero (by simpa using hl)
      subst hn
      have hr : (Builtin.append_ #[t, t] ty #[.slice (some ⟨g, 0, none⟩) n cap, .slice none 0 0]).run P w = .ok (.slice (some ⟨g, 0, none⟩) n cap) w := by
        simp [Builtin.append_, run_bind, run_underlying' hT.und, run_sizeOf' (show (P.info? e).isSome = true by rw [hi]; rfl), Builtin.lenOf, run_pure, Builtin.firstCells, hnc, storeCells]
      rw [hr1] at hr
      cases hr
      exact .inl hk
    | some a =>
      have hcell : ∀ j u, news[j]? = some u → w.cell? (a.add j) = some u := by
        intro j u hu
        have hne : news ≠ [] := fun e => by subst e; simp at hu
        obtain ⟨b, off, c', fr, hp, hb', hcs'⟩ := hcells hne
        cases hp
        rw [add_mk, cell_eq, hb', cellO_some, hcs' j (List.getElem?_eq_some_iff.1 hu).1, hu]
      subst h2
      by_cases hroom : n + m ≤ cap
      · have hfit : n * i.size + news.length ≤ cur.size := by rw [hl, hcs, ← Nat.add_mul]; exact Nat.mul_le_mul_right _ hroom
        have hr := run_append_room (P := P) w t ty e i hT.und hi g n cap cur hg a m c news hl hcell (fun u hu => one1_oneCell' (h1 u hu)) hroom hfit
        rw [hr1] at hr
        cases hr
        intro k hk
        exact .inl (by simpa [Value.ownBlock] using hk)
      · have holds : ∀ j u, xs[j]? = some u → w.cell? ((⟨g, 0, none⟩ : Addr).add j) = some u := World.ownsRow.cells (base := base) (e := e) (size := i.size) (v := .slice (some ⟨g, 0, none⟩) n cap) (n := n) ⟨hl', .inr ⟨g, cap, cur, rfl, hbg, hg, hnc, hcm, hcs, htake⟩⟩ rfl
        have hr := run_append_grow (P := P) w t ty e i z hT.und hi hz ⟨g, 0, none⟩ n cap xs hl' holds a m c news hl hcell (by omega) (by omega) (growslice_fits (by omega) (by rw [h3]; exact hb))
        rw [hr1] at hr
        cases hr
        intro k hk
        right
        simp [Value.ownBlock] at hk
        omega
theorem GdW_pure (c : Bool) (u v : Value) (w : World) (B : List Value → Fr → World → Prop) : GdW c [u] w (fun J => J [v] w) B ↔ ∀ g, B [bif c then v else u] g w := by
  constructor
  · rintro ⟨J, h1, h2, h3⟩ g
    cases c with
    | true => exact h3 _ g _ (h1 rfl)
    | false => exact h3 _ g _ (h2 rfl)
  · intro h
    refine ⟨fun s w' => s = [bif c then v else u] ∧ w' = w, fun hc => ⟨by rw [hc]; rfl, rfl⟩, fun hc => ⟨by rw [hc]; rfl, rfl⟩, ?_⟩
    rintro s g w' ⟨rfl, rfl⟩
    exact h g
/-- the part is looked at only where it matters -/
theorem GdW_nest_and (g e f : Bool) (w : World) (B : List Value → Fr → World → Prop) :
    GdW g [undef] w (fun J => pickW (bif g then .bool e else undef) (bif (g && e) then .bool f else undef) (.bool false) fun t => J [t] w) B ↔ ∀ h, B [bif g then .bool (e && f) else undef] h w := by
  cases g with
  | true =>
    rw [← GdW_pure]
    cases e <;> exact Iff.rfl
  | false =>
    constructor
    · rintro ⟨J, _, h2, h3⟩ h; exact h3 _ h _ (h2 rfl)
    · intro h; exact GdW.f h
theorem GdW_nest_or (g e f : Bool) (w : World) (B : List Value → Fr → World → Prop) :
    GdW g [undef] w (fun J => pickW (bif g then .bool e else undef) (.bool true) (bif (g && !e) then .bool f else undef) fun t => J [t] w) B ↔ ∀ h, B [bif g then .bool (e || f) else undef] h w := by
  cases g with
  | true =>
    rw [← GdW_pure]
    cases e <;> exact Iff.rfl
  | false =>
    constructor
    · rintro ⟨J, _, h2, h3⟩ h; exact h3 _ h _ (h2 rfl)
    · intro h; exact GdW.f h
theorem pick_gd_and (c e : Bool) (K : Value → Prop) : pickW (.bool c) (bif c then .bool e else undef) (.bool false) K ↔ K (.bool (c && e)) := by cases c <;> exact Iff.rfl
theorem pick_gd_or (c e : Bool) (K : Value → Prop) : pickW (.bool c) (.bool true) (bif !c then .bool e else undef) K ↔ K (.bool (c || e)) := by cases c <;> exact Iff.rfl
theorem isB_gd_t (c e : Bool) : isB (bif c then .bool e else undef) true = (c && e) := by cases c <;> cases e <;> rfl
theorem isB_gd_f (c e : Bool) : isB (bif c then .bool e else undef) false = (c && !e) := by cases c <;> cases e <;> rfl
/-- a part that is looked at only where the condition holds, and needs it -/
theorem GdW.look {c : Bool} {w : World} {A : (List Value → World → Prop) → Prop} {B : List Value → Fr → World → Prop} (e : Bool) (h1 : c = true → ∀ J : List Value → World → Prop, J [.bool e] w → A J) (h2 : ∀ g, B [bif c then .bool e else undef] g w) : GdW c [undef] w A B := by
  refine ⟨fun s w' => s = [bif c then .bool e else undef] ∧ w' = w, fun hc => h1 hc _ ⟨by rw [hc]; rfl, rfl⟩, fun hc => ⟨by rw [hc]; rfl, rfl⟩, ?_⟩
  rintro s g w' ⟨rfl, rfl⟩
  exact h2 g
/-- the same with a call, that may turn the world -/
theorem GdW.act {c : Bool} {w : World} {A : (List Value → World → Prop) → Prop} {B : List Value → Fr → World → Prop} (e : Bool) (R : World → Prop) (h0 : c = false → R w) (h1 : c = true → ∀ J : List Value → World → Prop, (∀ w', R w' → J [.bool e] w') → A J) (h2 : ∀ g w', R w' → B [bif c then .bool e else undef] g w') : GdW c [undef] w A B := by
  refine ⟨fun s w' => s = [bif c then .bool e else undef] ∧ R w', fun hc => h1 hc _ fun w' hR => ⟨by rw [hc]; rfl, hR⟩, fun hc => ⟨by rw [hc]; rfl, h0 hc⟩, ?_⟩
  rintro s g w' ⟨rfl, hR⟩
  exact h2 g w' hR
theorem GqW_f (A : (Value → Prop) → Prop) (B : Value → Prop) : GqW false A B ↔ B undef := by
  constructor
  · rintro ⟨v, _, h, hb⟩; rw [← h rfl]; exact hb
  · intro h; exact ⟨undef, (fun e => by cases e), fun _ => rfl, h⟩
theorem GqW_t (A : (Value → Prop) → Prop) (B : Value → Prop) : GqW true A B ↔ ∃ v, A (fun x => x = v) ∧ B v := by
  constructor
  · rintro ⟨v, h, _, hb⟩; exact ⟨v, h rfl, hb⟩
  · rintro ⟨v, h, hb⟩; exact ⟨v, fun _ => h, (fun e => by cases e), hb⟩
theorem GdW_f (u : List Value) (w : World) (A : (List Value → World → Prop) → Prop) (B : List Value → Fr → World → Prop) : GdW false u w A B ↔ ∀ g, B u g w := by
  constructor
  · rintro ⟨J, _, h2, h3⟩ g; exact h3 _ g _ (h2 rfl)
  · intro h; exact GdW.f h
theorem isB_u (c : Bool) : isB undef c = false := rfl
theorem eq_bb (a b : Bool) (K : Value → Prop) : eqW .bool false (.bool a) (.bool b) K ↔ K (.bool (a == b)) := by simp [eqW]
theorem ne_bb (a b : Bool) (K : Value → Prop) : eqW .bool true (.bool a) (.bool b) K ↔ K (.bool (!(a == b))) := by simp [eqW]
theorem condW_b (b : Bool) (A B : Prop) : condW (.bool b) A B ↔ (b = true → A) ∧ (b = false → B) := Iff.rfl

/-- rewriting of plain values -/
def wsv0 := And.intro @put_nil <| And.intro @put_map <| And.intro @put_int <| And.intro @put_str <| And.intro @put_bool <| And.intro @put_ptr <| And.intro @put_slice <| And.intro @bin_add <| And.intro @bin_sub <| And.intro @bin_mul <|
  And.intro @bin_quo <| And.intro @bin_rem <| And.intro @bin_eql <| And.intro @bin_neq <| And.intro @bin_lss <| And.intro @bin_leq <| And.intro @bin_gtr <| And.intro @bin_geq <| And.intro @bin_sadd <| And.intro @bin_seq <| And.intro @bin_sne <|
  And.intro @bin_slt <| And.intro @bin_sgt <| And.intro @bin_sge <| And.intro @bin_sle <| And.intro @nil_ptr <| And.intro @fld_ptr <| And.intro @ld_one <| And.intro @one_int <| And.intro @one_bool <| And.intro @one_str <| And.intro @one_slice <|
  And.intro @one_ptr <| And.intro @one_map <| And.intro @ext_tuple <| And.intro @ixa_slice <| And.intro @ixa_arr <| And.intro @ixs_str <| And.intro @lens_str <| And.intro @lenl_sl <| And.intro @un_not <| And.intro @un_neg <| And.intro @cvt_int <|
  And.intro @min_int <| And.intro @max_int <| And.intro @bd_none <| And.intro @bd_some <| And.intro @sls_str <| And.intro @pick_t <| And.intro @pick_f <| And.intro @condW_true @condW_false
def wsg0 := And.intro @isB_u <| And.intro @GqW_f <| And.intro @GqW_t <| And.intro @GdW_f <| And.intro @GdW_pure <| And.intro @GdW_nest_and <| And.intro @GdW_nest_or <| And.intro @pick_gd_and <| And.intro @pick_gd_or <| And.intro @isB_gd_t <| And.intro @isB_gd_f <| And.intro @isB_t @isB_f
def wsh0 := And.intro @add_mk <| And.intro @cell_eq <| And.intro @cellO_some <| And.intro @frozen_eq <| And.intro @frO_zero <| And.intro @heap_drew @size_drew
def wsl0 := And.intro @true_and <| And.intro @and_true <| And.intro @Bool.and_true <| And.intro @Bool.and_false <| And.intro @Bool.true_and <| And.intro @Bool.false_and <| And.intro @Bool.or_true <|
  And.intro @Bool.or_false <| And.intro @Bool.true_or <| And.intro @Bool.false_or <| And.intro @Bool.not_true @Bool.not_false
theorem wsv : type_of% wsv0 := wsv0
theorem wsg : type_of% wsg0 := wsg0
theorem wsh : type_of% wsh0 := wsh0
theorem wsl : type_of% wsl0 := wsl0
end Go.Eng
