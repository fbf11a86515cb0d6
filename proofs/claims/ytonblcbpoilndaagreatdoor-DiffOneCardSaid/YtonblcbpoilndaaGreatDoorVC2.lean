/- One plain sentence: contracts of the program's values: a copy, and the item of a key. Conditions: those that each states. -/
import Derived.Test.YtonblcbpoilndaaGreatDoorVC1
import Derived.Test.YtonblcbpoilndaaGreatDoorJVG
set_option linter.all false
set_option linter.unusedSimpArgs false
set_option linter.unusedVariables false
set_option linter.unusedSectionVars false
namespace Go.Proofs.YtonblcbpoilndaaGreatDoor
open Go Go.Eng Go.Num
set_option maxRecDepth 100000
section
variable [HX]
theorem clone_p (v : JV) : ∀ {cs : List Value} {w : World} {K : Value → World → Prop}, fewM v = true → VRep w v cs → (∀ cs' w', Ext w w' → VRepP (From w.heap.size) w' v cs' → K (.agg cs'.toArray) w') → callF Tryz.prog 86 [.agg cs.toArray] w K := by
  induction v using JV.ind' with
  | h v ih =>
    intro cs w K hfew h hK
    rw [fewM_eq, fewL_all] at hfew
    simp only [Bool.and_eq_true, decide_eq_true_eq, List.all_eq_true] at hfew
    obtain ⟨⟨f1, f2⟩, f3⟩ := hfew
    refine W86_ok ?_
    unfold W86
    refine box_val h fun a w1 sv kv hB hx ha => ?_
    refine alloc_new fun b w2 hb hz2 hbb hx2 => ?_
    have hxd : Ext w2 w2.drew := Chg.drew (Chg.refl (fun _ => False) w2)
    have hB2 := hB.ext hx2
    have hBd := hB2.ext hxd
    have hbd := hxd.at hbb id
    have sd : w2.drew.heap.size = w2.heap.size := rfl
    simp only [wsv, wsg, wsh, wsl, cond_true, cond_false, exists_eq_left', Option.some.injEq, Option.isSome_some, List.getElem?_toArray, List.getElem?_cons_zero, List.getElem?_cons_succ, List.length_cons, List.length_nil, List.set_cons_zero, List.set_cons_succ, List.getD_cons_zero, List.getD_cons_succ, Nat.zero_add, Nat.add_zero, Nat.reduceAdd, Nat.reduceLT, Nat.lt_add_one, Nat.zero_lt_succ, decide_true, decide_false, ne_eq, reduceCtorEq, wsh, hB2.hb]
    obtain ⟨T1, k1⟩ := hBd.keys
    refine clone_s k1 (by omega) fun kv' w3 hx3 hk3 hg3 => ?_
    have hB3 := hBd.ext hx3
    have hb3 := hx3.at hbd id
    have s3 := hx3.size
    simp only [wsv, wsg, wsh, wsl, cond_true, cond_false, exists_eq_left', Option.some.injEq, Option.isSome_some, List.getElem?_toArray, List.getElem?_cons_zero, List.getElem?_cons_succ, List.length_cons, List.length_nil, List.set_cons_zero, List.set_cons_succ, List.getD_cons_zero, List.getD_cons_succ, Nat.zero_add, Nat.add_zero, Nat.reduceAdd, Nat.reduceLT, Nat.lt_add_one, Nat.zero_lt_succ, decide_true, decide_false, ne_eq, reduceCtorEq, wsh, hB3.hb]
    refine clones_p (fun x hx => ih x hx (f3 x hx)) hB3.itemsAt (by omega) fun sv' w4 hx4 hL hg4 => ?_
    obtain ⟨L, hL1, hL2⟩ := hL
    have hB4 := hB3.ext hx4
    have hb4 := hx4.at hb3 id
    have s1 := hx.size
    have hak := at_lt hB.hb
    have one1 : one1 sv' = true ∧ one1 kv' = true := by
      obtain ⟨p, c, rfl, _⟩ := hL1.shape
      obtain ⟨p', c', rfl, _⟩ := hk3.shape
      exact ⟨rfl, rfl⟩
    refine st_at hB4.hb one1.2 (by simp) fun w5 hz5 ha5 hc5 => ?_
    have ha5 : w5.heap[a]? = some (.cells [i64 v.k, .bool v.b, str v.t, sv, kv'].toArray VT (0, 0)) := by rw [ha5]; simp
    refine st_at ha5 one1.1 (by simp) fun w6 hz6 ha6 hc6 => ?_
    have ha6 : w6.heap[a]? = some (.cells [i64 v.k, .bool v.b, str v.t, sv', kv'].toArray VT (0, 0)) := by rw [ha6]; simp
    refine ld_all ha6 rfl ?_
    have hb6 := hc6.at (hc5.at hb4 (by omega)) (by omega)
    refine ret_agg hb6 rfl rfl (obj_one one1.1 one1.2) fun w7 hc7 => ?_
    have hx1 : Ext w w4 := hx.trans (hx2.trans (hxd.trans (hx3.trans hx4)))
    have hx5 : Ext w w7 := ((hx1.new hc5 (by omega)).new hc6 (by omega)).new hc7 (by omega)
    have hch : Chg (fun k => k = a ∨ k = b) w4 w7 := ((hc5.mono fun k _ e => .inl e).trans (hc6.mono fun k _ e => .inl e)).trans (hc7.mono fun k _ e => .inr e)
    refine hK _ w7 hx5 (VRepP.mk (T1 := VT) (T2 := ST) (L := L) ?_ ?_ ?_ hB.fits (fun _ k hk => ?_) (fun _ k hk => ?_))
    · exact slat_chgG hL1 (fun _ => hg4) hch fun k hk _ e => by have : w3.heap.size ≤ k := hk; omega
    · refine VRepsP.mono (fun k _ hk => ?_) (VRepsP.chg (G := From w3.heap.size) hch (fun k hk _ e => by have : w3.heap.size ≤ k := hk; omega) hL2)
      have : w3.heap.size ≤ k := hk
      show w.heap.size ≤ k
      omega
    · exact slat_chgG (hk3.ext hx4) (fun _ => hg3) hch fun k hk _ e => by have : w2.drew.heap.size ≤ k := hk; omega
    · have : w3.heap.size ≤ k := hg4 k hk
      show w.heap.size ≤ k
      omega
    · have : w2.drew.heap.size ≤ k := hg3 k hk
      show w.heap.size ≤ k
      omega

theorem search_p {kv : Value} {T : TypeId} {ks : List Str} {k : Str} {w : World} {K : Value → World → Prop} (h : SlAt w T kv ks.length (ks.map str)) (hl : ks.length ≤ 100000) (hr : Rise ks)
    (hK : ∀ i : Nat, (idxK ks k = none ∨ idxK ks k = some i) → (∀ j a, j < i → ks[j]? = some a → Op.bytesLess a k = true) → (∀ j a, i ≤ j → ks[j]? = some a → Op.bytesLess a k = false) → i ≤ ks.length → K (.tuple #[i64 (i : Nat), .bool (idxK ks k).isSome]) w) :
    callF Tryz.prog 85 [kv, str k] w K := by
  refine W85_ok ?_
  unfold W85
  rw [lenl_at h]
  refine ⟨fun s w' => ∃ lo hi : Nat, lo ≤ hi ∧ hi ≤ ks.length ∧ s = [i64 (lo : Nat), i64 (hi : Nat)] ∧ w' = w ∧ (∀ j a, j < lo → ks[j]? = some a → Op.bytesLess a k = true) ∧ (∀ j a, hi ≤ j → ks[j]? = some a → Op.bytesLess a k = false),
    fun s _ => match s with | [.int _ lo, .int _ hi] => hi.toNat - lo.toNat | _ => 0, ⟨0, ks.length, by omega, by omega, rfl, rfl, fun j a h => by omega, fun j a hj ha => by have := (List.getElem?_eq_some_iff.1 ha).1; omega⟩, ?_⟩
  rintro s g w2 ⟨lo, hi, hle, hhi, rfl, rfl, h1, h2⟩
  rcases Nat.lt_or_ge lo hi with hlt | hge
  · have hltI : (lo : Int) < (hi : Int) := by omega
    have e1 : IntKind.i64.wrap ((lo : Int) + (hi : Int)) = ((lo + hi : Nat) : Int) := by rw [wrap_id (by omega) (by omega)]; omega
    have e2 : IntKind.u64.wrap ((lo + hi : Nat) : Int) = ((lo + hi : Nat) : Int) := u64_wrap (by omega) (by omega)
    have e3 : (((lo + hi : Nat) : Int).fdiv (2 ^ min (1 : Int).toNat IntKind.u64.bits)) = (((lo + hi) / 2 : Nat) : Int) := by
      have : (2 : Int) ^ min (1 : Int).toNat IntKind.u64.bits = 2 := by decide
      rw [this, Int.fdiv_eq_ediv_of_nonneg _ (by omega)]; omega
    have e4 : IntKind.i64.wrap (((lo + hi) / 2 : Nat) : Int) = (((lo + hi) / 2 : Nat) : Int) := wrap_id (by omega) (by omega)
    generalize hm : (lo + hi) / 2 = m at *
    obtain ⟨u, hu⟩ : ∃ u, ks[m]? = some u := ⟨_, List.getElem?_eq_getElem (by omega)⟩
    have h01 : (0 : Int) ≤ 1 := by decide
    simp only [wsv, wsg, wsh, wsl, cond_true, cond_false, exists_eq_left', Option.some.injEq, Option.isSome_some, List.getElem?_toArray, List.getElem?_cons_zero, List.getElem?_cons_succ, List.length_cons, List.length_nil, List.set_cons_zero, List.set_cons_succ, List.getD_cons_zero, List.getD_cons_succ, Nat.zero_add, Nat.add_zero, Nat.reduceAdd, Nat.reduceLT, Nat.lt_add_one, Nat.zero_lt_succ, decide_true, decide_false, ne_eq, reduceCtorEq, hltI, e1, e2, bin_shr, h01, e3, e4]
    refine text_ld h hu ?_
    refine cmp_less ?_
    rw [condW_b]
    refine ⟨fun hl => ?_, fun hn => ?_⟩
    · rw [up1 (by omega)]
      refine ⟨⟨m + 1, hi, by omega, hhi, rfl, rfl, fun j a hj ha => ?_, h2⟩, by simp only [Int.toNat_natCast]; omega⟩
      rcases Nat.lt_or_ge j m with hj2 | hj2
      · exact less_trans (rise_lt hr ha hu hj2) hl
      · obtain rfl : j = m := by omega
        rw [hu] at ha; cases ha; exact hl
    · refine ⟨⟨lo, m, by omega, by omega, rfl, rfl, h1, fun j a hj ha => ?_⟩, by simp only [Int.toNat_natCast]; omega⟩
      rcases Nat.lt_or_ge m j with hj2 | hj2
      · cases hb : Op.bytesLess a k with
        | false => rfl
        | true => have := less_trans (rise_lt hr hu ha hj2) hb; rw [hn] at this; cases this
      · obtain rfl : j = m := by omega
        rw [hu] at ha; cases ha; exact hn
  · obtain rfl : lo = hi := by omega
    have hi0 : idxK ks k = none ∨ idxK ks k = some lo := by
      cases hx : idxK ks k with
      | none => exact .inl rfl
      | some j =>
        right
        have hj := idxK_spec hx
        rcases Nat.lt_trichotomy j lo with h | h | h
        · have := h1 j k h hj; rw [less_irr] at this; cases this
        · rw [h]
        · obtain ⟨u, hu⟩ : ∃ u, ks[lo]? = some u := ⟨_, List.getElem?_eq_getElem (by have := (List.getElem?_eq_some_iff.1 hj).1; omega)⟩
          have a1 := h2 lo u (Nat.le_refl _) hu
          have a2 := rise_lt hr hu hj h
          rw [a1] at a2; cases a2
    have hK := hK lo hi0 h1 h2 hhi
    simp only [wsv, wsg, wsh, wsl, cond_true, cond_false, exists_eq_left', Option.some.injEq, Option.isSome_some, List.getElem?_toArray, List.getElem?_cons_zero, List.getElem?_cons_succ, List.length_cons, List.length_nil, List.set_cons_zero, List.set_cons_succ, List.getD_cons_zero, List.getD_cons_succ, Nat.zero_add, Nat.add_zero, Nat.reduceAdd, Nat.reduceLT, Nat.lt_add_one, Nat.zero_lt_succ, decide_true, decide_false, ne_eq, reduceCtorEq, Int.lt_irrefl]
    rcases Nat.lt_or_ge lo ks.length with hlt | hge2
    · obtain ⟨u, hu⟩ : ∃ u, ks[lo]? = some u := ⟨_, List.getElem?_eq_getElem hlt⟩
      have ed : decide ((lo : Int) < (ks.length : Int)) = true := decide_eq_true (by omega)
      have hsome : (idxK ks k).isSome = decide (u = k) := by
        by_cases e : u = k
        · subst e
          have hm : u ∈ ks := List.mem_of_getElem? hu
          rw [decide_eq_true rfl]
          cases hx : idxK ks u with
          | none => exact absurd hm (idxK_none.1 hx)
          | some _ => rfl
        · rw [decide_eq_false e]
          rcases hi0 with h | h
          · rw [h]; rfl
          · have := idxK_spec h; rw [hu] at this; exact absurd (Option.some.inj this) e
      rw [hsome] at hK
      simp only [wsv, wsg, wsh, wsl, cond_true, cond_false, exists_eq_left', Option.some.injEq, Option.isSome_some, List.getElem?_toArray, List.getElem?_cons_zero, List.getElem?_cons_succ, List.length_cons, List.length_nil, List.set_cons_zero, List.set_cons_succ, List.getD_cons_zero, List.getD_cons_succ, Nat.zero_add, Nat.add_zero, Nat.reduceAdd, Nat.reduceLT, Nat.lt_add_one, Nat.zero_lt_succ, decide_true, decide_false, ne_eq, reduceCtorEq, ed]
      refine GdW.t ?_
      refine text_ld h hu ?_
      intro gg
      simp only [ofL_data]
      simp only [wsv, wsg, wsh, wsl, cond_true, cond_false, exists_eq_left', Option.some.injEq, Option.isSome_some, List.getElem?_toArray, List.getElem?_cons_zero, List.getElem?_cons_succ, List.length_cons, List.length_nil, List.set_cons_zero, List.set_cons_succ, List.getD_cons_zero, List.getD_cons_succ, Nat.zero_add, Nat.add_zero, Nat.reduceAdd, Nat.reduceLT, Nat.lt_add_one, Nat.zero_lt_succ, decide_true, decide_false, ne_eq, reduceCtorEq]
      by_cases e : u = k
      · rw [decide_eq_true e] at hK ⊢
        (try simp only [wsv, wsg, wsh, wsl, cond_true, cond_false, exists_eq_left', Option.some.injEq, Option.isSome_some, List.getElem?_toArray, List.getElem?_cons_zero, List.getElem?_cons_succ, List.length_cons, List.length_nil, List.set_cons_zero, List.set_cons_succ, List.getD_cons_zero, List.getD_cons_succ, Nat.zero_add, Nat.add_zero, Nat.reduceAdd, Nat.reduceLT, Nat.lt_add_one, Nat.zero_lt_succ, decide_true, decide_false, ne_eq, reduceCtorEq])
        intros
        exact hK
      · rw [decide_eq_false e] at hK ⊢
        (try simp only [wsv, wsg, wsh, wsl, cond_true, cond_false, exists_eq_left', Option.some.injEq, Option.isSome_some, List.getElem?_toArray, List.getElem?_cons_zero, List.getElem?_cons_succ, List.length_cons, List.length_nil, List.set_cons_zero, List.set_cons_succ, List.getD_cons_zero, List.getD_cons_succ, Nat.zero_add, Nat.add_zero, Nat.reduceAdd, Nat.reduceLT, Nat.lt_add_one, Nat.zero_lt_succ, decide_true, decide_false, ne_eq, reduceCtorEq])
        refine GdW.t ?_
        refine text_ld h hu ?_
        refine isnan_s2 ?_
        intro gg
        (try simp only [wsv, wsg, wsh, wsl, cond_true, cond_false, exists_eq_left', Option.some.injEq, Option.isSome_some, List.getElem?_toArray, List.getElem?_cons_zero, List.getElem?_cons_succ, List.length_cons, List.length_nil, List.set_cons_zero, List.set_cons_succ, List.getD_cons_zero, List.getD_cons_succ, Nat.zero_add, Nat.add_zero, Nat.reduceAdd, Nat.reduceLT, Nat.lt_add_one, Nat.zero_lt_succ, decide_true, decide_false, ne_eq, reduceCtorEq])
        intros
        exact hK
    · have hsome : idxK ks k = none := by
        rcases hi0 with h | h
        · exact h
        · have := (List.getElem?_eq_some_iff.1 (idxK_spec h)).1; omega
      rw [hsome] at hK
      have ed : decide ((lo : Int) < (ks.length : Int)) = false := decide_eq_false (by omega)
      simp only [wsv, wsg, wsh, wsl, cond_true, cond_false, exists_eq_left', Option.some.injEq, Option.isSome_some, List.getElem?_toArray, List.getElem?_cons_zero, List.getElem?_cons_succ, List.length_cons, List.length_nil, List.set_cons_zero, List.set_cons_succ, List.getD_cons_zero, List.getD_cons_succ, Nat.zero_add, Nat.add_zero, Nat.reduceAdd, Nat.reduceLT, Nat.lt_add_one, Nat.zero_lt_succ, decide_true, decide_false, ne_eq, reduceCtorEq, ed]
      intros
      exact hK
end
end Go.Proofs.YtonblcbpoilndaaGreatDoor
