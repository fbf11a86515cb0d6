/- One plain sentence: contracts of the document's answer for values: a value with a key. Conditions: those that each states. -/
import Derived.Test.YtonblcbpoilndaaGreatDoorVS4
set_option linter.all false
set_option linter.unusedSimpArgs false
set_option linter.unusedVariables false
set_option linter.unusedSectionVars false
namespace Go.Proofs.YtonblcbpoilndaaGreatDoor
open Go Go.Eng Go.Num
set_option maxRecDepth 100000
section
variable [HX]
theorem put_ref0 {v x : JV} {cs ds : List Value} {k : Str} {w0 w : World} {K : Value → World → Prop} (h : VRep w0 v cs) (hd : VRep w0 x ds) (h0 : Ext w0 w) (hl : v.k = 6 → v.ks.length = v.xs.length) (hfew : v.ks.length ≤ 100000) (hk : k.length ≤ 9223372036854775807)
    (hK : ∀ sv kv base w', Ext w w' → w.heap.size ≤ base → OwnV w0 w' base (putM v k x) sv kv → K (.agg [i64 6, .bool false, str [], sv, kv].toArray) w') : callF Tryz.prog 20 [.agg cs.toArray, str k, .agg ds.toArray] w K := by
  refine W20_ok ?_
  unfold W20
  refine box_vali h fun a w1 sv kv hba I hx ha hz1 => ?_
  refine box_vali hd fun c w2 sv' kv' hbc Ix hx2 hc hz2 => ?_
  refine alloc_new fun b w3 hb hz3 hbb hx3 => ?_
  simp only [wsv, wsg, wsh, wsl, cond_true, cond_false, exists_eq_left', Option.some.injEq, Option.isSome_some, List.getElem?_toArray, List.getElem?_cons_zero, List.getElem?_cons_succ, List.length_cons, List.length_nil, List.set_cons_zero, List.set_cons_succ, List.getD_cons_zero, List.getD_cons_succ, Nat.zero_add, Nat.add_zero, Nat.reduceAdd, Nat.reduceLT, Nat.lt_add_one, Nat.zero_lt_succ, decide_true, decide_false, ne_eq, reduceCtorEq]
  refine alloc_new fun g w4 hg hz4 hgg hx4 => ?_
  refine st_agg_at (l := [i64 6, .bool false, str [], .slice none 0 0, .slice none 0 0]) hgg rfl rfl rfl fun w5 hz5 hg5 hc5 => ?_
  have hw5 : Ext w w5 := (((hx.trans hx2).trans hx3).trans hx4).new hc5 (by omega)
  have hba5 := hc5.at (hx4.at (hx3.at (hx2.at hba id) id) id) (by omega)
  have hbc5 := hc5.at (hx4.at (hx3.at hbc id) id) (by omega)
  have hbb5 := hc5.at (hx4.at hbb id) (by omega)
  clear hgg hbb hbc hc5
  have h00 := h0.size
  have hxs := hx.size
  have G0 : Grow w0 w5 g (g + 1) (.slice none 0 0) (.slice none 0 0) (.slice none 0 0) (.slice none 0 0) [] [] := ⟨h0.trans hw5, hg5, by omega, by omega, by omega, ⟨[], ⟨rfl, .inl ⟨rfl, rfl⟩⟩, by simp [VReps]⟩, ⟨rfl, .inl ⟨rfl, rfl⟩⟩⟩
  have hB := I.box (h0.trans hw5) hba5
  -- the one key more
  let P : List (Str × JV) := if v.k = 6 then dropP (v.ks.zip v.xs) k else []
  have hP : putM v k x = mkO (insP P k x) := by
    show putM v k x = mkO (insP (if v.k = 6 then dropP (v.ks.zip v.xs) k else []) k x)
    unfold putM; split <;> rfl
  have hPl : P.length ≤ 100000 := by
    show (if v.k = 6 then dropP (v.ks.zip v.xs) k else []).length ≤ 100000
    split
    · have h1 : (dropP (v.ks.zip v.xs) k).length ≤ (v.ks.zip v.xs).length := List.length_filter_le _ _
      rw [List.length_zip] at h1; omega
    · simp
  have hPk : ∀ p ∈ P, p.1.length ≤ 9223372036854775807 := by
    intro p hp
    have hp : p ∈ (if v.k = 6 then dropP (v.ks.zip v.xs) k else []) := hp
    split at hp
    · exact I.fits.2.2.2 _ (List.of_mem_zip (List.mem_filter.1 hp).1).1
    · simp at hp
  rw [hP] at hK
  refine JoinW.cut (fun s w' => ∃ sv kv base, s = [.bool (putGo P k x P.length).2] ∧ b < base ∧ c < base ∧ Grow w0 w' g base sv kv sv kv ((putGo P k x P.length).1.map (·.2)) ((putGo P k x P.length).1.map (·.1)) ∧ w'.heap[c]? = some (.cells [i64 x.k, .bool x.b, str x.t, sv', kv'].toArray VT (0, 0)) ∧ w'.heap[b]? = some (.cells zv.toArray VT (0, 0)) ∧ Ext w w') ?_ ?_
  · simp only [wsv, wsg, wsh, wsl, cond_true, cond_false, exists_eq_left', Option.some.injEq, Option.isSome_some, List.getElem?_toArray, List.getElem?_cons_zero, List.getElem?_cons_succ, List.length_cons, List.length_nil, List.set_cons_zero, List.set_cons_succ, List.getD_cons_zero, List.getD_cons_succ, Nat.zero_add, Nat.add_zero, Nat.reduceAdd, Nat.reduceLT, Nat.lt_add_one, Nat.zero_lt_succ, decide_true, decide_false, ne_eq, reduceCtorEq, wsh, hB.hb, condW_dec]
    refine ⟨fun he => ?_, fun hne => ?_⟩
    · have hPe : P = dropP (v.ks.zip v.xs) k := if_pos he
      refine ld_all hB.hb rfl ?_
      refine drop_ref (w0 := w0) (v := v) (cs := [i64 v.k, .bool v.b, str v.t, sv, kv]) ?_ (h0.trans hw5) he (hl he) hfew fun sw kw base0 w6 hx6 hbase0 hO => ?_
      · obtain ⟨T, L, i1, i2⟩ := I.items
        obtain ⟨T', i3⟩ := I.keys
        exact VRep.mk i1 i2 i3 I.fits
      have hs6 := hx6.size
      rw [← hPe] at hO
      have hba6 := hx6.at hba5 id
      refine st_agg_at (l := [i64 6, .bool false, str [], sw, kw]) hba6 rfl rfl (obj_one hO.one.1 hO.one.2) fun w7 hz7 hba7 hc7 => ?_
      have hO := hO.chg hc7 fun j hj _ e => by omega
      have hbc7 := hc7.at (hx6.at hbc5 id) (by omega)
      have hbb7 := hc7.at (hx6.at hbb5 id) (by omega)
      have hw7 : Ext w w7 := (hw5.trans hx6).new hc7 (by omega)
      have G7 := ((G0.more hx6).chg hc7 (by omega) (by omega) (by omega)).rebase (base' := w7.heap.size) (by omega) (Nat.le_refl _)
      have hPx : (mkO P).xs = P.map (·.2) := rfl
      have hPks : (mkO P).ks = P.map (·.1) := rfl
      simp only [wsv, wsg, wsh, wsl, cond_true, cond_false, exists_eq_left', Option.some.injEq, Option.isSome_some, List.getElem?_toArray, List.getElem?_cons_zero, List.getElem?_cons_succ, List.length_cons, List.length_nil, List.set_cons_zero, List.set_cons_succ, List.getD_cons_zero, List.getD_cons_succ, Nat.zero_add, Nat.add_zero, Nat.reduceAdd, Nat.reduceLT, Nat.lt_add_one, Nat.zero_lt_succ, decide_true, decide_false, ne_eq, reduceCtorEq, wsh, hba7]
      rw [lenl_at hO.keys.sl, hPks, List.length_map]
      refine ⟨fun s w' => ∃ i sv kv, i ≤ P.length ∧ s = [.bool (putGo P k x i).2, i64 (i : Nat)] ∧ Grow w0 w' g w7.heap.size sv kv sv kv ((putGo P k x i).1.map (·.2)) ((putGo P k x i).1.map (·.1)) ∧ Low g w7.heap.size w7 w', fun s _ => match s with | [_, .int _ i] => P.length - i.toNat | _ => 0, ⟨0, _, _, Nat.zero_le _, rfl, G7, Chg.refl _ _⟩, ?_⟩
      rintro s gg w8 ⟨i, sv8, kv8, hi, rfl, G8, lo8⟩
      rcases Nat.lt_or_ge i P.length with hlt | hge
      · have hltI : ((i : Int) < (P.length : Int)) := by omega
        have hlen8 := putGo_len P k x i
        obtain ⟨p, hp⟩ : ∃ p, P[i]? = some p := ⟨_, List.getElem?_eq_getElem hlt⟩
        have hstay : ∀ {w9 : World}, Low g w7.heap.size w7 w9 → w9.heap[a]? = some (.cells [i64 6, .bool false, str [], sw, kw].toArray VT (0, 0)) ∧ w9.heap[c]? = some (.cells [i64 x.k, .bool x.b, str x.t, sv', kv'].toArray VT (0, 0)) ∧ OwnV w0 w9 base0 (mkO P) sw kw := fun lo =>
          ⟨low_get lo (by omega) (by omega) hba7, low_get lo (by omega) (by omega) hbc7, hO.chg lo fun k hk hk2 e => by omega⟩
        obtain ⟨hba8, hbc8, hO8⟩ := hstay lo8
        have hkey : ∀ {w9 : World} {KK : Value → Prop}, OwnV w0 w9 base0 (mkO P) sw kw → KK (str p.1) → ixaW none 1 kw (.int .i64 i) fun q => ldW false 1 q w9 KK := fun h hk => text_ld h.keys.sl (by rw [hPks]; simp [hp]) hk
        simp only [wsv, wsg, wsh, wsl, cond_true, cond_false, exists_eq_left', Option.some.injEq, Option.isSome_some, List.getElem?_toArray, List.getElem?_cons_zero, List.getElem?_cons_succ, List.length_cons, List.length_nil, List.set_cons_zero, List.set_cons_succ, List.getD_cons_zero, List.getD_cons_succ, Nat.zero_add, Nat.add_zero, Nat.reduceAdd, Nat.reduceLT, Nat.lt_add_one, Nat.zero_lt_succ, decide_true, decide_false, ne_eq, reduceCtorEq, wsh, hltI, hba8]
        refine JoinW.cut (fun s w' => ∃ sv kv, s = [.bool (putGo P k x (i + 1)).2] ∧ Grow w0 w' g w7.heap.size sv kv sv kv ((if (!(putGo P k x i).2 && Op.bytesLess k p.1) then (putGo P k x i).1 ++ [(k, x)] else (putGo P k x i).1).map (·.2)) ((if (!(putGo P k x i).2 && Op.bytesLess k p.1) then (putGo P k x i).1 ++ [(k, x)] else (putGo P k x i).1).map (·.1)) ∧ Low g w7.heap.size w7 w') ?_ ?_
        · refine GdW.look (Op.bytesLess k p.1) ?_ ?_
          · intro _ J hJ
            refine hkey hO8 ?_
            simp only [wsv, wsg, wsh, wsl, cond_true, cond_false, exists_eq_left', Option.some.injEq, Option.isSome_some, List.getElem?_toArray, List.getElem?_cons_zero, List.getElem?_cons_succ, List.length_cons, List.length_nil, List.set_cons_zero, List.set_cons_succ, List.getD_cons_zero, List.getD_cons_succ, Nat.zero_add, Nat.add_zero, Nat.reduceAdd, Nat.reduceLT, Nat.lt_add_one, Nat.zero_lt_succ, decide_true, decide_false, ne_eq, reduceCtorEq]
            exact hJ
          · intro gd
            simp only [wsv, wsg, wsh, wsl, cond_true, cond_false, exists_eq_left', Option.some.injEq, Option.isSome_some, List.getElem?_toArray, List.getElem?_cons_zero, List.getElem?_cons_succ, List.length_cons, List.length_nil, List.set_cons_zero, List.set_cons_succ, List.getD_cons_zero, List.getD_cons_succ, Nat.zero_add, Nat.add_zero, Nat.reduceAdd, Nat.reduceLT, Nat.lt_add_one, Nat.zero_lt_succ, decide_true, decide_false, ne_eq, reduceCtorEq, condW_b]
            refine ⟨fun hc => ?_, fun hc => ?_⟩
            · simp only [wsv, wsg, wsh, wsl, cond_true, cond_false, exists_eq_left', Option.some.injEq, Option.isSome_some, List.getElem?_toArray, List.getElem?_cons_zero, List.getElem?_cons_succ, List.length_cons, List.length_nil, List.set_cons_zero, List.set_cons_succ, List.getD_cons_zero, List.getD_cons_succ, Nat.zero_add, Nat.add_zero, Nat.reduceAdd, Nat.reduceLT, Nat.lt_add_one, Nat.zero_lt_succ, decide_true, decide_false, ne_eq, reduceCtorEq, wsh, G8.hb]
              rw [if_pos hc]
              refine grow_key G8 (by rw [List.length_map]; omega) fun kv9 w9 G9 lo9 => ?_
              obtain ⟨hba9, hbc9, hO9⟩ := hstay (lo8.trans lo9)
              simp only [wsv, wsg, wsh, wsl, cond_true, cond_false, exists_eq_left', Option.some.injEq, Option.isSome_some, List.getElem?_toArray, List.getElem?_cons_zero, List.getElem?_cons_succ, List.length_cons, List.length_nil, List.set_cons_zero, List.set_cons_succ, List.getD_cons_zero, List.getD_cons_succ, Nat.zero_add, Nat.add_zero, Nat.reduceAdd, Nat.reduceLT, Nat.lt_add_one, Nat.zero_lt_succ, decide_true, decide_false, ne_eq, reduceCtorEq, wsh, G9.hb]
              refine ld_all hbc9 rfl ?_
              refine grow_item G9 (?_ : VRep w0 x _) (by rw [List.length_map]; omega) fun sv10 w10 G10 lo10 => ?_
              · obtain ⟨T, L, i1, i2⟩ := Ix.items
                obtain ⟨T', i3⟩ := Ix.keys
                exact VRep.mk i1 i2 i3 Ix.fits
              refine ⟨sv10, kv9, ?_, ?_, (lo8.trans lo9).trans lo10⟩
              · simp only [putGo, hp, hc, if_true]
              · rw [List.map_append, List.map_append]; exact G10
            · rw [if_neg (by rw [hc]; simp)]
              refine ⟨sv8, kv8, ?_, G8, lo8⟩
              simp only [putGo, hp, hc, Bool.false_eq_true, if_false]
        · rintro s gd w9 ⟨sv9, kv9, rfl, G9, lo9⟩
          have hxd : Ext w9 w9.drew := Chg.drew (Chg.refl (fun _ => False) w9)
          obtain ⟨hba9, hbc9, hO9⟩ := hstay lo9
          obtain ⟨_, _, hO9d⟩ := hstay (low_ext lo9 hxd)
          have hl9 : (if (!(putGo P k x i).2 && Op.bytesLess k p.1) then (putGo P k x i).1 ++ [(k, x)] else (putGo P k x i).1).length ≤ 2 * i + 1 := by split <;> (first | omega | (simp; omega))
          simp only [wsv, wsg, wsh, wsl, cond_true, cond_false, exists_eq_left', Option.some.injEq, Option.isSome_some, List.getElem?_toArray, List.getElem?_cons_zero, List.getElem?_cons_succ, List.length_cons, List.length_nil, List.set_cons_zero, List.set_cons_succ, List.getD_cons_zero, List.getD_cons_succ, Nat.zero_add, Nat.add_zero, Nat.reduceAdd, Nat.reduceLT, Nat.lt_add_one, Nat.zero_lt_succ, decide_true, decide_false, ne_eq, reduceCtorEq, wsh, G9.hb, hba9]
          refine hkey hO9d ?_
          refine grow_key' (G9.more hxd) (by rw [List.length_map]; omega) fun kv10 w10 G10 lo10 => ?_
          have lo10 := (low_ext lo9 hxd).trans lo10
          obtain ⟨hba10, hbc10, hO10⟩ := hstay lo10
          have hxd10 : Ext w10 w10.drew := Chg.drew (Chg.refl (fun _ => False) w10)
          obtain ⟨_, _, hO10d⟩ := hstay (low_ext lo10 hxd10)
          simp only [wsv, wsg, wsh, wsl, cond_true, cond_false, exists_eq_left', Option.some.injEq, Option.isSome_some, List.getElem?_toArray, List.getElem?_cons_zero, List.getElem?_cons_succ, List.length_cons, List.length_nil, List.set_cons_zero, List.set_cons_succ, List.getD_cons_zero, List.getD_cons_succ, Nat.zero_add, Nat.add_zero, Nat.reduceAdd, Nat.reduceLT, Nat.lt_add_one, Nat.zero_lt_succ, decide_true, decide_false, ne_eq, reduceCtorEq, wsh, G10.hb, hba10]
          refine hO10d.item_old (by rw [hPx]; simp only [List.getElem?_map, hp]; rfl) fun cs2 h2 => ?_
          refine grow_item' (G10.more hxd10) h2 (by rw [List.length_map]; omega) fun sv11 w11 G11 lo11 => ?_
          rw [up1 (by omega)]
          refine ⟨⟨i + 1, sv11, kv10, hlt, rfl, ?_, (low_ext lo10 hxd10).trans lo11⟩, by simp only [Int.toNat_natCast]; omega⟩
          have e : (putGo P k x (i + 1)).1 = (if (!(putGo P k x i).2 && Op.bytesLess k p.1) then (putGo P k x i).1 ++ [(k, x)] else (putGo P k x i).1) ++ [p] := by
            simp only [putGo, hp]; split <;> rfl
          rw [e, List.map_append, List.map_append]
          exact G11
      · obtain rfl : i = P.length := by omega
        simp only [wsv, wsg, wsh, wsl, cond_true, cond_false, exists_eq_left', Option.some.injEq, Option.isSome_some, List.getElem?_toArray, List.getElem?_cons_zero, List.getElem?_cons_succ, List.length_cons, List.length_nil, List.set_cons_zero, List.set_cons_succ, List.getD_cons_zero, List.getD_cons_succ, Nat.zero_add, Nat.add_zero, Nat.reduceAdd, Nat.reduceLT, Nat.lt_add_one, Nat.zero_lt_succ, decide_true, decide_false, ne_eq, reduceCtorEq, Int.lt_irrefl]
        exact ⟨sv8, kv8, w7.heap.size, by omega, by omega, G8, low_get lo8 (by omega) (by omega) hbc7, low_get lo8 (by omega) (by omega) hbb7, low_new hw7 (by omega) (by have := hw7.size; omega) lo8⟩
    · have hPe : P = [] := if_neg hne
      rw [hPe]
      exact ⟨_, _, g + 1, rfl, by omega, by omega, G0, hbc5, hbb5, hw5⟩
  · rintro s g' w6 ⟨sv6, kv6, base, rfl, hbb0, hcc0, G6, hbc6, hbb6, hw6⟩
    have hlen := putGo_len P k x P.length
    have hins : ∀ p ∈ insP P k x, p.1.length ≤ 9223372036854775807 := by
      intro p hp
      rw [putGo_end] at hp
      have hgo : ∀ i, ∀ p ∈ (putGo P k x i).1, p.1.length ≤ 9223372036854775807 := by
        intro i
        induction i with
        | zero => intro p hp; simp [putGo] at hp
        | succ i ih =>
          intro p hp
          simp only [putGo] at hp
          split at hp
          · exact ih p hp
          · rename_i q hq
            have hq' := hPk q (List.mem_of_getElem? hq)
            split at hp <;> simp only [List.mem_append, List.mem_cons, List.not_mem_nil, or_false] at hp
            · rcases hp with (hp | rfl) | rfl
              · exact ih p hp
              · exact hk
              · exact hq'
            · rcases hp with hp | rfl
              · exact ih p hp
              · exact hq'
      split at hp
      · exact hgo _ p hp
      · rcases List.mem_append.1 hp with hp | hp
        · exact hgo _ p hp
        · rw [List.mem_singleton.1 hp]; exact hk
    have hil : (insP P k x).length ≤ 1000000 := by rw [putGo_end]; split <;> (first | omega | (simp; omega))
    refine JoinW.cut (fun s w' => ∃ sv kv, s = [] ∧ Grow w0 w' g base sv kv sv kv ((insP P k x).map (·.2)) ((insP P k x).map (·.1)) ∧ w'.heap[b]? = some (.cells zv.toArray VT (0, 0)) ∧ Ext w w') ?_ ?_
    · simp only [wsv, wsg, wsh, wsl, cond_true, cond_false, exists_eq_left', Option.some.injEq, Option.isSome_some, List.getElem?_toArray, List.getElem?_cons_zero, List.getElem?_cons_succ, List.length_cons, List.length_nil, List.set_cons_zero, List.set_cons_succ, List.getD_cons_zero, List.getD_cons_succ, Nat.zero_add, Nat.add_zero, Nat.reduceAdd, Nat.reduceLT, Nat.lt_add_one, Nat.zero_lt_succ, decide_true, decide_false, ne_eq, reduceCtorEq, condW_b]
      refine ⟨fun hn => ?_, fun hy => ?_⟩
      · have hn : (putGo P k x P.length).2 = false := by simpa using hn
        rw [putGo_end, if_neg (by rw [hn]; simp), List.map_append, List.map_append]
        simp only [wsv, wsg, wsh, wsl, cond_true, cond_false, exists_eq_left', Option.some.injEq, Option.isSome_some, List.getElem?_toArray, List.getElem?_cons_zero, List.getElem?_cons_succ, List.length_cons, List.length_nil, List.set_cons_zero, List.set_cons_succ, List.getD_cons_zero, List.getD_cons_succ, Nat.zero_add, Nat.add_zero, Nat.reduceAdd, Nat.reduceLT, Nat.lt_add_one, Nat.zero_lt_succ, decide_true, decide_false, ne_eq, reduceCtorEq, wsh, G6.hb]
        refine grow_key G6 (by rw [List.length_map]; omega) fun kv9 w9 G9 lo9 => ?_
        have hbc9 := low_get lo9 hcc0 (by omega) hbc6
        simp only [wsv, wsg, wsh, wsl, cond_true, cond_false, exists_eq_left', Option.some.injEq, Option.isSome_some, List.getElem?_toArray, List.getElem?_cons_zero, List.getElem?_cons_succ, List.length_cons, List.length_nil, List.set_cons_zero, List.set_cons_succ, List.getD_cons_zero, List.getD_cons_succ, Nat.zero_add, Nat.add_zero, Nat.reduceAdd, Nat.reduceLT, Nat.lt_add_one, Nat.zero_lt_succ, decide_true, decide_false, ne_eq, reduceCtorEq, wsh, G9.hb]
        refine ld_all hbc9 rfl ?_
        refine grow_item G9 (?_ : VRep w0 x _) (by rw [List.length_map]; omega) fun sv10 w10 G10 lo10 => ?_
        · obtain ⟨T, L, i1, i2⟩ := Ix.items
          obtain ⟨T', i3⟩ := Ix.keys
          exact VRep.mk i1 i2 i3 Ix.fits
        exact ⟨sv10, kv9, G10, low_get (lo9.trans lo10) hbb0 (by omega) hbb6, low_new hw6 (by omega) (by omega) (lo9.trans lo10)⟩
      · have hy : (putGo P k x P.length).2 = true := by simpa using hy
        rw [putGo_end, if_pos hy]
        exact ⟨sv6, kv6, G6, hbb6, hw6⟩
    · rintro s gd w9 ⟨sv9, kv9, rfl, G9, hbb9, hw9⟩
      have hO := G9.own hil hins
      refine ld_all G9.hb rfl ?_
      refine ret_agg hbb9 rfl rfl (obj_one hO.one.1 hO.one.2) fun w10 hc10 => ?_
      have hsz := hx.size
      exact hK _ _ base w10 (hw9.new hc10 (by omega)) (by omega) (hO.chg hc10 fun k hk _ e => by omega)
theorem put_ref {v x : JV} {cs ds : List Value} {k : Str} {w : World} {K : Value → World → Prop} (h : VRep w v cs) (hd : VRep w x ds) (hl : v.k = 6 → v.ks.length = v.xs.length) (hfew : v.ks.length ≤ 100000) (hk : k.length ≤ 9223372036854775807)
    (hK : ∀ sv kv base w', Ext w w' → w.heap.size ≤ base → OwnV w w' base (putM v k x) sv kv → K (.agg [i64 6, .bool false, str [], sv, kv].toArray) w') : callF Tryz.prog 20 [.agg cs.toArray, str k, .agg ds.toArray] w K := put_ref0 h hd (Chg.refl _ _) hl hfew hk hK
end
end Go.Proofs.YtonblcbpoilndaaGreatDoor
