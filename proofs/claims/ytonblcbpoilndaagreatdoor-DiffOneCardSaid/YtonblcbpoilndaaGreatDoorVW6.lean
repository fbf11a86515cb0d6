/- One plain sentence: the law of one key: the walk. Conditions: those that each states. -/
import Derived.Test.YtonblcbpoilndaaGreatDoorVL6
set_option linter.all false
set_option linter.unusedSimpArgs false
set_option linter.unusedVariables false
set_option linter.unusedSectionVars false
namespace Go.Proofs.YtonblcbpoilndaaGreatDoor
open Go Go.Eng Go.Num
set_option maxRecDepth 100000
abbrev t1V : JV := .mk 4 false [111, 110, 101] [] []
abbrev t2V : JV := .mk 4 false [116, 119, 111] [] []
section
variable [HX]
theorem one_true {a : JV} {cs : List Value} {k : Str} {sw : Bool} {w : World} {K : Value → World → Prop} (h : VRep w a cs) (hk : k.length ≤ 9223372036854775807) (hK : ∀ w', Ext w w' → K (.bool true) w') :
    callF Tryz.prog 6 [.agg cs.toArray, str k, .bool sw] w K := by
  refine W6_ok ?_
  unfold W6
  refine box_val h fun p w1 sv kv hB hx _ => ?_
  refine awake_true fun w2 hx2 => ?_
  have hB := hB.ext hx2
  have hx := hx.trans hx2
  clear hx2
  rw [un_not, Bool.not_true, condW_false]
  refine hB.ld fun cs1 h1 => ?_
  refine hB.ld fun cs2 h2 => ?_
  refine goodpair_ref h1 h2 fun w3 hx3 => ?_
  have hB := hB.ext hx3
  have hx := hx.trans hx3
  clear hx3
  generalize hg : (decide (a.k = 6) && decide (a.k = 6) && goodM a && goodM a) = G
  rw [un_not]
  refine GdW.act (!knownM a) (fun w' => Ext w3 w') (fun _ => Chg.refl _ _) ?_ ?_
  · intro _ J hJ
    refine hB.ld fun cs3 h3 => ?_
    refine known_ref a h3 fun w5 hx5 => ?_
    rw [un_not]
    exact hJ w5 hx5
  intro g w6 hx6
  have hB := hB.ext hx6
  have hx := hx.trans hx6
  clear hx6
  simp only [wsv, wsg, wsh, wsl, cond_true, cond_false, exists_eq_left', Option.some.injEq, Option.isSome_some, List.getElem?_toArray, List.getElem?_cons_zero, List.getElem?_cons_succ, List.length_cons, List.length_nil, List.set_cons_zero, List.set_cons_succ, List.getD_cons_zero, List.getD_cons_succ, Nat.zero_add, Nat.add_zero, Nat.reduceAdd, Nat.reduceLT, Nat.lt_add_one, Nat.zero_lt_succ, decide_true, decide_false, ne_eq, reduceCtorEq, wsh, hB.hb, hB.lenk]
  intros
  rw [condW_b]
  refine ⟨fun _ => hK w6 hx, fun hgo => ?_⟩
  simp only [Bool.or_eq_false_iff, Bool.not_eq_false', decide_eq_false_iff_not] at hgo
  obtain ⟨⟨⟨hg1, hkn⟩, hkl⟩, hksl⟩ := hgo
  have hkl : k.length ≤ 1000 := by omega
  have hksl : a.ks.length ≤ 1000 := by omega
  rw [hg1] at hg
  simp only [Bool.and_eq_true, decide_eq_true_eq] at hg
  have ka := hg.1.1.1
  have ga := good_v hg.2
  obtain ⟨_, la2, la3, la4, _⟩ := ga.lens
  have hxd : Ext w6 w6.drew := Chg.drew (Chg.refl (fun _ => False) w6)
  refine JoinW.cut (fun s w' => ∃ r su ku, s = [ptr r] ∧ ValB w' r (putM a k t1V) su ku ∧ Ext w6 w') ?_ ?_
  · exact put_orders (J := fun s w' => ∃ r su ku, s = [ptr r] ∧ ValB w' r (putM a k t1V) su ku ∧ Ext w6 w') (hB.ext hxd) (text_1 (by decide)) la3 la2 hk fun q w' sq kq hQ hx' => ⟨q, sq, kq, rfl, hQ, hxd.trans hx'⟩
  rintro s11 g1 w23 ⟨r1, s1, k1, rfl, hO, hx23⟩
  have hB := hB.ext hx23
  have hx := hx.trans hx23
  clear hx23 hxd
  have hxd : Ext w23 w23.drew := Chg.drew (Chg.refl (fun _ => False) w23)
  refine JoinW.cut (fun s w' => ∃ r su ku, s = [ptr r] ∧ ValB w' r (putM a k t2V) su ku ∧ Ext w23 w') ?_ ?_
  · exact put_orders (J := fun s w' => ∃ r su ku, s = [ptr r] ∧ ValB w' r (putM a k t2V) su ku ∧ Ext w23 w') (hB.ext hxd) (text_1 (by decide)) la3 la2 hk fun q w' sq kq hQ hx' => ⟨q, sq, kq, rfl, hQ, hxd.trans hx'⟩
  rintro s24 g2 w36 ⟨r2, s2, k2, rfl, hT, hx36⟩
  have hO := hO.ext hx36
  have hx := hx.trans hx36
  clear hx36 hxd hB
  simp only [List.getD_cons_zero]
  refine hO.ld fun cs5 h5 => ?_
  refine good_ref h5 fun w37 hx37 => ?_
  have hO := hO.ext hx37
  have hT := hT.ext hx37
  have hx := hx.trans hx37
  clear hx37
  rw [un_not, condW_b]
  refine ⟨fun _ => hK w37 hx, fun hg2 => ?_⟩
  have hg2 : goodM (putM a k t1V) = true := by simpa using hg2
  have gO := good_v hg2
  have gT : GoodV (putM a k t2V) := good_put gO ⟨by decide, by decide⟩
  have kO : (putM a k t1V).k = 6 := by unfold putM; split <;> rfl
  have kT : (putM a k t2V).k = 6 := by unfold putM; split <;> rfl
  obtain ⟨_, fO, lO, _⟩ := gO.lens
  obtain ⟨_, fT, lT, _⟩ := gT.lens
  have gD1 := good_drop (k := k) gO
  have gD2 := good_drop (k := k) gT
  have p1 := fun x => put_get (t := t1V) (k := k) ka (la3 ka) x
  have p2 := fun x => put_get (t := t2V) (k := k) ka (la3 ka) x
  have d1 := fun x => drop_get (k := k) kO (lO kO) x
  have d2 := fun x => drop_get (k := k) kT (lT kT) x
  have m1 : k ∈ (putM a k t1V).ks := (get_mem (x := t1V) (by rw [p1, if_pos rfl])).1
  have m2 : k ∈ (putM a k t2V).ks := (get_mem (x := t2V) (by rw [p2, if_pos rfl])).1
  have K1 : (mrg (putM a k t1V).ks (putM a k t2V).ks).filter (differsM (putM a k t1V) (putM a k t2V)) = [k] :=
    only_key gO gT (fun x hx => by rw [p1, p2, if_neg hx, if_neg hx]) (fun x hx => by rw [p1, if_neg hx]; exact known_get hkn x) (by unfold differsM; rw [p1, p2, if_pos rfl, if_pos rfl]; decide) (.inl m1)
  have K2 : (mrg (putM a k t1V).ks (mkO (dropP ((putM a k t2V).ks.zip (putM a k t2V).xs) k)).ks).filter (differsM (putM a k t1V) (mkO (dropP ((putM a k t2V).ks.zip (putM a k t2V).xs) k))) = [k] :=
    only_key gO gD2 (fun x hx => by rw [d2, if_neg hx, p1, p2, if_neg hx, if_neg hx]) (fun x hx => by rw [p1, if_neg hx]; exact known_get hkn x) (by unfold differsM; rw [d2, p1, if_pos rfl, if_pos rfl]; decide) (.inl m1)
  have K3 : (mrg (mkO (dropP ((putM a k t1V).ks.zip (putM a k t1V).xs) k)).ks (putM a k t2V).ks).filter (differsM (mkO (dropP ((putM a k t1V).ks.zip (putM a k t1V).xs) k)) (putM a k t2V)) = [k] :=
    only_key gD1 gT (fun x hx => by rw [d1, if_neg hx, p1, p2, if_neg hx, if_neg hx]) (fun x hx => by rw [d1, if_neg hx, p1, if_neg hx]; exact known_get hkn x) (by unfold differsM; rw [d1, p2, if_pos rfl, if_pos rfl]; decide) (.inr m2)
  clear p1 p2 d1 d2
  refine hO.ld fun cs6 h6 => ?_
  refine hT.ld fun cs7 h7 => ?_
  refine choose_p h6 h7 kO kT gO gT (by rw [K1]; simp) fun w38 hx38 => ?_
  have hO := hO.ext hx38
  have hT := hT.ext hx38
  have hx := hx.trans hx38
  clear hx38
  rw [K1]
  have e1 : decide ((3 : Int) < (k.length : Int)) = decide (4 ≤ k.length) := decide_eq_decide.2 (by omega)
  rw [e1]
  refine GdW.look (decide (k.take 4 = [110, 101, 119, 95])) ?_ ?_
  · intro hc J hJ
    have hc : 4 ≤ k.length := by simpa using hc
    exact ⟨by decide, by omega, hJ⟩
  intro g3
  simp only [wsv, wsg, wsh, wsl, cond_true, cond_false, exists_eq_left', Option.some.injEq, Option.isSome_some, List.getElem?_toArray, List.getElem?_cons_zero, List.getElem?_cons_succ, List.length_cons, List.length_nil, List.set_cons_zero, List.set_cons_succ, List.getD_cons_zero, List.getD_cons_succ, Nat.zero_add, Nat.add_zero, Nat.reduceAdd, Nat.reduceLT, Nat.lt_add_one, Nat.zero_lt_succ, decide_true, decide_false, ne_eq, reduceCtorEq]
  rw [show (decide (4 ≤ k.length) && decide (k.take 4 = [110, 101, 119, 95])) = forcesM k from rfl]
  refine JoinW.cut (fun s w' => s = [i64 (chooseM true [k] sw)] ∧ w' = w38) ?_ ?_
  · cases hf : forcesM k <;> cases sw <;> (try simp only [wsv, wsg, wsh, wsl, cond_true, cond_false, exists_eq_left', Option.some.injEq, Option.isSome_some, List.getElem?_toArray, List.getElem?_cons_zero, List.getElem?_cons_succ, List.length_cons, List.length_nil, List.set_cons_zero, List.set_cons_succ, List.getD_cons_zero, List.getD_cons_succ, Nat.zero_add, Nat.add_zero, Nat.reduceAdd, Nat.reduceLT, Nat.lt_add_one, Nat.zero_lt_succ, decide_true, decide_false, ne_eq, reduceCtorEq]) <;> simp [chooseM, hf, GdW, isB, pickW, condW]
  rintro s41 g4 w44 ⟨rfl, rfl⟩
  have hxd : Ext w44 w44.drew := Chg.drew (Chg.refl (fun _ => False) w44)
  have hO := hO.ext hxd
  have hT := hT.ext hxd
  have hx := hx.trans hxd
  clear hxd
  simp only [List.getD_cons_zero]
  refine ld_all hO.hb rfl (ld_all hT.hb rfl ⟨?_, ?_⟩)
  · refine keys_p hO.rep hT.rep kO kT gO gT fun t64 w45 hx45 hs => ?_
    rw [K1] at hs
    refine row_s fun t66 w46 ht hx46 => ?_
    refine texts_ref (a := [k]) (b := [k]) (hs.ext hx46) ht (by simp) fun w47 hx47 => ?_
    rw [decide_eq_true rfl]
    have hxy := hx45.trans (hx46.trans hx47)
    have hO := hO.ext hxy
    have hT := hT.ext hxy
    have hxx := hx.trans hxy
    show GqW true _ _
    rw [GqW_t]
    refine ⟨i64 (chooseM true [k] sw), rfl, ?_⟩
    show GqW true _ _
    rw [GqW_t]
    refine ⟨i64 (chooseM true [k] sw), rfl, ?_⟩
    show GqW true _ _
    rw [GqW_t]
    refine ⟨.bool true, by rw [bin_eql, decide_eq_true rfl], ?_⟩
    rw [pick_t]
    show GqW true _ _
    rw [GqW_t]
    refine ⟨_, ld_all hO.hb rfl rfl, ?_⟩
    show GqW true _ _
    rw [GqW_t]
    refine ⟨_, ld_all hT.hb rfl rfl, ?_⟩
    show GqW true _ _
    rw [GqW_t]
    refine ⟨str k, rfl, ?_⟩
    show GqW true _ _
    rw [GqW_t]
    refine ⟨.bool sw, rfl, ?_⟩
    show GqW true _ _
    rw [GqW_t]
    refine ⟨i64 (chooseM true [k] sw), rfl, ?_⟩
    refine ⟨fun _ => ?_, fun e => by cases e⟩
    refine drop_v hT.rep kT (lT kT) fT fun es wd hxd hes => ⟨fun _ => ld_all (hO.ext hxd).hb rfl rfl, fun _ => ?_, fun e => by cases e⟩
    have hO := hO.ext hxd
    have hT := hT.ext hxd
    have hxx := hxx.trans hxd
    refine choose_p hO.rep hes kO rfl gO gD2 (by rw [K2]; simp) fun we hxe => ?_
    have hO := hO.ext hxe
    have hT := hT.ext hxe
    have hxx := hxx.trans hxe
    rw [K2]
    show GqW true _ _
    rw [GqW_t]
    refine ⟨.bool true, by rw [bin_eql, decide_eq_true rfl], ?_⟩
    rw [pick_t]
    show GqW true _ _
    rw [GqW_t]
    refine ⟨_, ld_all hO.hb rfl rfl, ?_⟩
    show GqW true _ _
    rw [GqW_t]
    refine ⟨str k, rfl, ?_⟩
    show GqW true _ _
    rw [GqW_t]
    refine ⟨_, ld_all hT.hb rfl rfl, ?_⟩
    show GqW true _ _
    rw [GqW_t]
    refine ⟨.bool sw, rfl, ?_⟩
    show GqW true _ _
    rw [GqW_t]
    refine ⟨i64 (chooseM true [k] sw), rfl, ?_⟩
    refine ⟨fun _ => ?_, fun e => by cases e⟩
    refine drop_v hO.rep kO (lO kO) fO fun es wd hxd hes => ⟨fun _ => ld_all (hT.ext hxd).hb rfl rfl, fun _ => ?_, fun e => by cases e⟩
    have hT := hT.ext hxd
    have hxx := hxx.trans hxd
    refine choose_p hes hT.rep rfl kT gD1 gT (by rw [K3]; simp) fun we hxe => ?_
    rw [K3]
    show GqW true _ _
    rw [GqW_t]
    refine ⟨.bool true, by rw [bin_eql, decide_eq_true rfl], ?_⟩
    rw [pick_t]
    exact hK _ (hxx.trans hxe)
  · refine row_s fun t66 w46 ht hx46 => ?_
    refine ⟨ld_all (hT.ext hx46).hb rfl rfl, ld_all (hO.ext hx46).hb rfl rfl, ?_⟩
    refine keys_p (hO.ext hx46).rep (hT.ext hx46).rep kO kT gO gT fun t64 w45 hx45 hs => ?_
    rw [K1] at hs
    refine texts_ref (a := [k]) (b := [k]) hs (ht.ext hx45) (by simp) fun w47 hx47 => ?_
    rw [decide_eq_true rfl]
    have hxy := hx46.trans (hx45.trans hx47)
    have hO := hO.ext hxy
    have hT := hT.ext hxy
    have hxx := hx.trans hxy
    show GqW true _ _
    rw [GqW_t]
    refine ⟨i64 (chooseM true [k] sw), rfl, ?_⟩
    show GqW true _ _
    rw [GqW_t]
    refine ⟨i64 (chooseM true [k] sw), rfl, ?_⟩
    show GqW true _ _
    rw [GqW_t]
    refine ⟨.bool true, by rw [bin_eql, decide_eq_true rfl], ?_⟩
    rw [pick_t]
    show GqW true _ _
    rw [GqW_t]
    refine ⟨_, ld_all hO.hb rfl rfl, ?_⟩
    show GqW true _ _
    rw [GqW_t]
    refine ⟨_, ld_all hT.hb rfl rfl, ?_⟩
    show GqW true _ _
    rw [GqW_t]
    refine ⟨str k, rfl, ?_⟩
    show GqW true _ _
    rw [GqW_t]
    refine ⟨.bool sw, rfl, ?_⟩
    show GqW true _ _
    rw [GqW_t]
    refine ⟨i64 (chooseM true [k] sw), rfl, ?_⟩
    refine ⟨fun _ => ?_, fun e => by cases e⟩
    refine drop_v hT.rep kT (lT kT) fT fun es wd hxd hes => ⟨fun _ => ld_all (hO.ext hxd).hb rfl rfl, fun _ => ?_, fun e => by cases e⟩
    have hO := hO.ext hxd
    have hT := hT.ext hxd
    have hxx := hxx.trans hxd
    refine choose_p hO.rep hes kO rfl gO gD2 (by rw [K2]; simp) fun we hxe => ?_
    have hO := hO.ext hxe
    have hT := hT.ext hxe
    have hxx := hxx.trans hxe
    rw [K2]
    show GqW true _ _
    rw [GqW_t]
    refine ⟨.bool true, by rw [bin_eql, decide_eq_true rfl], ?_⟩
    rw [pick_t]
    show GqW true _ _
    rw [GqW_t]
    refine ⟨_, ld_all hO.hb rfl rfl, ?_⟩
    show GqW true _ _
    rw [GqW_t]
    refine ⟨str k, rfl, ?_⟩
    show GqW true _ _
    rw [GqW_t]
    refine ⟨_, ld_all hT.hb rfl rfl, ?_⟩
    show GqW true _ _
    rw [GqW_t]
    refine ⟨.bool sw, rfl, ?_⟩
    show GqW true _ _
    rw [GqW_t]
    refine ⟨i64 (chooseM true [k] sw), rfl, ?_⟩
    refine ⟨fun _ => ?_, fun e => by cases e⟩
    refine drop_v hO.rep kO (lO kO) fO fun es wd hxd hes => ⟨fun _ => ld_all (hT.ext hxd).hb rfl rfl, fun _ => ?_, fun e => by cases e⟩
    have hT := hT.ext hxd
    have hxx := hxx.trans hxd
    refine choose_p hes hT.rep rfl kT gD1 gT (by rw [K3]; simp) fun we hxe => ?_
    rw [K3]
    show GqW true _ _
    rw [GqW_t]
    refine ⟨.bool true, by rw [bin_eql, decide_eq_true rfl], ?_⟩
    rw [pick_t]
    exact hK _ (hxx.trans hxe)
end
end Go.Proofs.YtonblcbpoilndaaGreatDoor
