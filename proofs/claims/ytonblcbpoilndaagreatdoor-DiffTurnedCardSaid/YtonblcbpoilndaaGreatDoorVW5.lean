/- One plain sentence: the law that the program's keys turn: the walk. Conditions: those that each states. -/
import Derived.Test.YtonblcbpoilndaaGreatDoorVL5
set_option linter.all false
set_option linter.unusedSimpArgs false
set_option linter.unusedVariables false
set_option linter.unusedSectionVars false
namespace Go.Proofs.YtonblcbpoilndaaGreatDoor
open Go Go.Eng Go.Num
set_option maxRecDepth 100000
section
variable [HX]
theorem text_ld2 {w : World} {T : TypeId} {v : Value} {l : List Str} {kk : IntKind} {i : Nat} {k : Str} {K : Value → Value → Prop} (h : SlAt w T v l.length (l.map str)) (hi : l[i]? = some k)
    (hK : ∀ p, (∀ w', Ext w w' → ldW false 1 p w' (fun x => x = str k)) → K p (str k)) : ixaW none 1 v (.int kk i) fun p => ldW false 1 p w (K p) := by
  have hlt := (List.getElem?_eq_some_iff.1 hi).1
  refine ixa_at (size := 1) h (by simp) (by omega) hlt fun b o c fr hb hcc => ?_
  have h0 : c[o]? = some (str k) := by
    have := hcc 0 (by omega)
    simpa [hi] using this
  refine ⟨str k, by rw [cell_eq, hb, cellO_some, h0], hK _ fun w' hx => ⟨str k, ?_, rfl⟩⟩
  rw [cell_eq, hx.at hb id, cellO_some, h0]
theorem turned_true {a b : JV} {cs ds : List Value} {w : World} {K : Value → World → Prop} (h : VRep w a cs) (h' : VRep w b ds) (hK : ∀ w', Ext w w' → K (.bool true) w') :
    callF Tryz.prog 5 [.agg cs.toArray, .agg ds.toArray] w K := by
  refine W5_ok ?_
  unfold W5
  refine box_val h fun p w1 sv kv hB hx1 _ => ?_
  refine box_val (h'.ext hx1) fun q w2 sv' kv' hC hx2 _ => ?_
  have hB := hB.ext hx2
  have hx := hx1.trans hx2
  clear hx1 hx2
  refine awake_true fun w3 hx3 => ?_
  have hB := hB.ext hx3
  have hC := hC.ext hx3
  have hx := hx.trans hx3
  clear hx3
  rw [un_not, Bool.not_true, condW_false]
  refine hB.ld fun cs1 h1 => ?_
  refine hC.ld fun cs2 h2 => ?_
  refine goodpair_ref h1 h2 fun w4 hx4 => ?_
  have hB := hB.ext hx4
  have hC := hC.ext hx4
  have hx := hx.trans hx4
  rw [un_not, condW_b]
  refine ⟨fun _ => hK w4 hx, fun hg => ?_⟩
  simp only [Bool.not_eq_false', Bool.and_eq_true, decide_eq_true_eq] at hg
  obtain ⟨⟨⟨ka, kb⟩, ga⟩, gb⟩ := hg
  have ga := good_v ga
  have gb := good_v gb
  obtain ⟨_, la2, la3, la4, _⟩ := ga.lens
  obtain ⟨_, lb2, lb3, lb4, _⟩ := gb.lens
  have ra := keysOk_rise la4
  have rb := keysOk_rise lb4
  refine hB.ld fun cs3 h3 => ?_
  refine hB.ld fun cs4 h4 => ?_
  refine keys_p h3 h4 ka ka ga ga fun t17 w5 hx5 hs => ?_
  have hB := hB.ext hx5
  have hC := hC.ext hx5
  have hx := hx.trans hx5
  have hkeys := fun k => turned_keys ga ka (k := k)
  have hnil := turned_nil ga ka
  have hln := ga.mlen ga
  generalize (mrg a.ks a.ks).filter (differsM a a) = l at *
  rw [lenl_at hs]
  refine loop_up l.length (fun i w' => Ext w5 w') (Chg.refl _ _) ?_ ?_
  · intro i w7 g L hi hx7 hL
    obtain ⟨k, hk⟩ : ∃ k, l[i]? = some k := ⟨_, List.getElem?_eq_getElem hi⟩
    obtain ⟨hsome, hun⟩ := hkeys k (List.mem_of_getElem? hk)
    have hltI : decide ((i : Int) < (l.length : Int)) = true := decide_eq_true (by omega)
    have hxd : Ext w7 w7.drew := Chg.drew (Chg.refl (fun _ => False) w7)
    have hBd := (hB.ext hx7).ext hxd
    have hsd := (hs.ext hx7).ext hxd
    simp only [List.getD_cons_zero]
    rw [bin_lss, hltI, condW_true]
    refine JoinW.cut (fun s w' => ∃ r su ku, s = [ptr r, .bool true] ∧ ValB w' r ((getM a k).getD JV.null) su ku ∧ Ext w5 w') ?_ ?_
    · refine ld_all hBd.hb rfl ?_
      refine text_ld2 hsd hk fun t27 h27 => ⟨?_, ?_⟩
      · refine get_ref hBd.rep la3 fun cs5 w9 hx9 h5 => ?_
        rw [hsome]
        simp only [wsv, wsg, wsh, wsl, cond_true, cond_false, exists_eq_left', Option.some.injEq, Option.isSome_some, List.getElem?_toArray, List.getElem?_cons_zero, List.getElem?_cons_succ, List.length_cons, List.length_nil, List.set_cons_zero, List.set_cons_succ, List.getD_cons_zero, List.getD_cons_succ, Nat.zero_add, Nat.add_zero, Nat.reduceAdd, Nat.reduceLT, Nat.lt_add_one, Nat.zero_lt_succ, decide_true, decide_false, ne_eq, reduceCtorEq]
        refine copy_new h5 fun r w11 su ku hR hx11 => ?_
        exact ⟨r, su, ku, rfl, hR, hx7.trans (hxd.trans (hx9.trans hx11))⟩
      · refine alloc_new fun r w12 hr hz12 hrb hx12 => ⟨h27 _ hx12, ld_all (hBd.ext hx12).hb rfl rfl, ?_⟩
        refine get_ref0 hBd.rep hx12 la3 fun cs5 w13 hx13 h5 => ?_
        rw [hsome]
        simp only [wsv, wsg, wsh, wsl, cond_true, cond_false, exists_eq_left', Option.some.injEq, Option.isSome_some, List.getElem?_toArray, List.getElem?_cons_zero, List.getElem?_cons_succ, List.length_cons, List.length_nil, List.set_cons_zero, List.set_cons_succ, List.getD_cons_zero, List.getD_cons_succ, Nat.zero_add, Nat.add_zero, Nat.reduceAdd, Nat.reduceLT, Nat.lt_add_one, Nat.zero_lt_succ, decide_true, decide_false, ne_eq, reduceCtorEq]
        obtain ⟨su, ku, T1, T2, L5, rfl, i1, i2, i3, i4⟩ := h5.out
        refine st_agg_at (hx13.at hrb id) rfl rfl h5.all_one fun w14 hz14 hr14 hc14 => ?_
        have hx14 : Ext w7.drew w14 := (hx12.trans hx13).new hc14 (by omega)
        exact ⟨r, su, ku, rfl, ⟨hr14, ⟨T1, L5, i1.ext hx14, i2.ext hx14⟩, ⟨T2, i3.ext hx14⟩, i4⟩, hx7.trans (hxd.trans hx14)⟩
    · rintro s gg w15 ⟨r, su, ku, rfl, hR, hx15⟩
      simp only [List.getD_cons_zero, List.getD_cons_succ]
      rw [un_not, Bool.not_true]
      show GdW true [undef] w15 _ _
      refine GdW.act false (fun w' => Ext w15 w') (fun h => by cases h) ?_ ?_
      · intro _ J hJ
        refine hR.ld fun cs6 h6 => ?_
        refine known_ref _ h6 fun w17 hx17 => ?_
        rw [hun]
        exact hJ w17 hx17
      intro g2 w18 hx18
      show condW (.bool false) _ _
      rw [condW_false, bin_add, up1 (by omega)]
      exact hL w18 (hx15.trans hx18)
  · intro w7 g L hx7
    have hxd : Ext w7 w7.drew := Chg.drew (Chg.refl (fun _ => False) w7)
    have hBd := (hB.ext hx7).ext hxd
    have hCd := (hC.ext hx7).ext hxd
    have hsd := (hs.ext hx7).ext hxd
    simp only [List.getD_cons_zero]
    rw [bin_lss, decide_eq_false (Int.lt_irrefl _), condW_false]
    refine ld_all hBd.hb rfl (ld_all hCd.hb rfl (ld_all hCd.hb rfl (ld_all hBd.hb rfl ?_)))
    refine keys_p hBd.rep hCd.rep ka kb ga gb fun t41 w19 hx19 hs1 => ?_
    have hB19 := hBd.ext hx19
    have hC19 := hCd.ext hx19
    refine ⟨ld_all hB19.hb rfl rfl, ld_all hC19.hb rfl rfl, ?_⟩
    refine keys_p hC19.rep hB19.rep kb ka gb ga fun t44 w20 hx20 hs2 => ?_
    have heq : (mrg b.ks a.ks).filter (differsM b a) = (mrg a.ks b.ks).filter (differsM a b) := by
      rw [mrg_comm rb ra, show differsM b a = differsM a b from funext fun k => differs_comm b a k]
    rw [heq] at hs2
    refine texts_ref (hs1.ext hx20) hs2 (by have := ga.mlen gb; omega) fun w21 hx21 => ?_
    rw [decide_eq_true rfl]
    have hx' : Ext w w21 := hx.trans (hx7.trans (hxd.trans (hx19.trans (hx20.trans hx21))))
    have hB21 := (hB19.ext hx20).ext hx21
    show GqW true _ _
    rw [GqW_t]
    refine ⟨t17, rfl, ?_⟩
    show GqW true _ _
    rw [GqW_t]
    refine ⟨i64 l.length, (lenl_at hs _).2 rfl, ?_⟩
    show GqW true _ _
    rw [GqW_t]
    refine ⟨.bool (decide (l = [])), ?_, ?_⟩
    · rw [bin_eql]
      have : decide (((l.length : Nat) : Int) = 0) = decide (l = []) := decide_eq_decide.2 ⟨fun h => List.eq_nil_of_length_eq_zero (by omega), fun h => by rw [h]; rfl⟩
      rw [this]
    show GqW true _ _
    rw [GqW_t]
    refine ⟨_, ld_all hB21.hb rfl rfl, ?_⟩
    show GeW true _ _ _
    refine ⟨fun _ => ?_, fun e => by cases e⟩
    refine known_ref a hB21.rep fun w27 hx27 => ?_
    show GqW true _ _
    rw [GqW_t]
    refine ⟨.bool true, ?_, ?_⟩
    · rw [eq_bb, hnil]; simp
    · exact hK w27 (hx'.trans hx27)
end
end Go.Proofs.YtonblcbpoilndaaGreatDoor
