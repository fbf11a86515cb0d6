/- One plain sentence: the law that the program's choice is the document's: its function answers true. Conditions: those that each states. -/
import Derived.Test.YtonblcbpoilndaaGreatDoorVC8
set_option linter.all false
set_option linter.unusedSimpArgs false
set_option linter.unusedVariables false
set_option linter.unusedSectionVars false
namespace Go.Proofs.YtonblcbpoilndaaGreatDoor
open Go Go.Eng Go.Num
set_option maxRecDepth 100000
theorem mrg_len {a b : List Str} (ha : Rise a) (hb : Rise b) : (mrg a b).length ≤ a.length + b.length := by
  have : ∀ (a b : List Str), (mrg a b).length ≤ a.length + b.length := by
    intro a b
    induction a, b using mrg.induct with
    | case1 b => simp [mrg]
    | case2 a az => simp [mrg]
    | case3 a az b bz h ih => rw [mrg, if_pos h]; simp only [List.length_cons] at *; omega
    | case4 a az bz h ih => rw [mrg, if_neg h, if_pos rfl]; simp only [List.length_cons] at *; omega
    | case5 a az b bz h h2 ih => rw [mrg, if_neg h, if_neg h2]; simp only [List.length_cons] at *; omega
  exact this a b
theorem _root_.Go.Eng.GoodV.mlen {a b : JV} (ga : GoodV a) (gb : GoodV b) : ((mrg a.ks b.ks).filter (differsM a b)).length ≤ 1000000 := by
  obtain ⟨la1, la2, la3, la4, _⟩ := ga.lens
  obtain ⟨lb1, lb2, lb3, lb4, _⟩ := gb.lens
  have h1 := mrg_len (keysOk_rise la4) (keysOk_rise lb4)
  have h2 := List.length_filter_le (differsM a b) (mrg a.ks b.ks)
  omega
section
variable [HX]
theorem chooses_true {x y : Bool} {a b : JV} {cs ds : List Value} {w : World} {K : Value → World → Prop} (h : VRep w a cs) (h' : VRep w b ds) (hK : ∀ w', Ext w w' → K (.bool true) w') :
    callF Tryz.prog 4 [.agg #[.bool x, .bool y], .agg cs.toArray, .agg ds.toArray] w K := by
  refine W4_ok ?_
  unfold W4
  refine box_new (z := [.bool x, .bool y]) fun r w0 hr hz0 hrb hx0 => ?_
  refine box_val (h.ext hx0) fun p w1 sv kv hB hx1 _ => ?_
  refine box_val ((h'.ext hx0).ext hx1) fun q w2 sv' kv' hC hx2 _ => ?_
  have hB := hB.ext hx2
  have hrb := (hx1.trans hx2).at hrb id
  have hx := hx0.trans (hx1.trans hx2)
  clear hx0 hx1 hx2
  refine awake_true fun w3 hx3 => ?_
  have hB := hB.ext hx3
  have hC := hC.ext hx3
  have hrb := hx3.at hrb id
  have hx := hx.trans hx3
  clear hx3
  rw [un_not, Bool.not_true, condW_false]
  refine hB.ld fun cs1 h1 => ?_
  refine hC.ld fun cs2 h2 => ?_
  refine goodpair_ref h1 h2 fun w4 hx4 => ?_
  have hx := hx.trans hx4
  rw [un_not, condW_b]
  refine ⟨fun _ => hK w4 hx, fun hg => ?_⟩
  simp only [Bool.not_eq_false', Bool.and_eq_true, decide_eq_true_eq] at hg
  obtain ⟨⟨⟨ka, kb⟩, ga⟩, gb⟩ := hg
  have ga := good_v ga
  have gb := good_v gb
  have hxd : Ext w4 w4.drew := Chg.drew (Chg.refl (fun _ => False) w4)
  have hB := (hB.ext hx4).ext hxd
  have hC := (hC.ext hx4).ext hxd
  have hrb := hxd.at (hx4.at hrb id) id
  have hx := hx.trans hxd
  have hbd : w4.drew.heap[r]? = w4.heap[r]? := rfl
  have hrb0 := hrb
  rw [hbd] at hrb0
  obtain ⟨_, la2, la3, _⟩ := ga.lens
  obtain ⟨_, lb2, lb3, _⟩ := gb.lens
  simp only [wsv, wsg, wsh, wsl, cond_true, cond_false, exists_eq_left', Option.some.injEq, Option.isSome_some, List.getElem?_toArray, List.getElem?_cons_zero, List.getElem?_cons_succ, List.length_cons, List.length_nil, List.set_cons_zero, List.set_cons_succ, List.getD_cons_zero, List.getD_cons_succ, Nat.zero_add, Nat.add_zero, Nat.reduceAdd, Nat.reduceLT, Nat.lt_add_one, Nat.zero_lt_succ, decide_true, decide_false, ne_eq, reduceCtorEq, wsh, hrb0, hrb]
  refine ⟨by decide, by decide, .bool x, rfl, ld_all hB.hb rfl (ld_all hC.hb rfl ⟨by decide, by decide, .bool y, rfl, by decide, by decide, .bool x, rfl, ld_all hB.hb rfl (ld_all hC.hb rfl ⟨by decide, by decide, .bool y, rfl, ?_⟩)⟩)⟩
  refine choose_p hB.rep hC.rep ka kb ga gb (ga.mlen gb) fun w6 hx6 => ?_
  have hB6 := hB.ext hx6
  have hC6 := hC.ext hx6
  have hrb6 := hx6.at hrb id
  refine ⟨⟨.bool y, by rw [hrb6]; rfl, rfl⟩, ld_all hC6.hb rfl rfl, ld_all hB6.hb rfl rfl, ⟨.bool x, by rw [hrb6]; rfl, rfl⟩, ?_⟩
  refine choose_ref hB6.rep hC6.rep ka kb (la3 ka) (lb3 kb) la2 lb2 (ga.mlen gb) fun w7 hx7 => ?_
  rw [bin_eql, decide_eq_true rfl]
  exact hK _ (hx.trans (hx6.trans hx7))
end
end Go.Proofs.YtonblcbpoilndaaGreatDoor
