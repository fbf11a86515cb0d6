/- One plain sentence: contracts of the number one as the program's reference writes it, and of the law's check that the program is awake. Conditions: those that each states. -/
import Derived.Test.YtonblcbpoilndaaGreatDoorVC7
set_option linter.all false
set_option linter.unusedSimpArgs false
set_option linter.unusedVariables false
set_option linter.unusedSectionVars false
namespace Go.Proofs.YtonblcbpoilndaaGreatDoor
open Go Go.Eng Go.Num
set_option maxRecDepth 100000
abbrev oneV : JV := .mk 3 false [49] [] []
section
variable [HX]
theorem signed_1 {w : World} {K : Value → World → Prop} (hK : K (str [49]) w) : callF Tryz.prog 113 [.bool false, str [49]] w K := by
  refine W113_ok ?_
  unfold W113
  simp only [wsv, wsg, wsh, wsl, cond_true, cond_false, exists_eq_left', Option.some.injEq, Option.isSome_some, List.getElem?_toArray, List.getElem?_cons_zero, List.getElem?_cons_succ, List.length_cons, List.length_nil, List.set_cons_zero, List.set_cons_succ, List.getD_cons_zero, List.getD_cons_succ, Nat.zero_add, Nat.add_zero, Nat.reduceAdd, Nat.reduceLT, Nat.lt_add_one, Nat.zero_lt_succ, decide_true, decide_false, ne_eq, reduceCtorEq]
  intros
  exact hK
theorem digits_1 {w : World} {K : Value → World → Prop} (hK : ∀ w', Ext w w' → K (str [49]) w') : callF Tryz.prog 78 [i64 1] w K := by
  refine W78_ok ?_
  unfold W78
  have e0 : decide ((1 : Int) = 0) = false := rfl
  rw [bin_eql, e0, condW_false]
  refine ⟨fun s w' => (s = [str [], i64 1] ∧ w' = w) ∨ (s = [str [49], i64 0] ∧ Ext w w'), fun s _ => match s with | [_, .int _ i] => i.toNat | _ => 0, .inl ⟨rfl, rfl⟩, ?_⟩
  rintro s g w2 (⟨rfl, rfl⟩ | ⟨rfl, hx⟩)
  · have e1 : decide ((1 : Int) ≠ 0) = true := rfl
    have e2 : (1 : Int).tmod 10 = 1 := rfl
    have e3 : decide ((1 : Int) < 0) = false := rfl
    simp only [List.getD_cons_zero, List.getD_cons_succ]
    rw [bin_neq, e1, condW_true, bin_rem]
    refine ⟨by decide, ?_⟩
    rw [e2]
    refine JoinW.go ?_
    rw [bin_lss, e3, condW_false]
    intro g1
    simp only [List.getD_cons_zero, List.getD_cons_succ]
    rw [bin_add, cvt_int]
    have e4 : IntKind.u8.wrap (IntKind.i64.wrap (48 + 1)) = 49 := rfl
    rw [e4]
    unfold bslW
    rw [put_int, put_nil]
    have hx : Ext w2 (w2.alloc (.cells #[.int .u8 49] 5)) := Chg.alloc (Chg.refl _ _) _
    have hb : Byt (w2.alloc (.cells #[.int .u8 49] 5)) 5 (.slice (some ⟨w2.heap.size, 0, none⟩) 1 1) [49] :=
      ⟨_, _, rfl, Nat.le_refl _, fun e => (by cases e), fun _ => ⟨_, _, _, _, rfl, heap_anew _ _ _ rfl, fun i _ => by rw [Nat.zero_add]; simp [u8s]⟩⟩
    refine ⟨by decide, ?_⟩
    refine (conv_bytes (e := 5) (by kernel_rfl) (by kernel_rfl) (by kernel_rfl) hb).2 ?_
    rw [bin_sadd, bin_quo]
    refine ⟨by decide, by decide, .inr ⟨rfl, hx⟩, ?_⟩
    show (0 : Int).toNat < (1 : Int).toNat
    decide
  · have e1 : decide ((0 : Int) ≠ 0) = false := rfl
    have e3 : decide ((1 : Int) < 0) = false := rfl
    simp only [List.getD_cons_zero, List.getD_cons_succ]
    rw [bin_neq, e1, condW_false, bin_lss, e3]
    exact signed_1 (hK _ hx)
theorem int_1 {w : World} {K : Value → World → Prop} (hK : ∀ cs w', Ext w w' → (∀ w'', VRep w'' oneV cs) → K (.agg cs.toArray) w') : callF Tryz.prog 39 [i64 1] w K := by
  refine W39_ok ?_
  unfold W39
  refine alloc_new fun b w1 hb hz hbb hx => ?_
  refine digits_1 fun w2 hx2 => ?_
  have hbb2 := hx2.at hbb id
  simp only [wsv, wsg, wsh, wsl, cond_true, cond_false, exists_eq_left', Option.some.injEq, Option.isSome_some, List.getElem?_toArray, List.getElem?_cons_zero, List.getElem?_cons_succ, List.length_cons, List.length_nil, List.set_cons_zero, List.set_cons_succ, List.getD_cons_zero, List.getD_cons_succ, Nat.zero_add, Nat.add_zero, Nat.reduceAdd, Nat.reduceLT, Nat.lt_add_one, Nat.zero_lt_succ, decide_true, decide_false, ne_eq, reduceCtorEq]
  refine ret_agg hbb2 rfl rfl rfl fun w' hc => ?_
  have hx' : Ext w w' := (hx.trans hx2).new hc (by omega)
  exact hK _ w' hx' fun w'' => (VRep.mk (v := oneV) (SlAt.nil w'' VT) rfl (SlAt.nil _ ST) ⟨by decide, by decide, by decide, by simp [oneV, JV.ks]⟩)
theorem text_1 {s : Str} (hs : s.length ≤ 9223372036854775807) {w : World} {K : Value → World → Prop} (hK : ∀ cs w', Ext w w' → (∀ w'', VRep w'' (.mk 4 false s [] []) cs) → K (.agg cs.toArray) w') : callF Tryz.prog 21 [str s] w K := by
  refine W21_ok ?_
  unfold W21
  refine alloc_new fun b w1 hb hz hbb hx => ?_
  simp only [wsv, wsg, wsh, wsl, cond_true, cond_false, exists_eq_left', Option.some.injEq, Option.isSome_some, List.getElem?_toArray, List.getElem?_cons_zero, List.getElem?_cons_succ, List.length_cons, List.length_nil, List.set_cons_zero, List.set_cons_succ, List.getD_cons_zero, List.getD_cons_succ, Nat.zero_add, Nat.add_zero, Nat.reduceAdd, Nat.reduceLT, Nat.lt_add_one, Nat.zero_lt_succ, decide_true, decide_false, ne_eq, reduceCtorEq]
  have h : ∀ w, VRep w (.mk 4 false s [] []) [i64 4, .bool false, str s, .slice none 0 0, .slice none 0 0] := fun w => VRep.mk (v := .mk 4 false s [] []) (T1 := 0) (T2 := 0) (SlAt.nil w 0) (by simp [JV.xs, VReps]) (SlAt.nil w 0) ⟨by simp [JV.xs], by simp [JV.ks], by simpa [JV.t] using hs, by simp [JV.ks]⟩
  exact ret_val hbb rfl (by omega) hx (h w) fun w2 hx2 _ h2 => hK _ w2 hx2 h
/-- what a call hands back in rows of its own, as a value -/
theorem OwnV.rep {w0 w : World} {base : Nat} {v : JV} {sv kv : Value} (h : OwnV w0 w base v sv kv) (hx : Ext w0 w) : VRep w v [i64 v.k, .bool v.b, str v.t, sv, kv] := by
  obtain ⟨sv', kv', T1, T2, L, he, h1, h2, h3, h4⟩ := h.val
  simp only [List.cons.injEq, and_true, true_and] at he
  obtain ⟨rfl, rfl⟩ := he
  exact VRep.mk h1 (h2.ext hx) h3 h4
/-- put, as a value -/
theorem put_v {v x : JV} {cs ds : List Value} {k : Str} {w : World} {K : Value → World → Prop} (h : VRep w v cs) (hd : VRep w x ds) (hl : v.k = 6 → v.ks.length = v.xs.length) (hfew : v.ks.length ≤ 100000) (hk : k.length ≤ 9223372036854775807)
    (hK : ∀ es w', Ext w w' → VRep w' (putM v k x) es → K (.agg es.toArray) w') : callF Tryz.prog 20 [.agg cs.toArray, str k, .agg ds.toArray] w K := by
  refine put_ref h hd hl hfew hk fun sv kv base w' hx hb hO => ?_
  have hr := hO.rep hx
  have e : (putM v k x).k = 6 ∧ (putM v k x).b = false ∧ (putM v k x).t = [] := by unfold putM; split <;> exact ⟨rfl, rfl, rfl⟩
  rw [e.1, e.2.1, e.2.2] at hr
  exact hK _ w' hx hr
theorem drop_v {v : JV} {cs : List Value} {k : Str} {w : World} {K : Value → World → Prop} (h : VRep w v cs) (he : v.k = 6) (hl : v.ks.length = v.xs.length) (hfew : v.ks.length ≤ 100000)
    (hK : ∀ es w', Ext w w' → VRep w' (mkO (dropP (v.ks.zip v.xs) k)) es → K (.agg es.toArray) w') : callF Tryz.prog 23 [.agg cs.toArray, str k] w K := by
  refine drop_ref h (Chg.refl _ _) he hl hfew fun sv kv base w' hx hb hO => ?_
  exact hK _ w' hx (hO.rep hx)
/-- a value put into a value, in whichever order Go takes the steps -/
theorem put_orders {g : FuncId} {A : List Value} {V X : JV} {p : Nat} {sp kp : Value} {k : Str} {w : World} {J : List Value → World → Prop} (hP : ValB w p V sp kp)
    (hX : ∀ {w : World} {K : Value → World → Prop}, (∀ cs w', Ext w w' → (∀ w'', VRep w'' X cs) → K (.agg cs.toArray) w') → callF Tryz.prog g A w K)
    (hl : V.k = 6 → V.ks.length = V.xs.length) (hfew : V.ks.length ≤ 100000) (hk : k.length ≤ 9223372036854775807)
    (hJ : ∀ q w' sq kq, ValB w' q (putM V k X) sq kq → Ext w w' → J [ptr q] w') :
    ldW true 5 (ptr p) w fun t6 =>
    (callF Tryz.prog g A w fun t7 w7 =>
     (ldW true 5 (ptr p) w7 fun x => x = t6) ∧
     (callF Tryz.prog 20 [t6, str k, t7] w7 fun t8 w8 => allocW VT [(.int .i64 0), (.bool false), (.string (ofL [])), (.slice none 0 0), (.slice none 0 0)] w8 fun t2 w9 => stW 5 t2 t8 w9 fun w10 => J [t2] w10) ∧
     (allocW VT [(.int .i64 0), (.bool false), (.string (ofL [])), (.slice none 0 0), (.slice none 0 0)] w7 fun t2 w11 => (ldW true 5 (ptr p) w11 fun x => x = t6) ∧ callF Tryz.prog 20 [t6, str k, t7] w11 fun t8 w12 => stW 5 t2 t8 w12 fun w13 => J [t2] w13)) ∧
    (allocW VT [(.int .i64 0), (.bool false), (.string (ofL [])), (.slice none 0 0), (.slice none 0 0)] w fun t2 w14 => (ldW true 5 (ptr p) w14 fun x => x = t6) ∧ callF Tryz.prog g A w14 fun t7 w15 => (ldW true 5 (ptr p) w15 fun x => x = t6) ∧ callF Tryz.prog 20 [t6, str k, t7] w15 fun t8 w16 => stW 5 t2 t8 w16 fun w17 => J [t2] w17) := by
  have hrep := hP.rep
  have e : (putM V k X).k = 6 ∧ (putM V k X).b = false ∧ (putM V k X).t = [] := by unfold putM; split <;> exact ⟨rfl, rfl, rfl⟩
  have last : ∀ {b : Nat} {w2 w1 : World} {cs : List Value}, Ext w w1 → w.heap.size ≤ b → w1.heap[b]? = some (.cells zv.toArray VT (0, 0)) → (∀ w'', VRep w'' X cs) →
      callF Tryz.prog 20 [.agg [i64 V.k, .bool V.b, str V.t, sp, kp].toArray, str k, .agg cs.toArray] w1 fun t8 w16 => stW 5 (ptr b) t8 w16 fun w17 => J [ptr b] w17 := by
    intro b w2 w1 cs hx hb hbb hc
    refine put_ref0 hrep (hc w) hx hl hfew hk fun sv kv base w3 hx3 hbase hO => ?_
    have hbb3 := hx3.at hbb id
    have hlt := at_lt hbb
    refine st_agg_at (l := [i64 6, .bool false, str [], sv, kv]) hbb3 rfl rfl (obj_one hO.one.1 hO.one.2) fun w4 hz4 hb4 hc4 => ?_
    have hO4 := hO.chg hc4 fun j hj _ e => by omega
    have hx4 : Ext w w4 := (hx.trans hx3).new hc4 hb
    obtain ⟨L, i1, i2⟩ := hO4.items
    refine hJ b w4 sv kv ⟨?_, ⟨VT, L, i1.sl, i2.ext hx4⟩, ⟨ST, hO4.keys.sl⟩, hO4.fits⟩ hx4
    rw [e.1, e.2.1, e.2.2]
    exact hb4
  refine ld_all hP.hb rfl ⟨?_, ?_⟩
  · refine hX fun cs w7 hx7 hc => ⟨ld_all (hP.ext hx7).hb rfl rfl, ?_, ?_⟩
    · refine put_v (hrep.ext hx7) (hc w7) hl hfew hk fun es w8 hx8 h8 => ?_
      refine copy_new h8 fun q w10 sq kq hQ hx10 => ?_
      exact hJ q w10 sq kq hQ (hx7.trans (hx8.trans hx10))
    · refine alloc_new fun b w11 hb hz hbb hx11 => ⟨ld_all (hP.ext (hx7.trans hx11)).hb rfl rfl, ?_⟩
      have := hx7.size
      exact last (w2 := w11) (hx7.trans hx11) (by omega) hbb hc
  · refine alloc_new fun b w14 hb hz hbb hx14 => ⟨ld_all (hP.ext hx14).hb rfl rfl, ?_⟩
    refine hX fun cs w15 hx15 hc => ⟨ld_all (hP.ext (hx14.trans hx15)).hb rfl rfl, ?_⟩
    exact last (w2 := w15) (hx14.trans hx15) (by omega) (hx15.at hbb id) hc
abbrev nb : Str := [110, 101, 119, 95, 98]
abbrev emptyV : JV := .mk 6 false [] [] []
abbrev objA : JV := .mk 6 false [] [oneV] [[97]]
abbrev objB : JV := .mk 6 false [] [oneV, oneV] [[97], nb]
theorem putA : putM emptyV [97] oneV = objA := by rfl
theorem putB : putM objA nb oneV = objB := by rfl
theorem goodA : GoodV objA := ⟨by decide, by decide⟩
theorem goodB : GoodV objB := ⟨by decide, by decide⟩
theorem mrgAA : (mrg objA.ks objA.ks).filter (differsM objA objA) = [] := by
  have e : mrg [[97]] [[97]] = [[97]] := by simp [mrg, less_irr]
  show (mrg [[97]] [[97]]).filter _ = _
  rw [e]; decide
theorem mrgAB : (mrg objA.ks objB.ks).filter (differsM objA objB) = [nb] := by
  have e : mrg [[97]] [[97], nb] = [[97], nb] := by simp [mrg, less_irr]
  show (mrg [[97]] [[97], nb]).filter _ = _
  rw [e]; decide
theorem awake_true {w : World} {K : Value → World → Prop} (hK : ∀ w', Ext w w' → K (.bool true) w') : callF Tryz.prog 12 [] w K := by
  refine W12_ok ?_
  unfold W12
  have h0 : ∀ w, VRep w emptyV [i64 6, .bool false, str [], .slice none 0 0, .slice none 0 0] := fun w => VRep.mk (v := emptyV) (T1 := 0) (T2 := 0) (SlAt.nil w 0) rfl (SlAt.nil w 0) ⟨by decide, by decide, by decide, by simp [JV.ks]⟩
  rw [put_int, put_nil]
  refine ⟨by decide, ?_⟩
  refine int_1 fun cs1 w2 hx2 h1 => ?_
  refine put_v (h0 w2) (h1 w2) (fun _ => rfl) (by decide) (by decide) fun cs2 w3 hx3 h2 => ?_
  rw [putA] at h2
  refine copy_new h2 fun p w5 sp kp hP hx5 => ?_
  have hx := hx2.trans (hx3.trans hx5)
  refine JoinW.cut (fun s w' => ∃ q sq kq, s = [ptr q] ∧ ValB w' q objB sq kq ∧ Ext w5 w') ?_ ?_
  · have hxd : Ext w5 w5.drew := Chg.drew (Chg.refl (fun _ => False) w5)
    have hPd := hP.ext hxd
    refine put_orders (J := fun s w' => ∃ q sq kq, s = [ptr q] ∧ ValB w' q objB sq kq ∧ Ext w5 w') (k := [110, 101, 119, 95, 98]) hPd int_1 (fun _ => rfl) (by decide) (by decide) fun q w' sq kq hQ hx' => ?_
    rw [show putM objA [110, 101, 119, 95, 98] oneV = objB from putB] at hQ
    exact ⟨q, sq, kq, rfl, hQ, hxd.trans hx'⟩
  rintro s g w18 ⟨q, sq, kq, rfl, hQ, hx18⟩
  have hP := hP.ext hx18
  have hx := hx.trans hx18
  simp only [List.getD_cons_zero]
  refine hP.ld fun cs5 h5 => ?_
  refine hP.ld fun cs6 h6 => ?_
  refine choose_p h5 h6 rfl rfl goodA goodA (by rw [mrgAA]; decide) fun w19 hx19 => ?_
  have hP := hP.ext hx19
  have hQ := hQ.ext hx19
  have hx := hx.trans hx19
  rw [bin_eql, show decide (chooseM false ((mrg objA.ks objA.ks).filter (differsM objA objA)) false = 1) = true from rfl]
  refine GdW.act true (fun w' => Ext w19 w') (fun h => by cases h) ?_ ?_
  · intro _ J hJ
    refine hP.ld fun cs5 h5 => ?_
    refine hP.ld fun cs6 h6 => ?_
    refine choose_p h5 h6 rfl rfl goodA goodA (by rw [mrgAA]; decide) fun w20 hx20 => ?_
    rw [mrgAA, bin_eql, show decide (chooseM true [] true = 0) = true from rfl]
    exact hJ _ hx20
  intro g2 w20 hx20
  have hP := hP.ext hx20
  have hQ := hQ.ext hx20
  have hx := hx.trans hx20
  show GdW true [undef] w20 _ _
  refine GdW.act true (fun w' => Ext w20 w') (fun h => by cases h) ?_ ?_
  · intro _ J hJ
    refine hP.ld fun cs5 h5 => ?_
    refine hQ.ld fun cs6 h6 => ?_
    refine choose_p h5 h6 rfl rfl goodA goodB (by rw [mrgAB]; decide) fun w21 hx21 => ?_
    rw [mrgAB, bin_eql, show decide (chooseM true [nb] true = 4) = true from rfl]
    exact hJ _ hx21
  intro g3 w21 hx21
  have hP := hP.ext hx21
  have hQ := hQ.ext hx21
  have hx := hx.trans hx21
  show GdW true [undef] w21 _ _
  refine GdW.act true (fun w' => Ext w21 w') (fun h => by cases h) ?_ ?_
  · intro _ J hJ
    refine hP.ld fun cs5 h5 => ?_
    refine hQ.ld fun cs6 h6 => ?_
    refine keys_p h5 h6 rfl rfl goodA goodB fun v w22 hx22 hs => ?_
    rw [mrgAB] at hs
    refine row_s fun t w23 ht hx23 => ?_
    refine texts_ref (a := [nb]) (b := [nb]) (hs.ext hx23) ht (by decide) fun w24 hx24 => ?_
    rw [decide_eq_true rfl]
    exact hJ _ (hx22.trans (hx23.trans hx24))
  intro g4 w22 hx22
  exact hK _ (hx.trans hx22)
end
end Go.Proofs.YtonblcbpoilndaaGreatDoor
