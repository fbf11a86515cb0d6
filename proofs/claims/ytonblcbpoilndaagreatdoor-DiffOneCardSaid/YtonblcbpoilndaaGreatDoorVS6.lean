/- One plain sentence: contracts of the document's answer for what is to be done with an instance. Conditions: those that each states. -/
import Derived.Test.YtonblcbpoilndaaGreatDoorVS5
set_option linter.all false
set_option linter.unusedSimpArgs false
set_option linter.unusedVariables false
set_option linter.unusedSectionVars false
namespace Go.Proofs.YtonblcbpoilndaaGreatDoor
open Go Go.Eng Go.Num
set_option maxRecDepth 100000
section
variable [HX]

theorem text_ref {s : Str} {w : World} {K : Value → World → Prop} (hs : s.length ≤ 9223372036854775807) (hK : ∀ cs w', Ext w w' → VRep w' (.mk 4 false s [] []) cs → K (.agg cs.toArray) w') : callF Tryz.prog 21 [str s] w K := by
  refine W21_ok ?_
  unfold W21
  refine alloc_new fun b w1 hb hz hbb hx => ?_
  simp only [wsv, wsg, wsh, wsl, cond_true, cond_false, exists_eq_left', Option.some.injEq, Option.isSome_some, List.getElem?_toArray, List.getElem?_cons_zero, List.getElem?_cons_succ, List.length_cons, List.length_nil, List.set_cons_zero, List.set_cons_succ, List.getD_cons_zero, List.getD_cons_succ, Nat.zero_add, Nat.add_zero, Nat.reduceAdd, Nat.reduceLT, Nat.lt_add_one, Nat.zero_lt_succ, decide_true, decide_false, ne_eq, reduceCtorEq]
  have h : VRep w (.mk 4 false s [] []) [i64 4, .bool false, str s, .slice none 0 0, .slice none 0 0] := VRep.mk (v := .mk 4 false s [] []) (T1 := 0) (T2 := 0) (SlAt.nil w 0) (by simp [JV.xs, VReps]) (SlAt.nil w 0) ⟨by simp [JV.xs], by simp [JV.ks], by simpa [JV.t] using hs, by simp [JV.ks]⟩
  exact ret_val hbb rfl (by omega) hx h fun w2 hx2 _ h2 => hK _ w2 hx2 h2

theorem forces_ref {k : Str} {w : World} {K : Value → World → Prop} (hK : K (.bool (forcesM k)) w) : callF Tryz.prog 44 [str k] w K := by
  refine W44_ok ?_
  unfold W44
  have e1 : decide ((4 : Int) ≤ (k.length : Int)) = decide (4 ≤ k.length) := decide_eq_decide.2 (by omega)
  simp only [wsv, wsg, wsh, wsl, cond_true, cond_false, exists_eq_left', Option.some.injEq, Option.isSome_some, List.getElem?_toArray, List.getElem?_cons_zero, List.getElem?_cons_succ, List.length_cons, List.length_nil, List.set_cons_zero, List.set_cons_succ, List.getD_cons_zero, List.getD_cons_succ, Nat.zero_add, Nat.add_zero, Nat.reduceAdd, Nat.reduceLT, Nat.lt_add_one, Nat.zero_lt_succ, decide_true, decide_false, ne_eq, reduceCtorEq]
  refine GdW.look (decide (k.take 4 = [110, 101, 119, 95])) ?_ ?_
  · intro hc J hJ
    rw [e1, decide_eq_true_eq] at hc
    have e4 : (4 : Int).toNat = 4 := rfl
    have e5 : (List.take 4 k).length = 4 := by rw [List.length_take]; omega
    simp only [wsv, wsg, wsh, wsl, cond_true, cond_false, exists_eq_left', Option.some.injEq, Option.isSome_some, List.getElem?_toArray, List.getElem?_cons_zero, List.getElem?_cons_succ, List.length_cons, List.length_nil, List.set_cons_zero, List.set_cons_succ, List.getD_cons_zero, List.getD_cons_succ, Nat.zero_add, Nat.add_zero, Nat.reduceAdd, Nat.reduceLT, Nat.lt_add_one, Nat.zero_lt_succ, decide_true, decide_false, ne_eq, reduceCtorEq, e4]
    exact ⟨by omega, by omega, hJ⟩
  · intro g
    (try simp only [wsv, wsg, wsh, wsl, cond_true, cond_false, exists_eq_left', Option.some.injEq, Option.isSome_some, List.getElem?_toArray, List.getElem?_cons_zero, List.getElem?_cons_succ, List.length_cons, List.length_nil, List.set_cons_zero, List.set_cons_succ, List.getD_cons_zero, List.getD_cons_succ, Nat.zero_add, Nat.add_zero, Nat.reduceAdd, Nat.reduceLT, Nat.lt_add_one, Nat.zero_lt_succ, decide_true, decide_false, ne_eq, reduceCtorEq, e1])
    exact hK

theorem goodpair_ref {a b : JV} {cs ds : List Value} {w : World} {K : Value → World → Prop} (h : VRep w a cs) (h' : VRep w b ds) (hK : ∀ w', Ext w w' → K (.bool (decide (a.k = 6) && decide (b.k = 6) && goodM a && goodM b)) w') :
    callF Tryz.prog 13 [.agg cs.toArray, .agg ds.toArray] w K := by
  refine W13_ok ?_
  unfold W13
  refine box_val h fun x w1 sv kv hB hx _ => ?_
  refine box_val (h'.ext hx) fun y w2 sv' kv' hC hx2 _ => ?_
  have hB := hB.ext hx2
  have hx := hx.trans hx2
  clear hx2
  simp only [wsv, wsg, wsh, wsl, cond_true, cond_false, exists_eq_left', Option.some.injEq, Option.isSome_some, List.getElem?_toArray, List.getElem?_cons_zero, List.getElem?_cons_succ, List.length_cons, List.length_nil, List.set_cons_zero, List.set_cons_succ, List.getD_cons_zero, List.getD_cons_succ, Nat.zero_add, Nat.add_zero, Nat.reduceAdd, Nat.reduceLT, Nat.lt_add_one, Nat.zero_lt_succ, decide_true, decide_false, ne_eq, reduceCtorEq, wsh, hB.hb, hC.hb]
  intros
  refine GdW.act (goodM a) (fun w' => Ext w2 w') (fun _ => Chg.refl _ _) ?_ ?_
  · intro hc J hJ
    refine hB.ld fun cs1 h1 => ?_
    exact good_ref h1 hJ
  intro g w3 hx3
  have hC := hC.ext hx3
  have hx := hx.trans hx3
  simp only [wsv, wsg, wsh, wsl, cond_true, cond_false, exists_eq_left', Option.some.injEq, Option.isSome_some, List.getElem?_toArray, List.getElem?_cons_zero, List.getElem?_cons_succ, List.length_cons, List.length_nil, List.set_cons_zero, List.set_cons_succ, List.getD_cons_zero, List.getD_cons_succ, Nat.zero_add, Nat.add_zero, Nat.reduceAdd, Nat.reduceLT, Nat.lt_add_one, Nat.zero_lt_succ, decide_true, decide_false, ne_eq, reduceCtorEq]
  refine GdW.act (goodM b) (fun w' => Ext w3 w') (fun _ => Chg.refl _ _) ?_ ?_
  · intro hc J hJ
    refine hC.ld fun cs1 h1 => ?_
    exact good_ref h1 hJ
  intro g w4 hx4
  have := hK w4 (hx.trans hx4)
  simp only [wsv, wsg, wsh, wsl, cond_true, cond_false, exists_eq_left', Option.some.injEq, Option.isSome_some, List.getElem?_toArray, List.getElem?_cons_zero, List.getElem?_cons_succ, List.length_cons, List.length_nil, List.set_cons_zero, List.set_cons_succ, List.getD_cons_zero, List.getD_cons_succ, Nat.zero_add, Nat.add_zero, Nat.reduceAdd, Nat.reduceLT, Nat.lt_add_one, Nat.zero_lt_succ, decide_true, decide_false, ne_eq, reduceCtorEq]
  exact this

/-- a copy in a block of its own -/
theorem copy_new {w : World} {v : JV} {cs : List Value} {K : Value → World → Prop} (h : VRep w v cs) (hK : ∀ a w' sv kv, ValB w' a v sv kv → Ext w w' → K (ptr a) w') :
    allocW VT [(.int .i64 0), (.bool false), (.string (ofL [])), (.slice none 0 0), (.slice none 0 0)] w fun t w1 => stW 5 t (.agg cs.toArray) w1 fun w2 => K t w2 := by
  obtain ⟨sv, kv, T1, T2, L, rfl, h1, h2, h3, h4⟩ := h.out
  refine alloc_new fun a w1 ha hz hb hx => ?_
  refine st_agg_at hb rfl rfl h.all_one fun w2 hz2 hb2 hc2 => ?_
  have hx' := hx.new hc2 (by omega)
  exact hK a w2 sv kv ⟨hb2, ⟨T1, L, h1.ext hx', h2.ext hx'⟩, ⟨T2, h3.ext hx'⟩, h4⟩ hx'

theorem differs_ref {a b : JV} {cs ds : List Value} {k : Str} {w : World} {K : Value → World → Prop} (h : VRep w a cs) (h' : VRep w b ds) (hl : a.k = 6 → a.ks.length = a.xs.length) (hl' : b.k = 6 → b.ks.length = b.xs.length)
    (hK : ∀ w', Ext w w' → K (.bool (differsM a b k)) w') : callF Tryz.prog 81 [.agg cs.toArray, .agg ds.toArray, str k] w K := by
  refine W81_ok ?_
  unfold W81
  refine box_val h fun x w1 sv kv hB hx _ => ?_
  refine box_val (h'.ext hx) fun y w2 sv' kv' hC hx2 _ => ?_
  have hB := hB.ext hx2
  have hx := hx.trans hx2
  clear hx2
  refine hB.ld fun cs1 h1 => ?_
  refine get_ref h1 hl fun cs2 w3 hx3 h2 => ?_
  have hC := hC.ext hx3
  have hx := hx.trans hx3
  simp only [wsv, wsg, wsh, wsl, cond_true, cond_false, exists_eq_left', Option.some.injEq, Option.isSome_some, List.getElem?_toArray, List.getElem?_cons_zero, List.getElem?_cons_succ, List.length_cons, List.length_nil, List.set_cons_zero, List.set_cons_succ, List.getD_cons_zero, List.getD_cons_succ, Nat.zero_add, Nat.add_zero, Nat.reduceAdd, Nat.reduceLT, Nat.lt_add_one, Nat.zero_lt_succ, decide_true, decide_false, ne_eq, reduceCtorEq]
  refine copy_new h2 fun p w4 sp kp hP hx4 => ?_
  have hC := hC.ext hx4
  have hx := hx.trans hx4
  refine hC.ld fun cs3 h3 => ?_
  refine get_ref h3 hl' fun cs4 w5 hx5 h4 => ?_
  have hP := hP.ext hx5
  have hx := hx.trans hx5
  simp only [wsv, wsg, wsh, wsl, cond_true, cond_false, exists_eq_left', Option.some.injEq, Option.isSome_some, List.getElem?_toArray, List.getElem?_cons_zero, List.getElem?_cons_succ, List.length_cons, List.length_nil, List.set_cons_zero, List.set_cons_succ, List.getD_cons_zero, List.getD_cons_succ, Nat.zero_add, Nat.add_zero, Nat.reduceAdd, Nat.reduceLT, Nat.lt_add_one, Nat.zero_lt_succ, decide_true, decide_false, ne_eq, reduceCtorEq]
  refine copy_new h4 fun q w6 sq kq hQ hx6 => ?_
  have hP := hP.ext hx6
  have hx := hx.trans hx6
  clear hx3 hx4 hx5 hx6
  unfold differsM at hK
  generalize hu : (getM a k).getD JV.null = u at *
  generalize hv : (getM b k).getD JV.null = v at *
  simp only [wsv, wsg, wsh, wsl, cond_true, cond_false, exists_eq_left', Option.some.injEq, Option.isSome_some, List.getElem?_toArray, List.getElem?_cons_zero, List.getElem?_cons_succ, List.length_cons, List.length_nil, List.set_cons_zero, List.set_cons_succ, List.getD_cons_zero, List.getD_cons_succ, Nat.zero_add, Nat.add_zero, Nat.reduceAdd, Nat.reduceLT, Nat.lt_add_one, Nat.zero_lt_succ, decide_true, decide_false, ne_eq, reduceCtorEq, ne_bb]
  refine GdW.act (!sameM u v) (fun w' => Ext w6 w') (fun _ => Chg.refl _ _) ?_ ?_
  · intro hc J hJ
    refine hP.ld fun cs5 h5 => ?_
    refine hQ.ld fun cs6 h6 => ?_
    refine same_ref u h5 h6 fun w7 hx7 => ?_
    simp only [wsv, wsg, wsh, wsl, cond_true, cond_false, exists_eq_left', Option.some.injEq, Option.isSome_some, List.getElem?_toArray, List.getElem?_cons_zero, List.getElem?_cons_succ, List.length_cons, List.length_nil, List.set_cons_zero, List.set_cons_succ, List.getD_cons_zero, List.getD_cons_succ, Nat.zero_add, Nat.add_zero, Nat.reduceAdd, Nat.reduceLT, Nat.lt_add_one, Nat.zero_lt_succ, decide_true, decide_false, ne_eq, reduceCtorEq]
    exact hJ w7 hx7
  intro g w7 hx7
  have hP := hP.ext hx7
  have hQ := hQ.ext hx7
  have hx := hx.trans hx7
  simp only [wsv, wsg, wsh, wsl, cond_true, cond_false, exists_eq_left', Option.some.injEq, Option.isSome_some, List.getElem?_toArray, List.getElem?_cons_zero, List.getElem?_cons_succ, List.length_cons, List.length_nil, List.set_cons_zero, List.set_cons_succ, List.getD_cons_zero, List.getD_cons_succ, Nat.zero_add, Nat.add_zero, Nat.reduceAdd, Nat.reduceLT, Nat.lt_add_one, Nat.zero_lt_succ, decide_true, decide_false, ne_eq, reduceCtorEq]
  refine GdW.act (!knownM u) (fun w' => Ext w7 w') (fun _ => Chg.refl _ _) ?_ ?_
  · intro hc J hJ
    refine hP.ld fun cs5 h5 => ?_
    refine known_ref u h5 fun w8 hx8 => ?_
    simp only [wsv, wsg, wsh, wsl, cond_true, cond_false, exists_eq_left', Option.some.injEq, Option.isSome_some, List.getElem?_toArray, List.getElem?_cons_zero, List.getElem?_cons_succ, List.length_cons, List.length_nil, List.set_cons_zero, List.set_cons_succ, List.getD_cons_zero, List.getD_cons_succ, Nat.zero_add, Nat.add_zero, Nat.reduceAdd, Nat.reduceLT, Nat.lt_add_one, Nat.zero_lt_succ, decide_true, decide_false, ne_eq, reduceCtorEq]
    exact hJ w8 hx8
  intro g w8 hx8
  have hQ := hQ.ext hx8
  have hx := hx.trans hx8
  simp only [wsv, wsg, wsh, wsl, cond_true, cond_false, exists_eq_left', Option.some.injEq, Option.isSome_some, List.getElem?_toArray, List.getElem?_cons_zero, List.getElem?_cons_succ, List.length_cons, List.length_nil, List.set_cons_zero, List.set_cons_succ, List.getD_cons_zero, List.getD_cons_succ, Nat.zero_add, Nat.add_zero, Nat.reduceAdd, Nat.reduceLT, Nat.lt_add_one, Nat.zero_lt_succ, decide_true, decide_false, ne_eq, reduceCtorEq]
  refine GdW.act (!knownM v) (fun w' => Ext w8 w') (fun _ => Chg.refl _ _) ?_ ?_
  · intro hc J hJ
    refine hQ.ld fun cs5 h5 => ?_
    refine known_ref v h5 fun w9 hx9 => ?_
    simp only [wsv, wsg, wsh, wsl, cond_true, cond_false, exists_eq_left', Option.some.injEq, Option.isSome_some, List.getElem?_toArray, List.getElem?_cons_zero, List.getElem?_cons_succ, List.length_cons, List.length_nil, List.set_cons_zero, List.set_cons_succ, List.getD_cons_zero, List.getD_cons_succ, Nat.zero_add, Nat.add_zero, Nat.reduceAdd, Nat.reduceLT, Nat.lt_add_one, Nat.zero_lt_succ, decide_true, decide_false, ne_eq, reduceCtorEq]
    exact hJ w9 hx9
  intro g w9 hx9
  have := hK w9 (hx.trans hx9)
  simp only [wsv, wsg, wsh, wsl, cond_true, cond_false, exists_eq_left', Option.some.injEq, Option.isSome_some, List.getElem?_toArray, List.getElem?_cons_zero, List.getElem?_cons_succ, List.length_cons, List.length_nil, List.set_cons_zero, List.set_cons_succ, List.getD_cons_zero, List.getD_cons_succ, Nat.zero_add, Nat.add_zero, Nat.reduceAdd, Nat.reduceLT, Nat.lt_add_one, Nat.zero_lt_succ, decide_true, decide_false, ne_eq, reduceCtorEq]
  exact this

theorem ValB.kcells {w : World} {a : Nat} {v : JV} {sv kv : Value} (h : ValB w a v sv kv) {i : Nat} (hi : i < v.ks.length) : ∃ T b o c fr p, kv = .slice (some ⟨b, o, none⟩) v.ks.length p ∧ w.heap[b]? = some (.cells c T fr) ∧ ∀ m y, v.ks[m]? = some y → c[o + m]? = some (str y) := by
  obtain ⟨T, hks⟩ := h.keys
  obtain ⟨p, cap, rfl, _, _, h3⟩ := hks
  obtain ⟨b, off, c, fr, rfl, hb, hcs⟩ := h3 (fun e => by
    have : v.ks = [] := by simpa using e
    rw [this] at hi; simp at hi)
  refine ⟨T, b, off, c, fr, cap, rfl, hb, fun m y hy => ?_⟩
  rw [hcs m (by simpa using (List.getElem?_eq_some_iff.1 hy).1)]
  simp [hy]
theorem bytesLess_ne {a b : Str} (h : Op.bytesLess a b = true) : a ≠ b := by rintro rfl; rw [less_irr] at h; cases h
theorem keys_ref {a b : JV} {cs ds : List Value} {w : World} {K : Value → World → Prop} (h : VRep w a cs) (h' : VRep w b ds) (ka : a.k = 6) (kb : b.k = 6) (hl : a.ks.length = a.xs.length) (hl' : b.ks.length = b.xs.length) (hfa : a.ks.length ≤ 100000) (hfb : b.ks.length ≤ 100000)
    (hK : ∀ v w', Ext w w' → SlAt w' ST v ((mrg a.ks b.ks).filter (differsM a b)).length (((mrg a.ks b.ks).filter (differsM a b)).map str) → K v w') : callF Tryz.prog 43 [.agg cs.toArray, .agg ds.toArray] w K := by
  refine W43_ok ?_
  unfold W43
  refine box_val h fun x w1 sv kv hB hx _ => ?_
  refine box_val (h'.ext hx) fun y w2 sv' kv' hC hx2 _ => ?_
  have hB := hB.ext hx2
  have hx := hx.trans hx2
  clear hx2
  simp only [wsv, wsg, wsh, wsl, cond_true, cond_false, exists_eq_left', Option.some.injEq, Option.isSome_some, List.getElem?_toArray, List.getElem?_cons_zero, List.getElem?_cons_succ, List.length_cons, List.length_nil, List.set_cons_zero, List.set_cons_succ, List.getD_cons_zero, List.getD_cons_succ, Nat.zero_add, Nat.add_zero, Nat.reduceAdd, Nat.reduceLT, Nat.lt_add_one, Nat.zero_lt_succ, decide_true, decide_false, ne_eq, reduceCtorEq, wsh, hB.hb, hC.hb, ka, kb, not_true_eq_false]
  intros
  refine ⟨fun s w' => ∃ i j v l, i ≤ a.ks.length ∧ j ≤ b.ks.length ∧ s = [v, i64 (i : Nat), i64 (j : Nat)] ∧ Ext w2 w' ∧ Own w' w2.heap.size ST 1 v l.length (l.map str) ∧ l.length ≤ i + j ∧ (mrg a.ks b.ks).filter (differsM a b) = l ++ (mrg (a.ks.drop i) (b.ks.drop j)).filter (differsM a b),
    fun s _ => match s with | [_, .int _ i, .int _ j] => a.ks.length - i.toNat + (b.ks.length - j.toNat) | _ => 0, ⟨0, 0, _, [], Nat.zero_le _, Nat.zero_le _, rfl, Chg.refl _ _, ⟨rfl, .inl ⟨rfl, rfl⟩⟩, by simp, by simp⟩, ?_⟩
  rintro s g w3 ⟨i, j, v, l, hi, hj, rfl, hx3, hO, hlen, hl3⟩
  have hB3 := hB.ext hx3
  have hC3 := hC.ext hx3
  simp only [wsv, wsg, wsh, wsl, cond_true, cond_false, exists_eq_left', Option.some.injEq, Option.isSome_some, List.getElem?_toArray, List.getElem?_cons_zero, List.getElem?_cons_succ, List.length_cons, List.length_nil, List.set_cons_zero, List.set_cons_succ, List.getD_cons_zero, List.getD_cons_succ, Nat.zero_add, Nat.add_zero, Nat.reduceAdd, Nat.reduceLT, Nat.lt_add_one, Nat.zero_lt_succ, decide_true, decide_false, ne_eq, reduceCtorEq, wsh, hB3.hb, hC3.hb, hB3.lenk, hC3.lenk]
  intros
  have hxd : Ext w2 w3.drew := hx3.trans (Chg.drew (Chg.refl (fun _ => False) w3))
  have hBd := hB.ext hxd
  have hCd := hC.ext hxd
  have ea : (decide (i < a.ks.length) : Bool) = decide ((i : Int) < (a.ks.length : Int)) := decide_eq_decide.2 (by omega)
  rw [condW_b]
  refine ⟨fun hgo => ?_, fun hend => ?_⟩
  · have hgo : i < a.ks.length ∨ j < b.ks.length := by
      simp only [Bool.or_eq_true, decide_eq_true_eq] at hgo; omega
    obtain ⟨kk, hkk⟩ : ∃ kk, selK (a.ks.drop i) (b.ks.drop j) = some kk := by
      cases h1 : a.ks.drop i with
      | nil =>
        cases h2 : b.ks.drop j with
        | nil => have := List.drop_eq_nil_iff.1 h1; have := List.drop_eq_nil_iff.1 h2; omega
        | cons q r => exact ⟨_, rfl⟩
      | cons p r =>
        cases h2 : b.ks.drop j with
        | nil => exact ⟨_, rfl⟩
        | cons q r => simp only [selK]; split <;> exact ⟨_, rfl⟩
    have hm := mrg_sel hkk
    rw [List.head?_drop, List.head?_drop, List.tail_drop, List.tail_drop] at hm
    refine JoinW.cut (fun s w' => s = [str kk] ∧ w' = w3.drew) ?_ ?_
    · by_cases hjl : j = b.ks.length
      · have hil : i < a.ks.length := by omega
        obtain ⟨u, hu⟩ : ∃ u, a.ks[i]? = some u := ⟨_, List.getElem?_eq_getElem hil⟩
        have hk : kk = u := by
          rw [List.drop_eq_nil_iff.2 (show b.ks.length ≤ j by omega), List.drop_eq_getElem_cons hil] at hkk
          simp only [selK, Option.some.injEq] at hkk
          rw [← hkk]
          exact Option.some.inj ((List.getElem?_eq_getElem hil).symm.trans hu)
        have e : decide ((j : Int) = (b.ks.length : Int)) = true := decide_eq_true (by omega)
        simp only [wsv, wsg, wsh, wsl, cond_true, cond_false, exists_eq_left', Option.some.injEq, Option.isSome_some, List.getElem?_toArray, List.getElem?_cons_zero, List.getElem?_cons_succ, List.length_cons, List.length_nil, List.set_cons_zero, List.set_cons_succ, List.getD_cons_zero, List.getD_cons_succ, Nat.zero_add, Nat.add_zero, Nat.reduceAdd, Nat.reduceLT, Nat.lt_add_one, Nat.zero_lt_succ, decide_true, decide_false, ne_eq, reduceCtorEq, e]
        exact hBd.key hu (by rw [hk])
      · obtain ⟨v', hv'⟩ : ∃ v, b.ks[j]? = some v := ⟨_, List.getElem?_eq_getElem (by omega)⟩
        have hjlt : j < b.ks.length := by omega
        have e : decide ((j : Int) = (b.ks.length : Int)) = false := decide_eq_false (by omega)
        have hdj : b.ks.drop j = v' :: b.ks.drop (j + 1) := by
          rw [List.drop_eq_getElem_cons hjlt]; congr 1
          exact Option.some.inj ((List.getElem?_eq_getElem hjlt).symm.trans hv')
        by_cases hil : i < a.ks.length
        · obtain ⟨u, hu⟩ : ∃ u, a.ks[i]? = some u := ⟨_, List.getElem?_eq_getElem hil⟩
          have hdi : a.ks.drop i = u :: a.ks.drop (i + 1) := by
            rw [List.drop_eq_getElem_cons hil]; congr 1
            exact Option.some.inj ((List.getElem?_eq_getElem hil).symm.trans hu)
          rw [hdi, hdj] at hkk
          simp only [selK] at hkk
          have e2 : decide ((i : Int) < (a.ks.length : Int)) = true := decide_eq_true (by omega)
          obtain ⟨T1, b1, o1, c1, f1, p1, rfl, hb1, hg1⟩ := hB3.kcells hil
          obtain ⟨T2, b2, o2, c2, f2, p2, rfl, hb2, hg2⟩ := hC3.kcells hjlt
          have d1 : ((i : Nat) : Int) < (a.ks.length : Int) := by omega
          have d2 : ((j : Nat) : Int) < (b.ks.length : Int) := by omega
          have q1 := hg1 i u hu
          have q2 := hg2 j v' hv'
          simp only [wsv, wsg, wsh, wsl, cond_true, cond_false, exists_eq_left', Option.some.injEq, Option.isSome_some, List.getElem?_toArray, List.getElem?_cons_zero, List.getElem?_cons_succ, List.length_cons, List.length_nil, List.set_cons_zero, List.set_cons_succ, List.getD_cons_zero, List.getD_cons_succ, Nat.zero_add, Nat.add_zero, Nat.reduceAdd, Nat.reduceLT, Nat.lt_add_one, Nat.zero_lt_succ, decide_true, decide_false, ne_eq, reduceCtorEq, wsh, e, hB3.hb, hC3.hb, hB3.lenk, e2, hb1, hb2, Int.toNat_natCast, Int.natCast_nonneg, d1, d2, Nat.mul_one, q1, q2]
          cases hb : Op.bytesLess u v' with
          | true =>
            rw [hb, if_pos rfl, Option.some.injEq] at hkk
            simp only [wsv, wsg, wsh, wsl, cond_true, cond_false, exists_eq_left', Option.some.injEq, Option.isSome_some, List.getElem?_toArray, List.getElem?_cons_zero, List.getElem?_cons_succ, List.length_cons, List.length_nil, List.set_cons_zero, List.set_cons_succ, List.getD_cons_zero, List.getD_cons_succ, Nat.zero_add, Nat.add_zero, Nat.reduceAdd, Nat.reduceLT, Nat.lt_add_one, Nat.zero_lt_succ, decide_true, decide_false, ne_eq, reduceCtorEq]
            rw [hkk]
          | false =>
            rw [hb, if_neg (by simp), Option.some.injEq] at hkk
            simp only [wsv, wsg, wsh, wsl, cond_true, cond_false, exists_eq_left', Option.some.injEq, Option.isSome_some, List.getElem?_toArray, List.getElem?_cons_zero, List.getElem?_cons_succ, List.length_cons, List.length_nil, List.set_cons_zero, List.set_cons_succ, List.getD_cons_zero, List.getD_cons_succ, Nat.zero_add, Nat.add_zero, Nat.reduceAdd, Nat.reduceLT, Nat.lt_add_one, Nat.zero_lt_succ, decide_true, decide_false, ne_eq, reduceCtorEq]
            rw [hkk]
        · have hdi : a.ks.drop i = [] := List.drop_eq_nil_iff.2 (by omega)
          rw [hdi, hdj] at hkk
          simp only [selK, Option.some.injEq] at hkk
          have e2 : decide ((i : Int) < (a.ks.length : Int)) = false := decide_eq_false (by omega)
          simp only [wsv, wsg, wsh, wsl, cond_true, cond_false, exists_eq_left', Option.some.injEq, Option.isSome_some, List.getElem?_toArray, List.getElem?_cons_zero, List.getElem?_cons_succ, List.length_cons, List.length_nil, List.set_cons_zero, List.set_cons_succ, List.getD_cons_zero, List.getD_cons_succ, Nat.zero_add, Nat.add_zero, Nat.reduceAdd, Nat.reduceLT, Nat.lt_add_one, Nat.zero_lt_succ, decide_true, decide_false, ne_eq, reduceCtorEq, wsh, e, hB3.hb, hB3.lenk, e2]
          exact hCd.key hv' (by rw [hkk])
    · rintro s gg w4 ⟨rfl, rfl⟩
      have hOd : Own w3.drew w2.heap.size ST 1 v l.length (l.map str) := hO.ext (Chg.drew (Chg.refl (fun _ => False) w3))
      have hs2 : w2.heap.size ≤ w3.drew.heap.size := hxd.size
      refine JoinW.cut (fun s w' => ∃ v' l', s = [v'] ∧ l' = (if differsM a b kk then l ++ [kk] else l) ∧ Ext w2 w' ∧ Own w' w2.heap.size ST 1 v' l'.length (l'.map str)) ?_ ?_
      · (try simp only [wsv, wsg, wsh, wsl, cond_true, cond_false, exists_eq_left', Option.some.injEq, Option.isSome_some, List.getElem?_toArray, List.getElem?_cons_zero, List.getElem?_cons_succ, List.length_cons, List.length_nil, List.set_cons_zero, List.set_cons_succ, List.getD_cons_zero, List.getD_cons_succ, Nat.zero_add, Nat.add_zero, Nat.reduceAdd, Nat.reduceLT, Nat.lt_add_one, Nat.zero_lt_succ, decide_true, decide_false, ne_eq, reduceCtorEq])
        refine hBd.ld fun cs1 h1 => ?_
        refine hCd.ld fun cs2 h2 => ?_
        refine differs_ref h1 h2 (fun _ => hl) (fun _ => hl') fun w5 hx5 => ?_
        simp only [wsv, wsg, wsh, wsl, cond_true, cond_false, exists_eq_left', Option.some.injEq, Option.isSome_some, List.getElem?_toArray, List.getElem?_cons_zero, List.getElem?_cons_succ, List.length_cons, List.length_nil, List.set_cons_zero, List.set_cons_succ, List.getD_cons_zero, List.getD_cons_succ, Nat.zero_add, Nat.add_zero, Nat.reduceAdd, Nat.reduceLT, Nat.lt_add_one, Nat.zero_lt_succ, decide_true, decide_false, ne_eq, reduceCtorEq, condW_b]
        refine ⟨fun hd => ?_, fun hd => ?_⟩
        · refine row_s fun t6 w6 ht6 hx6 => ?_
          refine append_own2 elem_s ((hOd.ext hx5).ext hx6) ht6 (m := 1) rfl (fun u hu => by simp only [List.mem_singleton] at hu; subst hu; rfl) (by omega) (by omega) (by have := hx5.size; have := hx6.size; omega) fun v' w' h' hc _ => ?_
          refine ⟨v', l ++ [kk], rfl, by rw [if_pos hd], ?_, by simpa using h'⟩
          refine ((hxd.trans hx5).trans hx6).then hc fun k hk e => ?_
          have := (own_ge ((hOd.ext hx5).ext hx6) e).1; omega
        · exact ⟨v, l, rfl, by rw [if_neg (by rw [hd]; simp)], hxd.trans hx5, hOd.ext hx5⟩
      · rintro s gd w5 ⟨v5, l5, rfl, hl5, hx5, hO5⟩
        have hB5 := hB.ext hx5
        have hC5 := hC.ext hx5
        have hlen5 : l5.length ≤ i + j + 1 := by rw [hl5]; split <;> (first | omega | (simp; omega))
        refine JoinW.cut (fun s w' => s = [i64 ((if a.ks[i]? = some kk then i + 1 else i : Nat) : Int)] ∧ w' = w5) ?_ ?_
        · simp only [wsv, wsg, wsh, wsl, cond_true, cond_false, exists_eq_left', Option.some.injEq, Option.isSome_some, List.getElem?_toArray, List.getElem?_cons_zero, List.getElem?_cons_succ, List.length_cons, List.length_nil, List.set_cons_zero, List.set_cons_succ, List.getD_cons_zero, List.getD_cons_succ, Nat.zero_add, Nat.add_zero, Nat.reduceAdd, Nat.reduceLT, Nat.lt_add_one, Nat.zero_lt_succ, decide_true, decide_false, ne_eq, reduceCtorEq, wsh, hB5.hb, hB5.lenk]
          refine GdW.look (decide (a.ks[i]? = some kk)) ?_ ?_
          · intro hc J hJ
            have hil : i < a.ks.length := by simp only [decide_eq_true_eq] at hc; omega
            obtain ⟨u, hu⟩ : ∃ u, a.ks[i]? = some u := ⟨_, List.getElem?_eq_getElem hil⟩
            refine hB5.key hu ?_
            simp only [wsv, wsg, wsh, wsl, cond_true, cond_false, exists_eq_left', Option.some.injEq, Option.isSome_some, List.getElem?_toArray, List.getElem?_cons_zero, List.getElem?_cons_succ, List.length_cons, List.length_nil, List.set_cons_zero, List.set_cons_succ, List.getD_cons_zero, List.getD_cons_succ, Nat.zero_add, Nat.add_zero, Nat.reduceAdd, Nat.reduceLT, Nat.lt_add_one, Nat.zero_lt_succ, decide_true, decide_false, ne_eq, reduceCtorEq]
            have : decide (u = kk) = decide (a.ks[i]? = some kk) := decide_eq_decide.2 (by rw [hu, Option.some.injEq])
            rw [this]; exact hJ
          · intro gd
            simp only [wsv, wsg, wsh, wsl, cond_true, cond_false, exists_eq_left', Option.some.injEq, Option.isSome_some, List.getElem?_toArray, List.getElem?_cons_zero, List.getElem?_cons_succ, List.length_cons, List.length_nil, List.set_cons_zero, List.set_cons_succ, List.getD_cons_zero, List.getD_cons_succ, Nat.zero_add, Nat.add_zero, Nat.reduceAdd, Nat.reduceLT, Nat.lt_add_one, Nat.zero_lt_succ, decide_true, decide_false, ne_eq, reduceCtorEq, condW_b]
            refine ⟨fun hc => ?_, fun hc => ?_⟩
            · simp only [Bool.and_eq_true, decide_eq_true_eq] at hc
              rw [if_pos hc.2, up1 (by omega)]
            · have : ¬ a.ks[i]? = some kk := fun e => by
                have h1 := (List.getElem?_eq_some_iff.1 e).1
                rw [e, decide_eq_true (show ((i : Int) < (a.ks.length : Int)) by omega)] at hc
                simp at hc
              rw [if_neg this]
        · rintro s gd w6 ⟨rfl, rfl⟩
          have hi'' : (if a.ks[i]? = some kk then i + 1 else i) ≤ a.ks.length := by
            split
            · rename_i h; have := (List.getElem?_eq_some_iff.1 h).1; omega
            · omega
          have hj'' : (if b.ks[j]? = some kk then j + 1 else j) ≤ b.ks.length := by
            split
            · rename_i h; have := (List.getElem?_eq_some_iff.1 h).1; omega
            · omega
          have hmov : a.ks[i]? = some kk ∨ b.ks[j]? = some kk := by
            cases h1 : a.ks.drop i with
            | nil =>
              cases h2 : b.ks.drop j with
              | nil => rw [h1, h2] at hkk; simp [selK] at hkk
              | cons q r =>
                rw [h1, h2] at hkk
                simp only [selK, Option.some.injEq] at hkk
                right; rw [← List.head?_drop, h2, ← hkk]; rfl
            | cons p r =>
              cases h2 : b.ks.drop j with
              | nil =>
                rw [h1, h2] at hkk
                simp only [selK, Option.some.injEq] at hkk
                left; rw [← List.head?_drop, h1, ← hkk]; rfl
              | cons q r' =>
                rw [h1, h2] at hkk
                simp only [selK] at hkk
                split at hkk
                · left; rw [← List.head?_drop, h1, ← hkk]; rfl
                · right; rw [← List.head?_drop, h2, ← hkk]; rfl
          have hfin : (mrg a.ks b.ks).filter (differsM a b) = l5 ++ (mrg (a.ks.drop (if a.ks[i]? = some kk then i + 1 else i)) (b.ks.drop (if b.ks[j]? = some kk then j + 1 else j))).filter (differsM a b) := by
            rw [hl3, hm]
            have e1 : (if a.ks[i]? = some kk then a.ks.drop (i + 1) else a.ks.drop i) = a.ks.drop (if a.ks[i]? = some kk then i + 1 else i) := by split <;> rfl
            have e2 : (if b.ks[j]? = some kk then b.ks.drop (j + 1) else b.ks.drop j) = b.ks.drop (if b.ks[j]? = some kk then j + 1 else j) := by split <;> rfl
            rw [e1, e2, hl5, List.filter_cons]
            split <;> simp
          generalize hii : (if a.ks[i]? = some kk then i + 1 else i) = i' at *
          have hii1 : i ≤ i' := by rw [← hii]; split <;> omega
          simp only [wsv, wsg, wsh, wsl, cond_true, cond_false, exists_eq_left', Option.some.injEq, Option.isSome_some, List.getElem?_toArray, List.getElem?_cons_zero, List.getElem?_cons_succ, List.length_cons, List.length_nil, List.set_cons_zero, List.set_cons_succ, List.getD_cons_zero, List.getD_cons_succ, Nat.zero_add, Nat.add_zero, Nat.reduceAdd, Nat.reduceLT, Nat.lt_add_one, Nat.zero_lt_succ, decide_true, decide_false, ne_eq, reduceCtorEq, wsh, hC5.hb, hC5.lenk]
          refine GdW.look (decide (b.ks[j]? = some kk)) ?_ ?_
          · intro hc J hJ
            have hjl : j < b.ks.length := by simp only [decide_eq_true_eq] at hc; omega
            obtain ⟨u, hu⟩ : ∃ u, b.ks[j]? = some u := ⟨_, List.getElem?_eq_getElem hjl⟩
            refine hC5.key hu ?_
            simp only [wsv, wsg, wsh, wsl, cond_true, cond_false, exists_eq_left', Option.some.injEq, Option.isSome_some, List.getElem?_toArray, List.getElem?_cons_zero, List.getElem?_cons_succ, List.length_cons, List.length_nil, List.set_cons_zero, List.set_cons_succ, List.getD_cons_zero, List.getD_cons_succ, Nat.zero_add, Nat.add_zero, Nat.reduceAdd, Nat.reduceLT, Nat.lt_add_one, Nat.zero_lt_succ, decide_true, decide_false, ne_eq, reduceCtorEq]
            have : decide (u = kk) = decide (b.ks[j]? = some kk) := decide_eq_decide.2 (by rw [hu, Option.some.injEq])
            rw [this]; exact hJ
          · intro gd
            simp only [wsv, wsg, wsh, wsl, cond_true, cond_false, exists_eq_left', Option.some.injEq, Option.isSome_some, List.getElem?_toArray, List.getElem?_cons_zero, List.getElem?_cons_succ, List.length_cons, List.length_nil, List.set_cons_zero, List.set_cons_succ, List.getD_cons_zero, List.getD_cons_succ, Nat.zero_add, Nat.add_zero, Nat.reduceAdd, Nat.reduceLT, Nat.lt_add_one, Nat.zero_lt_succ, decide_true, decide_false, ne_eq, reduceCtorEq, condW_b]
            refine ⟨fun hc => ?_, fun hc => ?_⟩
            · simp only [Bool.and_eq_true, decide_eq_true_eq] at hc
              rw [if_pos hc.2] at hj'' hfin
              rw [up1 (by omega)]
              refine ⟨⟨i', j + 1, v5, l5, hi'', hj'', rfl, hx5, hO5, by omega, hfin⟩, ?_⟩
              simp only [Int.toNat_natCast]; omega
            · have hnb : ¬ b.ks[j]? = some kk := fun e => by
                have h1 := (List.getElem?_eq_some_iff.1 e).1
                rw [e, decide_eq_true (show ((j : Int) < (b.ks.length : Int)) by omega)] at hc
                simp at hc
              rw [if_neg hnb] at hj'' hfin
              have hi1 : i' = i + 1 := by rw [← hii, if_pos (hmov.resolve_right hnb)]
              refine ⟨⟨i', j, v5, l5, hi'', hj'', rfl, hx5, hO5, by omega, hfin⟩, ?_⟩
              simp only [Int.toNat_natCast]; omega
  · have hi' : i = a.ks.length := by simp only [Bool.or_eq_false_iff, decide_eq_false_iff_not] at hend; omega
    have hj' : j = b.ks.length := by simp only [Bool.or_eq_false_iff, decide_eq_false_iff_not] at hend; omega
    rw [hi', hj', List.drop_length, List.drop_length] at hl3
    simp only [mrg, List.filter_nil, List.append_nil] at hl3
    have := hK v w3 (hx.trans hx3)
    rw [hl3] at this
    exact this hO.sl

theorem any_take {α : Type} {p : α → Bool} {xs : List α} {i : Nat} {x : α} (hi : xs[i]? = some x) : (xs.take (i + 1)).any p = ((xs.take i).any p || p x) := by
  rw [List.take_add_one, hi]; simp
theorem any_yes {α : Type} {p : α → Bool} {xs : List α} {i : Nat} {x : α} (hi : xs[i]? = some x) (h : p x = true) : xs.any p = true := List.any_eq_true.2 ⟨x, List.mem_of_getElem? hi, h⟩
theorem choose_ref {there swap : Bool} {a b : JV} {cs ds : List Value} {w : World} {K : Value → World → Prop} (h : VRep w a cs) (h' : VRep w b ds) (ka : a.k = 6) (kb : b.k = 6) (hl : a.ks.length = a.xs.length) (hl' : b.ks.length = b.xs.length) (hfa : a.ks.length ≤ 100000) (hfb : b.ks.length ≤ 100000)
    (hml : ((mrg a.ks b.ks).filter (differsM a b)).length ≤ 1000000)
    (hK : ∀ w', Ext w w' → K (i64 (chooseM there ((mrg a.ks b.ks).filter (differsM a b)) swap)) w') : callF Tryz.prog 15 [.bool there, .agg cs.toArray, .agg ds.toArray, .bool swap] w K := by
  refine W15_ok ?_
  unfold W15
  refine box_val h fun x w1 sv kv hB hx _ => ?_
  refine box_val (h'.ext hx) fun y w2 sv' kv' hC hx2 _ => ?_
  have hB := hB.ext hx2
  have hx := hx.trans hx2
  clear hx2
  simp only [wsv, wsg, wsh, wsl, cond_true, cond_false, exists_eq_left', Option.some.injEq, Option.isSome_some, List.getElem?_toArray, List.getElem?_cons_zero, List.getElem?_cons_succ, List.length_cons, List.length_nil, List.set_cons_zero, List.set_cons_succ, List.getD_cons_zero, List.getD_cons_succ, Nat.zero_add, Nat.add_zero, Nat.reduceAdd, Nat.reduceLT, Nat.lt_add_one, Nat.zero_lt_succ, decide_true, decide_false, ne_eq, reduceCtorEq, condW_b]
  refine ⟨fun hn => ?_, fun hy => ?_⟩
  · have : there = false := by simpa using hn
    subst this
    exact hK w2 hx
  · have : there = true := by simpa using hy
    subst this
    refine hB.ld fun cs1 h1 => ?_
    refine hC.ld fun cs2 h2 => ?_
    refine keys_ref h1 h2 ka kb hl hl' hfa hfb fun v w3 hx3 hs => ?_
    generalize (mrg a.ks b.ks).filter (differsM a b) = l at *
    rw [lenl_at hs]
    simp only [wsv, wsg, wsh, wsl, cond_true, cond_false, exists_eq_left', Option.some.injEq, Option.isSome_some, List.getElem?_toArray, List.getElem?_cons_zero, List.getElem?_cons_succ, List.length_cons, List.length_nil, List.set_cons_zero, List.set_cons_succ, List.getD_cons_zero, List.getD_cons_succ, Nat.zero_add, Nat.add_zero, Nat.reduceAdd, Nat.reduceLT, Nat.lt_add_one, Nat.zero_lt_succ, decide_true, decide_false, ne_eq, reduceCtorEq, condW_dec]
    refine ⟨fun h0 => ?_, fun hne => ?_⟩
    · have : l = [] := List.eq_nil_of_length_eq_zero (by omega)
      subst this
      exact hK w3 (hx.trans hx3)
    · have hne : l ≠ [] := by rintro rfl; simp at hne
      rw [lenl_at hs]
      refine loop_up l.length (fun i w' => Ext w3 w' ∧ (l.take i).any forcesM = false) ⟨Chg.refl _ _, by simp⟩ ?_ ?_
      · rintro i w4 g L hi ⟨hx4, hno⟩ hL
        obtain ⟨u, hu⟩ : ∃ u, l[i]? = some u := ⟨_, List.getElem?_eq_getElem hi⟩
        have hlt : ((i : Int) < (l.length : Int)) := by omega
        simp only [wsv, wsg, wsh, wsl, cond_true, cond_false, exists_eq_left', Option.some.injEq, Option.isSome_some, List.getElem?_toArray, List.getElem?_cons_zero, List.getElem?_cons_succ, List.length_cons, List.length_nil, List.set_cons_zero, List.set_cons_succ, List.getD_cons_zero, List.getD_cons_succ, Nat.zero_add, Nat.add_zero, Nat.reduceAdd, Nat.reduceLT, Nat.lt_add_one, Nat.zero_lt_succ, decide_true, decide_false, ne_eq, reduceCtorEq, hlt]
        refine text_ld (hs.ext hx4) hu ?_
        refine forces_ref ?_
        rw [condW_b]
        refine ⟨fun hf => ?_, fun hf => ?_⟩
        · have := hK w4 (hx.trans (hx3.trans hx4))
          unfold chooseM at this
          rw [if_pos rfl, if_neg hne, if_pos (any_yes hu hf)] at this
          refine ⟨fun hs => ?_, fun hs => ?_⟩
          · rw [if_pos hs] at this; exact this
          · rw [if_neg (by rw [hs]; simp)] at this; exact this
        · rw [up1 (by omega)]
          exact hL w4 ⟨hx4, by rw [any_take hu, hno, hf]; rfl⟩
      · rintro w4 g L ⟨hx4, hno⟩
        simp only [wsv, wsg, wsh, wsl, cond_true, cond_false, exists_eq_left', Option.some.injEq, Option.isSome_some, List.getElem?_toArray, List.getElem?_cons_zero, List.getElem?_cons_succ, List.length_cons, List.length_nil, List.set_cons_zero, List.set_cons_succ, List.getD_cons_zero, List.getD_cons_succ, Nat.zero_add, Nat.add_zero, Nat.reduceAdd, Nat.reduceLT, Nat.lt_add_one, Nat.zero_lt_succ, decide_true, decide_false, ne_eq, reduceCtorEq, Int.lt_irrefl]
        rw [List.take_length] at hno
        have := hK w4 (hx.trans (hx3.trans hx4))
        unfold chooseM at this
        rw [if_pos rfl, if_neg hne, if_neg (by rw [hno]; simp)] at this
        exact this
end
end Go.Proofs.YtonblcbpoilndaaGreatDoor
