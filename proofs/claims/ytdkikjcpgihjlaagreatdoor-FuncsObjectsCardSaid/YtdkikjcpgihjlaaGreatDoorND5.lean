/- One plain sentence: weakest preconditions, contracts and plain laws that the claim rests on, text behind text. Conditions: those that each states. -/
import Derived.Test.YtdkikjcpgihjlaaGreatDoorND4
import Derived.Test.YtdkikjcpgihjlaaGreatDoorND1
import Derived.Deep.Slices
import Derived.DataReads
import Derived.ChangeArms
import Derived.Test.YtdkikjcpgihjlaaGreatDoorND3
import Derived.OpenShut
import Derived.Test.YtdkikjcpgihjlaaGreatDoorRows
import Derived.Below
import Derived.RowKit
import Derived.ChangeMaps5
import Derived.MakeChecks
import Derived.Lib.LaidTab
import Derived.Lib.LaidU8
import Derived.SizedLaws
import Derived.Shelf.Vars
set_option linter.all false
set_option linter.unusedSimpArgs false
set_option linter.unusedVariables false
set_option linter.unusedSectionVars false
namespace Go.Proofs.YtdkikjcpgihjlaaGreatDoor
open Go Go.Eng Go.Num Go.RowKit
set_option maxRecDepth 100000
theorem call_do {name : Str} {a : List JV} {f : FnM} {v : JV} (hl : lookF fnT name = some f) (hg : ∀ x ∈ a, goodM x = true) (hk : ∀ x ∈ a, knownM x = true) (hf : fitsM f a = true) (ha : f.act a = some v) (hv : goodM v = true) : callM name a = (v, 0) := by
  unfold callM
  rw [if_neg (by rw [List.any_eq_false.2 fun x hx => by simp [hg x hx]]; simp), hl]
  simp only
  rw [if_neg (by rw [List.any_eq_false.2 fun x hx => by simp [hk x hx]]; simp), if_neg (by rw [hf]; simp), ha]
  simp only
  rw [if_pos hv]
theorem good_of {v : JV} (hd : deepM v 24 = true) (hc : cntM v ≤ 2000) (hp : plainM v = true) : goodM v = true := by
  have := (size_cnt 24 (Nat.le_refl _) v hd).2 (by omega)
  unfold goodM
  rw [hd, hp, decide_eq_true (by omega)]; rfl
theorem cnt_eq (v : JV) : cntM v = 1 + cntL v.xs := by cases v; simp only [cntM, JV.xs]
theorem goodv_cnt {v : JV} (h : goodM v = true) : cntM v ≤ 2000 := by
  simp only [goodM, Bool.and_eq_true, decide_eq_true_eq] at h
  have := (size_cnt 24 (Nat.le_refl _) v h.1.2).1 h.1.1
  omega
theorem good_vals {v : JV} (h : goodM v = true) : goodM (lV v.xs) = true := by
  have hc := goodv_cnt h
  have hg := h
  simp only [goodM, Bool.and_eq_true, decide_eq_true_eq] at hg
  have hp := hg.2
  rw [plainM_eq, Bool.and_eq_true] at hp
  refine good_of ?_ (by rw [cnt_eq] at hc ⊢; exact hc) ?_
  · have hd := hg.1.2
    rw [show (24 : Nat) = 23 + 1 from rfl, deepM_succ] at hd ⊢
    exact hd
  · rw [plainM_eq, Bool.and_eq_true]
    exact ⟨by simp [headOk, JV.k, JV.b, JV.t, JV.ks, keysOk], hp.2⟩
theorem cnt_texts : ∀ ks : List Str, cntL (ks.map tV) = ks.length
  | [] => rfl
  | k :: ks => by simp only [List.map_cons, cntL, cnt_texts ks, List.length_cons, cntM]; omega
theorem good_text {s : Str} (h : s.length ≤ 16384) : goodM (tV s) = true := by
  refine good_of rfl (by show cntM (tV s) ≤ 2000; rw [cnt_eq]; simp [cntL, JV.xs]) ?_
  rw [plainM_eq]
  simp [headOk, JV.k, JV.b, JV.t, JV.ks, JV.xs, keysOk, plainL, h]
theorem good_keys {ks : List Str} (hl : ks.length ≤ 1999) (hk : ∀ k ∈ ks, k.length ≤ 16384) : goodM (lV (ks.map tV)) = true := by
  refine good_of ?_ (by rw [cnt_eq]; show 1 + cntL (ks.map tV) ≤ 2000; rw [cnt_texts]; omega) ?_
  · rw [show (24 : Nat) = 23 + 1 from rfl, deepM_succ, deepL_all]
    simp only [JV.xs, List.all_map, List.all_eq_true]
    intro k _
    rfl
  · rw [plainM_eq, Bool.and_eq_true, plainL_all]
    refine ⟨by simp [headOk, JV.k, JV.b, JV.t, JV.ks, keysOk], ?_⟩
    simp only [JV.xs, List.all_map, List.all_eq_true]
    intro k hkm
    have := good_text (hk k hkm)
    simp only [goodM, Bool.and_eq_true] at this
    exact this.2
theorem obj_eq {v : JV} (h : GoodV v) (h6 : v.k = 6) : v = mkO (v.ks.zip v.xs) := by
  have hl := h.lens.2.2.1 h6
  have hp := h.plain
  rw [plainM_eq, Bool.and_eq_true] at hp
  obtain ⟨_, _, h3, h4, _⟩ := headOk_out hp.1
  have eb : v.b = false := by
    cases hb : v.b with
    | false => rfl
    | true => have := h3 hb; omega
  have et : v.t = [] := Classical.byContradiction fun e => by rcases h4 e with k | k <;> omega
  have e1 : (v.ks.zip v.xs).map (·.1) = v.ks := List.map_fst_zip (by omega)
  have e2 : (v.ks.zip v.xs).map (·.2) = v.xs := List.map_snd_zip (by omega)
  unfold mkO
  rw [e1, e2, ← h6, ← eb, ← et]
  exact v.eta
theorem puts_app : ∀ (l2 l1 : List (Str × JV)), Rise ((l1 ++ l2).map (·.1)) → putsM (mkO l1) l2 = mkO (l1 ++ l2)
  | [], l1, _ => by simp [putsM]
  | (k, x) :: l2, l1, h => by
    haveI : HX := noX
    have e : l1 ++ (k, x) :: l2 = (l1 ++ [(k, x)]) ++ l2 := by simp
    have hless : ∀ p ∈ l1, Op.bytesLess p.1 k = true := fun p hp => by
      rw [List.map_append, Rise, List.pairwise_append] at h
      exact h.2.2 p.1 (List.mem_map.2 ⟨p, hp, rfl⟩) k (by simp)
    have hno : k ∉ l1.map (·.1) := fun hm => by
      obtain ⟨p, hp, e⟩ := List.mem_map.1 hm
      have := hless p hp
      rw [e, less_irr] at this; cases this
    show putsM (putM (mkO l1) k x) l2 = _
    rw [put_mkO hno, insP_last hless, e]
    exact puts_app l2 _ (by rw [← e]; exact h)
theorem puts_same {l : List (Str × JV)} (hr : Rise (l.map (·.1))) : ∀ l2 : List (Str × JV), (∀ p ∈ l2, p ∈ l) → putsM (mkO l) l2 = mkO l
  | [], _ => rfl
  | (k, x) :: l2, h => by
    haveI : HX := noX
    obtain ⟨i, hi⟩ := List.getElem?_of_mem (h (k, x) (by simp))
    show putsM (putM (mkO l) k x) l2 = _
    have hik : (l.map (·.1))[i]? = some k := by rw [List.getElem?_map, hi]; rfl
    rw [putM_set hr hik]
    have : l.set i (k, x) = l := by
      have hil := (List.getElem?_eq_some_iff.1 hi).1
      have he := (List.getElem?_eq_some_iff.1 hi).2
      rw [← he, List.set_getElem_self]
    rw [this]
    exact puts_same hr l2 fun p hp => h p (List.mem_cons_of_mem _ hp)
theorem merge_same {v : JV} (h : GoodV v) (h6 : v.k = 6) : mergeM [v, v, mkO []] = v := by
  haveI : HX := noX
  have he := obj_eq h h6
  have hl := h.lens.2.2.1 h6
  have hr := keysOk_rise h.lens.2.2.2.1
  have e1 : (v.ks.zip v.xs).map (·.1) = v.ks := List.map_fst_zip (by omega)
  rw [merge_eq]
  have hp : pairsL [v, v, mkO []] = v.ks.zip v.xs ++ v.ks.zip v.xs := by simp [pairsL, mkO, JV.ks, JV.xs]
  rw [hp]
  unfold putsM
  rw [List.foldl_append]
  have a1 := puts_app (v.ks.zip v.xs) [] (by rw [List.nil_append, e1]; exact hr)
  have a2 := puts_same (l := v.ks.zip v.xs) (by rw [e1]; exact hr) (v.ks.zip v.xs) fun p hp => hp
  unfold putsM at a1 a2
  rw [a1, List.nil_append, a2]
  exact he.symm
theorem get_here {v x : JV} {k : Str} {i : Nat} (h : GoodV v) (h6 : v.k = 6) (hk : v.ks[i]? = some k) (hx : v.xs[i]? = some x) : getM v k = some x := by
  have hr := keysOk_rise h.lens.2.2.2.1
  have hi : idxK v.ks k = some i := by
    cases hq : idxK v.ks k with
    | none => exact absurd (List.mem_of_getElem? hk) (idxK_none.1 hq)
    | some j =>
      have h1 := idxK_spec hq
      rcases Nat.lt_trichotomy j i with e | e | e
      · have := rise_lt hr h1 hk e; rw [less_irr] at this; cases this
      · rw [e]
      · have := rise_lt hr hk h1 e; rw [less_irr] at this; cases this
  unfold getM
  rw [if_pos h6, hi]
  exact hx
theorem items_ix {w : World} {sv : Value} {xs : List JV} {i : Nat} {x : JV} (h : ItemsAt w sv xs) (hi : xs[i]? = some x) : ∃ (b o : Nat) (c : Array Value) (T : TypeId) (fr : Nat × Nat) (cs : List Value),
    (∀ K : Value → Prop, K (.pointer (some ⟨b, o, none⟩)) → ixaW none 5 sv (i64 (i : Nat)) K) ∧ w.heap[b]? = some (.cells c T fr) ∧ VRep w x cs ∧ ∀ j, j < 5 → c[o + j]? = cs[j]? := by
  obtain ⟨T, L, h1, h2⟩ := h.it
  obtain ⟨cs, hc, hg⟩ := h2.get hi
  have hL := h2.len
  have hil := (List.getElem?_eq_some_iff.1 hi).1
  obtain ⟨p, cap, rfl, hcap, hp, hcells⟩ := h1
  obtain ⟨b, off, c, fr, rfl, hb, hcs⟩ := hcells (fun e => by rw [e] at hL; simp at hL; omega)
  refine ⟨b, off + i * 5, c, T, fr, cs, fun K hK => ?_, hb, hc, fun j hj => ?_⟩
  · rw [ixa_slice]
    refine ⟨by omega, by omega, ?_⟩
    rw [add_mk, Int.toNat_natCast]
    exact hK
  · have : (i + 1) * 5 ≤ xs.length * 5 := Nat.mul_le_mul_right _ hil
    rw [← hg j hj, ← hcs (i * 5 + j) (by omega)]
    congr 1; omega
theorem texts_ix {w : World} {T : TypeId} {kv : Value} {ks : List Str} {i : Nat} {x : Str} (h : SlAt w T kv ks.length (ks.map str)) (hi : ks[i]? = some x) : ∃ (b o : Nat), (∀ K : Value → Prop, K (.pointer (some ⟨b, o, none⟩)) → ixaW none 1 kv (i64 (i : Nat)) K) ∧
    ∀ w', Ext w w' → w'.cell? ⟨b, o, none⟩ = some (str x) := by
  have hil := (List.getElem?_eq_some_iff.1 hi).1
  obtain ⟨p, cap, rfl, hcap, hp, hcells⟩ := h
  obtain ⟨b, off, c, fr, rfl, hb, hcs⟩ := hcells (fun e => by have := congrArg List.length e; simp at this; rw [this] at hil; simp at hil)
  refine ⟨b, off + i, fun K hK => ?_, fun w' hx => ?_⟩
  · rw [ixa_slice]
    refine ⟨by omega, by omega, ?_⟩
    rw [add_mk, Int.toNat_natCast, Nat.mul_one]
    exact hK
  · rw [cell_eq, hx.at hb id, cellO_some, hcs i (by simpa using hil), List.getElem?_map, hi]; rfl
theorem frow_v3 {u v z : JV} {cs ds es : List Value} {w : World} {K : Value → World → Prop} (h1 : VRep w u cs) (h2 : VRep w v ds) (h3 : VRep w z es) (hK : ∀ t w', ItemsAt w' t [u, v, z] → Ext w w' → inG (From w.heap.size) t → K t w') :
    bslW VT 3 (zr5 ++ (zr5 ++ zr5)) [(0, 5, .agg cs.toArray), (5, 5, .agg ds.toArray), (10, 5, .agg es.toArray)] w K := by
  unfold bslW
  have l1 := h1.len
  have l2 := h2.len
  have l3 := h3.len
  have hp : ∀ K : List Value → Prop, K (cs ++ (ds ++ es)) → putW (zr5 ++ (zr5 ++ zr5)) [(0, 5, .agg cs.toArray), (5, 5, .agg ds.toArray), (10, 5, .agg es.toArray)] K := by
    intro K hK
    match cs, l1, ds, l2, es, l3 with
    | [c0, c1, c2, c3, c4], _, [d0, d1, d2, d3, d4], _, [e0, e1, e2, e3, e4], _ =>
      refine ⟨rfl, by simp, ⟨rfl, by simp [Value.cells], ⟨rfl, by simp [Value.cells], ?_⟩⟩⟩
      exact hK
  refine hp _ ?_
  have hx : Ext w (w.alloc (.cells (cs ++ (ds ++ es)).toArray VT)) := Chg.alloc (Chg.refl _ _) _
  refine hK _ _ ⟨⟨VT, cs ++ (ds ++ (es ++ [])), ?_, ?_⟩, by simp⟩ hx (fun q hq => by cases hq; exact Nat.le_refl _)
  · rw [List.append_nil]
    exact (own_new (w := w) (base := w.heap.size) (e := VT) (size := 5) (n := 3) (cs := cs ++ (ds ++ es)) (Nat.le_refl _) (by rw [List.length_append, List.length_append]; omega) (by omega)).sl
  · simp only [VReps]
    exact ⟨cs, ds ++ (es ++ []), rfl, h1.ext hx, ds, es ++ [], rfl, h2.ext hx, es, [], rfl, h3.ext hx, rfl⟩
theorem call_keys {v : JV} (hg : goodM v = true) (hk : knownM v = true) (h6 : v.k = 6) : callM [107, 101, 121, 115] [v] = (lV (v.ks.map tV), 0) := by
  have hl := (good_v hg).lens
  have hx := good_items hg
  have hc := goodv_cnt hg
  have hci := cnt_items v
  refine call_do (f := fn_keys) rfl (fun x hx => by simp at hx; rw [hx]; exact hg) (fun x hx => by simp at hx; rw [hx]; exact hk) ?_ rfl (good_keys (by have := hl.2.2.1 h6; omega) (keysOk_len hl.2.2.2.1))
  cases v with
  | mk k b t xs ks =>
    have h6 : k = 6 := h6
    subst h6
    rfl
theorem call_values {v : JV} (hg : goodM v = true) (hk : knownM v = true) (h6 : v.k = 6) : callM [118, 97, 108, 117, 101, 115] [v] = (lV v.xs, 0) := by
  refine call_do (f := fn_values) rfl (fun x hx => by simp at hx; rw [hx]; exact hg) (fun x hx => by simp at hx; rw [hx]; exact hk) ?_ rfl (good_vals hg)
  cases v with
  | mk k b t xs ks =>
    have h6 : k = 6 := h6
    subst h6
    rfl
theorem call_merge {v : JV} (hg : goodM v = true) (hk : knownM v = true) (h6 : v.k = 6) : callM [109, 101, 114, 103, 101] [v, v, mkO []] = (v, 0) := by
  have hall : ∀ x ∈ [v, v, mkO []], x = v ∨ x = mkO [] := fun x hx => by simp at hx; exact hx
  refine call_do (f := fn_merge) rfl (fun x hx => by rcases hall x hx with rfl | rfl; exact hg; rfl) (fun x hx => by rcases hall x hx with rfl | rfl; exact hk; rfl) ?_ ?_ hg
  · cases v with
    | mk k b t xs ks =>
      have h6 : k = 6 := h6
      subst h6
      rfl
  · show some (mergeM [v, v, mkO []]) = some v
    rw [merge_same (good_v hg) h6]
theorem call_lookup {v x : JV} {key : Str} (hg : goodM v = true) (hk : knownM v = true) (h6 : v.k = 6) (hgx : goodM x = true) (hkx : knownM x = true) (hkey : key.length ≤ 16384) (hr : goodM ((getM v key).getD x) = true) :
    callM [108, 111, 111, 107, 117, 112] [v, tV key, x] = ((getM v key).getD x, 0) := by
  refine call_do (f := fn_lookup) rfl (fun y hy => ?_) (fun y hy => ?_) ?_ rfl hr
  · simp only [List.mem_cons, List.not_mem_nil, or_false] at hy
    rcases hy with rfl | rfl | rfl
    · exact hg
    · exact good_text hkey
    · exact hgx
  · simp only [List.mem_cons, List.not_mem_nil, or_false] at hy
    rcases hy with rfl | rfl | rfl
    · exact hk
    · rw [knw_eq]; rfl
    · exact hkx
  · cases v with
    | mk k b t xs ks =>
      have h6 : k = 6 := h6
      subst h6
      rfl
theorem deep_mono : ∀ {m : Nat} {v : JV}, deepM v m = true → deepM v (m + 1) = true
  | 0, v, h => by rw [deepM_zero] at h; cases h
  | m + 1, v, h => by
    rw [deepM_succ, deepL_all, List.all_eq_true] at h ⊢
    exact fun x hx => deep_mono (h x hx)
theorem good_item {v x : JV} (hg : goodM v = true) (hx : x ∈ v.xs) : goodM x = true := by
  have hgv := hg
  simp only [goodM, Bool.and_eq_true, decide_eq_true_eq] at hgv
  have hd := hgv.1.2
  rw [show (24 : Nat) = 23 + 1 from rfl, deepM_succ, deepL_all, List.all_eq_true] at hd
  have hp := ((good_v hg).item hx).plain
  have hc := goodv_cnt hg
  rw [cnt_eq] at hc
  have hcx : cntM x ≤ cntL v.xs := by
    have : ∀ xs : List JV, x ∈ xs → cntM x ≤ cntL xs := fun xs => by
      induction xs with
      | nil => intro h; cases h
      | cons y xs ih =>
        intro h
        simp only [cntL]
        rcases List.mem_cons.1 h with rfl | h
        · omega
        · have := ih h; omega
    exact this _ hx
  refine good_of (deep_mono (hd x hx)) (by omega) hp
section
variable [HX]
theorem fobjects_true {v x : JV} {cv cx : List Value} {key : Str} {w : World} {K : Value → World → Prop} (hT : TabF w) (h : VRep w v cv) (hx : VRep w x cx) (hkl : key.length ≤ 9223372036854775807) (hK : ∀ w', Ext w w' → K (.bool true) w') :
    callF Tryz.prog 6 [.agg cv.toArray, .agg cx.toArray, str key] w K := by
  refine W6_ok ?_
  unfold W6
  refine box_val h fun a3 w1 sv kv hB hx1 _ => ?_
  refine box_val (hx.ext hx1) fun a4 w2 sx kx hC hx2 _ => ?_
  have hB2 := hB.ext hx2
  have hx02 := hx1.trans hx2
  refine fawake (hT.ext hx02) fun w3 hx3 => ?_
  rw [un_not, Bool.not_true, condW_false]
  have hB3 := hB2.ext hx3
  have hC3 := hC.ext hx3
  have hx03 := hx02.trans hx3
  rw [fld_ptr, ld_one]
  refine ⟨i64 v.k, by rw [add_mk, cell_eq, hB3.hb]; rfl, ?_⟩
  rw [bin_neq]
  simp only [isB_f]
  refine GdW.act (!goodM v) (fun w' => Ext w3 w') (fun _ => Chg.refl _ _) (fun _ J hJ => ?_) fun g6 w6 hx6 => ?_
  · refine hB3.ld fun cs hcs => ?_
    refine good_ref hcs fun w5 hx5 => ?_
    rw [un_not]
    exact hJ w5 hx5
  simp only [List.getD_cons_zero, isB_f, pick_gd_or]
  refine GdW.act (!goodM x) (fun w' => Ext w3 w') (fun _ => hx6) (fun _ J hJ => ?_) fun g9 w9 hx9 => ?_
  · refine (hC3.ext hx6).ld fun cs hcs => ?_
    refine good_ref hcs fun w5 hx5 => ?_
    rw [un_not]
    exact hJ w5 (hx6.trans hx5)
  simp only [List.getD_cons_zero, isB_f, pick_gd_or]
  refine GdW.act (!knownM v) (fun w' => Ext w3 w') (fun _ => hx9) (fun _ J hJ => ?_) fun g12 w12 hx12 => ?_
  · refine (hB3.ext hx9).ld fun cs hcs => ?_
    refine known_ref _ hcs fun w5 hx5 => ?_
    rw [un_not]
    exact hJ w5 (hx9.trans hx5)
  simp only [List.getD_cons_zero, isB_f, pick_gd_or]
  refine GdW.act (!knownM x) (fun w' => Ext w3 w') (fun _ => hx12) (fun _ J hJ => ?_) fun g15 w15 hx15 => ?_
  · refine (hC3.ext hx12).ld fun cs hcs => ?_
    refine known_ref _ hcs fun w5 hx5 => ?_
    rw [un_not]
    exact hJ w5 (hx12.trans hx5)
  simp only [List.getD_cons_zero, isB_f, pick_gd_or, lens_str, bin_gtr, GdW_pure]
  intro g17
  rw [condW_b]
  refine ⟨fun _ => hK w15 (hx03.trans hx15), fun hok => ?_⟩
  simp only [Bool.or_eq_false_iff, Bool.not_eq_false', decide_eq_false_iff_not, ne_eq, Classical.not_not] at hok
  obtain ⟨⟨⟨⟨⟨h6, hg⟩, hgx⟩, hk⟩, hkx⟩, hkey⟩ := hok
  have hkey : key.length ≤ 100 := by omega
  have hBw := hB3.ext hx15
  have hCw := hC3.ext hx15
  have hx015 := hx03.trans hx15
  have hgv := good_v hg
  have hlens := hgv.lens
  have hkx6 := hlens.2.2.1 h6
  have hfew := good_items hg
  have hpr1 : ∀ y : JV, goodM y = true → (y.ks.zip y.xs).length ≤ 2000 := fun y hy => by have := good_items hy; rw [List.length_zip]; omega
  -- keys
  refine hBw.ld fun c48 h48 => ?_
  refine frow_v1 h48 fun t49 w18 hI18 hx18 => ?_
  refine call_p (hT.ext (hx015.trans hx18)) hI18 (by simp) (fun hh => by have := hpr1 v hg; simp [pairsL] at this ⊢; omega) fun c19 w19 hx19 h19 => ?_
  rw [call_keys hg hk h6] at h19 ⊢
  simp only [ext_tuple]
  refine ⟨_, rfl, _, rfl, ?_⟩
  refine copy_new h19.rep fun a7 w21 sk kk hKB hx21 => ?_
  have hx1521 := hx18.trans (hx19.trans hx21)
  -- values
  refine (hBw.ext hx1521).ld fun c54 h54 => ?_
  refine frow_v1 h54 fun t55 w22 hI22 hx22 => ?_
  refine call_p (hT.ext (hx015.trans (hx1521.trans hx22))) hI22 (by simp) (fun hh => by have := hpr1 v hg; simp [pairsL] at this ⊢; omega) fun c23 w23 hx23 h23 => ?_
  rw [call_values hg hk h6] at h23 ⊢
  simp only [ext_tuple]
  refine ⟨_, rfl, _, rfl, ?_⟩
  refine copy_new h23.rep fun a9 w25 sl kl hLB hx25 => ?_
  have hx2125 := hx22.trans (hx23.trans hx25)
  have hx1525 := hx1521.trans hx2125
  -- merge
  refine (hBw.ext hx1525).ld fun c60 h60 => ?_
  refine (hBw.ext hx1525).ld fun c61 h61 => ?_
  rw [put_int, put_nil]
  refine ⟨by simp, ?_⟩
  refine frow_v3 (z := mkO []) h60 h61 (flat_rep (G := fun _ => True) (k := 6) (b := false) (t := []) (by simp)).rep fun t63 w27 hI27 hx27 _ => ?_
  refine call_p (hT.ext (hx015.trans (hx1525.trans hx27))) hI27 (by simp) (fun hh => by have := hpr1 v hg; simp [pairsL, mkO, JV.ks, JV.xs] at this ⊢; omega) fun c28 w28 hx28 h28 => ?_
  rw [call_merge hg hk h6] at h28 ⊢
  simp only [ext_tuple]
  refine ⟨_, rfl, _, rfl, ?_⟩
  refine copy_new h28.rep fun a11 w30 sm km hMB hx30 => ?_
  have hx2530 := hx27.trans (hx28.trans hx30)
  have hx1530 := hx1525.trans hx2530
  have hB30 := hBw.ext hx1530
  have hC30 := hCw.ext hx1530
  have hK30 := (hKB.ext hx2125).ext hx2530
  have hL30 := hLB.ext hx2530
  have lk : (lV (v.ks.map tV)).xs.length = v.ks.length := by show (v.ks.map tV).length = _; simp
  have ll : (lV v.xs).xs.length = v.ks.length := by show v.xs.length = _; omega
  simp only [bin_neq, ne_eq, not_true_eq_false, decide_false, isB_f, Bool.not_false, GdW_pure, cond_true, List.getD_cons_zero, pick_f]
  intro _ _
  refine GdW.t ?_
  rw [fld_ptr, ld_one]
  refine ⟨sk, by rw [add_mk, cell_eq, hK30.hb]; rfl, ?_⟩
  rw [hK30.lenx, lk, fld_ptr, ld_one]
  refine ⟨kv, by rw [add_mk, cell_eq, hB30.hb]; rfl, ?_⟩
  rw [hB30.lenk]
  simp only [bin_neq, ne_eq, not_true_eq_false, decide_false, isB_f, Bool.not_false, List.getD_cons_zero, pick_f]
  intro _
  refine GdW.t ?_
  rw [fld_ptr, ld_one]
  refine ⟨sl, by rw [add_mk, cell_eq, hL30.hb]; rfl, ?_⟩
  rw [hL30.lenx, ll, fld_ptr, ld_one]
  refine ⟨kv, by rw [add_mk, cell_eq, hB30.hb]; rfl, ?_⟩
  rw [hB30.lenk]
  simp only [bin_neq, ne_eq, not_true_eq_false, decide_false, isB_f, Bool.not_false, List.getD_cons_zero, pick_f]
  intro _
  have same_refl : ∀ y : JV, sameM y y = true := fun y => (same_iff y y).2 rfl
  refine GdW.act false (fun w' => Ext w30 w') (fun e => by cases e) (fun _ J hJ => ?_) fun g41 w41 hx41 => ?_
  · refine hMB.ld fun c96 h96 => ?_
    refine hB30.ld fun c97 h97 => ?_
    refine same_ref v h96 h97 fun w40 hx40 => ?_
    rw [un_not, same_refl]
    exact hJ w40 hx40
  simp only [List.getD_cons_zero, cond_true, pick_f]
  rw [condW_false]
  have hx1541 := hx1530.trans hx41
  have hB41 := hB30.ext hx41
  have hC41 := hC30.ext hx41
  have hK41 := hK30.ext hx41
  have hL41 := hL30.ext hx41
  have GeW_t : ∀ (w : World) (A : (Value → World → Prop) → Prop) (B : Value → World → Prop), GeW true w A B ↔ A B := fun w A B => ⟨fun h => h.1 rfl, fun h => ⟨fun _ => h, fun e => by cases e⟩⟩
  have hx041 := hx015.trans hx1541
  -- a key looked up
  have lkc : ∀ {w' : World} {u : Value} {kk : Str} {K' : Value → World → Prop}, Ext w41 w' → ItemsAt w' u [v, tV kk, x] → kk.length ≤ 16384 → (∀ cs w'', Ext w' w'' → VRepP (From w'.heap.size) w'' ((getM v kk).getD x) cs → K' (.tuple #[.agg cs.toArray, i64 0]) w'') →
      callF Tryz.prog 11 [str [108, 111, 111, 107, 117, 112], u] w' K' := fun {w' u kk K'} hxw hI hkk hK' => by
    refine call_p (hT.ext (hx041.trans hxw)) hI (by simp) (fun hh => by
      have a1 := hpr1 v hg
      have a2 := hpr1 x hgx
      simp [pairsL, JV.ks, JV.xs] at a1 a2 ⊢; omega) fun cs w'' hx'' h'' => ?_
    have hgr : goodM ((getM v kk).getD x) = true := by
      cases hq : getM v kk with
      | none => exact hgx
      | some u => exact good_item hg (get_mem hq)
    rw [call_lookup hg hk h6 hgx hkx hkk hgr] at h'' ⊢
    exact hK' cs w'' hx'' h''
  -- .. and its answer kept in a block
  have keep1 : ∀ {w' : World} {u : Value} {kk : Str} {K' : Value → Value → World → Prop}, Ext w41 w' → ItemsAt w' u [v, tV kk, x] → kk.length ≤ 16384 → (∀ q cs w'', Ext w' w'' → w''.heap[q]? = some (.cells cs.toArray VT (0, 0)) → VRep w'' ((getM v kk).getD x) cs → K' (.pointer (some ⟨q, 0, none⟩)) (i64 0) w'') →
      callF Tryz.prog 11 [str [108, 111, 111, 107, 117, 112], u] w' (fun t116 w46 => extW 0 t116 fun t117 => extW 1 t116 fun t118 => allocW VT zr5 w46 fun t14 w47 => stW 5 t14 t117 w47 fun w48 => K' t14 t118 w48) := fun {w' u kk K'} hxw hI hkk hK' => by
    refine lkc hxw hI hkk fun cs w'' hx'' h'' => ?_
    simp only [ext_tuple]
    refine ⟨_, rfl, _, rfl, ?_⟩
    refine alloc_new fun q w47 hq hz47 hbq hx47 => ?_
    refine st_agg_at hbq h''.rep.len rfl h''.rep.all_one fun w48 hz48 hbq48 hc48 => ?_
    have hx48 : Ext w'' w48 := hx47.new hc48 (by omega)
    exact hK' q cs w48 (hx''.trans hx48) hbq48 (h''.rep.ext hx48)
  have keep2 : ∀ {w' : World} {u : Value} {kk : Str} {q : Nat} {B0 : Nat} {K' : Value → World → Prop}, Ext w41 w' → ItemsAt w' u [v, tV kk, x] → kk.length ≤ 16384 → w'.heap[q]? = some (.cells zr5.toArray VT (0, 0)) → B0 ≤ q → (∀ cs w'', Chg (fun k => k = q) w' w'' → w''.heap[q]? = some (.cells cs.toArray VT (0, 0)) → VRep w'' ((getM v kk).getD x) cs → K' (i64 0) w'') →
      callF Tryz.prog 11 [str [108, 111, 111, 107, 117, 112], u] w' (fun t116 w50 => extW 0 t116 fun t117 => extW 1 t116 fun t118 => stW 5 (.pointer (some ⟨q, 0, none⟩)) t117 w50 fun w51 => K' t118 w51) := fun {w' u kk q B0 K'} hxw hI hkk hq hB0 hK' => by
    refine lkc hxw hI hkk fun cs w'' hx'' h'' => ?_
    simp only [ext_tuple]
    refine ⟨_, rfl, _, rfl, ?_⟩
    refine st_agg_at (hx''.at hq id) h''.rep.len rfl h''.rep.all_one fun w51 hz51 hbq51 hc51 => ?_
    have hql := at_lt hq
    refine hK' cs w51 ((Chg.of_ext hx'').trans hc51) hbq51 (VRepP.rep (VRepP.chg hc51 (fun k hk _ e => by have hk : w'.heap.size ≤ k := hk; have : k = q := e; omega) h''))
  rw [fld_ptr, ld_one]
  refine ⟨kv, by rw [add_mk, cell_eq, hB41.hb]; rfl, ?_⟩
  rw [hB41.lenk]
  have hkeylen : ∀ k ∈ v.ks, k.length ≤ 16384 := keysOk_len hlens.2.2.2.1
  refine loop_up v.ks.length (fun i w' => Ext w41 w') (Chg.refl _ _) ?_ ?_
  · intro i w43 g L hi hx43 hL
    obtain ⟨ki, hki⟩ : ∃ u, v.ks[i]? = some u := ⟨_, List.getElem?_eq_getElem hi⟩
    obtain ⟨xi, hxi⟩ : ∃ u, v.xs[i]? = some u := ⟨_, List.getElem?_eq_getElem (by omega)⟩
    have hgm : (getM v ki).getD x = xi := by rw [get_here hgv h6 hki hxi]; rfl
    have hkl16 := hkeylen ki (List.mem_of_getElem? hki)
    have hltI : (i : Int) < (v.ks.length : Int) := by omega
    have hki2 : (lV (v.ks.map tV)).xs[i]? = some (tV ki) := by show (v.ks.map tV)[i]? = _; rw [List.getElem?_map, hki]; rfl
    have hxi2 : (lV v.xs).xs[i]? = some xi := hxi
    simp only [List.getD_cons_zero]
    rw [bin_lss, decide_eq_true hltI, condW_true]
    have hxd : Ext w43 w43.drew := Chg.drew (Chg.refl (fun _ => False) w43)
    have hx4d := hx43.trans hxd
    have hBd := hB41.ext hx4d
    have hCd := hC41.ext hx4d
    have hKd := hK41.ext hx4d
    refine JoinW.cut (fun st w' => ∃ q cs, st = [.pointer (some ⟨q, 0, none⟩), i64 0] ∧ Ext w43 w' ∧ w'.heap[q]? = some (.cells cs.toArray VT (0, 0)) ∧ VRep w' xi cs) ?_ ?_
    · refine ld_all hBd.hb rfl ?_
      rw [fld_ptr, add_mk, ld_one]
      refine ⟨sk, by rw [cell_eq, hKd.hb]; rfl, ?_⟩
      obtain ⟨b0, o0, c0, T0, fr0, ck, hix, hb0, hck, hg0⟩ := items_ix hKd.itemsAt hki2
      refine hix _ ?_
      refine ld_cells hb0 hck.len hg0 ?_
      refine ld_all hCd.hb rfl ?_
      refine ⟨?_, ?_⟩
      · refine frow_v3 hBd.rep hck hCd.rep fun t115 w45 hI45 hx45 _ => ?_
        refine ⟨?_, ?_⟩
        · refine keep1 (hx4d.trans hx45) hI45 hkl16 fun q cs w48 hx48 hq48 h48 => ?_
          rw [hgm] at h48
          exact ⟨q, cs, rfl, hxd.trans (hx45.trans hx48), hq48, h48⟩
        · refine alloc_new fun q w49 hq hz49 hbq hx49 => ?_
          refine keep2 (B0 := q) ((hx4d.trans hx45).trans hx49) (hI45.ext hx49) hkl16 hbq (Nat.le_refl _) fun cs w51 hc51 hq51 h51 => ?_
          rw [hgm] at h51
          exact ⟨q, cs, rfl, (hxd.trans (hx45.trans hx49)).then hc51 fun k hk e => by have := hx45.size; have := hxd.size; omega, hq51, h51⟩
      · refine alloc_new fun q w52 hq hz52 hbq hx52 => ?_
        refine ⟨ld_all (hCd.ext hx52).hb rfl rfl, ld_cells (hx52.at hb0 id) hck.len hg0 rfl, by rw [ld_one]; exact ⟨sk, by rw [cell_eq, (hKd.ext hx52).hb]; rfl, rfl⟩, ld_all (hBd.ext hx52).hb rfl rfl, ?_⟩
        refine frow_v3 (hBd.ext hx52).rep (hck.ext hx52) (hCd.ext hx52).rep fun t115 w53 hI53 hx53 _ => ?_
        refine keep2 (B0 := q) (hx4d.trans (hx52.trans hx53)) hI53 hkl16 (hx53.at hbq id) (Nat.le_refl _) fun cs w55 hc55 hq55 h55 => ?_
        rw [hgm] at h55
        exact ⟨q, cs, rfl, (hxd.trans (hx52.trans hx53)).then hc55 fun k hk e => by have := hxd.size; omega, hq55, h55⟩
    rintro st g44 w56 ⟨q, c14, rfl, hx56, hq56, h56⟩
    simp only [List.getD_cons_zero, List.getD_cons_succ]
    have hx4156 := hx43.trans hx56
    have hxd6 : Ext w56 w56.drew := Chg.drew (Chg.refl (fun _ => False) w56)
    have hBe := hB41.ext (hx4156.trans hxd6)
    have hKe := hK41.ext (hx4156.trans hxd6)
    have hLe := hL41.ext (hx4156.trans hxd6)
    obtain ⟨b0, o0, c0, T0, fr0, ck, hix, hb0, hck, hg0⟩ := items_ix hKe.itemsAt hki2
    obtain ⟨Tk, hkrow⟩ := hBe.keys
    obtain ⟨bk, ok, hixk, hcellk⟩ := texts_ix hkrow hki
    obtain ⟨b1, o1, c1, T1, fr1, cl, hixl, hb1, hcl, hg1⟩ := items_ix hLe.itemsAt hxi2
    have ck2 := vtx hck
    rw [bin_neq, decide_eq_false (by simp)]
    simp only [isB_f, Bool.not_false, GqW_t]
    refine ⟨_, rfl, _, ⟨sk, by rw [add_mk, cell_eq, hKe.hb]; rfl, rfl⟩, _, rfl, _, hix _ rfl, _, rfl, _, ⟨str ki, by rw [add_mk, cell_eq, hb0, cellO_some, hg0 2 (by omega)]; exact ck2, rfl⟩, _, rfl, _, ⟨kv, by rw [add_mk, cell_eq, hBe.hb]; rfl, rfl⟩, _, rfl, _, hixk _ rfl, _, ⟨str ki, hcellk _ (Chg.refl _ _), rfl⟩, .bool false, by rw [bin_sne]; simp, ?_⟩
    simp only [pick_f, isB_f, Bool.not_false, GqW_t]
    refine ⟨_, ld_all (hxd6.at hq56 id) h56.len rfl, _, rfl, _, ⟨sl, by rw [add_mk, cell_eq, hLe.hb]; rfl, rfl⟩, _, rfl, _, hixl _ rfl, _, ld_cells hb1 hcl.len hg1 rfl, ?_⟩
    rw [GeW_t]
    refine same_ref xi (h56.ext hxd6) hcl fun w76 hx76 => ?_
    rw [same_refl]
    refine ⟨.bool false, by rfl, ?_⟩
    have hx5676 := hxd6.trans hx76
    have hBf := hBe.ext hx76
    obtain ⟨b2, o2, c2, T2, fr2, c2l, hixv, hb2, hc2, hg2⟩ := items_ix hBf.itemsAt hxi
    simp only [pick_f, isB_f, Bool.not_false, GqW_t]
    refine ⟨_, ld_all (hx5676.at hq56 id) h56.len rfl, _, rfl, _, ⟨sv, by rw [add_mk, cell_eq, hBf.hb]; rfl, rfl⟩, _, rfl, _, hixv _ rfl, _, ld_cells hb2 hc2.len hg2 rfl, ?_⟩
    rw [GeW_t]
    refine same_ref xi (h56.ext hx5676) hc2 fun w85 hx85 => ?_
    rw [same_refl]
    refine ⟨.bool false, by rfl, ?_⟩
    rw [condW_false, bin_add, up1 (by omega)]
    exact hL w85 (hx4156.trans (hx5676.trans hx85))
  · intro w43 g L hx43
    simp only [List.getD_cons_zero]
    rw [bin_lss, decide_eq_false (Int.lt_irrefl _), condW_false]
    have hxd : Ext w43 w43.drew := Chg.drew (Chg.refl (fun _ => False) w43)
    have hx4d := hx43.trans hxd
    have hBd := hB41.ext hx4d
    have hCd := hC41.ext hx4d
    have hkey16 : key.length ≤ 16384 := by omega
    have hflat : ∀ w', VRep w' (tV key) (flat 4 false key) := fun w' => (flat_rep (G := fun _ => True) (by omega)).rep
    refine JoinW.cut (fun st w' => ∃ q cs, st = [i64 0, .pointer (some ⟨q, 0, none⟩)] ∧ Ext w43 w' ∧ w'.heap[q]? = some (.cells cs.toArray VT (0, 0)) ∧ VRep w' ((getM v key).getD x) cs) ?_ ?_
    · refine ld_all hBd.hb rfl ?_
      refine ld_all hCd.hb rfl ?_
      refine ⟨?_, ?_⟩
      · refine text_ref2 fun w88 hx88 => ?_
        refine ⟨ld_all (hCd.ext hx88).hb rfl rfl, ld_all (hBd.ext hx88).hb rfl rfl, ?_, ?_⟩
        · refine frow_v3 (hBd.ext hx88).rep (hflat _) (hCd.ext hx88).rep fun t161 w89 hI89 hx89 _ => ?_
          have hx8 := hx88.trans hx89
          refine ⟨?_, ?_⟩
          · refine keep1 (hx4d.trans hx8) hI89 hkey16 fun q cs w48 hx48 hq48 h48 => ?_
            exact ⟨q, cs, rfl, hxd.trans (hx8.trans hx48), hq48, h48⟩
          · refine alloc_new fun q w49 hq hz49 hbq hx49 => ?_
            refine keep2 (B0 := q) ((hx4d.trans hx8).trans hx49) (hI89.ext hx49) hkey16 hbq (Nat.le_refl _) fun cs w51 hc51 hq51 h51 => ?_
            exact ⟨q, cs, rfl, (hxd.trans (hx8.trans hx49)).then hc51 fun k hk e => by have := hx8.size; have := hxd.size; omega, hq51, h51⟩
        · refine alloc_new fun q w96 hq hz96 hbq hx96 => ?_
          refine ⟨ld_all ((hCd.ext hx88).ext hx96).hb rfl rfl, ld_all ((hBd.ext hx88).ext hx96).hb rfl rfl, ?_⟩
          refine frow_v3 ((hBd.ext hx88).ext hx96).rep (hflat _) ((hCd.ext hx88).ext hx96).rep fun t161 w97 hI97 hx97 _ => ?_
          have hx8 := hx88.trans (hx96.trans hx97)
          refine keep2 (B0 := q) (hx4d.trans hx8) hI97 hkey16 (hx97.at hbq id) (Nat.le_refl _) fun cs w51 hc51 hq51 h51 => ?_
          exact ⟨q, cs, rfl, (hxd.trans hx8).then hc51 fun k hk e => by have := hx88.size; have := hxd.size; omega, hq51, h51⟩
      · refine alloc_new fun q w100 hq hz100 hbq hx100 => ?_
        refine ⟨ld_all (hCd.ext hx100).hb rfl rfl, ld_all (hBd.ext hx100).hb rfl rfl, ?_⟩
        refine text_ref2 fun w101 hx101 => ?_
        refine ⟨ld_all ((hCd.ext hx100).ext hx101).hb rfl rfl, ld_all ((hBd.ext hx100).ext hx101).hb rfl rfl, ?_⟩
        refine frow_v3 ((hBd.ext hx100).ext hx101).rep (hflat _) ((hCd.ext hx100).ext hx101).rep fun t161 w102 hI102 hx102 _ => ?_
        have hx8 := hx100.trans (hx101.trans hx102)
        refine keep2 (B0 := q) (hx4d.trans hx8) hI102 hkey16 (hx102.at (hx101.at hbq id) id) (Nat.le_refl _) fun cs w51 hc51 hq51 h51 => ?_
        exact ⟨q, cs, rfl, (hxd.trans hx8).then hc51 fun k hk e => by have := hxd.size; omega, hq51, h51⟩
    rintro st g87 w105 ⟨q, cs, rfl, hx105, hq105, h105⟩
    simp only [List.getD_cons_zero, List.getD_cons_succ]
    have hx41105 := hx43.trans hx105
    have hBg := hB41.ext hx41105
    have hCg := hC41.ext hx41105
    rw [bin_eql, decide_eq_true rfl]
    simp only [isB_t]
    refine GdW.act (decide (0 ≤ idxI v.ks key)) (fun w' => Ext w105 w') (fun e => by cases e) (fun _ J hJ => ?_) fun g106 w108 hx108 => ?_
    · refine hBg.ld fun c168 h168 => ?_
      refine at_ref h168 fun w107 hx107 => ?_
      rw [bin_geq]
      exact hJ w107 hx107
    simp only [List.getD_cons_zero, cond_true, isB_f]
    refine GdW.act (sameM ((getM v key).getD x) x) (fun w' => Ext w105 w') (fun _ => hx108) (fun _ J hJ => ?_) fun g109 w111 hx111 => ?_
    · refine ld_all (hx108.at hq105 id) h105.len ?_
      refine (hCg.ext hx108).ld fun c174 h174 => ?_
      refine same_ref _ (h105.ext hx108) h174 fun w110 hx110 => ?_
      exact hJ w110 (hx108.trans hx110)
    refine GdW.t ?_
    have hfin : (decide (0 ≤ idxI v.ks key) || sameM ((getM v key).getD x) x) = true := by
      by_cases hi : idxI v.ks key < 0
      · have : getM v key = none := by unfold getM; rw [if_pos h6, idxI_neg.1 hi]
        rw [this, Option.getD_none, same_refl, Bool.or_true]
      · rw [decide_eq_true (by omega), Bool.true_or]
    simp only [List.getD_cons_zero, pick_gd_or, hfin]
    intro g112
    simp only [List.getD_cons_zero, pick_t]
    exact hK w111 (hx041.trans (hx41105.trans hx111))
end
end Go.Proofs.YtdkikjcpgihjlaaGreatDoor
namespace Go.Eng
open Go Go.Deep
theorem flat_get {k : Nat} : ∀ (L : List (List Value)) (i r : Nat) (y : List Value), (∀ z ∈ L, z.length = k) → r < k → L[i]? = some y → L.flatten[i * k + r]? = y[r]?
  | [], i, _, _, _, _, h => by simp at h
  | z :: L, 0, r, y, hl, hr, h => by
    simp only [List.getElem?_cons_zero, Option.some.injEq] at h
    subst h
    simp only [List.flatten_cons, Nat.zero_mul, Nat.zero_add]
    rw [List.getElem?_append_left (by rw [hl z List.mem_cons_self]; exact hr)]
  | z :: L, i + 1, r, y, hl, hr, h => by
    simp only [List.getElem?_cons_succ] at h
    have := flat_get L i r y (fun u hu => hl u (List.mem_cons_of_mem _ hu)) hr h
    rw [← this]
    simp only [List.flatten_cons]
    have hz := hl z List.mem_cons_self
    rw [List.getElem?_append_right (by rw [hz, Nat.add_mul]; omega)]
    congr 1
    rw [hz, Nat.add_mul]
    omega
theorem flat_len {k : Nat} : ∀ (L : List (List Value)), (∀ z ∈ L, z.length = k) → L.flatten.length = L.length * k
  | [], _ => by simp
  | z :: L, hl => by
    rw [List.flatten_cons, List.length_append, flat_len L fun u hu => hl u (List.mem_cons_of_mem _ hu), hl z List.mem_cons_self, List.length_cons, Nat.add_mul]
    omega
section
variable {H : Type} {enc : TypeId × Value → H} {P : Program} {w : World} {base : Nat} {spare : Nat → Bool} {held : Bool}
theorem open_rows {t e : TypeId} {k fuel : Nat} {v : Value} {d : DataW H} {ps : List MemPlace} (ht : P.underlying t = some (.slice e)) (hk : P.cellsOf e = k) (hk0 : 0 < k) (h : DataW.trod enc P w base spare held fuel t [v] = some (d, ps)) :
    ∃ p n c T m, ∃ (f : Nat → List Value) (D : Nat → DataW H) (Pl : Nat → List MemPlace), v = .slice p n c ∧ SlAt w T (.slice p n c) n ((List.range n).map f).flatten ∧
      (∀ i, i < n → (f i).length = k ∧ DataW.trod enc P w base spare held m e (f i) = some (D i, Pl i)) ∧ ((n = 0 ∧ d = .nil) ∨ ∃ rest, d = .slice ((List.range n).map D) rest) := by
  rcases open_slice ht h with ⟨hc, hx⟩ | ⟨a, len, cap, m, n, D, Pl, hc, _, hl, hm, hme, hx, hel⟩
  · cases hc
    cases hx
    refine ⟨none, 0, 0, 0, 0, fun _ => [], fun _ => .nil, fun _ => [], rfl, ?_, fun i hi => by omega, .inl ⟨rfl, rfl⟩⟩
    simpa using SlAt.nil w 0
  · cases hc
    cases hx
    have hlm : len ≤ m := by rw [hme]; split <;> omega
    obtain ⟨f, hf⟩ := choose_lt (n := len) fun i hi => hel i (by omega)
    have hfl : ∀ i, i < len → (f i).length = k := fun i hi => by rw [(World.cells?_some (hf i hi).1).2.1, hk]
    have hall : ∀ z ∈ (List.range len).map f, z.length = k := by
      intro z hz
      obtain ⟨i, hi, rfl⟩ := List.mem_map.1 hz
      exact hfl i (List.mem_range.1 hi)
    have hcell : ∀ i r, i < len → r < k → w.cell? (a.add (i * k + r)) = (f i)[r]? := by
      intro i r hi hr
      have := (World.cells?_some (hf i hi).1).2.2 r (by omega)
      rw [add_add, hk] at this
      exact this
    by_cases h0 : len = 0
    · subst h0
      refine ⟨some a, 0, cap, 0, n, f, D, Pl, rfl, ⟨some a, cap, rfl, Nat.zero_le _, (by intro e; cases e), (by simp)⟩, fun i hi => by omega, .inr ⟨_, rfl⟩⟩
    have h00 := hcell 0 0 (by omega) hk0
    have hf0 := hfl 0 (by omega)
    rw [List.getElem?_eq_getElem (by omega)] at h00
    obtain ⟨c, T, fr, hb, hsp⟩ : ∃ c T fr, w.heap[a.block]? = some (.cells c T fr) ∧ a.spot = none := by
      unfold World.cell? at h00
      have e1 : (a.add (0 * k + 0)).block = a.block := by unfold Addr.add; split <;> rfl
      have e2 : (a.add (0 * k + 0)) = a := by unfold Addr.add; simp
      rw [e2] at h00
      split at h00
      · rename_i c T fr hb
        refine ⟨c, T, fr, hb, ?_⟩
        cases hs : a.spot with
        | none => rfl
        | some _ => simp [hs] at h00
      · cases h00
    obtain ⟨b, off, sp⟩ := a
    simp only at hsp hb
    subst hsp
    refine ⟨some ⟨b, off, none⟩, len, cap, T, n, f, D, Pl, rfl, ⟨_, _, rfl, hl, (by intro e; cases e), fun _ => ⟨b, off, c, fr, rfl, hb, fun j hj => ?_⟩⟩, fun i hi => ⟨hfl i hi, (hf i hi).2⟩, .inr ⟨_, rfl⟩⟩
    rw [flat_len _ hall, List.length_map, List.length_range] at hj
    have hi : j / k < len := by rw [Nat.div_lt_iff_lt_mul hk0]; exact hj
    have hr : j % k < k := Nat.mod_lt _ hk0
    have hjj : j / k * k + j % k = j := by rw [Nat.mul_comm]; exact Nat.div_add_mod j k
    have h1 := hcell (j / k) (j % k) hi hr
    rw [hjj, add_mk, cell_eq, hb, cellO_some] at h1
    have h2 := flat_get ((List.range len).map f) (j / k) (j % k) (f (j / k)) hall hr (by simp [hi])
    rw [hjj] at h2
    rw [h1, h2]
end
end Go.Eng
namespace Go.Proofs.YtdkikjcpgihjlaaGreatDoor
open Go Go.Eng Go.Num Go.Deep
set_option maxRecDepth 100000
instance : Inhabited JV := ⟨JV.null⟩
theorem vreps_map {w : World} {X : Nat → JV} {f : Nat → List Value} : ∀ (l : List Nat), (∀ i ∈ l, VRep w (X i) (f i)) → VReps w (l.map X) (l.map f).flatten
  | [], _ => by simp [VReps]
  | i :: l, h => by
    simp only [List.map_cons, List.flatten_cons, VReps]
    exact ⟨_, _, rfl, h i List.mem_cons_self, vreps_map l fun j hj => h j (List.mem_cons_of_mem _ hj)⟩
section
variable {H : Type} {enc : TypeId × Value → H} {w : World} {base : Nat} {spare : Nat → Bool} {held : Bool}
theorem open_len {P : Program} {t e : TypeId} {fuel : Nat} {p : Option Addr} {n c : Nat} {x : DataW H × List MemPlace} (ht : P.underlying t = some (.slice e)) (h : DataW.trod enc P w base spare held fuel t [.slice p n c] = some x) : n ≤ 9223372036854775807 := by
  rcases Deep.open_slice ht h with ⟨hc, _⟩ | ⟨a, len, cap, m, n', D, Pl, hc, _, hl, hm, _⟩
  · cases hc; omega
  · cases hc; unfold maxLen at hm; omega
theorem open_texts {P : Program} {t e : TypeId} {fuel : Nat} {v : Value} {d : DataW H} {ps : List MemPlace} (ht : P.underlying t = some (.slice e)) (he : P.underlying e = some .string) (hk : P.cellsOf e = 1) (h : DataW.trod enc P w base spare held fuel t [v] = some (d, ps)) :
    ∃ (T : TypeId) (l : List Str), SlAt w T v l.length (l.map str) ∧ l.length ≤ 9223372036854775807 ∧ ∀ s ∈ l, s.length ≤ 9223372036854775807 := by
  obtain ⟨p, n, c, T, m, f, D, Pl, rfl, hs, hf, hd⟩ := open_rows ht hk (by omega) h
  have hn := open_len ht h
  have hex : ∀ i, i < n → ∃ b : Str, f i = [str b] ∧ b.length ≤ 9223372036854775807 := by
    intro i hi
    obtain ⟨s, hx, _, hw⟩ := DataW.trod_string he (hf i hi).2
    refine ⟨s.data.toList, by rw [hx]; simp [ofL], ?_⟩
    unfold maxLen at hw
    simpa using hw
  obtain ⟨g, hg⟩ := choose_lt hex
  have hfl : ((List.range n).map f).flatten = ((List.range n).map g).map str := by
    have : (List.range n).map f = (List.range n).map fun i => [str (g i)] := List.map_congr_left fun i hi => (hg i (List.mem_range.1 hi)).1
    rw [this]
    simp only [List.map_map]
    generalize List.range n = L
    induction L with
    | nil => rfl
    | cons a L ih => simp only [List.map_cons, List.flatten_cons, ih, Function.comp_apply]; rfl
  rw [hfl] at hs
  refine ⟨T, (List.range n).map g, by simpa using hs, by simpa using hn, fun s hs => ?_⟩
  obtain ⟨i, hi, rfl⟩ := List.mem_map.1 hs
  exact (hg i (List.mem_range.1 hi)).2
theorem open_val : ∀ (N fuel : Nat) (cs : List Value) (d : DataW H) (ps : List MemPlace), SizeOf.sizeOf d < N → DataW.trod enc Tryz.prog w base spare held fuel VT cs = some (d, ps) → ∃ v : JV, VRep w v cs
  | 0, _, _, _, _, h, _ => by omega
  | N + 1, fuel, cs, d, ps, hN, h => by
    obtain ⟨xs, n, hn, hx, hl, hlen, hf⟩ := DataW.trod_struct Tryz.underlying28 h
    have hl5 : cs.length = 5 := hl.trans (show Tryz.prog.cellsOf VT = 5 by kernel_rfl)
    have k0 : Tryz.prog.cellsOf 25 = 1 := by kernel_rfl
    have k1 : Tryz.prog.cellsOf 4 = 1 := by kernel_rfl
    have k2 : Tryz.prog.cellsOf 9 = 1 := by kernel_rfl
    have k3 : Tryz.prog.cellsOf 22 = 1 := by kernel_rfl
    have k4 : Tryz.prog.cellsOf 26 = 1 := by kernel_rfl
    match cs, hl5 with
    | [c0, c1, c2, c3, c4], _ =>
    have f0 : DataW.trod enc Tryz.prog w base spare held n 25 (([c0, c1, c2, c3, c4].drop 0).take (Tryz.prog.cellsOf 25)) = xs[0]? := hf 0 _ rfl
    rw [k0] at f0
    have f0 : DataW.trod enc Tryz.prog w base spare held n 25 [c0] = xs[0]? := f0
    have f1 : DataW.trod enc Tryz.prog w base spare held n 4 (([c0, c1, c2, c3, c4].drop 1).take (Tryz.prog.cellsOf 4)) = xs[1]? := hf 1 _ rfl
    rw [k1] at f1
    have f1 : DataW.trod enc Tryz.prog w base spare held n 4 [c1] = xs[1]? := f1
    have f2 : DataW.trod enc Tryz.prog w base spare held n 9 (([c0, c1, c2, c3, c4].drop 2).take (Tryz.prog.cellsOf 9)) = xs[2]? := hf 2 _ rfl
    rw [k2] at f2
    have f2 : DataW.trod enc Tryz.prog w base spare held n 9 [c2] = xs[2]? := f2
    have f3 : DataW.trod enc Tryz.prog w base spare held n 22 (([c0, c1, c2, c3, c4].drop 3).take (Tryz.prog.cellsOf 22)) = xs[3]? := hf 3 _ rfl
    rw [k3] at f3
    have f3 : DataW.trod enc Tryz.prog w base spare held n 22 [c3] = xs[3]? := f3
    have f4 : DataW.trod enc Tryz.prog w base spare held n 26 (([c0, c1, c2, c3, c4].drop 4).take (Tryz.prog.cellsOf 26)) = xs[4]? := hf 4 _ rfl
    rw [k4] at f4
    have f4 : DataW.trod enc Tryz.prog w base spare held n 26 [c4] = xs[4]? := f4
    have hlen : xs.length = 5 := hlen
    match xs, hlen with
    | [y0, y1, y2, y3, y4], _ =>
    simp only [List.getElem?_cons_zero, List.getElem?_cons_succ] at f0 f1 f2 f3 f4
    obtain ⟨a0, h0, _, _⟩ := DataW.trod_int Tryz.underlying25 f0
    obtain ⟨a1, h1, _⟩ := DataW.trod_bool Tryz.underlying4 f1
    obtain ⟨a2, h2, _, w2⟩ := DataW.trod_string Tryz.underlying9 f2
    obtain ⟨T4, ks, h4, l4, b4⟩ := open_texts Tryz.underlying26 Tryz.underlying9 k2 f4
    obtain ⟨p, m, c, T3, m3, f, D, Pl, rfl, h3, hel, hd⟩ := open_rows (k := 5) Tryz.underlying22 (by kernel_rfl) (by omega) f3
    have l3 := open_len Tryz.underlying22 f3
    cases h0; cases h1; cases h2
    have hd3 : SizeOf.sizeOf y3.1 < SizeOf.sizeOf d := by
      have : d = .agg [y0.1, y1.1, y2.1, y3.1, y4.1] := by cases hx; rfl
      rw [this]
      simp
      omega
    have each : ∀ i, i < m → ∃ v : JV, VRep w v (f i) := fun i hi => by
      refine open_val N m3 (f i) (D i) (Pl i) ?_ (hel i hi).2
      rcases hd with ⟨e, _⟩ | ⟨rest, e⟩
      · omega
      · have hmem : D i ∈ (List.range m).map D := List.mem_map.2 ⟨i, List.mem_range.2 hi, rfl⟩
        have h1 := List.sizeOf_lt_of_mem hmem
        rw [e] at hd3
        simp at hd3
        omega
    obtain ⟨X, hX⟩ := choose_lt each
    have hreps : VReps w ((List.range m).map X) ((List.range m).map f).flatten := vreps_map _ fun i hi => hX i (List.mem_range.1 hi)
    have ea : (Value.string a2) = str a2.data.toList := by simp [ofL]
    rw [ea]
    refine ⟨.mk a0 a1 a2.data.toList ((List.range m).map X) ks, VRep.mk (v := .mk a0 a1 a2.data.toList ((List.range m).map X) ks) (by simpa [JV.xs] using h3) hreps h4 ⟨by simpa [JV.xs] using l3, l4, ?_, b4⟩⟩
    unfold maxLen at w2
    simpa [JV.t] using w2
theorem open_v {v : Value} {d : DataW H} {ps : List MemPlace} {r : Reach} {b0 : Nat} (hval : Value.okWide Tryz.prog w r b0 VT v) (h : DataW.Trod enc Tryz.prog w base spare held VT v d ps) : ∃ (j : JV) (cs : List Value), v = .agg cs.toArray ∧ VRep w j cs := by
  obtain ⟨fuel, hf⟩ := h
  obtain ⟨j, hj⟩ := open_val _ fuel _ d ps (Nat.lt_succ_self _) hf
  have hl := hj.len
  refine ⟨j, v.cells.toList, ?_, hj⟩
  cases v with
  | agg a => simp [Value.cells]
  | _ => simp [Value.cells] at hl
end
end Go.Proofs.YtdkikjcpgihjlaaGreatDoor

namespace Go.Proofs.YtdkikjcpgihjlaaGreatDoor
open Go Go.RowKit Go.Eng
set_option maxRecDepth 100000
theorem ftab_reads {P : Program} {w : World} {name : String} {k : IntKind} {zs : List Int} {g : Nat} {t e : TypeId} {n : Nat} (hg : P.globalNamed name = some g) (hty : (P.globals[g]?).map (·.type) = some t) (ht : P.underlying t = some (.array n e)) (he : P.underlying e = some (.int k)) (hce : P.cellsOf e = 1) (hct : P.cellsOf t = n)
    (h : Lib.VarReads P w name (Lib.tabData k zs)) : Lib.TabIs P w name k zs := by
  obtain ⟨g', t', cs, fuel, p, hg', ht', hvar, hd⟩ := h
  obtain rfl := Option.some.inj (hg.symm.trans hg')
  obtain rfl := Option.some.inj (hty.symm.trans ht')
  unfold Lib.TabIs
  rw [hvar, ← Lib.cells_of_tab ht he hce hct hd]
theorem ftrod_iface {P : Program} {w : World} {fuel : Nat} {t : TypeId} {cs : List Value} {s : String} {x : DataW Unit} {p : List MemPlace} {m : Array TypeId} (ht : ∃ m, P.underlying t = some (.interface m)) (h : DataW.trod (fun _ => ()) P w 0 (fun _ => true) false fuel t cs = some (.iface s x, p)) : ∃ u v, cs = [.iface u v] := by
  obtain ⟨m, ht⟩ := ht
  cases fuel with
  | zero => cases h
  | succ fuel =>
    unfold DataW.trod at h
    rw [ht] at h
    match cs, h with
    | [], h => cases h
    | [v], h =>
      cases v with
      | iface u v => exact ⟨u, v, rfl⟩
      | _ => cases h
    | a :: b :: r, h => simp at h
theorem ftab_err {w : World} {nm : String} {g : Nat} {x : DataW Unit} {s : String} (hg : Tryz.prog.globalNamed nm = some g) (hty : (Tryz.prog.globals[g]?).map (·.type) = some 106) (h : Lib.VarReads Tryz.prog w nm (.iface s x)) : ∃ T v, w.cell? ⟨g, 0, none⟩ = some (.iface T v) := by
  obtain ⟨g', t', cs, fuel, p, hg', ht', hvar, hd⟩ := h
  obtain rfl := Option.some.inj (hg.symm.trans hg')
  obtain rfl := Option.some.inj (hty.symm.trans ht')
  obtain ⟨u, v, hcs⟩ := ftrod_iface (m := #[]) ⟨_, Tryz.underlying106⟩ hd
  have := World.var?_cell hg hvar 0
  refine ⟨u, v, ?_⟩
  rw [this]
  have e : cs = #[.iface u v] := by
    apply Array.ext'
    rw [hcs]
  rw [e]; rfl
theorem tabf_of {w : World} (hL : laidMetH Tryz.prog Rows.funcsNamesRow.laid w) (hsh : w.ShapedOpen Tryz.prog) : TabF w := by
  have h : laidMet Tryz.prog Rows.funcsNamesRow.laid w := by
    rw [Go.MakeChecks.laidMetH_plain _ _ _ (by kernel_rfl)] at hL
    exact hL
  have r : ∀ n d, (n, d) ∈ Rows.funcsNamesRow.laid → Lib.VarReads Tryz.prog w n d := fun n d hm => Lib.laidMet.reads h hm
  have r2 : Lib.VarReads Tryz.prog w "internal/strconv.uint64pow10" (Lib.tabData .u64 Lib.pow10Tab) := r _ _ (.tail _ (.tail _ (.head _)))
  have r4 : Lib.VarReads Tryz.prog w "strconv.ErrRange" Rows.laid_strconv_ErrRange := r _ _ (.tail _ (.tail _ (.tail _ (.tail _ (.head _)))))
  have r5 : Lib.VarReads Tryz.prog w "strconv.ErrSyntax" Rows.laid_strconv_ErrSyntax := r _ _ (.tail _ (.tail _ (.tail _ (.tail _ (.tail _ (.head _))))))
  refine ⟨?_, ftab_err (by kernel_rfl) (by kernel_rfl) r5, ftab_err (by kernel_rfl) (by kernel_rfl) r4, ?_⟩
  · exact ftab_reads (g := 5) (t := 199) (e := 122) (n := 20) (by kernel_rfl) (by kernel_rfl) (by kernel_rfl) (by kernel_rfl) (by kernel_rfl) (by kernel_rfl) r2
  · exact Go.Proofs.cell_of_shapedOpen_int (t := 3) (zero := #[.int .i64 0]) hsh (of_decide_eq_true (by kernel_rfl)) (by kernel_rfl) rfl (by kernel_rfl) (by kernel_rfl) Tryz.underlying3
theorem handed_and_shaped {H : Type} {enc : TypeId × Value → H} {a : Assume} {C : Checked} {os : Os} {f : FuncId} {fn : Func} {s : ChangeSpec} {conds : List PathCond} {apart fresh handsOn again : Bool} {X : World → Array Value → Prop}
    (hX : ∀ (w w' : World) (args : Array Value), w.heap = w'.heap → X w args → X w' args)
    (own : ownKnob C.prog.godebug = none) (started : os.Started) (noInit : C.prog.inits.idxOf? f = none) (hfn : C.prog.funcs[f]? = some fn)
    (witness : ∃ (w : World) (tape : Tape) (i : Input), w.os = os ∧ (w.forCall tape i).Shaped C.prog ∧ i.vars = [] ∧ Input.okWide C.prog (w.forCall tape i) .any w.heap.size f i ∧
      ((s.pre enc C.prog fn conds apart (w.forCall tape i).memory i.args ∧ X (w.forCall tape i).memory i.args) ∧ sizedMet enc C.prog fn (OpenSpec.ofChange s) apart (w.forCall tape i).memory i.args) ∧ a.holds C.prog (lone (Frame.enter C.prog f i.args .normal) [] (w.forCall tape i)))
    (contract : ∀ (W : World) (base : Nat) (args : Array Value) (ds gs : List (DataW H)) (before : List MemPlace),
      (∀ (j : Nat) t v, fn.params[j]? = some t → args[j]? = some v → Value.okWide C.prog W .any base t v) →
      DataW.Whole enc C.prog fn.params.toList s.vars apart W args.toList ds gs before →
      conds.all (PathCond.test C.prog ⟨fn.params.toList, ds, s.plain.varTypes C.prog, gs⟩) = true →
      (DataW.weightsEach C.prog (fn.params.toList ++ s.plain.varTypes C.prog) (ds ++ gs)).all (· ≤ reachBytes) = true → X W args → W.ShapedOpen C.prog →
      a.holds C.prog (lone (Frame.enter C.prog f args .normal) [] W) →
      Calls C.prog f args W fun e W' => ∃ v, e = .returned v ∧ s.post enc C.prog fn apart fresh handsOn again W args v W') :
    ReturnsInHanded a C os f .any (fun w args => (s.pre enc C.prog fn conds apart w args ∧ X w args) ∧ sizedMet enc C.prog fn (OpenSpec.ofChange s) apart w args) (s.post enc C.prog fn apart fresh handsOn again) := by
  refine returnsInHanded_of_calls own started noInit witness ?_
  intro w tape i _ hsh _ hok hpre hholds
  obtain ⟨_, _, _, fn', hfn', _, _, _, _, hval⟩ := hok
  have e : fn' = fn := Option.some.inj (hfn'.symm.trans hfn)
  subst e
  obtain ⟨⟨⟨ds, gs, before, hw, hc⟩, hx⟩, hz⟩ := hpre
  have hw' := DataW.Whole.of_heap (w' := w.forCall tape i) (by rfl) hw
  refine (contract (w.forCall tape i) w.heap.size i.args ds gs before hval hw' hc (hz.weights hw) (hX _ _ _ (by rfl) hx) hsh hholds).mono fun e W' ⟨v, he, hp⟩ => ?_
  subst he
  exact ChangeSpec.post_blind hp
section
variable {H : Type} {enc : TypeId × Value → H} {w : World} {base : Nat} {spare : Nat → Bool} {held : Bool}
theorem fopen_s {v : Value} {d : DataW H} {ps : List MemPlace} {r : Reach} {b0 : Nat} (hval : Value.okWide Tryz.prog w r b0 9 v) (h : DataW.Trod enc Tryz.prog w base spare held 9 v d ps) : ∃ s : Str, v = str s ∧ s.length ≤ 9223372036854775807 := by
  obtain ⟨s, rfl, _, _, hs⟩ := Go.ChangeMaps.open_string Tryz.underlying9 hval h
  exact ⟨s.data.toList, by simp [ofL], by unfold maxLen at hs; simpa using hs⟩
end
end Go.Proofs.YtdkikjcpgihjlaaGreatDoor
