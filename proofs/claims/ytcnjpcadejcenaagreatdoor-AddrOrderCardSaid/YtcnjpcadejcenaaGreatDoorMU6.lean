/- One plain sentence: weakest preconditions, contracts and plain laws that the claim rests on, text behind text. Conditions: those that each states. -/
import Derived.Test.YtcnjpcadejcenaaGreatDoorMU5
import Derived.Test.YtcnjpcadejcenaaGreatDoorMU1
import Derived.Deep.Slices
import Derived.DataReads
import Derived.ChangeArms
import Derived.Test.YtcnjpcadejcenaaGreatDoorMU3
import Derived.OpenShut
import Derived.Test.YtcnjpcadejcenaaGreatDoorRows
import Derived.Below
import Derived.RowKit
import Derived.ChangeMaps5
import Derived.MakeChecks
import Derived.Lib.LaidU8T
import Derived.Lib.LaidTab
import Derived.Test.YtcnjpcadejcenaaGreatDoorMU4
set_option linter.all false
set_option linter.unusedSimpArgs false
set_option linter.unusedVariables false
set_option linter.unusedSectionVars false
namespace Go.Proofs.YtcnjpcadejcenaaGreatDoor
open Go Go.Eng Go.RowKit
set_option maxRecDepth 100000
abbrev wA1 : AV := ⟨[[109], [110]], [116], [97], 2, 0, [107, 10], true⟩
abbrev wA2 : AV := ⟨[], [116], [97], 1, 10, [], false⟩
abbrev wA3 : AV := ⟨[], [116], [97], 1, 9, [], false⟩
abbrev wA4 : AV := ⟨[], [116], [97], 0, 0, [], false⟩
theorem it10 : Lib.itoa 10 = [49, 48] := by
  rw [itoa_pos (by decide), Lib.decDigits, dif_neg (by decide), Lib.decDigits, dif_pos (by decide)]; rfl
theorem it9 : Lib.itoa 9 = [57] := by
  rw [itoa_pos (by decide), Lib.decDigits, dif_pos (by decide)]; rfl
theorem wS1 : showA wA1 = [109, 47, 110, 47, 116, 46, 97, 91, 34, 107, 92, 110, 34, 93, 126] := by kernel_rfl
theorem wS2 : showA wA2 = [116, 46, 97, 91, 49, 48, 93] := by
  have : brA wA2 = [91, 49, 48, 93] := by unfold brA; rw [if_pos rfl, it10]; rfl
  unfold showA; rw [this]; rfl
theorem wS3 : showA wA3 = [116, 46, 97, 91, 57, 93] := by
  have : brA wA3 = [91, 57, 93] := by unfold brA; rw [if_pos rfl, it9]; rfl
  unfold showA; rw [this]; rfl
theorem wS4 : showA wA4 = [116, 46, 97] := by kernel_rfl
theorem wG1 : goodAd wA1 = true := by kernel_rfl
theorem wG2 : goodAd wA2 = true := by decide
theorem wG3 : goodAd wA3 = true := by decide
theorem wG4 : goodAd wA4 = true := by decide
theorem w01 (a : AV) (hg : goodAd a = true) : showA a ≠ [116, 46, 97, 91, 48, 49, 93] := fun h => by
  have hr : headA a ++ brA a = [116, 46, 97, 91, 48, 49, 93] := by
    rcases show_aside a with ⟨_, h2⟩ | ⟨_, h2⟩
    · rw [h] at h2
      have := congrArg List.getLast? h2
      simp at this
    · rw [h] at h2
      exact h2.symm
  obtain ⟨_, ⟨_, n0, n1, _, r⟩ | ⟨_, _, _, _, _, r⟩⟩ := br_split (l := [116, 46, 97]) (r := [48, 49, 93]) hg hr (by decide)
  · have e := (List.append_inj' (s₁ := [48, 49]) (t₁ := [93]) r rfl).1
    have := (itoa_good n0 n1).1
    rw [← e] at this
    exact absurd this (by decide)
  · have e := (List.append_inj' (s₁ := [48, 49]) (t₁ := [93]) r rfl).1
    unfold quoteM at e
    simp only [List.cons_append, List.nil_append, List.cons.injEq] at e
    exact absurd e.1 (by decide)
theorem wOut (L : List AE) (h : L.map (·.1) = [wA2, wA3, wA4]) : (outF (L.length - 1) L 1).map (fun x => showA x.1) = [[116, 46, 97], [116, 46, 97, 91, 57, 93], [116, 46, 97, 91, 49, 48, 93]] := by
  match L, h with
  | [x, y, z], h =>
    simp only [List.map_cons, List.map_nil, List.cons.injEq, and_true] at h
    obtain ⟨h1, h2, h3⟩ := h
    have c1 : cmpA y.1 x.1 < 0 := by rw [h1, h2]; decide +kernel
    have c2 : cmpA z.1 x.1 < 0 := by rw [h1, h3]; decide +kernel
    have c3 : cmpA z.1 y.1 < 0 := by rw [h2, h3]; decide +kernel
    have e : outF ([x, y, z].length - 1) [x, y, z] 1 = [z, y, x] := by
      simp [outF, insF, c1, c2, c3]
    rw [e]
    simp only [List.map_cons, List.map_nil, h1, h2, h3, wS2, wS3, wS4]
  | [], h => simp at h
  | [_], h => simp at h
  | [_, _], h => simp at h
  | _ :: _ :: _ :: _ :: _, h => simp at h
section
variable [HX]
theorem row_s3 {a b c : Str} {w : World} {K : Value → World → Prop} (hK : ∀ t w', SlAt w' ST t 3 [str a, str b, str c] → Ext w w' → K t w') : bslW ST 3 [.string (ofL []), .string (ofL []), .string (ofL [])] [(0, 1, str a), (1, 1, str b), (2, 1, str c)] w K := by
  rw [bslW]
  simp only [put_str, put_nil, List.length_cons, List.length_nil, List.set_cons_zero, List.set_cons_succ]
  refine ⟨by omega, by omega, by omega, ?_⟩
  refine hK _ _ ⟨_, _, rfl, Nat.le_refl _, fun e => (by cases e), fun _ => ⟨_, _, _, _, rfl, heap_anew _ _ _ rfl, fun i _ => by rw [Nat.zero_add]; simp⟩⟩ (Chg.alloc (Chg.refl _ _) _)
theorem awake_a {w : World} {K : Value → World → Prop} (hT : TabA w) (hK : ∀ w', Ext w w' → K (.bool true) w') : callF Tryz.prog 30 [] w K := by
  refine W30_ok ?_
  unfold W30
  rw [← wS1]
  refine parse_good hT wG1 fun cs w1 hx1 hr1 => ?_
  simp only [ext_tuple]
  refine ⟨_, rfl, _, rfl, ?_⟩
  refine keep_a hr1 fun p w3 sv hA3 hx3 hp3 => ?_
  have hx03 := hx1.trans hx3
  refine parse_p (s := [116, 46, 97, 91, 48, 49, 93]) (hT.ext hx03) (by decide) (fun a hg he => absurd he (w01 a hg)) fun _ cs2 w4 hx4 hr4 => ?_
  simp only [ext_tuple]
  refine ⟨_, rfl, _, rfl, ?_⟩
  refine keep_a hr4 fun q w6 tv hB6 hx6 hq6 => ?_
  refine row_s3 fun t w7 ht hx7 => ?_
  have hx37 := hx4.trans (hx6.trans hx7)
  have hrow : ([wA2, wA3, wA4].map fun a => str (showA a)) = [str [116, 46, 97, 91, 49, 48, 93], str [116, 46, 97, 91, 57, 93], str [116, 46, 97]] := by
    simp only [List.map_cons, List.map_nil, wS2, wS3, wS4]
  refine asort_p (az := [wA2, wA3, wA4]) (hT.ext (hx03.trans hx37)) (fun a ha => ?_) (by decide) (by simp) (by rw [hrow]; exact ht) fun L v w8 hL hx8 hv => ?_
  · simp only [List.mem_cons, List.not_mem_nil, or_false] at ha
    rcases ha with rfl | rfl | rfl
    · exact ⟨wG2, rfl⟩
    · exact ⟨wG3, rfl⟩
    · exact ⟨wG4, rfl⟩
  have hout := wOut L hL
  have hv3 : SlAt w8 ST v ([[116, 46, 97], [116, 46, 97, 91, 57, 93], [116, 46, 97, 91, 49, 48, 93]] : List Str).length (([[116, 46, 97], [116, 46, 97, 91, 57, 93], [116, 46, 97, 91, 49, 48, 93]] : List Str).map str) := by
    rw [← hout, List.length_map, List.map_map]
    exact hv
  have hA8 := hA3.ext (hx37.trans hx8)
  obtain ⟨T8, hs8⟩ := hA8.sl
  simp only [ext_tuple]
  refine ⟨_, rfl, _, rfl, ?_⟩
  rw [bin_eql, show decide ((0 : Int) = 0) = true from rfl]
  refine GdW.look true (fun _ J hJ => ?_) fun g => ?_
  · refine hA8.ld rfl ?_
    rw [lenl_at hs8, bin_eql]
    exact hJ
  simp only [isB_t, cond_true, List.getD_cons_zero, pick_t]
  refine GdW.look true (fun _ J hJ => ?_) fun g => ?_
  · refine hA8.ld rfl ?_
    rw [bin_seq]
    exact hJ
  simp only [isB_t, cond_true, List.getD_cons_zero, pick_t]
  refine GdW.look true (fun _ J hJ => ?_) fun g => ?_
  · refine hA8.ld rfl ?_
    exact hJ
  simp only [isB_t, cond_true, List.getD_cons_zero, pick_t]
  refine GdW.look true (fun _ J hJ => ?_) fun g => ?_
  · rw [bin_eql]
    exact hJ
  simp only [isB_t, cond_true, List.getD_cons_zero, pick_t]
  refine GdW.look true (fun _ J hJ => ?_) fun g => ?_
  · rw [bin_eql]
    exact hJ
  simp only [isB_t, cond_true, List.getD_cons_zero, pick_t]
  refine GdW.act true (fun w' => Ext w8 w') (fun e => by cases e) (fun _ J hJ => ?_) ?_
  · refine row_s3 fun t2 w20 ht2 hx20 => ?_
    refine texts_ref (b := [[116, 46, 97], [116, 46, 97, 91, 57, 93], [116, 46, 97, 91, 49, 48, 93]]) (hv3.ext hx20) ht2 (by decide) fun w21 hx21 => ?_
    rw [decide_eq_true rfl]
    exact hJ w21 (hx20.trans hx21)
  intro g w22 hx22
  simp only [cond_true, List.getD_cons_zero, pick_t]
  exact hK w22 ((hx03.trans hx37).trans (hx8.trans hx22))
end
end Go.Proofs.YtcnjpcadejcenaaGreatDoor
namespace Go.Proofs.YtcnjpcadejcenaaGreatDoor
open Go Go.Eng Go.RowKit
set_option maxRecDepth 100000
section
variable [HX]
theorem row_0 {w : World} {K : Value → World → Prop} (hK : ∀ v w', Own w' w.heap.size ST 1 v 0 (([] : List Str).map str) → Ext w w' → K v w') : bslW ST 0 [] [] w K := by
  rw [bslW]
  simp only [put_nil]
  refine hK _ _ ?_ (Chg.alloc (Chg.refl _ _) _)
  have := own_new (w := w) (base := w.heap.size) (e := ST) (size := 1) (n := 0) (cs := []) (Nat.le_refl _) rfl (by omega)
  exact this
theorem app_ss {w0 w : World} {B : Nat} {v x : Value} {T : TypeId} {l m : List Str} {K : Value → World → Prop} (hO : Own w B ST 1 v l.length (l.map str)) (hx : SlAt w T x m.length (m.map str)) (hB : B ≤ w.heap.size) (hw : w0.heap.size ≤ B) (h0 : Ext w0 w) (hl : l.length + m.length ≤ 1000000)
    (hK : ∀ v' w', Own w' B ST 1 v' (l ++ m).length ((l ++ m).map str) → Ext w0 w' → Chg (fun k => v.ownBlock = some k) w w' → K v' w') : semE Tryz.prog (Builtin.append_ #[24, 24] 24 #[v, x]) w K := by
  refine append_own3 elem_s hO hx (m := m.length) (by simp) (strs_one m) (by omega) (by omega) hB fun v' w' hO' hc _ => ?_
  have hc' : Chg (fun k => B ≤ k) w w' := hc.mono fun k _ e => (own_in hO e).1
  refine hK v' w' (by rw [List.length_append, List.map_append]; exact hO') (h0.then hc' fun k hk e => by omega) hc
theorem row_x {w : World} {K : Value → World → Prop} {c : Str} (hK : ∀ t w', SlAt w' ST t ([c] : List Str).length (([c] : List Str).map str) → inG (From w.heap.size) t → Ext w w' → K t w') : bslW ST 1 [.string (ofL [])] [(0, 1, str c)] w K := by
  rw [bslW]
  simp only [put_str, put_nil, List.length_cons, List.length_nil, List.set_cons_zero]
  refine ⟨by omega, ?_⟩
  refine hK _ _ ⟨_, _, rfl, Nat.le_refl _, fun e => (by cases e), fun _ => ⟨_, _, _, _, rfl, heap_anew _ _ _ rfl, fun i _ => by rw [Nat.zero_add]; simp⟩⟩ (fun k hk => by cases hk; exact Nat.le_refl _) (Chg.alloc (Chg.refl _ _) _)
theorem within_true {a : AV} {cs : List Value} {T : TypeId} {mv : Value} {ms : List Str} {w : World} {K : Value → World → Prop} (hT : TabA w) (h : ARep w a cs) (hm : SlAt w T mv ms.length (ms.map str) ∧ ms.length ≤ 9223372036854775807) (hK : ∀ w', Ext w w' → K (.bool true) w') :
    callF Tryz.prog 14 [.agg cs.toArray, mv] w K := by
  obtain ⟨hm, hml⟩ := hm
  refine W14_ok ?_
  unfold W14
  refine box_a h fun p w1 sv hA hx1 hp hs0 => ?_
  refine awake_a (hT.ext hx1) fun w2 hx2 => ?_
  have hx02 := hx1.trans hx2
  have hA2 := hA.ext hx2
  rw [un_not, Bool.not_true]
  refine GdW.act (!decide (a.mods.length ≤ 50)) (fun w' => Ext w2 w') (fun e => by cases e) (fun _ J hJ => ?_) ?_
  · refine hA2.all ?_
    refine few_p hA2.rep fun w4 hx4 => ?_
    rw [un_not]
    exact hJ w4 hx4
  intro g w5 hx5
  simp only [List.getD_cons_zero, isB_f]
  rw [pick_gd_or, Bool.false_or]
  simp only [isB_f]
  have hm5 := hm.ext (hx02.trans hx5)
  refine GdW.act (decide (50 < ms.length)) (fun w' => w' = w5) (fun _ => rfl) (fun _ J hJ => ?_) ?_
  · rw [lenl_at hm5, bin_gtr, decide_eq_decide.2 (show ((50 : Int) < (ms.length : Int)) ↔ 50 < ms.length by omega)]
    exact hJ _ rfl
  rintro g w7 rfl
  simp only [List.getD_cons_zero]
  rw [pick_gd_or, condW_b]
  have hx07 := hx02.trans hx5
  refine ⟨fun _ => ?_, fun e => ?_⟩
  · exact awake_a (hT.ext hx07) fun w8 hx8 => hK w8 (hx07.trans hx8)
  simp only [Bool.or_eq_false_iff, Bool.not_eq_false', decide_eq_true_iff, decide_eq_false_iff_not] at e
  obtain ⟨n1, n2⟩ := e
  have hA7 := hA2.ext hx5
  obtain ⟨Ta, hs7⟩ := hA7.sl
  have hxd : ∀ w : World, Ext w w.drew := fun w => Chg.drew (Chg.refl (fun _ => False) w)
  -- the beginnings
  refine LoopW.go (fun st w' => ∃ i : Nat, i ≤ a.mods.length + 1 ∧ st = [i64 (i : Nat)] ∧ Ext w7 w') (fun st _ => match st with | [.int _ i] => a.mods.length + 1 - i.toNat | _ => 0) ⟨0, by omega, rfl, Chg.refl _ _⟩ ?_
  rintro st g w10 ⟨i, hi, rfl, hx10⟩
  simp only [List.getD_cons_zero, fld_ptr]
  have hA10 := hA7.ext hx10
  refine hA10.ld1 rfl ?_
  rw [lenl_at (hs7.ext hx10), bin_leq, condW_dec]
  refine ⟨fun hle => ?_, fun hgt => ?_⟩
  · have hle : i ≤ a.mods.length := by omega
    have hA10d := hA10.drew
    refine hA10d.all ?_
    refine hA10d.ld1 rfl ?_
    have hs10 := (hs7.ext hx10).ext (hxd w10)
    refine sll_take hs10 (by simp) hle fun v' hv' => ?_
    refine row_0 fun v0 w11 hO11 hx11 => ?_
    have hA11 := hA10d.ext hx11
    refine ⟨hA11.ld1 rfl rfl, hA11.all rfl, ?_⟩
    have hv2 : SlAt w11 Ta v' (a.mods.take i).length ((a.mods.take i).map str) := by
      rw [List.length_take, Nat.min_eq_left hle, List.map_take]
      exact hv'.ext hx11
    refine app_ss (w0 := w10.drew) hO11 hv2 hx11.size (Nat.le_refl _) hx11 (by simp; omega) fun v3 w12 hO12 hx12 _ => ?_
    have hA12 := hA10d.ext hx12
    refine ⟨hA12.all rfl, ?_⟩
    rw [List.nil_append] at hO12
    refine within_p hA12.rep hO12.sl (by rw [List.length_take]; omega) fun w13 hx13 => ?_
    have e1 : (a.mods.take i).length = i := by rw [List.length_take]; omega
    rw [e1, decide_eq_true hle, decide_eq_true rfl, un_not]
    simp only [Bool.and_self, Bool.not_true]
    rw [condW_false, bin_add, up1 (by omega)]
    exact ⟨⟨i + 1, by omega, rfl, hx10.trans ((hxd w10).trans (hx12.trans hx13))⟩, by simp only [Int.toNat_natCast]; omega⟩
  -- all of them
  have hm10 := hm5.ext hx10
  rw [lenl_at hm10]
  refine hA10.ld1 rfl ?_
  rw [lenl_at (hs7.ext hx10), bin_leq, show decide ((ms.length : Int) ≤ (a.mods.length : Int)) = decide (ms.length ≤ a.mods.length) from decide_eq_decide.2 (by omega)]
  refine LoopW.go (fun st w' => ∃ j : Nat, j ≤ ms.length ∧ (j ≤ a.mods.length ∨ a.mods.length < ms.length) ∧ st = [.bool (decide (ms.length ≤ a.mods.length) && decide (a.mods.take j = ms.take j)), i64 (j : Nat)] ∧ Ext w10 w') (fun st _ => match st with | [_, .int _ i] => ms.length - i.toNat | _ => 0)
    ⟨0, Nat.zero_le _, by omega, by simp, Chg.refl _ _⟩ ?_
  rintro st g w15 ⟨j, hj, hja, rfl, hx15⟩
  simp only [List.getD_cons_zero, List.getD_cons_succ]
  have hm15 := hm10.ext hx15
  have hs15 := (hs7.ext hx10).ext hx15
  have hA15 := hA10.ext hx15
  refine GdW.look (decide (j < ms.length)) (fun _ J hJ => ?_) fun g => ?_
  · rw [lenl_at hm15, bin_lss, decide_eq_decide.2 (show ((j : Int) < (ms.length : Int)) ↔ j < ms.length by omega)]
    exact hJ
  simp only [List.getD_cons_zero, isB_t]
  rw [pick_gd_and, condW_b]
  refine ⟨fun e => ?_, fun e => ?_⟩
  · simp only [Bool.and_eq_true, decide_eq_true_eq] at e
    obtain ⟨⟨e1, e2⟩, e3⟩ := e
    obtain ⟨u, hu⟩ : ∃ u, ms[j]? = some u := ⟨_, List.getElem?_eq_getElem e3⟩
    obtain ⟨v, hv⟩ : ∃ v, a.mods[j]? = some v := ⟨_, List.getElem?_eq_getElem (by omega)⟩
    refine text_ld (hm15.ext (hxd w15)) hu ?_
    refine hA15.drew.ld1 rfl ?_
    refine text_ld (hs15.ext (hxd w15)) hv ?_
    rw [bin_seq, bin_add, up1 (by omega)]
    refine ⟨⟨j + 1, by omega, by omega, ?_, hx15.trans (hxd w15)⟩, by simp only [Int.toNat_natCast]; omega⟩
    rw [decide_eq_true e1, Bool.true_and, List.take_add_one, List.take_add_one, e2, hu, hv]
    rw [show decide (List.take j ms ++ (some v).toList = List.take j ms ++ (some u).toList) = decide (u = v) from decide_eq_decide.2 ⟨fun h => by have := List.append_cancel_left h; simpa using this.symm, fun h => by rw [h]⟩]
  -- what was found
  have hsame : (decide (ms.length ≤ a.mods.length) && decide (a.mods.take j = ms.take j)) = (decide (ms.length ≤ a.mods.length) && decide (a.mods.take ms.length = ms)) := by
    by_cases h1 : ms.length ≤ a.mods.length
    · rw [decide_eq_true h1, Bool.true_and] at e ⊢
      rw [Bool.true_and]
      by_cases h2 : j < ms.length
      · rw [decide_eq_true h2, Bool.and_true] at e
        rw [e]
        symm
        rw [decide_eq_false_iff_not] at e ⊢
        exact fun h => e (by rw [← h, List.take_take, Nat.min_eq_left (by omega)])
      · obtain rfl : j = ms.length := by omega
        rw [List.take_length]
    · rw [decide_eq_false h1]; rfl
  rw [hsame]
  generalize hS : (decide (ms.length ≤ a.mods.length) && decide (a.mods.take ms.length = ms)) = S at *
  have hA15d := hA15.drew
  refine hA15d.all ?_
  refine row_0 fun v0 w18 hO18 hx18 => ?_
  have hA18 := hA15d.ext hx18
  refine ⟨hA18.all rfl, ?_⟩
  refine app_ss (w0 := w15.drew) hO18 ((hm15.ext (hxd w15)).ext hx18) hx18.size (Nat.le_refl _) hx18 (by simp; omega) fun v3 w19 hO19 hx19 _ => ?_
  have hA19 := hA15d.ext hx19
  refine ⟨hA19.all rfl, ?_⟩
  rw [List.nil_append] at hO19
  refine within_p hA19.rep hO19.sl (by omega) fun w20 hx20 => ?_
  rw [hS, eq_bb]
  have hbb : (S == S) = true := by simp
  rw [hbb]
  have hA20 := hA19.ext hx20
  have hs20 := ((hs15.ext (hxd w15)).ext hx19).ext hx20
  have hx020 : Ext w w20 := hx07.trans (hx10.trans (hx15.trans ((hxd w15).trans (hx19.trans hx20))))
  simp only [isB_t, GqW_t]
  have ldp : ∀ {w' : World}, Ext w20 w' → ldW false 1 (.pointer (some ((⟨p, 0, none⟩ : Addr).add 0))) w' fun x => x = sv := fun hx => (hA20.ext hx).ld1 rfl rfl
  have lda : ∀ {w' : World}, Ext w20 w' → ldW true 7 (.pointer (some ⟨p, 0, none⟩)) w' fun x => x = .agg (acs a sv).toArray := fun hx => (hA20.ext hx).all rfl
  refine ⟨_, lda (Chg.refl _ _), _, rfl, _, ldp (Chg.refl _ _), ?_⟩
  -- with one more it is within no more
  have fin : ∀ {w' : World} {v : Value} {B : Nat}, Ext w20 w' → Own w' B ST 1 v (a.mods ++ [[120]]).length ((a.mods ++ [[120]]).map str) →
      GeW true w' (fun k32 => callF Tryz.prog 41 [.agg (acs a sv).toArray, v] w' k32) fun t77 w33 => ∃ v, (unW .not t77 fun x => x = v) ∧ pickW (.bool true) v (.bool false) fun t79 => K t79 w33 := fun {w' v B} hx hO => by
    refine ⟨fun _ => ?_, fun e => by cases e⟩
    refine within_p (hA20.ext hx).rep hO.sl (by simp; omega) fun w33 hx33 => ?_
    rw [decide_eq_false (by simp), Bool.false_and]
    refine ⟨.bool true, by rw [un_not]; rfl, ?_⟩
    rw [pick_t]
    exact hK w33 (hx020.trans (hx.trans hx33))
  have ext1 : ∀ {w' w'' : World}, Ext w20 w' → Ext w' w'' → Ext w20 w'' := fun h1 h2 => h1.trans h2
  refine ⟨⟨fun _ => ?_, fun e => by cases e⟩, ⟨fun _ => ?_, fun e => by cases e⟩⟩
  · refine row_0 fun v4 w25 hO25 hx25 => ?_
    refine ⟨fun _ => ldp hx25, fun _ => lda hx25, ⟨fun _ => ?_, fun e => by cases e⟩, ⟨fun _ => ?_, fun e => by cases e⟩⟩
    · refine app_ss (w0 := w20) hO25 (hs20.ext hx25) hx25.size (Nat.le_refl _) hx25 (by simp; omega) fun v5 w27 hO27 hx27 _ => ?_
      rw [List.nil_append] at hO27
      refine ⟨fun _ => lda hx27, ⟨fun _ => ?_, fun e => by cases e⟩⟩
      refine row_x fun t w29 ht _ hx29 => ?_
      refine ⟨fun _ => lda (hx27.trans hx29), ⟨fun _ => ?_, fun e => by cases e⟩⟩
      refine app_ss (w0 := w20) (own_chg hO27 hx29 fun _ _ e => e) ht (by have := hx27.size; have := hx29.size; omega) (Nat.le_refl _) (hx27.trans hx29) (by simp; omega) fun v6 w31 hO31 hx31 _ => ?_
      exact ⟨fun _ => lda hx31, fin hx31 hO31⟩
    · refine row_x fun t w36 ht hin hx36 => ?_
      refine ⟨fun _ => ldp (hx25.trans hx36), fun _ => lda (hx25.trans hx36), ⟨fun _ => ?_, fun e => by cases e⟩⟩
      refine app_ss (w0 := w20) (own_chg hO25 hx36 fun _ _ e => e) (hs20.ext (hx25.trans hx36)) (by have := hx25.size; have := hx36.size; omega) (Nat.le_refl _) (hx25.trans hx36) (by simp; omega) fun v5 w38 hO38 hx38 hc38 => ?_
      rw [List.nil_append] at hO38
      refine ⟨fun _ => lda hx38, ⟨fun _ => ?_, fun e => by cases e⟩⟩
      have s25 := hx25.size
      have s36 := hx36.size
      have ht38 := slat_chgG ht (fun _ => hin) hc38 fun k hk _ e => by
        have := (own_in hO25 e).2.1
        have : w25.heap.size ≤ k := hk
        omega
      refine app_ss (w0 := w20) hO38 ht38 hx38.size (Nat.le_refl _) hx38 (by simp; omega) fun v6 w40 hO40 hx40 _ => ?_
      exact ⟨fun _ => lda hx40, fin hx40 hO40⟩
  · refine row_x fun t w45 ht hin hx45 => ?_
    refine ⟨fun _ => ldp hx45, fun _ => lda hx45, ⟨fun _ => ?_, fun e => by cases e⟩⟩
    refine row_0 fun v4 w47 hO47 hx47 => ?_
    have hx247 := hx45.trans hx47
    have s45 := hx45.size
    have s47 := hx47.size
    refine ⟨fun _ => ldp hx247, fun _ => lda hx247, ⟨fun _ => ?_, fun e => by cases e⟩⟩
    refine app_ss (w0 := w20) (B := w45.heap.size) hO47 (hs20.ext hx247) s47 s45 hx247 (by simp; omega) fun v5 w49 hO49 hx49 hc49 => ?_
    rw [List.nil_append] at hO49
    refine ⟨fun _ => lda hx49, ⟨fun _ => ?_, fun e => by cases e⟩⟩
    have ht47 := ht.ext hx47
    have htlt := slat_lt ht (by simp)
    have ht49 := slat_chgG (G := fun k => k < w45.heap.size) ht47 (fun _ => htlt) hc49 fun k hk _ e => by
      have := (own_in hO47 e).1
      omega
    refine app_ss (w0 := w20) hO49 ht49 (by have := hc49.size; omega) s45 hx49 (by simp; omega) fun v6 w51 hO51 hx51 _ => ?_
    exact ⟨fun _ => lda hx51, fin hx51 hO51⟩
end
end Go.Proofs.YtcnjpcadejcenaaGreatDoor
namespace Go.Eng
open Go Go.Deep
theorem flat_get {k : Nat} : ∀ (L : List (List Value)) (i r : Nat) (y : List Value), (∀ z ∈ L, z.length = k) → r < k → L[i]? = some y → L.flatten[i * k + r]? = y[r]?
  | [], i, _, _, _, _, h => by simp at h
  | z :: L, 0, r, y, hl, hr, h => by
    simp only [List.getElem?_cons_zero, Option.some.injEq] at h
    subst h
    simp only [List.flatten_cons, Nat.zero_mul, Nat.zero_add]
    rw [List.getElem?_append_left (by rw [hl z List.mem_cons_self]; exact hr)]
  | z :: L, i + 1, r, y, hl, hr, h => by
    simp only [List.getElem?_cons_succ] at h
    have := flat_get L i r y (fun u hu => hl u (List.mem_cons_of_mem _ hu)) hr h
    rw [← this]
    simp only [List.flatten_cons]
    have hz := hl z List.mem_cons_self
    rw [List.getElem?_append_right (by rw [hz, Nat.add_mul]; omega)]
    congr 1
    rw [hz, Nat.add_mul]
    omega
theorem flat_len {k : Nat} : ∀ (L : List (List Value)), (∀ z ∈ L, z.length = k) → L.flatten.length = L.length * k
  | [], _ => by simp
  | z :: L, hl => by
    rw [List.flatten_cons, List.length_append, flat_len L fun u hu => hl u (List.mem_cons_of_mem _ hu), hl z List.mem_cons_self, List.length_cons, Nat.add_mul]
    omega
section
variable {H : Type} {enc : TypeId × Value → H} {P : Program} {w : World} {base : Nat} {spare : Nat → Bool} {held : Bool}
theorem open_rows {t e : TypeId} {k fuel : Nat} {v : Value} {d : DataW H} {ps : List MemPlace} (ht : P.underlying t = some (.slice e)) (hk : P.cellsOf e = k) (hk0 : 0 < k) (h : DataW.trod enc P w base spare held fuel t [v] = some (d, ps)) :
    ∃ p n c T m, ∃ (f : Nat → List Value) (D : Nat → DataW H) (Pl : Nat → List MemPlace), v = .slice p n c ∧ SlAt w T (.slice p n c) n ((List.range n).map f).flatten ∧
      (∀ i, i < n → (f i).length = k ∧ DataW.trod enc P w base spare held m e (f i) = some (D i, Pl i)) ∧ ((n = 0 ∧ d = .nil) ∨ ∃ rest, d = .slice ((List.range n).map D) rest) := by
  rcases open_slice ht h with ⟨hc, hx⟩ | ⟨a, len, cap, m, n, D, Pl, hc, _, hl, hm, hme, hx, hel⟩
  · cases hc
    cases hx
    refine ⟨none, 0, 0, 0, 0, fun _ => [], fun _ => .nil, fun _ => [], rfl, ?_, fun i hi => by omega, .inl ⟨rfl, rfl⟩⟩
    simpa using SlAt.nil w 0
  · cases hc
    cases hx
    have hlm : len ≤ m := by rw [hme]; split <;> omega
    obtain ⟨f, hf⟩ := choose_lt (n := len) fun i hi => hel i (by omega)
    have hfl : ∀ i, i < len → (f i).length = k := fun i hi => by rw [(World.cells?_some (hf i hi).1).2.1, hk]
    have hall : ∀ z ∈ (List.range len).map f, z.length = k := by
      intro z hz
      obtain ⟨i, hi, rfl⟩ := List.mem_map.1 hz
      exact hfl i (List.mem_range.1 hi)
    have hcell : ∀ i r, i < len → r < k → w.cell? (a.add (i * k + r)) = (f i)[r]? := by
      intro i r hi hr
      have := (World.cells?_some (hf i hi).1).2.2 r (by omega)
      rw [add_add, hk] at this
      exact this
    by_cases h0 : len = 0
    · subst h0
      refine ⟨some a, 0, cap, 0, n, f, D, Pl, rfl, ⟨some a, cap, rfl, Nat.zero_le _, (by intro e; cases e), (by simp)⟩, fun i hi => by omega, .inr ⟨_, rfl⟩⟩
    have h00 := hcell 0 0 (by omega) hk0
    have hf0 := hfl 0 (by omega)
    rw [List.getElem?_eq_getElem (by omega)] at h00
    obtain ⟨c, T, fr, hb, hsp⟩ : ∃ c T fr, w.heap[a.block]? = some (.cells c T fr) ∧ a.spot = none := by
      unfold World.cell? at h00
      have e1 : (a.add (0 * k + 0)).block = a.block := by unfold Addr.add; split <;> rfl
      have e2 : (a.add (0 * k + 0)) = a := by unfold Addr.add; simp
      rw [e2] at h00
      split at h00
      · rename_i c T fr hb
        refine ⟨c, T, fr, hb, ?_⟩
        cases hs : a.spot with
        | none => rfl
        | some _ => simp [hs] at h00
      · cases h00
    obtain ⟨b, off, sp⟩ := a
    simp only at hsp hb
    subst hsp
    refine ⟨some ⟨b, off, none⟩, len, cap, T, n, f, D, Pl, rfl, ⟨_, _, rfl, hl, (by intro e; cases e), fun _ => ⟨b, off, c, fr, rfl, hb, fun j hj => ?_⟩⟩, fun i hi => ⟨hfl i hi, (hf i hi).2⟩, .inr ⟨_, rfl⟩⟩
    rw [flat_len _ hall, List.length_map, List.length_range] at hj
    have hi : j / k < len := by rw [Nat.div_lt_iff_lt_mul hk0]; exact hj
    have hr : j % k < k := Nat.mod_lt _ hk0
    have hjj : j / k * k + j % k = j := by rw [Nat.mul_comm]; exact Nat.div_add_mod j k
    have h1 := hcell (j / k) (j % k) hi hr
    rw [hjj, add_mk, cell_eq, hb, cellO_some] at h1
    have h2 := flat_get ((List.range len).map f) (j / k) (j % k) (f (j / k)) hall hr (by simp [hi])
    rw [hjj] at h2
    rw [h1, h2]
end
end Go.Eng
namespace Go.Proofs.YtcnjpcadejcenaaGreatDoor
open Go Go.Eng Go.Num Go.Deep
set_option maxRecDepth 100000
instance : Inhabited JV := ⟨JV.null⟩
section
variable {H : Type} {enc : TypeId × Value → H} {w : World} {base : Nat} {spare : Nat → Bool} {held : Bool}
theorem open_len {P : Program} {t e : TypeId} {fuel : Nat} {p : Option Addr} {n c : Nat} {x : DataW H × List MemPlace} (ht : P.underlying t = some (.slice e)) (h : DataW.trod enc P w base spare held fuel t [.slice p n c] = some x) : n ≤ 9223372036854775807 := by
  rcases Deep.open_slice ht h with ⟨hc, _⟩ | ⟨a, len, cap, m, n', D, Pl, hc, _, hl, hm, _⟩
  · cases hc; omega
  · cases hc; unfold maxLen at hm; omega
theorem open_texts {P : Program} {t e : TypeId} {fuel : Nat} {v : Value} {d : DataW H} {ps : List MemPlace} (ht : P.underlying t = some (.slice e)) (he : P.underlying e = some .string) (hk : P.cellsOf e = 1) (h : DataW.trod enc P w base spare held fuel t [v] = some (d, ps)) :
    ∃ (T : TypeId) (l : List Str), SlAt w T v l.length (l.map str) ∧ l.length ≤ 9223372036854775807 ∧ ∀ s ∈ l, s.length ≤ 9223372036854775807 := by
  obtain ⟨p, n, c, T, m, f, D, Pl, rfl, hs, hf, hd⟩ := open_rows ht hk (by omega) h
  have hn := open_len ht h
  have hex : ∀ i, i < n → ∃ b : Str, f i = [str b] ∧ b.length ≤ 9223372036854775807 := by
    intro i hi
    obtain ⟨s, hx, _, hw⟩ := DataW.trod_string he (hf i hi).2
    refine ⟨s.data.toList, by rw [hx]; simp [ofL], ?_⟩
    unfold maxLen at hw
    simpa using hw
  obtain ⟨g, hg⟩ := choose_lt hex
  have hfl : ((List.range n).map f).flatten = ((List.range n).map g).map str := by
    have : (List.range n).map f = (List.range n).map fun i => [str (g i)] := List.map_congr_left fun i hi => (hg i (List.mem_range.1 hi)).1
    rw [this]
    simp only [List.map_map]
    generalize List.range n = L
    induction L with
    | nil => rfl
    | cons a L ih => simp only [List.map_cons, List.flatten_cons, ih, Function.comp_apply]; rfl
  rw [hfl] at hs
  refine ⟨T, (List.range n).map g, by simpa using hs, by simpa using hn, fun s hs => ?_⟩
  obtain ⟨i, hi, rfl⟩ := List.mem_map.1 hs
  exact (hg i (List.mem_range.1 hi)).2
end
end Go.Proofs.YtcnjpcadejcenaaGreatDoor
namespace Go.Proofs.YtcnjpcadejcenaaGreatDoor
open Go.RowKit Go.Eng
set_option maxRecDepth 100000
theorem tab_reads {P : Program} {w : World} {name : String} {k : IntKind} {zs : List Int} {g : Nat} {t e : TypeId} {n : Nat} (hg : P.globalNamed name = some g) (hty : (P.globals[g]?).map (·.type) = some t) (ht : P.underlying t = some (.array n e)) (he : P.underlying e = some (.int k)) (hce : P.cellsOf e = 1) (hct : P.cellsOf t = n)
    (h : Lib.VarReads P w name (Lib.tabData k zs)) : Lib.TabIs P w name k zs := by
  obtain ⟨g', t', cs, fuel, p, hg', ht', hvar, hd⟩ := h
  obtain rfl := Option.some.inj (hg.symm.trans hg')
  obtain rfl := Option.some.inj (hty.symm.trans ht')
  unfold Lib.TabIs
  rw [hvar, ← Lib.cells_of_tab ht he hce hct hd]
def bruTab : List Int := [0, 1, 56, 2, 57, 49, 28, 3, 61, 58, 42, 50, 38, 29, 17, 4, 62, 47, 59, 36, 45, 43, 51, 22, 53, 39, 33, 30, 24, 18, 12, 5, 63, 55, 48, 27, 60, 41, 37, 16, 46, 35, 44, 21, 52, 32, 23, 11, 54, 26, 40, 15, 34, 20, 31, 10, 25, 14, 19, 9, 13, 8, 7, 6]
theorem tabs_of {w : World} (hL : laidMetH Tryz.prog Rows.reportPlacesRow.laid w) : Tabs w := by
  have h : laidMet Tryz.prog Rows.reportPlacesRow.laid w := by
    rw [Go.MakeChecks.laidMetH_plain _ _ _ (by kernel_rfl)] at hL
    exact hL
  have r : ∀ n d, (n, d) ∈ Rows.reportPlacesRow.laid → Lib.VarReads Tryz.prog w n d := fun n d hm => Lib.laidMet.reads h hm
  have r1 : Lib.VarReads Tryz.prog w "math/bits.deBruijn64tab" (Lib.tabData .u8 bruTab) := r _ _ (.tail _ (.head _))
  have r2 : Lib.VarReads Tryz.prog w "internal/strconv.uint64pow10" (Lib.tabData .u64 Lib.pow10Tab) := r _ _ (.tail _ (.tail _ (.head _)))
  have r3 : Lib.VarReads Tryz.prog w "unicode/utf8.acceptRanges" Lib.acceptData := r _ _ (.tail _ (.tail _ (.tail _ (.head _))))
  have r4 : Lib.VarReads Tryz.prog w "unicode/utf8.first" Lib.firstData := r _ _ (.tail _ (.tail _ (.tail _ (.tail _ (.tail _ (.tail _ (.head _)))))))
  refine ⟨?_, ?_, ?_⟩
  · exact Go.Proofs.utf8Tabs_of_readsT (Go.Proofs.U8Types.of196 Tryz.laysValid) ⟨by kernel_rfl, by kernel_rfl, by kernel_rfl, by kernel_rfl, by kernel_rfl, by kernel_rfl, by kernel_rfl⟩ r4 r3
  · have := tab_reads (g := 7) (t := 263) (e := U8) (n := 64) (by kernel_rfl) (by kernel_rfl) (by kernel_rfl) (by kernel_rfl) (by kernel_rfl) (by kernel_rfl) r1
    exact Lib.TabIs.cell this (by kernel_rfl) 15 (by decide)
  · exact tab_reads (g := 3) (t := 224) (e := U64) (n := 20) (by kernel_rfl) (by kernel_rfl) (by kernel_rfl) (by kernel_rfl) (by kernel_rfl) (by kernel_rfl) r2
section
variable {H : Type} {enc : TypeId × Value → H} {w : World} {base : Nat} {spare : Nat → Bool} {held : Bool}
end
end Go.Proofs.YtcnjpcadejcenaaGreatDoor
namespace Go.Proofs.YtcnjpcadejcenaaGreatDoor
open Go.RowKit Go.Eng
set_option maxRecDepth 100000
theorem trod_iface {P : Program} {w : World} {fuel : Nat} {t : TypeId} {cs : List Value} {s : String} {x : DataW Unit} {p : List MemPlace} {m : Array TypeId} (ht : ∃ m, P.underlying t = some (.interface m)) (h : DataW.trod (fun _ => ()) P w 0 (fun _ => true) false fuel t cs = some (.iface s x, p)) : ∃ u v, cs = [.iface u v] := by
  obtain ⟨m, ht⟩ := ht
  cases fuel with
  | zero => cases h
  | succ fuel =>
    unfold DataW.trod at h
    rw [ht] at h
    match cs, h with
    | [], h => cases h
    | [v], h =>
      cases v with
      | iface u v => exact ⟨u, v, rfl⟩
      | _ => cases h
    | a :: b :: r, h => simp at h
theorem tabe_of {w : World} {x : DataW Unit} {s : String} (h : Lib.VarReads Tryz.prog w "strconv.ErrSyntax" (.iface s x)) : TabE w := by
  obtain ⟨g', t', cs, fuel, p, hg', ht', hvar, hd⟩ := h
  have hg : Tryz.prog.globalNamed "strconv.ErrSyntax" = some 4 := by kernel_rfl
  have hty : (Tryz.prog.globals[4]?).map (·.type) = some 111 := by kernel_rfl
  obtain rfl := Option.some.inj (hg.symm.trans hg')
  obtain rfl := Option.some.inj (hty.symm.trans ht')
  obtain ⟨u, v, hcs⟩ := trod_iface (m := #[]) ⟨_, Tryz.underlying111⟩ hd
  have := World.var?_cell hg hvar 0
  refine ⟨u, v, ?_⟩
  rw [this]
  have e : cs = #[.iface u v] := by
    apply Array.ext'
    rw [hcs]
  rw [e]; rfl
theorem tabsj_of {w : World} (hL : laidMetH Tryz.prog Rows.jsoncBackRow.laid w) : TabJ w := by
  have h : laidMet Tryz.prog Rows.jsoncBackRow.laid w := by
    rw [Go.MakeChecks.laidMetH_plain _ _ _ (by kernel_rfl)] at hL
    exact hL
  have r : ∀ n d, (n, d) ∈ Rows.jsoncBackRow.laid → Lib.VarReads Tryz.prog w n d := fun n d hm => Lib.laidMet.reads h hm
  have hT := tabs_of (w := w) hL
  have r5 : Lib.VarReads Tryz.prog w "strconv.ErrSyntax" Rows.laid_strconv_ErrSyntax := r _ _ (.tail _ (.tail _ (.tail _ (.tail _ (.tail _ (.head _))))))
  exact ⟨hT.utf, hT.bru, tabe_of r5⟩
section
variable {H : Type} {enc : TypeId × Value → H} {w : World} {base : Nat} {spare : Nat → Bool} {held : Bool}
end
end Go.Proofs.YtcnjpcadejcenaaGreatDoor
namespace Go.Proofs.YtcnjpcadejcenaaGreatDoor
open Go Go.RowKit Go.Eng
set_option maxRecDepth 100000
theorem tabr_of {w : World} {x : DataW Unit} {s : String} (h : Lib.VarReads Tryz.prog w "strconv.ErrRange" (.iface s x)) : ∃ T v, w.cell? ⟨5, 0, none⟩ = some (.iface T v) := by
  obtain ⟨g', t', cs, fuel, p, hg', ht', hvar, hd⟩ := h
  have hg : Tryz.prog.globalNamed "strconv.ErrRange" = some 5 := by kernel_rfl
  have hty : (Tryz.prog.globals[5]?).map (·.type) = some 111 := by kernel_rfl
  obtain rfl := Option.some.inj (hg.symm.trans hg')
  obtain rfl := Option.some.inj (hty.symm.trans ht')
  obtain ⟨u, v, hcs⟩ := trod_iface (m := #[]) ⟨_, Tryz.underlying111⟩ hd
  have := World.var?_cell hg hvar 0
  refine ⟨u, v, ?_⟩
  rw [this]
  have e : cs = #[.iface u v] := by
    apply Array.ext'
    rw [hcs]
  rw [e]; rfl
theorem taba_of {w : World} (hL : laidMetH Tryz.prog Rows.addrWithinRow.laid w) : TabA w := by
  have h : laidMet Tryz.prog Rows.addrWithinRow.laid w := by
    rw [Go.MakeChecks.laidMetH_plain _ _ _ (by kernel_rfl)] at hL
    exact hL
  have r : ∀ n d, (n, d) ∈ Rows.addrWithinRow.laid → Lib.VarReads Tryz.prog w n d := fun n d hm => Lib.laidMet.reads h hm
  have hT := tabs_of (w := w) hL
  have hJ := tabsj_of (w := w) hL
  have r4 : Lib.VarReads Tryz.prog w "strconv.ErrRange" Rows.laid_strconv_ErrRange := r _ _ (.tail _ (.tail _ (.tail _ (.tail _ (.head _)))))
  exact ⟨hT, hJ.err, tabr_of r4⟩
section
variable {H : Type} {enc : TypeId × Value → H} {w : World} {base : Nat} {spare : Nat → Bool} {held : Bool}
theorem open_strs {v : Value} {d : DataW H} {ps : List MemPlace} {r : Reach} {b0 : Nat} (hval : Value.okWide Tryz.prog w r b0 24 v) (h : DataW.Trod enc Tryz.prog w base spare held 24 v d ps) : ∃ (T : TypeId) (l : List Str), SlAt w T v l.length (l.map str) ∧ l.length ≤ 9223372036854775807 := by
  obtain ⟨fuel, h⟩ := h
  obtain ⟨a, len, cap, rfl⟩ := Go.WideShapes.okWide_slice Tryz.underlying24 hval
  have hone : (Value.slice a len cap).cells.toList = [Value.slice a len cap] := rfl
  rw [hone] at h
  obtain ⟨T, l, h1, h2, _⟩ := open_texts Tryz.underlying24 Tryz.underlying9 (by kernel_rfl) h
  exact ⟨T, l, h1, h2⟩
theorem open_addrk {v : Value} {d : DataW H} {ps : List MemPlace} {r : Reach} {b0 : Nat} (hval : Value.okWide Tryz.prog w r b0 AdT v) (h : DataW.Trod enc Tryz.prog w base spare held AdT v d ps) :
    ∃ (a : AV) (cs : List Value), v = .agg cs.toArray ∧ ARep w a cs ∧ ∃ y, d = .agg [y, .lit (.string a.typ), .lit (.string a.nm), .lit (.int .i64 a.kind), .lit (.int .i64 a.num), .lit (.string a.key), .lit (.bool a.aside)] := by
  obtain ⟨fuel, h⟩ := h
  obtain ⟨xs, n, hn, hx, hl, hlen, hf⟩ := DataW.trod_struct Tryz.underlying60 h
  have hl7 : v.cells.toList.length = 7 := hl.trans (show Tryz.prog.cellsOf AdT = 7 by kernel_rfl)
  have k0 : Tryz.prog.cellsOf 24 = 1 := by kernel_rfl
  have k1 : Tryz.prog.cellsOf 9 = 1 := by kernel_rfl
  have k2 : Tryz.prog.cellsOf 3 = 1 := by kernel_rfl
  have k3 : Tryz.prog.cellsOf 4 = 1 := by kernel_rfl
  have e1 : IntKind.i64.min = -9223372036854775808 := by decide
  have e2 : IntKind.i64.max = 9223372036854775807 := by decide
  cases v with
  | agg arr =>
    obtain ⟨cs⟩ := arr
    simp only [Value.cells] at hl7 hf
    match cs, hl7 with
    | [c0, c1, c2, c3, c4, c5, c6], _ =>
    have f0 : DataW.trod enc Tryz.prog w base spare held n 24 (([c0, c1, c2, c3, c4, c5, c6].drop 0).take (Tryz.prog.cellsOf 24)) = xs[0]? := hf 0 _ rfl
    rw [k0] at f0
    have f0 : DataW.trod enc Tryz.prog w base spare held n 24 [c0] = xs[0]? := f0
    have f1 : DataW.trod enc Tryz.prog w base spare held n 9 (([c0, c1, c2, c3, c4, c5, c6].drop 1).take (Tryz.prog.cellsOf 9)) = xs[1]? := hf 1 _ rfl
    rw [k1] at f1
    have f1 : DataW.trod enc Tryz.prog w base spare held n 9 [c1] = xs[1]? := f1
    have f2 : DataW.trod enc Tryz.prog w base spare held n 9 (([c0, c1, c2, c3, c4, c5, c6].drop 2).take (Tryz.prog.cellsOf 9)) = xs[2]? := hf 2 _ rfl
    rw [k1] at f2
    have f2 : DataW.trod enc Tryz.prog w base spare held n 9 [c2] = xs[2]? := f2
    have f3 : DataW.trod enc Tryz.prog w base spare held n 3 (([c0, c1, c2, c3, c4, c5, c6].drop 3).take (Tryz.prog.cellsOf 3)) = xs[3]? := hf 3 _ rfl
    rw [k2] at f3
    have f3 : DataW.trod enc Tryz.prog w base spare held n 3 [c3] = xs[3]? := f3
    have f4 : DataW.trod enc Tryz.prog w base spare held n 3 (([c0, c1, c2, c3, c4, c5, c6].drop 4).take (Tryz.prog.cellsOf 3)) = xs[4]? := hf 4 _ rfl
    rw [k2] at f4
    have f4 : DataW.trod enc Tryz.prog w base spare held n 3 [c4] = xs[4]? := f4
    have f5 : DataW.trod enc Tryz.prog w base spare held n 9 (([c0, c1, c2, c3, c4, c5, c6].drop 5).take (Tryz.prog.cellsOf 9)) = xs[5]? := hf 5 _ rfl
    rw [k1] at f5
    have f5 : DataW.trod enc Tryz.prog w base spare held n 9 [c5] = xs[5]? := f5
    have f6 : DataW.trod enc Tryz.prog w base spare held n 4 (([c0, c1, c2, c3, c4, c5, c6].drop 6).take (Tryz.prog.cellsOf 4)) = xs[6]? := hf 6 _ rfl
    rw [k3] at f6
    have f6 : DataW.trod enc Tryz.prog w base spare held n 4 [c6] = xs[6]? := f6
    have hlen : xs.length = 7 := hlen
    match xs, hlen with
    | [y0, y1, y2, y3, y4, y5, y6], _ =>
    simp only [List.getElem?_cons_zero, List.getElem?_cons_succ] at f0 f1 f2 f3 f4 f5 f6
    obtain ⟨T0, ks, h0, l0, b0⟩ := open_texts Tryz.underlying24 Tryz.underlying9 k1 f0
    obtain ⟨a1, h1, z1, w1⟩ := DataW.trod_string Tryz.underlying9 f1
    obtain ⟨a2, h2, z2, w2⟩ := DataW.trod_string Tryz.underlying9 f2
    obtain ⟨a3, h3, z3, w3⟩ := DataW.trod_int Tryz.underlying3 f3
    obtain ⟨a4, h4, z4, w4⟩ := DataW.trod_int Tryz.underlying3 f4
    obtain ⟨a5, h5, z5, w5⟩ := DataW.trod_string Tryz.underlying9 f5
    obtain ⟨a6, h6, z6⟩ := DataW.trod_bool Tryz.underlying4 f6
    cases h1; cases h2; cases h3; cases h4; cases h5; cases h6
    simp only [Lit.wf, Bool.and_eq_true, decide_eq_true_eq, e1, e2] at w3 w4
    unfold maxLen at w1 w2 w5
    have ea : ∀ a : ByteArray, (Value.string a) = str a.data.toList := fun a => by simp [ofL]
    refine ⟨⟨ks, a1.data.toList, a2.data.toList, a3, a4, a5.data.toList, a6⟩, _, by rw [ea a1, ea a2, ea a5], ⟨c0, T0, rfl, h0, ⟨l0, by simpa using w1, by simpa using w2, by simpa using w5, w3, w4, b0⟩⟩, y0.1, ?_⟩
    have : d = .agg [y0.1, y1.1, y2.1, y3.1, y4.1, y5.1, y6.1] := by cases hx; rfl
    rw [this, z1, z2, z3, z4, z5, z6]
  | _ => simp [Value.cells] at hl7
theorem open_addr {v : Value} {d : DataW H} {ps : List MemPlace} {r : Reach} {b0 : Nat} (hval : Value.okWide Tryz.prog w r b0 AdT v) (h : DataW.Trod enc Tryz.prog w base spare held AdT v d ps) :
    ∃ (a : AV) (cs : List Value), v = .agg cs.toArray ∧ ARep w a cs := by
  obtain ⟨a, cs, h1, h2, _⟩ := open_addrk hval h
  exact ⟨a, cs, h1, h2⟩
theorem weigh_addr {y : DataW H} {t n k : Str} {c u : Int} {b : Bool} (h : (DataW.weightsEach Tryz.prog [AdT] [.agg [y, .lit (.string t), .lit (.string n), .lit (.int .i64 c), .lit (.int .i64 u), .lit (.string k), .lit (.bool b)]]).all (fun x => decide (x ≤ reachBytes)) = true) : k.length ≤ 140737488355328 := by
  have hu := Tryz.underlying60
  simp only [DataW.weightsEach, DataW.weights, hu, List.all_append, Bool.and_eq_true, List.map_cons, List.map_nil, List.all_cons, List.all_nil, List.append_nil, decide_eq_true_eq, Bool.and_true, List.nil_append] at h
  have e : reachBytes = 140737488351232 := by decide
  omega
end
end Go.Proofs.YtcnjpcadejcenaaGreatDoor
namespace Go.Proofs.YtcnjpcadejcenaaGreatDoor
open Go Go.Eng Go.RowKit
set_option maxRecDepth 100000
section
variable [HX]
theorem texts22_ref {a b : Str} {w : World} {K : Value → World → Prop} (hK : K (i64 (cmpB a b)) w) : callF Tryz.prog 95 [str a, str b] w K := by
  refine W95_ok ?_
  unfold W95
  simp only [wsv, wsg, wsh, wsl, cond_true, cond_false, exists_eq_left', Option.some.injEq, Option.isSome_some, List.getElem?_toArray, List.getElem?_cons_zero, List.getElem?_cons_succ, List.length_cons, List.length_nil, List.set_cons_zero, List.set_cons_succ, List.getD_cons_zero, List.getD_cons_succ, Nat.zero_add, Nat.add_zero, Nat.reduceAdd, Nat.reduceLT, Nat.lt_add_one, Nat.zero_lt_succ, decide_true, decide_false, ne_eq, reduceCtorEq]
  simp only [condW_b]
  unfold cmpB at hK
  refine ⟨fun h => ?_, fun h => ⟨fun h2 => ?_, fun h2 => ?_⟩⟩
  · rw [if_pos h] at hK; exact hK
  · have hne : a ≠ b := by rintro rfl; simp [less_irr] at h2
    rw [if_neg (by rw [h]; simp), if_neg hne] at hK; exact hK
  · have he : a = b := less_total h h2
    rw [if_neg (by rw [h]; simp), if_pos he] at hK; exact hK
theorem ints22_ref {a b : Int} {w : World} {K : Value → World → Prop} (hK : K (i64 (cmpI a b)) w) : callF Tryz.prog 96 [i64 a, i64 b] w K := by
  refine W96_ok ?_
  unfold W96
  simp only [wsv, wsg, wsh, wsl, cond_true, cond_false, exists_eq_left', Option.some.injEq, Option.isSome_some, List.getElem?_toArray, List.getElem?_cons_zero, List.getElem?_cons_succ, List.length_cons, List.length_nil, List.set_cons_zero, List.set_cons_succ, List.getD_cons_zero, List.getD_cons_succ, Nat.zero_add, Nat.add_zero, Nat.reduceAdd, Nat.reduceLT, Nat.lt_add_one, Nat.zero_lt_succ, decide_true, decide_false, ne_eq, reduceCtorEq, condW_dec]
  exact cmpI_K hK
theorem cmpKs_end : ∀ (a b : List Str), a = [] ∨ b = [] → cmpKs a b = cmpI (a.length : Nat) (b.length : Nat)
  | [], [], _ => rfl
  | [], y :: b, _ => by rw [cmpKs, cmpI, if_pos (by simp)]
  | x :: a, [], _ => by rw [cmpKs, cmpI, if_neg (by simp; omega), if_pos (by simp)]
  | x :: a, y :: b, h => by simp at h
theorem acmp_ref {a b : AV} {cs ds : List Value} {w : World} {K : Value → World → Prop} (h : ARep w a cs) (h' : ARep w b ds) (hK : ∀ w', Ext w w' → K (i64 (cmpA a b)) w') :
    callF Tryz.prog 40 [.agg cs.toArray, .agg ds.toArray] w K := by
  refine W40_ok ?_
  unfold W40
  refine box_a h fun p w1 sv hA hx1 hp hs0 => ?_
  refine box_a (h'.ext hx1) fun q w2 tv hB hx2 hq hs1 => ?_
  have hA := hA.ext hx2
  simp only [fld_ptr]
  obtain ⟨T1, hs1⟩ := hA.sl
  obtain ⟨T2, hs2⟩ := hB.sl
  have fa := hA.fits
  have fb := hB.fits
  refine LoopW.go (fun st w' => ∃ i : Nat, i ≤ a.mods.length ∧ i ≤ b.mods.length ∧ st = [i64 (i : Nat)] ∧ Ext w2 w' ∧ cmpKs (a.mods.drop i) (b.mods.drop i) = cmpKs a.mods b.mods) (fun st _ => match st with | [.int _ i] => a.mods.length - i.toNat | _ => 0) ⟨0, by omega, by omega, rfl, Chg.refl _ _, rfl⟩ ?_
  rintro st g w4 ⟨i, hia, hib, rfl, hx4, hc⟩
  simp only [List.getD_cons_zero]
  have hA4 := hA.ext hx4
  have hB4 := hB.ext hx4
  refine hA4.ld1 rfl ?_
  rw [lenl_at (hs1.ext hx4), bin_lss]
  refine GdW.look (decide (i < b.mods.length)) (fun _ J hJ => ?_) fun g => ?_
  · refine hB4.ld1 rfl ?_
    rw [lenl_at (hs2.ext hx4), bin_lss, show decide ((i : Int) < (b.mods.length : Int)) = decide (i < b.mods.length) from decide_eq_decide.2 (by omega)]
    exact hJ
  simp only [List.getD_cons_zero, isB_t]
  rw [pick_gd_and, condW_b]
  have hxd : ∀ w : World, Ext w w.drew := fun w => Chg.drew (Chg.refl (fun _ => False) w)
  refine ⟨fun e => ?_, fun e => ?_⟩
  · simp only [Bool.and_eq_true, decide_eq_true_eq] at e
    obtain ⟨e1, e2⟩ := e
    obtain ⟨u, hu⟩ : ∃ u, a.mods[i]? = some u := ⟨_, List.getElem?_eq_getElem (by omega)⟩
    obtain ⟨v, hv⟩ : ∃ v, b.mods[i]? = some v := ⟨_, List.getElem?_eq_getElem e2⟩
    have da : a.mods.drop i = u :: a.mods.drop (i + 1) := by
      rw [List.drop_eq_getElem_cons (by omega)]; congr 1
      exact Option.some.inj ((List.getElem?_eq_getElem (by omega)).symm.trans hu)
    have db : b.mods.drop i = v :: b.mods.drop (i + 1) := by
      rw [List.drop_eq_getElem_cons (by omega)]; congr 1
      exact Option.some.inj ((List.getElem?_eq_getElem (by omega)).symm.trans hv)
    rw [da, db, cmpKs] at hc
    refine hA4.drew.ld1 rfl ?_
    refine text_ld ((hs1.ext hx4).ext (hxd w4)) hu ?_
    refine hB4.drew.ld1 rfl ?_
    refine text_ld ((hs2.ext hx4).ext (hxd w4)) hv ?_
    refine texts22_ref ?_
    rw [bin_neq, condW_dec]
    refine ⟨fun hne => ?_, fun h0 => ?_⟩
    · have := hK w4.drew ((hx1.trans hx2).trans (hx4.trans (hxd w4)))
      have e5 : cmpA a b = cmpB u v := by
        unfold cmpA
        rw [← hc]
        unfold orI
        rw [if_neg hne, if_neg hne]
      rw [e5] at this
      exact this
    · have h0 : cmpB u v = 0 := Decidable.not_not.1 h0
      rw [h0] at hc
      rw [bin_add, up1 (by have := fa.mods; omega)]
      exact ⟨⟨i + 1, by omega, by omega, rfl, hx4.trans (hxd w4), by rw [← hc]; simp [orI]⟩, by simp only [Int.toNat_natCast]; omega⟩
  have hmods : cmpKs a.mods b.mods = cmpI (a.mods.length : Nat) (b.mods.length : Nat) := by
    rw [← hc, cmpKs_end]
    · rw [List.length_drop, List.length_drop]
      unfold cmpI
      congr 1
      · exact propext (by omega)
      · congr 1
        exact propext (by omega)
    · rw [List.drop_eq_nil_iff, List.drop_eq_nil_iff]
      by_cases h1 : i < a.mods.length
      · rw [decide_eq_true (by omega : (i : Int) < (a.mods.length : Int)), Bool.true_and, decide_eq_false_iff_not] at e
        omega
      · omega
  rw [put_nil]
  refine alloc_new fun c w9 hc9 hz9 hbc hx9 => ?_
  refine st_agg_at (l := [i64 0, i64 0]) hbc rfl rfl rfl fun w10 hz10 hbc10 hc10 => ?_
  have hx10 : Ext w4 w10 := hx9.new hc10 (by omega)
  have hA10 := hA4.ext hx10
  have hB10 := hB4.ext hx10
  refine JoinW.cut (fun st w' => st = [] ∧ Ext w4 w' ∧ w'.heap[c]? = some (.cells [i64 (truthI a.aside), i64 0].toArray 129 (0, 0))) ?_ ?_
  · refine hA10.ld1 rfl ?_
    rw [condW_b]
    refine ⟨fun e => ?_, fun e => ?_⟩
    · rw [ixa_arr]
      refine ⟨by omega, by omega, ?_⟩
      rw [add_mk]
      refine st_at hbc10 rfl (by simp) fun w12 hz12 hb12 hc12 => ?_
      refine ⟨rfl, hx10.new hc12 (by omega), ?_⟩
      rw [hb12, e]; rfl
    · rw [e]
      exact ⟨rfl, hx10, hbc10⟩
  rintro st g w13 ⟨rfl, hx13, hbc13⟩
  have hA13 := hA4.ext hx13
  have hB13 := hB4.ext hx13
  refine JoinW.cut (fun st w' => st = [] ∧ Ext w4 w' ∧ w'.heap[c]? = some (.cells [i64 (truthI a.aside), i64 (truthI b.aside)].toArray 129 (0, 0))) ?_ ?_
  · refine hB13.ld1 rfl ?_
    rw [condW_b]
    refine ⟨fun e => ?_, fun e => ?_⟩
    · rw [ixa_arr]
      refine ⟨by omega, by omega, ?_⟩
      rw [add_mk]
      refine st_at hbc13 rfl (by simp) fun w15 hz15 hb15 hc15 => ?_
      refine ⟨rfl, hx13.new hc15 (by omega), ?_⟩
      rw [hb15, e]; rfl
    · rw [e]
      exact ⟨rfl, hx13, hbc13⟩
  rintro st g w16 ⟨rfl, hx16, hbc16⟩
  let row : List Int := [cmpI (a.mods.length : Nat) (b.mods.length : Nat), cmpB a.typ b.typ, cmpB a.nm b.nm, cmpI a.kind b.kind, cmpI a.num b.num, cmpB a.key b.key, cmpI (truthI a.aside) (truthI b.aside)]
  have hA16 := (hA4.ext hx16).drew
  have hB16 := (hB4.ext hx16).drew
  have hs1d := ((hs1.ext hx4).ext hx16).ext (hxd w16)
  have hs2d := ((hs2.ext hx4).ext hx16).ext (hxd w16)
  have hbcd : w16.drew.heap[c]? = some (.cells [i64 (truthI a.aside), i64 (truthI b.aside)].toArray 129 (0, 0)) := hbc16
  have hx2d : Ext w2 w16.drew := hx4.trans (hx16.trans (hxd w16))
  have c0 : ∀ {w' : World} {K : Value → Prop}, Ext w16.drew w' → K (i64 (truthI a.aside)) → ldW false 1 (.pointer (some ((⟨c, 0, none⟩ : Addr).add (Int.toNat 0 * 1)))) w' K := fun {w' K} hx hk => by
    rw [ld_one]
    exact ⟨_, by rw [add_mk, cell_eq, hx.at hbcd id]; rfl, hk⟩
  have c1 : ∀ {w' : World} {K : Value → Prop}, Ext w16.drew w' → K (i64 (truthI b.aside)) → ldW false 1 (.pointer (some ((⟨c, 0, none⟩ : Addr).add (Int.toNat 1 * 1)))) w' K := fun {w' K} hx hk => by
    rw [ld_one]
    exact ⟨_, by rw [add_mk, cell_eq, hx.at hbcd id]; rfl, hk⟩
  refine JoinW.cut (fun st w' => ∃ d, st = [.pointer (some ⟨d, 0, none⟩)] ∧ Ext w2 w' ∧ w'.heap[d]? = some (.cells (row.map i64).toArray 130 (0, 0))) ?_ ?_
  · refine hA16.ld1 rfl ?_
    rw [lenl_at hs1d]
    refine hB16.ld1 rfl ?_
    rw [lenl_at hs2d]
    refine hA16.ld1 rfl ?_
    refine hB16.ld1 rfl ?_
    refine hA16.ld1 rfl ?_
    refine hB16.ld1 rfl ?_
    refine hA16.ld1 rfl ?_
    refine hB16.ld1 rfl ?_
    refine hA16.ld1 rfl ?_
    refine hB16.ld1 rfl ?_
    refine hA16.ld1 rfl ?_
    refine hB16.ld1 rfl ?_
    rw [ixa_arr]
    refine ⟨by omega, by omega, ?_⟩
    refine c0 (Chg.refl _ _) ?_
    rw [ixa_arr]
    refine ⟨by omega, by omega, ?_⟩
    refine c1 (Chg.refl _ _) ?_
    have r0 : Ext w16.drew w16.drew := Chg.refl _ _
    have fin : ∀ {w' : World} {d : Nat} {z : List Value}, Ext w16.drew w' → w'.heap[d]? = some (.cells z.toArray 130 (0, 0)) → z.length = 7 → w16.drew.heap.size ≤ d →
        stW 7 (.pointer (some ⟨d, 0, none⟩)) (.agg [i64 (cmpI (a.mods.length : Nat) (b.mods.length : Nat)), i64 (cmpB a.typ b.typ), i64 (cmpB a.nm b.nm), i64 (cmpI a.kind b.kind), i64 (cmpI a.num b.num), i64 (cmpB a.key b.key), i64 (cmpI (truthI a.aside) (truthI b.aside))].toArray) w' fun w27 => ∃ d' : Nat, [Value.pointer (some ⟨d, 0, none⟩)] = [Value.pointer (some ⟨d', 0, none⟩)] ∧ Ext w2 w27 ∧ w27.heap[d']? = some (Obj.cells (row.map i64).toArray 130 (0, 0)) := fun {w' d z} hx hb hz hd => by
      refine st_agg_at hb rfl hz rfl fun w27 hz27 hb27 hc27 => ?_
      exact ⟨d, rfl, hx2d.trans (hx.new hc27 hd), hb27⟩
    refine ⟨?_, ?_⟩
    · skip
      refine ints22_ref ?_
      refine ⟨c1 r0 rfl, c0 r0 rfl, hB16.ld1 rfl rfl, hA16.ld1 rfl rfl, hB16.ld1 rfl rfl, hA16.ld1 rfl rfl, hB16.ld1 rfl rfl, hA16.ld1 rfl rfl, hB16.ld1 rfl rfl, hA16.ld1 rfl rfl, hB16.ld1 rfl rfl, hA16.ld1 rfl rfl, ?_⟩
      refine ⟨?_, ?_⟩
      · skip
        refine texts22_ref ?_
        refine ⟨c1 r0 rfl, c0 r0 rfl, hB16.ld1 rfl rfl, hA16.ld1 rfl rfl, hB16.ld1 rfl rfl, hA16.ld1 rfl rfl, hB16.ld1 rfl rfl, hA16.ld1 rfl rfl, hB16.ld1 rfl rfl, hA16.ld1 rfl rfl, ?_⟩
        refine ⟨?_, ?_⟩
        · skip
          refine texts22_ref ?_
          refine ⟨c1 r0 rfl, c0 r0 rfl, hB16.ld1 rfl rfl, hA16.ld1 rfl rfl, hB16.ld1 rfl rfl, hA16.ld1 rfl rfl, hB16.ld1 rfl rfl, hA16.ld1 rfl rfl, ?_⟩
          refine ⟨?_, ?_⟩
          · skip
            refine ints22_ref ?_
            refine ⟨c1 r0 rfl, c0 r0 rfl, hB16.ld1 rfl rfl, hA16.ld1 rfl rfl, hB16.ld1 rfl rfl, hA16.ld1 rfl rfl, ?_⟩
            refine ⟨?_, ?_⟩
            · skip
              refine ints22_ref ?_
              refine ⟨c1 r0 rfl, c0 r0 rfl, hB16.ld1 rfl rfl, hA16.ld1 rfl rfl, ?_⟩
              refine ⟨?_, ?_⟩
              · skip
                refine texts22_ref ?_
                refine ⟨c1 r0 rfl, c0 r0 rfl, ?_⟩
                refine ⟨?_, ?_⟩
                · skip
                  refine ints22_ref ?_
                  simp only [put_int, put_nil, List.length_cons, List.length_nil, List.set_cons_zero, List.set_cons_succ]
                  refine ⟨by omega, by omega, by omega, by omega, by omega, by omega, by omega, ?_⟩
                  refine alloc_new fun d w8 hd hz8 hb8 hx8 => ?_
                  have hA8 := hA16.ext hx8
                  have hB8 := hB16.ext hx8
                  exact fin hx8 hb8 rfl (by omega)
                · skip
                  refine alloc_new fun d w8 hd hz8 hb8 hx8 => ?_
                  have hA8 := hA16.ext hx8
                  have hB8 := hB16.ext hx8
                  refine ⟨c1 hx8 rfl, c0 hx8 rfl, ?_⟩
                  refine ints22_ref ?_
                  simp only [put_int, put_nil, List.length_cons, List.length_nil, List.set_cons_zero, List.set_cons_succ]
                  refine ⟨by omega, by omega, by omega, by omega, by omega, by omega, by omega, ?_⟩
                  exact fin hx8 hb8 rfl (by omega)
              · skip
                refine alloc_new fun d w8 hd hz8 hb8 hx8 => ?_
                have hA8 := hA16.ext hx8
                have hB8 := hB16.ext hx8
                refine ⟨c1 hx8 rfl, c0 hx8 rfl, hB8.ld1 rfl rfl, hA8.ld1 rfl rfl, ?_⟩
                refine texts22_ref ?_
                refine ⟨c1 hx8 rfl, c0 hx8 rfl, ?_⟩
                refine ints22_ref ?_
                simp only [put_int, put_nil, List.length_cons, List.length_nil, List.set_cons_zero, List.set_cons_succ]
                refine ⟨by omega, by omega, by omega, by omega, by omega, by omega, by omega, ?_⟩
                exact fin hx8 hb8 rfl (by omega)
            · skip
              refine alloc_new fun d w8 hd hz8 hb8 hx8 => ?_
              have hA8 := hA16.ext hx8
              have hB8 := hB16.ext hx8
              refine ⟨c1 hx8 rfl, c0 hx8 rfl, hB8.ld1 rfl rfl, hA8.ld1 rfl rfl, hB8.ld1 rfl rfl, hA8.ld1 rfl rfl, ?_⟩
              refine ints22_ref ?_
              refine ⟨c1 hx8 rfl, c0 hx8 rfl, hB8.ld1 rfl rfl, hA8.ld1 rfl rfl, ?_⟩
              refine texts22_ref ?_
              refine ⟨c1 hx8 rfl, c0 hx8 rfl, ?_⟩
              refine ints22_ref ?_
              simp only [put_int, put_nil, List.length_cons, List.length_nil, List.set_cons_zero, List.set_cons_succ]
              refine ⟨by omega, by omega, by omega, by omega, by omega, by omega, by omega, ?_⟩
              exact fin hx8 hb8 rfl (by omega)
          · skip
            refine alloc_new fun d w8 hd hz8 hb8 hx8 => ?_
            have hA8 := hA16.ext hx8
            have hB8 := hB16.ext hx8
            refine ⟨c1 hx8 rfl, c0 hx8 rfl, hB8.ld1 rfl rfl, hA8.ld1 rfl rfl, hB8.ld1 rfl rfl, hA8.ld1 rfl rfl, hB8.ld1 rfl rfl, hA8.ld1 rfl rfl, ?_⟩
            refine ints22_ref ?_
            refine ⟨c1 hx8 rfl, c0 hx8 rfl, hB8.ld1 rfl rfl, hA8.ld1 rfl rfl, hB8.ld1 rfl rfl, hA8.ld1 rfl rfl, ?_⟩
            refine ints22_ref ?_
            refine ⟨c1 hx8 rfl, c0 hx8 rfl, hB8.ld1 rfl rfl, hA8.ld1 rfl rfl, ?_⟩
            refine texts22_ref ?_
            refine ⟨c1 hx8 rfl, c0 hx8 rfl, ?_⟩
            refine ints22_ref ?_
            simp only [put_int, put_nil, List.length_cons, List.length_nil, List.set_cons_zero, List.set_cons_succ]
            refine ⟨by omega, by omega, by omega, by omega, by omega, by omega, by omega, ?_⟩
            exact fin hx8 hb8 rfl (by omega)
        · skip
          refine alloc_new fun d w8 hd hz8 hb8 hx8 => ?_
          have hA8 := hA16.ext hx8
          have hB8 := hB16.ext hx8
          refine ⟨c1 hx8 rfl, c0 hx8 rfl, hB8.ld1 rfl rfl, hA8.ld1 rfl rfl, hB8.ld1 rfl rfl, hA8.ld1 rfl rfl, hB8.ld1 rfl rfl, hA8.ld1 rfl rfl, hB8.ld1 rfl rfl, hA8.ld1 rfl rfl, ?_⟩
          refine texts22_ref ?_
          refine ⟨c1 hx8 rfl, c0 hx8 rfl, hB8.ld1 rfl rfl, hA8.ld1 rfl rfl, hB8.ld1 rfl rfl, hA8.ld1 rfl rfl, hB8.ld1 rfl rfl, hA8.ld1 rfl rfl, ?_⟩
          refine ints22_ref ?_
          refine ⟨c1 hx8 rfl, c0 hx8 rfl, hB8.ld1 rfl rfl, hA8.ld1 rfl rfl, hB8.ld1 rfl rfl, hA8.ld1 rfl rfl, ?_⟩
          refine ints22_ref ?_
          refine ⟨c1 hx8 rfl, c0 hx8 rfl, hB8.ld1 rfl rfl, hA8.ld1 rfl rfl, ?_⟩
          refine texts22_ref ?_
          refine ⟨c1 hx8 rfl, c0 hx8 rfl, ?_⟩
          refine ints22_ref ?_
          simp only [put_int, put_nil, List.length_cons, List.length_nil, List.set_cons_zero, List.set_cons_succ]
          refine ⟨by omega, by omega, by omega, by omega, by omega, by omega, by omega, ?_⟩
          exact fin hx8 hb8 rfl (by omega)
      · skip
        refine alloc_new fun d w8 hd hz8 hb8 hx8 => ?_
        have hA8 := hA16.ext hx8
        have hB8 := hB16.ext hx8
        refine ⟨c1 hx8 rfl, c0 hx8 rfl, hB8.ld1 rfl rfl, hA8.ld1 rfl rfl, hB8.ld1 rfl rfl, hA8.ld1 rfl rfl, hB8.ld1 rfl rfl, hA8.ld1 rfl rfl, hB8.ld1 rfl rfl, hA8.ld1 rfl rfl, hB8.ld1 rfl rfl, hA8.ld1 rfl rfl, ?_⟩
        refine texts22_ref ?_
        refine ⟨c1 hx8 rfl, c0 hx8 rfl, hB8.ld1 rfl rfl, hA8.ld1 rfl rfl, hB8.ld1 rfl rfl, hA8.ld1 rfl rfl, hB8.ld1 rfl rfl, hA8.ld1 rfl rfl, hB8.ld1 rfl rfl, hA8.ld1 rfl rfl, ?_⟩
        refine texts22_ref ?_
        refine ⟨c1 hx8 rfl, c0 hx8 rfl, hB8.ld1 rfl rfl, hA8.ld1 rfl rfl, hB8.ld1 rfl rfl, hA8.ld1 rfl rfl, hB8.ld1 rfl rfl, hA8.ld1 rfl rfl, ?_⟩
        refine ints22_ref ?_
        refine ⟨c1 hx8 rfl, c0 hx8 rfl, hB8.ld1 rfl rfl, hA8.ld1 rfl rfl, hB8.ld1 rfl rfl, hA8.ld1 rfl rfl, ?_⟩
        refine ints22_ref ?_
        refine ⟨c1 hx8 rfl, c0 hx8 rfl, hB8.ld1 rfl rfl, hA8.ld1 rfl rfl, ?_⟩
        refine texts22_ref ?_
        refine ⟨c1 hx8 rfl, c0 hx8 rfl, ?_⟩
        refine ints22_ref ?_
        simp only [put_int, put_nil, List.length_cons, List.length_nil, List.set_cons_zero, List.set_cons_succ]
        refine ⟨by omega, by omega, by omega, by omega, by omega, by omega, by omega, ?_⟩
        exact fin hx8 hb8 rfl (by omega)
    · skip
      refine alloc_new fun d w8 hd hz8 hb8 hx8 => ?_
      have hA8 := hA16.ext hx8
      have hB8 := hB16.ext hx8
      refine ⟨c1 hx8 rfl, c0 hx8 rfl, hB8.ld1 rfl rfl, hA8.ld1 rfl rfl, hB8.ld1 rfl rfl, hA8.ld1 rfl rfl, hB8.ld1 rfl rfl, hA8.ld1 rfl rfl, hB8.ld1 rfl rfl, hA8.ld1 rfl rfl, hB8.ld1 rfl rfl, hA8.ld1 rfl rfl, hB8.ld1 rfl rfl, hA8.ld1 rfl rfl, ?_⟩
      refine ints22_ref ?_
      refine ⟨c1 hx8 rfl, c0 hx8 rfl, hB8.ld1 rfl rfl, hA8.ld1 rfl rfl, hB8.ld1 rfl rfl, hA8.ld1 rfl rfl, hB8.ld1 rfl rfl, hA8.ld1 rfl rfl, hB8.ld1 rfl rfl, hA8.ld1 rfl rfl, hB8.ld1 rfl rfl, hA8.ld1 rfl rfl, ?_⟩
      refine texts22_ref ?_
      refine ⟨c1 hx8 rfl, c0 hx8 rfl, hB8.ld1 rfl rfl, hA8.ld1 rfl rfl, hB8.ld1 rfl rfl, hA8.ld1 rfl rfl, hB8.ld1 rfl rfl, hA8.ld1 rfl rfl, hB8.ld1 rfl rfl, hA8.ld1 rfl rfl, ?_⟩
      refine texts22_ref ?_
      refine ⟨c1 hx8 rfl, c0 hx8 rfl, hB8.ld1 rfl rfl, hA8.ld1 rfl rfl, hB8.ld1 rfl rfl, hA8.ld1 rfl rfl, hB8.ld1 rfl rfl, hA8.ld1 rfl rfl, ?_⟩
      refine ints22_ref ?_
      refine ⟨c1 hx8 rfl, c0 hx8 rfl, hB8.ld1 rfl rfl, hA8.ld1 rfl rfl, hB8.ld1 rfl rfl, hA8.ld1 rfl rfl, ?_⟩
      refine ints22_ref ?_
      refine ⟨c1 hx8 rfl, c0 hx8 rfl, hB8.ld1 rfl rfl, hA8.ld1 rfl rfl, ?_⟩
      refine texts22_ref ?_
      refine ⟨c1 hx8 rfl, c0 hx8 rfl, ?_⟩
      refine ints22_ref ?_
      simp only [put_int, put_nil, List.length_cons, List.length_nil, List.set_cons_zero, List.set_cons_succ]
      refine ⟨by omega, by omega, by omega, by omega, by omega, by omega, by omega, ?_⟩
      exact fin hx8 hb8 rfl (by omega)
  rintro st g w17 ⟨d, rfl, hx17, hbd⟩
  simp only [List.getD_cons_zero]
  have hcmp : orL row = cmpA a b := by
    show orL [_, _, _, _, _, _, _] = _
    simp only [orL, orI_z]
    unfold cmpA
    rw [hmods]
  refine loop_up 7 (fun i w' => w' = w17 ∧ ∀ j x, j < i → row[j]? = some x → x = 0) ⟨rfl, fun j x hj => by omega⟩ ?_ ?_
  · rintro i w18 g L hi ⟨rfl, h1⟩ hL
    obtain ⟨x, hx⟩ : ∃ x, row[i]? = some x := ⟨_, List.getElem?_eq_getElem (show i < row.length from hi)⟩
    simp only [List.getD_cons_zero]
    rw [bin_lss, decide_eq_true (by omega), condW_true]
    have ldx : ∀ K : Value → Prop, K (i64 x) → ixaW (some 7) 1 (.pointer (some ⟨d, 0, none⟩)) (i64 (i : Nat)) fun t => ldW false 1 t w18 K := fun K hk => by
      rw [ixa_arr]
      refine ⟨by omega, by omega, ?_⟩
      rw [ld_one]
      refine ⟨_, ?_, hk⟩
      rw [add_mk, cell_eq, hbd, cellO_some, Int.toNat_natCast, Nat.mul_one, Nat.zero_add]
      simp [hx]
    refine ldx _ ?_
    rw [bin_neq, condW_dec]
    refine ⟨fun hne => ?_, fun h0 => ?_⟩
    · refine ldx _ ?_
      have := hK w18 ((hx1.trans hx2).trans hx17)
      have hil : i < row.length := hi
      rw [← hcmp, orL_skip row i h1, List.drop_eq_getElem_cons hil] at this
      have e := Option.some.inj ((List.getElem?_eq_getElem hil).symm.trans hx)
      rw [e] at this
      simp only [orL, orI, if_neg hne] at this
      exact this
    · have h0 : x = 0 := Decidable.not_not.1 h0
      rw [bin_add, up1 (by omega)]
      refine hL w18 ⟨rfl, fun j y hj hy => ?_⟩
      rcases Nat.lt_or_ge j i with h | h
      · exact h1 j y h hy
      · obtain rfl : j = i := by omega
        rw [hx] at hy
        cases hy
        exact h0
  · rintro w18 g L ⟨rfl, h1⟩
    simp only [List.getD_cons_zero]
    rw [bin_lss, decide_eq_false (by omega), condW_false]
    have := hK w18 ((hx1.trans hx2).trans hx17)
    rw [← hcmp, orL_skip row 7 h1] at this
    exact this
end
end Go.Proofs.YtcnjpcadejcenaaGreatDoor
namespace Go.Proofs.YtcnjpcadejcenaaGreatDoor
open Go Go.Eng Go.RowKit
set_option maxRecDepth 100000
theorem orI_rng {x y : Int} (h : -1 ≤ x ∧ x ≤ 1) (h' : -1 ≤ y ∧ y ≤ 1) : -1 ≤ orI x y ∧ orI x y ≤ 1 := by
  unfold orI
  split <;> omega
theorem cmpI_rg (x y : Int) : -1 ≤ cmpI x y ∧ cmpI x y ≤ 1 := by
  unfold cmpI
  split
  · omega
  · split <;> omega
theorem cmpB_rg : ∀ a b : Str, -1 ≤ cmpB a b ∧ cmpB a b ≤ 1 := fun a b => by
  unfold cmpB
  repeat' split
  all_goals omega
theorem cmpKs_rg : ∀ a b : List Str, -1 ≤ cmpKs a b ∧ cmpKs a b ≤ 1
  | [], [] => by simp [cmpKs]
  | [], _ :: _ => by simp [cmpKs]
  | _ :: _, [] => by simp [cmpKs]
  | a :: l, b :: m => by
    unfold cmpKs
    exact orI_rng (cmpB_rg _ _) (cmpKs_rg l m)
theorem cmpA_rg (a b : AV) : -1 ≤ cmpA a b ∧ cmpA a b ≤ 1 :=
  orI_rng (cmpKs_rg _ _) (orI_rng (cmpB_rg _ _) (orI_rng (cmpB_rg _ _) (orI_rng (cmpI_rg _ _) (orI_rng (cmpI_rg _ _) (orI_rng (cmpB_rg _ _) (cmpI_rg _ _))))))
section
variable [HX]
theorem aorder_true {a b c : AV} {cs ds es : List Value} {w : World} {K : Value → World → Prop} (hT : TabA w) (h : ARep w a cs) (h' : ARep w b ds) (h'' : ARep w c es) (hK : ∀ w', Ext w w' → K (.bool true) w') :
    callF Tryz.prog 13 [.agg cs.toArray, .agg ds.toArray, .agg es.toArray] w K := by
  refine W13_ok ?_
  unfold W13
  refine box_a h fun p w1 sv hA hx1 hp hs0 => ?_
  refine box_a (h'.ext hx1) fun q w2 tv hB hx2 hq hs1 => ?_
  have hx02 := hx1.trans hx2
  refine box_a (h''.ext hx02) fun r w3 uv hC hx3 hr hs2 => ?_
  have hx03 := hx02.trans hx3
  refine awake_a (hT.ext hx03) fun w4 hx4 => ?_
  have hx04 := hx03.trans hx4
  have hA4 := (hA.ext (hx2.trans hx3)).ext hx4
  have hB4 := (hB.ext hx3).ext hx4
  have hC4 := hC.ext hx4
  rw [un_not, Bool.not_true]
  refine GdW.act (!decide (a.mods.length ≤ 50)) (fun w' => Ext w4 w') (fun e => by cases e) (fun _ J hJ => ?_) ?_
  · refine hA4.all ?_
    refine few_p hA4.rep fun w6 hx6 => ?_
    rw [un_not]
    exact hJ w6 hx6
  intro g w7 hx7
  simp only [List.getD_cons_zero, isB_f]
  rw [pick_gd_or, Bool.false_or]
  simp only [isB_f]
  have hB7 := hB4.ext hx7
  refine GdW.act (!decide (b.mods.length ≤ 50)) (fun w' => Ext w7 w') (fun _ => Chg.refl _ _) (fun _ J hJ => ?_) ?_
  · refine hB7.all ?_
    refine few_p hB7.rep fun w6 hx6 => ?_
    rw [un_not]
    exact hJ w6 hx6
  intro g w10 hx10
  simp only [List.getD_cons_zero]
  rw [pick_gd_or]
  simp only [isB_f]
  have hC10 := (hC4.ext hx7).ext hx10
  refine GdW.act (!decide (c.mods.length ≤ 50)) (fun w' => Ext w10 w') (fun _ => Chg.refl _ _) (fun _ J hJ => ?_) ?_
  · refine hC10.all ?_
    refine few_p hC10.rep fun w6 hx6 => ?_
    rw [un_not]
    exact hJ w6 hx6
  intro g w13 hx13
  simp only [List.getD_cons_zero]
  rw [pick_gd_or, condW_b]
  have hx413 := (hx7.trans hx10).trans hx13
  have hx13a := hx04.trans hx413
  have hA13 := hA4.ext hx413
  have hB13 := hB4.ext hx413
  have hC13 := hC10.ext hx13
  refine ⟨fun _ => ?_, fun _ => ?_⟩
  · exact awake_a (hT.ext hx13a) fun w14 hx14 => hK w14 (hx13a.trans hx14)
  refine hA13.all ?_
  refine hB13.all ?_
  refine acmp_p hA13.rep hB13.rep fun w15 hx15 => ?_
  have hxd : ∀ w : World, Ext w w.drew := fun w => Chg.drew (Chg.refl (fun _ => False) w)
  have hx15d := hx15.trans (hxd w15)
  have hA15 := hA13.ext hx15d
  have hB15 := hB13.ext hx15d
  refine hA15.all ?_
  refine hB15.all ?_
  refine ref_p hA15.rep fun w16 hx16 ra16 => ?_
  refine ⟨(hB15.ext hx16).all rfl, ?_⟩
  refine ref_p (hB15.ext hx16).rep fun w17 hx17 rb17 => ?_
  refine acmp_ref (ra16.ext hx17) rb17 fun w18 hx18 => ?_
  rw [bin_neq, decide_eq_false (by simp)]
  have hx1518 := (hx16.trans hx17).trans hx18
  have hA18 := hA15.ext hx1518
  have hB18 := hB15.ext hx1518
  simp only [isB_f, isB_t, Bool.not_false, GqW_t, GqW_f]
  have hrg := cmpA_rg a b
  have wr : IntKind.i64.wrap (0 - cmpA a b) = - cmpA a b := by
    rw [wrap_id (by omega) (by omega)]; omega
  refine ⟨_, hB18.all rfl, _, hA18.all rfl, _, rfl, _, by rw [un_neg], ?_⟩
  refine ⟨fun _ => ?_, fun e => by cases e⟩
  refine acmp_p hB18.rep hA18.rep fun w24 hx24 => ?_
  have hA24 := hA18.ext hx24
  have hB24 := hB18.ext hx24
  rw [wr, ← lin_addr.anti a b]
  refine ⟨_, by rw [bin_neq, decide_eq_false (by simp)], ?_⟩
  rw [pick_f]
  simp only [isB_f, isB_t, Bool.not_false, GqW_t, GqW_f]
  refine ⟨_, rfl, _, by rw [bin_eql], _, hA24.all rfl, _, hB24.all rfl, ?_⟩
  refine ⟨fun _ => ?_, fun e => by cases e⟩
  refine ref_p hA24.rep fun w31 hx31 ra31 => ?_
  refine ⟨fun _ => (hB24.ext hx31).all rfl, ⟨fun _ => ?_, fun e => by cases e⟩⟩
  refine ref_p (hB24.ext hx31).rep fun w33 hx33 rb33 => ?_
  refine ⟨fun _ => ?_, fun e => by cases e⟩
  refine same22_ref (ra31.ext hx33) rb33 fun w35 hx35 => ?_
  have hse : sameA a b = decide (cmpA a b = 0) := by
    rw [Bool.eq_iff_iff, sameA_iff, decide_eq_true_iff, lin_addr.zero]
  rw [hse]
  have hx2435 := (hx31.trans hx33).trans hx35
  have hA35 := hA24.ext hx2435
  have hB35 := hB24.ext hx2435
  have hC35 := ((((hC13.ext hx15d).ext hx1518).ext hx24).ext hx2435)
  have hx35a : Ext w w35 := hx13a.trans (hx15d.trans (hx1518.trans (hx24.trans hx2435)))
  refine ⟨.bool false, by simp [eqW], ?_⟩
  rw [pick_f, condW_false, bin_gtr]
  refine GdW.act (decide (0 < cmpA b c)) (fun w' => Ext w35 w') (fun _ => Chg.refl _ _) (fun _ J hJ => ?_) ?_
  · refine hB35.all ?_
    refine hC35.all ?_
    refine acmp_p hB35.rep hC35.rep fun w38 hx38 => ?_
    rw [bin_gtr]
    exact hJ w38 hx38
  intro g w39 hx39
  simp only [List.getD_cons_zero, isB_f]
  rw [pick_gd_or]
  simp only [isB_f]
  have hA39 := hA35.ext hx39
  have hC39 := hC35.ext hx39
  refine GdW.act (decide (cmpA a c ≤ 0)) (fun w' => Ext w39 w') (fun _ => Chg.refl _ _) (fun _ J hJ => ?_) ?_
  · refine hA39.all ?_
    refine hC39.all ?_
    refine acmp_p hA39.rep hC39.rep fun w41 hx41 => ?_
    rw [bin_leq]
    exact hJ w41 hx41
  intro g w42 hx42
  simp only [List.getD_cons_zero]
  rw [pick_gd_or]
  have e : (decide (0 < cmpA a b) || decide (0 < cmpA b c) || decide (cmpA a c ≤ 0)) = true := by
    simp only [Bool.or_eq_true, decide_eq_true_eq]
    rcases Int.lt_or_le 0 (cmpA a b) with h1 | h1
    · exact .inl (.inl h1)
    rcases Int.lt_or_le 0 (cmpA b c) with h2 | h2
    · exact .inl (.inr h2)
    exact .inr (lin_addr.trans a b c h1 h2)
  rw [e]
  exact hK w42 (hx35a.trans (hx39.trans hx42))
end
end Go.Proofs.YtcnjpcadejcenaaGreatDoor
namespace Go.Proofs.YtcnjpcadejcenaaGreatDoor
open Go Go.Eng Go.RowKit
set_option maxRecDepth 100000
section
variable [HX]
theorem good22_ref {a : AV} {cs : List Value} {w : World} {K : Value → World → Prop} (h : ARep w a cs) (hk : a.key.length ≤ 4611686018427387904) (hK : ∀ w', Ext w w' → K (.bool (goodAd a)) w') :
    callF Tryz.prog 33 [.agg cs.toArray] w K := by
  refine W33_ok ?_
  unfold W33
  refine box_a h fun p w1 sv hA hx1 hp hs0 => ?_
  have fit := hA.fits
  obtain ⟨T, hs⟩ := hA.sl
  simp only [fld_ptr]
  refine hA.ld1 rfl ?_
  rw [lenl_at hs]
  refine loop_up a.mods.length (fun i w' => w' = w1 ∧ (a.mods.take i).all nameM = true) ⟨rfl, by simp⟩ ?_ ?_
  · rintro i w3 g L hi ⟨rfl, h1⟩ hL
    simp only [List.getD_cons_zero]
    rw [bin_lss, decide_eq_true (by omega), condW_true]
    refine hA.ld1 rfl ?_
    obtain ⟨m, hm⟩ : ∃ m, a.mods[i]? = some m := ⟨_, List.getElem?_eq_getElem hi⟩
    refine text_ld hs hm ?_
    refine name_ref (fit.each m (List.mem_of_getElem? hm)) ?_
    rw [un_not, condW_b]
    refine ⟨fun e => ?_, fun e => ?_⟩
    · have : goodAd a = false := by
        have hn : a.mods.all nameM = false := by
          rw [Bool.not_eq_true'] at e
          rw [List.all_eq_false]
          exact ⟨m, List.mem_of_getElem? hm, by rw [e]; simp⟩
        unfold goodAd
        rw [hn]
        simp
      rw [← this]
      exact hK w3 hx1
    · rw [bin_add, up1 (by have := fit.mods; omega)]
      refine hL w3 ⟨rfl, ?_⟩
      rw [List.take_add_one, hm]
      simp only [Option.toList_some, List.all_append, List.all_cons, List.all_nil, Bool.and_true, h1, Bool.true_and]
      simpa using e
  rintro w3 g L ⟨rfl, h1⟩
  rw [List.take_length] at h1
  simp only [List.getD_cons_zero]
  rw [bin_lss, decide_eq_false (by omega), condW_false]
  refine hA.ld1 rfl ?_
  rw [lenl_at hs, bin_gtr]
  simp only [isB_f]
  refine GdW.look (!nameM a.typ) (fun _ J hJ => ?_) fun g => ?_
  · refine hA.ld1 rfl ?_
    refine name_ref fit.typ ?_
    rw [un_not]
    exact hJ
  simp only [List.getD_cons_zero]
  rw [pick_gd_or]
  simp only [isB_f]
  refine GdW.look (!nameM a.nm) (fun _ J hJ => ?_) fun g => ?_
  · refine hA.ld1 rfl ?_
    refine name_ref fit.nm ?_
    rw [un_not]
    exact hJ
  simp only [List.getD_cons_zero]
  rw [pick_gd_or, condW_b]
  have hg0 : goodAd a = (decide (a.mods.length ≤ 4) && nameM a.typ && nameM a.nm && (if a.kind = 0 then decide (a.num = 0) && decide (a.key = []) else if a.kind = 1 then decide (0 ≤ a.num) && decide (a.num ≤ 1000000000) && decide (a.key = [])
   else decide (a.kind = 2) && decide (a.num = 0) && utfM a.key && decide (a.key.length ≤ 16384) && decide ((quoteM a.key).length ≤ 65536))) := by
    unfold goodAd
    rw [h1, Bool.and_true]
  refine ⟨fun e => ?_, fun e => ?_⟩
  · have : goodAd a = false := by
      rw [hg0]
      simp only [Bool.or_eq_true, decide_eq_true_eq, Bool.not_eq_true'] at e
      rcases e with (e | e) | e
      · rw [decide_eq_false (by omega)]; rfl
      · rw [e]; simp
      · rw [e]; simp
    rw [← this]
    exact hK w3 hx1
  simp only [Bool.or_eq_false_iff, decide_eq_false_iff_not, Bool.not_eq_false'] at e
  obtain ⟨⟨g1, g2⟩, g3⟩ := e
  rw [g2, g3, decide_eq_true (by omega : a.mods.length ≤ 4)] at hg0
  simp only [Bool.true_and] at hg0
  rw [hg0] at hK
  clear hg0
  refine hA.ld1 rfl ?_
  rw [bin_eql, condW_dec]
  refine ⟨fun k0 => ?_, fun k0 => ?_⟩
  · rw [if_pos k0] at hK
    refine hA.ld1 rfl ?_
    rw [bin_eql]
    simp only [isB_t]
    refine GdW.look (decide (a.key = [])) (fun _ J hJ => by refine hA.ld1 rfl ?_; rw [bin_seq]; exact hJ) fun g => ?_
    simp only [List.getD_cons_zero]
    rw [pick_gd_and]
    exact hK w3 hx1
  rw [if_neg k0] at hK
  refine hA.ld1 rfl ?_
  rw [bin_eql, condW_dec]
  refine ⟨fun k1 => ?_, fun k1 => ?_⟩
  · rw [if_pos k1] at hK
    refine hA.ld1 rfl ?_
    rw [bin_geq]
    simp only [isB_t]
    refine GdW.look (decide (a.num ≤ 1000000000)) (fun _ J hJ => by refine hA.ld1 rfl ?_; rw [bin_leq]; exact hJ) fun g => ?_
    simp only [List.getD_cons_zero]
    rw [pick_gd_and]
    simp only [isB_t]
    refine GdW.look (decide (a.key = [])) (fun _ J hJ => by refine hA.ld1 rfl ?_; rw [bin_seq]; exact hJ) fun g => ?_
    simp only [List.getD_cons_zero]
    rw [pick_gd_and]
    exact hK w3 hx1
  rw [if_neg k1] at hK
  refine hA.ld1 rfl ?_
  rw [bin_neq]
  simp only [isB_f]
  refine GdW.look (decide (a.num ≠ 0)) (fun _ J hJ => by refine hA.ld1 rfl ?_; rw [bin_neq]; exact hJ) fun g => ?_
  simp only [List.getD_cons_zero]
  rw [pick_gd_or]
  simp only [isB_f]
  refine GdW.look (!utfM a.key) (fun _ J hJ => ?_) fun g => ?_
  · refine hA.ld1 rfl ?_
    refine bad_ref hk fun r hr => ?_
    rw [bin_geq, hr]
    exact hJ
  simp only [List.getD_cons_zero]
  rw [pick_gd_or, condW_b]
  refine ⟨fun e => ?_, fun e => ?_⟩
  · have : (decide (a.kind = 2) && decide (a.num = 0) && utfM a.key && decide (a.key.length ≤ 16384) && decide ((quoteM a.key).length ≤ 65536)) = false := by
      simp only [Bool.or_eq_true, decide_eq_true_eq, Bool.not_eq_true'] at e
      rcases e with (e | e) | e
      · rw [decide_eq_false e]; rfl
      · rw [decide_eq_false e]; simp
      · rw [e]; simp
    rw [← this]
    exact hK w3 hx1
  simp only [Bool.or_eq_false_iff, decide_eq_false_iff_not, Bool.not_eq_false', Decidable.not_not] at e
  obtain ⟨⟨g4, g5⟩, g6⟩ := e
  rw [g6, decide_eq_true g4, decide_eq_true g5] at hK
  simp only [Bool.true_and] at hK
  refine hA.ld1 rfl ?_
  rw [lens_str, bin_leq]
  simp only [isB_t]
  refine GdW.act (decide ((quoteM a.key).length ≤ 65536)) (fun w' => Ext w3 w') (fun _ => Chg.refl _ _) (fun e J hJ => ?_) ?_
  · rw [decide_eq_true_iff] at e
    refine hA.ld1 rfl ?_
    refine quote_ref (by omega) fun w4 hx4 => ?_
    rw [lens_str, bin_leq, decide_eq_decide.2 (show ((quoteM a.key).length : Int) ≤ 65536 ↔ (quoteM a.key).length ≤ 65536 by omega)]
    exact hJ w4 hx4
  intro g w5 hx5
  simp only [List.getD_cons_zero]
  rw [pick_gd_and, show decide ((a.key.length : Int) ≤ 16384) = decide (a.key.length ≤ 16384) from decide_eq_decide.2 (by omega)]
  exact hK w5 (hx1.trans hx5)
theorem show22_ref {a : AV} {cs : List Value} {w : World} {K : Value → World → Prop} (hg : goodAd a = true) (h : ARep w a cs) (hK : ∀ w', Ext w w' → K (str (showA a)) w') :
    callF Tryz.prog 36 [.agg cs.toArray] w K := by
  have hg' := hg
  unfold goodAd at hg'
  simp only [Bool.and_eq_true, decide_eq_true_eq] at hg'
  obtain ⟨⟨⟨⟨g1, g2⟩, g3⟩, g4⟩, g5⟩ := hg'
  have nl : ∀ s : Str, nameM s = true → s.length ≤ 32 := fun s hs => by
    cases s with
    | nil => simp
    | cons c r =>
      simp only [nameM, Bool.and_eq_true, decide_eq_true_eq] at hs
      simp only [List.length_cons]
      omega
  have fl : ∀ i, i ≤ a.mods.length → ((a.mods.take i).flatMap (fun m => m ++ [47])).length ≤ 33 * i := fun i => by
    induction i with
    | zero => simp
    | succ i ih =>
      intro hi
      have := ih (by omega)
      obtain ⟨m, hm⟩ : ∃ m, a.mods[i]? = some m := ⟨_, List.getElem?_eq_getElem (by omega)⟩
      have h1 := nl m (List.all_eq_true.1 g4 m (List.mem_of_getElem? hm))
      rw [List.take_add_one, hm]
      simp only [Option.toList_some, List.flatMap_append, List.flatMap_cons, List.flatMap_nil, List.append_nil, List.length_append, List.length_cons, List.length_nil]
      omega
  have n2 := nl _ g2
  have n3 := nl _ g3
  refine W36_ok ?_
  unfold W36
  refine box_a h fun p w1 sv hA hx1 hp hs0 => ?_
  have fit := hA.fits
  obtain ⟨T, hs⟩ := hA.sl
  simp only [fld_ptr]
  refine hA.ld1 rfl ?_
  rw [lenl_at hs]
  have emax : IntKind.i64.max = 9223372036854775807 := by decide
  refine LoopW.go (fun st w' => ∃ i : Nat, i ≤ a.mods.length ∧ st = [str ((a.mods.take i).flatMap (fun m => m ++ [47])), i64 (i : Nat)] ∧ w' = w1) (fun st _ => match st with | [_, .int _ i] => a.mods.length - i.toNat | _ => 0) ⟨0, by omega, rfl, rfl⟩ ?_
  rintro st g w3 ⟨i, hi, rfl, rfl⟩
  have f1 := fl i hi
  simp only [List.getD_cons_zero, List.getD_cons_succ]
  rw [bin_lss, condW_dec]
  refine ⟨fun hlt => ?_, fun hge => ?_⟩
  · have hlt : i < a.mods.length := by omega
    refine hA.ld1 rfl ?_
    obtain ⟨m, hm⟩ : ∃ m, a.mods[i]? = some m := ⟨_, List.getElem?_eq_getElem hlt⟩
    have h1 := nl m (List.all_eq_true.1 g4 m (List.mem_of_getElem? hm))
    refine text_ld hs hm ?_
    rw [bin_sadd]
    refine ⟨by omega, ?_⟩
    rw [bin_sadd]
    refine ⟨by simp only [List.length_append, List.length_cons, List.length_nil]; omega, ?_⟩
    rw [bin_add, up1 (by omega)]
    refine ⟨⟨i + 1, by omega, ?_, by trivial⟩, by simp only [Int.toNat_natCast]; omega⟩
    rw [List.take_add_one, hm]
    simp
  obtain rfl : i = a.mods.length := by omega
  rw [List.take_length] at f1 ⊢
  refine hA.ld1 rfl ?_
  rw [bin_sadd]
  refine ⟨by omega, ?_⟩
  rw [bin_sadd]
  refine ⟨by simp only [List.length_append, List.length_cons, List.length_nil]; omega, ?_⟩
  refine hA.ld1 rfl ?_
  rw [bin_sadd]
  refine ⟨by simp only [List.length_append, List.length_cons, List.length_nil]; omega, ?_⟩
  have hh : a.mods.flatMap (fun m => m ++ [47]) ++ a.typ ++ [46] ++ a.nm = headA a := rfl
  rw [hh]
  have hhl : (headA a).length ≤ 300 := by
    rw [← hh]
    simp only [List.length_append, List.length_cons, List.length_nil]
    omega
  refine JoinW.cut (fun st w' => st = [str (headA a ++ (if a.kind = 1 then [91] ++ Lib.itoa a.num ++ [93] else []))] ∧ Ext w3 w') ?_ ?_
  · refine hA.ld1 rfl ?_
    rw [bin_eql, condW_dec]
    refine ⟨fun k1 => ?_, fun k1 => ?_⟩
    · rw [bin_sadd]
      refine ⟨by simp only [List.length_cons, List.length_nil]; omega, ?_⟩
      refine hA.ld1 rfl ?_
      refine digits_ref fit.num.1 fit.num.2 fun w5 hx5 => ?_
      have il : (Lib.itoa a.num).length ≤ 30 := by
        have := itoa_len fit.num.1 fit.num.2
        omega
      rw [bin_sadd]
      refine ⟨by simp only [List.length_append, List.length_cons, List.length_nil]; omega, ?_⟩
      rw [bin_sadd]
      refine ⟨by simp only [List.length_append, List.length_cons, List.length_nil]; omega, ?_⟩
      rw [if_pos k1]
      exact ⟨by simp, hx5⟩
    · rw [if_neg k1]
      exact ⟨by simp, Chg.refl _ _⟩
  rintro st g w6 ⟨rfl, hx6⟩
  simp only [List.getD_cons_zero]
  have hA6 := hA.ext hx6
  refine JoinW.cut (fun st w' => st = [str (headA a ++ brA a)] ∧ Ext w3 w') ?_ ?_
  · refine hA6.ld1 rfl ?_
    rw [bin_eql, condW_dec]
    refine ⟨fun k2 => ?_, fun k2 => ?_⟩
    · have k1 : ¬ a.kind = 1 := by omega
      have k0 : ¬ a.kind = 0 := by omega
      rw [if_neg k0, if_neg k1] at g5
      simp only [Bool.and_eq_true, decide_eq_true_eq] at g5
      obtain ⟨⟨⟨⟨_, _⟩, _⟩, g8⟩, g9⟩ := g5
      rw [if_neg k1, List.append_nil, bin_sadd]
      refine ⟨by simp only [List.length_cons, List.length_nil]; omega, ?_⟩
      refine hA6.ld1 rfl ?_
      refine quote_ref (by omega) fun w8 hx8 => ?_
      rw [bin_sadd]
      refine ⟨by simp only [List.length_append, List.length_cons, List.length_nil]; omega, ?_⟩
      rw [bin_sadd]
      refine ⟨by simp only [List.length_append, List.length_cons, List.length_nil]; omega, ?_⟩
      refine ⟨?_, hx6.trans hx8⟩
      unfold brA
      rw [if_neg k1, if_pos k2]
      simp
    · refine ⟨?_, hx6⟩
      unfold brA
      by_cases k1 : a.kind = 1
      · rw [if_pos k1, if_pos k1]
      · rw [if_neg k1, if_neg k1, if_neg k2]
  rintro st g w9 ⟨rfl, hx9⟩
  simp only [List.getD_cons_zero]
  have hA9 := hA.ext hx9
  have hsl := showA_len hg
  have hshow : showA a = headA a ++ brA a ++ (if a.aside then [126] else []) := rfl
  refine hA9.ld1 rfl ?_
  rw [condW_b]
  refine ⟨fun e => ?_, fun e => ?_⟩
  · rw [hshow, if_pos e] at hsl hK
    rw [bin_sadd]
    refine ⟨by simp only [List.length_append] at hsl ⊢; omega, ?_⟩
    exact hK w9 (hx1.trans hx9)
  · rw [hshow, if_neg (by rw [e]; simp), List.append_nil] at hK
    exact hK w9 (hx1.trans hx9)
end
end Go.Proofs.YtcnjpcadejcenaaGreatDoor
namespace Go.Proofs.YtcnjpcadejcenaaGreatDoor
open Go Go.Eng Go.RowKit
set_option maxRecDepth 100000
section
variable [HX]
theorem shows_true {a : AV} {cs : List Value} {w : World} {K : Value → World → Prop} (hT : TabA w) (h : ARep w a cs ∧ a.key.length ≤ 140737488355328) (hK : ∀ w', Ext w w' → K (.bool true) w') :
    callF Tryz.prog 11 [.agg cs.toArray] w K := by
  obtain ⟨h, hk⟩ := h
  refine W11_ok ?_
  unfold W11
  refine box_a h fun p w1 sv hA hx1 hp hs0 => ?_
  refine awake_a (hT.ext hx1) fun w2 hx2 => ?_
  have hx02 := hx1.trans hx2
  have hA2 := hA.ext hx2
  rw [un_not, Bool.not_true]
  refine GdW.act (!decide (a.mods.length ≤ 50)) (fun w' => Ext w2 w') (fun e => by cases e) (fun _ J hJ => ?_) ?_
  · refine hA2.all ?_
    refine few_p hA2.rep fun w4 hx4 => ?_
    rw [un_not]
    exact hJ w4 hx4
  intro g w5 hx5
  simp only [List.getD_cons_zero, isB_f]
  rw [pick_gd_or, condW_b]
  have hx05 := hx02.trans hx5
  have hA5 := hA2.ext hx5
  refine ⟨fun _ => awake_a (hT.ext hx05) fun w6 hx6 => hK w6 (hx05.trans hx6), fun _ => ?_⟩
  refine hA5.all ?_
  refine show_p (hT.ext hx05).tabs hA5.rep fun w7 hx7 => ?_
  have hA7 := hA5.ext hx7
  have hx07 := hx05.trans hx7
  cases hg : goodAd a with
  | false =>
    simp only [Bool.false_eq_true, if_false]
    simp only [ext_tuple]
    refine ⟨_, rfl, _, rfl, ?_⟩
    refine hA7.all ?_
    refine ref_p hA7.rep fun w8 hx8 r8 => ?_
    refine good22_ref r8 (by omega) fun w9 hx9 => ?_
    rw [hg, un_not, Bool.not_false, condW_true, bin_eql, decide_eq_true rfl]
    refine GdW.look true (fun _ J hJ => by rw [bin_seq, decide_eq_true rfl]; exact hJ) fun g => ?_
    simp only [List.getD_cons_zero, isB_t]
    rw [pick_gd_and]
    exact hK w9 (hx07.trans (hx8.trans hx9))
  | true =>
    simp only [if_true]
    simp only [ext_tuple]
    refine ⟨_, rfl, _, rfl, ?_⟩
    refine hA7.all ?_
    refine ref_p hA7.rep fun w8 hx8 r8 => ?_
    refine good22_ref r8 (by omega) fun w9 hx9 => ?_
    rw [hg, un_not, Bool.not_true, condW_false]
    have hx09 := hx07.trans (hx8.trans hx9)
    refine parse_good (hT.ext hx09) hg fun ds w12 hx12 r12 => ?_
    simp only [ext_tuple]
    refine ⟨_, rfl, _, rfl, ?_⟩
    refine keep_a r12 fun q w14 tv hB14 hx14 hq => ?_
    have hxd : ∀ w : World, Ext w w.drew := fun w => Chg.drew (Chg.refl (fun _ => False) w)
    have hx714 : Ext w7 w14 := hx8.trans (hx9.trans (hx12.trans hx14))
    have hx714d := hx714.trans (hxd w14)
    have hA14 := hA7.ext hx714d
    have hB14d := hB14.drew
    rw [bin_eql, decide_eq_true rfl]
    simp only [isB_t, GqW_t]
    refine ⟨_, rfl, _, hA14.all rfl, ⟨fun _ => ?_, fun e => by cases e⟩⟩
    refine ref_p hA14.rep fun w18 hx18 r18 => ?_
    refine ⟨fun _ => ?_, fun e => by cases e⟩
    refine show22_ref hg r18 fun w20 hx20 => ?_
    have hx1420 := hx18.trans hx20
    have hA20 := hA14.ext hx1420
    have hB20 := hB14d.ext hx1420
    refine ⟨.bool true, by rw [bin_seq]; simp, ?_⟩
    rw [pick_t]
    simp only [isB_t, GqW_t]
    refine ⟨_, rfl, .bool true, by rw [bin_eql]; simp, ?_⟩
    rw [pick_t]
    simp only [isB_t, GqW_t]
    refine ⟨_, hA20.all rfl, _, hB20.all rfl, ⟨fun _ => ?_, fun e => by cases e⟩⟩
    refine ref_p hA20.rep fun w27 hx27 r27 => ?_
    refine ⟨fun _ => (hB20.ext hx27).all rfl, ⟨fun _ => ?_, fun e => by cases e⟩⟩
    refine ref_p (hB20.ext hx27).rep fun w29 hx29 r29 => ?_
    refine ⟨fun _ => ?_, fun e => by cases e⟩
    refine same22_ref (r27.ext hx29) r29 fun w31 hx31 => ?_
    rw [(sameA_iff a a).2 rfl, pick_t]
    exact hK w31 (hx07.trans (hx714d.trans (hx1420.trans (hx27.trans (hx29.trans hx31)))))
end
end Go.Proofs.YtcnjpcadejcenaaGreatDoor
