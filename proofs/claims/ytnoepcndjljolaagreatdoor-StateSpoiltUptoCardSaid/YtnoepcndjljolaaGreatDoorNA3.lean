/- One plain sentence: weakest preconditions, contracts and plain laws that the claim rests on, text behind text. Conditions: those that each states. -/
import Derived.Test.YtnoepcndjljolaaGreatDoorNA2
import Derived.Test.YtnoepcndjljolaaGreatDoorNA1
import Derived.Lib.Builder
import Derived.ProofKit
import Derived.WalkKit
import Derived.Lib.AppendStr
import Derived.Lib.RuneBytes
import Derived.Lib.ValidU
set_option linter.all false
set_option linter.unusedSimpArgs false
set_option linter.unusedVariables false
set_option linter.unusedSectionVars false
namespace Go.Proofs.YtnoepcndjljolaaGreatDoor
open Go Go.Eng
set_option maxRecDepth 100000
def Free (B : Nat) (sv kv : Value) (q : Nat) : Prop := B ≤ q ∧ sv.ownBlock ≠ some q ∧ kv.ownBlock ≠ some q
section
variable [HX]
theorem rows_ne {w : World} {B n m : Nat} {sv kv : Value} {L M : List Value} (h : Own w B VT 5 sv n L) (h' : Own w B ST 1 kv m M) {q : Nat} (h1 : sv.ownBlock = some q) : kv.ownBlock ≠ some q := fun e => by
  obtain ⟨_, _, c, hc⟩ := own_in h h1
  obtain ⟨_, _, c', hc'⟩ := own_in h' e
  rw [hc] at hc'
  simp only [Option.some.injEq, Obj.cells.injEq] at hc'
  exact absurd hc'.2.1 (by decide)
theorem rowS {w : World} {x : Str} {K : Value → World → Prop} (hK : ∀ a w', a = w.heap.size → w'.heap.size = w.heap.size + 1 → w'.heap[a]? = some (.cells [str x].toArray ST (0, 0)) → Ext w w' → K (.slice (some ⟨a, 0, none⟩) 1 1) w') : bslW ST 1 [.string (ofL [])] [(0, 1, str x)] w K := by
  unfold bslW
  simp only [wsv, wsg, wsh, wsl, cond_true, cond_false, exists_eq_left', Option.some.injEq, Option.isSome_some, List.getElem?_toArray, List.getElem?_cons_zero, List.getElem?_cons_succ, List.length_cons, List.length_nil, List.set_cons_zero, List.set_cons_succ, List.getD_cons_zero, List.getD_cons_succ, Nat.zero_add, Nat.add_zero, Nat.reduceAdd, Nat.reduceLT, Nat.lt_add_one, Nat.zero_lt_succ, decide_true, decide_false, ne_eq, reduceCtorEq]
  exact row_new fun a w' h1 h2 h3 h4 _ => hK a w' h1 h2 h3 h4
theorem rowV {w : World} {cs : List Value} {K : Value → World → Prop} (hc : cs.length = 5) (hK : ∀ a w', a = w.heap.size → w'.heap.size = w.heap.size + 1 → w'.heap[a]? = some (.cells cs.toArray VT (0, 0)) → Ext w w' → K (.slice (some ⟨a, 0, none⟩) 1 1) w') : bslW VT 1 [(.int .i64 0), (.bool false), (.string (ofL [])), (.slice none 0 0), (.slice none 0 0)] [(0, 5, .agg cs.toArray)] w K := by
  unfold bslW
  have hp : ∀ K : List Value → Prop, K cs → putW [(.int .i64 0), (.bool false), (.string (ofL [])), (.slice none 0 0), (.slice none 0 0)] [(0, 5, .agg cs.toArray)] K := by
    intro K hK
    refine ⟨by simp [Value.cells, hc], by simp, ?_⟩
    have : List.take 0 [(Value.int .i64 0), (.bool false), (.string (ofL [])), (.slice none 0 0), (.slice none 0 0)] ++ ((Value.agg cs.toArray).cells.toList ++ List.drop (0 + 5) [(Value.int .i64 0), (.bool false), (.string (ofL [])), (.slice none 0 0), (.slice none 0 0)]) = cs := by simp [Value.cells]
    rw [this]
    exact hK
  refine hp _ ?_
  exact row_new fun a w' h1 h2 h3 h4 _ => hK a w' h1 h2 h3 h4
theorem put_p {l : List (Str × JV)} {k : Str} {x : JV} {sv kv : Value} {L cs : List Value} {B : Nat} {w : World} {K : Value → World → Prop} (h : OwnP w B (mkO l) sv kv L) (hx : VRepP (Free B sv kv) w x cs) (hr : Rise (l.map (·.1))) (hk : k ∉ l.map (·.1)) (hl : l.length ≤ 99999) (hkl : k.length ≤ 9223372036854775807)
    (hB : B ≤ w.heap.size) (hK : ∀ es w', Chg (fun q => sv.ownBlock = some q ∨ kv.ownBlock = some q) w w' → VRepP (From B) w' (mkO (insP l k x)) es → K (.agg es.toArray) w') :
    callF Tryz.prog 107 [.agg [i64 6, .bool false, str [], sv, kv].toArray, str k, .agg cs.toArray] w K := by
  have hkeys : (mkO l).ks = l.map (·.1) := rfl
  have hxs : (mkO l).xs = l.map (·.2) := rfl
  have hO := h.items
  have hM := h.keys
  rw [hxs] at hO
  rw [hkeys] at hM
  have hn1 : (l.map (·.2)).length = l.length := List.length_map _
  have hn2 : (l.map (·.1)).length = l.length := List.length_map _
  rw [hn1] at hO
  rw [hn2] at hM
  have hrp := h.reps
  rw [hxs] at hrp
  have hcs5 := hx.rep.len
  have hone := hx.rep.one
  obtain ⟨f1, f2, f3, f4⟩ := h.fits
  refine W107_ok ?_
  unfold W107
  have o1 := own_one hO
  have o2 := own_one hM
  refine box_new (z := [i64 6, .bool false, str [], sv, kv]) fun a3 w1 ha3 hz1 hb3 hx1 => ?_
  refine box_new (z := cs) fun a5 w2 ha5 hz2 hb5 hx2 => ?_
  refine alloc_new fun a6 w3 ha6 hz3 hb6 hx3 => ?_
  have hb3 := (hx2.trans hx3).at hb3 id
  have hb5 := hx3.at hb5 id
  have hx03 := (hx1.trans hx2).trans hx3
  rw [fld_ptr, ld_one]
  refine ⟨kv, by rw [add_mk, cell_eq, hb3]; rfl, ?_⟩
  have hsk : SlAt w3 ST kv (l.map (·.1)).length ((l.map (·.1)).map str) := by rw [hn2]; exact hM.sl.ext hx03
  refine search_p hsk (by rw [hn2]; omega) hr fun i _ hlo hhi hile => ?_
  rw [hn2] at hile
  have hnone : (idxK (l.map (·.1)) k).isSome = false := by rw [idxK_none.2 hk]; rfl
  rw [hnone]
  simp only [ext_tuple]
  refine ⟨_, rfl, _, rfl, ?_⟩
  rw [condW_false]
  have hins := ins_split hk hlo hhi (x := x)
  have hsvlt : ∀ q, sv.ownBlock = some q → q < w.heap.size := fun q hq => (own_in hO hq).2.1
  have hkvlt : ∀ q, kv.ownBlock = some q → q < w.heap.size := fun q hq => (own_in hM hq).2.1
  -- the key's row
  have insK : ∀ {w4 : World} {tb : Nat} {K' : Value → World → Prop}, Chg (fun q => False) w w4 → w.heap.size ≤ tb → w4.heap[tb]? = some (.cells [str k].toArray ST (0, 0)) →
      (∀ kv' w5, Own w5 B ST 1 kv' (l.length + 1) (((l.map (·.1)).map str).take (i * 1) ++ [str k] ++ ((l.map (·.1)).map str).drop (i * 1)) → Chg (fun q => kv.ownBlock = some q) w4 w5 → (∀ q, kv'.ownBlock = some q → kv.ownBlock = some q ∨ w4.heap.size ≤ q) → K' kv' w5) →
      callF Tryz.prog 162 [kv, i64 (i : Nat), .slice (some ⟨tb, 0, none⟩) 1 1] w4 K' := fun {w4 tb K'} hc htb ht hK' =>
    insert_s (own_chg hM hc fun _ _ e => e) ht rfl (fun u hu => by rw [List.mem_singleton.1 hu]; rfl) (strs_one _) (fun e => by have := hkvlt _ e; omega) hile (by omega) (by have := hc.size; omega) hK'
  have insV : ∀ {w4 : World} {tb : Nat} {K' : Value → World → Prop}, Chg (fun q => kv.ownBlock = some q) w w4 → w.heap.size ≤ tb → w4.heap[tb]? = some (.cells cs.toArray VT (0, 0)) →
      (∀ sv' w5, Own w5 B VT 5 sv' (l.length + 1) (L.take (i * 5) ++ cs ++ L.drop (i * 5)) → Chg (fun q => sv.ownBlock = some q) w4 w5 → (∀ q, sv'.ownBlock = some q → sv.ownBlock = some q ∨ w4.heap.size ≤ q) → K' sv' w5) →
      callF Tryz.prog 163 [sv, i64 (i : Nat), .slice (some ⟨tb, 0, none⟩) 1 1] w4 K' := fun {w4 tb K'} hc htb ht hK' =>
    insert_v (own_chg hO hc fun q hq e => rows_ne hO hM hq e) ht hcs5 hone hrp.rep.one (fun e => by have := hsvlt _ e; omega) hile (by omega) (by have := hc.size; omega) hK'
  obtain ⟨J, hJ⟩ : ∃ J : List Value → World → Prop, ∀ st w', J st w' ↔ ∃ sv' kv', w'.heap[a3]? = some (.cells [i64 6, .bool false, str [], sv', kv'].toArray VT (0, 0)) ∧ w'.heap[a6]? = some (.cells [i64 0, .bool false, str [], .slice none 0 0, .slice none 0 0].toArray VT (0, 0)) ∧ Chg (fun q => sv.ownBlock = some q ∨ kv.ownBlock = some q) w w' ∧ a6 < w'.heap.size ∧
      one1 sv' = true ∧ one1 kv' = true ∧ VRepP (fun q => B ≤ q ∧ q ≠ a6) w' (mkO (insP l k x)) [i64 6, .bool false, str [], sv', kv'] := ⟨_, fun _ _ => Iff.rfl⟩
  refine JoinW.cut J ?_ ?_
  · have hxd : Ext w3 w3.drew := Chg.drew (Chg.refl (fun _ => False) w3)
    have e3 : ∀ {w4 : World}, Chg (fun q => kv.ownBlock = some q) w3 w4 → w4.heap[a3]? = some (.cells [i64 6, .bool false, str [], sv, kv].toArray VT (0, 0)) := fun hc => hc.at hb3 fun e => by have := hkvlt _ e; omega
    have e5 : ∀ {w4 : World}, Chg (fun q => kv.ownBlock = some q) w3 w4 → w4.heap[a5]? = some (.cells cs.toArray VT (0, 0)) := fun hc => hc.at hb5 fun e => by have := hkvlt _ e; omega
    have up : ∀ {w4 : World}, Ext w3 w4 → Chg (fun q => kv.ownBlock = some q) w3 w4 := fun hx => Chg.of_ext hx
    have ldk : ∀ {w4 : World} {K : Value → Prop}, Chg (fun q => kv.ownBlock = some q) w3 w4 → K kv → ldW false 1 (.pointer (some ((⟨a3, 0, none⟩ : Addr).add 4))) w4 K := fun hc hk => by
      rw [ld_one]; exact ⟨_, by rw [add_mk, cell_eq, e3 hc]; rfl, hk⟩
    have lds : ∀ {w4 : World} {K : Value → Prop}, Chg (fun q => kv.ownBlock = some q) w3 w4 → K sv → ldW false 1 (.pointer (some ((⟨a3, 0, none⟩ : Addr).add 3))) w4 K := fun hc hk => by
      rw [ld_one]; exact ⟨_, by rw [add_mk, cell_eq, e3 hc]; rfl, hk⟩
    have ldx : ∀ {w4 : World} {K : Value → Prop}, Chg (fun q => kv.ownBlock = some q) w3 w4 → K (.agg cs.toArray) → ldW true 5 (.pointer (some ⟨a5, 0, none⟩)) w4 K := fun hc hk => ld_all (e5 hc) hcs5 hk
    -- both are in: the two stores
    have fin : ∀ {w4 w5 : World} {sv' kv' : Value}, Chg (fun q => kv.ownBlock = some q) w3 w4 → Own w4 B ST 1 kv' (l.length + 1) (((l.map (·.1)).map str).take (i * 1) ++ [str k] ++ ((l.map (·.1)).map str).drop (i * 1)) → (∀ q, kv'.ownBlock = some q → kv.ownBlock = some q ∨ w3.heap.size ≤ q) →
        Chg (fun q => sv.ownBlock = some q) w4 w5 → Own w5 B VT 5 sv' (l.length + 1) (L.take (i * 5) ++ cs ++ L.drop (i * 5)) → (∀ q, sv'.ownBlock = some q → sv.ownBlock = some q ∨ w3.heap.size ≤ q) →
        stW 1 (.pointer (some ((⟨a3, 0, none⟩ : Addr).add 4))) kv' w5 fun w6 => fldW 3 (.pointer (some ⟨a3, 0, none⟩)) fun t36 => stW 1 t36 sv' w6 fun w7 => J [] w7 := fun {w4 w5 sv' kv'} hc4 hOk hkb hc5 hOs hsb => by
      have hb3' := hc5.at (e3 hc4) fun e => by have := hsvlt _ e; omega
      have hb6' := hc5.at (hc4.at hb6 fun e => by have := hkvlt _ e; omega) fun e => by have := hsvlt _ e; omega
      rw [add_mk]
      refine st_at hb3' (own_one hOk) (by simp) fun w6 hz6 hb36 hc6 => ?_
      have hb36 : w6.heap[a3]? = some (.cells [i64 6, .bool false, str [], sv, kv'].toArray VT (0, 0)) := by rw [hb36]; simp
      rw [fld_ptr, add_mk]
      refine st_at hb36 (own_one hOs) (by simp) fun w7 hz7 hb37 hc7 => ?_
      have hb37 : w7.heap[a3]? = some (.cells [i64 6, .bool false, str [], sv', kv'].toArray VT (0, 0)) := by rw [hb37]; simp
      have hc67 : Chg (fun q => q = a3) w5 w7 := hc6.trans hc7
      have s45 := hc5.size
      have s34 := hc4.size
      have s57 := hc67.size
      have hcw : Chg (fun q => sv.ownBlock = some q ∨ kv.ownBlock = some q) w w7 := by
        have h1 : Chg (fun q => sv.ownBlock = some q ∨ kv.ownBlock = some q) w w5 := (((Chg.of_ext hx03).trans (hc4.mono fun _ _ e => .inr e)).trans (hc5.mono fun _ _ e => .inl e))
        exact h1.then hc67 fun q hq e => by omega
      have n3 : ∀ q, kv'.ownBlock = some q → q ≠ a3 := fun q hq e => by
        rcases hkb q hq with h | h
        · have := hkvlt _ h; omega
        · omega
      have n3' : ∀ q, sv'.ownBlock = some q → q ≠ a3 := fun q hq e => by
        rcases hsb q hq with h | h
        · have := hsvlt _ h; omega
        · omega
      have hOk5 : Own w5 B ST 1 kv' (l.length + 1) (((l.map (·.1)).map str).take (i * 1) ++ [str k] ++ ((l.map (·.1)).map str).drop (i * 1)) := own_chg hOk hc5 fun q hq e => by
        obtain ⟨_, _, c, hc⟩ := own_in hOk hq
        obtain ⟨_, _, c', hc'⟩ := own_in (own_chg hO ((Chg.of_ext hx03).trans hc4) fun q hq e => rows_ne hO hM hq e) e
        rw [hc] at hc'
        simp only [Option.some.injEq, Obj.cells.injEq] at hc'
        exact absurd hc'.2.1 (by decide)
      have hOk7 := own_chg hOk5 hc67 fun q hq e => n3 q hq e
      have hOs7 := own_chg hOs hc67 fun q hq e => n3' q hq e
      refine (hJ _ w7).2 ⟨sv', kv', hb37, hc67.at hb6' (by omega), hcw, by have := at_lt hb6; omega, own_one hOs, own_one hOk, ?_⟩
      have hfree : ∀ q, Free B sv kv q → q < w.heap.size → ¬ (sv.ownBlock = some q ∨ kv.ownBlock = some q) := fun q hq _ e => by
        rcases e with e | e
        · exact hq.2.1 e
        · exact hq.2.2 e
      have hrp0 : VRepsP (fun q => Free B sv kv q ∧ q < w.heap.size) w (l.map (·.2)) L := hrp.mono fun q hq h => ⟨h, hq⟩
      have hx0 : VRepP (fun q => Free B sv kv q ∧ q < w.heap.size) w x cs := hx.mono fun q hq h => ⟨h, hq⟩
      have hrp7 := VRepsP.chg hcw (fun q hq h => hfree q hq.1 h) hrp0
      have hx7 := VRepP.chg hcw (fun q hq h => hfree q hq.1 h) hx0
      have m3 : ∀ q, kv'.ownBlock = some q → q ≠ a6 := fun q hq e => by
        rcases hkb q hq with h | h
        · have := hkvlt _ h; omega
        · omega
      have m3' : ∀ q, sv'.ownBlock = some q → q ≠ a6 := fun q hq e => by
        rcases hsb q hq with h | h
        · have := hsvlt _ h; omega
        · omega
      obtain ⟨c1, c2⟩ := hrp7.cut i
      have hall := (c1.app (VRepsP.one' hx7)).app c2
      have ex : (mkO (insP l k x)).xs = (l.map (·.2)).take i ++ [x] ++ (l.map (·.2)).drop i := by
        rw [hins]
        show ((l.take i ++ (k, x) :: l.drop i).map (·.2)) = _
        simp
      have ek : (mkO (insP l k x)).ks = (l.map (·.1)).take i ++ [k] ++ (l.map (·.1)).drop i := by
        rw [hins]
        show ((l.take i ++ (k, x) :: l.drop i).map (·.1)) = _
        simp
      have exl : (mkO (insP l k x)).xs.length = l.length + 1 := by
        rw [hins]
        show ((l.take i ++ (k, x) :: l.drop i).map (·.2)).length = _
        simp; omega
      have ekl : (mkO (insP l k x)).ks.length = l.length + 1 := by
        rw [hins]
        show ((l.take i ++ (k, x) :: l.drop i).map (·.1)).length = _
        simp; omega
      have ekm : (mkO (insP l k x)).ks.map str = ((l.map (·.1)).map str).take (i * 1) ++ [str k] ++ ((l.map (·.1)).map str).drop (i * 1) := by
        rw [ek, Nat.mul_one]
        simp
      refine VRepP.mk (v := mkO (insP l k x)) (T1 := VT) (T2 := ST) (L := L.take (i * 5) ++ cs ++ L.drop (i * 5)) ?_ ?_ ?_ ⟨by rw [exl]; omega, by rw [ekl]; omega, by simp [mkO, JV.t], fun s hs => ?_⟩ (fun _ q hq => ⟨(own_in hOs7 hq).1, m3' q hq⟩) (fun _ q hq => ⟨(own_in hOk7 hq).1, m3 q hq⟩)
      · rw [exl]; exact hOs7.sl
      · rw [ex]; exact hall.mono fun q _ hq => ⟨hq.1.1, by have := hq.2; omega⟩
      · rw [ekl, ekm]; exact hOk7.sl
      · rw [ek] at hs
        rcases List.mem_append.1 hs with hs | hs
        · rcases List.mem_append.1 hs with hs | hs
          · exact f4 s (List.mem_of_mem_take hs)
          · rw [List.mem_singleton.1 hs]; exact hkl
        · exact f4 s (List.mem_of_mem_drop hs)
    rw [fld_ptr]
    refine ldk (up hxd) ?_
    rw [fld_ptr]
    refine lds (up hxd) ?_
    refine ldx (up hxd) ⟨?_, ?_⟩
    · refine rowS fun b27 w4 hb27 hz4 ht27 hx4 => ?_
      have hx4 := hxd.trans hx4
      have sd : w3.drew.heap.size = w3.heap.size := rfl
      refine ⟨ldx (up hx4) rfl, lds (up hx4) rfl, ldk (up hx4) rfl, ?_, ?_⟩
      · refine insK (hx03.trans hx4) (by omega) ht27 fun kv' w5 hOk hc5 hkb => ?_
        have hc35 : Chg (fun q => kv.ownBlock = some q) w3 w5 := (up hx4).trans hc5
        refine ⟨ldx hc35 rfl, lds hc35 rfl, ?_⟩
        rw [fld_ptr]
        refine rowV hcs5 fun b33 w6 hb33 hz6 ht33 hx6 => ?_
        have hc36 : Chg (fun q => kv.ownBlock = some q) w3 w6 := hc35.then hx6 fun _ _ e => e.elim
        have s35 := hc35.size
        refine ⟨lds hc36 rfl, ?_⟩
        refine insV ((Chg.of_ext hx03).trans hc36) (by omega) ht33 fun sv' w7 hOs hc7 hsb => ?_
        exact fin hc36 (own_chg hOk hx6 fun _ _ e => e) (fun q hq => (hkb q hq).imp id fun h => by omega) hc7 hOs (fun q hq => (hsb q hq).imp id fun h => by omega)
      · refine rowV hcs5 fun b33 w5 hb33 hz5 ht33 hx5 => ?_
        have hx35 := hx4.trans hx5
        refine ⟨lds (up hx35) rfl, ldk (up hx35) rfl, ?_⟩
        refine insK (hx03.trans hx35) (by omega) (hx5.at ht27 id) fun kv' w6 hOk hc6 hkb => ?_
        have hc36 : Chg (fun q => kv.ownBlock = some q) w3 w6 := (up hx35).trans hc6
        refine ⟨lds hc36 rfl, ?_⟩
        rw [fld_ptr]
        have s36 := hc36.size
        refine insV ((Chg.of_ext hx03).trans hc36) (by omega) (hc6.at ht33 fun e => by have := hkvlt _ e; omega) fun sv' w7 hOs hc7 hsb => ?_
        exact fin hc36 hOk (fun q hq => (hkb q hq).imp id fun h => by omega) hc7 hOs (fun q hq => (hsb q hq).imp id fun h => by omega)
    · refine rowV hcs5 fun b33 w4 hb33 hz4 ht33 hx4 => ?_
      have hx4 := hxd.trans hx4
      have sd : w3.drew.heap.size = w3.heap.size := rfl
      refine ⟨lds (up hx4) rfl, ldk (up hx4) rfl, ?_⟩
      refine rowS fun b27 w5 hb27 hz5 ht27 hx5 => ?_
      have hx35 := hx4.trans hx5
      refine ⟨lds (up hx35) rfl, ldk (up hx35) rfl, ?_⟩
      refine insK (hx03.trans hx35) (by omega) ht27 fun kv' w6 hOk hc6 hkb => ?_
      have hc36 : Chg (fun q => kv.ownBlock = some q) w3 w6 := (up hx35).trans hc6
      refine ⟨lds hc36 rfl, ?_⟩
      rw [fld_ptr]
      have s36 := hc36.size
      refine insV ((Chg.of_ext hx03).trans hc36) (by omega) (hc6.at (hx5.at ht33 id) fun e => by have := hkvlt _ e; omega) fun sv' w7 hOs hc7 hsb => ?_
      exact fin hc36 hOk (fun q hq => (hkb q hq).imp id fun h => by omega) hc7 hOs (fun q hq => (hsb q hq).imp id fun h => by omega)
  rintro st g w4 hJ4
  obtain ⟨sv', kv', hb3, hb6, hc, hlt6, o1', o2', hrep⟩ := (hJ _ _).1 hJ4
  refine ld_all hb3 rfl ?_
  refine ret_agg hb6 rfl rfl (obj_one o1' o2') fun w5 hc5 => ?_
  exact hK _ w5 (hc.then hc5 fun q hq e => by omega) ((VRepP.chg hc5 (fun q hq _ e => hq.2 e) hrep).mono fun q _ hq => hq.1)
theorem put_n {l : List (Str × JV)} {k : Str} {x : JV} {cs ds : List Value} {w : World} {K : Value → World → Prop} (h : VRep w (mkO l) cs) (hx : VRep w x ds) (hfew : fewM (mkO l) = true) (hfx : fewM x = true) (hr : Rise (l.map (·.1))) (hk : k ∉ l.map (·.1)) (hl : l.length ≤ 99999) (hkl : k.length ≤ 9223372036854775807)
    (hK : ∀ es w', Ext w w' → VRepP (From w.heap.size) w' (mkO (insP l k x)) es → K (.agg es.toArray) w') :
    callF Tryz.prog 174 [.agg cs.toArray, str k, .agg ds.toArray] w K := by
  refine W174_ok ?_
  unfold W174
  refine box_val h fun a3 w1 sv0 kv0 hB3 hx1 ha3 => ?_
  refine box_val (hx.ext hx1) fun a5 w2 sv1 kv1 hB5 hx2 ha5 => ?_
  refine alloc_new fun a6 w3 ha6 hz3 hb6 hx3 => ?_
  have hB3' := (hB3.ext hx2).ext hx3
  have hB5' := hB5.ext hx3
  refine JoinW.cut (fun st w' => w' = w3) ?_ ?_
  · rw [fld_ptr, ld_one]
    refine ⟨i64 6, by rw [add_mk, cell_eq, hB3'.hb]; rfl, ?_⟩
    rw [bin_neq, decide_eq_false (by decide), condW_false]
  rintro st g w4 rfl
  have hxd : Ext w4 w4.drew := Chg.drew (Chg.refl (fun _ => False) w4)
  have hB3d := hB3'.ext hxd
  have hB5d := hB5'.ext hxd
  have sd : w4.drew.heap.size = w4.heap.size := rfl
  have s1 := hx1.size
  have s2 := hx2.size
  refine ld_all hB3d.hb rfl ?_
  refine ld_all hB5d.hb rfl ?_
  refine clone_o hfew hB3d.rep fun sv kv L w5 hx5 hO => ?_
  refine ⟨ld_all (hB5d.ext hx5).hb rfl rfl, ?_⟩
  refine clone_p x hfx (hB5d.ext hx5).rep fun cs' w6 hx6 hR => ?_
  have hO6 := hO.ext hx6
  have s5 := hx5.size
  have s6 := hx6.size
  have e1 : (mkO l).k = 6 ∧ (mkO l).b = false ∧ (mkO l).t = [] := ⟨rfl, rfl, rfl⟩
  have hlt5 : ∀ q, sv.ownBlock = some q ∨ kv.ownBlock = some q → q < w5.heap.size ∧ w4.heap.size ≤ q := fun q e => by
    rcases e with e | e
    · exact ⟨(own_in hO.items e).2.1, (own_in hO.items e).1⟩
    · exact ⟨(own_in hO.keys e).2.1, (own_in hO.keys e).1⟩
  refine put_p hO6 (hR.mono fun q _ hq => ⟨by have : w5.heap.size ≤ q := hq; omega, fun e => by have := (hlt5 q (.inl e)).1; have : w5.heap.size ≤ q := hq; omega, fun e => by have := (hlt5 q (.inr e)).1; have : w5.heap.size ≤ q := hq; omega⟩) hr hk hl hkl (by omega) fun es w7 hc7 hE => ?_
  have hx46 : Ext w w6 := ((hx1.trans hx2).trans hx3).trans (hxd.trans (hx5.trans hx6))
  have hb7 := hc7.at ((hx5.trans hx6).at (hxd.at hb6 id) id) fun e => by have := (hlt5 _ e).2; omega
  refine ret_agg hb7 hE.rep.len rfl hE.rep.all_one fun w8 hc8 => ?_
  have hx7 : Ext w w7 := hx46.then hc7 fun q hq e => by have := (hlt5 _ e).2; omega
  refine hK es w8 (hx7.new hc8 (by omega)) (VRepP.mono (fun q _ hq => ?_) (VRepP.chg (G := From w4.drew.heap.size) hc8 (fun q hq _ e => ?_) hE))
  · have : w4.drew.heap.size ≤ q := hq
    show w.heap.size ≤ q
    omega
  · have : w4.drew.heap.size ≤ q := hq
    omega
end
end Go.Proofs.YtnoepcndjljolaaGreatDoor
namespace Go.Proofs.YtnoepcndjljolaaGreatDoor
open Go Go.Eng
set_option maxRecDepth 100000
section
variable [HX]
theorem put_o {l : List (Str × JV)} {k : Str} {x : JV} {sv kv : Value} {L cs : List Value} {B : Nat} {w : World} {K : Value → World → Prop} (h : OwnP w B (mkO l) sv kv L) (hx : VRepP (Free B sv kv) w x cs) (hr : Rise (l.map (·.1))) (hk : k ∉ l.map (·.1)) (hl : l.length ≤ 99999) (hkl : k.length ≤ 9223372036854775807)
    (hB : B ≤ w.heap.size) (hK : ∀ sv' kv' L' w', Chg (fun q => sv.ownBlock = some q ∨ kv.ownBlock = some q) w w' → OwnP w' B (mkO (insP l k x)) sv' kv' L' → K (.agg [i64 6, .bool false, str [], sv', kv'].toArray) w') :
    callF Tryz.prog 107 [.agg [i64 6, .bool false, str [], sv, kv].toArray, str k, .agg cs.toArray] w K := by
  have hkeys : (mkO l).ks = l.map (·.1) := rfl
  have hxs : (mkO l).xs = l.map (·.2) := rfl
  have hO := h.items
  have hM := h.keys
  rw [hxs] at hO
  rw [hkeys] at hM
  have hn1 : (l.map (·.2)).length = l.length := List.length_map _
  have hn2 : (l.map (·.1)).length = l.length := List.length_map _
  rw [hn1] at hO
  rw [hn2] at hM
  have hrp := h.reps
  rw [hxs] at hrp
  have hcs5 := hx.rep.len
  have hone := hx.rep.one
  obtain ⟨f1, f2, f3, f4⟩ := h.fits
  refine W107_ok ?_
  unfold W107
  have o1 := own_one hO
  have o2 := own_one hM
  refine box_new (z := [i64 6, .bool false, str [], sv, kv]) fun a3 w1 ha3 hz1 hb3 hx1 => ?_
  refine box_new (z := cs) fun a5 w2 ha5 hz2 hb5 hx2 => ?_
  refine alloc_new fun a6 w3 ha6 hz3 hb6 hx3 => ?_
  have hb3 := (hx2.trans hx3).at hb3 id
  have hb5 := hx3.at hb5 id
  have hx03 := (hx1.trans hx2).trans hx3
  rw [fld_ptr, ld_one]
  refine ⟨kv, by rw [add_mk, cell_eq, hb3]; rfl, ?_⟩
  have hsk : SlAt w3 ST kv (l.map (·.1)).length ((l.map (·.1)).map str) := by rw [hn2]; exact hM.sl.ext hx03
  refine search_p hsk (by rw [hn2]; omega) hr fun i _ hlo hhi hile => ?_
  rw [hn2] at hile
  have hnone : (idxK (l.map (·.1)) k).isSome = false := by rw [idxK_none.2 hk]; rfl
  rw [hnone]
  simp only [ext_tuple]
  refine ⟨_, rfl, _, rfl, ?_⟩
  rw [condW_false]
  have hins := ins_split hk hlo hhi (x := x)
  have hsvlt : ∀ q, sv.ownBlock = some q → q < w.heap.size := fun q hq => (own_in hO hq).2.1
  have hkvlt : ∀ q, kv.ownBlock = some q → q < w.heap.size := fun q hq => (own_in hM hq).2.1
  -- the key's row
  have insK : ∀ {w4 : World} {tb : Nat} {K' : Value → World → Prop}, Chg (fun q => False) w w4 → w.heap.size ≤ tb → w4.heap[tb]? = some (.cells [str k].toArray ST (0, 0)) →
      (∀ kv' w5, Own w5 B ST 1 kv' (l.length + 1) (((l.map (·.1)).map str).take (i * 1) ++ [str k] ++ ((l.map (·.1)).map str).drop (i * 1)) → Chg (fun q => kv.ownBlock = some q) w4 w5 → (∀ q, kv'.ownBlock = some q → kv.ownBlock = some q ∨ w4.heap.size ≤ q) → K' kv' w5) →
      callF Tryz.prog 162 [kv, i64 (i : Nat), .slice (some ⟨tb, 0, none⟩) 1 1] w4 K' := fun {w4 tb K'} hc htb ht hK' =>
    insert_s (own_chg hM hc fun _ _ e => e) ht rfl (fun u hu => by rw [List.mem_singleton.1 hu]; rfl) (strs_one _) (fun e => by have := hkvlt _ e; omega) hile (by omega) (by have := hc.size; omega) hK'
  have insV : ∀ {w4 : World} {tb : Nat} {K' : Value → World → Prop}, Chg (fun q => kv.ownBlock = some q) w w4 → w.heap.size ≤ tb → w4.heap[tb]? = some (.cells cs.toArray VT (0, 0)) →
      (∀ sv' w5, Own w5 B VT 5 sv' (l.length + 1) (L.take (i * 5) ++ cs ++ L.drop (i * 5)) → Chg (fun q => sv.ownBlock = some q) w4 w5 → (∀ q, sv'.ownBlock = some q → sv.ownBlock = some q ∨ w4.heap.size ≤ q) → K' sv' w5) →
      callF Tryz.prog 163 [sv, i64 (i : Nat), .slice (some ⟨tb, 0, none⟩) 1 1] w4 K' := fun {w4 tb K'} hc htb ht hK' =>
    insert_v (own_chg hO hc fun q hq e => rows_ne hO hM hq e) ht hcs5 hone hrp.rep.one (fun e => by have := hsvlt _ e; omega) hile (by omega) (by have := hc.size; omega) hK'
  obtain ⟨J, hJ⟩ : ∃ J : List Value → World → Prop, ∀ st w', J st w' ↔ ∃ sv' kv', w'.heap[a3]? = some (.cells [i64 6, .bool false, str [], sv', kv'].toArray VT (0, 0)) ∧ w'.heap[a6]? = some (.cells [i64 0, .bool false, str [], .slice none 0 0, .slice none 0 0].toArray VT (0, 0)) ∧ Chg (fun q => sv.ownBlock = some q ∨ kv.ownBlock = some q) w w' ∧ a6 < w'.heap.size ∧
      one1 sv' = true ∧ one1 kv' = true ∧ (∀ q, sv'.ownBlock = some q → q ≠ a6) ∧ (∀ q, kv'.ownBlock = some q → q ≠ a6) ∧ ∃ L', OwnP w' B (mkO (insP l k x)) sv' kv' L' ∧ VRepsP (fun q => (B ≤ q ∧ sv'.ownBlock ≠ some q ∧ kv'.ownBlock ≠ some q) ∧ q ≠ a6) w' (mkO (insP l k x)).xs L' := ⟨_, fun _ _ => Iff.rfl⟩
  refine JoinW.cut J ?_ ?_
  · have hxd : Ext w3 w3.drew := Chg.drew (Chg.refl (fun _ => False) w3)
    have e3 : ∀ {w4 : World}, Chg (fun q => kv.ownBlock = some q) w3 w4 → w4.heap[a3]? = some (.cells [i64 6, .bool false, str [], sv, kv].toArray VT (0, 0)) := fun hc => hc.at hb3 fun e => by have := hkvlt _ e; omega
    have e5 : ∀ {w4 : World}, Chg (fun q => kv.ownBlock = some q) w3 w4 → w4.heap[a5]? = some (.cells cs.toArray VT (0, 0)) := fun hc => hc.at hb5 fun e => by have := hkvlt _ e; omega
    have up : ∀ {w4 : World}, Ext w3 w4 → Chg (fun q => kv.ownBlock = some q) w3 w4 := fun hx => Chg.of_ext hx
    have ldk : ∀ {w4 : World} {K : Value → Prop}, Chg (fun q => kv.ownBlock = some q) w3 w4 → K kv → ldW false 1 (.pointer (some ((⟨a3, 0, none⟩ : Addr).add 4))) w4 K := fun hc hk => by
      rw [ld_one]; exact ⟨_, by rw [add_mk, cell_eq, e3 hc]; rfl, hk⟩
    have lds : ∀ {w4 : World} {K : Value → Prop}, Chg (fun q => kv.ownBlock = some q) w3 w4 → K sv → ldW false 1 (.pointer (some ((⟨a3, 0, none⟩ : Addr).add 3))) w4 K := fun hc hk => by
      rw [ld_one]; exact ⟨_, by rw [add_mk, cell_eq, e3 hc]; rfl, hk⟩
    have ldx : ∀ {w4 : World} {K : Value → Prop}, Chg (fun q => kv.ownBlock = some q) w3 w4 → K (.agg cs.toArray) → ldW true 5 (.pointer (some ⟨a5, 0, none⟩)) w4 K := fun hc hk => ld_all (e5 hc) hcs5 hk
    -- both are in: the two stores
    have fin : ∀ {w4 w5 : World} {sv' kv' : Value}, Chg (fun q => kv.ownBlock = some q) w3 w4 → Own w4 B ST 1 kv' (l.length + 1) (((l.map (·.1)).map str).take (i * 1) ++ [str k] ++ ((l.map (·.1)).map str).drop (i * 1)) → (∀ q, kv'.ownBlock = some q → kv.ownBlock = some q ∨ w3.heap.size ≤ q) →
        Chg (fun q => sv.ownBlock = some q) w4 w5 → Own w5 B VT 5 sv' (l.length + 1) (L.take (i * 5) ++ cs ++ L.drop (i * 5)) → (∀ q, sv'.ownBlock = some q → sv.ownBlock = some q ∨ w3.heap.size ≤ q) →
        stW 1 (.pointer (some ((⟨a3, 0, none⟩ : Addr).add 4))) kv' w5 fun w6 => fldW 3 (.pointer (some ⟨a3, 0, none⟩)) fun t36 => stW 1 t36 sv' w6 fun w7 => J [] w7 := fun {w4 w5 sv' kv'} hc4 hOk hkb hc5 hOs hsb => by
      have hb3' := hc5.at (e3 hc4) fun e => by have := hsvlt _ e; omega
      have hb6' := hc5.at (hc4.at hb6 fun e => by have := hkvlt _ e; omega) fun e => by have := hsvlt _ e; omega
      rw [add_mk]
      refine st_at hb3' (own_one hOk) (by simp) fun w6 hz6 hb36 hc6 => ?_
      have hb36 : w6.heap[a3]? = some (.cells [i64 6, .bool false, str [], sv, kv'].toArray VT (0, 0)) := by rw [hb36]; simp
      rw [fld_ptr, add_mk]
      refine st_at hb36 (own_one hOs) (by simp) fun w7 hz7 hb37 hc7 => ?_
      have hb37 : w7.heap[a3]? = some (.cells [i64 6, .bool false, str [], sv', kv'].toArray VT (0, 0)) := by rw [hb37]; simp
      have hc67 : Chg (fun q => q = a3) w5 w7 := hc6.trans hc7
      have s45 := hc5.size
      have s34 := hc4.size
      have s57 := hc67.size
      have hcw : Chg (fun q => sv.ownBlock = some q ∨ kv.ownBlock = some q) w w7 := by
        have h1 : Chg (fun q => sv.ownBlock = some q ∨ kv.ownBlock = some q) w w5 := (((Chg.of_ext hx03).trans (hc4.mono fun _ _ e => .inr e)).trans (hc5.mono fun _ _ e => .inl e))
        exact h1.then hc67 fun q hq e => by omega
      have n3 : ∀ q, kv'.ownBlock = some q → q ≠ a3 := fun q hq e => by
        rcases hkb q hq with h | h
        · have := hkvlt _ h; omega
        · omega
      have n3' : ∀ q, sv'.ownBlock = some q → q ≠ a3 := fun q hq e => by
        rcases hsb q hq with h | h
        · have := hsvlt _ h; omega
        · omega
      have hOk5 : Own w5 B ST 1 kv' (l.length + 1) (((l.map (·.1)).map str).take (i * 1) ++ [str k] ++ ((l.map (·.1)).map str).drop (i * 1)) := own_chg hOk hc5 fun q hq e => by
        obtain ⟨_, _, c, hc⟩ := own_in hOk hq
        obtain ⟨_, _, c', hc'⟩ := own_in (own_chg hO ((Chg.of_ext hx03).trans hc4) fun q hq e => rows_ne hO hM hq e) e
        rw [hc] at hc'
        simp only [Option.some.injEq, Obj.cells.injEq] at hc'
        exact absurd hc'.2.1 (by decide)
      have hOk7 := own_chg hOk5 hc67 fun q hq e => n3 q hq e
      have hOs7 := own_chg hOs hc67 fun q hq e => n3' q hq e
      refine (hJ _ w7).2 ⟨sv', kv', hb37, hc67.at hb6' (by omega), hcw, by have := at_lt hb6; omega, own_one hOs, own_one hOk, ?_⟩
      have hfree : ∀ q, Free B sv kv q → q < w.heap.size → ¬ (sv.ownBlock = some q ∨ kv.ownBlock = some q) := fun q hq _ e => by
        rcases e with e | e
        · exact hq.2.1 e
        · exact hq.2.2 e
      have hrp0 : VRepsP (fun q => Free B sv kv q ∧ q < w.heap.size) w (l.map (·.2)) L := hrp.mono fun q hq h => ⟨h, hq⟩
      have hx0 : VRepP (fun q => Free B sv kv q ∧ q < w.heap.size) w x cs := hx.mono fun q hq h => ⟨h, hq⟩
      have hrp7 := VRepsP.chg hcw (fun q hq h => hfree q hq.1 h) hrp0
      have hx7 := VRepP.chg hcw (fun q hq h => hfree q hq.1 h) hx0
      have m3 : ∀ q, kv'.ownBlock = some q → q ≠ a6 := fun q hq e => by
        rcases hkb q hq with h | h
        · have := hkvlt _ h; omega
        · omega
      have m3' : ∀ q, sv'.ownBlock = some q → q ≠ a6 := fun q hq e => by
        rcases hsb q hq with h | h
        · have := hsvlt _ h; omega
        · omega
      obtain ⟨c1, c2⟩ := hrp7.cut i
      have hall := (c1.app (VRepsP.one' hx7)).app c2
      have ex : (mkO (insP l k x)).xs = (l.map (·.2)).take i ++ [x] ++ (l.map (·.2)).drop i := by
        rw [hins]
        show ((l.take i ++ (k, x) :: l.drop i).map (·.2)) = _
        simp
      have ek : (mkO (insP l k x)).ks = (l.map (·.1)).take i ++ [k] ++ (l.map (·.1)).drop i := by
        rw [hins]
        show ((l.take i ++ (k, x) :: l.drop i).map (·.1)) = _
        simp
      have exl : (mkO (insP l k x)).xs.length = l.length + 1 := by
        rw [hins]
        show ((l.take i ++ (k, x) :: l.drop i).map (·.2)).length = _
        simp; omega
      have ekl : (mkO (insP l k x)).ks.length = l.length + 1 := by
        rw [hins]
        show ((l.take i ++ (k, x) :: l.drop i).map (·.1)).length = _
        simp; omega
      have ekm : (mkO (insP l k x)).ks.map str = ((l.map (·.1)).map str).take (i * 1) ++ [str k] ++ ((l.map (·.1)).map str).drop (i * 1) := by
        rw [ek, Nat.mul_one]
        simp
      have hfits : Fits (mkO (insP l k x)).xs.length (mkO (insP l k x)).ks (mkO (insP l k x)).t := ⟨by rw [exl]; omega, by rw [ekl]; omega, by simp [mkO, JV.t], fun s hs => by
        rw [ek] at hs
        rcases List.mem_append.1 hs with hs | hs
        · rcases List.mem_append.1 hs with hs | hs
          · exact f4 s (List.mem_of_mem_take hs)
          · rw [List.mem_singleton.1 hs]; exact hkl
        · exact f4 s (List.mem_of_mem_drop hs)⟩
      have hreps : VRepsP (fun q => (B ≤ q ∧ sv'.ownBlock ≠ some q ∧ kv'.ownBlock ≠ some q) ∧ q ≠ a6) w7 (mkO (insP l k x)).xs (L.take (i * 5) ++ cs ++ L.drop (i * 5)) := by
        rw [ex]
        exact hall.mono fun q _ hq => ⟨⟨hq.1.1, fun e => by
          rcases hsb q e with h | h
          · exact hq.1.2.1 h
          · have := hq.2; omega, fun e => by
          rcases hkb q e with h | h
          · exact hq.1.2.2 h
          · have := hq.2; omega⟩, by have := hq.2; omega⟩
      refine ⟨m3', m3, _, ⟨by rw [exl]; exact hOs7, hreps.mono fun q _ hq => hq.1, by rw [ekl, ekm]; exact hOk7, hfits⟩, hreps⟩
    rw [fld_ptr]
    refine ldk (up hxd) ?_
    rw [fld_ptr]
    refine lds (up hxd) ?_
    refine ldx (up hxd) ⟨?_, ?_⟩
    · refine rowS fun b27 w4 hb27 hz4 ht27 hx4 => ?_
      have hx4 := hxd.trans hx4
      have sd : w3.drew.heap.size = w3.heap.size := rfl
      refine ⟨ldx (up hx4) rfl, lds (up hx4) rfl, ldk (up hx4) rfl, ?_, ?_⟩
      · refine insK (hx03.trans hx4) (by omega) ht27 fun kv' w5 hOk hc5 hkb => ?_
        have hc35 : Chg (fun q => kv.ownBlock = some q) w3 w5 := (up hx4).trans hc5
        refine ⟨ldx hc35 rfl, lds hc35 rfl, ?_⟩
        rw [fld_ptr]
        refine rowV hcs5 fun b33 w6 hb33 hz6 ht33 hx6 => ?_
        have hc36 : Chg (fun q => kv.ownBlock = some q) w3 w6 := hc35.then hx6 fun _ _ e => e.elim
        have s35 := hc35.size
        refine ⟨lds hc36 rfl, ?_⟩
        refine insV ((Chg.of_ext hx03).trans hc36) (by omega) ht33 fun sv' w7 hOs hc7 hsb => ?_
        exact fin hc36 (own_chg hOk hx6 fun _ _ e => e) (fun q hq => (hkb q hq).imp id fun h => by omega) hc7 hOs (fun q hq => (hsb q hq).imp id fun h => by omega)
      · refine rowV hcs5 fun b33 w5 hb33 hz5 ht33 hx5 => ?_
        have hx35 := hx4.trans hx5
        refine ⟨lds (up hx35) rfl, ldk (up hx35) rfl, ?_⟩
        refine insK (hx03.trans hx35) (by omega) (hx5.at ht27 id) fun kv' w6 hOk hc6 hkb => ?_
        have hc36 : Chg (fun q => kv.ownBlock = some q) w3 w6 := (up hx35).trans hc6
        refine ⟨lds hc36 rfl, ?_⟩
        rw [fld_ptr]
        have s36 := hc36.size
        refine insV ((Chg.of_ext hx03).trans hc36) (by omega) (hc6.at ht33 fun e => by have := hkvlt _ e; omega) fun sv' w7 hOs hc7 hsb => ?_
        exact fin hc36 hOk (fun q hq => (hkb q hq).imp id fun h => by omega) hc7 hOs (fun q hq => (hsb q hq).imp id fun h => by omega)
    · refine rowV hcs5 fun b33 w4 hb33 hz4 ht33 hx4 => ?_
      have hx4 := hxd.trans hx4
      have sd : w3.drew.heap.size = w3.heap.size := rfl
      refine ⟨lds (up hx4) rfl, ldk (up hx4) rfl, ?_⟩
      refine rowS fun b27 w5 hb27 hz5 ht27 hx5 => ?_
      have hx35 := hx4.trans hx5
      refine ⟨lds (up hx35) rfl, ldk (up hx35) rfl, ?_⟩
      refine insK (hx03.trans hx35) (by omega) ht27 fun kv' w6 hOk hc6 hkb => ?_
      have hc36 : Chg (fun q => kv.ownBlock = some q) w3 w6 := (up hx35).trans hc6
      refine ⟨lds hc36 rfl, ?_⟩
      rw [fld_ptr]
      have s36 := hc36.size
      refine insV ((Chg.of_ext hx03).trans hc36) (by omega) (hc6.at (hx5.at ht33 id) fun e => by have := hkvlt _ e; omega) fun sv' w7 hOs hc7 hsb => ?_
      exact fin hc36 hOk (fun q hq => (hkb q hq).imp id fun h => by omega) hc7 hOs (fun q hq => (hsb q hq).imp id fun h => by omega)
  rintro st g w4 hJ4
  obtain ⟨sv', kv', hb3, hb6, hc, hlt6, o1', o2', n1, n2, L', hOP, hrep⟩ := (hJ _ _).1 hJ4
  refine ld_all hb3 rfl ?_
  refine ret_agg hb6 rfl rfl (obj_one o1' o2') fun w5 hc5 => ?_
  exact hK _ _ L' w5 (hc.then hc5 fun q hq e => by omega) ⟨own_chg hOP.items hc5 fun q hq e => n1 q hq e, (VRepsP.chg hc5 (fun q hq _ e => hq.2 e) hrep).mono fun q _ hq => hq.1, own_chg hOP.keys hc5 fun q hq e => n2 q hq e, hOP.fits⟩
end
end Go.Proofs.YtnoepcndjljolaaGreatDoor
namespace Go.Proofs.YtnoepcndjljolaaGreatDoor
open Go Go.Eng Go.Num
set_option maxRecDepth 100000
mutual
def fewW : JV → Bool
  | .mk _ _ _ xs ks => decide (xs.length ≤ 1000000) && decide (ks.length ≤ 1000000) && fewWL xs
def fewWL : List JV → Bool
  | [] => true
  | x :: xs => fewW x && fewWL xs
end
theorem fewW_eq (v : JV) : fewW v = (decide (v.xs.length ≤ 1000000) && decide (v.ks.length ≤ 1000000) && fewWL v.xs) := by cases v; rfl
theorem fewWL_all (xs : List JV) : fewWL xs = xs.all fewW := by
  induction xs with
  | nil => rfl
  | cons x xs ih => simp [fewWL, ih]
theorem few_w (v : JV) : fewM v = true → fewW v = true := by
  induction v using JV.ind' with
  | h v ih =>
    intro h
    rw [fewM_eq, fewL_all] at h
    rw [fewW_eq, fewWL_all]
    simp only [Bool.and_eq_true, decide_eq_true_eq, List.all_eq_true] at h ⊢
    exact ⟨⟨by omega, by omega⟩, fun x hx => ih x hx (h.2 x hx)⟩
theorem few_mkW {l : List (Str × JV)} (hl : l.length ≤ 1000) (hf : ∀ p ∈ l, fewW p.2 = true) : fewW (mkO l) = true := by
  rw [fewW_eq, fewWL_all]
  simp only [mkO, JV.xs, JV.ks, List.length_map, Bool.and_eq_true, decide_eq_true_eq, List.all_eq_true, List.mem_map]
  exact ⟨⟨by omega, by omega⟩, fun x ⟨p, hp, e⟩ => by rw [← e]; exact hf p hp⟩
section
variable [HX]
theorem clone_w (v : JV) : ∀ {cs : List Value} {w : World} {K : Value → World → Prop}, fewW v = true → VRep w v cs → (∀ cs' w', Ext w w' → VRepP (From w.heap.size) w' v cs' → K (.agg cs'.toArray) w') → callF Tryz.prog 71 [.agg cs.toArray] w K := by
  induction v using JV.ind' with
  | h v ih =>
    intro cs w K hfew h hK
    rw [fewW_eq, fewWL_all] at hfew
    simp only [Bool.and_eq_true, decide_eq_true_eq, List.all_eq_true] at hfew
    obtain ⟨⟨f1, f2⟩, f3⟩ := hfew
    refine W71_ok ?_
    unfold W71
    refine box_val h fun a w1 sv kv hB hx ha => ?_
    refine alloc_new fun b w2 hb hz2 hbb hx2 => ?_
    have hxd : Ext w2 w2.drew := Chg.drew (Chg.refl (fun _ => False) w2)
    have hB2 := hB.ext hx2
    have hBd := hB2.ext hxd
    have hbd := hxd.at hbb id
    have sd : w2.drew.heap.size = w2.heap.size := rfl
    simp only [wsv, wsg, wsh, wsl, cond_true, cond_false, exists_eq_left', Option.some.injEq, Option.isSome_some, List.getElem?_toArray, List.getElem?_cons_zero, List.getElem?_cons_succ, List.length_cons, List.length_nil, List.set_cons_zero, List.set_cons_succ, List.getD_cons_zero, List.getD_cons_succ, Nat.zero_add, Nat.add_zero, Nat.reduceAdd, Nat.reduceLT, Nat.lt_add_one, Nat.zero_lt_succ, decide_true, decide_false, ne_eq, reduceCtorEq, wsh, hB2.hb]
    obtain ⟨T1, k1⟩ := hBd.keys
    refine clone_s k1 (by omega) fun kv' w3 hx3 hk3 hg3 => ?_
    have hB3 := hBd.ext hx3
    have hb3 := hx3.at hbd id
    have s3 := hx3.size
    simp only [wsv, wsg, wsh, wsl, cond_true, cond_false, exists_eq_left', Option.some.injEq, Option.isSome_some, List.getElem?_toArray, List.getElem?_cons_zero, List.getElem?_cons_succ, List.length_cons, List.length_nil, List.set_cons_zero, List.set_cons_succ, List.getD_cons_zero, List.getD_cons_succ, Nat.zero_add, Nat.add_zero, Nat.reduceAdd, Nat.reduceLT, Nat.lt_add_one, Nat.zero_lt_succ, decide_true, decide_false, ne_eq, reduceCtorEq, wsh, hB3.hb]
    refine clones_p (fun x hx => ih x hx (f3 x hx)) hB3.itemsAt (by omega) fun sv' w4 hx4 hL hg4 => ?_
    obtain ⟨L, hL1, hL2⟩ := hL
    have hB4 := hB3.ext hx4
    have hb4 := hx4.at hb3 id
    have s1 := hx.size
    have hak := at_lt hB.hb
    have one1 : one1 sv' = true ∧ one1 kv' = true := by
      obtain ⟨p, c, rfl, _⟩ := hL1.shape
      obtain ⟨p', c', rfl, _⟩ := hk3.shape
      exact ⟨rfl, rfl⟩
    refine st_at hB4.hb one1.2 (by simp) fun w5 hz5 ha5 hc5 => ?_
    have ha5 : w5.heap[a]? = some (.cells [i64 v.k, .bool v.b, str v.t, sv, kv'].toArray VT (0, 0)) := by rw [ha5]; simp
    refine st_at ha5 one1.1 (by simp) fun w6 hz6 ha6 hc6 => ?_
    have ha6 : w6.heap[a]? = some (.cells [i64 v.k, .bool v.b, str v.t, sv', kv'].toArray VT (0, 0)) := by rw [ha6]; simp
    refine ld_all ha6 rfl ?_
    have hb6 := hc6.at (hc5.at hb4 (by omega)) (by omega)
    refine ret_agg hb6 rfl rfl (obj_one one1.1 one1.2) fun w7 hc7 => ?_
    have hx1 : Ext w w4 := hx.trans (hx2.trans (hxd.trans (hx3.trans hx4)))
    have hx5 : Ext w w7 := ((hx1.new hc5 (by omega)).new hc6 (by omega)).new hc7 (by omega)
    have hch : Chg (fun k => k = a ∨ k = b) w4 w7 := ((hc5.mono fun k _ e => .inl e).trans (hc6.mono fun k _ e => .inl e)).trans (hc7.mono fun k _ e => .inr e)
    refine hK _ w7 hx5 (VRepP.mk (T1 := VT) (T2 := ST) (L := L) ?_ ?_ ?_ hB.fits (fun _ k hk => ?_) (fun _ k hk => ?_))
    · exact slat_chgG hL1 (fun _ => hg4) hch fun k hk _ e => by have : w3.heap.size ≤ k := hk; omega
    · refine VRepsP.mono (fun k _ hk => ?_) (VRepsP.chg (G := From w3.heap.size) hch (fun k hk _ e => by have : w3.heap.size ≤ k := hk; omega) hL2)
      have : w3.heap.size ≤ k := hk
      show w.heap.size ≤ k
      omega
    · exact slat_chgG (hk3.ext hx4) (fun _ => hg3) hch fun k hk _ e => by have : w2.drew.heap.size ≤ k := hk; omega
    · have : w3.heap.size ≤ k := hg4 k hk
      show w.heap.size ≤ k
      omega
    · have : w2.drew.heap.size ≤ k := hg3 k hk
      show w.heap.size ≤ k
      omega
theorem getnone_p {v : JV} {cs : List Value} {k : Str} {w : World} {K : Value → World → Prop} (h : VRep w v cs) (k6 : v.k = 6) (f2 : v.ks.length ≤ 100000) (hr : Rise v.ks) (hno : ∀ j, idxK v.ks k = some j → False)
    (hK : ∀ cs' w', Ext w w' → VRep w' JV.null cs' → K (.tuple #[.agg cs'.toArray, .bool false]) w') : callF Tryz.prog 106 [.agg cs.toArray, str k] w K := by
  refine W106_ok ?_
  unfold W106
  refine box_val h fun a w1 sv kv hB hx _ => ?_
  refine alloc_new fun b w2 hb hz2 hbb hx2 => ?_
  have hB := hB.ext hx2
  have hgb : w1.heap.size ≤ b := by omega
  simp only [wsv, wsg, wsh, wsl, cond_true, cond_false, exists_eq_left', Option.some.injEq, Option.isSome_some, List.getElem?_toArray, List.getElem?_cons_zero, List.getElem?_cons_succ, List.length_cons, List.length_nil, List.set_cons_zero, List.set_cons_succ, List.getD_cons_zero, List.getD_cons_succ, Nat.zero_add, Nat.add_zero, Nat.reduceAdd, Nat.reduceLT, Nat.lt_add_one, Nat.zero_lt_succ, decide_true, decide_false, ne_eq, reduceCtorEq, wsh, hB.hb]
  obtain ⟨T2, hk2⟩ := hB.keys
  refine search_p hk2 f2 hr fun i hi0 _ _ hile => ?_
  have e6 : decide (v.k = 6) = true := decide_eq_true k6
  cases hx0 : idxK v.ks k with
  | none =>
    simp only [Option.isSome_none]
    simp only [wsv, wsg, wsh, wsl, cond_true, cond_false, exists_eq_left', Option.some.injEq, Option.isSome_some, List.getElem?_toArray, List.getElem?_cons_zero, List.getElem?_cons_succ, List.length_cons, List.length_nil, List.set_cons_zero, List.set_cons_succ, List.getD_cons_zero, List.getD_cons_succ, Nat.zero_add, Nat.add_zero, Nat.reduceAdd, Nat.reduceLT, Nat.lt_add_one, Nat.zero_lt_succ, decide_true, decide_false, ne_eq, reduceCtorEq, wsh, hB.hb, e6]
    intros
    (try simp only [wsv, wsg, wsh, wsl, cond_true, cond_false, exists_eq_left', Option.some.injEq, Option.isSome_some, List.getElem?_toArray, List.getElem?_cons_zero, List.getElem?_cons_succ, List.length_cons, List.length_nil, List.set_cons_zero, List.set_cons_succ, List.getD_cons_zero, List.getD_cons_succ, Nat.zero_add, Nat.add_zero, Nat.reduceAdd, Nat.reduceLT, Nat.lt_add_one, Nat.zero_lt_succ, decide_true, decide_false, ne_eq, reduceCtorEq, wsh, hB.hb, e6])
    refine ret_val (K := fun r w => K (.tuple #[r, .bool false]) w) hbb rfl hgb hx2 (vrep_null w1) fun w4 hx4 _ h4 => ?_
    exact hK _ w4 (hx.trans hx4) h4
  | some j => exact (hno j hx0).elim
end
end Go.Proofs.YtnoepcndjljolaaGreatDoor
namespace Go.Eng
open Go
structure RV where
  addr : Str
  typ : Str
  id : Str
  attrs : JV
  deps : List Str
def RV.zero : RV := ⟨[], [], [], JV.null, []⟩
end Go.Eng
namespace Go.Proofs.YtnoepcndjljolaaGreatDoor
open Go Go.Eng Go.Num Go.RowKit
set_option maxRecDepth 100000
theorem vrep_lt {w : World} : ∀ {v : JV} {cs : List Value}, VRep w v cs → VRepP (fun k => k < w.heap.size) w v cs := by
  intro v
  induction v using JV.ind with
  | h k b t xs ks ih =>
    intro cs h
    simp only [VRep] at h
    obtain ⟨sv, kv, T1, T2, L, rfl, h1, h2, h3, h4⟩ := h
    have hL : ∀ (ys : List JV) (M : List Value), (∀ y ∈ ys, y ∈ xs) → VReps w ys M → VRepsP (fun k => k < w.heap.size) w ys M := fun ys => by
      induction ys with
      | nil => intro M _ h; simp only [VReps] at h; simp only [VRepsP]; exact h
      | cons y ys ihy =>
        intro M hm h
        simp only [VReps] at h
        obtain ⟨c, r, rfl, hc, hr⟩ := h
        simp only [VRepsP]
        exact ⟨c, r, rfl, ih y (hm y (by simp)) hc, ihy r (fun z hz => hm z (by simp [hz])) hr⟩
    simp only [VRepP]
    exact ⟨sv, kv, T1, T2, L, rfl, h1, hL xs L (fun _ h => h) h2, h3, h4, slat_lt h1, slat_lt h3⟩
structure RFits (r : RV) : Prop where
  addr : r.addr.length ≤ 9223372036854775807
  typ : r.typ.length ≤ 9223372036854775807
  id : r.id.length ≤ 9223372036854775807
  deps : r.deps.length ≤ 9223372036854775807
  each : ∀ d ∈ r.deps, d.length ≤ 9223372036854775807
abbrev rcs (r : RV) (vcs : List Value) (dv : Value) : List Value := str r.addr :: str r.typ :: str r.id :: (vcs ++ [dv])
def RRepP (G : Nat → Prop) (w : World) (r : RV) (cs : List Value) : Prop := ∃ vcs dv T, cs = rcs r vcs dv ∧ VRepP G w r.attrs vcs ∧ SlAt w T dv r.deps.length (r.deps.map str) ∧ (r.deps.map str ≠ [] → inG G dv) ∧ RFits r
def RRepsP (G : Nat → Prop) (w : World) : List RV → List Value → Prop
  | [], L => L = []
  | x :: xs, L => ∃ c r, L = c ++ r ∧ RRepP G w x c ∧ RRepsP G w xs r
theorem RRepP.len {G : Nat → Prop} {w : World} {r : RV} {cs : List Value} (h : RRepP G w r cs) : cs.length = 9 := by
  obtain ⟨vcs, dv, T, rfl, h1, _⟩ := h
  simp [h1.rep.len]
theorem RRepP.one {G : Nat → Prop} {w : World} {r : RV} {cs : List Value} (h : RRepP G w r cs) : ∀ u ∈ cs, one1 u = true := by
  obtain ⟨vcs, dv, T, rfl, h1, h2, _⟩ := h
  obtain ⟨p, c, rfl, _⟩ := h2.shape
  intro u hu
  simp only [List.mem_cons, List.mem_append, List.not_mem_nil, or_false] at hu
  rcases hu with rfl | rfl | rfl | hu | rfl
  · rfl
  · rfl
  · rfl
  · exact h1.rep.one u hu
  · rfl
theorem RRepP.all_one {G : Nat → Prop} {w : World} {r : RV} {cs : List Value} (h : RRepP G w r cs) : cs.all one1 = true := List.all_eq_true.2 h.one
theorem RRepP.chg {S G : Nat → Prop} {w w' : World} (hc : Chg S w w') (hS : ∀ k, G k → k < w.heap.size → ¬ S k) {r : RV} {cs : List Value} (h : RRepP G w r cs) : RRepP G w' r cs := by
  obtain ⟨vcs, dv, T, rfl, h1, h2, h3, h4⟩ := h
  exact ⟨vcs, dv, T, rfl, VRepP.chg hc hS h1, slat_chgG h2 h3 hc hS, h3, h4⟩
theorem RRepP.ext {G : Nat → Prop} {w w' : World} (hx : Ext w w') {r : RV} {cs : List Value} (h : RRepP G w r cs) : RRepP G w' r cs := h.chg hx fun _ _ _ e => e
theorem RRepP.mono {G G' : Nat → Prop} {w : World} (hG : ∀ k, k < w.heap.size → G k → G' k) {r : RV} {cs : List Value} (h : RRepP G w r cs) : RRepP G' w r cs := by
  obtain ⟨vcs, dv, T, rfl, h1, h2, h3, h4⟩ := h
  exact ⟨vcs, dv, T, rfl, VRepP.mono hG h1, h2, fun hne k hk => hG k (slat_lt h2 hne k hk) (h3 hne k hk), h4⟩
theorem RRepP.low {G : Nat → Prop} {w : World} {r : RV} {cs : List Value} (h : RRepP G w r cs) : RRepP (fun k => G k ∧ k < w.heap.size) w r cs := h.mono fun k hlt hg => ⟨hg, hlt⟩
theorem RRepsP.len {G : Nat → Prop} {w : World} : ∀ {xs : List RV} {L : List Value}, RRepsP G w xs L → L.length = xs.length * 9
  | [], L, h => by simp only [RRepsP] at h; subst h; rfl
  | x :: xs, L, h => by
    simp only [RRepsP] at h
    obtain ⟨c, r, rfl, hc, hr⟩ := h
    rw [List.length_append, hc.len, RRepsP.len hr, List.length_cons]; omega
theorem RRepsP.one {G : Nat → Prop} {w : World} : ∀ {xs : List RV} {L : List Value}, RRepsP G w xs L → ∀ u ∈ L, one1 u = true
  | [], L, h => by simp only [RRepsP] at h; subst h; intro u hu; cases hu
  | x :: xs, L, h => by
    simp only [RRepsP] at h
    obtain ⟨c, r, rfl, hc, hr⟩ := h
    intro u hu
    rcases List.mem_append.1 hu with hu | hu
    · exact hc.one u hu
    · exact RRepsP.one hr u hu
theorem RRepsP.chg {S G : Nat → Prop} {w w' : World} (hc : Chg S w w') (hS : ∀ k, G k → k < w.heap.size → ¬ S k) : ∀ {xs : List RV} {L : List Value}, RRepsP G w xs L → RRepsP G w' xs L
  | [], L, h => by simp only [RRepsP] at h ⊢; exact h
  | x :: xs, L, h => by
    simp only [RRepsP] at h ⊢
    obtain ⟨c, r, rfl, h1, h2⟩ := h
    exact ⟨c, r, rfl, h1.chg hc hS, RRepsP.chg hc hS h2⟩
theorem RRepsP.ext {G : Nat → Prop} {w w' : World} (hx : Ext w w') {xs : List RV} {L : List Value} (h : RRepsP G w xs L) : RRepsP G w' xs L := RRepsP.chg hx (fun _ _ _ e => e) h
theorem RRepsP.mono {G G' : Nat → Prop} {w : World} (hG : ∀ k, k < w.heap.size → G k → G' k) : ∀ {xs : List RV} {L : List Value}, RRepsP G w xs L → RRepsP G' w xs L
  | [], L, h => by simp only [RRepsP] at h ⊢; exact h
  | x :: xs, L, h => by
    simp only [RRepsP] at h ⊢
    obtain ⟨c, r, rfl, h1, h2⟩ := h
    exact ⟨c, r, rfl, h1.mono hG, RRepsP.mono hG h2⟩
theorem RRepsP.app {G : Nat → Prop} {w : World} : ∀ {xs ys : List RV} {L M : List Value}, RRepsP G w xs L → RRepsP G w ys M → RRepsP G w (xs ++ ys) (L ++ M)
  | [], ys, L, M, h, h' => by simp only [RRepsP] at h; subst h; exact h'
  | x :: xs, ys, L, M, h, h' => by
    simp only [RRepsP] at h
    obtain ⟨c, r, rfl, hc, hr⟩ := h
    simp only [List.cons_append, RRepsP]
    exact ⟨c, r ++ M, by simp, hc, RRepsP.app hr h'⟩
theorem RRepsP.one' {G : Nat → Prop} {w : World} {x : RV} {cs : List Value} (h : RRepP G w x cs) : RRepsP G w [x] cs := by
  simp only [RRepsP]; exact ⟨cs, [], by simp, h, rfl⟩
theorem RRepsP.snoc {G : Nat → Prop} {w : World} {xs : List RV} {x : RV} {L cs : List Value} (h : RRepsP G w xs L) (hx : RRepP G w x cs) : RRepsP G w (xs ++ [x]) (L ++ cs) := h.app (RRepsP.one' hx)
theorem RRepsP.get {G : Nat → Prop} {w : World} : ∀ {xs : List RV} {L : List Value} {i : Nat} {x : RV}, RRepsP G w xs L → xs[i]? = some x → ∃ cs, RRepP G w x cs ∧ ∀ j, j < 9 → L[i * 9 + j]? = cs[j]?
  | [], _, _, _, _, h => by simp at h
  | y :: xs, L, 0, x, h, hx => by
    simp only [List.getElem?_cons_zero, Option.some.injEq] at hx
    subst hx
    simp only [RRepsP] at h
    obtain ⟨c, r, rfl, hc, hr⟩ := h
    refine ⟨c, hc, fun j hj => ?_⟩
    rw [Nat.zero_mul, Nat.zero_add, List.getElem?_append_left (by rw [hc.len]; exact hj)]
  | y :: xs, L, i + 1, x, h, hx => by
    simp only [List.getElem?_cons_succ] at hx
    simp only [RRepsP] at h
    obtain ⟨c, r, rfl, hc, hr⟩ := h
    obtain ⟨cs, h1, h2⟩ := RRepsP.get hr hx
    refine ⟨cs, h1, fun j hj => ?_⟩
    rw [List.getElem?_append_right (by rw [hc.len]; omega), hc.len, ← h2 j hj]
    congr 1; omega
theorem RRepsP.cut {G : Nat → Prop} {w : World} : ∀ (i : Nat) {xs : List RV} {L : List Value}, RRepsP G w xs L → RRepsP G w (xs.take i) (L.take (i * 9)) ∧ RRepsP G w (xs.drop i) (L.drop (i * 9))
  | 0, xs, L, h => by simp only [Nat.zero_mul, List.take_zero, List.drop_zero, RRepsP]; exact ⟨trivial, h⟩
  | i + 1, [], L, h => by simp only [RRepsP] at h; subst h; simp [RRepsP]
  | i + 1, x :: xs, L, h => by
    simp only [RRepsP] at h
    obtain ⟨c, r, rfl, hc, hr⟩ := h
    have h9 := hc.len
    obtain ⟨h1, h2⟩ := RRepsP.cut i hr
    have e1 : (c ++ r).take ((i + 1) * 9) = c ++ r.take (i * 9) := by
      rw [show (i + 1) * 9 = c.length + i * 9 by omega, List.take_append, List.take_of_length_le (by omega), Nat.add_sub_cancel_left]
    have e2 : (c ++ r).drop ((i + 1) * 9) = r.drop (i * 9) := by
      rw [show (i + 1) * 9 = c.length + i * 9 by omega, List.drop_append]
      simp
    rw [e1, e2]
    simp only [List.take_succ_cons, List.drop_succ_cons, RRepsP]
    exact ⟨⟨c, _, rfl, hc, h1⟩, h2⟩
theorem rec_ld {G : Nat → Prop} {w : World} {T : TypeId} {sv : Value} {xs : List RV} {L : List Value} {k : IntKind} {i : Nat} {x : RV} {K : Value → Prop} (h : SlAt w T sv xs.length L) (hr : RRepsP G w xs L) (hi : xs[i]? = some x)
    (hK : ∀ cs, RRepP G w x cs → K (.agg cs.toArray)) : ixaW none 9 sv (.int k i) fun p => ldW true 9 p w K := by
  obtain ⟨cs, hc, hg⟩ := hr.get hi
  refine ixa_at (size := 9) h hr.len (by omega) (List.getElem?_eq_some_iff.1 hi).1 fun b o c fr hb hcc => ?_
  exact ld_cells hb hc.len (fun j hj => (hcc j hj).trans (hg j hj)) (hK cs hc)
structure RcB (G : Nat → Prop) (T0 : TypeId) (w : World) (p : Nat) (r : RV) (vcs : List Value) (dv : Value) : Prop where
  hb : w.heap[p]? = some (.cells (rcs r vcs dv).toArray T0 (0, 0))
  val : VRepP G w r.attrs vcs
  sl : ∃ T, SlAt w T dv r.deps.length (r.deps.map str)
  inn : r.deps.map str ≠ [] → inG G dv
  fits : RFits r
theorem RcB.ext {G : Nat → Prop} {T0 : TypeId} {w w' : World} {p : Nat} {r : RV} {vcs : List Value} {dv : Value} (h : RcB G T0 w p r vcs dv) (hx : Ext w w') : RcB G T0 w' p r vcs dv := ⟨hx.at h.hb id, VRepP.chg hx (fun _ _ _ e => e) h.val, let ⟨T, h1⟩ := h.sl; ⟨T, h1.ext hx⟩, h.inn, h.fits⟩
theorem RcB.rep {G : Nat → Prop} {T0 : TypeId} {w : World} {p : Nat} {r : RV} {vcs : List Value} {dv : Value} (h : RcB G T0 w p r vcs dv) : RRepP G w r (rcs r vcs dv) := let ⟨T, h1⟩ := h.sl; ⟨vcs, dv, T, rfl, h.val, h1, h.inn, h.fits⟩
theorem RcB.all {G : Nat → Prop} {T0 : TypeId} {w : World} {p : Nat} {r : RV} {vcs : List Value} {dv : Value} {K : Value → Prop} (h : RcB G T0 w p r vcs dv) (hk : K (.agg (rcs r vcs dv).toArray)) : ldW true 9 (.pointer (some ⟨p, 0, none⟩)) w K := ld_all h.hb h.rep.len hk
theorem RcB.ld {G : Nat → Prop} {T0 : TypeId} {w : World} {p off : Nat} {r : RV} {vcs : List Value} {dv v : Value} {K : Value → Prop} (h : RcB G T0 w p r vcs dv) (hv : (rcs r vcs dv)[off]? = some v) (hk : K v) : ldW false 1 (.pointer (some ((⟨p, 0, none⟩ : Addr).add off))) w K := by
  rw [ld_one]
  refine ⟨v, ?_, hk⟩
  rw [add_mk, cell_eq, h.hb, cellO_some, Nat.zero_add]
  simpa using hv
theorem RcB.attrs {G : Nat → Prop} {T0 : TypeId} {w : World} {p : Nat} {r : RV} {vcs : List Value} {dv : Value} {K : Value → Prop} (h : RcB G T0 w p r vcs dv) (hk : K (.agg vcs.toArray)) : ldW true 5 (.pointer (some ((⟨p, 0, none⟩ : Addr).add 3))) w K := by
  have h5 := h.val.rep.len
  rw [add_mk]
  refine ld_cells h.hb h5 (fun j hj => ?_) hk
  simp only [List.getElem?_toArray]
  rw [show 0 + 3 + j = j + 1 + 1 + 1 by omega]
  simp only [rcs, List.getElem?_cons_succ]
  rw [List.getElem?_append_left (by omega)]
theorem box_r {G : Nat → Prop} {T0 : TypeId} {w : World} {r : RV} {cs : List Value} {K : Value → World → Prop} (h : RRepP G w r cs) (hK : ∀ p w' vcs dv, cs = rcs r vcs dv → RcB G T0 w' p r vcs dv → Ext w w' → p = w.heap.size → K (.pointer (some ⟨p, 0, none⟩)) w') : boxW T0 (.agg cs.toArray) w K := by
  obtain ⟨vcs, dv, T, rfl, h1, h2, h3, h4⟩ := h
  refine box_new fun p w' hp hz hb hx => hK p w' vcs dv rfl ⟨hb, VRepP.chg hx (fun _ _ _ e => e) h1, ⟨T, h2.ext hx⟩, h3, h4⟩ hx hp
end Go.Proofs.YtnoepcndjljolaaGreatDoor
namespace Go.Proofs.YtnoepcndjljolaaGreatDoor
open Go Go.Eng
set_option maxRecDepth 100000
variable [HX]
def plan3 : Plan := { js := [(43004, ⟨[59], [], 58⟩), (4004, ⟨[16], [], 14⟩)], ds := [] }
def W3 (v0 v1 v2 : Value) (w : World) (K : Value → World → Prop) : Prop :=
  boxW 24 v0 w fun t3 w1 =>
  callF Tryz.prog 6 [] w1 fun t11 w2 =>
  unW .not t11 fun t12 =>
  GdW (isB t12 false) [undef] w2 (fun J3 =>
    ldW true 2 t3 w2 fun t14 =>
    callF Tryz.prog 7 [t14] w2 fun t15 w4 =>
    unW .not t15 fun t16 =>
    J3 [t16] w4)
  fun s3 _ w5 =>
  pickW t12 (.bool true) (s3.getD 0 undef) fun t17 =>
  condW t17 (
    callF Tryz.prog 6 [] w5 fun t18 w6 =>
    K t18 w6) (
    ldW true 2 t3 w5 fun t20 =>
    callF Tryz.prog 8 [t20] w5 fun t21 w7 =>
    extW 0 t21 fun t22 =>
    extW 1 t21 fun t23 =>
    binW .neq t23 (.int .i64 0) fun t25 =>
    condW t25 (
      K (.bool true) w7) (
      lenlW t22 fun t27 =>
      binW .eql t27 (.int .i64 0) fun t28 =>
      condW t28 (
        K (.bool false) w7) (
        cvtW .u64 v1 fun t30 =>
        lenlW t22 fun t32 =>
        cvtW .u64 t32 fun t33 =>
        binW .rem t30 t33 fun t34 =>
        cvtW .i64 t34 fun t35 =>
        ixaW none 1 t22 t35 fun t38 =>
        ldW false 1 t38 w7 fun t39 =>
        binW .or v2 (.int .u8 1) fun t41 =>
        binW .xor t39 t41 fun t42 =>
        ixaW none 1 t22 t35 fun t43 =>
        stW 1 t43 t42 w7 fun w8 =>
        callF Tryz.prog 9 [t22] w8 fun t46 w9 =>
        extW 0 t46 fun t47 =>
        extW 1 t46 fun t48 =>
        allocW 24 [(.int .i64 0), (.slice none 0 0)] w9 fun t10 w10 =>
        stW 2 t10 t47 w10 fun w11 =>
        binW .neq t48 (.int .i64 0) fun t50 =>
        condW t50 (
          binW .eql t48 (.int .i64 150) fun t52 =>
          K t52 w11) (
          ldW true 2 t10 w11 fun t53 =>
          ldW true 2 t3 w11 fun t54 =>
          callF Tryz.prog 10 [t53, t54] w11 fun t55 w12 =>
          unW .not t55 fun t56 =>
          GdW (isB t56 true) [undef] w12 (fun J13 =>
            ldW true 2 t10 w12 fun t58 =>
            callF Tryz.prog 11 [t58] w12 fun t59 w14 =>
            J13 [t59] w14)
          fun s13 _ w15 =>
          pickW t56 (s13.getD 0 undef) (.bool false) fun t60 =>
          K t60 w15))))
theorem W3_eq (v0 v1 v2 : Value) (w : World) (K : Value → World → Prop) : funW Tryz.prog Tryz.f3 plan3 [v0, v1, v2] w K = W3 v0 v1 v2 w K := by kernel_rfl
theorem W3_chk : chkFun Tryz.prog Tryz.f3 plan3 3 = true := by kernel_rfl
theorem W3_ok {v0 v1 v2 : Value} {w : World} {K : Value → World → Prop} (h : W3 v0 v1 v2 w K) : callF Tryz.prog 3 [v0, v1, v2] w K :=
  tie Tryz.prog 3 Tryz.f3 plan3 [v0, v1, v2] w K 3 (W3 v0 v1 v2 w K) rfl mixed Tryz.func3 W3_chk (W3_eq v0 v1 v2 w K) Tryz.call3 h
def plan6 : Plan := { js := [(7004, ⟨[25], [], 24⟩), (7009, ⟨[21], [], 19⟩)], ds := [] }
def W6 (w : World) (K : Value → World → Prop) : Prop :=
  putW [(.int .i64 0), (.slice none 0 0)] [] fun c1 =>
  callF Tryz.prog 8 [(.agg c1.toArray)] w fun t7 w2 =>
  extW 0 t7 fun t8 =>
  extW 1 t7 fun t9 =>
  bslW 5 2 [(.int .u8 0), (.int .u8 0)] [(0, 1, (.int .u8 123)), (1, 1, (.int .u8 125))] w2 fun t11 w3 =>
  semE Tryz.prog (convert 27 27 t11) w3 fun t12 w4 =>
  callF Tryz.prog 9 [t12] w4 fun t13 w5 =>
  extW 0 t13 fun t14 =>
  extW 1 t13 fun t15 =>
  allocW 24 [(.int .i64 0), (.slice none 0 0)] w5 fun t3 w6 =>
  stW 2 t3 t14 w6 fun w7 =>
  binW .eql t9 (.int .i64 0) fun t17 =>
  GdW (isB t17 true) [undef] w7 (fun J8 =>
    semQ Tryz.prog (convert 27 9 t8) w7 fun t20 =>
    binW .eql t20 (.string (ofL [123, 34, 114, 101, 99, 111, 114, 100, 115, 34, 58, 91, 93, 44, 34, 115, 101, 114, 105, 97, 108, 34, 58, 48, 125])) fun t21 =>
    J8 [t21] w7)
  fun s8 _ w9 =>
  pickW t17 (s8.getD 0 undef) (.bool false) fun t22 =>
  GdW (isB t22 true) [undef] w9 (fun J10 =>
    binW .eql t15 (.int .i64 150) fun t25 =>
    J10 [t25] w9)
  fun s10 _ w11 =>
  pickW t22 (s10.getD 0 undef) (.bool false) fun t26 =>
  K t26 w11
theorem W6_eq (w : World) (K : Value → World → Prop) : funW Tryz.prog Tryz.f6 plan6 [] w K = W6 w K := by kernel_rfl
theorem W6_chk : chkFun Tryz.prog Tryz.f6 plan6 0 = true := by kernel_rfl
theorem W6_ok {w : World} {K : Value → World → Prop} (h : W6 w K) : callF Tryz.prog 6 [] w K :=
  tie Tryz.prog 6 Tryz.f6 plan6 [] w K 0 (W6 w K) rfl mixed Tryz.func6 W6_chk (W6_eq w K) Tryz.call6 h
def plan7 : Plan := { js := [], ds := [] }
def W7 (v0 : Value) (w : World) (K : Value → World → Prop) : Prop :=
  boxW 24 v0 w fun t1 w1 =>
  fldW 1 t1 fun t3 =>
  ldW false 1 t3 w1 fun t4 =>
  lenlW t4 fun t5 =>
  binW .leq t5 (.int .i64 200) fun t6 =>
  K t6 w1
theorem W7_eq (v0 : Value) (w : World) (K : Value → World → Prop) : funW Tryz.prog Tryz.f7 plan7 [v0] w K = W7 v0 w K := by kernel_rfl
theorem W7_chk : chkFun Tryz.prog Tryz.f7 plan7 1 = true := by kernel_rfl
theorem W7_ok {v0 : Value} {w : World} {K : Value → World → Prop} (h : W7 v0 w K) : callF Tryz.prog 7 [v0] w K :=
  tie Tryz.prog 7 Tryz.f7 plan7 [v0] w K 1 (W7 v0 w K) rfl mixed Tryz.func7 W7_chk (W7_eq v0 w K) Tryz.call7 h
def plan8 : Plan := { js := [(48, ⟨[10, 11], [], 0⟩), (23, ⟨[], [6, 7, 9], 20⟩), (33, ⟨[27], [9], 27⟩), (16, ⟨[19], [6, 7, 9], 19⟩)], ds := [(49, ⟨[1, 2, 3, 8, 9, 10, 11, 12], [[], [], [], [2], [2, 3], [1, 2, 3, 4], [0, 1, 2, 3, 4, 5], [0, 1, 2, 3, 4, 5, 6], [0, 1, 2, 3, 4, 5, 6, 7], [0, 1, 2, 3, 4, 5, 6, 7, 8], [0, 1, 2, 3, 4, 5, 6, 7, 8], [0, 1, 2, 3, 4, 5, 6, 7, 8, 9], [0, 1, 2, 3, 4, 5, 6, 7, 8, 9, 10, 11]]⟩), (46, ⟨[0, 1, 3, 4, 6, 7, 8, 9, 10, 12, 13, 19], [[], [0], [], [], [3], [3, 4], [], [6], [], [], [9], [3, 4, 5, 9, 10], [], [12], [3, 4, 5, 9, 10, 11, 12, 13], [3, 4, 5, 6, 7, 8, 9, 10, 11, 12, 13, 14], [2, 3, 4, 5, 6, 7, 8, 9, 10, 11, 12, 13, 14, 15], [2, 3, 4, 5, 6, 7, 8, 9, 10, 11, 12, 13, 14, 15, 16], [0, 1, 2, 3, 4, 5, 6, 7, 8, 9, 10, 11, 12, 13, 14, 15, 16, 17], [0, 1, 2, 3, 4, 5, 6, 7, 8, 9, 10, 11, 12, 13, 14, 15, 16, 17, 18], [0, 1, 2, 3, 4, 5, 6, 7, 8, 9, 10, 11, 12, 13, 14, 15, 16, 17, 18, 19]]⟩), (44, ⟨[0, 1, 2, 6], [[], [0], [], [2], [2, 3], [0, 1, 2, 3, 4], [0, 1, 2, 3, 4, 5], [0, 1, 2, 3, 4, 5, 6]]⟩)] }
def W8 (v0 : Value) (w : World) (K : Value → World → Prop) : Prop :=
  boxW 24 v0 w fun t1 w1 =>
  ldW true 2 t1 w1 fun t12 =>
  callF Tryz.prog 22 [t12] w1 fun t13 w2 =>
  unW .not t13 fun t14 =>
  condW t14 (
    K (.tuple #[(.slice none 0 0), (.int .i64 150)]) w2) (
    putW [(.int .i64 0), (.bool false), (.string (ofL [])), (.slice none 0 0), (.slice none 0 0)] [(0, 1, (.int .i64 5))] fun c3 =>
    allocW 40 [(.int .i64 0), (.bool false), (.string (ofL [])), (.slice none 0 0), (.slice none 0 0)] w2 fun t4 w4 =>
    stW 5 t4 (.agg c3.toArray) w4 fun w5 =>
    fldW 1 t1 fun t16 =>
    ldW false 1 t16 w5 fun t17 =>
    lenlW t17 fun t18 =>
    LoopW [(.int .i64 0)] w5 fun s6 _ w7 L6 =>
      binW .lss (s6.getD 0 undef) t18 fun t20 =>
      condW t20 (
        JoinW (fun J8 =>
          ixaW none 9 t17 (s6.getD 0 undef) fun t21 =>
          ldW true 9 t21 w7 fun t22 =>
          allocW 42 [(.string (ofL [])), (.string (ofL [])), (.string (ofL [])), (.int .i64 0), (.bool false), (.string (ofL [])), (.slice none 0 0), (.slice none 0 0), (.slice none 0 0)] w7 fun t6 w9 =>
          stW 9 t6 t22 w9 fun w10 =>
          putW [(.int .i64 0), (.bool false), (.string (ofL [])), (.slice none 0 0), (.slice none 0 0)] [(0, 1, (.int .i64 5))] fun c11 =>
          allocW 40 [(.int .i64 0), (.bool false), (.string (ofL [])), (.slice none 0 0), (.slice none 0 0)] w10 fun t7 w12 =>
          stW 5 t7 (.agg c11.toArray) w12 fun w13 =>
          fldW 8 t6 fun t24 =>
          ldW false 1 t24 w13 fun t25 =>
          lenlW t25 fun t26 =>
          LoopW [(.int .i64 0)] w13 fun s14 _ w15 L14 =>
            binW .lss (s14.getD 0 undef) t26 fun t28 =>
            condW t28 (
              ixaW none 1 t25 (s14.getD 0 undef) fun t29 =>
              ldW false 1 t29 w15 fun t30 =>
              fldW 3 t7 fun t31 =>
              ldW false 1 t31 w15.drew fun t32 =>
              callF Tryz.prog 23 [t30] w15.drew fun t34 w16 =>
              (ldW false 1 t31 w16 fun x => x = t32) ∧
              bslW 40 1 [(.int .i64 0), (.bool false), (.string (ofL [])), (.slice none 0 0), (.slice none 0 0)] [(0, 5, t34)] w16 fun t35 w17 =>
              (ldW false 1 t31 w17 fun x => x = t32) ∧
              semE Tryz.prog (Builtin.append_ #[37, 37] 37 #[t32, t35]) w17 fun t36 w18 =>
              fldW 3 t7 fun t37 =>
              stW 1 t37 t36 w18 fun w19 =>
              binW .add (s14.getD 0 undef) (.int .i64 1) fun t38 =>
              L14 [t38] w19) (
              fldW 3 t4 fun t39 =>
              ldW false 1 t39 w15.drew fun t40 =>
              fldW 0 t6 fun t42 =>
              ldW false 1 t42 w15.drew fun t43 =>
              fldW 3 t6 fun t45 =>
              ldW true 5 t45 w15.drew fun t46 =>
              ldW true 5 t7 w15.drew fun t47 =>
              fldW 2 t6 fun t48 =>
              ldW false 1 t48 w15.drew fun t49 =>
              fldW 1 t6 fun t51 =>
              ldW false 1 t51 w15.drew fun t52 =>
              (
               bslW 9 5 [(.string (ofL [])), (.string (ofL [])), (.string (ofL [])), (.string (ofL [])), (.string (ofL []))] [(0, 1, (.string (ofL [97, 100, 100, 114]))), (1, 1, (.string (ofL [97, 116, 116, 114, 115]))), (2, 1, (.string (ofL [100, 101, 112, 115]))), (3, 1, (.string (ofL [105, 100]))), (4, 1, (.string (ofL [116, 121, 112, 101])))] w15.drew fun t41 w20 =>
               (ldW false 1 t51 w20 fun x => x = t52) ∧
               (ldW false 1 t48 w20 fun x => x = t49) ∧
               (ldW true 5 t7 w20 fun x => x = t47) ∧
               (ldW true 5 t45 w20 fun x => x = t46) ∧
               (ldW false 1 t42 w20 fun x => x = t43) ∧
               (ldW false 1 t39 w20 fun x => x = t40) ∧
               callF Tryz.prog 23 [t43] w20 fun t44 w21 =>
               (ldW false 1 t51 w21 fun x => x = t52) ∧
               (ldW false 1 t48 w21 fun x => x = t49) ∧
               (ldW true 5 t7 w21 fun x => x = t47) ∧
               (ldW true 5 t45 w21 fun x => x = t46) ∧
               (ldW false 1 t39 w21 fun x => x = t40) ∧
               callF Tryz.prog 23 [t49] w21 fun t50 w22 =>
               (ldW false 1 t51 w22 fun x => x = t52) ∧
               (ldW true 5 t7 w22 fun x => x = t47) ∧
               (ldW true 5 t45 w22 fun x => x = t46) ∧
               (ldW false 1 t39 w22 fun x => x = t40) ∧
               callF Tryz.prog 23 [t52] w22 fun t53 w23 =>
               (ldW true 5 t7 w23 fun x => x = t47) ∧
               (ldW true 5 t45 w23 fun x => x = t46) ∧
               (ldW false 1 t39 w23 fun x => x = t40) ∧
               bslW 40 5 [(.int .i64 0), (.bool false), (.string (ofL [])), (.slice none 0 0), (.slice none 0 0), (.int .i64 0), (.bool false), (.string (ofL [])), (.slice none 0 0), (.slice none 0 0), (.int .i64 0), (.bool false), (.string (ofL [])), (.slice none 0 0), (.slice none 0 0), (.int .i64 0), (.bool false), (.string (ofL [])), (.slice none 0 0), (.slice none 0 0), (.int .i64 0), (.bool false), (.string (ofL [])), (.slice none 0 0), (.slice none 0 0)] [(0, 5, t44), (5, 5, t46), (10, 5, t47), (15, 5, t50), (20, 5, t53)] w23 fun t54 w24 =>
               (ldW false 1 t39 w24 fun x => x = t40) ∧
               callF Tryz.prog 24 [t41, t54] w24 fun t55 w25 =>
               (ldW false 1 t39 w25 fun x => x = t40) ∧
               bslW 40 1 [(.int .i64 0), (.bool false), (.string (ofL [])), (.slice none 0 0), (.slice none 0 0)] [(0, 5, t55)] w25 fun t56 w26 =>
               (ldW false 1 t39 w26 fun x => x = t40) ∧
               semE Tryz.prog (Builtin.append_ #[37, 37] 37 #[t40, t56]) w26 fun t57 w27 =>
               fldW 3 t4 fun t58 =>
               stW 1 t58 t57 w27 fun w28 =>
              J8 [] w28) ∧
              (
               callF Tryz.prog 23 [t43] w15.drew fun t44 w29 =>
               (ldW false 1 t51 w29 fun x => x = t52) ∧
               (ldW false 1 t48 w29 fun x => x = t49) ∧
               (ldW true 5 t7 w29 fun x => x = t47) ∧
               (ldW true 5 t45 w29 fun x => x = t46) ∧
               (ldW false 1 t39 w29 fun x => x = t40) ∧
               (
                bslW 9 5 [(.string (ofL [])), (.string (ofL [])), (.string (ofL [])), (.string (ofL [])), (.string (ofL []))] [(0, 1, (.string (ofL [97, 100, 100, 114]))), (1, 1, (.string (ofL [97, 116, 116, 114, 115]))), (2, 1, (.string (ofL [100, 101, 112, 115]))), (3, 1, (.string (ofL [105, 100]))), (4, 1, (.string (ofL [116, 121, 112, 101])))] w29 fun t41 w30 =>
                (ldW false 1 t51 w30 fun x => x = t52) ∧
                (ldW false 1 t48 w30 fun x => x = t49) ∧
                (ldW true 5 t7 w30 fun x => x = t47) ∧
                (ldW true 5 t45 w30 fun x => x = t46) ∧
                (ldW false 1 t39 w30 fun x => x = t40) ∧
                callF Tryz.prog 23 [t49] w30 fun t50 w31 =>
                (ldW false 1 t51 w31 fun x => x = t52) ∧
                (ldW true 5 t7 w31 fun x => x = t47) ∧
                (ldW true 5 t45 w31 fun x => x = t46) ∧
                (ldW false 1 t39 w31 fun x => x = t40) ∧
                callF Tryz.prog 23 [t52] w31 fun t53 w32 =>
                (ldW true 5 t7 w32 fun x => x = t47) ∧
                (ldW true 5 t45 w32 fun x => x = t46) ∧
                (ldW false 1 t39 w32 fun x => x = t40) ∧
                bslW 40 5 [(.int .i64 0), (.bool false), (.string (ofL [])), (.slice none 0 0), (.slice none 0 0), (.int .i64 0), (.bool false), (.string (ofL [])), (.slice none 0 0), (.slice none 0 0), (.int .i64 0), (.bool false), (.string (ofL [])), (.slice none 0 0), (.slice none 0 0), (.int .i64 0), (.bool false), (.string (ofL [])), (.slice none 0 0), (.slice none 0 0), (.int .i64 0), (.bool false), (.string (ofL [])), (.slice none 0 0), (.slice none 0 0)] [(0, 5, t44), (5, 5, t46), (10, 5, t47), (15, 5, t50), (20, 5, t53)] w32 fun t54 w33 =>
                (ldW false 1 t39 w33 fun x => x = t40) ∧
                callF Tryz.prog 24 [t41, t54] w33 fun t55 w34 =>
                (ldW false 1 t39 w34 fun x => x = t40) ∧
                bslW 40 1 [(.int .i64 0), (.bool false), (.string (ofL [])), (.slice none 0 0), (.slice none 0 0)] [(0, 5, t55)] w34 fun t56 w35 =>
                (ldW false 1 t39 w35 fun x => x = t40) ∧
                semE Tryz.prog (Builtin.append_ #[37, 37] 37 #[t40, t56]) w35 fun t57 w36 =>
                fldW 3 t4 fun t58 =>
                stW 1 t58 t57 w36 fun w37 =>
              J8 [] w37) ∧
               (
                callF Tryz.prog 23 [t49] w29 fun t50 w38 =>
                (ldW false 1 t51 w38 fun x => x = t52) ∧
                (ldW true 5 t7 w38 fun x => x = t47) ∧
                (ldW true 5 t45 w38 fun x => x = t46) ∧
                (ldW false 1 t39 w38 fun x => x = t40) ∧
                (
                 bslW 9 5 [(.string (ofL [])), (.string (ofL [])), (.string (ofL [])), (.string (ofL [])), (.string (ofL []))] [(0, 1, (.string (ofL [97, 100, 100, 114]))), (1, 1, (.string (ofL [97, 116, 116, 114, 115]))), (2, 1, (.string (ofL [100, 101, 112, 115]))), (3, 1, (.string (ofL [105, 100]))), (4, 1, (.string (ofL [116, 121, 112, 101])))] w38 fun t41 w39 =>
                 (ldW false 1 t51 w39 fun x => x = t52) ∧
                 (ldW true 5 t7 w39 fun x => x = t47) ∧
                 (ldW true 5 t45 w39 fun x => x = t46) ∧
                 (ldW false 1 t39 w39 fun x => x = t40) ∧
                 callF Tryz.prog 23 [t52] w39 fun t53 w40 =>
                 (ldW true 5 t7 w40 fun x => x = t47) ∧
                 (ldW true 5 t45 w40 fun x => x = t46) ∧
                 (ldW false 1 t39 w40 fun x => x = t40) ∧
                 bslW 40 5 [(.int .i64 0), (.bool false), (.string (ofL [])), (.slice none 0 0), (.slice none 0 0), (.int .i64 0), (.bool false), (.string (ofL [])), (.slice none 0 0), (.slice none 0 0), (.int .i64 0), (.bool false), (.string (ofL [])), (.slice none 0 0), (.slice none 0 0), (.int .i64 0), (.bool false), (.string (ofL [])), (.slice none 0 0), (.slice none 0 0), (.int .i64 0), (.bool false), (.string (ofL [])), (.slice none 0 0), (.slice none 0 0)] [(0, 5, t44), (5, 5, t46), (10, 5, t47), (15, 5, t50), (20, 5, t53)] w40 fun t54 w41 =>
                 (ldW false 1 t39 w41 fun x => x = t40) ∧
                 callF Tryz.prog 24 [t41, t54] w41 fun t55 w42 =>
                 (ldW false 1 t39 w42 fun x => x = t40) ∧
                 bslW 40 1 [(.int .i64 0), (.bool false), (.string (ofL [])), (.slice none 0 0), (.slice none 0 0)] [(0, 5, t55)] w42 fun t56 w43 =>
                 (ldW false 1 t39 w43 fun x => x = t40) ∧
                 semE Tryz.prog (Builtin.append_ #[37, 37] 37 #[t40, t56]) w43 fun t57 w44 =>
                 fldW 3 t4 fun t58 =>
                 stW 1 t58 t57 w44 fun w45 =>
              J8 [] w45) ∧
                (
                 callF Tryz.prog 23 [t52] w38 fun t53 w46 =>
                 (ldW true 5 t7 w46 fun x => x = t47) ∧
                 (ldW true 5 t45 w46 fun x => x = t46) ∧
                 (ldW false 1 t39 w46 fun x => x = t40) ∧
                 (
                  bslW 9 5 [(.string (ofL [])), (.string (ofL [])), (.string (ofL [])), (.string (ofL [])), (.string (ofL []))] [(0, 1, (.string (ofL [97, 100, 100, 114]))), (1, 1, (.string (ofL [97, 116, 116, 114, 115]))), (2, 1, (.string (ofL [100, 101, 112, 115]))), (3, 1, (.string (ofL [105, 100]))), (4, 1, (.string (ofL [116, 121, 112, 101])))] w46 fun t41 w47 =>
                  (ldW true 5 t7 w47 fun x => x = t47) ∧
                  (ldW true 5 t45 w47 fun x => x = t46) ∧
                  (ldW false 1 t39 w47 fun x => x = t40) ∧
                  bslW 40 5 [(.int .i64 0), (.bool false), (.string (ofL [])), (.slice none 0 0), (.slice none 0 0), (.int .i64 0), (.bool false), (.string (ofL [])), (.slice none 0 0), (.slice none 0 0), (.int .i64 0), (.bool false), (.string (ofL [])), (.slice none 0 0), (.slice none 0 0), (.int .i64 0), (.bool false), (.string (ofL [])), (.slice none 0 0), (.slice none 0 0), (.int .i64 0), (.bool false), (.string (ofL [])), (.slice none 0 0), (.slice none 0 0)] [(0, 5, t44), (5, 5, t46), (10, 5, t47), (15, 5, t50), (20, 5, t53)] w47 fun t54 w48 =>
                  (ldW false 1 t39 w48 fun x => x = t40) ∧
                  callF Tryz.prog 24 [t41, t54] w48 fun t55 w49 =>
                  (ldW false 1 t39 w49 fun x => x = t40) ∧
                  bslW 40 1 [(.int .i64 0), (.bool false), (.string (ofL [])), (.slice none 0 0), (.slice none 0 0)] [(0, 5, t55)] w49 fun t56 w50 =>
                  (ldW false 1 t39 w50 fun x => x = t40) ∧
                  semE Tryz.prog (Builtin.append_ #[37, 37] 37 #[t40, t56]) w50 fun t57 w51 =>
                  fldW 3 t4 fun t58 =>
                  stW 1 t58 t57 w51 fun w52 =>
              J8 [] w52) ∧
                 (
                  bslW 40 5 [(.int .i64 0), (.bool false), (.string (ofL [])), (.slice none 0 0), (.slice none 0 0), (.int .i64 0), (.bool false), (.string (ofL [])), (.slice none 0 0), (.slice none 0 0), (.int .i64 0), (.bool false), (.string (ofL [])), (.slice none 0 0), (.slice none 0 0), (.int .i64 0), (.bool false), (.string (ofL [])), (.slice none 0 0), (.slice none 0 0), (.int .i64 0), (.bool false), (.string (ofL [])), (.slice none 0 0), (.slice none 0 0)] [(0, 5, t44), (5, 5, t46), (10, 5, t47), (15, 5, t50), (20, 5, t53)] w46 fun t54 w53 =>
                  (ldW false 1 t39 w53 fun x => x = t40) ∧
                  bslW 9 5 [(.string (ofL [])), (.string (ofL [])), (.string (ofL [])), (.string (ofL [])), (.string (ofL []))] [(0, 1, (.string (ofL [97, 100, 100, 114]))), (1, 1, (.string (ofL [97, 116, 116, 114, 115]))), (2, 1, (.string (ofL [100, 101, 112, 115]))), (3, 1, (.string (ofL [105, 100]))), (4, 1, (.string (ofL [116, 121, 112, 101])))] w53 fun t41 w54 =>
                  (ldW false 1 t39 w54 fun x => x = t40) ∧
                  callF Tryz.prog 24 [t41, t54] w54 fun t55 w55 =>
                  (ldW false 1 t39 w55 fun x => x = t40) ∧
                  bslW 40 1 [(.int .i64 0), (.bool false), (.string (ofL [])), (.slice none 0 0), (.slice none 0 0)] [(0, 5, t55)] w55 fun t56 w56 =>
                  (ldW false 1 t39 w56 fun x => x = t40) ∧
                  semE Tryz.prog (Builtin.append_ #[37, 37] 37 #[t40, t56]) w56 fun t57 w57 =>
                  fldW 3 t4 fun t58 =>
                  stW 1 t58 t57 w57 fun w58 =>
              J8 [] w58))))))
        fun s8 _ w59 =>
        binW .add (s6.getD 0 undef) (.int .i64 1) fun t59 =>
        L6 [t59] w59) (
        JoinW (fun J60 =>
          ldW true 5 t4 w7.drew fun t62 =>
          fldW 0 t1 fun t63 =>
          ldW false 1 t63 w7.drew fun t64 =>
          (
           bslW 9 2 [(.string (ofL [])), (.string (ofL []))] [(0, 1, (.string (ofL [114, 101, 99, 111, 114, 100, 115]))), (1, 1, (.string (ofL [115, 101, 114, 105, 97, 108])))] w7.drew fun t61 w61 =>
           (ldW false 1 t63 w61 fun x => x = t64) ∧
           (ldW true 5 t4 w61 fun x => x = t62) ∧
           callF Tryz.prog 26 [t64] w61 fun t65 w62 =>
           (ldW true 5 t4 w62 fun x => x = t62) ∧
           bslW 40 2 [(.int .i64 0), (.bool false), (.string (ofL [])), (.slice none 0 0), (.slice none 0 0), (.int .i64 0), (.bool false), (.string (ofL [])), (.slice none 0 0), (.slice none 0 0)] [(0, 5, t62), (5, 5, t65)] w62 fun t66 w63 =>
           callF Tryz.prog 24 [t61, t66] w63 fun t67 w64 =>
           callF Tryz.prog 25 [t67] w64 fun t68 w65 =>
           extW 0 t68 fun t69 =>
           extW 1 t68 fun t70 =>
          J60 [t69, t70] w65) ∧
          (
           callF Tryz.prog 26 [t64] w7.drew fun t65 w66 =>
           (ldW true 5 t4 w66 fun x => x = t62) ∧
           (
            bslW 9 2 [(.string (ofL [])), (.string (ofL []))] [(0, 1, (.string (ofL [114, 101, 99, 111, 114, 100, 115]))), (1, 1, (.string (ofL [115, 101, 114, 105, 97, 108])))] w66 fun t61 w67 =>
            (ldW true 5 t4 w67 fun x => x = t62) ∧
            bslW 40 2 [(.int .i64 0), (.bool false), (.string (ofL [])), (.slice none 0 0), (.slice none 0 0), (.int .i64 0), (.bool false), (.string (ofL [])), (.slice none 0 0), (.slice none 0 0)] [(0, 5, t62), (5, 5, t65)] w67 fun t66 w68 =>
            callF Tryz.prog 24 [t61, t66] w68 fun t67 w69 =>
            callF Tryz.prog 25 [t67] w69 fun t68 w70 =>
            extW 0 t68 fun t69 =>
            extW 1 t68 fun t70 =>
          J60 [t69, t70] w70) ∧
           (
            bslW 40 2 [(.int .i64 0), (.bool false), (.string (ofL [])), (.slice none 0 0), (.slice none 0 0), (.int .i64 0), (.bool false), (.string (ofL [])), (.slice none 0 0), (.slice none 0 0)] [(0, 5, t62), (5, 5, t65)] w66 fun t66 w71 =>
            bslW 9 2 [(.string (ofL [])), (.string (ofL []))] [(0, 1, (.string (ofL [114, 101, 99, 111, 114, 100, 115]))), (1, 1, (.string (ofL [115, 101, 114, 105, 97, 108])))] w71 fun t61 w72 =>
            callF Tryz.prog 24 [t61, t66] w72 fun t67 w73 =>
            callF Tryz.prog 25 [t67] w73 fun t68 w74 =>
            extW 0 t68 fun t69 =>
            extW 1 t68 fun t70 =>
          J60 [t69, t70] w74)))
        fun s60 _ w75 =>
        binW .neq (s60.getD 1 undef) (.int .i64 0) fun t72 =>
        condW t72 (
          K (.tuple #[(.slice none 0 0), (.int .i64 3)]) w75) (
          semE Tryz.prog (convert 9 27 (s60.getD 0 undef)) w75 fun t74 w76 =>
          K (.tuple #[t74, (.int .i64 0)]) w76)))
theorem W8_eq (v0 : Value) (w : World) (K : Value → World → Prop) : funW Tryz.prog Tryz.f8 plan8 [v0] w K = W8 v0 w K := by kernel_rfl
theorem W8_chk : chkFun Tryz.prog Tryz.f8 plan8 1 = true := by kernel_rfl
theorem W8_ok {v0 : Value} {w : World} {K : Value → World → Prop} (h : W8 v0 w K) : callF Tryz.prog 8 [v0] w K :=
  tie Tryz.prog 8 Tryz.f8 plan8 [v0] w K 1 (W8 v0 w K) rfl mixed Tryz.func8 W8_chk (W8_eq v0 w K) Tryz.call8 h
def plan9 : Plan := { js := [(41004, ⟨[87], [], 85⟩), (36003, ⟨[73], [], 73⟩), (22, ⟨[7, 62], [7, 11, 12, 13], 62⟩), (8006, ⟨[44], [], 40⟩), (8013, ⟨[37], [], 33⟩), (8017, ⟨[30], [], 29⟩)], ds := [] }
def W9 (v0 : Value) (w : World) (K : Value → World → Prop) : Prop :=
  allocW 24 [(.int .i64 0), (.slice none 0 0)] w fun t2 w1 =>
  semQ Tryz.prog (convert 27 9 v0) w1 fun t16 =>
  callF Tryz.prog 27 [t16] w1 fun t17 w2 =>
  extW 0 t17 fun t18 =>
  extW 1 t17 fun t19 =>
  allocW 40 [(.int .i64 0), (.bool false), (.string (ofL [])), (.slice none 0 0), (.slice none 0 0)] w2 fun t4 w3 =>
  stW 5 t4 t18 w3 fun w4 =>
  ldW true 5 t4 w4 fun t21 =>
  bslW 9 2 [(.string (ofL [])), (.string (ofL []))] [(0, 1, (.string (ofL [114, 101, 99, 111, 114, 100, 115]))), (1, 1, (.string (ofL [115, 101, 114, 105, 97, 108])))] w4 fun t22 w5 =>
  callF Tryz.prog 28 [t21, t22] w5 fun t23 w6 =>
  extW 0 t23 fun t24 =>
  extW 1 t23 fun t25 =>
  eqW .ptr true t19 (.pointer none) fun t27 =>
  GdW (isB t27 false) [undef] w6 (fun J7 =>
    unW .not t25 fun t30 =>
    J7 [t30] w6)
  fun s7 _ w8 =>
  pickW t27 (.bool true) (s7.getD 0 undef) fun t31 =>
  GdW (isB t31 false) [undef] w8 (fun J9 =>
    ixaW none 5 t24 (.int .i64 0) fun t34 =>
    fldW 0 t34 fun t35 =>
    ldW false 1 t35 w8 fun t36 =>
    binW .neq t36 (.int .i64 5) fun t37 =>
    J9 [t37] w8)
  fun s9 _ w10 =>
  pickW t31 (.bool true) (s9.getD 0 undef) fun t38 =>
  GdW (isB t38 false) [undef] w10 (fun J11 =>
    ixaW none 5 t24 (.int .i64 1) fun t41 =>
    fldW 0 t41 fun t42 =>
    ldW false 1 t42 w10 fun t43 =>
    binW .neq t43 (.int .i64 3) fun t44 =>
    J11 [t44] w10)
  fun s11 _ w12 =>
  pickW t38 (.bool true) (s11.getD 0 undef) fun t45 =>
  condW t45 (
    putW [(.int .i64 0), (.slice none 0 0)] [] fun c13 =>
    stW 2 t2 (.agg c13.toArray) w12 fun w14 =>
    ldW true 2 t2 w14 fun r15 =>
    K (.tuple #[r15, (.int .i64 150)]) w14) (
    ixaW none 5 t24 (.int .i64 1) fun t49 =>
    fldW 2 t49 fun t50 =>
    ldW false 1 t50 w12 fun t51 =>
    callF Tryz.prog 29 [t51] w12 fun t52 w16 =>
    extW 0 t52 fun t53 =>
    extW 1 t52 fun t54 =>
    putW [(.int .i64 0), (.slice none 0 0)] [(0, 1, t53)] fun c17 =>
    allocW 24 [(.int .i64 0), (.slice none 0 0)] w16 fun t9 w18 =>
    stW 2 t9 (.agg c17.toArray) w18 fun w19 =>
    ixaW none 5 t24 (.int .i64 0) fun t58 =>
    fldW 3 t58 fun t59 =>
    ldW false 1 t59 w19 fun t60 =>
    lenlW t60 fun t61 =>
    LoopW [t54, (.int .i64 0)] w19 fun s20 _ w21 L20 =>
      binW .lss (s20.getD 1 undef) t61 fun t63 =>
      condW t63 (
        ixaW none 5 t60 (s20.getD 1 undef) fun t64 =>
        ldW true 5 t64 w21 fun t65 =>
        allocW 40 [(.int .i64 0), (.bool false), (.string (ofL [])), (.slice none 0 0), (.slice none 0 0)] w21 fun t11 w22 =>
        stW 5 t11 t65 w22 fun w23 =>
        ldW true 5 t11 w23 fun t67 =>
        callF Tryz.prog 30 [t67] w23 fun t68 w24 =>
        extW 0 t68 fun t69 =>
        extW 1 t68 fun t70 =>
        allocW 42 [(.string (ofL [])), (.string (ofL [])), (.string (ofL [])), (.int .i64 0), (.bool false), (.string (ofL [])), (.slice none 0 0), (.slice none 0 0), (.slice none 0 0)] w24 fun t12 w25 =>
        stW 9 t12 t69 w25 fun w26 =>
        GdW (isB (s20.getD 0 undef) true) [undef] w26 (fun J27 =>
          J27 [t70] w26)
        fun s27 _ w28 =>
        pickW (s20.getD 0 undef) (s27.getD 0 undef) (.bool false) fun t74 =>
        fldW 1 t9 fun t75 =>
        ldW false 1 t75 w28 fun t76 =>
        ldW true 9 t12 w28 fun t77 =>
        bslW 42 1 [(.string (ofL [])), (.string (ofL [])), (.string (ofL [])), (.int .i64 0), (.bool false), (.string (ofL [])), (.slice none 0 0), (.slice none 0 0), (.slice none 0 0)] [(0, 9, t77)] w28 fun t78 w29 =>
        semE Tryz.prog (Builtin.append_ #[22, 22] 22 #[t76, t78]) w29 fun t79 w30 =>
        fldW 1 t9 fun t80 =>
        stW 1 t80 t79 w30 fun w31 =>
        binW .add (s20.getD 1 undef) (.int .i64 1) fun t81 =>
        L20 [t74, t81] w31) (
        unW .not (s20.getD 0 undef) fun t83 =>
        GdW (isB t83 false) [undef] w21 (fun J32 =>
          ldW true 2 t9 w21 fun t85 =>
          callF Tryz.prog 22 [t85] w21 fun t86 w33 =>
          unW .not t86 fun t87 =>
          J32 [t87] w33)
        fun s32 _ w34 =>
        pickW t83 (.bool true) (s32.getD 0 undef) fun t88 =>
        condW t88 (
          putW [(.int .i64 0), (.slice none 0 0)] [] fun c35 =>
          stW 2 t2 (.agg c35.toArray) w34 fun w36 =>
          ldW true 2 t2 w36 fun r37 =>
          K (.tuple #[r37, (.int .i64 150)]) w36) (
          ldW true 2 t9 w34 fun t90 =>
          stW 2 t2 t90 w34 fun w38 =>
          ldW true 2 t2 w38 fun r39 =>
          K (.tuple #[r39, (.int .i64 0)]) w38)))
theorem W9_eq (v0 : Value) (w : World) (K : Value → World → Prop) : funW Tryz.prog Tryz.f9 plan9 [v0] w K = W9 v0 w K := by kernel_rfl
theorem W9_chk : chkFun Tryz.prog Tryz.f9 plan9 1 = true := by kernel_rfl
theorem W9_ok {v0 : Value} {w : World} {K : Value → World → Prop} (h : W9 v0 w K) : callF Tryz.prog 9 [v0] w K :=
  tie Tryz.prog 9 Tryz.f9 plan9 [v0] w K 1 (W9 v0 w K) rfl mixed Tryz.func9 W9_chk (W9_eq v0 w K) Tryz.call9 h
def plan10 : Plan := { js := [(14, ⟨[23], [4, 5], 23⟩), (4008, ⟨[18], [], 12⟩)], ds := [(26, ⟨[0, 1, 2, 3, 4, 5, 6, 7, 8, 9, 11], [[], [0], [], [0, 1, 2], [0, 1, 2, 3], [], [5], [], [5, 6, 7], [5, 6, 7, 8], [0, 1, 2, 3, 4, 5, 6, 7, 8, 9], [0, 1, 2, 3, 4, 5, 6, 7, 8, 9, 10]]⟩)] }
def W10 (v0 v1 : Value) (w : World) (K : Value → World → Prop) : Prop :=
  boxW 24 v0 w fun t2 w1 =>
  boxW 24 v1 w1 fun t3 w2 =>
  fldW 0 t2 fun t6 =>
  ldW false 1 t6 w2 fun t7 =>
  fldW 0 t3 fun t8 =>
  ldW false 1 t8 w2 fun t9 =>
  binW .neq t7 t9 fun t10 =>
  GdW (isB t10 false) [undef] w2 (fun J3 =>
    fldW 1 t2 fun t12 =>
    ldW false 1 t12 w2 fun t13 =>
    lenlW t13 fun t14 =>
    fldW 1 t3 fun t15 =>
    ldW false 1 t15 w2 fun t16 =>
    lenlW t16 fun t17 =>
    binW .neq t14 t17 fun t18 =>
    J3 [t18] w2)
  fun s3 _ w4 =>
  pickW t10 (.bool true) (s3.getD 0 undef) fun t19 =>
  condW t19 (
    K (.bool false) w4) (
    fldW 1 t2 fun t20 =>
    ldW false 1 t20 w4 fun t21 =>
    lenlW t21 fun t22 =>
    LoopW [(.int .i64 0)] w4 fun s5 _ w6 L5 =>
      binW .lss (s5.getD 0 undef) t22 fun t24 =>
      condW t24 (
        fldW 1 t2 fun t26 =>
        ldW false 1 t26 w6.drew fun t27 =>
        ixaW none 9 t27 (s5.getD 0 undef) fun t29 =>
        ldW true 9 t29 w6.drew fun t30 =>
        fldW 1 t3 fun t31 =>
        ldW false 1 t31 w6.drew fun t32 =>
        ixaW none 9 t32 (s5.getD 0 undef) fun t34 =>
        ldW true 9 t34 w6.drew fun t35 =>
        callF Tryz.prog 31 [t30, t35] w6.drew fun t36 w7 =>
        unW .not t36 fun t37 =>
        condW t37 (
          K (.bool false) w7) (
          binW .add (s5.getD 0 undef) (.int .i64 1) fun t38 =>
          L5 [t38] w7)) (
        K (.bool true) w6))
theorem W10_eq (v0 v1 : Value) (w : World) (K : Value → World → Prop) : funW Tryz.prog Tryz.f10 plan10 [v0, v1] w K = W10 v0 v1 w K := by kernel_rfl
theorem W10_chk : chkFun Tryz.prog Tryz.f10 plan10 2 = true := by kernel_rfl
theorem W10_ok {v0 v1 : Value} {w : World} {K : Value → World → Prop} (h : W10 v0 v1 w K) : callF Tryz.prog 10 [v0, v1] w K :=
  tie Tryz.prog 10 Tryz.f10 plan10 [v0, v1] w K 2 (W10 v0 v1 w K) rfl mixed Tryz.func10 W10_chk (W10_eq v0 v1 w K) Tryz.call10 h
def plan11 : Plan := { js := [(38, ⟨[66], [2, 5], 66⟩), (14, ⟨[17], [2, 3, 4, 5], 17⟩), (4004, ⟨[12], [], 10⟩)], ds := [(50, ⟨[0, 1, 2, 3, 4, 6, 7, 8, 9, 10, 11, 12, 13, 14, 15, 16, 17, 18, 19, 20, 21, 22, 23, 24], [[], [0], [], [0, 1, 2], [0, 1, 2, 3], [0, 1, 2, 3, 4], [0, 1, 2, 3, 4, 5], [0, 1, 2, 3, 4, 5, 6], [0, 1, 2, 3, 4, 5, 6, 7], [0, 1, 2, 3, 4, 5, 6, 7, 8], [0, 1, 2, 3, 4, 5, 6, 7, 8, 9], [0, 1, 2, 3, 4, 5, 6, 7, 8, 9, 10], [0, 1, 2, 3, 4, 5, 6, 7, 8, 9, 10, 11], [0, 1, 2, 3, 4, 5, 6, 7, 8, 9, 10], [0, 1, 2, 3, 4, 5, 6, 7, 8, 9, 10, 13], [0, 1, 2, 3, 4, 5, 6, 7, 8, 9, 10, 11, 12, 13, 14], [0, 1, 2, 3, 4, 5, 6, 7, 8, 9, 10, 11, 12, 13, 14, 15], [0, 1, 2, 3, 4, 5, 6, 7, 8, 9, 10], [0, 1, 2, 3, 4, 5, 6, 7, 8, 9, 10, 17], [0, 1, 2, 3, 4, 5, 6, 7, 8, 9, 10], [0, 1, 2, 3, 4, 5, 6, 7, 8, 9, 10, 17, 18, 19], [0, 1, 2, 3, 4, 5, 6, 7, 8, 9, 10, 17, 18, 19, 20], [0, 1, 2, 3, 4, 5, 6, 7, 8, 9, 10, 11, 12, 13, 14, 15, 16, 17, 18, 19, 20, 21], [0, 1, 2, 3, 4, 5, 6, 7, 8, 9, 10, 11, 12, 13, 14, 15, 16, 17, 18, 19, 20, 21, 22], [0, 1, 2, 3, 4, 5, 6, 7, 8, 9, 10, 11, 12, 13, 14, 15, 16, 17, 18, 19, 20, 21, 22, 23]]⟩), (29, ⟨[0, 1, 2, 3, 4, 5, 6, 7, 8, 9, 10, 11, 12, 13, 14, 15, 16, 18, 19, 20, 21, 22, 24, 25, 26, 27, 28, 30, 31, 32, 33, 34, 36, 37], [[], [0], [0, 1], [0, 1, 2], [0, 1, 2, 3], [0, 1, 2], [0, 1, 2, 5], [0, 1, 2, 3, 4, 5, 6], [0, 1, 2, 3, 4, 5, 6, 7], [0, 1, 2, 3, 4, 5, 6, 7, 8], [0, 1, 2], [0, 1, 2, 10], [0, 1, 2, 3, 4, 5, 6, 7, 8, 9, 10, 11], [0, 1, 2, 3, 4, 5, 6, 7, 8, 9, 10, 11, 12], [0, 1, 2, 3, 4, 5, 6, 7, 8, 9, 10, 11, 12, 13], [0, 1, 2, 3, 4, 5, 6, 7, 8, 9, 10, 11, 12, 13, 14], [0, 1, 2, 3, 4, 5, 6, 7, 8, 9, 10, 11, 12, 13, 14, 15], [0, 1, 2, 3, 4, 5, 6, 7, 8, 9, 10, 11, 12, 13, 14, 15, 16], [0, 1, 2, 3, 4, 5, 6, 7, 8, 9, 10, 11, 12, 13, 14, 15, 16, 17], [0, 1, 2, 3, 4, 5, 6, 7, 8, 9, 10, 11, 12, 13, 14, 15, 16, 17, 18], [0, 1, 2, 3, 4, 5, 6, 7, 8, 9, 10, 11, 12, 13, 14, 15, 16, 17, 18, 19], [0, 1, 2, 3, 4, 5, 6, 7, 8, 9, 10, 11, 12, 13, 14, 15, 16, 17, 18, 19, 20], [0, 1, 2, 3, 4, 5, 6, 7, 8, 9, 10, 11, 12, 13, 14, 15, 16, 17, 18, 19, 20, 21], [0, 1, 2, 3, 4, 5, 6, 7, 8, 9, 10, 11, 12, 13, 14, 15, 16, 17, 18, 19, 20, 21, 22], [0, 1, 2, 3, 4, 5, 6, 7, 8, 9, 10, 11, 12, 13, 14, 15, 16, 17, 18, 19, 20, 21, 22, 23], [0, 1, 2, 3, 4, 5, 6, 7, 8, 9, 10, 11, 12, 13, 14, 15, 16, 17, 18, 19, 20, 21, 22, 23, 24], [0, 1, 2, 3, 4, 5, 6, 7, 8, 9, 10, 11, 12, 13, 14, 15, 16, 17, 18, 19, 20, 21, 22, 23, 24, 25], [0, 1, 2, 3, 4, 5, 6, 7, 8, 9, 10, 11, 12, 13, 14, 15, 16, 17, 18, 19, 20, 21, 22, 23, 24, 25, 26], [0, 1, 2, 3, 4, 5, 6, 7, 8, 9, 10, 11, 12, 13, 14, 15, 16, 17, 18, 19, 20, 21, 22, 23, 24, 25, 26, 27], [0, 1, 2, 3, 4, 5, 6, 7, 8, 9, 10, 11, 12, 13, 14, 15, 16, 17, 18, 19, 20, 21, 22, 23, 24, 25, 26, 27, 28], [0, 1, 2, 3, 4, 5, 6, 7, 8, 9, 10, 11, 12, 13, 14, 15, 16, 17, 18, 19, 20, 21, 22, 23, 24, 25, 26, 27, 28, 29], [0, 1, 2, 3, 4, 5, 6, 7, 8, 9, 10, 11, 12, 13, 14, 15, 16, 17, 18, 19, 20, 21, 22, 23, 24, 25, 26, 27, 28, 29, 30], [0, 1, 2, 3, 4, 5, 6, 7, 8, 9, 10, 11, 12, 13, 14, 15, 16, 17, 18, 19, 20, 21, 22, 23, 24, 25, 26, 27, 28, 29, 30, 31], [0, 1, 2, 3, 4, 5, 6, 7, 8, 9, 10, 11, 12, 13, 14, 15, 16, 17, 18, 19, 20, 21, 22, 23, 24, 25, 26, 27, 28, 29, 30, 31, 32], [0, 1, 2, 3, 4, 5, 6, 7, 8, 9, 10, 11, 12, 13, 14, 15, 16, 17, 18, 19, 20, 21, 22, 23, 24, 25, 26, 27, 28, 29, 30, 31, 32, 33], [0, 1, 2, 3, 4, 5, 6, 7, 8, 9, 10, 11, 12, 13, 14, 15, 16, 17, 18, 19, 20, 21, 22, 23, 24, 25, 26, 27, 28, 29, 30, 31, 32, 33, 34], [0, 1, 2, 3, 4, 5, 6, 7, 8, 9, 10, 11, 12, 13, 14, 15, 16, 17, 18, 19, 20, 21, 22, 23, 24, 25, 26, 27, 28, 29, 30, 31, 32, 33, 34, 35], [0, 1, 2, 3, 4, 5, 6, 7, 8, 9, 10, 11, 12, 13, 14, 15, 16, 17, 18, 19, 20, 21, 22, 23, 24, 25, 26, 27, 28, 29, 30, 31, 32, 33, 34, 35, 36]]⟩)] }
def W11 (v0 : Value) (w : World) (K : Value → World → Prop) : Prop :=
  boxW 24 v0 w fun t1 w1 =>
  fldW 0 t1 fun t6 =>
  ldW false 1 t6 w1 fun t7 =>
  binW .lss t7 (.int .i64 0) fun t8 =>
  GdW (isB t8 false) [undef] w1 (fun J2 =>
    fldW 0 t1 fun t10 =>
    ldW false 1 t10 w1 fun t11 =>
    binW .gtr t11 (.int .i64 1099511627776) fun t12 =>
    J2 [t12] w1)
  fun s2 _ w3 =>
  pickW t8 (.bool true) (s2.getD 0 undef) fun t13 =>
  condW t13 (
    K (.bool false) w3) (
    fldW 1 t1 fun t14 =>
    ldW false 1 t14 w3 fun t15 =>
    lenlW t15 fun t16 =>
    LoopW [(.int .i64 0)] w3 fun s4 _ w5 L4 =>
      binW .lss (s4.getD 0 undef) t16 fun t18 =>
      condW t18 (
        fldW 1 t1 fun t20 =>
        ldW false 1 t20 w5 fun t21 =>
        ixaW none 9 t21 (s4.getD 0 undef) fun t23 =>
        ldW true 9 t23 w5 fun t24 =>
        allocW 42 [(.string (ofL [])), (.string (ofL [])), (.string (ofL [])), (.int .i64 0), (.bool false), (.string (ofL [])), (.slice none 0 0), (.slice none 0 0), (.slice none 0 0)] w5 fun t4 w6 =>
        stW 9 t4 t24 w6 fun w7 =>
        binW .gtr (s4.getD 0 undef) (.int .i64 0) fun t26 =>
        GqW (isB t26 true) (fun k8 => fldW 1 t1 k8) fun t28 =>
        GqW (isB t26 true) (fun k9 => ldW false 1 t28 w7.drew k9) fun t29 =>
        GqW (isB t26 true) (fun k10 => k10 (s4.getD 0 undef)) fun t30 =>
        GqW (isB t26 true) (fun k11 => binW .sub t30 (.int .i64 1) k11) fun t31 =>
        GqW (isB t26 true) (fun k12 => ixaW none 9 t29 t31 k12) fun t32 =>
        GqW (isB t26 true) (fun k13 => fldW 0 t32 k13) fun t33 =>
        GqW (isB t26 true) (fun k14 => ldW false 1 t33 w7.drew k14) fun t34 =>
        GqW (isB t26 true) (fun k15 => fldW 0 t4 k15) fun t35 =>
        GqW (isB t26 true) (fun k16 => ldW false 1 t35 w7.drew k16) fun t36 =>
        GqW (isB t26 true) (fun k17 => binW .geq t34 t36 k17) fun t37 =>
        pickW t26 t37 (.bool false) fun t38 =>
        GqW (isB t38 false) (fun k18 => fldW 0 t4 k18) fun t40 =>
        GqW (isB t38 false) (fun k19 => ldW false 1 t40 w7.drew k19) fun t41 =>
        GeW (isB t38 false) w7.drew (fun k20 => callF Tryz.prog 32 [t41] w7.drew k20) fun t42 w21 =>
        GqW (isB t38 false) (fun k22 => unW .not t42 k22) fun t43 =>
        pickW t38 (.bool true) t43 fun t44 =>
        GqW (isB t44 false) (fun k23 => fldW 1 t4 k23) fun t46 =>
        GqW (isB t44 false) (fun k24 => ldW false 1 t46 w21 k24) fun t47 =>
        GeW (isB t44 false) w21 (fun k25 => callF Tryz.prog 32 [t47] w21 k25) fun t48 w26 =>
        GqW (isB t44 false) (fun k27 => unW .not t48 k27) fun t49 =>
        pickW t44 (.bool true) t49 fun t50 =>
        GqW (isB t50 false) (fun k28 => fldW 2 t4 k28) fun t52 =>
        GqW (isB t50 false) (fun k29 => ldW false 1 t52 w26 k29) fun t53 =>
        GeW (isB t50 false) w26 (fun k30 => callF Tryz.prog 32 [t53] w26 k30) fun t54 w31 =>
        GqW (isB t50 false) (fun k32 => unW .not t54 k32) fun t55 =>
        pickW t50 (.bool true) t55 fun t56 =>
        GqW (isB t56 false) (fun k33 => fldW 3 t4 k33) fun t58 =>
        GqW (isB t56 false) (fun k34 => ldW true 5 t58 w31 k34) fun t59 =>
        GeW (isB t56 false) w31 (fun k35 => callF Tryz.prog 33 [t59] w31 k35) fun t60 w36 =>
        GqW (isB t56 false) (fun k37 => unW .not t60 k37) fun t61 =>
        pickW t56 (.bool true) t61 fun t62 =>
        condW t62 (
          K (.bool false) w36) (
          fldW 8 t4 fun t63 =>
          ldW false 1 t63 w36 fun t64 =>
          lenlW t64 fun t65 =>
          LoopW [(.int .i64 0)] w36 fun s38 _ w39 L38 =>
            binW .lss (s38.getD 0 undef) t65 fun t67 =>
            condW t67 (
              fldW 8 t4 fun t69 =>
              ldW false 1 t69 w39.drew fun t70 =>
              ixaW none 1 t70 (s38.getD 0 undef) fun t72 =>
              ldW false 1 t72 w39.drew fun t73 =>
              callF Tryz.prog 32 [t73] w39.drew fun t74 w40 =>
              unW .not t74 fun t75 =>
              GqW (isB t75 false) (fun k41 => k41 (s38.getD 0 undef)) fun t77 =>
              GqW (isB t75 false) (fun k42 => binW .gtr t77 (.int .i64 0) k42) fun t78 =>
              GqW (isB t75 false) (fun k43 => k43 t78) fun t79 =>
              GqW (isB t79 true) (fun k44 => fldW 8 t4 k44) fun t80 =>
              GqW (isB t79 true) (fun k45 => ldW false 1 t80 w40 k45) fun t81 =>
              GqW (isB t79 true) (fun k46 => k46 (s38.getD 0 undef)) fun t82 =>
              GqW (isB t79 true) (fun k47 => binW .sub t82 (.int .i64 1) k47) fun t83 =>
              GqW (isB t79 true) (fun k48 => ixaW none 1 t81 t83 k48) fun t84 =>
              GqW (isB t79 true) (fun k49 => ldW false 1 t84 w40 k49) fun t85 =>
              GqW (isB t79 true) (fun k50 => fldW 8 t4 k50) fun t86 =>
              GqW (isB t79 true) (fun k51 => ldW false 1 t86 w40 k51) fun t87 =>
              GqW (isB t79 true) (fun k52 => k52 (s38.getD 0 undef)) fun t88 =>
              GqW (isB t79 true) (fun k53 => ixaW none 1 t87 t88 k53) fun t89 =>
              GqW (isB t79 true) (fun k54 => ldW false 1 t89 w40 k54) fun t90 =>
              GqW (isB t79 true) (fun k55 => binW .geq t85 t90 k55) fun t91 =>
              GqW (isB t75 false) (fun k56 => pickW t79 t91 (.bool false) k56) fun t92 =>
              pickW t75 (.bool true) t92 fun t93 =>
              condW t93 (
                K (.bool false) w40) (
                binW .add (s38.getD 0 undef) (.int .i64 1) fun t94 =>
                L38 [t94] w40)) (
              binW .add (s4.getD 0 undef) (.int .i64 1) fun t95 =>
              L4 [t95] w39))) (
        K (.bool true) w5))
theorem W11_eq (v0 : Value) (w : World) (K : Value → World → Prop) : funW Tryz.prog Tryz.f11 plan11 [v0] w K = W11 v0 w K := by kernel_rfl
theorem W11_chk : chkFun Tryz.prog Tryz.f11 plan11 1 = true := by kernel_rfl
theorem W11_ok {v0 : Value} {w : World} {K : Value → World → Prop} (h : W11 v0 w K) : callF Tryz.prog 11 [v0] w K :=
  tie Tryz.prog 11 Tryz.f11 plan11 [v0] w K 1 (W11 v0 w K) rfl mixed Tryz.func11 W11_chk (W11_eq v0 w K) Tryz.call11 h
def plan22 : Plan := { js := [(57005, ⟨[102], [], 100⟩), (48002, ⟨[92], [], 81⟩), (48010, ⟨[91], [], 84⟩), (48013, ⟨[83], [], 81⟩), (36, ⟨[72], [2, 5, 6], 72⟩), (27005, ⟨[67], [], 64⟩), (27011, ⟨[61], [], 58⟩), (27017, ⟨[55], [], 52⟩), (6, ⟨[10], [2, 3, 4, 5, 6], 10⟩)], ds := [(19, ⟨[0, 1, 2, 3, 4, 5, 6, 7, 8, 9, 10, 11, 12, 13, 14, 15, 16, 18, 19, 20, 21, 22, 24, 25, 26, 27, 28, 30, 31], [[], [0], [0, 1], [0, 1, 2], [0, 1, 2, 3], [0, 1, 2], [0, 1, 2, 5], [0, 1, 2, 3, 4, 5, 6], [0, 1, 2, 3, 4, 5, 6, 7], [0, 1, 2, 3, 4, 5, 6, 7, 8], [0, 1, 2], [0, 1, 2, 10], [0, 1, 2, 3, 4, 5, 6, 7, 8, 9, 10, 11], [0, 1, 2, 3, 4, 5, 6, 7, 8, 9, 10, 11, 12], [0, 1, 2, 3, 4, 5, 6, 7, 8, 9, 10, 11, 12, 13], [0, 1, 2, 3, 4, 5, 6, 7, 8, 9, 10, 11, 12, 13, 14], [0, 1, 2, 3, 4, 5, 6, 7, 8, 9, 10, 11, 12, 13, 14, 15], [0, 1, 2, 3, 4, 5, 6, 7, 8, 9, 10, 11, 12, 13, 14, 15, 16], [0, 1, 2, 3, 4, 5, 6, 7, 8, 9, 10, 11, 12, 13, 14, 15, 16, 17], [0, 1, 2, 3, 4, 5, 6, 7, 8, 9, 10, 11, 12, 13, 14, 15, 16, 17, 18], [0, 1, 2, 3, 4, 5, 6, 7, 8, 9, 10, 11, 12, 13, 14, 15, 16, 17, 18, 19], [0, 1, 2, 3, 4, 5, 6, 7, 8, 9, 10, 11, 12, 13, 14, 15, 16, 17, 18, 19, 20], [0, 1, 2, 3, 4, 5, 6, 7, 8, 9, 10, 11, 12, 13, 14, 15, 16, 17, 18, 19, 20, 21], [0, 1, 2, 3, 4, 5, 6, 7, 8, 9, 10, 11, 12, 13, 14, 15, 16, 17, 18, 19, 20, 21, 22], [0, 1, 2, 3, 4, 5, 6, 7, 8, 9, 10, 11, 12, 13, 14, 15, 16, 17, 18, 19, 20, 21, 22, 23], [0, 1, 2, 3, 4, 5, 6, 7, 8, 9, 10, 11, 12, 13, 14, 15, 16, 17, 18, 19, 20, 21, 22, 23, 24], [0, 1, 2, 3, 4, 5, 6, 7, 8, 9, 10, 11, 12, 13, 14, 15, 16, 17, 18, 19, 20, 21, 22, 23, 24, 25], [0, 1, 2, 3, 4, 5, 6, 7, 8, 9, 10, 11, 12, 13, 14, 15, 16, 17, 18, 19, 20, 21, 22, 23, 24, 25, 26], [0, 1, 2, 3, 4, 5, 6, 7, 8, 9, 10, 11, 12, 13, 14, 15, 16, 17, 18, 19, 20, 21, 22, 23, 24, 25, 26, 27], [0, 1, 2, 3, 4, 5, 6, 7, 8, 9, 10, 11, 12, 13, 14, 15, 16, 17, 18, 19, 20, 21, 22, 23, 24, 25, 26, 27, 28], [0, 1, 2, 3, 4, 5, 6, 7, 8, 9, 10, 11, 12, 13, 14, 15, 16, 17, 18, 19, 20, 21, 22, 23, 24, 25, 26, 27, 28, 29], [0, 1, 2, 3, 4, 5, 6, 7, 8, 9, 10, 11, 12, 13, 14, 15, 16, 17, 18, 19, 20, 21, 22, 23, 24, 25, 26, 27, 28, 29, 30]]⟩)] }
def W22 (v0 : Value) (w : World) (K : Value → World → Prop) : Prop :=
  boxW 24 v0 w fun t1 w1 =>
  fldW 1 t1 fun t7 =>
  ldW false 1 t7 w1 fun t8 =>
  lenlW t8 fun t9 =>
  LoopW [(.int .i64 0)] w1 fun s2 _ w3 L2 =>
    binW .lss (s2.getD 0 undef) t9 fun t11 =>
    condW t11 (
      ixaW none 9 t8 (s2.getD 0 undef) fun t13 =>
      ldW true 9 t13 w3 fun t14 =>
      allocW 42 [(.string (ofL [])), (.string (ofL [])), (.string (ofL [])), (.int .i64 0), (.bool false), (.string (ofL [])), (.slice none 0 0), (.slice none 0 0), (.slice none 0 0)] w3 fun t4 w4 =>
      stW 9 t4 t14 w4 fun w5 =>
      binW .gtr (s2.getD 0 undef) (.int .i64 0) fun t16 =>
      GqW (isB t16 true) (fun k6 => fldW 1 t1 k6) fun t18 =>
      GqW (isB t16 true) (fun k7 => ldW false 1 t18 w5.drew k7) fun t19 =>
      GqW (isB t16 true) (fun k8 => k8 (s2.getD 0 undef)) fun t20 =>
      GqW (isB t16 true) (fun k9 => binW .sub t20 (.int .i64 1) k9) fun t21 =>
      GqW (isB t16 true) (fun k10 => ixaW none 9 t19 t21 k10) fun t22 =>
      GqW (isB t16 true) (fun k11 => fldW 0 t22 k11) fun t23 =>
      GqW (isB t16 true) (fun k12 => ldW false 1 t23 w5.drew k12) fun t24 =>
      GqW (isB t16 true) (fun k13 => fldW 0 t4 k13) fun t25 =>
      GqW (isB t16 true) (fun k14 => ldW false 1 t25 w5.drew k14) fun t26 =>
      GqW (isB t16 true) (fun k15 => binW .geq t24 t26 k15) fun t27 =>
      pickW t16 t27 (.bool false) fun t28 =>
      GqW (isB t28 false) (fun k16 => fldW 0 t4 k16) fun t30 =>
      GqW (isB t28 false) (fun k17 => ldW false 1 t30 w5.drew k17) fun t31 =>
      GeW (isB t28 false) w5.drew (fun k18 => callF Tryz.prog 46 [t31] w5.drew k18) fun t32 w19 =>
      GqW (isB t28 false) (fun k20 => unW .not t32 k20) fun t33 =>
      pickW t28 (.bool true) t33 fun t34 =>
      GqW (isB t34 false) (fun k21 => fldW 1 t4 k21) fun t36 =>
      GqW (isB t34 false) (fun k22 => ldW false 1 t36 w19 k22) fun t37 =>
      GeW (isB t34 false) w19 (fun k23 => callF Tryz.prog 46 [t37] w19 k23) fun t38 w24 =>
      GqW (isB t34 false) (fun k25 => unW .not t38 k25) fun t39 =>
      pickW t34 (.bool true) t39 fun t40 =>
      GqW (isB t40 false) (fun k26 => fldW 2 t4 k26) fun t42 =>
      GqW (isB t40 false) (fun k27 => ldW false 1 t42 w24 k27) fun t43 =>
      GeW (isB t40 false) w24 (fun k28 => callF Tryz.prog 46 [t43] w24 k28) fun t44 w29 =>
      GqW (isB t40 false) (fun k30 => unW .not t44 k30) fun t45 =>
      pickW t40 (.bool true) t45 fun t46 =>
      condW t46 (
        K (.bool false) w29) (
        fldW 3 t4 fun t47 =>
        fldW 0 t47 fun t48 =>
        ldW false 1 t48 w29 fun t49 =>
        binW .neq t49 (.int .i64 6) fun t50 =>
        GdW (isB t50 false) [undef] w29 (fun J31 =>
          fldW 3 t4 fun t52 =>
          ldW true 5 t52 w29 fun t53 =>
          callF Tryz.prog 47 [t53] w29 fun t54 w32 =>
          unW .not t54 fun t55 =>
          J31 [t55] w32)
        fun s31 _ w33 =>
        pickW t50 (.bool true) (s31.getD 0 undef) fun t56 =>
        GdW (isB t56 false) [undef] w33 (fun J34 =>
          fldW 3 t4 fun t58 =>
          ldW true 5 t58 w33 fun t59 =>
          callF Tryz.prog 48 [t59] w33 fun t60 w35 =>
          unW .not t60 fun t61 =>
          J34 [t61] w35)
        fun s34 _ w36 =>
        pickW t56 (.bool true) (s34.getD 0 undef) fun t62 =>
        GdW (isB t62 false) [undef] w36 (fun J37 =>
          fldW 3 t4 fun t64 =>
          ldW true 5 t64 w36 fun t65 =>
          callF Tryz.prog 49 [t65] w36 fun t66 w38 =>
          unW .not t66 fun t67 =>
          J37 [t67] w38)
        fun s37 _ w39 =>
        pickW t62 (.bool true) (s37.getD 0 undef) fun t68 =>
        condW t68 (
          K (.bool false) w39) (
          fldW 8 t4 fun t69 =>
          ldW false 1 t69 w39 fun t70 =>
          lenlW t70 fun t71 =>
          LoopW [(.int .i64 0)] w39 fun s40 _ w41 L40 =>
            binW .lss (s40.getD 0 undef) t71 fun t73 =>
            condW t73 (
              ixaW none 1 t70 (s40.getD 0 undef) fun t75 =>
              ldW false 1 t75 w41 fun t76 =>
              callF Tryz.prog 46 [t76] w41 fun t78 w42 =>
              unW .not t78 fun t79 =>
              GdW (isB t79 false) [undef] w42 (fun J43 =>
                binW .gtr (s40.getD 0 undef) (.int .i64 0) fun t82 =>
                J43 [t82] w42)
              fun s43 _ w44 =>
              GdW (isB (s43.getD 0 undef) true) [undef] w44 (fun J45 =>
                fldW 8 t4 fun t84 =>
                ldW false 1 t84 w44 fun t85 =>
                binW .sub (s40.getD 0 undef) (.int .i64 1) fun t87 =>
                ixaW none 1 t85 t87 fun t88 =>
                ldW false 1 t88 w44 fun t89 =>
                binW .geq t89 t76 fun t91 =>
                J45 [t91] w44)
              fun s45 _ w46 =>
              GdW (isB t79 false) [undef] w46 (fun J47 =>
                pickW (s43.getD 0 undef) (s45.getD 0 undef) (.bool false) fun t92 =>
                J47 [t92] w46)
              fun s47 _ w48 =>
              pickW t79 (.bool true) (s47.getD 0 undef) fun t93 =>
              condW t93 (
                K (.bool false) w48) (
                binW .add (s40.getD 0 undef) (.int .i64 1) fun t94 =>
                L40 [t94] w48)) (
              binW .add (s2.getD 0 undef) (.int .i64 1) fun t95 =>
              L2 [t95] w41)))) (
      fldW 0 t1 fun t96 =>
      ldW false 1 t96 w3 fun t97 =>
      binW .geq t97 (.int .i64 0) fun t98 =>
      GdW (isB t98 true) [undef] w3 (fun J49 =>
        fldW 0 t1 fun t100 =>
        ldW false 1 t100 w3 fun t101 =>
        binW .leq t101 (.int .i64 1099511627776) fun t102 =>
        J49 [t102] w3)
      fun s49 _ w50 =>
      pickW t98 (s49.getD 0 undef) (.bool false) fun t103 =>
      K t103 w50)
theorem W22_eq (v0 : Value) (w : World) (K : Value → World → Prop) : funW Tryz.prog Tryz.f22 plan22 [v0] w K = W22 v0 w K := by kernel_rfl
theorem W22_chk : chkFun Tryz.prog Tryz.f22 plan22 1 = true := by kernel_rfl
theorem W22_ok {v0 : Value} {w : World} {K : Value → World → Prop} (h : W22 v0 w K) : callF Tryz.prog 22 [v0] w K :=
  tie Tryz.prog 22 Tryz.f22 plan22 [v0] w K 1 (W22 v0 w K) rfl mixed Tryz.func22 W22_chk (W22_eq v0 w K) Tryz.call22 h
def plan24 : Plan := { js := [], ds := [] }
def W24 (v0 v1 : Value) (w : World) (K : Value → World → Prop) : Prop :=
  allocW 40 [(.int .i64 0), (.bool false), (.string (ofL [])), (.slice none 0 0), (.slice none 0 0)] w fun t4 w1 =>
  callF Tryz.prog 50 [v0, v1] w1 fun t10 w2 =>
  extW 0 t10 fun t11 =>
  extW 1 t10 fun t12 =>
  allocW 40 [(.int .i64 0), (.bool false), (.string (ofL [])), (.slice none 0 0), (.slice none 0 0)] w2 fun t5 w3 =>
  stW 5 t5 t11 w3 fun w4 =>
  ldW true 5 t5 w4 fun t13 =>
  stW 5 t4 t13 w4 fun w5 =>
  ldW true 5 t4 w5 fun r6 =>
  K r6 w5
theorem W24_eq (v0 v1 : Value) (w : World) (K : Value → World → Prop) : funW Tryz.prog Tryz.f24 plan24 [v0, v1] w K = W24 v0 v1 w K := by kernel_rfl
theorem W24_chk : chkFun Tryz.prog Tryz.f24 plan24 2 = true := by kernel_rfl
theorem W24_ok {v0 v1 : Value} {w : World} {K : Value → World → Prop} (h : W24 v0 v1 w K) : callF Tryz.prog 24 [v0, v1] w K :=
  tie Tryz.prog 24 Tryz.f24 plan24 [v0, v1] w K 2 (W24 v0 v1 w K) rfl mixed Tryz.func24 W24_chk (W24_eq v0 v1 w K) Tryz.call24 h
def plan26 : Plan := { js := [], ds := [] }
def W26 (v0 : Value) (w : World) (K : Value → World → Prop) : Prop :=
  allocW 40 [(.int .i64 0), (.bool false), (.string (ofL [])), (.slice none 0 0), (.slice none 0 0)] w fun t2 w1 =>
  callF Tryz.prog 55 [v0] w1 fun t4 w2 =>
  putW [(.int .i64 0), (.bool false), (.string (ofL [])), (.slice none 0 0), (.slice none 0 0)] [(0, 1, (.int .i64 3)), (2, 1, t4)] fun c3 =>
  stW 5 t2 (.agg c3.toArray) w2 fun w4 =>
  ldW true 5 t2 w4 fun r5 =>
  K r5 w4
theorem W26_eq (v0 : Value) (w : World) (K : Value → World → Prop) : funW Tryz.prog Tryz.f26 plan26 [v0] w K = W26 v0 w K := by kernel_rfl
theorem W26_chk : chkFun Tryz.prog Tryz.f26 plan26 1 = true := by kernel_rfl
theorem W26_ok {v0 : Value} {w : World} {K : Value → World → Prop} (h : W26 v0 w K) : callF Tryz.prog 26 [v0] w K :=
  tie Tryz.prog 26 Tryz.f26 plan26 [v0] w K 1 (W26 v0 w K) rfl mixed Tryz.func26 W26_chk (W26_eq v0 w K) Tryz.call26 h
def plan28 : Plan := { js := [], ds := [(3, ⟨[0, 1, 2, 3, 4, 5, 6, 7, 8, 10, 11, 12], [[], [0], [], [2], [2, 3], [2, 3, 4], [2, 3, 4, 5], [2, 3, 4, 5, 6], [2, 3, 4, 5], [2, 3, 4, 5, 6, 7, 8], [2, 3, 4, 5, 6, 7, 8, 9], [0, 1, 2, 3, 4, 5, 6, 7, 8, 9], [0, 1, 2, 3, 4, 5, 6, 7, 8, 9, 10, 11]]⟩)] }
def W28 (v0 v1 : Value) (w : World) (K : Value → World → Prop) : Prop :=
  boxW 40 v0 w fun t2 w1 =>
  fldW 3 t2 fun t6 =>
  ldW false 1 t6 w1.drew fun t7 =>
  fldW 0 t2 fun t8 =>
  ldW false 1 t8 w1.drew fun t9 =>
  binW .eql t9 (.int .i64 6) fun t10 =>
  GqW (isB t10 true) (fun k2 => fldW 4 t2 k2) fun t12 =>
  GqW (isB t10 true) (fun k3 => ldW false 1 t12 w1.drew k3) fun t13 =>
  GqW (isB t10 true) (fun k4 => k4 v1) fun t14 =>
  GeW (isB t10 true) w1.drew (fun k5 => callF Tryz.prog 60 [t13, t14] w1.drew k5) fun t15 w6 =>
  (ldW false 1 t6 w6 fun x => x = t7) ∧
  pickW t10 t15 (.bool false) fun t16 =>
  K (.tuple #[t7, t16]) w6
theorem W28_eq (v0 v1 : Value) (w : World) (K : Value → World → Prop) : funW Tryz.prog Tryz.f28 plan28 [v0, v1] w K = W28 v0 v1 w K := by kernel_rfl
theorem W28_chk : chkFun Tryz.prog Tryz.f28 plan28 2 = true := by kernel_rfl
theorem W28_ok {v0 v1 : Value} {w : World} {K : Value → World → Prop} (h : W28 v0 v1 w K) : callF Tryz.prog 28 [v0, v1] w K :=
  tie Tryz.prog 28 Tryz.f28 plan28 [v0, v1] w K 2 (W28 v0 v1 w K) rfl mixed Tryz.func28 W28_chk (W28_eq v0 v1 w K) Tryz.call28 h
def plan29 : Plan := { js := [(6004, ⟨[16], [], 14⟩)], ds := [] }
def W29 (v0 : Value) (w : World) (K : Value → World → Prop) : Prop :=
  callF Tryz.prog 61 [v0] w fun t8 w1 =>
  extW 0 t8 fun t9 =>
  extW 1 t8 fun t10 =>
  eqQ Tryz.prog .neq 103 false true t10 .nilIface w1 fun t12 =>
  GdW (isB t12 false) [undef] w1 (fun J2 =>
    callF Tryz.prog 62 [v0] w1 fun t15 w3 =>
    unW .not t15 fun t16 =>
    J2 [t16] w3)
  fun s2 _ w4 =>
  pickW t12 (.bool true) (s2.getD 0 undef) fun t17 =>
  condW t17 (
    K (.tuple #[(.int .i64 0), (.bool false)]) w4) (
    K (.tuple #[t9, (.bool true)]) w4)
theorem W29_eq (v0 : Value) (w : World) (K : Value → World → Prop) : funW Tryz.prog Tryz.f29 plan29 [v0] w K = W29 v0 w K := by kernel_rfl
theorem W29_chk : chkFun Tryz.prog Tryz.f29 plan29 1 = true := by kernel_rfl
theorem W29_ok {v0 : Value} {w : World} {K : Value → World → Prop} (h : W29 v0 w K) : callF Tryz.prog 29 [v0] w K :=
  tie Tryz.prog 29 Tryz.f29 plan29 [v0] w K 1 (W29 v0 w K) rfl mixed Tryz.func29 W29_chk (W29_eq v0 w K) Tryz.call29 h
def plan30 : Plan := { js := [(18, ⟨[67], [3, 8], 67⟩), (6006, ⟨[43], [], 39⟩), (6013, ⟨[36], [], 32⟩), (6020, ⟨[29], [], 25⟩), (6027, ⟨[22], [], 18⟩)], ds := [(13, ⟨[0, 1, 2, 3, 4, 5, 6, 7, 8, 9, 10, 11, 12, 13, 14, 15], [[], [0], [0, 1], [0, 1, 2], [], [4], [4, 5], [], [7], [7, 8], [7, 8, 9], [], [11], [11, 12], [11, 12, 13], [0, 1, 2, 3, 4, 5, 6, 7, 8, 9, 10, 11, 12, 13, 14], [], [0, 1, 2, 3, 4, 5, 6, 7, 8, 9, 10, 11, 12, 13, 14, 15, 16]]⟩)] }
def W30 (v0 : Value) (w : World) (K : Value → World → Prop) : Prop :=
  boxW 40 v0 w fun t1 w1 =>
  allocW 42 [(.string (ofL [])), (.string (ofL [])), (.string (ofL [])), (.int .i64 0), (.bool false), (.string (ofL [])), (.slice none 0 0), (.slice none 0 0), (.slice none 0 0)] w1 fun t2 w2 =>
  ldW true 5 t1 w2 fun t10 =>
  bslW 9 5 [(.string (ofL [])), (.string (ofL [])), (.string (ofL [])), (.string (ofL [])), (.string (ofL []))] [(0, 1, (.string (ofL [97, 100, 100, 114]))), (1, 1, (.string (ofL [97, 116, 116, 114, 115]))), (2, 1, (.string (ofL [100, 101, 112, 115]))), (3, 1, (.string (ofL [105, 100]))), (4, 1, (.string (ofL [116, 121, 112, 101])))] w2 fun t11 w3 =>
  callF Tryz.prog 28 [t10, t11] w3 fun t12 w4 =>
  extW 0 t12 fun t13 =>
  extW 1 t12 fun t14 =>
  unW .not t14 fun t16 =>
  GdW (isB t16 false) [undef] w4 (fun J5 =>
    ixaW none 5 t13 (.int .i64 0) fun t19 =>
    fldW 0 t19 fun t20 =>
    ldW false 1 t20 w4 fun t21 =>
    binW .neq t21 (.int .i64 4) fun t22 =>
    J5 [t22] w4)
  fun s5 _ w6 =>
  pickW t16 (.bool true) (s5.getD 0 undef) fun t23 =>
  GdW (isB t23 false) [undef] w6 (fun J7 =>
    ixaW none 5 t13 (.int .i64 2) fun t26 =>
    fldW 0 t26 fun t27 =>
    ldW false 1 t27 w6 fun t28 =>
    binW .neq t28 (.int .i64 5) fun t29 =>
    J7 [t29] w6)
  fun s7 _ w8 =>
  pickW t23 (.bool true) (s7.getD 0 undef) fun t30 =>
  GdW (isB t30 false) [undef] w8 (fun J9 =>
    ixaW none 5 t13 (.int .i64 3) fun t33 =>
    fldW 0 t33 fun t34 =>
    ldW false 1 t34 w8 fun t35 =>
    binW .neq t35 (.int .i64 4) fun t36 =>
    J9 [t36] w8)
  fun s9 _ w10 =>
  pickW t30 (.bool true) (s9.getD 0 undef) fun t37 =>
  GdW (isB t37 false) [undef] w10 (fun J11 =>
    ixaW none 5 t13 (.int .i64 4) fun t40 =>
    fldW 0 t40 fun t41 =>
    ldW false 1 t41 w10 fun t42 =>
    binW .neq t42 (.int .i64 4) fun t43 =>
    J11 [t43] w10)
  fun s11 _ w12 =>
  pickW t37 (.bool true) (s11.getD 0 undef) fun t44 =>
  condW t44 (
    putW [(.string (ofL [])), (.string (ofL [])), (.string (ofL [])), (.int .i64 0), (.bool false), (.string (ofL [])), (.slice none 0 0), (.slice none 0 0), (.slice none 0 0)] [] fun c13 =>
    stW 9 t2 (.agg c13.toArray) w12 fun w14 =>
    ldW true 9 t2 w14 fun r15 =>
    K (.tuple #[r15, (.bool false)]) w14) (
    ixaW none 5 t13 (.int .i64 0) fun t47 =>
    fldW 2 t47 fun t48 =>
    ldW false 1 t48 w12.drew fun t49 =>
    ixaW none 5 t13 (.int .i64 1) fun t51 =>
    ldW true 5 t51 w12.drew fun t52 =>
    ixaW none 5 t13 (.int .i64 3) fun t54 =>
    fldW 2 t54 fun t55 =>
    ldW false 1 t55 w12.drew fun t56 =>
    ixaW none 5 t13 (.int .i64 4) fun t58 =>
    fldW 2 t58 fun t59 =>
    ldW false 1 t59 w12.drew fun t60 =>
    putW [(.string (ofL [])), (.string (ofL [])), (.string (ofL [])), (.int .i64 0), (.bool false), (.string (ofL [])), (.slice none 0 0), (.slice none 0 0), (.slice none 0 0)] [(0, 1, t49), (3, 5, t52), (2, 1, t56), (1, 1, t60)] fun c16 =>
    allocW 42 [(.string (ofL [])), (.string (ofL [])), (.string (ofL [])), (.int .i64 0), (.bool false), (.string (ofL [])), (.slice none 0 0), (.slice none 0 0), (.slice none 0 0)] w12.drew fun t6 w17 =>
    (ldW false 1 t59 w17 fun x => x = t60) ∧
    (ldW false 1 t55 w17 fun x => x = t56) ∧
    (ldW true 5 t51 w17 fun x => x = t52) ∧
    (ldW false 1 t48 w17 fun x => x = t49) ∧
    stW 9 t6 (.agg c16.toArray) w17 fun w18 =>
    ixaW none 5 t13 (.int .i64 2) fun t63 =>
    fldW 3 t63 fun t64 =>
    ldW false 1 t64 w18 fun t65 =>
    lenlW t65 fun t66 =>
    LoopW [(.int .i64 0)] w18 fun s19 _ w20 L19 =>
      binW .lss (s19.getD 0 undef) t66 fun t68 =>
      condW t68 (
        ixaW none 5 t65 (s19.getD 0 undef) fun t69 =>
        ldW true 5 t69 w20 fun t70 =>
        allocW 40 [(.int .i64 0), (.bool false), (.string (ofL [])), (.slice none 0 0), (.slice none 0 0)] w20 fun t8 w21 =>
        stW 5 t8 t70 w21 fun w22 =>
        fldW 0 t8 fun t71 =>
        ldW false 1 t71 w22 fun t72 =>
        binW .neq t72 (.int .i64 4) fun t73 =>
        condW t73 (
          putW [(.string (ofL [])), (.string (ofL [])), (.string (ofL [])), (.int .i64 0), (.bool false), (.string (ofL [])), (.slice none 0 0), (.slice none 0 0), (.slice none 0 0)] [] fun c23 =>
          stW 9 t2 (.agg c23.toArray) w22 fun w24 =>
          ldW true 9 t2 w24 fun r25 =>
          K (.tuple #[r25, (.bool false)]) w24) (
          fldW 8 t6 fun t75 =>
          ldW false 1 t75 w22 fun t76 =>
          fldW 2 t8 fun t77 =>
          ldW false 1 t77 w22 fun t78 =>
          bslW 9 1 [(.string (ofL []))] [(0, 1, t78)] w22 fun t79 w26 =>
          semE Tryz.prog (Builtin.append_ #[38, 38] 38 #[t76, t79]) w26 fun t80 w27 =>
          fldW 8 t6 fun t81 =>
          stW 1 t81 t80 w27 fun w28 =>
          binW .add (s19.getD 0 undef) (.int .i64 1) fun t82 =>
          L19 [t82] w28)) (
        ldW true 9 t6 w20 fun t83 =>
        stW 9 t2 t83 w20 fun w29 =>
        ldW true 9 t2 w29 fun r30 =>
        K (.tuple #[r30, (.bool true)]) w29))
theorem W30_eq (v0 : Value) (w : World) (K : Value → World → Prop) : funW Tryz.prog Tryz.f30 plan30 [v0] w K = W30 v0 w K := by kernel_rfl
theorem W30_chk : chkFun Tryz.prog Tryz.f30 plan30 1 = true := by kernel_rfl
theorem W30_ok {v0 : Value} {w : World} {K : Value → World → Prop} (h : W30 v0 w K) : callF Tryz.prog 30 [v0] w K :=
  tie Tryz.prog 30 Tryz.f30 plan30 [v0] w K 1 (W30 v0 w K) rfl mixed Tryz.func30 W30_chk (W30_eq v0 w K) Tryz.call30 h
def plan31 : Plan := { js := [(3007, ⟨[36], [], 32⟩), (3014, ⟨[29], [], 25⟩), (3021, ⟨[22], [], 18⟩), (3028, ⟨[15], [], 11⟩)], ds := [] }
def W31 (v0 v1 : Value) (w : World) (K : Value → World → Prop) : Prop :=
  boxW 42 v0 w fun t2 w1 =>
  boxW 42 v1 w1 fun t3 w2 =>
  fldW 0 t2 fun t5 =>
  ldW false 1 t5 w2 fun t6 =>
  fldW 0 t3 fun t7 =>
  ldW false 1 t7 w2 fun t8 =>
  binW .eql t6 t8 fun t9 =>
  GdW (isB t9 true) [undef] w2 (fun J3 =>
    fldW 1 t2 fun t11 =>
    ldW false 1 t11 w2 fun t12 =>
    fldW 1 t3 fun t13 =>
    ldW false 1 t13 w2 fun t14 =>
    binW .eql t12 t14 fun t15 =>
    J3 [t15] w2)
  fun s3 _ w4 =>
  pickW t9 (s3.getD 0 undef) (.bool false) fun t16 =>
  GdW (isB t16 true) [undef] w4 (fun J5 =>
    fldW 2 t2 fun t18 =>
    ldW false 1 t18 w4 fun t19 =>
    fldW 2 t3 fun t20 =>
    ldW false 1 t20 w4 fun t21 =>
    binW .eql t19 t21 fun t22 =>
    J5 [t22] w4)
  fun s5 _ w6 =>
  pickW t16 (s5.getD 0 undef) (.bool false) fun t23 =>
  GdW (isB t23 true) [undef] w6 (fun J7 =>
    fldW 3 t2 fun t25 =>
    ldW true 5 t25 w6 fun t26 =>
    fldW 3 t3 fun t27 =>
    ldW true 5 t27 w6 fun t28 =>
    callF Tryz.prog 63 [t26, t28] w6 fun t29 w8 =>
    J7 [t29] w8)
  fun s7 _ w9 =>
  pickW t23 (s7.getD 0 undef) (.bool false) fun t30 =>
  GdW (isB t30 true) [undef] w9 (fun J10 =>
    fldW 8 t2 fun t32 =>
    ldW false 1 t32 w9 fun t33 =>
    fldW 8 t3 fun t34 =>
    ldW false 1 t34 w9 fun t35 =>
    callF Tryz.prog 21 [t33, t35] w9 fun t36 w11 =>
    J10 [t36] w11)
  fun s10 _ w12 =>
  pickW t30 (s10.getD 0 undef) (.bool false) fun t37 =>
  K t37 w12
theorem W31_eq (v0 v1 : Value) (w : World) (K : Value → World → Prop) : funW Tryz.prog Tryz.f31 plan31 [v0, v1] w K = W31 v0 v1 w K := by kernel_rfl
theorem W31_chk : chkFun Tryz.prog Tryz.f31 plan31 2 = true := by kernel_rfl
theorem W31_ok {v0 v1 : Value} {w : World} {K : Value → World → Prop} (h : W31 v0 v1 w K) : callF Tryz.prog 31 [v0, v1] w K :=
  tie Tryz.prog 31 Tryz.f31 plan31 [v0, v1] w K 2 (W31 v0 v1 w K) rfl mixed Tryz.func31 W31_chk (W31_eq v0 v1 w K) Tryz.call31 h
def plan32 : Plan := { js := [(3005, ⟨[14], [], 12⟩), (3010, ⟨[9], [], 7⟩)], ds := [] }
def W32 (v0 : Value) (w : World) (K : Value → World → Prop) : Prop :=
  lensW v0 fun t4 =>
  binW .gtr t4 (.int .i64 0) fun t5 =>
  GdW (isB t5 true) [undef] w (fun J1 =>
    lensW v0 fun t8 =>
    binW .leq t8 (.int .i64 16384) fun t9 =>
    J1 [t9] w)
  fun s1 _ w2 =>
  pickW t5 (s1.getD 0 undef) (.bool false) fun t10 =>
  GdW (isB t10 true) [undef] w2 (fun J3 =>
    callF Tryz.prog 64 [v0] w2 fun t13 w4 =>
    binW .lss t13 (.int .i64 0) fun t14 =>
    J3 [t14] w4)
  fun s3 _ w5 =>
  pickW t10 (s3.getD 0 undef) (.bool false) fun t15 =>
  K t15 w5
theorem W32_eq (v0 : Value) (w : World) (K : Value → World → Prop) : funW Tryz.prog Tryz.f32 plan32 [v0] w K = W32 v0 w K := by kernel_rfl
theorem W32_chk : chkFun Tryz.prog Tryz.f32 plan32 1 = true := by kernel_rfl
theorem W32_ok {v0 : Value} {w : World} {K : Value → World → Prop} (h : W32 v0 w K) : callF Tryz.prog 32 [v0] w K :=
  tie Tryz.prog 32 Tryz.f32 plan32 [v0] w K 1 (W32 v0 w K) rfl mixed Tryz.func32 W32_chk (W32_eq v0 w K) Tryz.call32 h
def plan33 : Plan := { js := [(5004, ⟨[23], [], 22⟩), (5008, ⟨[19], [], 18⟩), (5012, ⟨[15], [], 14⟩)], ds := [] }
def W33 (v0 : Value) (w : World) (K : Value → World → Prop) : Prop :=
  boxW 40 v0 w fun t1 w1 =>
  ldW true 5 t1 w1 fun t6 =>
  callF Tryz.prog 65 [t6] w1 fun t7 w2 =>
  extW 0 t7 fun t8 =>
  extW 1 t7 fun t9 =>
  fldW 0 t1 fun t10 =>
  ldW false 1 t10 w2 fun t11 =>
  binW .eql t11 (.int .i64 6) fun t12 =>
  GdW (isB t12 true) [undef] w2 (fun J3 =>
    ldW true 5 t1 w2 fun t14 =>
    callF Tryz.prog 66 [t14] w2 fun t15 w4 =>
    J3 [t15] w4)
  fun s3 _ w5 =>
  pickW t12 (s3.getD 0 undef) (.bool false) fun t16 =>
  GdW (isB t16 true) [undef] w5 (fun J6 =>
    ldW true 5 t1 w5 fun t18 =>
    callF Tryz.prog 67 [t18] w5 fun t19 w7 =>
    J6 [t19] w7)
  fun s6 _ w8 =>
  pickW t16 (s6.getD 0 undef) (.bool false) fun t20 =>
  GdW (isB t20 true) [undef] w8 (fun J9 =>
    binW .neq t9 (.int .i64 31) fun t23 =>
    J9 [t23] w8)
  fun s9 _ w10 =>
  pickW t20 (s9.getD 0 undef) (.bool false) fun t24 =>
  K t24 w10
theorem W33_eq (v0 : Value) (w : World) (K : Value → World → Prop) : funW Tryz.prog Tryz.f33 plan33 [v0] w K = W33 v0 w K := by kernel_rfl
theorem W33_chk : chkFun Tryz.prog Tryz.f33 plan33 1 = true := by kernel_rfl
theorem W33_ok {v0 : Value} {w : World} {K : Value → World → Prop} (h : W33 v0 w K) : callF Tryz.prog 33 [v0] w K :=
  tie Tryz.prog 33 Tryz.f33 plan33 [v0] w K 1 (W33 v0 w K) rfl mixed Tryz.func33 W33_chk (W33_eq v0 w K) Tryz.call33 h
def plan46 : Plan := { js := [(3004, ⟨[12], [], 11⟩), (3009, ⟨[8], [], 6⟩)], ds := [] }
def W46 (v0 : Value) (w : World) (K : Value → World → Prop) : Prop :=
  binW .neq v0 (.string (ofL [])) fun t4 =>
  GdW (isB t4 true) [undef] w (fun J1 =>
    lensW v0 fun t7 =>
    binW .leq t7 (.int .i64 16384) fun t8 =>
    J1 [t8] w)
  fun s1 _ w2 =>
  pickW t4 (s1.getD 0 undef) (.bool false) fun t9 =>
  GdW (isB t9 true) [undef] w2 (fun J3 =>
    callF Tryz.prog 100 [v0] w2 fun t12 w4 =>
    J3 [t12] w4)
  fun s3 _ w5 =>
  pickW t9 (s3.getD 0 undef) (.bool false) fun t13 =>
  K t13 w5
theorem W46_eq (v0 : Value) (w : World) (K : Value → World → Prop) : funW Tryz.prog Tryz.f46 plan46 [v0] w K = W46 v0 w K := by kernel_rfl
theorem W46_chk : chkFun Tryz.prog Tryz.f46 plan46 1 = true := by kernel_rfl
theorem W46_ok {v0 : Value} {w : World} {K : Value → World → Prop} (h : W46 v0 w K) : callF Tryz.prog 46 [v0] w K :=
  tie Tryz.prog 46 Tryz.f46 plan46 [v0] w K 1 (W46 v0 w K) rfl mixed Tryz.func46 W46_chk (W46_eq v0 w K) Tryz.call46 h
def plan49 : Plan := { js := [(5006, ⟨[20], [], 17⟩), (5013, ⟨[14], [], 10⟩)], ds := [] }
def W49 (v0 : Value) (w : World) (K : Value → World → Prop) : Prop :=
  boxW 40 v0 w fun t1 w1 =>
  fldW 2 t1 fun t5 =>
  ldW false 1 t5 w1 fun t6 =>
  callV Tryz.prog (.func (.func 104) #[] #[]) [t6] w1 fun t7 w2 =>
  unW .not t7 fun t8 =>
  GdW (isB t8 true) [undef] w2 (fun J3 =>
    fldW 4 t1 fun t10 =>
    ldW false 1 t10 w2 fun t11 =>
    callF Tryz.prog 87 [t11, (.func (.func 104) #[] #[])] w2 fun t13 w4 =>
    unW .not t13 fun t14 =>
    J3 [t14] w4)
  fun s3 _ w5 =>
  pickW t8 (s3.getD 0 undef) (.bool false) fun t15 =>
  GdW (isB t15 true) [undef] w5 (fun J6 =>
    fldW 3 t1 fun t17 =>
    ldW false 1 t17 w5 fun t18 =>
    callF Tryz.prog 102 [t18, (.func (.func 105) #[] #[])] w5 fun t19 w7 =>
    unW .not t19 fun t20 =>
    J6 [t20] w7)
  fun s6 _ w8 =>
  pickW t15 (s6.getD 0 undef) (.bool false) fun t21 =>
  K t21 w8
theorem W49_eq (v0 : Value) (w : World) (K : Value → World → Prop) : funW Tryz.prog Tryz.f49 plan49 [v0] w K = W49 v0 w K := by kernel_rfl
theorem W49_chk : chkFun Tryz.prog Tryz.f49 plan49 1 = true := by kernel_rfl
theorem W49_ok {v0 : Value} {w : World} {K : Value → World → Prop} (h : W49 v0 w K) : callF Tryz.prog 49 [v0] w K :=
  tie Tryz.prog 49 Tryz.f49 plan49 [v0] w K 1 (W49 v0 w K) rfl mixed Tryz.func49 W49_chk (W49_eq v0 w K) Tryz.call49 h
def plan50 : Plan := { js := [(16, ⟨[20], [5, 7, 8, 9, 10], 20⟩)], ds := [(37, ⟨[0, 1, 2, 3, 4, 5], [[], [], [], [], [2, 3], [2, 3, 4], [2, 3, 4, 5], [0, 1, 2, 3, 4, 5, 6], [0, 1, 2, 3, 4, 5, 6, 7]]⟩)] }
def W50 (v0 v1 : Value) (w : World) (K : Value → World → Prop) : Prop :=
  allocW 40 [(.int .i64 0), (.bool false), (.string (ofL [])), (.slice none 0 0), (.slice none 0 0)] w fun t4 w1 =>
  lenlW v0 fun t12 =>
  lenlW v1 fun t14 =>
  binW .neq t12 t14 fun t15 =>
  condW t15 (
    putW [(.int .i64 0), (.bool false), (.string (ofL [])), (.slice none 0 0), (.slice none 0 0)] [] fun c2 =>
    stW 5 t4 (.agg c2.toArray) w1 fun w3 =>
    ldW true 5 t4 w3 fun r4 =>
    K (.tuple #[r4, (.int .i64 1)]) w3) (
    putW [(.int .i64 0), (.bool false), (.string (ofL [])), (.slice none 0 0), (.slice none 0 0)] [(0, 1, (.int .i64 6))] fun c5 =>
    allocW 40 [(.int .i64 0), (.bool false), (.string (ofL [])), (.slice none 0 0), (.slice none 0 0)] w1 fun t6 w6 =>
    stW 5 t6 (.agg c5.toArray) w6 fun w7 =>
    lenlW v0 fun t19 =>
    LoopW [(.int .i64 0)] w7 fun s8 _ w9 L8 =>
      binW .lss (s8.getD 0 undef) t19 fun t21 =>
      condW t21 (
        ixaW none 1 v0 (s8.getD 0 undef) fun t23 =>
        ldW false 1 t23 w9 fun t24 =>
        ldW true 5 t6 w9 fun t26 =>
        callF Tryz.prog 106 [t26, t24] w9 fun t28 w10 =>
        extW 0 t28 fun t29 =>
        extW 1 t28 fun t30 =>
        allocW 40 [(.int .i64 0), (.bool false), (.string (ofL [])), (.slice none 0 0), (.slice none 0 0)] w10 fun t9 w11 =>
        stW 5 t9 t29 w11 fun w12 =>
        condW t30 (
          putW [(.int .i64 0), (.bool false), (.string (ofL [])), (.slice none 0 0), (.slice none 0 0)] [] fun c13 =>
          stW 5 t4 (.agg c13.toArray) w12 fun w14 =>
          ldW true 5 t4 w14 fun r15 =>
          K (.tuple #[r15, (.int .i64 2)]) w14) (
          ldW true 5 t6 w12.drew fun t33 =>
          ixaW none 5 v1 (s8.getD 0 undef) fun t37 =>
          ldW true 5 t37 w12.drew fun t38 =>
          callF Tryz.prog 71 [t38] w12.drew fun t39 w16 =>
          (ldW true 5 t6 w16 fun x => x = t33) ∧
          callF Tryz.prog 107 [t33, t24, t39] w16 fun t40 w17 =>
          stW 5 t6 t40 w17 fun w18 =>
          binW .add (s8.getD 0 undef) (.int .i64 1) fun t41 =>
          L8 [t41] w18)) (
        ldW true 5 t6 w9 fun t42 =>
        stW 5 t4 t42 w9 fun w19 =>
        ldW true 5 t4 w19 fun r20 =>
        K (.tuple #[r20, (.int .i64 0)]) w19))
theorem W50_eq (v0 v1 : Value) (w : World) (K : Value → World → Prop) : funW Tryz.prog Tryz.f50 plan50 [v0, v1] w K = W50 v0 v1 w K := by kernel_rfl
theorem W50_chk : chkFun Tryz.prog Tryz.f50 plan50 2 = true := by kernel_rfl
theorem W50_ok {v0 v1 : Value} {w : World} {K : Value → World → Prop} (h : W50 v0 v1 w K) : callF Tryz.prog 50 [v0, v1] w K :=
  tie Tryz.prog 50 Tryz.f50 plan50 [v0, v1] w K 2 (W50 v0 v1 w K) rfl mixed Tryz.func50 W50_chk (W50_eq v0 v1 w K) Tryz.call50 h
def plan55 : Plan := { js := [], ds := [] }
def W55 (v0 : Value) (w : World) (K : Value → World → Prop) : Prop :=
  callF Tryz.prog 90 [v0] w fun t4 w1 =>
  K t4 w1
theorem W55_eq (v0 : Value) (w : World) (K : Value → World → Prop) : funW Tryz.prog Tryz.f55 plan55 [v0] w K = W55 v0 w K := by kernel_rfl
theorem W55_chk : chkFun Tryz.prog Tryz.f55 plan55 1 = true := by kernel_rfl
theorem W55_ok {v0 : Value} {w : World} {K : Value → World → Prop} (h : W55 v0 w K) : callF Tryz.prog 55 [v0] w K :=
  tie Tryz.prog 55 Tryz.f55 plan55 [v0] w K 1 (W55 v0 w K) rfl mixed Tryz.func55 W55_chk (W55_eq v0 w K) Tryz.call55 h
def plan104 : Plan := { js := [], ds := [] }
def W104 (v0 : Value) (w : World) (K : Value → World → Prop) : Prop :=
  callF Tryz.prog 100 [v0] w fun t4 w1 =>
  unW .not t4 fun t5 =>
  K t5 w1
theorem W104_eq (v0 : Value) (w : World) (K : Value → World → Prop) : funW Tryz.prog Tryz.f104 plan104 [v0] w K = W104 v0 w K := by kernel_rfl
theorem W104_chk : chkFun Tryz.prog Tryz.f104 plan104 1 = true := by kernel_rfl
theorem W104_ok {v0 : Value} {w : World} {K : Value → World → Prop} (h : W104 v0 w K) : callF Tryz.prog 104 [v0] w K :=
  tie Tryz.prog 104 Tryz.f104 plan104 [v0] w K 1 (W104 v0 w K) rfl mixed Tryz.func104 W104_chk (W104_eq v0 w K) Tryz.call104 h
def plan105 : Plan := { js := [], ds := [] }
def W105 (v0 : Value) (w : World) (K : Value → World → Prop) : Prop :=
  boxW 40 v0 w fun t1 w1 =>
  ldW true 5 t1 w1 fun t3 =>
  callF Tryz.prog 49 [t3] w1 fun t4 w2 =>
  unW .not t4 fun t5 =>
  K t5 w2
theorem W105_eq (v0 : Value) (w : World) (K : Value → World → Prop) : funW Tryz.prog Tryz.f105 plan105 [v0] w K = W105 v0 w K := by kernel_rfl
theorem W105_chk : chkFun Tryz.prog Tryz.f105 plan105 1 = true := by kernel_rfl
theorem W105_ok {v0 : Value} {w : World} {K : Value → World → Prop} (h : W105 v0 w K) : callF Tryz.prog 105 [v0] w K :=
  tie Tryz.prog 105 Tryz.f105 plan105 [v0] w K 1 (W105 v0 w K) rfl mixed Tryz.func105 W105_chk (W105_eq v0 w K) Tryz.call105 h
end Go.Proofs.YtnoepcndjljolaaGreatDoor
namespace Go.Proofs
open Go.RowKit Go.Lib Go.Shelf
abbrev BdT : TypeId := 93
set_option maxHeartbeats 1000000 in
set_option maxRecDepth 100000 in
theorem Tryz.check_used (b : Nat) (w : World) (h0 : w.cell? ⟨b, 0, none⟩ = some (.pointer (some ⟨b, 0, none⟩))) :
    Calls Tryz.prog 148 #[.pointer (some ⟨b, 0, none⟩)] w fun e w' => e = .returned (.tuple #[]) ∧ w' = w := by
  obtain ⟨j, hj, _⟩ := Option.map_eq_some_iff.1 (show (Tryz.prog.info? 93).map (·.size) = some 2 by kernel_rfl)
  go_enter Tryz.func148, Tryz.ntmps148
  go_wp2
  rw [Lib.run_neq_ptr_same w _ Tryz.underlying91 hj]
  go_wp2
  go_end0
  exact ⟨rfl, rfl⟩
set_option maxHeartbeats 1000000 in
set_option maxRecDepth 100000 in
theorem Tryz.check_fresh (b : Nat) (w : World) (h0 : w.cell? ⟨b, 0, none⟩ = some (.pointer none)) (hsh : w.shape? b = some (93, 2)) (hfz : w.frozen? ⟨b, 0, none⟩ = false) :
    Calls Tryz.prog 148 #[.pointer (some ⟨b, 0, none⟩)] w fun e w' => e = .returned (.tuple #[]) ∧ w' = w.setCell ⟨b, 0, none⟩ (.pointer (some ⟨b, 0, none⟩)) := by
  obtain ⟨j, hj, hjs⟩ := Option.map_eq_some_iff.1 (show (Tryz.prog.info? 93).map (·.size) = some 2 by kernel_rfl)
  go_enter Tryz.func148, Tryz.ntmps148
  go_wp2
  rw [Lib.run_to_unsafe w ⟨b, 0, none⟩ Tryz.underlying91 Tryz.underlying215 hj (by rw [hjs]; decide) hsh (Nat.zero_lt_succ 1)]
  simp only [Result.andThen]
  rw [Oper.upon_value]
  go_wp2
  rw [run_callFunc_extern Tryz.func195 (by kernel_rfl) (by kernel_rfl) (by kernel_rfl) (e := Extern.AbiNoEscape.same) (by kernel_rfl)]
  rw [Lib.run_noEscape]
  simp only [Result.andThen]
  rw [Oper.upon_value]
  go_wp2
  rw [Lib.run_from_unsafe w ⟨b, 0, none⟩ Tryz.underlying215 Tryz.underlying91 hj hsh (show liesAt Tryz.prog Tryz.prog.depth 93 (2 / Tryz.prog.cellsOf 93) 0 93 1 = true by kernel_rfl)]
  simp only [Result.andThen]
  rw [Oper.upon_value]
  go_wp2
  go_end0
  exact ⟨rfl, rfl⟩
end Go.Proofs
namespace Go.Proofs.YtnoepcndjljolaaGreatDoor
open Go Go.Eng
set_option maxRecDepth 100000
variable [HX]
def plan89 : Plan := { js := [], ds := [] }
def W89 (v0 v1 : Value) (w : World) (K : Value → World → Prop) : Prop :=
  callF Tryz.prog 148 [v0] w fun t7 w1 =>
  nilW v0 fun t10 =>
  fldW 1 t10 fun t11 =>
  ldW false 1 t11 w1 fun t12 =>
  semE Tryz.prog (Builtin.append_ #[27, 9] 27 #[t12, v1]) w1 fun t14 w2 =>
  nilW v0 fun t15 =>
  fldW 1 t15 fun t16 =>
  stW 1 t16 t14 w2 fun w3 =>
  lensW v1 fun t18 =>
  K (.tuple #[t18, .nilIface]) w3
theorem W89_eq (v0 v1 : Value) (w : World) (K : Value → World → Prop) : funW Tryz.prog Tryz.f89 plan89 [v0, v1] w K = W89 v0 v1 w K := by kernel_rfl
theorem W89_chk : chkFun Tryz.prog Tryz.f89 plan89 2 = true := by kernel_rfl
theorem W89_ok {v0 v1 : Value} {w : World} {K : Value → World → Prop} (h : W89 v0 v1 w K) : callF Tryz.prog 89 [v0, v1] w K :=
  tie Tryz.prog 89 Tryz.f89 plan89 [v0, v1] w K 2 (W89 v0 v1 w K) rfl mixed Tryz.func89 W89_chk (W89_eq v0 v1 w K) Tryz.call89 h
def plan91 : Plan := { js := [], ds := [] }
def W91 (v0 v1 : Value) (w : World) (K : Value → World → Prop) : Prop :=
  callF Tryz.prog 148 [v0] w fun t6 w1 =>
  nilW v0 fun t9 =>
  fldW 1 t9 fun t10 =>
  ldW false 1 t10 w1 fun t11 =>
  bslW 5 1 [(.int .u8 0)] [(0, 1, v1)] w1 fun t13 w2 =>
  semE Tryz.prog (Builtin.append_ #[27, 27] 27 #[t11, t13]) w2 fun t14 w3 =>
  nilW v0 fun t15 =>
  fldW 1 t15 fun t16 =>
  stW 1 t16 t14 w3 fun w4 =>
  K .nilIface w4
theorem W91_eq (v0 v1 : Value) (w : World) (K : Value → World → Prop) : funW Tryz.prog Tryz.f91 plan91 [v0, v1] w K = W91 v0 v1 w K := by kernel_rfl
theorem W91_chk : chkFun Tryz.prog Tryz.f91 plan91 2 = true := by kernel_rfl
theorem W91_ok {v0 v1 : Value} {w : World} {K : Value → World → Prop} (h : W91 v0 v1 w K) : callF Tryz.prog 91 [v0, v1] w K :=
  tie Tryz.prog 91 Tryz.f91 plan91 [v0, v1] w K 2 (W91 v0 v1 w K) rfl mixed Tryz.func91 W91_chk (W91_eq v0 v1 w K) Tryz.call91 h
def plan167 : Plan := { js := [], ds := [] }
def W167 (v0 v1 : Value) (w : World) (K : Value → World → Prop) : Prop :=
  callF Tryz.prog 148 [v0] w fun t8 w1 =>
  nilW v0 fun t10 =>
  fldW 1 t10 fun t11 =>
  ldW false 1 t11 w1 fun t12 =>
  lenlW t12 fun t13 =>
  nilW v0 fun t16 =>
  fldW 1 t16 fun t17 =>
  ldW false 1 t17 w1 fun t18 =>
  callF Tryz.prog 215 [t18, v1] w1 fun t20 w2 =>
  nilW v0 fun t21 =>
  fldW 1 t21 fun t22 =>
  stW 1 t22 t20 w2 fun w3 =>
  nilW v0 fun t24 =>
  fldW 1 t24 fun t25 =>
  ldW false 1 t25 w3 fun t26 =>
  lenlW t26 fun t27 =>
  binW .sub t27 t13 fun t29 =>
  K (.tuple #[t29, .nilIface]) w3
theorem W167_eq (v0 v1 : Value) (w : World) (K : Value → World → Prop) : funW Tryz.prog Tryz.f167 plan167 [v0, v1] w K = W167 v0 v1 w K := by kernel_rfl
theorem W167_chk : chkFun Tryz.prog Tryz.f167 plan167 2 = true := by kernel_rfl
theorem W167_ok {v0 v1 : Value} {w : World} {K : Value → World → Prop} (h : W167 v0 v1 w K) : callF Tryz.prog 167 [v0, v1] w K :=
  tie Tryz.prog 167 Tryz.f167 plan167 [v0, v1] w K 2 (W167 v0 v1 w K) rfl mixed Tryz.func167 W167_chk (W167_eq v0 v1 w K) Tryz.call167 h
def plan215 : Plan := { js := [], ds := [] }
def W215 (v0 v1 : Value) (w : World) (K : Value → World → Prop) : Prop :=
  cvtW .u32 v1 fun t6 =>
  binW .leq t6 (.int .u32 127) fun t7 =>
  condW t7 (
    cvtW .u8 v1 fun t10 =>
    bslW 5 1 [(.int .u8 0)] [(0, 1, t10)] w fun t11 w1 =>
    semE Tryz.prog (Builtin.append_ #[27, 27] 27 #[v0, t11]) w1 fun t12 w2 =>
    K t12 w2) (
    callF Tryz.prog 240 [v0, v1] w fun t15 w3 =>
    K t15 w3)
theorem W215_eq (v0 v1 : Value) (w : World) (K : Value → World → Prop) : funW Tryz.prog Tryz.f215 plan215 [v0, v1] w K = W215 v0 v1 w K := by kernel_rfl
theorem W215_chk : chkFun Tryz.prog Tryz.f215 plan215 2 = true := by kernel_rfl
theorem W215_ok {v0 v1 : Value} {w : World} {K : Value → World → Prop} (h : W215 v0 v1 w K) : callF Tryz.prog 215 [v0, v1] w K :=
  tie Tryz.prog 215 Tryz.f215 plan215 [v0, v1] w K 2 (W215 v0 v1 w K) rfl mixed Tryz.func215 W215_chk (W215_eq v0 v1 w K) Tryz.call215 h
def plan240 : Plan := { js := [(22004, ⟨[55], [], 54⟩), (11, ⟨[25], [], 6⟩), (16004, ⟨[32], [], 31⟩)], ds := [] }
def W240 (v0 v1 : Value) (w : World) (K : Value → World → Prop) : Prop :=
  cvtW .u32 v1 fun t7 =>
  binW .leq t7 (.int .u32 2047) fun t13 =>
  condW t13 (
    binW .shr v1 (.int .u64 6) fun t16 =>
    cvtW .u8 t16 fun t17 =>
    binW .or (.int .u8 192) t17 fun t18 =>
    cvtW .u8 v1 fun t20 =>
    binW .and t20 (.int .u8 63) fun t21 =>
    binW .or (.int .u8 128) t21 fun t22 =>
    bslW 5 2 [(.int .u8 0), (.int .u8 0)] [(0, 1, t18), (1, 1, t22)] w fun t23 w1 =>
    semE Tryz.prog (Builtin.append_ #[27, 27] 27 #[v0, t23]) w1 fun t24 w2 =>
    K t24 w2) (
    JoinW (fun J3 =>
      binW .lss t7 (.int .u32 55296) fun t27 =>
      condW t27 (
        J3 [t27] w) (
        binW .lss (.int .u32 57343) t7 fun t29 =>
        GdW (isB t29 true) [undef] w (fun J4 =>
          binW .leq t7 (.int .u32 65535) fun t32 =>
          J4 [t32] w)
        fun s4 _ w5 =>
        pickW t29 (s4.getD 0 undef) (.bool false) fun t33 =>
        J3 [t33] w5))
    fun s3 _ w6 =>
    condW (s3.getD 0 undef) (
      binW .shr v1 (.int .u64 12) fun t36 =>
      cvtW .u8 t36 fun t37 =>
      binW .or (.int .u8 224) t37 fun t38 =>
      binW .shr v1 (.int .u64 6) fun t40 =>
      cvtW .u8 t40 fun t41 =>
      binW .and t41 (.int .u8 63) fun t42 =>
      binW .or (.int .u8 128) t42 fun t43 =>
      cvtW .u8 v1 fun t45 =>
      binW .and t45 (.int .u8 63) fun t46 =>
      binW .or (.int .u8 128) t46 fun t47 =>
      bslW 5 3 [(.int .u8 0), (.int .u8 0), (.int .u8 0)] [(0, 1, t38), (1, 1, t43), (2, 1, t47)] w6 fun t48 w7 =>
      semE Tryz.prog (Builtin.append_ #[27, 27] 27 #[v0, t48]) w7 fun t49 w8 =>
      K t49 w8) (
      binW .gtr t7 (.int .u32 65535) fun t52 =>
      GdW (isB t52 true) [undef] w6 (fun J9 =>
        binW .leq t7 (.int .u32 1114111) fun t55 =>
        J9 [t55] w6)
      fun s9 _ w10 =>
      pickW t52 (s9.getD 0 undef) (.bool false) fun t56 =>
      condW t56 (
        binW .shr v1 (.int .u64 18) fun t59 =>
        cvtW .u8 t59 fun t60 =>
        binW .or (.int .u8 240) t60 fun t61 =>
        binW .shr v1 (.int .u64 12) fun t63 =>
        cvtW .u8 t63 fun t64 =>
        binW .and t64 (.int .u8 63) fun t65 =>
        binW .or (.int .u8 128) t65 fun t66 =>
        binW .shr v1 (.int .u64 6) fun t68 =>
        cvtW .u8 t68 fun t69 =>
        binW .and t69 (.int .u8 63) fun t70 =>
        binW .or (.int .u8 128) t70 fun t71 =>
        cvtW .u8 v1 fun t73 =>
        binW .and t73 (.int .u8 63) fun t74 =>
        binW .or (.int .u8 128) t74 fun t75 =>
        bslW 5 4 [(.int .u8 0), (.int .u8 0), (.int .u8 0), (.int .u8 0)] [(0, 1, t61), (1, 1, t66), (2, 1, t71), (3, 1, t75)] w10 fun t76 w11 =>
        semE Tryz.prog (Builtin.append_ #[27, 27] 27 #[v0, t76]) w11 fun t77 w12 =>
        K t77 w12) (
        bslW 5 3 [(.int .u8 0), (.int .u8 0), (.int .u8 0)] [(0, 1, (.int .u8 239)), (1, 1, (.int .u8 191)), (2, 1, (.int .u8 189))] w10 fun t9 w13 =>
        semE Tryz.prog (Builtin.append_ #[27, 27] 27 #[v0, t9]) w13 fun t10 w14 =>
        K t10 w14)))
theorem W240_eq (v0 v1 : Value) (w : World) (K : Value → World → Prop) : funW Tryz.prog Tryz.f240 plan240 [v0, v1] w K = W240 v0 v1 w K := by kernel_rfl
theorem W240_chk : chkFun Tryz.prog Tryz.f240 plan240 2 = true := by kernel_rfl
theorem W240_ok {v0 v1 : Value} {w : World} {K : Value → World → Prop} (h : W240 v0 v1 w K) : callF Tryz.prog 240 [v0, v1] w K :=
  tie Tryz.prog 240 Tryz.f240 plan240 [v0, v1] w K 2 (W240 v0 v1 w K) rfl mixed Tryz.func240 W240_chk (W240_eq v0 v1 w K) Tryz.call240 h
def plan166 : Plan := { js := [], ds := [] }
def W166 (v0 v1 : Value) (w : World) (K : Value → World → Prop) : Prop :=
  callF Tryz.prog 196 [v0, v1] w fun t7 w1 =>
  K t7 w1
theorem W166_eq (v0 v1 : Value) (w : World) (K : Value → World → Prop) : funW Tryz.prog Tryz.f166 plan166 [v0, v1] w K = W166 v0 v1 w K := by kernel_rfl
theorem W166_chk : chkFun Tryz.prog Tryz.f166 plan166 2 = true := by kernel_rfl
theorem W166_ok {v0 v1 : Value} {w : World} {K : Value → World → Prop} (h : W166 v0 v1 w K) : callF Tryz.prog 166 [v0, v1] w K :=
  tie Tryz.prog 166 Tryz.f166 plan166 [v0, v1] w K 2 (W166 v0 v1 w K) rfl mixed Tryz.func166 W166_chk (W166_eq v0 v1 w K) Tryz.call166 h
def plan196 : Plan := { js := [(18, ⟨[6], [], 6⟩), (8003, ⟨[16], [], 15⟩)], ds := [] }
def W196 (v0 v1 : Value) (w : World) (K : Value → World → Prop) : Prop :=
  binW .eql v1 (.int .i64 10) fun t11 =>
  condW t11 (
    binW .leq (.int .i64 0) v0 fun t13 =>
    GdW (isB t13 true) [undef] w (fun J1 =>
      binW .lss v0 (.int .i64 100) fun t16 =>
      J1 [t16] w)
    fun s1 _ w2 =>
    pickW t13 (s1.getD 0 undef) (.bool false) fun t17 =>
    condW t17 (
      callF Tryz.prog 227 [v0] w2 fun t19 w3 =>
      K t19 w3) (
      allocW 238 (List.replicate 24 (.int .u8 0)) w2 fun t5 w4 =>
      cvtW .u64 v0 fun t21 =>
      JoinW (fun J5 =>
        binW .lss v0 (.int .i64 0) fun t23 =>
        condW t23 (
          unW .neg t21 fun t25 =>
          J5 [t25] w4) (
          J5 [t21] w4))
      fun s5 _ w6 =>
      callF Tryz.prog 228 [(s5.getD 0 undef)] w6 fun t27 w7 =>
      binW .add (.int .i64 1) t27 fun t29 =>
      slaW 24 1 t5 (some (.int .i64 1)) (some t29) none fun t30 =>
      callF Tryz.prog 229 [t30, (s5.getD 0 undef)] w7 fun t32 w8 =>
      binW .lss v0 (.int .i64 0) fun t34 =>
      condW t34 (
        ixaW (some 24) 1 t5 (.int .i64 0) fun t35 =>
        stW 1 t35 (.int .u8 45) w8 fun w9 =>
        binW .add (.int .i64 1) t27 fun t37 =>
        slaW 24 1 t5 none (some t37) none fun t38 =>
        semQ Tryz.prog (convert 27 9 t38) w9 fun t39 =>
        K t39 w9) (
        binW .add (.int .i64 1) t27 fun t41 =>
        slaW 24 1 t5 (some (.int .i64 1)) (some t41) none fun t42 =>
        semQ Tryz.prog (convert 27 9 t42) w8 fun t43 =>
        K t43 w8))) (
    cvtW .u64 v0 fun t46 =>
    binW .lss v0 (.int .i64 0) fun t49 =>
    callF Tryz.prog 230 [(.slice none 0 0), t46, v1, t49, (.bool false)] w fun t50 w10 =>
    extW 0 t50 fun t51 =>
    extW 1 t50 fun t52 =>
    K t52 w10)
theorem W196_eq (v0 v1 : Value) (w : World) (K : Value → World → Prop) : funW Tryz.prog Tryz.f196 plan196 [v0, v1] w K = W196 v0 v1 w K := by kernel_rfl
theorem W196_chk : chkFun Tryz.prog Tryz.f196 plan196 2 = true := by kernel_rfl
theorem W196_ok {v0 v1 : Value} {w : World} {K : Value → World → Prop} (h : W196 v0 v1 w K) : callF Tryz.prog 196 [v0, v1] w K :=
  tie Tryz.prog 196 Tryz.f196 plan196 [v0, v1] w K 2 (W196 v0 v1 w K) rfl mixed Tryz.func196 W196_chk (W196_eq v0 v1 w K) Tryz.call196 h
def plan230 : Plan := { js := [(68, ⟨[13], [], 13⟩), (18, ⟨[13], [1], 13⟩), (50, ⟨[1, 13], [1, 13], 18⟩), (30, ⟨[1, 13], [1, 13], 17⟩), (12, ⟨[1], [1], 14⟩), (2, ⟨[], [], 12⟩), (4003, ⟨[27], [], 26⟩), (4007, ⟨[23], [], 22⟩)], ds := [] }
def W230 (v0 v1 v2 v3 v4 : Value) (w : World) (K : Value → World → Prop) : Prop :=
  JoinW (fun J1 =>
    binW .lss v2 (.int .i64 2) fun t20 =>
    GdW (isB t20 false) [undef] w (fun J2 =>
      binW .eql v2 (.int .i64 10) fun t23 =>
      J2 [t23] w)
    fun s2 _ w3 =>
    pickW t20 (.bool true) (s2.getD 0 undef) fun t24 =>
    GdW (isB t24 false) [undef] w3 (fun J4 =>
      binW .gtr v2 (.int .i64 36) fun t27 =>
      J4 [t27] w3)
    fun s4 _ w5 =>
    pickW t24 (.bool true) (s4.getD 0 undef) fun t28 =>
    condW t28 (
      pncW (.iface 9 (.string (ofL [115, 116, 114, 99, 111, 110, 118, 58, 32, 105, 108, 108, 101, 103, 97, 108, 32, 65, 112, 112, 101, 110, 100, 73, 110, 116, 47, 70, 111, 114, 109, 97, 116, 73, 110, 116, 32, 98, 97, 115, 101]))) w5) (
      J1 [] w5))
  fun s1 _ w6 =>
  allocW 251 (List.replicate 65 (.int .u8 0)) w6 fun t12 w7 =>
  JoinW (fun J8 =>
    condW v3 (
      unW .neg v1 fun t32 =>
      J8 [t32] w7) (
      J8 [v1] w7))
  fun s8 _ w9 =>
  JoinW (fun J10 =>
    callF Tryz.prog 248 [v2] w9 fun t34 w11 =>
    condW t34 (
      cvtW .u64 v2 fun t36 =>
      callF Tryz.prog 249 [t36] w11 fun t37 w12 =>
      cvtW .u64 t37 fun t38 =>
      cvtW .u64 v2 fun t40 =>
      cvtW .u64 v2 fun t42 =>
      binW .sub t42 (.int .u64 1) fun t43 =>
      LoopW [(s8.getD 0 undef), (.int .i64 65)] w12 fun s13 _ w14 L13 =>
        binW .geq (s13.getD 0 undef) t40 fun t46 =>
        condW t46 (
          binW .sub (s13.getD 1 undef) (.int .i64 1) fun t48 =>
          binW .and (s13.getD 0 undef) t43 fun t52 =>
          ixsW (.string (ofL [48, 49, 50, 51, 52, 53, 54, 55, 56, 57, 97, 98, 99, 100, 101, 102, 103, 104, 105, 106, 107, 108, 109, 110, 111, 112, 113, 114, 115, 116, 117, 118, 119, 120, 121, 122])) t52 fun t53 =>
          ixaW (some 65) 1 t12 t48 fun t54 =>
          stW 1 t54 t53 w14 fun w15 =>
          binW .shr (s13.getD 0 undef) t38 fun t57 =>
          L13 [t57, t48] w15) (
          binW .sub (s13.getD 1 undef) (.int .i64 1) fun t59 =>
          ixsW (.string (ofL [48, 49, 50, 51, 52, 53, 54, 55, 56, 57, 97, 98, 99, 100, 101, 102, 103, 104, 105, 106, 107, 108, 109, 110, 111, 112, 113, 114, 115, 116, 117, 118, 119, 120, 121, 122])) (s13.getD 0 undef) fun t62 =>
          ixaW (some 65) 1 t12 t59 fun t63 =>
          stW 1 t63 t62 w14 fun w16 =>
          J10 [t59] w16)) (
      cvtW .u64 v2 fun t65 =>
      LoopW [(s8.getD 0 undef), (.int .i64 65)] w11 fun s17 _ w18 L17 =>
        binW .geq (s17.getD 0 undef) t65 fun t68 =>
        condW t68 (
          binW .sub (s17.getD 1 undef) (.int .i64 1) fun t70 =>
          binW .quo (s17.getD 0 undef) t65 fun t73 =>
          binW .mul t73 t65 fun t78 =>
          binW .sub (s17.getD 0 undef) t78 fun t79 =>
          ixsW (.string (ofL [48, 49, 50, 51, 52, 53, 54, 55, 56, 57, 97, 98, 99, 100, 101, 102, 103, 104, 105, 106, 107, 108, 109, 110, 111, 112, 113, 114, 115, 116, 117, 118, 119, 120, 121, 122])) t79 fun t80 =>
          ixaW (some 65) 1 t12 t70 fun t81 =>
          stW 1 t81 t80 w18 fun w19 =>
          L17 [t73, t70] w19) (
          binW .sub (s17.getD 1 undef) (.int .i64 1) fun t84 =>
          ixsW (.string (ofL [48, 49, 50, 51, 52, 53, 54, 55, 56, 57, 97, 98, 99, 100, 101, 102, 103, 104, 105, 106, 107, 108, 109, 110, 111, 112, 113, 114, 115, 116, 117, 118, 119, 120, 121, 122])) (s17.getD 0 undef) fun t87 =>
          ixaW (some 65) 1 t12 t84 fun t88 =>
          stW 1 t88 t87 w18 fun w20 =>
          J10 [t84] w20)))
  fun s10 _ w21 =>
  JoinW (fun J22 =>
    condW v3 (
      binW .sub (s10.getD 0 undef) (.int .i64 1) fun t91 =>
      ixaW (some 65) 1 t12 t91 fun t93 =>
      stW 1 t93 (.int .u8 45) w21 fun w23 =>
      J22 [t91] w23) (
      J22 [(s10.getD 0 undef)] w21))
  fun s22 _ w24 =>
  condW v4 (
    slaW 65 1 t12 (some (s22.getD 0 undef)) none none fun t97 =>
    semE Tryz.prog (Builtin.append_ #[27, 27] 27 #[v0, t97]) w24 fun t98 w25 =>
    K (.tuple #[t98, (.string (ofL []))]) w25) (
    slaW 65 1 t12 (some (s22.getD 0 undef)) none none fun t100 =>
    semQ Tryz.prog (convert 27 9 t100) w24 fun t101 =>
    K (.tuple #[(.slice none 0 0), t101]) w24)
theorem W230_eq (v0 v1 v2 v3 v4 : Value) (w : World) (K : Value → World → Prop) : funW Tryz.prog Tryz.f230 plan230 [v0, v1, v2, v3, v4] w K = W230 v0 v1 v2 v3 v4 w K := by kernel_rfl
theorem W230_chk : chkFun Tryz.prog Tryz.f230 plan230 5 = true := by kernel_rfl
theorem W230_ok {v0 v1 v2 v3 v4 : Value} {w : World} {K : Value → World → Prop} (h : W230 v0 v1 v2 v3 v4 w K) : callF Tryz.prog 230 [v0, v1, v2, v3, v4] w K :=
  tie Tryz.prog 230 Tryz.f230 plan230 [v0, v1, v2, v3, v4] w K 5 (W230 v0 v1 v2 v3 v4 w K) rfl mixed Tryz.func230 W230_chk (W230_eq v0 v1 v2 v3 v4 w K) Tryz.call230 h
def plan248 : Plan := { js := [], ds := [] }
def W248 (v0 : Value) (w : World) (K : Value → World → Prop) : Prop :=
  binW .sub v0 (.int .i64 1) fun t5 =>
  binW .and v0 t5 fun t6 =>
  binW .eql t6 (.int .i64 0) fun t7 =>
  K t7 w
theorem W248_eq (v0 : Value) (w : World) (K : Value → World → Prop) : funW Tryz.prog Tryz.f248 plan248 [v0] w K = W248 v0 w K := by kernel_rfl
theorem W248_chk : chkFun Tryz.prog Tryz.f248 plan248 1 = true := by kernel_rfl
theorem W248_ok {v0 : Value} {w : World} {K : Value → World → Prop} (h : W248 v0 w K) : callF Tryz.prog 248 [v0] w K :=
  tie Tryz.prog 248 Tryz.f248 plan248 [v0] w K 1 (W248 v0 w K) rfl mixed Tryz.func248 W248_chk (W248_eq v0 w K) Tryz.call248 h
end Go.Proofs.YtnoepcndjljolaaGreatDoor
namespace Go.Proofs.YtnoepcndjljolaaGreatDoor
open Go Go.Eng Go.RowKit
set_option maxRecDepth 100000
abbrev BdT : TypeId := 93
theorem elem_u8 : ElemT Tryz.prog 27 U8 1 1 := ⟨by kernel_rfl, by kernel_rfl, by decide⟩
def Bld (w : World) (B b : Nat) (l : Str) : Prop :=
  ∃ p v, w.heap[b]? = some (.cells [p, v].toArray BdT (0, 0)) ∧ (p = .pointer none ∨ p = .pointer (some ⟨b, 0, none⟩)) ∧ Own w B U8 1 v l.length (u8s l) ∧ B ≤ b
def BCh (w : World) (B b : Nat) (k : Nat) : Prop := k = b ∨ OwnS w B U8 k
theorem Bld.chg {S : Nat → Prop} {w w' : World} {B b : Nat} {l : Str} (h : Bld w B b l) (hc : Chg S w w') (hb : ¬ S b) (hS : ∀ k, OwnS w B U8 k → ¬ S k) : Bld w' B b l := by
  obtain ⟨p, v, h1, h2, h3, h4⟩ := h
  exact ⟨p, v, hc.at h1 hb, h2, h3.chg hc hS, h4⟩
theorem Bld.ext {w w' : World} {B b : Nat} {l : Str} (h : Bld w B b l) (hc : Ext w w') : Bld w' B b l := h.chg hc (fun e => e) fun _ _ e => e
theorem Bld.lt {w : World} {B b : Nat} {l : Str} (h : Bld w B b l) : b < w.heap.size := by
  obtain ⟨p, v, h1, _⟩ := h
  exact at_lt h1
theorem Bld.base {w : World} {B b : Nat} {l : Str} (h : Bld w B b l) : B ≤ b := by obtain ⟨p, v, _, _, _, h4⟩ := h; exact h4
theorem bd_ne {w : World} {B b : Nat} {p v : Value} (h1 : w.heap[b]? = some (.cells [p, v].toArray BdT (0, 0))) : ¬ OwnS w B U8 b := by
  rintro ⟨_, c, hc⟩
  rw [h1] at hc
  simp only [Option.some.injEq, Obj.cells.injEq] at hc
  exact absurd hc.2.1 (by decide)
theorem BCh.trans {w w1 w2 : World} {B b : Nat} (h1 : Chg (BCh w B b) w w1) (h2 : Chg (BCh w1 B b) w1 w2) : Chg (BCh w B b) w w2 := by
  refine ⟨h2.os.trans h1.os, h2.tape.trans h1.tape, h2.output.trans h1.output, Nat.le_trans h1.size h2.size, fun k hk hn => ?_⟩
  have e1 := h1.heap k hk hn
  rw [← e1]
  refine h2.heap k (Nat.lt_of_lt_of_le hk h1.size) fun e => hn ?_
  rcases e with e | ⟨e2, c, e3⟩
  · exact .inl e
  · exact .inr ⟨e2, c, by rw [← e1]; exact e3⟩
theorem BCh.ext {w w1 w2 : World} {B b : Nat} (h1 : Chg (BCh w B b) w w1) (h2 : Ext w1 w2) : Chg (BCh w B b) w w2 := h1.then h2 fun _ _ e => e.elim
theorem BCh.from {w w1 w2 : World} {B b : Nat} (h1 : Ext w w1) (h2 : Chg (BCh w1 B b) w1 w2) : Chg (BCh w B b) w w2 := BCh.trans (Chg.of_ext h1) h2
theorem BCh.new {w0 w w' : World} {B b : Nat} (h0 : Ext w0 w) (hB : w0.heap.size ≤ B) (hb : B ≤ b) (h : Chg (BCh w B b) w w') : Ext w0 w' :=
  h0.then h fun k hk e => by
    rcases e with rfl | ⟨e, _⟩
    · omega
    · omega
theorem BCh.keep {w w' : World} {B b k : Nat} {c : Array Value} {T : TypeId} {fr : Nat × Nat} (h : Chg (BCh w B b) w w') (hk : w.heap[k]? = some (.cells c T fr)) (hb : k ≠ b) (hT : T ≠ U8) : w'.heap[k]? = some (.cells c T fr) :=
  h.at hk fun e => by
    rcases e with e | ⟨_, c', e⟩
    · exact hb e
    · rw [hk] at e
      simp only [Option.some.injEq, Obj.cells.injEq] at e
      exact hT e.2.1
theorem BCh.iter {w w' : World} {B b k p : Nat} {s : ByteArray} (h : Chg (BCh w B b) w w') (hk : w.heap[k]? = some (.stringIter s p)) (hb : k ≠ b) : w'.heap[k]? = some (.stringIter s p) :=
  h.at hk fun e => by
    rcases e with e | ⟨_, c', e⟩
    · exact hb e
    · rw [hk] at e; cases e
section
variable [HX]
theorem bnew {w : World} {B : Nat} {K : Value → World → Prop} (hB : B ≤ w.heap.size) (hK : ∀ b w', b = w.heap.size → Bld w' B b [] → Ext w w' → K (.pointer (some ⟨b, 0, none⟩)) w') : allocW BdT [.pointer none, .slice none 0 0] w K :=
  alloc_new fun a w' ha hz hb hx => hK a w' ha ⟨_, _, hb, .inl rfl, ⟨by simp [u8s], .inl ⟨rfl, rfl⟩⟩, by omega⟩ hx
theorem check_p {w : World} {B b : Nat} {l : Str} {K : Value → World → Prop} (h : Bld w B b l)
    (hK : ∀ v w', w'.heap[b]? = some (.cells [.pointer (some ⟨b, 0, none⟩), v].toArray BdT (0, 0)) → Own w' B U8 1 v l.length (u8s l) → w'.heap.size = w.heap.size → Chg (BCh w B b) w w' → K (.tuple #[]) w') :
    callF Tryz.prog 148 [.pointer (some ⟨b, 0, none⟩)] w K := by
  obtain ⟨p, v, h1, h2, h3, h4⟩ := h
  have c0 : w.cell? ⟨b, 0, none⟩ = some p := by rw [cell_eq, h1]; rfl
  rcases h2 with rfl | rfl
  · refine of_calls (args := #[.pointer (some ⟨b, 0, none⟩)]) Tryz.call148 ((Tryz.check_fresh b w c0 (by simp [World.shape?, h1]) (by rw [frozen_eq, h1]; rfl)).mono ?_)
    rintro e w' ⟨rfl, rfl⟩
    refine ⟨_, rfl, hK v _ ?_ ?_ (size_set _ _ _) (Chg.set (Chg.refl _ _) (.inl (.inl rfl)) _)⟩
    · rw [heap_set_same, h1]; rfl
    · refine h3.chg (Chg.set (S := fun k => k = b) (Chg.refl _ _) (.inl rfl) _) fun k hk e => ?_
      subst e
      exact bd_ne h1 hk
  · refine of_calls (args := #[.pointer (some ⟨b, 0, none⟩)]) Tryz.call148 ((Tryz.check_used b w c0).mono ?_)
    rintro e w' ⟨rfl, rfl⟩
    exact ⟨_, rfl, hK v _ h1 h3 rfl (Chg.refl _ _)⟩
theorem bstore {w w3 : World} {B b n : Nat} {l l' : Str} {v v' : Value} {K : World → Prop} (h1 : w.heap[b]? = some (.cells [.pointer (some ⟨b, 0, none⟩), v].toArray BdT (0, 0))) (hO : Own w B U8 1 v l.length (u8s l)) (hb : B ≤ b)
    (hc : Chg (fun k => v.ownBlock = some k) w w3) (hO' : Own w3 B U8 1 v' l'.length (u8s l')) (hK : ∀ w', Bld w' B b l' → Chg (BCh w B b) w w' → w'.heap.size = w3.heap.size → K w') :
    stW 1 (.pointer (some ⟨b, 1, none⟩)) v' w3 K := by
  have hne : ¬ v.ownBlock = some b := fun e => bd_ne h1 (hO.block b e)
  have h3 := hc.at h1 hne
  have hsh : one1 v' = true := by obtain ⟨p, c, rfl, _⟩ := hO'.sl.shape; rfl
  refine st_at h3 hsh (by simp) fun w4 hz hb4 hc4 => ?_
  refine hK w4 ⟨.pointer (some ⟨b, 0, none⟩), v', by rw [hb4]; simp, .inr rfl, hO'.chg hc4 fun k hk e => by subst e; exact bd_ne h3 hk, hb⟩ ?_ hz
  have s1 : Chg (BCh w B b) w w3 := hc.mono fun k _ e => .inr (hO.block k e)
  exact s1.then hc4 fun k _ e => .inl e
theorem wstr_p {w : World} {B b : Nat} {l s : Str} {K : Value → World → Prop} (h : Bld w B b l) (hB : B ≤ w.heap.size) (hl : l.length + s.length ≤ 140737488355328)
    (hK : ∀ v w', Bld w' B b (l ++ s) → Chg (BCh w B b) w w' → K v w') : callF Tryz.prog 89 [.pointer (some ⟨b, 0, none⟩), str s] w K := by
  have hb := h.base
  refine W89_ok ?_
  unfold W89
  refine check_p h fun v w1 h1 hO hz hc => ?_
  rw [nil_ptr, fld_ptr, ld_one]
  refine ⟨v, by rw [add_mk, cell_eq, h1]; rfl, ?_⟩
  obtain ⟨i, z, hi, hzr, h2, h3, h4⟩ := elem_u8.get
  have hz0 : i.zero = some (.int .u8 0) := by
    have : (Tryz.prog.info? U8).map (·.zero) = some (some (.int .u8 0)) := by kernel_rfl
    rw [hi] at this; simpa using this
  obtain ⟨v', w3, hr, hO', hg, _⟩ := Lib.run_append_own_string (P := Tryz.prog) w1 B 27 9 27 U8 i elem_u8.und (by kernel_rfl) hi hz0 h2 h3 v l.length (u8s l) hO (ofL s) (by rw [ofL_size]; unfold maxLen; omega) (by rw [ofL_size]; omega) (by omega)
  unfold semE
  rw [hr]
  dsimp only
  rw [nil_ptr, fld_ptr]
  have hO2 : Own w3 B U8 1 v' (l ++ s).length (u8s (l ++ s)) := by
    rw [u8s_app, List.length_append]
    have e1 : Lib.strCells (ofL s) = u8s s := by unfold Lib.strCells u8s; rw [ofL_data]
    rw [ofL_size, e1] at hO'
    exact hO'
  refine bstore (n := 0) h1 hO hb (Chg.of_grown hg fun k e => e) hO2 fun w4 hb4 hc4 _ => ?_
  rw [lens_str]
  exact hK _ w4 hb4 (BCh.trans hc hc4)
theorem row_u8 {w : World} {n : Nat} {K : Value → World → Prop} (hK : ∀ t w', SlAt w' U8 t 1 [.int .u8 (n : Int)] → Ext w w' → K t w') : bslW U8 1 [(.int .u8 0)] [(0, 1, .int .u8 (n : Int))] w K := by
  rw [bslW]
  simp only [put_int, put_nil, List.length_cons, List.length_nil, List.set_cons_zero]
  refine ⟨by omega, ?_⟩
  refine hK _ _ ⟨_, _, rfl, Nat.le_refl _, fun e => (by cases e), fun _ => ⟨_, _, _, _, rfl, heap_anew _ _ _ rfl, fun i _ => by rw [Nat.zero_add]; simp⟩⟩ (Chg.alloc (Chg.refl _ _) _)
theorem wbyte_p {w : World} {B b n : Nat} {l : Str} {K : Value → World → Prop} (h : Bld w B b l) (hB : B ≤ w.heap.size) (hl : l.length + 1 ≤ 140737488355328) (hn : n < 256)
    (hK : ∀ w', Bld w' B b (l ++ [UInt8.ofNat n]) → Chg (BCh w B b) w w' → K .nilIface w') : callF Tryz.prog 91 [.pointer (some ⟨b, 0, none⟩), .int .u8 (n : Int)] w K := by
  have hb := h.base
  refine W91_ok ?_
  unfold W91
  refine check_p h fun v w1 h1 hO hz hc => ?_
  rw [nil_ptr, fld_ptr, ld_one]
  refine ⟨v, by rw [add_mk, cell_eq, h1]; rfl, ?_⟩
  refine row_u8 fun t w2 ht hx2 => ?_
  refine append_own2 elem_u8 (hO.ext hx2) ht (m := 1) rfl (fun u hu => by simp only [List.mem_singleton] at hu; subst hu; rfl) (by omega) (by omega) (by have := hx2.size; omega) fun v' w3 hO3 hc3 _ => ?_
  rw [nil_ptr, fld_ptr]
  have hO2 : Own w3 B U8 1 v' (l ++ [UInt8.ofNat n]).length (u8s (l ++ [UInt8.ofNat n])) := by
    rw [u8s_app, List.length_append]
    have e1 : u8s [UInt8.ofNat n] = [.int .u8 (n : Int)] := by
      simp only [u8s, List.map_cons, List.map_nil, UInt8.toNat_ofNat']
      rw [Nat.mod_eq_of_lt (by omega)]
    rw [e1]
    exact hO3
  refine bstore (n := 0) (hx2.at h1 id) (hO.ext hx2) hb hc3 hO2 fun w4 hb4 hc4 _ => ?_
  exact hK w4 hb4 (BCh.trans hc (BCh.from hx2 hc4))
end
end Go.Proofs.YtnoepcndjljolaaGreatDoor
namespace Go.Proofs.YtnoepcndjljolaaGreatDoor
open Go Go.Eng Go.RowKit
set_option maxRecDepth 100000
abbrev u8 (n : Nat) : Value := .int .u8 (n : Int)
theorem or192 : ∀ x : Fin 32, IntKind.u8.wrap (BitVec.ofInt IntKind.u8.bits 192 ||| BitVec.ofInt IntKind.u8.bits ((x.val : Nat) : Int)).toNat = ((192 + x.val : Nat) : Int) := by decide +kernel
theorem or224 : ∀ x : Fin 16, IntKind.u8.wrap (BitVec.ofInt IntKind.u8.bits 224 ||| BitVec.ofInt IntKind.u8.bits ((x.val : Nat) : Int)).toNat = ((224 + x.val : Nat) : Int) := by decide +kernel
theorem or240 : ∀ x : Fin 8, IntKind.u8.wrap (BitVec.ofInt IntKind.u8.bits 240 ||| BitVec.ofInt IntKind.u8.bits ((x.val : Nat) : Int)).toNat = ((240 + x.val : Nat) : Int) := by decide +kernel
theorem or128 : ∀ x : Fin 64, IntKind.u8.wrap (BitVec.ofInt IntKind.u8.bits 128 ||| BitVec.ofInt IntKind.u8.bits ((x.val : Nat) : Int)).toNat = ((128 + x.val : Nat) : Int) := by decide +kernel
theorem and63 : ∀ x : Fin 256, IntKind.u8.wrap (BitVec.ofInt IntKind.u8.bits ((x.val : Nat) : Int) &&& BitVec.ofInt IntKind.u8.bits 63).toNat = ((x.val % 64 : Nat) : Int) := by decide +kernel
theorem u8_wrap (n : Nat) : IntKind.u8.wrap (n : Int) = ((n % 256 : Nat) : Int) := by
  simp only [IntKind.wrap, IntKind.bits, IntKind.signed, Bool.false_and]
  rw [show (2 : Int) ^ 8 = 256 by decide]
  simp
theorem u32_wrap {n : Nat} (h : n < 4294967296) : IntKind.u32.wrap (n : Int) = (n : Int) := by
  simp only [IntKind.wrap, IntKind.bits, IntKind.signed, Bool.false_and]
  rw [show (2 : Int) ^ 32 = 4294967296 by decide]
  simp only [Bool.false_eq_true, if_false]
  omega
theorem shr_n (r k : Nat) (hk : k ≤ 32) (K : Value → Prop) : binW .shr (.int .i32 (r : Int)) (.int .u64 (k : Int)) K ↔ K (.int .i32 ((r / 2 ^ k : Nat) : Int)) := by
  have e : (r : Int).fdiv (2 ^ min (k : Int).toNat IntKind.i32.bits) = ((r / 2 ^ k : Nat) : Int) := by
    rw [Int.toNat_natCast, show min k IntKind.i32.bits = k from Nat.min_eq_left hk, Int.fdiv_eq_ediv_of_nonneg _ (by exact Int.le_of_lt (Int.pow_pos (by decide)))]
    rw [Int.natCast_ediv, Int.natCast_pow]; rfl
  simp only [binW]
  rw [e]
  constructor
  · exact fun h => h.2
  · exact fun h => ⟨by omega, h⟩
theorem tail_n (x : Nat) (K : Value → Prop) : (cvtW .u8 (.int .i32 (x : Int)) fun t => binW .and t (.int .u8 63) fun t => binW .or (.int .u8 128) t K) ↔ K (u8 (128 + x % 64)) := by
  rw [cvt_int, u8_wrap, bin_and, and63 ⟨x % 256, by omega⟩, bin_or, or128 ⟨x % 256 % 64, by omega⟩]
  simp only
  rw [show x % 256 % 64 = x % 64 by omega]
theorem row2 {w : World} {a b : Nat} {K : Value → World → Prop} (hK : ∀ t w', SlAt w' U8 t 2 [u8 a, u8 b] → Ext w w' → K t w') : bslW U8 2 [(.int .u8 0), (.int .u8 0)] [(0, 1, u8 a), (1, 1, u8 b)] w K := by
  rw [bslW]
  simp only [put_int, put_nil, List.length_cons, List.length_nil, List.set_cons_zero, List.set_cons_succ]
  refine ⟨by omega, by omega, ?_⟩
  refine hK _ _ ⟨_, _, rfl, Nat.le_refl _, fun e => (by cases e), fun _ => ⟨_, _, _, _, rfl, heap_anew _ _ _ rfl, fun i _ => by rw [Nat.zero_add]; simp⟩⟩ (Chg.alloc (Chg.refl _ _) _)
theorem row3 {w : World} {a b c : Nat} {K : Value → World → Prop} (hK : ∀ t w', SlAt w' U8 t 3 [u8 a, u8 b, u8 c] → Ext w w' → K t w') : bslW U8 3 [(.int .u8 0), (.int .u8 0), (.int .u8 0)] [(0, 1, u8 a), (1, 1, u8 b), (2, 1, u8 c)] w K := by
  rw [bslW]
  simp only [put_int, put_nil, List.length_cons, List.length_nil, List.set_cons_zero, List.set_cons_succ]
  refine ⟨by omega, by omega, by omega, ?_⟩
  refine hK _ _ ⟨_, _, rfl, Nat.le_refl _, fun e => (by cases e), fun _ => ⟨_, _, _, _, rfl, heap_anew _ _ _ rfl, fun i _ => by rw [Nat.zero_add]; simp⟩⟩ (Chg.alloc (Chg.refl _ _) _)
theorem row4 {w : World} {a b c d : Nat} {K : Value → World → Prop} (hK : ∀ t w', SlAt w' U8 t 4 [u8 a, u8 b, u8 c, u8 d] → Ext w w' → K t w') : bslW U8 4 [(.int .u8 0), (.int .u8 0), (.int .u8 0), (.int .u8 0)] [(0, 1, u8 a), (1, 1, u8 b), (2, 1, u8 c), (3, 1, u8 d)] w K := by
  rw [bslW]
  simp only [put_int, put_nil, List.length_cons, List.length_nil, List.set_cons_zero, List.set_cons_succ]
  refine ⟨by omega, by omega, by omega, by omega, ?_⟩
  refine hK _ _ ⟨_, _, rfl, Nat.le_refl _, fun e => (by cases e), fun _ => ⟨_, _, _, _, rfl, heap_anew _ _ _ rfl, fun i _ => by rw [Nat.zero_add]; simp⟩⟩ (Chg.alloc (Chg.refl _ _) _)
theorem u8s_nat (l : List Nat) (h : ∀ x ∈ l, x < 256) : u8s (l.map b8) = l.map u8 := by
  unfold u8s
  rw [List.map_map]
  apply List.map_congr_left
  intro x hx
  have := h x hx
  simp only [Function.comp, b8, UInt8.toNat_ofNat', u8]
  rw [Nat.mod_eq_of_lt (by omega)]
section
variable [HX]
theorem arune_p {w : World} {B r : Nat} {l : Str} {v : Value} {K : Value → World → Prop} (hO : Own w B U8 1 v l.length (u8s l)) (hB : B ≤ w.heap.size) (hl : l.length + 4 ≤ 140737488355328) (hr : r < 55296 ∨ 57343 < r ∧ r ≤ 1114111)
    (hK : ∀ v' w', Own w' B U8 1 v' (l ++ wrM r).length (u8s (l ++ wrM r)) → (∀ k, ¬ OwnS w B U8 k → k < w.heap.size → w'.heap[k]? = w.heap[k]?) → Chg (fun k => v.ownBlock = some k) w w' → K v' w') :
    callF Tryz.prog 215 [v, .int .i32 (r : Int)] w K := by
  have fin : ∀ (bs : List Nat) (t : Value) (w1 : World), wrM r = bs.map b8 → (∀ x ∈ bs, x < 256) → bs.length ≤ 4 → SlAt w1 U8 t bs.length (bs.map u8) → Ext w w1 → semE Tryz.prog (Builtin.append_ #[27, 27] 27 #[v, t]) w1 K := by
    intro bs t w1 he hlt hlen ht hx
    refine append_own2 elem_u8 (hO.ext hx) ht (m := bs.length) (by simp) (fun u hu => by simp only [List.mem_map] at hu; obtain ⟨x, _, rfl⟩ := hu; rfl) (by omega) (by omega) (by have := hx.size; omega) fun v' w3 hO3 hc3 _ => ?_
    have hc : Chg (fun k => v.ownBlock = some k) w w3 := (Chg.of_ext hx).trans hc3
    refine hK v' w3 ?_ (fun k hk hlt => hc.heap k hlt fun e => hk (hO.block k e)) hc
    rw [u8s_app, he, u8s_nat bs hlt, List.length_append, List.length_map]
    exact hO3
  refine W215_ok ?_
  unfold W215
  rw [cvt_int, u32_wrap (by omega), bin_leq, condW_dec]
  refine ⟨fun h => ?_, fun h => ?_⟩
  · rw [cvt_int, u8_wrap, Nat.mod_eq_of_lt (by omega)]
    refine row_u8 fun t w1 ht hx => ?_
    refine fin [r] t w1 ?_ (fun x hx => by simp only [List.mem_singleton] at hx; omega) (by simp) ht hx
    unfold wrM; rw [if_pos (by omega)]; rfl
  refine W240_ok ?_
  unfold W240
  rw [cvt_int, u32_wrap (by omega), bin_leq, condW_dec]
  refine ⟨fun h2 => ?_, fun h2 => ?_⟩
  · rw [show (6 : Int) = ((6 : Nat) : Int) from rfl, shr_n r 6 (by omega), cvt_int, u8_wrap, show r / 2 ^ 6 % 256 = r / 64 by omega, bin_or, or192 ⟨r / 64, by omega⟩, tail_n]
    refine row2 fun t w1 ht hx => ?_
    refine fin [192 + r / 64, 128 + r % 64] t w1 ?_ (fun x hx => by simp only [List.mem_cons, List.not_mem_nil, or_false] at hx; omega) (by simp) ht hx
    unfold wrM; rw [if_neg (by omega), if_pos (by omega)]; rfl
  refine JoinW.cut (fun s' w' => s' = [.bool (decide (r ≤ 65535))] ∧ w' = w) ?_ ?_
  · rw [bin_lss, condW_dec]
    refine ⟨fun h3 => ?_, fun h3 => ?_⟩
    · rw [decide_eq_true h3, decide_eq_true (by omega)]; exact ⟨rfl, rfl⟩
    · rw [bin_lss, decide_eq_true (show (57343 : Int) < (r : Int) by omega)]
      refine GdW.look (decide (r ≤ 65535)) (fun _ J hJ => ?_) fun g => ?_
      · rw [bin_leq]
        rw [show decide ((r : Int) ≤ 65535) = decide (r ≤ 65535) by rw [decide_eq_decide]; omega]
        exact hJ
      · exact ⟨rfl, rfl⟩
  rintro s' g w' ⟨rfl, rfl⟩
  simp only [List.getD_cons_zero]
  rw [condW_dec]
  refine ⟨fun h3 => ?_, fun h3 => ?_⟩
  · rw [show (12 : Int) = ((12 : Nat) : Int) from rfl, shr_n r 12 (by omega), cvt_int, u8_wrap, show r / 2 ^ 12 % 256 = r / 4096 by omega, bin_or, or224 ⟨r / 4096, by omega⟩, show (6 : Int) = ((6 : Nat) : Int) from rfl, shr_n r 6 (by omega), tail_n, tail_n]
    refine row3 fun t w1 ht hx => ?_
    refine fin [224 + r / 4096, 128 + r / 64 % 64, 128 + r % 64] t w1 ?_ (fun x hx => by simp only [List.mem_cons, List.not_mem_nil, or_false] at hx; omega) (by simp) ht hx
    unfold wrM; rw [if_neg (by omega), if_neg (by omega), if_pos (by omega)]; rfl
  rw [bin_gtr, decide_eq_true (show (65535 : Int) < (r : Int) by omega)]
  refine GdW.look true (fun _ J hJ => ?_) fun g => ?_
  · rw [bin_leq, decide_eq_true (show (r : Int) ≤ 1114111 by omega)]; exact hJ
  show condW (.bool true) _ _
  rw [condW_true]
  rw [show (18 : Int) = ((18 : Nat) : Int) from rfl, shr_n r 18 (by omega), cvt_int, u8_wrap, show r / 2 ^ 18 % 256 = r / 262144 by omega, bin_or, or240 ⟨r / 262144, by omega⟩, show (12 : Int) = ((12 : Nat) : Int) from rfl, shr_n r 12 (by omega), tail_n, show (6 : Int) = ((6 : Nat) : Int) from rfl, shr_n r 6 (by omega), tail_n, tail_n]
  refine row4 fun t w1 ht hx => ?_
  refine fin [240 + r / 262144, 128 + r / 4096 % 64, 128 + r / 64 % 64, 128 + r % 64] t w1 ?_ (fun x hx => by simp only [List.mem_cons, List.not_mem_nil, or_false] at hx; omega) (by simp) ht hx
  unfold wrM; rw [if_neg (by omega), if_neg (by omega), if_neg (by omega)]; rfl
theorem wrune_p {w : World} {B b r : Nat} {l : Str} {K : Value → World → Prop} (h : Bld w B b l) (hB : B ≤ w.heap.size) (hl : l.length + 4 ≤ 140737488355328) (hr : r < 55296 ∨ 57343 < r ∧ r ≤ 1114111)
    (hK : ∀ v w', Bld w' B b (l ++ wrM r) → Chg (BCh w B b) w w' → K v w') : callF Tryz.prog 167 [.pointer (some ⟨b, 0, none⟩), .int .i32 (r : Int)] w K := by
  have hb := h.base
  refine W167_ok ?_
  unfold W167
  refine check_p h fun v w1 h1 hO hz hc => ?_
  have hc1 : w1.cell? (⟨b, 0, none⟩ : Addr) |>.isSome := by rw [cell_eq, h1]; rfl
  rw [nil_ptr, fld_ptr, ld_one]
  refine ⟨v, by rw [add_mk, cell_eq, h1]; rfl, ?_⟩
  rw [lenl_at hO.sl, nil_ptr, fld_ptr, ld_one]
  refine ⟨v, by rw [add_mk, cell_eq, h1]; rfl, ?_⟩
  refine arune_p hO (by omega) hl hr fun v' w2 hO2 _ hc2 => ?_
  rw [nil_ptr, fld_ptr]
  refine bstore (n := 0) h1 hO hb hc2 hO2 fun w4 hb4 hc4 _ => ?_
  obtain ⟨p, v4, h4, _, hO4, _⟩ := id hb4
  rw [nil_ptr, fld_ptr, ld_one]
  refine ⟨v4, by rw [add_mk, cell_eq, h4]; rfl, ?_⟩
  rw [lenl_at hO4.sl, bin_sub]
  exact hK _ w4 hb4 (BCh.trans hc hc4)
end
end Go.Proofs.YtnoepcndjljolaaGreatDoor

namespace Go.Proofs.YtnoepcndjljolaaGreatDoor
open Go Go.Eng
set_option maxRecDepth 100000
variable [HX]
def plan123 : Plan := { js := [(49003, ⟨[122], [], 121⟩), (44005, ⟨[93], [], 90⟩), (44011, ⟨[87], [], 84⟩), (44017, ⟨[81], [], 78⟩), (44021, ⟨[75], [], 74⟩), (28, ⟨[], [4], 6⟩), (35002, ⟨[69], [], 64⟩), (35004, ⟨[68], [], 67⟩), (35007, ⟨[66], [], 64⟩), (30005, ⟨[43], [], 40⟩), (30011, ⟨[37], [], 34⟩), (30015, ⟨[31], [], 30⟩), (22005, ⟨[25], [], 22⟩), (22009, ⟨[19], [], 18⟩)], ds := [] }
def W123 (v0 v1 : Value) (w : World) (K : Value → World → Prop) : Prop :=
  callF Tryz.prog 181 [v0, v1] w fun t10 w1 =>
  binW .lss t10 (.int .i64 0) fun t12 =>
  condW t12 (
    K (.int .i64 0) w1) (
    binW .lss t10 (.int .i64 128) fun t14 =>
    condW t14 (
      K (.int .i64 1) w1) (
      binW .geq t10 (.int .i64 194) fun t16 =>
      GdW (isB t16 true) [undef] w1 (fun J2 =>
        binW .lss t10 (.int .i64 224) fun t19 =>
        J2 [t19] w1)
      fun s2 _ w3 =>
      pickW t16 (s2.getD 0 undef) (.bool false) fun t20 =>
      GdW (isB t20 true) [undef] w3 (fun J4 =>
        binW .add v1 (.int .i64 1) fun t24 =>
        callF Tryz.prog 182 [v0, t24] w3 fun t25 w5 =>
        J4 [t25] w5)
      fun s4 _ w6 =>
      pickW t20 (s4.getD 0 undef) (.bool false) fun t26 =>
      condW t26 (
        K (.int .i64 2) w6) (
        JoinW (fun J7 =>
          binW .geq t10 (.int .i64 224) fun t28 =>
          GdW (isB t28 true) [undef] w6 (fun J8 =>
            binW .lss t10 (.int .i64 240) fun t31 =>
            J8 [t31] w6)
          fun s8 _ w9 =>
          pickW t28 (s8.getD 0 undef) (.bool false) fun t32 =>
          GdW (isB t32 true) [undef] w9 (fun J10 =>
            binW .add v1 (.int .i64 1) fun t36 =>
            callF Tryz.prog 182 [v0, t36] w9 fun t37 w11 =>
            J10 [t37] w11)
          fun s10 _ w12 =>
          pickW t32 (s10.getD 0 undef) (.bool false) fun t38 =>
          GdW (isB t38 true) [undef] w12 (fun J13 =>
            binW .add v1 (.int .i64 2) fun t42 =>
            callF Tryz.prog 182 [v0, t42] w12 fun t43 w14 =>
            J13 [t43] w14)
          fun s13 _ w15 =>
          pickW t38 (s13.getD 0 undef) (.bool false) fun t44 =>
          condW t44 (
            binW .sub t10 (.int .i64 224) fun t46 =>
            binW .mul t46 (.int .i64 4096) fun t47 =>
            binW .add v1 (.int .i64 1) fun t50 =>
            callF Tryz.prog 181 [v0, t50] w15 fun t51 w16 =>
            binW .sub t51 (.int .i64 128) fun t52 =>
            binW .mul t52 (.int .i64 64) fun t53 =>
            binW .add t47 t53 fun t54 =>
            binW .add v1 (.int .i64 2) fun t57 =>
            callF Tryz.prog 181 [v0, t57] w16 fun t58 w17 =>
            binW .add t54 t58 fun t59 =>
            binW .sub t59 (.int .i64 128) fun t60 =>
            binW .geq t60 (.int .i64 2048) fun t62 =>
            GdW (isB t62 true) [undef] w17 (fun J18 =>
              binW .lss t60 (.int .i64 55296) fun t65 =>
              J18 [t65] w17)
            fun s18 _ w19 =>
            GdW (isB (s18.getD 0 undef) false) [undef] w19 (fun J20 =>
              binW .gtr t60 (.int .i64 57343) fun t68 =>
              J20 [t68] w19)
            fun s20 _ w21 =>
            GdW (isB t62 true) [undef] w21 (fun J22 =>
              pickW (s18.getD 0 undef) (.bool true) (s20.getD 0 undef) fun t69 =>
              J22 [t69] w21)
            fun s22 _ w23 =>
            pickW t62 (s22.getD 0 undef) (.bool false) fun t70 =>
            condW t70 (
              K (.int .i64 3) w23) (
              J7 [] w23)) (
            J7 [] w15))
        fun s7 _ w24 =>
        binW .geq t10 (.int .i64 240) fun t72 =>
        GdW (isB t72 true) [undef] w24 (fun J25 =>
          binW .lss t10 (.int .i64 245) fun t75 =>
          J25 [t75] w24)
        fun s25 _ w26 =>
        pickW t72 (s25.getD 0 undef) (.bool false) fun t76 =>
        GdW (isB t76 true) [undef] w26 (fun J27 =>
          binW .add v1 (.int .i64 1) fun t80 =>
          callF Tryz.prog 182 [v0, t80] w26 fun t81 w28 =>
          J27 [t81] w28)
        fun s27 _ w29 =>
        pickW t76 (s27.getD 0 undef) (.bool false) fun t82 =>
        GdW (isB t82 true) [undef] w29 (fun J30 =>
          binW .add v1 (.int .i64 2) fun t86 =>
          callF Tryz.prog 182 [v0, t86] w29 fun t87 w31 =>
          J30 [t87] w31)
        fun s30 _ w32 =>
        pickW t82 (s30.getD 0 undef) (.bool false) fun t88 =>
        GdW (isB t88 true) [undef] w32 (fun J33 =>
          binW .add v1 (.int .i64 3) fun t92 =>
          callF Tryz.prog 182 [v0, t92] w32 fun t93 w34 =>
          J33 [t93] w34)
        fun s33 _ w35 =>
        pickW t88 (s33.getD 0 undef) (.bool false) fun t94 =>
        condW t94 (
          binW .sub t10 (.int .i64 240) fun t96 =>
          binW .mul t96 (.int .i64 262144) fun t97 =>
          binW .add v1 (.int .i64 1) fun t100 =>
          callF Tryz.prog 181 [v0, t100] w35 fun t101 w36 =>
          binW .sub t101 (.int .i64 128) fun t102 =>
          binW .mul t102 (.int .i64 4096) fun t103 =>
          binW .add t97 t103 fun t104 =>
          binW .add v1 (.int .i64 2) fun t107 =>
          callF Tryz.prog 181 [v0, t107] w36 fun t108 w37 =>
          binW .sub t108 (.int .i64 128) fun t109 =>
          binW .mul t109 (.int .i64 64) fun t110 =>
          binW .add t104 t110 fun t111 =>
          binW .add v1 (.int .i64 3) fun t114 =>
          callF Tryz.prog 181 [v0, t114] w37 fun t115 w38 =>
          binW .add t111 t115 fun t116 =>
          binW .sub t116 (.int .i64 128) fun t117 =>
          binW .geq t117 (.int .i64 65536) fun t119 =>
          GdW (isB t119 true) [undef] w38 (fun J39 =>
            binW .leq t117 (.int .i64 1114111) fun t122 =>
            J39 [t122] w38)
          fun s39 _ w40 =>
          pickW t119 (s39.getD 0 undef) (.bool false) fun t123 =>
          condW t123 (
            K (.int .i64 4) w40) (
            K (.int .i64 0) w40)) (
          K (.int .i64 0) w35))))
theorem W123_eq (v0 v1 : Value) (w : World) (K : Value → World → Prop) : funW Tryz.prog Tryz.f123 plan123 [v0, v1] w K = W123 v0 v1 w K := by kernel_rfl
theorem W123_chk : chkFun Tryz.prog Tryz.f123 plan123 2 = true := by kernel_rfl
theorem W123_ok {v0 v1 : Value} {w : World} {K : Value → World → Prop} (h : W123 v0 v1 w K) : callF Tryz.prog 123 [v0, v1] w K :=
  tie Tryz.prog 123 Tryz.f123 plan123 [v0, v1] w K 2 (W123 v0 v1 w K) rfl mixed Tryz.func123 W123_chk (W123_eq v0 v1 w K) Tryz.call123 h
def plan181 : Plan := { js := [], ds := [] }
def W181 (v0 v1 : Value) (w : World) (K : Value → World → Prop) : Prop :=
  lensW v0 fun t7 =>
  binW .geq v1 t7 fun t8 =>
  condW t8 (
    K (.int .i64 (-1)) w) (
    ixsW v0 v1 fun t11 =>
    cvtW .i64 t11 fun t12 =>
    K t12 w)
theorem W181_eq (v0 v1 : Value) (w : World) (K : Value → World → Prop) : funW Tryz.prog Tryz.f181 plan181 [v0, v1] w K = W181 v0 v1 w K := by kernel_rfl
theorem W181_chk : chkFun Tryz.prog Tryz.f181 plan181 2 = true := by kernel_rfl
theorem W181_ok {v0 v1 : Value} {w : World} {K : Value → World → Prop} (h : W181 v0 v1 w K) : callF Tryz.prog 181 [v0, v1] w K :=
  tie Tryz.prog 181 Tryz.f181 plan181 [v0, v1] w K 2 (W181 v0 v1 w K) rfl mixed Tryz.func181 W181_chk (W181_eq v0 v1 w K) Tryz.call181 h
def plan182 : Plan := { js := [(3006, ⟨[13], [], 10⟩)], ds := [] }
def W182 (v0 v1 : Value) (w : World) (K : Value → World → Prop) : Prop :=
  callF Tryz.prog 181 [v0, v1] w fun t7 w1 =>
  binW .geq t7 (.int .i64 128) fun t8 =>
  GdW (isB t8 true) [undef] w1 (fun J2 =>
    callF Tryz.prog 181 [v0, v1] w1 fun t12 w3 =>
    binW .lss t12 (.int .i64 192) fun t13 =>
    J2 [t13] w3)
  fun s2 _ w4 =>
  pickW t8 (s2.getD 0 undef) (.bool false) fun t14 =>
  K t14 w4
theorem W182_eq (v0 v1 : Value) (w : World) (K : Value → World → Prop) : funW Tryz.prog Tryz.f182 plan182 [v0, v1] w K = W182 v0 v1 w K := by kernel_rfl
theorem W182_chk : chkFun Tryz.prog Tryz.f182 plan182 2 = true := by kernel_rfl
theorem W182_ok {v0 v1 : Value} {w : World} {K : Value → World → Prop} (h : W182 v0 v1 w K) : callF Tryz.prog 182 [v0, v1] w K :=
  tie Tryz.prog 182 Tryz.f182 plan182 [v0, v1] w K 2 (W182 v0 v1 w K) rfl mixed Tryz.func182 W182_chk (W182_eq v0 v1 w K) Tryz.call182 h
end Go.Proofs.YtnoepcndjljolaaGreatDoor
namespace Go.Proofs.YtnoepcndjljolaaGreatDoor
open Go Go.Eng
set_option maxRecDepth 100000
section
variable [HX]
theorem byteM_lo (s : Str) (i : Nat) : -1 ≤ byteM s i ∧ byteM s i ≤ 255 := by
  rcases Nat.lt_or_ge i s.length with h | h
  · rw [byteM_in h]; have := bt_lt s i; omega
  · rw [byteM_out h]; omega
theorem one_ref {s : Str} {i : Nat} {w : World} {K : Value → World → Prop} (hl : s.length ≤ 4611686018427387904) (hK : K (i64 (byteM s i)) w) : callF Tryz.prog 181 [str s, i64 (i : Int)] w K := by
  refine W181_ok ?_
  unfold W181
  rw [lens_str, bin_geq]
  rcases Nat.lt_or_ge i s.length with h | h
  · rw [decide_eq_false (by omega), condW_false, ixs_str]
    refine ⟨by omega, s[i], by simp [h], ?_⟩
    rw [cvt_int]
    have e : byteM s i = (s[i].toNat : Int) := by
      rw [byteM_in h]; unfold bt
      rw [List.getD_eq_getElem?_getD, List.getElem?_eq_getElem h]; rfl
    rw [e] at hK
    have := UInt8.toNat_lt s[i]
    rw [wrap_id (by omega) (by omega)]
    exact hK
  · rw [decide_eq_true (by omega), condW_true]
    rw [byteM_out h] at hK
    exact hK
theorem more_ref {s : Str} {i : Nat} {w : World} {K : Value → World → Prop} (hl : s.length ≤ 4611686018427387904) (hK : K (.bool (moreM s i)) w) : callF Tryz.prog 182 [str s, i64 (i : Int)] w K := by
  refine W182_ok ?_
  unfold W182
  refine one_ref hl ?_
  rw [bin_geq]
  refine GdW.look (decide (byteM s i < 192)) (fun _ J hJ => ?_) fun g => ?_
  · refine one_ref hl ?_
    rw [bin_lss]
    exact hJ
  · simp only [wsv, wsg, wsh, wsl, cond_true, cond_false, exists_eq_left', Option.some.injEq, Option.isSome_some, List.getElem?_toArray, List.getElem?_cons_zero, List.getElem?_cons_succ, List.length_cons, List.length_nil, List.set_cons_zero, List.set_cons_succ, List.getD_cons_zero, List.getD_cons_succ, Nat.zero_add, Nat.add_zero, Nat.reduceAdd, Nat.reduceLT, Nat.lt_add_one, Nat.zero_lt_succ, decide_true, decide_false, ne_eq, reduceCtorEq]
    exact hK
theorem add1 {i k : Nat} (h : i ≤ 4611686018427387904) (hk : k ≤ 10) : IntKind.i64.wrap ((i : Int) + (k : Nat)) = ((i + k : Nat) : Int) := by rw [wrap_id (by omega) (by omega)]; omega
theorem rune_ref {s : Str} {i : Nat} {w : World} {K : Value → World → Prop} (hl : s.length ≤ 4611686018427387904) (hi : i ≤ 4611686018427387904) (hK : K (i64 (runeM s i)) w) : callF Tryz.prog 123 [str s, i64 (i : Int)] w K := by
  have b0 := byteM_lo s i
  have b1 := byteM_lo s (i + 1)
  have b2 := byteM_lo s (i + 2)
  have b3 := byteM_lo s (i + 3)
  have a1 : IntKind.i64.wrap ((i : Int) + 1) = ((i + 1 : Nat) : Int) := add1 (k := 1) hi (by omega)
  have a2 : IntKind.i64.wrap ((i : Int) + 2) = ((i + 2 : Nat) : Int) := add1 (k := 2) hi (by omega)
  have a3 : IntKind.i64.wrap ((i : Int) + 3) = ((i + 3 : Nat) : Int) := add1 (k := 3) hi (by omega)
  refine W123_ok ?_
  unfold W123
  refine one_ref hl ?_
  unfold runeM at hK
  dsimp only at hK
  rw [bin_lss, condW_dec]
  refine ⟨fun c0 => by rw [if_pos c0] at hK; exact hK, fun c0 => ?_⟩
  rw [if_neg c0] at hK
  rw [bin_lss, condW_dec]
  refine ⟨fun c1 => by rw [if_pos c1] at hK; exact hK, fun c1 => ?_⟩
  rw [if_neg c1] at hK
  simp only [wsv, wsg, wsh, wsl, cond_true, cond_false, exists_eq_left', Option.some.injEq, Option.isSome_some, List.getElem?_toArray, List.getElem?_cons_zero, List.getElem?_cons_succ, List.length_cons, List.length_nil, List.set_cons_zero, List.set_cons_succ, List.getD_cons_zero, List.getD_cons_succ, Nat.zero_add, Nat.add_zero, Nat.reduceAdd, Nat.reduceLT, Nat.lt_add_one, Nat.zero_lt_succ, decide_true, decide_false, ne_eq, reduceCtorEq]
  intros
  refine GdW.look (moreM s (i + 1)) (fun _ J hJ => ?_) fun g => ?_
  · rw [a1]; exact more_ref hl hJ
  simp only [wsv, wsg, wsh, wsl, cond_true, cond_false, exists_eq_left', Option.some.injEq, Option.isSome_some, List.getElem?_toArray, List.getElem?_cons_zero, List.getElem?_cons_succ, List.length_cons, List.length_nil, List.set_cons_zero, List.set_cons_succ, List.getD_cons_zero, List.getD_cons_succ, Nat.zero_add, Nat.add_zero, Nat.reduceAdd, Nat.reduceLT, Nat.lt_add_one, Nat.zero_lt_succ, decide_true, decide_false, ne_eq, reduceCtorEq]
  rw [condW_b]
  refine ⟨fun c2 => ?_, fun c2 => ?_⟩
  · simp only [Bool.and_eq_true, decide_eq_true_eq] at c2
    rw [if_pos ⟨c2.1.1, c2.1.2, c2.2⟩] at hK
    exact hK
  have c2' : ¬ (194 ≤ byteM s i ∧ byteM s i < 224 ∧ moreM s (i + 1) = true) := fun h => by
    rw [decide_eq_true h.1, decide_eq_true h.2.1, h.2.2] at c2; cases c2
  rw [if_neg c2'] at hK
  have four : (¬ (224 ≤ byteM s i ∧ byteM s i < 240 ∧ moreM s (i + 1) = true ∧ moreM s (i + 2) = true ∧
    2048 ≤ (byteM s i - 224) * 4096 + (byteM s (i + 1) - 128) * 64 + byteM s (i + 2) - 128 ∧ ((byteM s i - 224) * 4096 + (byteM s (i + 1) - 128) * 64 + byteM s (i + 2) - 128 < 55296 ∨ 57343 < (byteM s i - 224) * 4096 + (byteM s (i + 1) - 128) * 64 + byteM s (i + 2) - 128))) → K (.int .i64 (if 240 ≤ byteM s i ∧ byteM s i < 245 ∧ moreM s (i + 1) = true ∧ moreM s (i + 2) = true ∧ moreM s (i + 3) = true ∧
    65536 ≤ (byteM s i - 240) * 262144 + (byteM s (i + 1) - 128) * 4096 + (byteM s (i + 2) - 128) * 64 + byteM s (i + 3) - 128 ∧ (byteM s i - 240) * 262144 + (byteM s (i + 1) - 128) * 4096 + (byteM s (i + 2) - 128) * 64 + byteM s (i + 3) - 128 ≤ 1114111 then 4 else 0 : Nat)) w := fun h => by
    rw [if_neg h] at hK; exact hK
  refine JoinW.cut (fun s' w' => s' = [] ∧ w' = w ∧ (¬ (224 ≤ byteM s i ∧ byteM s i < 240 ∧ moreM s (i + 1) = true ∧ moreM s (i + 2) = true ∧
    2048 ≤ (byteM s i - 224) * 4096 + (byteM s (i + 1) - 128) * 64 + byteM s (i + 2) - 128 ∧ ((byteM s i - 224) * 4096 + (byteM s (i + 1) - 128) * 64 + byteM s (i + 2) - 128 < 55296 ∨ 57343 < (byteM s i - 224) * 4096 + (byteM s (i + 1) - 128) * 64 + byteM s (i + 2) - 128)))) ?_ ?_
  · simp only [wsv, wsg, wsh, wsl, cond_true, cond_false, exists_eq_left', Option.some.injEq, Option.isSome_some, List.getElem?_toArray, List.getElem?_cons_zero, List.getElem?_cons_succ, List.length_cons, List.length_nil, List.set_cons_zero, List.set_cons_succ, List.getD_cons_zero, List.getD_cons_succ, Nat.zero_add, Nat.add_zero, Nat.reduceAdd, Nat.reduceLT, Nat.lt_add_one, Nat.zero_lt_succ, decide_true, decide_false, ne_eq, reduceCtorEq]
    intros
    refine GdW.look (moreM s (i + 1)) (fun _ J hJ => ?_) fun g => ?_
    · rw [a1]; exact more_ref hl hJ
    simp only [wsv, wsg, wsh, wsl, cond_true, cond_false, exists_eq_left', Option.some.injEq, Option.isSome_some, List.getElem?_toArray, List.getElem?_cons_zero, List.getElem?_cons_succ, List.length_cons, List.length_nil, List.set_cons_zero, List.set_cons_succ, List.getD_cons_zero, List.getD_cons_succ, Nat.zero_add, Nat.add_zero, Nat.reduceAdd, Nat.reduceLT, Nat.lt_add_one, Nat.zero_lt_succ, decide_true, decide_false, ne_eq, reduceCtorEq]
    refine GdW.look (moreM s (i + 2)) (fun _ J hJ => ?_) fun g => ?_
    · rw [a2]; exact more_ref hl hJ
    simp only [wsv, wsg, wsh, wsl, cond_true, cond_false, exists_eq_left', Option.some.injEq, Option.isSome_some, List.getElem?_toArray, List.getElem?_cons_zero, List.getElem?_cons_succ, List.length_cons, List.length_nil, List.set_cons_zero, List.set_cons_succ, List.getD_cons_zero, List.getD_cons_succ, Nat.zero_add, Nat.add_zero, Nat.reduceAdd, Nat.reduceLT, Nat.lt_add_one, Nat.zero_lt_succ, decide_true, decide_false, ne_eq, reduceCtorEq]
    rw [condW_b]
    refine ⟨fun c3 => ?_, fun c3 h => ?_⟩
    · simp only [Bool.and_eq_true, decide_eq_true_eq] at c3
      obtain ⟨⟨⟨d1, d2⟩, d3⟩, d4⟩ := c3
      rw [a1]
      refine one_ref hl ?_
      simp only [wsv, wsg, wsh, wsl, cond_true, cond_false, exists_eq_left', Option.some.injEq, Option.isSome_some, List.getElem?_toArray, List.getElem?_cons_zero, List.getElem?_cons_succ, List.length_cons, List.length_nil, List.set_cons_zero, List.set_cons_succ, List.getD_cons_zero, List.getD_cons_succ, Nat.zero_add, Nat.add_zero, Nat.reduceAdd, Nat.reduceLT, Nat.lt_add_one, Nat.zero_lt_succ, decide_true, decide_false, ne_eq, reduceCtorEq]
      rw [a2]
      refine one_ref hl ?_
      simp only [wsv, wsg, wsh, wsl, cond_true, cond_false, exists_eq_left', Option.some.injEq, Option.isSome_some, List.getElem?_toArray, List.getElem?_cons_zero, List.getElem?_cons_succ, List.length_cons, List.length_nil, List.set_cons_zero, List.set_cons_succ, List.getD_cons_zero, List.getD_cons_succ, Nat.zero_add, Nat.add_zero, Nat.reduceAdd, Nat.reduceLT, Nat.lt_add_one, Nat.zero_lt_succ, decide_true, decide_false, ne_eq, reduceCtorEq]
      have e1 : IntKind.i64.wrap (byteM s i - 224) = byteM s i - 224 := wrap_id (by omega) (by omega)
      have e2 : IntKind.i64.wrap ((byteM s i - 224) * 4096) = (byteM s i - 224) * 4096 := wrap_id (by omega) (by omega)
      have e3 : IntKind.i64.wrap (byteM s (i + 1) - 128) = byteM s (i + 1) - 128 := wrap_id (by omega) (by omega)
      have e4 : IntKind.i64.wrap ((byteM s (i + 1) - 128) * 64) = (byteM s (i + 1) - 128) * 64 := wrap_id (by omega) (by omega)
      have e5 : IntKind.i64.wrap ((byteM s i - 224) * 4096 + (byteM s (i + 1) - 128) * 64) = (byteM s i - 224) * 4096 + (byteM s (i + 1) - 128) * 64 := wrap_id (by omega) (by omega)
      have e6 : IntKind.i64.wrap ((byteM s i - 224) * 4096 + (byteM s (i + 1) - 128) * 64 + byteM s (i + 2)) = (byteM s i - 224) * 4096 + (byteM s (i + 1) - 128) * 64 + byteM s (i + 2) := wrap_id (by omega) (by omega)
      have e7 : IntKind.i64.wrap ((byteM s i - 224) * 4096 + (byteM s (i + 1) - 128) * 64 + byteM s (i + 2) - 128) = (byteM s i - 224) * 4096 + (byteM s (i + 1) - 128) * 64 + byteM s (i + 2) - 128 := wrap_id (by omega) (by omega)
      simp only [e1, e2, e3, e4, e5, e6, e7]
      intro _ _ _
      rw [condW_b]
      refine ⟨fun c4 => ?_, fun c4 h => ?_⟩
      · simp only [Bool.and_eq_true, Bool.or_eq_true, decide_eq_true_eq] at c4
        rw [if_pos ⟨d1, d2, d3, d4, c4.1, c4.2⟩] at hK
        exact hK
      · have : (decide (2048 ≤ (byteM s i - 224) * 4096 + (byteM s (i + 1) - 128) * 64 + byteM s (i + 2) - 128) && (decide ((byteM s i - 224) * 4096 + (byteM s (i + 1) - 128) * 64 + byteM s (i + 2) - 128 < 55296) || decide (57343 < (byteM s i - 224) * 4096 + (byteM s (i + 1) - 128) * 64 + byteM s (i + 2) - 128))) = true := by
          simp only [Bool.and_eq_true, Bool.or_eq_true, decide_eq_true_eq]
          exact h.2.2.2.2
        rw [c4] at this; cases this
    · rw [decide_eq_true h.1, decide_eq_true h.2.1, h.2.2.1, h.2.2.2.1] at c3; cases c3
  · rintro s' g w' ⟨rfl, rfl, hno⟩
    have hK := four hno
    intro g2
    refine GdW.look (moreM s (i + 1)) (fun _ J hJ => ?_) fun g => ?_
    · rw [a1]; exact more_ref hl hJ
    simp only [wsv, wsg, wsh, wsl, cond_true, cond_false, exists_eq_left', Option.some.injEq, Option.isSome_some, List.getElem?_toArray, List.getElem?_cons_zero, List.getElem?_cons_succ, List.length_cons, List.length_nil, List.set_cons_zero, List.set_cons_succ, List.getD_cons_zero, List.getD_cons_succ, Nat.zero_add, Nat.add_zero, Nat.reduceAdd, Nat.reduceLT, Nat.lt_add_one, Nat.zero_lt_succ, decide_true, decide_false, ne_eq, reduceCtorEq]
    refine GdW.look (moreM s (i + 2)) (fun _ J hJ => ?_) fun g => ?_
    · rw [a2]; exact more_ref hl hJ
    simp only [wsv, wsg, wsh, wsl, cond_true, cond_false, exists_eq_left', Option.some.injEq, Option.isSome_some, List.getElem?_toArray, List.getElem?_cons_zero, List.getElem?_cons_succ, List.length_cons, List.length_nil, List.set_cons_zero, List.set_cons_succ, List.getD_cons_zero, List.getD_cons_succ, Nat.zero_add, Nat.add_zero, Nat.reduceAdd, Nat.reduceLT, Nat.lt_add_one, Nat.zero_lt_succ, decide_true, decide_false, ne_eq, reduceCtorEq]
    refine GdW.look (moreM s (i + 3)) (fun _ J hJ => ?_) fun g => ?_
    · rw [a3]; exact more_ref hl hJ
    simp only [wsv, wsg, wsh, wsl, cond_true, cond_false, exists_eq_left', Option.some.injEq, Option.isSome_some, List.getElem?_toArray, List.getElem?_cons_zero, List.getElem?_cons_succ, List.length_cons, List.length_nil, List.set_cons_zero, List.set_cons_succ, List.getD_cons_zero, List.getD_cons_succ, Nat.zero_add, Nat.add_zero, Nat.reduceAdd, Nat.reduceLT, Nat.lt_add_one, Nat.zero_lt_succ, decide_true, decide_false, ne_eq, reduceCtorEq]
    rw [condW_b]
    refine ⟨fun c3 => ?_, fun c3 => ?_⟩
    · simp only [Bool.and_eq_true, decide_eq_true_eq] at c3
      obtain ⟨⟨⟨⟨d1, d2⟩, d3⟩, d4⟩, d5⟩ := c3
      rw [a1]
      refine one_ref hl ?_
      simp only [wsv, wsg, wsh, wsl, cond_true, cond_false, exists_eq_left', Option.some.injEq, Option.isSome_some, List.getElem?_toArray, List.getElem?_cons_zero, List.getElem?_cons_succ, List.length_cons, List.length_nil, List.set_cons_zero, List.set_cons_succ, List.getD_cons_zero, List.getD_cons_succ, Nat.zero_add, Nat.add_zero, Nat.reduceAdd, Nat.reduceLT, Nat.lt_add_one, Nat.zero_lt_succ, decide_true, decide_false, ne_eq, reduceCtorEq]
      rw [a2]
      refine one_ref hl ?_
      simp only [wsv, wsg, wsh, wsl, cond_true, cond_false, exists_eq_left', Option.some.injEq, Option.isSome_some, List.getElem?_toArray, List.getElem?_cons_zero, List.getElem?_cons_succ, List.length_cons, List.length_nil, List.set_cons_zero, List.set_cons_succ, List.getD_cons_zero, List.getD_cons_succ, Nat.zero_add, Nat.add_zero, Nat.reduceAdd, Nat.reduceLT, Nat.lt_add_one, Nat.zero_lt_succ, decide_true, decide_false, ne_eq, reduceCtorEq]
      rw [a3]
      refine one_ref hl ?_
      simp only [wsv, wsg, wsh, wsl, cond_true, cond_false, exists_eq_left', Option.some.injEq, Option.isSome_some, List.getElem?_toArray, List.getElem?_cons_zero, List.getElem?_cons_succ, List.length_cons, List.length_nil, List.set_cons_zero, List.set_cons_succ, List.getD_cons_zero, List.getD_cons_succ, Nat.zero_add, Nat.add_zero, Nat.reduceAdd, Nat.reduceLT, Nat.lt_add_one, Nat.zero_lt_succ, decide_true, decide_false, ne_eq, reduceCtorEq]
      have e1 : IntKind.i64.wrap (byteM s i - 240) = byteM s i - 240 := wrap_id (by omega) (by omega)
      have e2 : IntKind.i64.wrap ((byteM s i - 240) * 262144) = (byteM s i - 240) * 262144 := wrap_id (by omega) (by omega)
      have e3 : IntKind.i64.wrap (byteM s (i + 1) - 128) = byteM s (i + 1) - 128 := wrap_id (by omega) (by omega)
      have e4 : IntKind.i64.wrap ((byteM s (i + 1) - 128) * 4096) = (byteM s (i + 1) - 128) * 4096 := wrap_id (by omega) (by omega)
      have e5 : IntKind.i64.wrap ((byteM s i - 240) * 262144 + (byteM s (i + 1) - 128) * 4096) = (byteM s i - 240) * 262144 + (byteM s (i + 1) - 128) * 4096 := wrap_id (by omega) (by omega)
      have e6 : IntKind.i64.wrap (byteM s (i + 2) - 128) = byteM s (i + 2) - 128 := wrap_id (by omega) (by omega)
      have e7 : IntKind.i64.wrap ((byteM s (i + 2) - 128) * 64) = (byteM s (i + 2) - 128) * 64 := wrap_id (by omega) (by omega)
      have e8 : IntKind.i64.wrap ((byteM s i - 240) * 262144 + (byteM s (i + 1) - 128) * 4096 + (byteM s (i + 2) - 128) * 64) = (byteM s i - 240) * 262144 + (byteM s (i + 1) - 128) * 4096 + (byteM s (i + 2) - 128) * 64 := wrap_id (by omega) (by omega)
      have e9 : IntKind.i64.wrap ((byteM s i - 240) * 262144 + (byteM s (i + 1) - 128) * 4096 + (byteM s (i + 2) - 128) * 64 + byteM s (i + 3)) = (byteM s i - 240) * 262144 + (byteM s (i + 1) - 128) * 4096 + (byteM s (i + 2) - 128) * 64 + byteM s (i + 3) := wrap_id (by omega) (by omega)
      have e10 : IntKind.i64.wrap ((byteM s i - 240) * 262144 + (byteM s (i + 1) - 128) * 4096 + (byteM s (i + 2) - 128) * 64 + byteM s (i + 3) - 128) = (byteM s i - 240) * 262144 + (byteM s (i + 1) - 128) * 4096 + (byteM s (i + 2) - 128) * 64 + byteM s (i + 3) - 128 := wrap_id (by omega) (by omega)
      simp only [e1, e2, e3, e4, e5, e6, e7, e8, e9, e10]
      intro _
      rw [condW_b]
      refine ⟨fun c4 => ?_, fun c4 => ?_⟩
      · simp only [Bool.and_eq_true, decide_eq_true_eq] at c4
        rw [if_pos ⟨d1, d2, d3, d4, d5, c4.1, c4.2⟩] at hK
        exact hK
      · rw [if_neg (fun h => by rw [decide_eq_true h.2.2.2.2.2.1, decide_eq_true h.2.2.2.2.2.2] at c4; cases c4)] at hK
        exact hK
    · rw [if_neg (fun h => by rw [decide_eq_true h.1, decide_eq_true h.2.1, h.2.2.1, h.2.2.2.1, h.2.2.2.2.1] at c3; cases c3)] at hK
      exact hK
end
end Go.Proofs.YtnoepcndjljolaaGreatDoor

namespace Go.Proofs.YtnoepcndjljolaaGreatDoor
open Go Go.Eng Go.RowKit
set_option maxRecDepth 100000
section
variable [HX]
theorem range_str {l : Str} {w : World} {K : Value → World → Prop} (hK : K (.pointer (some ⟨w.heap.size, 0, none⟩)) (w.alloc (.stringIter (ofL l) 0))) : semE Tryz.prog (Instr.range 9 (str l)) w K := by
  have hT : Tryz.prog.underlying 9 = some .string := by kernel_rfl
  have hr : (Instr.range 9 (str l)).run Tryz.prog w = .ok (.pointer (some ⟨w.heap.size, 0, none⟩)) (w.alloc (.stringIter (ofL l) 0)) := by
    simp [Instr.range, run_bind, run_underlying' hT, run_pure, newObj, Sem.run]
  unfold semE
  rw [hr]
  exact hK
theorem setObj_chg' {w : World} {r : Nat} {o : Obj} (h : r < w.heap.size) : Chg (· = r) w { w with heap := w.heap.setIfInBounds r o } :=
  ⟨rfl, rfl, rfl, by simp, fun k _ hk => by
    show (w.heap.setIfInBounds r o)[k]? = _
    rw [Array.getElem?_setIfInBounds_ne (by omega)]⟩
theorem next_str {r pos : Nat} {l : Str} {T : TypeId} {w : World} {K : Value → World → Prop} (hw : w.heap[r]? = some (.stringIter (ofL l) pos))
    (h0 : l.length ≤ pos → K (.tuple #[.bool false]) w)
    (h1 : pos < l.length → ∀ w', w'.heap[r]? = some (.stringIter (ofL l) (pos + (Utf8.decode (ofL l) pos).2)) → Chg (· = r) w w' → w'.heap.size = w.heap.size → K (.tuple #[.bool true, i64 pos, .int .i32 (Utf8.decode (ofL l) pos).1]) w') :
    semE Tryz.prog (Instr.next (.pointer (some ⟨r, 0, none⟩)) true T) w K := by
  have hg : (getObj r).run Tryz.prog w = .ok (.stringIter (ofL l) pos) w := by simp [getObj, Sem.run, hw]
  have hlt : r < w.heap.size := (Array.getElem?_eq_some_iff.1 hw).1
  unfold semE
  simp only [Instr.next, run_bind, hg, ofL_size]
  by_cases hp : pos < l.length
  · have hset : (setObj r (.stringIter (ofL l) (pos + (Utf8.decode (ofL l) pos).2))).run Tryz.prog w = .ok () { w with heap := w.heap.setIfInBounds r (.stringIter (ofL l) (pos + (Utf8.decode (ofL l) pos).2)) } := by simp [setObj, Sem.run, hw]
    rw [if_pos hp]
    simp only [run_bind, hset, run_pure]
    exact h1 hp _ (by simp [hlt]) (setObj_chg' hlt) (by simp)
  · rw [if_neg hp]
    simp only [run_pure]
    exact h0 (by omega)
end
end Go.Proofs.YtnoepcndjljolaaGreatDoor
namespace Go.Proofs.YtnoepcndjljolaaGreatDoor
open Go Go.Eng
set_option maxRecDepth 100000
variable [HX]
def plan25 : Plan := { js := [], ds := [] }
def W25 (v0 : Value) (w : World) (K : Value → World → Prop) : Prop :=
  boxW 40 v0 w fun t1 w1 =>
  ldW true 5 t1 w1 fun t6 =>
  callF Tryz.prog 47 [t6] w1 fun t7 w2 =>
  unW .not t7 fun t8 =>
  condW t8 (
    K (.tuple #[(.string (ofL [])), (.int .i64 1)]) w2) (
    ldW true 5 t1 w2 fun t10 =>
    callF Tryz.prog 48 [t10] w2 fun t11 w3 =>
    unW .not t11 fun t12 =>
    condW t12 (
      K (.tuple #[(.string (ofL [])), (.int .i64 20)]) w3) (
      ldW true 5 t1 w3 fun t14 =>
      callF Tryz.prog 51 [t14] w3 fun t15 w4 =>
      unW .not t15 fun t16 =>
      condW t16 (
        K (.tuple #[(.string (ofL [])), (.int .i64 31)]) w4) (
        allocW 93 [(.pointer none), (.slice none 0 0)] w4 fun t4 w5 =>
        ldW true 5 t1 w5 fun t17 =>
        callF Tryz.prog 52 [t4, t17] w5 fun t18 w6 =>
        callF Tryz.prog 53 [t4] w6 fun t19 w7 =>
        binW .gtr t19 (.int .i64 65536) fun t20 =>
        condW t20 (
          K (.tuple #[(.string (ofL [])), (.int .i64 3)]) w7) (
          callF Tryz.prog 54 [t4] w7 fun t21 w8 =>
          K (.tuple #[t21, (.int .i64 0)]) w8))))
theorem W25_eq (v0 : Value) (w : World) (K : Value → World → Prop) : funW Tryz.prog Tryz.f25 plan25 [v0] w K = W25 v0 w K := by kernel_rfl
theorem W25_chk : chkFun Tryz.prog Tryz.f25 plan25 1 = true := by kernel_rfl
theorem W25_ok {v0 : Value} {w : World} {K : Value → World → Prop} (h : W25 v0 w K) : callF Tryz.prog 25 [v0] w K :=
  tie Tryz.prog 25 Tryz.f25 plan25 [v0] w K 1 (W25 v0 w K) rfl mixed Tryz.func25 W25_chk (W25_eq v0 w K) Tryz.call25 h
def plan51 : Plan := { js := [(5006, ⟨[20], [], 17⟩), (5013, ⟨[14], [], 10⟩)], ds := [] }
def W51 (v0 : Value) (w : World) (K : Value → World → Prop) : Prop :=
  boxW 40 v0 w fun t1 w1 =>
  fldW 2 t1 fun t5 =>
  ldW false 1 t5 w1 fun t6 =>
  callV Tryz.prog (.func (.func 108) #[] #[]) [t6] w1 fun t7 w2 =>
  unW .not t7 fun t8 =>
  GdW (isB t8 true) [undef] w2 (fun J3 =>
    fldW 4 t1 fun t10 =>
    ldW false 1 t10 w2 fun t11 =>
    callF Tryz.prog 87 [t11, (.func (.func 108) #[] #[])] w2 fun t13 w4 =>
    unW .not t13 fun t14 =>
    J3 [t14] w4)
  fun s3 _ w5 =>
  pickW t8 (s3.getD 0 undef) (.bool false) fun t15 =>
  GdW (isB t15 true) [undef] w5 (fun J6 =>
    fldW 3 t1 fun t17 =>
    ldW false 1 t17 w5 fun t18 =>
    callF Tryz.prog 102 [t18, (.func (.func 109) #[] #[])] w5 fun t19 w7 =>
    unW .not t19 fun t20 =>
    J6 [t20] w7)
  fun s6 _ w8 =>
  pickW t15 (s6.getD 0 undef) (.bool false) fun t21 =>
  K t21 w8
theorem W51_eq (v0 : Value) (w : World) (K : Value → World → Prop) : funW Tryz.prog Tryz.f51 plan51 [v0] w K = W51 v0 w K := by kernel_rfl
theorem W51_chk : chkFun Tryz.prog Tryz.f51 plan51 1 = true := by kernel_rfl
theorem W51_ok {v0 : Value} {w : World} {K : Value → World → Prop} (h : W51 v0 w K) : callF Tryz.prog 51 [v0] w K :=
  tie Tryz.prog 51 Tryz.f51 plan51 [v0] w K 1 (W51 v0 w K) rfl mixed Tryz.func51 W51_chk (W51_eq v0 w K) Tryz.call51 h
def plan52 : Plan := { js := [(70, ⟨[], [], 63⟩), (59, ⟨[62], [6, 7], 62⟩), (41, ⟨[], [], 41⟩), (30, ⟨[40], [4, 5], 40⟩)], ds := [] }
def W52 (v0 v1 : Value) (w : World) (K : Value → World → Prop) : Prop :=
  boxW 40 v1 w fun t3 w1 =>
  fldW 0 t3 fun t8 =>
  ldW false 1 t8 w1 fun t9 =>
  binW .eql t9 (.int .i64 0) fun t11 =>
  condW t11 (
    callF Tryz.prog 89 [v0, (.string (ofL [110, 117, 108, 108]))] w1 fun t13 w2 =>
    K (.tuple #[]) w2) (
    binW .eql t9 (.int .i64 2) fun t15 =>
    condW t15 (
      fldW 1 t3 fun t17 =>
      ldW false 1 t17 w1 fun t18 =>
      callF Tryz.prog 110 [t18] w1 fun t19 w3 =>
      callF Tryz.prog 89 [v0, t19] w3 fun t20 w4 =>
      K (.tuple #[]) w4) (
      binW .eql t9 (.int .i64 3) fun t22 =>
      condW t22 (
        fldW 2 t3 fun t24 =>
        ldW false 1 t24 w1 fun t25 =>
        callF Tryz.prog 89 [v0, t25] w1 fun t26 w5 =>
        K (.tuple #[]) w5) (
        binW .eql t9 (.int .i64 4) fun t28 =>
        condW t28 (
          fldW 2 t3 fun t30 =>
          ldW false 1 t30 w1 fun t31 =>
          callF Tryz.prog 111 [v0, t31] w1 fun t32 w6 =>
          K (.tuple #[]) w6) (
          binW .eql t9 (.int .i64 5) fun t34 =>
          condW t34 (
            callF Tryz.prog 91 [v0, (.int .u8 91)] w1 fun t36 w7 =>
            fldW 3 t3 fun t37 =>
            ldW false 1 t37 w7 fun t38 =>
            lenlW t38 fun t39 =>
            LoopW [(.int .i64 0)] w7 fun s8 _ w9 L8 =>
              binW .lss (s8.getD 0 undef) t39 fun t41 =>
              condW t41 (
                ixaW none 5 t38 (s8.getD 0 undef) fun t43 =>
                ldW true 5 t43 w9 fun t44 =>
                allocW 40 [(.int .i64 0), (.bool false), (.string (ofL [])), (.slice none 0 0), (.slice none 0 0)] w9 fun t5 w10 =>
                stW 5 t5 t44 w10 fun w11 =>
                JoinW (fun J12 =>
                  binW .gtr (s8.getD 0 undef) (.int .i64 0) fun t46 =>
                  condW t46 (
                    callF Tryz.prog 91 [v0, (.int .u8 44)] w11 fun t48 w13 =>
                    J12 [] w13) (
                    J12 [] w11))
                fun s12 _ w14 =>
                ldW true 5 t5 w14 fun t50 =>
                callF Tryz.prog 52 [v0, t50] w14 fun t51 w15 =>
                binW .add (s8.getD 0 undef) (.int .i64 1) fun t52 =>
                L8 [t52] w15) (
                callF Tryz.prog 91 [v0, (.int .u8 93)] w9 fun t54 w16 =>
                K (.tuple #[]) w16)) (
            binW .eql t9 (.int .i64 6) fun t56 =>
            condW t56 (
              callF Tryz.prog 91 [v0, (.int .u8 123)] w1 fun t58 w17 =>
              fldW 3 t3 fun t59 =>
              ldW false 1 t59 w17 fun t60 =>
              lenlW t60 fun t61 =>
              LoopW [(.int .i64 0)] w17 fun s18 _ w19 L18 =>
                binW .lss (s18.getD 0 undef) t61 fun t63 =>
                condW t63 (
                  ixaW none 5 t60 (s18.getD 0 undef) fun t65 =>
                  ldW true 5 t65 w19 fun t66 =>
                  allocW 40 [(.int .i64 0), (.bool false), (.string (ofL [])), (.slice none 0 0), (.slice none 0 0)] w19 fun t7 w20 =>
                  stW 5 t7 t66 w20 fun w21 =>
                  JoinW (fun J22 =>
                    binW .gtr (s18.getD 0 undef) (.int .i64 0) fun t68 =>
                    condW t68 (
                      callF Tryz.prog 91 [v0, (.int .u8 44)] w21 fun t70 w23 =>
                      J22 [] w23) (
                      J22 [] w21))
                  fun s22 _ w24 =>
                  fldW 4 t3 fun t72 =>
                  ldW false 1 t72 w24 fun t73 =>
                  ixaW none 1 t73 (s18.getD 0 undef) fun t75 =>
                  ldW false 1 t75 w24 fun t76 =>
                  callF Tryz.prog 111 [v0, t76] w24 fun t77 w25 =>
                  callF Tryz.prog 91 [v0, (.int .u8 58)] w25 fun t79 w26 =>
                  ldW true 5 t7 w26 fun t81 =>
                  callF Tryz.prog 52 [v0, t81] w26 fun t82 w27 =>
                  binW .add (s18.getD 0 undef) (.int .i64 1) fun t83 =>
                  L18 [t83] w27) (
                  callF Tryz.prog 91 [v0, (.int .u8 125)] w19 fun t85 w28 =>
                  K (.tuple #[]) w28)) (
              K (.tuple #[]) w1))))))
theorem W52_eq (v0 v1 : Value) (w : World) (K : Value → World → Prop) : funW Tryz.prog Tryz.f52 plan52 [v0, v1] w K = W52 v0 v1 w K := by kernel_rfl
theorem W52_chk : chkFun Tryz.prog Tryz.f52 plan52 2 = true := by kernel_rfl
theorem W52_ok {v0 v1 : Value} {w : World} {K : Value → World → Prop} (h : W52 v0 v1 w K) : callF Tryz.prog 52 [v0, v1] w K :=
  tie Tryz.prog 52 Tryz.f52 plan52 [v0, v1] w K 2 (W52 v0 v1 w K) rfl mixed Tryz.func52 W52_chk (W52_eq v0 v1 w K) Tryz.call52 h
def plan124 : Plan := { js := [(37, ⟨[26], [2, 4], 26⟩), (14, ⟨[12], [2, 3], 12⟩)], ds := [] }
def W124 (v0 : Value) (w : World) (K : Value → World → Prop) : Prop :=
  boxW 40 v0 w fun t1 w1 =>
  fldW 2 t1 fun t5 =>
  ldW false 1 t5 w1 fun t6 =>
  callF Tryz.prog 64 [t6] w1 fun t7 w2 =>
  binW .geq t7 (.int .i64 0) fun t8 =>
  condW t8 (
    K (.bool false) w2) (
    fldW 4 t1 fun t9 =>
    ldW false 1 t9 w2 fun t10 =>
    lenlW t10 fun t11 =>
    LoopW [(.int .i64 0)] w2 fun s3 _ w4 L3 =>
      binW .lss (s3.getD 0 undef) t11 fun t13 =>
      condW t13 (
        fldW 4 t1 fun t15 =>
        ldW false 1 t15 w4 fun t16 =>
        ixaW none 1 t16 (s3.getD 0 undef) fun t18 =>
        ldW false 1 t18 w4 fun t19 =>
        callF Tryz.prog 64 [t19] w4 fun t20 w5 =>
        binW .geq t20 (.int .i64 0) fun t21 =>
        condW t21 (
          K (.bool false) w5) (
          binW .add (s3.getD 0 undef) (.int .i64 1) fun t22 =>
          L3 [t22] w5)) (
        fldW 3 t1 fun t23 =>
        ldW false 1 t23 w4 fun t24 =>
        lenlW t24 fun t25 =>
        LoopW [(.int .i64 0)] w4 fun s6 _ w7 L6 =>
          binW .lss (s6.getD 0 undef) t25 fun t27 =>
          condW t27 (
            fldW 3 t1 fun t29 =>
            ldW false 1 t29 w7 fun t30 =>
            ixaW none 5 t30 (s6.getD 0 undef) fun t32 =>
            ldW true 5 t32 w7 fun t33 =>
            callF Tryz.prog 124 [t33] w7 fun t34 w8 =>
            unW .not t34 fun t35 =>
            condW t35 (
              K (.bool false) w8) (
              binW .add (s6.getD 0 undef) (.int .i64 1) fun t36 =>
              L6 [t36] w8)) (
            K (.bool true) w7)))
theorem W124_eq (v0 : Value) (w : World) (K : Value → World → Prop) : funW Tryz.prog Tryz.f124 plan124 [v0] w K = W124 v0 w K := by kernel_rfl
theorem W124_chk : chkFun Tryz.prog Tryz.f124 plan124 1 = true := by kernel_rfl
theorem W124_ok {v0 : Value} {w : World} {K : Value → World → Prop} (h : W124 v0 w K) : callF Tryz.prog 124 [v0] w K :=
  tie Tryz.prog 124 Tryz.f124 plan124 [v0] w K 1 (W124 v0 w K) rfl mixed Tryz.func124 W124_chk (W124_eq v0 w K) Tryz.call124 h
def plan125 : Plan := { js := [(62, ⟨[3], [3], 26⟩), (56, ⟨[3], [3], 26⟩), (45, ⟨[3, 25], [3, 4], 25⟩)], ds := [] }
def W125 (v0 : Value) (w : World) (K : Value → World → Prop) : Prop :=
  boxW 40 v0 w fun t1 w1 =>
  fldW 0 t1 fun t5 =>
  ldW false 1 t5 w1 fun t6 =>
  binW .eql t6 (.int .i64 0) fun t8 =>
  condW t8 (
    K (.string (ofL [110, 117, 108, 108])) w1) (
    binW .eql t6 (.int .i64 2) fun t10 =>
    condW t10 (
      fldW 1 t1 fun t11 =>
      ldW false 1 t11 w1 fun t12 =>
      condW t12 (
        K (.string (ofL [116, 114, 117, 101])) w1) (
        K (.string (ofL [102, 97, 108, 115, 101])) w1)) (
      binW .eql t6 (.int .i64 3) fun t14 =>
      condW t14 (
        fldW 2 t1 fun t15 =>
        ldW false 1 t15 w1 fun t16 =>
        K t16 w1) (
        binW .eql t6 (.int .i64 4) fun t18 =>
        condW t18 (
          fldW 2 t1 fun t19 =>
          ldW false 1 t19 w1 fun t20 =>
          callF Tryz.prog 99 [t20] w1 fun t21 w2 =>
          K t21 w2) (
          fldW 3 t1 fun t22 =>
          ldW false 1 t22 w1 fun t23 =>
          lenlW t23 fun t24 =>
          LoopW [(.string (ofL [])), (.int .i64 0)] w1 fun s3 _ w4 L3 =>
            binW .lss (s3.getD 1 undef) t24 fun t26 =>
            condW t26 (
              JoinW (fun J5 =>
                binW .gtr (s3.getD 1 undef) (.int .i64 0) fun t29 =>
                condW t29 (
                  binW .add (s3.getD 0 undef) (.string (ofL [44])) fun t31 =>
                  J5 [t31] w4) (
                  J5 [(s3.getD 0 undef)] w4))
              fun s5 _ w6 =>
              JoinW (fun J7 =>
                fldW 0 t1 fun t32 =>
                ldW false 1 t32 w6 fun t33 =>
                binW .eql t33 (.int .i64 6) fun t34 =>
                condW t34 (
                  fldW 4 t1 fun t36 =>
                  ldW false 1 t36 w6 fun t37 =>
                  ixaW none 1 t37 (s3.getD 1 undef) fun t39 =>
                  ldW false 1 t39 w6 fun t40 =>
                  callF Tryz.prog 99 [t40] w6 fun t41 w8 =>
                  binW .add (s5.getD 0 undef) t41 fun t42 =>
                  binW .add t42 (.string (ofL [58])) fun t43 =>
                  J7 [t43] w8) (
                  J7 [(s5.getD 0 undef)] w6))
              fun s7 _ w9 =>
              fldW 3 t1 fun t45 =>
              ldW false 1 t45 w9 fun t46 =>
              ixaW none 5 t46 (s3.getD 1 undef) fun t48 =>
              ldW true 5 t48 w9 fun t49 =>
              callF Tryz.prog 125 [t49] w9 fun t50 w10 =>
              binW .add (s7.getD 0 undef) t50 fun t51 =>
              binW .add (s3.getD 1 undef) (.int .i64 1) fun t52 =>
              L3 [t51, t52] w10) (
              fldW 0 t1 fun t53 =>
              ldW false 1 t53 w4 fun t54 =>
              binW .eql t54 (.int .i64 6) fun t55 =>
              condW t55 (
                binW .add (.string (ofL [123])) (s3.getD 0 undef) fun t57 =>
                binW .add t57 (.string (ofL [125])) fun t58 =>
                K t58 w4) (
                binW .add (.string (ofL [91])) (s3.getD 0 undef) fun t60 =>
                binW .add t60 (.string (ofL [93])) fun t61 =>
                K t61 w4))))))
theorem W125_eq (v0 : Value) (w : World) (K : Value → World → Prop) : funW Tryz.prog Tryz.f125 plan125 [v0] w K = W125 v0 w K := by kernel_rfl
theorem W125_chk : chkFun Tryz.prog Tryz.f125 plan125 1 = true := by kernel_rfl
theorem W125_ok {v0 : Value} {w : World} {K : Value → World → Prop} (h : W125 v0 w K) : callF Tryz.prog 125 [v0] w K :=
  tie Tryz.prog 125 Tryz.f125 plan125 [v0] w K 1 (W125 v0 w K) rfl mixed Tryz.func125 W125_chk (W125_eq v0 w K) Tryz.call125 h
def plan65 : Plan := { js := [], ds := [] }
def W65 (v0 : Value) (w : World) (K : Value → World → Prop) : Prop :=
  boxW 40 v0 w fun t1 w1 =>
  ldW true 5 t1 w1 fun t5 =>
  callF Tryz.prog 66 [t5] w1 fun t6 w2 =>
  unW .not t6 fun t7 =>
  condW t7 (
    K (.tuple #[(.string (ofL [])), (.int .i64 1)]) w2) (
    ldW true 5 t1 w2 fun t8 =>
    callF Tryz.prog 67 [t8] w2 fun t9 w3 =>
    unW .not t9 fun t10 =>
    condW t10 (
      K (.tuple #[(.string (ofL [])), (.int .i64 20)]) w3) (
      ldW true 5 t1 w3 fun t11 =>
      callF Tryz.prog 124 [t11] w3 fun t12 w4 =>
      unW .not t12 fun t13 =>
      condW t13 (
        K (.tuple #[(.string (ofL [])), (.int .i64 31)]) w4) (
        ldW true 5 t1 w4 fun t14 =>
        callF Tryz.prog 125 [t14] w4 fun t15 w5 =>
        lensW t15 fun t17 =>
        binW .gtr t17 (.int .i64 65536) fun t18 =>
        condW t18 (
          K (.tuple #[(.string (ofL [])), (.int .i64 3)]) w5) (
          K (.tuple #[t15, (.int .i64 0)]) w5))))
theorem W65_eq (v0 : Value) (w : World) (K : Value → World → Prop) : funW Tryz.prog Tryz.f65 plan65 [v0] w K = W65 v0 w K := by kernel_rfl
theorem W65_chk : chkFun Tryz.prog Tryz.f65 plan65 1 = true := by kernel_rfl
theorem W65_ok {v0 : Value} {w : World} {K : Value → World → Prop} (h : W65 v0 w K) : callF Tryz.prog 65 [v0] w K :=
  tie Tryz.prog 65 Tryz.f65 plan65 [v0] w K 1 (W65 v0 w K) rfl mixed Tryz.func65 W65_chk (W65_eq v0 w K) Tryz.call65 h
def plan64 : Plan := { js := [(6, ⟨[3], [], 1⟩)], ds := [] }
def W64 (v0 : Value) (w : World) (K : Value → World → Prop) : Prop :=
  LoopW [(.int .i64 0)] w fun s1 _ w2 L1 =>
    lensW v0 fun t7 =>
    binW .lss (s1.getD 0 undef) t7 fun t8 =>
    condW t8 (
      callF Tryz.prog 123 [v0, (s1.getD 0 undef)] w2 fun t11 w3 =>
      binW .eql t11 (.int .i64 0) fun t13 =>
      condW t13 (
        K (s1.getD 0 undef) w3) (
        binW .add (s1.getD 0 undef) t11 fun t17 =>
        L1 [t17] w3)) (
      K (.int .i64 (-1)) w2)
theorem W64_eq (v0 : Value) (w : World) (K : Value → World → Prop) : funW Tryz.prog Tryz.f64 plan64 [v0] w K = W64 v0 w K := by kernel_rfl
theorem W64_chk : chkFun Tryz.prog Tryz.f64 plan64 1 = true := by kernel_rfl
theorem W64_ok {v0 : Value} {w : World} {K : Value → World → Prop} (h : W64 v0 w K) : callF Tryz.prog 64 [v0] w K :=
  tie Tryz.prog 64 Tryz.f64 plan64 [v0] w K 1 (W64 v0 w K) rfl mixed Tryz.func64 W64_chk (W64_eq v0 w K) Tryz.call64 h
def plan99 : Plan := { js := [(15, ⟨[3], [3], 5⟩), (22, ⟨[32], [], 17⟩), (8, ⟨[3, 4], [], 1⟩)], ds := [] }
def W99 (v0 : Value) (w : World) (K : Value → World → Prop) : Prop :=
  bslW 5 1 [(.int .u8 0)] [(0, 1, (.int .u8 34))] w fun t6 w1 =>
  LoopW [t6, (.int .i64 0)] w1 fun s2 _ w3 L2 =>
    lensW v0 fun t9 =>
    binW .lss (s2.getD 1 undef) t9 fun t10 =>
    condW t10 (
      JoinW (fun J4 =>
        ixsW v0 (s2.getD 1 undef) fun t15 =>
        JoinW (fun J5 =>
          binW .eql t15 (.int .u8 34) fun t33 =>
          condW t33 (
            J5 [t33] w3) (
            binW .eql t15 (.int .u8 92) fun t34 =>
            J5 [t34] w3))
        fun s5 _ w6 =>
        condW (s5.getD 0 undef) (
          bslW 5 2 [(.int .u8 0), (.int .u8 0)] [(0, 1, (.int .u8 92)), (1, 1, t15)] w6 fun t37 w7 =>
          semE Tryz.prog (Builtin.append_ #[27, 27] 27 #[(s2.getD 0 undef), t37]) w7 fun t38 w8 =>
          J4 [t38] w8) (
          binW .eql t15 (.int .u8 8) fun t40 =>
          condW t40 (
            bslW 5 2 [(.int .u8 0), (.int .u8 0)] [(0, 1, (.int .u8 92)), (1, 1, (.int .u8 98))] w6 fun t42 w9 =>
            semE Tryz.prog (Builtin.append_ #[27, 27] 27 #[(s2.getD 0 undef), t42]) w9 fun t43 w10 =>
            J4 [t43] w10) (
            binW .eql t15 (.int .u8 12) fun t45 =>
            condW t45 (
              bslW 5 2 [(.int .u8 0), (.int .u8 0)] [(0, 1, (.int .u8 92)), (1, 1, (.int .u8 102))] w6 fun t47 w11 =>
              semE Tryz.prog (Builtin.append_ #[27, 27] 27 #[(s2.getD 0 undef), t47]) w11 fun t48 w12 =>
              J4 [t48] w12) (
              binW .eql t15 (.int .u8 10) fun t50 =>
              condW t50 (
                bslW 5 2 [(.int .u8 0), (.int .u8 0)] [(0, 1, (.int .u8 92)), (1, 1, (.int .u8 110))] w6 fun t52 w13 =>
                semE Tryz.prog (Builtin.append_ #[27, 27] 27 #[(s2.getD 0 undef), t52]) w13 fun t53 w14 =>
                J4 [t53] w14) (
                binW .eql t15 (.int .u8 13) fun t55 =>
                condW t55 (
                  bslW 5 2 [(.int .u8 0), (.int .u8 0)] [(0, 1, (.int .u8 92)), (1, 1, (.int .u8 114))] w6 fun t57 w15 =>
                  semE Tryz.prog (Builtin.append_ #[27, 27] 27 #[(s2.getD 0 undef), t57]) w15 fun t58 w16 =>
                  J4 [t58] w16) (
                  binW .eql t15 (.int .u8 9) fun t60 =>
                  condW t60 (
                    bslW 5 2 [(.int .u8 0), (.int .u8 0)] [(0, 1, (.int .u8 92)), (1, 1, (.int .u8 116))] w6 fun t62 w17 =>
                    semE Tryz.prog (Builtin.append_ #[27, 27] 27 #[(s2.getD 0 undef), t62]) w17 fun t63 w18 =>
                    J4 [t63] w18) (
                    binW .lss t15 (.int .u8 32) fun t18 =>
                    condW t18 (
                      binW .quo t15 (.int .u8 16) fun t21 =>
                      binW .add (.int .u8 48) t21 fun t22 =>
                      binW .rem t15 (.int .u8 16) fun t24 =>
                      ixsW (.string (ofL [48, 49, 50, 51, 52, 53, 54, 55, 56, 57, 97, 98, 99, 100, 101, 102])) t24 fun t25 =>
                      bslW 5 6 [(.int .u8 0), (.int .u8 0), (.int .u8 0), (.int .u8 0), (.int .u8 0), (.int .u8 0)] [(0, 1, (.int .u8 92)), (1, 1, (.int .u8 117)), (2, 1, (.int .u8 48)), (3, 1, (.int .u8 48)), (4, 1, t22), (5, 1, t25)] w6 fun t26 w19 =>
                      semE Tryz.prog (Builtin.append_ #[27, 27] 27 #[(s2.getD 0 undef), t26]) w19 fun t27 w20 =>
                      J4 [t27] w20) (
                      bslW 5 1 [(.int .u8 0)] [(0, 1, t15)] w6 fun t30 w21 =>
                      semE Tryz.prog (Builtin.append_ #[27, 27] 27 #[(s2.getD 0 undef), t30]) w21 fun t31 w22 =>
                      J4 [t31] w22))))))))
      fun s4 _ w23 =>
      binW .add (s2.getD 1 undef) (.int .i64 1) fun t12 =>
      L2 [(s4.getD 0 undef), t12] w23) (
      bslW 5 1 [(.int .u8 0)] [(0, 1, (.int .u8 34))] w3 fun t65 w24 =>
      semE Tryz.prog (Builtin.append_ #[27, 27] 27 #[(s2.getD 0 undef), t65]) w24 fun t66 w25 =>
      semQ Tryz.prog (convert 27 9 t66) w25 fun t67 =>
      K t67 w25)
theorem W99_eq (v0 : Value) (w : World) (K : Value → World → Prop) : funW Tryz.prog Tryz.f99 plan99 [v0] w K = W99 v0 w K := by kernel_rfl
theorem W99_chk : chkFun Tryz.prog Tryz.f99 plan99 1 = true := by kernel_rfl
theorem W99_ok {v0 : Value} {w : World} {K : Value → World → Prop} (h : W99 v0 w K) : callF Tryz.prog 99 [v0] w K :=
  tie Tryz.prog 99 Tryz.f99 plan99 [v0] w K 1 (W99 v0 w K) rfl mixed Tryz.func99 W99_chk (W99_eq v0 w K) Tryz.call99 h
def plan108 : Plan := { js := [], ds := [] }
def W108 (v0 : Value) (w : World) (K : Value → World → Prop) : Prop :=
  callF Tryz.prog 100 [v0] w fun t4 w1 =>
  unW .not t4 fun t5 =>
  K t5 w1
theorem W108_eq (v0 : Value) (w : World) (K : Value → World → Prop) : funW Tryz.prog Tryz.f108 plan108 [v0] w K = W108 v0 w K := by kernel_rfl
theorem W108_chk : chkFun Tryz.prog Tryz.f108 plan108 1 = true := by kernel_rfl
theorem W108_ok {v0 : Value} {w : World} {K : Value → World → Prop} (h : W108 v0 w K) : callF Tryz.prog 108 [v0] w K :=
  tie Tryz.prog 108 Tryz.f108 plan108 [v0] w K 1 (W108 v0 w K) rfl mixed Tryz.func108 W108_chk (W108_eq v0 w K) Tryz.call108 h
def plan109 : Plan := { js := [], ds := [] }
def W109 (v0 : Value) (w : World) (K : Value → World → Prop) : Prop :=
  boxW 40 v0 w fun t1 w1 =>
  ldW true 5 t1 w1 fun t3 =>
  callF Tryz.prog 51 [t3] w1 fun t4 w2 =>
  unW .not t4 fun t5 =>
  K t5 w2
theorem W109_eq (v0 : Value) (w : World) (K : Value → World → Prop) : funW Tryz.prog Tryz.f109 plan109 [v0] w K = W109 v0 w K := by kernel_rfl
theorem W109_chk : chkFun Tryz.prog Tryz.f109 plan109 1 = true := by kernel_rfl
theorem W109_ok {v0 : Value} {w : World} {K : Value → World → Prop} (h : W109 v0 w K) : callF Tryz.prog 109 [v0] w K :=
  tie Tryz.prog 109 Tryz.f109 plan109 [v0] w K 1 (W109 v0 w K) rfl mixed Tryz.func109 W109_chk (W109_eq v0 w K) Tryz.call109 h
def plan111 : Plan := { js := [(6, ⟨[], [5, 6], 11⟩)], ds := [] }
def W111 (v0 v1 : Value) (w : World) (K : Value → World → Prop) : Prop :=
  callF Tryz.prog 91 [v0, (.int .u8 34)] w fun t8 w1 =>
  semE Tryz.prog (Instr.range 9 v1) w1 fun t10 w2 =>
  LoopW [] w2 fun s3 _ w4 L3 =>
    semE Tryz.prog (Instr.next t10 true 0) w4 fun t11 w5 =>
    extW 0 t11 fun t12 =>
    condW t12 (
      extW 2 t11 fun t13 =>
      callF Tryz.prog 165 [t13] w5 fun t15 w6 =>
      binW .neq t15 (.int .u8 0) fun t21 =>
      condW t21 (
        cvtW .i32 t15 fun t24 =>
        cvsW t24 fun t25 =>
        binW .add (.string (ofL [92])) t25 fun t26 =>
        callF Tryz.prog 89 [v0, t26] w6 fun t27 w7 =>
        L3 [] w7) (
        binW .lss t13 (.int .i32 32) fun t30 =>
        condW t30 (
          cvtW .i64 t13 fun t33 =>
          binW .add t33 (.int .i64 256) fun t34 =>
          callF Tryz.prog 166 [t34, (.int .i64 16)] w6 fun t35 w8 =>
          slsW t35 (some (.int .i64 1)) none fun t36 =>
          binW .add (.string (ofL [92, 117, 48, 48])) t36 fun t37 =>
          callF Tryz.prog 89 [v0, t37] w8 fun t38 w9 =>
          L3 [] w9) (
          callF Tryz.prog 167 [v0, t13] w6 fun t18 w10 =>
          L3 [] w10))) (
      callF Tryz.prog 91 [v0, (.int .u8 34)] w5 fun t40 w11 =>
      K (.tuple #[]) w11)
theorem W111_eq (v0 v1 : Value) (w : World) (K : Value → World → Prop) : funW Tryz.prog Tryz.f111 plan111 [v0, v1] w K = W111 v0 v1 w K := by kernel_rfl
theorem W111_chk : chkFun Tryz.prog Tryz.f111 plan111 2 = true := by kernel_rfl
theorem W111_ok {v0 v1 : Value} {w : World} {K : Value → World → Prop} (h : W111 v0 v1 w K) : callF Tryz.prog 111 [v0, v1] w K :=
  tie Tryz.prog 111 Tryz.f111 plan111 [v0, v1] w K 2 (W111 v0 v1 w K) rfl mixed Tryz.func111 W111_chk (W111_eq v0 v1 w K) Tryz.call111 h
def plan165 : Plan := { js := [(6, ⟨[4], [], 4⟩)], ds := [] }
def W165 (v0 : Value) (w : World) (K : Value → World → Prop) : Prop :=
  JoinW (fun J1 =>
    binW .eql v0 (.int .i32 34) fun t5 =>
    condW t5 (
      J1 [t5] w) (
      binW .eql v0 (.int .i32 92) fun t6 =>
      J1 [t6] w))
  fun s1 _ w2 =>
  condW (s1.getD 0 undef) (
    cvtW .u8 v0 fun t8 =>
    K t8 w2) (
    binW .eql v0 (.int .i32 8) fun t10 =>
    condW t10 (
      K (.int .u8 98) w2) (
      binW .eql v0 (.int .i32 12) fun t12 =>
      condW t12 (
        K (.int .u8 102) w2) (
        binW .eql v0 (.int .i32 10) fun t14 =>
        condW t14 (
          K (.int .u8 110) w2) (
          binW .eql v0 (.int .i32 13) fun t16 =>
          condW t16 (
            K (.int .u8 114) w2) (
            binW .eql v0 (.int .i32 9) fun t18 =>
            condW t18 (
              K (.int .u8 116) w2) (
              K (.int .u8 0) w2))))))
theorem W165_eq (v0 : Value) (w : World) (K : Value → World → Prop) : funW Tryz.prog Tryz.f165 plan165 [v0] w K = W165 v0 w K := by kernel_rfl
theorem W165_chk : chkFun Tryz.prog Tryz.f165 plan165 1 = true := by kernel_rfl
theorem W165_ok {v0 : Value} {w : World} {K : Value → World → Prop} (h : W165 v0 w K) : callF Tryz.prog 165 [v0] w K :=
  tie Tryz.prog 165 Tryz.f165 plan165 [v0] w K 1 (W165 v0 w K) rfl mixed Tryz.func165 W165_chk (W165_eq v0 w K) Tryz.call165 h
def plan47 : Plan := { js := [], ds := [] }
def W47 (v0 : Value) (w : World) (K : Value → World → Prop) : Prop :=
  boxW 40 v0 w fun t1 w1 =>
  allocW 3 [(.int .i64 0)] w1 fun t3 w2 =>
  stW 1 t3 (.int .i64 2000) w2 fun w3 =>
  ldW true 5 t1 w3 fun t4 =>
  callF Tryz.prog 101 [t4, (.int .i64 24), t3] w3 fun t5 w4 =>
  K t5 w4
theorem W47_eq (v0 : Value) (w : World) (K : Value → World → Prop) : funW Tryz.prog Tryz.f47 plan47 [v0] w K = W47 v0 w K := by kernel_rfl
theorem W47_chk : chkFun Tryz.prog Tryz.f47 plan47 1 = true := by kernel_rfl
theorem W47_ok {v0 : Value} {w : World} {K : Value → World → Prop} (h : W47 v0 w K) : callF Tryz.prog 47 [v0] w K :=
  tie Tryz.prog 47 Tryz.f47 plan47 [v0] w K 1 (W47 v0 w K) rfl mixed Tryz.func47 W47_chk (W47_eq v0 w K) Tryz.call47 h
def plan101 : Plan := { js := [(89007, ⟨[130], [], 126⟩), (12, ⟨[], [], 6⟩), (78002, ⟨[119], [], 108⟩), (78010, ⟨[118], [], 111⟩), (78013, ⟨[110], [], 108⟩), (66, ⟨[99], [6, 7, 8], 99⟩), (40010, ⟨[79], [], 72⟩), (34010, ⟨[63], [], 56⟩), (28010, ⟨[48], [], 41⟩), (16, ⟨[33], [], 33⟩), (6002, ⟨[29], [], 23⟩), (6005, ⟨[28], [], 26⟩), (6008, ⟨[25], [], 23⟩), (6014, ⟨[20], [], 17⟩)], ds := [] }
def W101 (v0 v1 v2 : Value) (w : World) (K : Value → World → Prop) : Prop :=
  boxW 40 v0 w fun t3 w1 =>
  boxW 3 v1 w1 fun t4 w2 =>
  boxW 141 v2 w2 fun t5 w3 =>
  ldW false 1 t5 w3 fun t9 =>
  nilW t9 fun t10 =>
  ldW false 1 t10 w3 fun t11 =>
  binW .sub t11 (.int .i64 1) fun t12 =>
  nilW t9 fun t13 =>
  stW 1 t13 t12 w3 fun w4 =>
  ldW false 1 t4 w4 fun t14 =>
  binW .eql t14 (.int .i64 0) fun t15 =>
  GdW (isB t15 false) [undef] w4 (fun J5 =>
    ldW false 1 t5 w4 fun t17 =>
    nilW t17 fun t18 =>
    ldW false 1 t18 w4 fun t19 =>
    binW .lss t19 (.int .i64 0) fun t20 =>
    J5 [t20] w4)
  fun s5 _ w6 =>
  pickW t15 (.bool true) (s5.getD 0 undef) fun t21 =>
  GdW (isB t21 false) [undef] w6 (fun J7 =>
    fldW 1 t3 fun t23 =>
    ldW false 1 t23 w6 fun t24 =>
    J7 [t24] w6)
  fun s7 _ w8 =>
  GdW (isB (s7.getD 0 undef) true) [undef] w8 (fun J9 =>
    fldW 0 t3 fun t26 =>
    ldW false 1 t26 w8 fun t27 =>
    binW .neq t27 (.int .i64 2) fun t28 =>
    J9 [t28] w8)
  fun s9 _ w10 =>
  GdW (isB t21 false) [undef] w10 (fun J11 =>
    pickW (s7.getD 0 undef) (s9.getD 0 undef) (.bool false) fun t29 =>
    J11 [t29] w10)
  fun s11 _ w12 =>
  pickW t21 (.bool true) (s11.getD 0 undef) fun t30 =>
  condW t30 (
    K (.bool false) w12) (
    JoinW (fun J13 =>
      fldW 0 t3 fun t31 =>
      ldW false 1 t31 w12 fun t32 =>
      JoinW (fun J14 =>
        binW .eql t32 (.int .i64 0) fun t34 =>
        condW t34 (
          J14 [t34] w12) (
          binW .eql t32 (.int .i64 1) fun t35 =>
          condW t35 (
            J14 [t35] w12) (
            binW .eql t32 (.int .i64 2) fun t36 =>
            J14 [t36] w12)))
      fun s14 _ w15 =>
      condW (s14.getD 0 undef) (
        fldW 2 t3 fun t37 =>
        ldW false 1 t37 w15 fun t38 =>
        binW .eql t38 (.string (ofL [])) fun t39 =>
        GdW (isB t39 true) [undef] w15 (fun J16 =>
          fldW 3 t3 fun t41 =>
          ldW false 1 t41 w15 fun t42 =>
          lenlW t42 fun t43 =>
          fldW 4 t3 fun t44 =>
          ldW false 1 t44 w15 fun t45 =>
          lenlW t45 fun t46 =>
          binW .add t43 t46 fun t47 =>
          binW .eql t47 (.int .i64 0) fun t48 =>
          J16 [t48] w15)
        fun s16 _ w17 =>
        pickW t39 (s16.getD 0 undef) (.bool false) fun t49 =>
        K t49 w17) (
        binW .eql t32 (.int .i64 3) fun t51 =>
        condW t51 (
          fldW 2 t3 fun t52 =>
          ldW false 1 t52 w15 fun t53 =>
          callF Tryz.prog 62 [t53] w15 fun t54 w18 =>
          GdW (isB t54 true) [undef] w18 (fun J19 =>
            fldW 3 t3 fun t56 =>
            ldW false 1 t56 w18 fun t57 =>
            lenlW t57 fun t58 =>
            fldW 4 t3 fun t59 =>
            ldW false 1 t59 w18 fun t60 =>
            lenlW t60 fun t61 =>
            binW .add t58 t61 fun t62 =>
            binW .eql t62 (.int .i64 0) fun t63 =>
            J19 [t63] w18)
          fun s19 _ w20 =>
          pickW t54 (s19.getD 0 undef) (.bool false) fun t64 =>
          K t64 w20) (
          binW .eql t32 (.int .i64 4) fun t66 =>
          condW t66 (
            fldW 2 t3 fun t67 =>
            ldW false 1 t67 w15 fun t68 =>
            lensW t68 fun t69 =>
            binW .leq t69 (.int .i64 16384) fun t70 =>
            GdW (isB t70 true) [undef] w15 (fun J21 =>
              fldW 3 t3 fun t72 =>
              ldW false 1 t72 w15 fun t73 =>
              lenlW t73 fun t74 =>
              fldW 4 t3 fun t75 =>
              ldW false 1 t75 w15 fun t76 =>
              lenlW t76 fun t77 =>
              binW .add t74 t77 fun t78 =>
              binW .eql t78 (.int .i64 0) fun t79 =>
              J21 [t79] w15)
            fun s21 _ w22 =>
            pickW t70 (s21.getD 0 undef) (.bool false) fun t80 =>
            K t80 w22) (
            binW .eql t32 (.int .i64 5) fun t82 =>
            condW t82 (
              fldW 4 t3 fun t83 =>
              ldW false 1 t83 w15 fun t84 =>
              lenlW t84 fun t85 =>
              binW .gtr t85 (.int .i64 0) fun t86 =>
              condW t86 (
                K (.bool false) w15) (
                J13 [] w15)) (
              binW .eql t32 (.int .i64 6) fun t88 =>
              condW t88 (
                fldW 4 t3 fun t89 =>
                ldW false 1 t89 w15 fun t90 =>
                lenlW t90 fun t91 =>
                fldW 3 t3 fun t92 =>
                ldW false 1 t92 w15 fun t93 =>
                lenlW t93 fun t94 =>
                binW .neq t91 t94 fun t95 =>
                condW t95 (
                  K (.bool false) w15) (
                  fldW 4 t3 fun t96 =>
                  ldW false 1 t96 w15 fun t97 =>
                  lenlW t97 fun t98 =>
                  LoopW [(.int .i64 0)] w15 fun s23 _ w24 L23 =>
                    binW .lss (s23.getD 0 undef) t98 fun t100 =>
                    condW t100 (
                      ixaW none 1 t97 (s23.getD 0 undef) fun t102 =>
                      ldW false 1 t102 w24 fun t103 =>
                      lensW t103 fun t105 =>
                      binW .gtr t105 (.int .i64 16384) fun t106 =>
                      GdW (isB t106 false) [undef] w24 (fun J25 =>
                        binW .gtr (s23.getD 0 undef) (.int .i64 0) fun t109 =>
                        J25 [t109] w24)
                      fun s25 _ w26 =>
                      GdW (isB (s25.getD 0 undef) true) [undef] w26 (fun J27 =>
                        fldW 4 t3 fun t111 =>
                        ldW false 1 t111 w26 fun t112 =>
                        binW .sub (s23.getD 0 undef) (.int .i64 1) fun t114 =>
                        ixaW none 1 t112 t114 fun t115 =>
                        ldW false 1 t115 w26 fun t116 =>
                        binW .geq t116 t103 fun t118 =>
                        J27 [t118] w26)
                      fun s27 _ w28 =>
                      GdW (isB t106 false) [undef] w28 (fun J29 =>
                        pickW (s25.getD 0 undef) (s27.getD 0 undef) (.bool false) fun t119 =>
                        J29 [t119] w28)
                      fun s29 _ w30 =>
                      pickW t106 (.bool true) (s29.getD 0 undef) fun t120 =>
                      condW t120 (
                        K (.bool false) w30) (
                        binW .add (s23.getD 0 undef) (.int .i64 1) fun t121 =>
                        L23 [t121] w30)) (
                      J13 [] w24))) (
                K (.bool false) w15))))))
    fun s13 _ w31 =>
    fldW 2 t3 fun t122 =>
    ldW false 1 t122 w31 fun t123 =>
    binW .eql t123 (.string (ofL [])) fun t124 =>
    GdW (isB t124 true) [undef] w31 (fun J32 =>
      fldW 3 t3 fun t126 =>
      ldW false 1 t126 w31 fun t127 =>
      callF Tryz.prog 102 [t127, (.func (.func 159) #[] #[t4, t5])] w31 fun t129 w33 =>
      unW .not t129 fun t130 =>
      J32 [t130] w33)
    fun s32 _ w34 =>
    pickW t124 (s32.getD 0 undef) (.bool false) fun t131 =>
    K t131 w34)
theorem W101_eq (v0 v1 v2 : Value) (w : World) (K : Value → World → Prop) : funW Tryz.prog Tryz.f101 plan101 [v0, v1, v2] w K = W101 v0 v1 v2 w K := by kernel_rfl
theorem W101_chk : chkFun Tryz.prog Tryz.f101 plan101 3 = true := by kernel_rfl
theorem W101_ok {v0 v1 v2 : Value} {w : World} {K : Value → World → Prop} (h : W101 v0 v1 v2 w K) : callF Tryz.prog 101 [v0, v1, v2] w K :=
  tie Tryz.prog 101 Tryz.f101 plan101 [v0, v1, v2] w K 3 (W101 v0 v1 v2 w K) rfl mixed Tryz.func101 W101_chk (W101_eq v0 v1 v2 w K) Tryz.call101 h
def plan159 : Plan := { js := [], ds := [] }
def W159 (v0 v1 v2 : Value) (w : World) (K : Value → World → Prop) : Prop :=
  boxW 40 v0 w fun t3 w1 =>
  ldW true 5 t3 w1 fun t5 =>
  ldW false 1 v1 w1 fun t6 =>
  binW .sub t6 (.int .i64 1) fun t7 =>
  ldW false 1 v2 w1 fun t8 =>
  callF Tryz.prog 101 [t5, t7, t8] w1 fun t9 w2 =>
  unW .not t9 fun t10 =>
  K t10 w2
theorem W159_eq (v0 v1 v2 : Value) (w : World) (K : Value → World → Prop) : funW Tryz.prog Tryz.f159 plan159 [v0, v1, v2] w K = W159 v0 v1 v2 w K := by kernel_rfl
theorem W159_chk : chkFun Tryz.prog Tryz.f159 plan159 3 = true := by kernel_rfl
theorem W159_ok {v0 v1 v2 : Value} {w : World} {K : Value → World → Prop} (h : W159 v0 v1 v2 w K) : callF Tryz.prog 159 [v0, v1, v2] w K :=
  tie Tryz.prog 159 Tryz.f159 plan159 [v0, v1, v2] w K 3 (W159 v0 v1 v2 w K) rfl mixed Tryz.func159 W159_chk (W159_eq v0 v1 v2 w K) Tryz.call159 h
end Go.Proofs.YtnoepcndjljolaaGreatDoor
namespace Go.Proofs.YtnoepcndjljolaaGreatDoor
open Go Go.Eng Go.RowKit
set_option maxRecDepth 100000
def shortM (r : Nat) : Nat := if r = 34 ∨ r = 92 then r else if r = 8 then 98 else if r = 12 then 102 else if r = 10 then 110 else if r = 13 then 114 else if r = 9 then 116 else 0
def hexS (r : Nat) : Str := [b8 (48 + r / 16), hexD (r % 16)]
theorem esc_short {c : UInt8} (h : shortM c.toNat ≠ 0) : escB c = [92, b8 (shortM c.toNat)] ∧ shortM c.toNat < 128 := by
  have e : ∀ n : Nat, n < 256 → (c = UInt8.ofNat n ↔ c.toNat = n) := fun n hn => by
    constructor
    · rintro rfl; simp only [UInt8.toNat_ofNat']; omega
    · intro h; rw [← h]; simp
  unfold shortM at h ⊢
  unfold escB
  by_cases a1 : c.toNat = 34 ∨ c.toNat = 92
  · rw [if_pos a1, if_pos (by rcases a1 with a | a; exact .inl ((e 34 (by omega)).2 a); exact .inr ((e 92 (by omega)).2 a))]
    refine ⟨?_, by omega⟩
    unfold b8; simp
  rw [if_neg a1] at h ⊢
  rw [if_neg (by rintro (a | a); exact a1 (.inl ((e 34 (by omega)).1 a)); exact a1 (.inr ((e 92 (by omega)).1 a)))]
  by_cases a2 : c.toNat = 8
  · rw [if_pos a2, if_pos (show c = (8 : UInt8) from (e 8 (by omega)).2 a2)]; exact ⟨rfl, by omega⟩
  rw [if_neg a2] at h ⊢
  rw [if_neg fun (a : c = (8 : UInt8)) => a2 ((e 8 (by omega)).1 a)]
  by_cases a3 : c.toNat = 12
  · rw [if_pos a3, if_pos (show c = (12 : UInt8) from (e 12 (by omega)).2 a3)]; exact ⟨rfl, by omega⟩
  rw [if_neg a3] at h ⊢
  rw [if_neg fun (a : c = (12 : UInt8)) => a3 ((e 12 (by omega)).1 a)]
  by_cases a4 : c.toNat = 10
  · rw [if_pos a4, if_pos (show c = (10 : UInt8) from (e 10 (by omega)).2 a4)]; exact ⟨rfl, by omega⟩
  rw [if_neg a4] at h ⊢
  rw [if_neg fun (a : c = (10 : UInt8)) => a4 ((e 10 (by omega)).1 a)]
  by_cases a5 : c.toNat = 13
  · rw [if_pos a5, if_pos (show c = (13 : UInt8) from (e 13 (by omega)).2 a5)]; exact ⟨rfl, by omega⟩
  rw [if_neg a5] at h ⊢
  rw [if_neg fun (a : c = (13 : UInt8)) => a5 ((e 13 (by omega)).1 a)]
  by_cases a6 : c.toNat = 9
  · rw [if_pos a6, if_pos (show c = (9 : UInt8) from (e 9 (by omega)).2 a6)]; exact ⟨rfl, by omega⟩
  rw [if_neg a6] at h
  exact absurd rfl h
theorem esc_long {c : UInt8} (h : shortM c.toNat = 0) : escB c = if c.toNat < 32 then [92, 117, 48, 48] ++ hexS c.toNat else [c] := by
  have e : ∀ n : Nat, n < 256 → c = UInt8.ofNat n → c.toNat = n := fun n hn a => by subst a; simp only [UInt8.toNat_ofNat']; omega
  have hn : ¬ (c.toNat = 34 ∨ c.toNat = 92) ∧ c.toNat ≠ 8 ∧ c.toNat ≠ 12 ∧ c.toNat ≠ 10 ∧ c.toNat ≠ 13 ∧ c.toNat ≠ 9 := by
    unfold shortM at h
    split at h
    · omega
    · repeat' split at h
      all_goals omega
  obtain ⟨n1, n2, n3, n4, n5, n6⟩ := hn
  unfold escB
  rw [if_neg (by rintro (a | a); exact n1 (.inl (e 34 (by omega) a)); exact n1 (.inr (e 92 (by omega) a))), if_neg fun (a : c = (8 : UInt8)) => n2 (e 8 (by omega) a), if_neg fun (a : c = (12 : UInt8)) => n3 (e 12 (by omega) a), if_neg fun (a : c = (10 : UInt8)) => n4 (e 10 (by omega) a), if_neg fun (a : c = (13 : UInt8)) => n5 (e 13 (by omega) a), if_neg fun (a : c = (9 : UInt8)) => n6 (e 9 (by omega) a)]
  by_cases a : c.toNat < 32
  · rw [if_pos a, if_pos (show c < 32 from a)]; rfl
  · rw [if_neg a, if_neg (show ¬ c < 32 from a)]
theorem enc_low {n : Nat} (h : n < 128) : Utf8.encode (n : Int) = ofL [b8 n] := by
  unfold Utf8.encode
  have : Utf8.valid (n : Int) = true := by unfold Utf8.valid; simp only [Bool.or_eq_true, Bool.and_eq_true, decide_eq_true_eq]; omega
  simp only [this, if_true, Int.toNat_natCast]
  rw [if_pos h]; rfl
section
variable [HX]
def FmtOk (w0 : World) : Prop := ∀ r : Nat, r < 32 → ∀ (w : World) (K : Value → World → Prop), Ext w0 w → (∀ w', Ext w w' → K (str ([49] ++ hexS r)) w') → callF Tryz.prog 166 [i64 ((r + 256 : Nat) : Int), i64 16] w K
theorem short_p {r : Nat} {w : World} {K : Value → World → Prop} (hr : r ≤ 1114111) (hK : K (u8 (shortM r)) w) : callF Tryz.prog 165 [.int .i32 (r : Int)] w K := by
  refine W165_ok ?_
  unfold W165
  unfold shortM at hK
  refine JoinW.cut (fun s' w' => s' = [.bool (decide (r = 34 ∨ r = 92))] ∧ w' = w) ?_ ?_
  · rw [bin_eql, condW_dec]
    refine ⟨fun h => ?_, fun h => ?_⟩
    · rw [decide_eq_true h, decide_eq_true (.inl (by omega))]; exact ⟨rfl, rfl⟩
    · rw [bin_eql]
      rw [show decide (((r : Nat) : Int) = 92) = decide (r = 34 ∨ r = 92) by rw [decide_eq_decide]; omega]
      exact ⟨rfl, rfl⟩
  rintro s' g w' ⟨rfl, rfl⟩
  simp only [List.getD_cons_zero]
  rw [condW_dec]
  refine ⟨fun h => ?_, fun h => ?_⟩
  · rw [cvt_int, u8_wrap, Nat.mod_eq_of_lt (by omega)]
    rw [if_pos h] at hK; exact hK
  rw [if_neg h] at hK
  rw [bin_eql, condW_dec]
  refine ⟨fun h => by rw [if_pos (by omega)] at hK; exact hK, fun h => ?_⟩
  rw [if_neg (by omega)] at hK
  rw [bin_eql, condW_dec]
  refine ⟨fun h => by rw [if_pos (by omega)] at hK; exact hK, fun h => ?_⟩
  rw [if_neg (by omega)] at hK
  rw [bin_eql, condW_dec]
  refine ⟨fun h => by rw [if_pos (by omega)] at hK; exact hK, fun h => ?_⟩
  rw [if_neg (by omega)] at hK
  rw [bin_eql, condW_dec]
  refine ⟨fun h => by rw [if_pos (by omega)] at hK; exact hK, fun h => ?_⟩
  rw [if_neg (by omega)] at hK
  rw [bin_eql, condW_dec]
  refine ⟨fun h => by rw [if_pos (by omega)] at hK; exact hK, fun h => ?_⟩
  rw [if_neg (by omega)] at hK
  exact hK
theorem i32_wrap {n : Nat} (h : n < 2147483648) : IntKind.i32.wrap (n : Int) = (n : Int) := by
  have e1 : (2 : Int) ^ 32 = 4294967296 := by decide
  have e2 : (2 : Int) ^ (32 - 1) = 2147483648 := by decide
  simp only [IntKind.wrap, IntKind.bits, IntKind.signed, Bool.true_and, e1, e2]
  rw [if_neg (by simp; omega)]
  omega
theorem flat_len (s : Str) : (s.flatMap escB).length ≤ 6 * s.length := by
  induction s with
  | nil => simp
  | cons c s ih => rw [List.flatMap_cons, List.length_append, List.length_cons]; have := escB_le c; omega
theorem short_high {r : Nat} (h : 128 ≤ r) : shortM r = 0 := by unfold shortM; repeat' split
                                                                all_goals omega
theorem quote_p {w0 w : World} {B b : Nat} {l s : Str} {K : Value → World → Prop} (h0 : Ext w0 w) (hB0 : w0.heap.size ≤ B) (h : Bld w B b l) (hB : B ≤ w.heap.size) (hs : Utf s) (hl : l.length + 6 * s.length + 2 ≤ 1000000000) (hF : ∀ c ∈ s, c.toNat < 32 → FmtOk w0)
    (hK : ∀ w', Bld w' B b (l ++ quoteM s) → Chg (BCh w B b) w w' → K (.tuple #[]) w') : callF Tryz.prog 111 [.pointer (some ⟨b, 0, none⟩), str s] w K := by
  have hb := h.base
  have hbl := h.lt
  refine W111_ok ?_
  unfold W111
  refine wbyte_p (n := 34) h hB (by omega) (by omega) fun w1 h1 hc1 => ?_
  refine range_str ?_
  have hz1 := hc1.size
  have hc2 : Chg (BCh w B b) w (w1.alloc (.stringIter (ofL s) 0)) := BCh.ext hc1 (Chg.alloc (Chg.refl _ _) _)
  refine ⟨fun s' w4 => ∃ p, p ≤ s.length ∧ s' = [] ∧ Utf (s.drop p) ∧ w4.heap[w1.heap.size]? = some (.stringIter (ofL s) p) ∧ Bld w4 B b (l ++ [34] ++ (s.take p).flatMap escB) ∧ Chg (BCh w B b) w w4,
    fun _ w4 => match w4.heap[w1.heap.size]? with | some (.stringIter _ p) => s.length - p | _ => 0,
    ⟨0, Nat.zero_le _, rfl, by rw [List.drop_zero]; exact hs, heap_anew _ _ _ rfl, by rw [List.take_zero, List.flatMap_nil, List.append_nil]; exact h1.ext (Chg.alloc (Chg.refl _ _) _), hc2⟩, ?_⟩
  rintro s' g w4 ⟨p, hp, rfl, hu, hit, h4, hc4⟩
  have hz4 := hc4.size
  have hfl := flat_len (s.take p)
  have htl : (s.take p).length = p := by rw [List.length_take]; omega
  have hll : (l ++ [34] ++ (s.take p).flatMap escB).length = l.length + 1 + ((s.take p).flatMap escB).length := by simp only [List.length_append, List.length_cons, List.length_nil]
  refine next_str hit (fun hpe => ?_) (fun hpl w5 hit5 hc5 hz5 => ?_)
  · rw [ext_tuple]
    refine ⟨.bool false, rfl, ?_⟩
    rw [condW_false]
    obtain rfl : p = s.length := by omega
    rw [List.take_length] at h4 hll hfl
    refine wbyte_p (n := 34) h4 (by omega) (by omega) (by omega) fun w6 h6 hc6 => ?_
    refine hK w6 ?_ (BCh.trans hc4 hc6)
    rw [List.append_assoc, List.append_assoc] at h6
    unfold quoteM
    rw [List.append_assoc]
    exact h6
  · have hne : s.drop p ≠ [] := fun e => by have := List.drop_eq_nil_iff.1 e; omega
    -- the rune that comes next
    obtain ⟨u, r, hru, hur, hdr⟩ : ∃ u r, Rn u ∧ Utf r ∧ s.drop p = u ++ r := by
      cases hd : s.drop p with
      | nil => exact absurd hd hne
      | cons x y =>
        rw [hd] at hu
        generalize he : x :: y = z at hu
        cases hu with
        | nil => cases he
        | cons h1 h2 => exact ⟨_, _, h1, h2, rfl⟩
    have hrm : runeM s p = u.length := hru.at hdr
    have hup := hru.pos
    obtain ⟨c, hc⟩ := rune_good hpl (by omega)
    rw [hrm] at hc
    have htk : (s.drop p).take u.length = u := by rw [hdr, List.take_left]
    have hnext : s.take (p + u.length) = s.take p ++ u := by rw [List.take_add, htk]
    have hdr2 : s.drop (p + u.length) = r := drop_app hdr
    have hdec := hc.dec
    have hct := hc.top
    have hcv := hc.val
    have hcu : wrM c = u := by rw [← wr_enc (by omega), hc.bytes, htk]
    rw [hdec] at hit5
    have h5 : Bld w5 B b (l ++ [34] ++ (s.take p).flatMap escB) := h4.chg hc5 (fun e => by have := h1.lt; have := e; omega) fun k hk e => by
      obtain ⟨_, c', hc'⟩ := hk
      have e : k = w1.heap.size := e
      rw [e, hit] at hc'; cases hc'
    have hc5' : Chg (BCh w B b) w w5 := hc4.then hc5 fun k hk e => by omega
    have hx0 : Ext w0 w5 := BCh.new h0 hB0 hb hc5'
    have hfit := hc.fits
    -- once the rune's text is written
    have fin : ∀ w6, Bld w6 B b (l ++ [34] ++ (s.take p).flatMap escB ++ u.flatMap escB) → Chg (BCh w5 B b) w5 w6 → (fun (s' : List Value) w4 => ∃ p, p ≤ s.length ∧ s' = [] ∧ Utf (s.drop p) ∧ w4.heap[w1.heap.size]? = some (.stringIter (ofL s) p) ∧ Bld w4 B b (l ++ [34] ++ (s.take p).flatMap escB) ∧ Chg (BCh w B b) w w4) [] w6 ∧
        (match w6.heap[w1.heap.size]? with | some (.stringIter _ p) => s.length - p | _ => 0) < (match w4.heap[w1.heap.size]? with | some (.stringIter _ p) => s.length - p | _ => 0) := by
      intro w6 h6 hc6
      have hit6 := BCh.iter hc6 hit5 (by have := h1.lt; omega)
      refine ⟨⟨p + u.length, hfit, rfl, by rw [hdr2]; exact hur, hit6, ?_, BCh.trans hc5' hc6⟩, ?_⟩
      · rw [hnext, List.flatMap_append, ← List.append_assoc]; exact h6
      · rw [hit6, hit]
        show s.length - (p + u.length) < s.length - p
        omega
    rw [ext_tuple]
    refine ⟨.bool true, rfl, ?_⟩
    rw [condW_true, ext_tuple]
    refine ⟨.int .i32 (c : Int), by rw [hdec]; rfl, ?_⟩
    refine short_p hct ?_
    rw [bin_neq, condW_dec]
    rcases hru.cases with ⟨x, hx, hxl⟩ | hh
    · -- one byte
      subst hx
      have hcx : c = x.toNat := by
        have := (hc.low rfl).1
        rw [this]
        have e := byteM_in hpl
        rw [Go.Eng.byte_at (show s.drop p = x :: r from hdr)] at e
        omega
      subst hcx
      have e1 : [x].flatMap escB = escB x := by simp
      rw [e1] at fin
      refine ⟨fun hne => ?_, fun he => ?_⟩
      · obtain ⟨f1, f2⟩ := esc_short (c := x) (by omega)
        rw [cvt_int, i32_wrap (by omega)]
        show cvsW _ _
        unfold cvsW
        dsimp only
        rw [enc_low f2, bin_sadd]
        refine ⟨by simp only [List.length_cons, List.length_nil]; decide, ?_⟩
        refine wstr_p h5 (by omega) (by rw [hll]; simp only [List.length_append, List.length_cons, List.length_nil]; omega) fun v w6 h6 hc6 => ?_
        refine fin w6 ?_ hc6
        rw [f1]; exact h6
      · have f := esc_long (c := x) (by omega)
        rw [bin_lss, condW_dec]
        refine ⟨fun hlt => ?_, fun hge => ?_⟩
        · rw [if_pos (by omega)] at f
          have hmem : x ∈ s := List.mem_of_mem_drop (i := p) (by rw [hdr]; simp)
          rw [cvt_int, wrap_id (by omega) (by omega), bin_add, wrap_id (by omega) (by omega)]
          have hfm := hF x hmem (by omega) x.toNat (by omega) w5
          rw [show ((x.toNat + 256 : Nat) : Int) = (x.toNat : Int) + 256 by omega] at hfm
          refine hfm _ hx0 fun w6 hx6 => ?_
          rw [sls_str, bd_none, bd_some]
          refine ⟨by decide, by simp [hexS], ?_⟩
          rw [bin_sadd]
          refine ⟨by simp [hexS], ?_⟩
          refine wstr_p (h5.ext hx6) (by have := hx6.size; omega) (by rw [hll]; clear fin h4 h5 hll; generalize ((s.take p).flatMap escB).length = q at *; simp [hexS]; omega) fun v w7 h7 hc7 => ?_
          refine fin w7 ?_ (BCh.from hx6 hc7)
          rw [f]
          simpa [hexS] using h7
        · rw [if_neg (by omega)] at f
          refine wrune_p h5 (by omega) (by omega) (by omega) fun v w6 h6 hc6 => ?_
          refine fin w6 ?_ hc6
          rw [f, ← hcu]; exact h6
    · -- more than one
      have hc128 : 128 ≤ c := by
        have hb0 := byte_pref (j := 0) hdr hup
        have h128 := hh u[0] (List.getElem_mem ..)
        rw [Nat.add_zero, byteM_in hpl] at hb0
        by_cases h1 : u.length = 1
        · have := hc.low h1; omega
        · exact (hc.high (by omega)).1
      rw [esc_high hh] at fin
      refine ⟨fun hne => absurd (short_high hc128) (by omega), fun he => ?_⟩
      rw [bin_lss, condW_dec]
      refine ⟨fun hlt => by omega, fun hge => ?_⟩
      refine wrune_p h5 (by omega) (by omega) (by omega) fun v w6 h6 hc6 => ?_
      refine fin w6 ?_ hc6
      rw [← hcu]; exact h6
end
end Go.Proofs.YtnoepcndjljolaaGreatDoor
namespace Go.Proofs.YtnoepcndjljolaaGreatDoor
open Go Go.Eng Go.RowKit
set_option maxRecDepth 100000
theorem utfM_of {s : Str} (h : utfM s = true) : Utf s := (utf_iff s).1 h
def partL (xs : List JV) (i : Nat) : Str := (if i = 0 then [] else [44]) ++ (match xs[i]? with | some x => showM x | none => [])
def partO (xs : List JV) (ks : List Str) (i : Nat) : Str := (if i = 0 then [] else [44]) ++ quoteM (ks.getD i []) ++ [58] ++ (match xs[i]? with | some x => showM x | none => [])
def sumL (f : Nat → Str) : Nat → Str
  | 0 => []
  | n + 1 => sumL f n ++ f n
theorem joinM_cons {x : Str} {xs : List Str} (h : xs ≠ []) : joinM (x :: xs) = x ++ [44] ++ joinM xs := by
  cases xs with
  | nil => exact absurd rfl h
  | cons y r => rfl
theorem joinM_snoc : ∀ (xs : List Str) (x : Str), joinM (xs ++ [x]) = if xs = [] then x else joinM xs ++ [44] ++ x
  | [], x => rfl
  | [y], x => by simp [joinM]
  | y :: z :: r, x => by
    have := joinM_snoc (z :: r) x
    rw [List.cons_append, joinM_cons (by simp), this, if_neg (by simp), if_neg (by simp), joinM_cons (x := y) (xs := z :: r) (by simp)]
    simp [List.append_assoc]
theorem sum_join (f : Nat → Str) (g : List Str) (hf : ∀ i x, g[i]? = some x → f i = (if i = 0 then [] else [44]) ++ x) : ∀ n, n ≤ g.length → sumL f n = joinM (g.take n) := by
  intro n
  induction n with
  | zero => intro _; rfl
  | succ n ih =>
    intro h
    have hn : n < g.length := by omega
    rw [sumL, ih (by omega), hf n g[n] (List.getElem?_eq_getElem hn), List.take_add_one, List.getElem?_eq_getElem hn, Option.toList_some, joinM_snoc]
    cases n with
    | zero => simp [joinM]
    | succ n =>
      rw [if_neg (by omega), if_neg (by
        intro e
        have := congrArg List.length e
        rw [List.length_take, List.length_nil] at this
        omega), List.append_assoc]
theorem showL_get : ∀ (xs : List JV) (i : Nat), (showL xs)[i]? = (xs[i]?).map showM
  | [], i => by simp [showL]
  | x :: xs, 0 => by simp [showL]
  | x :: xs, i + 1 => by simp only [showL, List.getElem?_cons_succ]; exact showL_get xs i
theorem showL_len : ∀ (xs : List JV), (showL xs).length = xs.length
  | [] => rfl
  | x :: xs => by simp only [showL, List.length_cons]; rw [showL_len xs]
theorem list_join (xs : List JV) : sumL (partL xs) xs.length = joinM (showL xs) := by
  rw [sum_join (partL xs) (showL xs) (fun i x h => by
    rw [showL_get] at h
    unfold partL
    cases hx : xs[i]? with
    | none => rw [hx] at h; cases h
    | some y => rw [hx] at h; cases h; rfl) xs.length (by rw [showL_len]; exact Nat.le_refl _), ← showL_len, List.take_length]
theorem obj_join {xs : List JV} {ks : List Str} (hl : ks.length = xs.length) : sumL (partO xs ks) xs.length = joinM (List.zipWith (fun a b => quoteM a ++ [58] ++ b) ks (showL xs)) := by
  have hz : (List.zipWith (fun a b => quoteM a ++ [58] ++ b) ks (showL xs)).length = xs.length := by rw [List.length_zipWith, showL_len]; omega
  rw [sum_join (partO xs ks) (List.zipWith (fun a b => quoteM a ++ [58] ++ b) ks (showL xs)) (fun i x h => by
    rw [List.getElem?_zipWith] at h
    unfold partO
    cases hx : xs[i]? with
    | none =>
      rw [showL_get, hx] at h
      cases hk : ks[i]? with
      | none => rw [hk] at h; cases h
      | some k => rw [hk] at h; cases h
    | some y =>
      cases hk : ks[i]? with
      | none =>
        have := List.getElem?_eq_none_iff.1 hk
        have := (List.getElem?_eq_some_iff.1 hx).1
        omega
      | some k =>
        rw [showL_get, hx, hk] at h
        cases h
        rw [List.getD_eq_getElem?_getD, hk]
        simp [List.append_assoc]) xs.length (by rw [hz]; exact Nat.le_refl _), ← hz, List.take_length]
section
variable [HX]
theorem quote_len (s : Str) : (quoteM s).length ≤ 6 * s.length + 2 := by
  unfold quoteM
  simp only [List.length_append, List.length_cons, List.length_nil]
  have := flat_len s
  omega
def cntAt (xs : List JV) (i : Nat) : Nat := match xs[i]? with | some x => cntM x | none => 0
def cntS (xs : List JV) : Nat → Nat
  | 0 => 0
  | n + 1 => cntS xs n + cntAt xs n
theorem cntAt_get {xs : List JV} {i : Nat} {x : JV} (h : xs[i]? = some x) : cntAt xs i = cntM x := by unfold cntAt; rw [h]
theorem cntS_cons (x : JV) (xs : List JV) : ∀ n, cntS (x :: xs) (n + 1) = cntM x + cntS xs n
  | 0 => by simp [cntS, cntAt]
  | n + 1 => by
    rw [cntS, cntS_cons x xs n, cntS]
    have : cntAt (x :: xs) (n + 1) = cntAt xs n := by unfold cntAt; rw [List.getElem?_cons_succ]
    omega
theorem cntS_le : ∀ (xs : List JV) (n : Nat), n ≤ xs.length → cntS xs n ≤ cntL xs
  | xs, 0, _ => Nat.zero_le _
  | [], n + 1, h => by simp at h
  | x :: xs, n + 1, h => by
    have ih := cntS_le xs n (by simpa using h)
    rw [cntS_cons]
    simp only [cntL]
    omega
theorem sum_len {f : Nat → Str} {xs : List JV} : ∀ n, (∀ i, i < n → (f i).length ≤ 200000 * cntAt xs i) → (sumL f n).length ≤ 200000 * cntS xs n := by
  intro n
  induction n with
  | zero => intro _; simp [sumL]
  | succ n ih =>
    intro h
    have ih := ih fun i hi => h i (by omega)
    rw [sumL, List.length_append, cntS]
    have := h n (by omega)
    omega
theorem show_len (v : JV) : plainM v = true → (showM v).length + 100000 ≤ 200000 * cntM v := by
  induction v using JV.ind with
  | h k b t xs ks ih =>
    intro hp
    rw [plainM_eq, Bool.and_eq_true] at hp
    obtain ⟨hp1, hp2⟩ := hp
    have hh := headOk_out hp1
    simp only [JV.k, JV.b, JV.t, JV.xs, JV.ks] at hh hp2
    rw [plainL_all, List.all_eq_true] at hp2
    have hi : ∀ x ∈ xs, (showM x).length + 100000 ≤ 200000 * cntM x := fun x hx => ih x hx (hp2 x hx)
    simp only [cntM]
    rw [showM_eq]
    have hcg := cntS_le xs xs.length (Nat.le_refl _)
    have sums : ∀ (f : Nat → Str) , (∀ i, i < xs.length → (f i).length ≤ 200000 * cntAt xs i) → (sumL f xs.length).length ≤ 200000 * cntL xs := fun f hf => by
      have h1 := sum_len (f := f) xs.length hf
      omega
    split
    · simp; omega
    split
    · cases b <;> simp <;> omega
    split
    · rename_i h3
      have hg := hh.2.2.2.2.2.2.1 h3
      obtain ⟨g1, g2, _, _⟩ := Num.goodN_out hg
      have : t.length ≤ (Num.dig t).length + 1 := by
        cases t with
        | nil => simp [Num.dig]
        | cons c d => unfold Num.dig; dsimp only; split <;> simp
      omega
    split
    · rename_i h4
      have hl := hh.2.2.2.2.2.2.2.1 h4
      have := quote_len t
      omega
    split
    · rename_i h6
      have hkl := hh.2.2.2.2.2.2.2.2.1 h6
      have hks := keysOk_len hh.2.2.2.2.2.2.2.2.2
      rw [← obj_join hkl]
      have := sums (partO xs ks) fun i hlt => by
        unfold partO
        rw [cntAt_get (List.getElem?_eq_getElem hlt), List.getElem?_eq_getElem hlt]
        have h1 := hi xs[i] (List.getElem_mem ..)
        have hk : ks[i]? = some (ks[i]'(by omega)) := List.getElem?_eq_getElem _
        have h2 := hks (ks[i]'(by omega)) (List.getElem_mem ..)
        have h3 := quote_len (ks[i]'(by omega))
        rw [List.getD_eq_getElem?_getD, hk, Option.getD_some]
        simp only [List.length_append, List.length_cons, List.length_nil]
        split
        · rw [List.length_nil]; omega
        · rw [List.length_cons, List.length_nil]; omega
      simp only [List.length_append, List.length_cons, List.length_nil]
      omega
    · rw [← list_join]
      have := sums (partL xs) fun i hlt => by
        unfold partL
        rw [cntAt_get (List.getElem?_eq_getElem hlt), List.getElem?_eq_getElem hlt]
        have h1 := hi xs[i] (List.getElem_mem ..)
        simp only [List.length_append]
        split
        · rw [List.length_nil]; omega
        · rw [List.length_cons, List.length_nil]; omega
      simp only [List.length_append, List.length_cons, List.length_nil]
      omega
end
end Go.Proofs.YtnoepcndjljolaaGreatDoor
namespace Go.Proofs.YtnoepcndjljolaaGreatDoor
open Go Go.Eng Go.RowKit
set_option maxRecDepth 100000
section
variable [HX]
theorem wlit_p {w : World} {B b : Nat} {l s : Str} {K : Value → World → Prop} (h : Bld w B b l) (hB : B ≤ w.heap.size) (hl : l.length + s.length ≤ 1000000000)
    (hK : ∀ v w', Bld w' B b (l ++ s) → Chg (BCh w B b) w w' → K v w') : callF Tryz.prog 89 [.pointer (some ⟨b, 0, none⟩), str s] w K := wstr_p h hB (by omega) hK
theorem fbool_p {b : Bool} {w : World} {K : Value → World → Prop} (hK : K (str (if b then [116, 114, 117, 101] else [102, 97, 108, 115, 101])) w) : callF Tryz.prog 110 [.bool b] w K := by
  refine of_calls (args := #[.bool b]) Tryz.call110 ((Tryz.strconv_FormatBool b w).mono ?_)
  rintro e w' ⟨rfl, rfl⟩
  refine ⟨_, rfl, ?_⟩
  have e : (⟨(Lib.formatBool b).toArray⟩ : ByteArray) = ofL (if b then [116, 114, 117, 101] else [102, 97, 108, 115, 101]) := by cases b <;> decide +kernel
  rw [e]
  exact hK
theorem textsL_mem : ∀ {xs : List JV}, textsL xs = true → ∀ x ∈ xs, textsM x = true
  | [], _, x, hx => by cases hx
  | y :: ys, h, x, hx => by
    simp only [textsL, Bool.and_eq_true] at h
    rcases List.mem_cons.1 hx with rfl | hx
    · exact h.1
    · exact textsL_mem h.2 x hx
theorem sum_succ (f : Nat → Str) (n : Nat) : sumL f (n + 1) = sumL f n ++ f n := rfl
theorem BCh.keepv {w w' : World} {B b k : Nat} {l : List Value} (h : Chg (BCh w B b) w w') (hk : w.heap[k]? = some (.cells l.toArray VT (0, 0))) (hb : k ≠ b) : w'.heap[k]? = some (.cells l.toArray VT (0, 0)) := BCh.keep h hk hb (by decide)
theorem write_p (v : JV) : ∀ {w0 w : World} {B b : Nat} {l : Str} {cs : List Value} {K : Value → World → Prop}, VRep w0 v cs → Ext w0 w → w0.heap.size ≤ B → B ≤ w.heap.size → Bld w B b l → plainM v = true → textsM v = true → knownM v = true → fewM v = true →
    l.length + 200000 * cntM v ≤ 900000000 → FmtOk w0 → (∀ w', Bld w' B b (l ++ showM v) → Chg (BCh w B b) w w' → K (.tuple #[]) w') → callF Tryz.prog 52 [.pointer (some ⟨b, 0, none⟩), .agg cs.toArray] w K := by
  induction v using JV.ind with
  | h k bb t xs ks ih =>
    intro w0 w B b l cs K hr h0 hB0 hB hbd hp hu hkn hfew hl hF hK
    have hsl := show_len _ hp
    have hbb := hbd.base
    have hblt := hbd.lt
    rw [plainM_eq, Bool.and_eq_true] at hp
    obtain ⟨hp1, hp2⟩ := hp
    have hh := headOk_out hp1
    simp only [JV.k, JV.b, JV.t, JV.xs, JV.ks] at hh hp2
    rw [knownM_eq, Bool.and_eq_true, Bool.not_eq_true', decide_eq_false_iff_not] at hkn
    obtain ⟨hkn1, hkn2⟩ := hkn
    simp only [JV.k, JV.xs] at hkn1 hkn2
    simp only [textsM, Bool.and_eq_true] at hu
    obtain ⟨⟨hu1, hu2⟩, hu3⟩ := hu
    rw [fewM_eq] at hfew
    simp only [JV.xs, JV.ks, Bool.and_eq_true] at hfew
    obtain ⟨⟨hf1, hf2⟩, hf3⟩ := hfew
    have hf1 : xs.length ≤ 100000 := of_decide_eq_true hf1
    rw [plainL_all, List.all_eq_true] at hp2
    rw [knownL_all, List.all_eq_true] at hkn2
    rw [fewL_all, List.all_eq_true] at hf3
    have hu3' := textsL_mem hu3
    simp only [cntM] at hl hsl
    rw [showM_eq] at hK hsl
    refine W52_ok ?_
    unfold W52
    refine box_vali hr fun a w1 sv kv ha hI hx1 hage hz1 => ?_
    simp only [JV.k, JV.b, JV.t, JV.xs, JV.ks] at ha
    have hab : a ≠ b := by omega
    have hx01 := h0.trans hx1
    have hb1 := hbd.ext hx1
    have ld : ∀ (w' : World) (off : Nat) (v : Value) (KK : Value → Prop), w'.heap[a]? = some (.cells [i64 k, .bool bb, str t, sv, kv].toArray VT (0, 0)) → [i64 k, .bool bb, str t, sv, kv][off]? = some v → KK v → fldW off (.pointer (some ⟨a, 0, none⟩)) fun p => ldW false 1 p w' KK := by
      intro w' off v KK hw hv hk
      rw [fld_ptr, ld_one]
      refine ⟨v, ?_, hk⟩
      rw [add_mk, cell_eq, hw, cellO_some, Nat.zero_add]
      simpa using hv
    have mk : ∀ {w' : World}, Chg (BCh w1 B b) w1 w' → Chg (BCh w B b) w w' := fun hc => BCh.from hx1 hc
    refine ld w1 0 _ _ ha rfl ?_
    rw [bin_eql, condW_dec]
    refine ⟨fun e0 => ?_, fun e0 => ?_⟩
    · rw [if_pos e0] at hK
      exact wlit_p hb1 (by omega) (by simp; omega) fun v w2 h2 hc2 => hK w2 h2 (mk hc2)
    rw [if_neg e0] at hK hsl
    rw [bin_eql, condW_dec]
    refine ⟨fun e2 => ?_, fun e2 => ?_⟩
    · rw [if_pos e2] at hK
      refine ld w1 1 _ _ ha rfl ?_
      refine fbool_p ?_
      refine wlit_p hb1 (by omega) (by cases bb <;> simp <;> omega) fun v w2 h2 hc2 => hK w2 h2 (mk hc2)
    rw [if_neg e2] at hK hsl
    rw [bin_eql, condW_dec]
    refine ⟨fun e3 => ?_, fun e3 => ?_⟩
    · rw [if_pos e3] at hK hsl
      refine ld w1 2 _ _ ha rfl ?_
      exact wlit_p hb1 (by omega) (by omega) fun v w2 h2 hc2 => hK w2 h2 (mk hc2)
    rw [if_neg e3] at hK hsl
    rw [bin_eql, condW_dec]
    refine ⟨fun e4 => ?_, fun e4 => ?_⟩
    · rw [if_pos e4] at hK hsl
      have ht4 := hh.2.2.2.2.2.2.2.1 e4
      refine ld w1 2 _ _ ha rfl ?_
      exact quote_p hx01 hB0 hb1 (by omega) (utfM_of hu1) (by omega) (fun _ _ _ => hF) fun w2 h2 hc2 => hK w2 h2 (mk hc2)
    rw [if_neg e4] at hK hsl
    have hcg := fun n hn => cntS_le xs n hn
    rw [bin_eql, condW_dec]
    refine ⟨fun e5 => ?_, fun e5 => ?_⟩
    · rw [if_neg (by omega), ← list_join] at hK
      refine wbyte_p (n := 91) hb1 (by omega) (by omega) (by omega) fun w2 h2 hc2 => ?_
      have ha2 := BCh.keepv hc2 ha hab
      refine ld w2 3 _ _ ha2 rfl ?_
      have hit : lenlW sv = fun K => K (i64 (xs.length : Int)) := by
        funext K
        obtain ⟨T, L, i1, _⟩ := hI.items
        exact propext (lenl_at i1 K)
      rw [hit]
      dsimp only
      refine loop_up xs.length (fun i w' => Chg (BCh w B b) w w' ∧ w'.heap[a]? = some (.cells [i64 k, .bool bb, str t, sv, kv].toArray VT (0, 0)) ∧ Bld w' B b (l ++ [91] ++ sumL (partL xs) i) ∧ (sumL (partL xs) i).length ≤ 200000 * cntS xs i) ⟨mk hc2, ha2, by simpa [sumL] using h2, by simp [sumL]⟩ ?_ ?_
      · rintro i w3 g L hi ⟨hc3, ha3, h3, hs3⟩ hL
        obtain ⟨x, hxi⟩ : ∃ x, xs[i]? = some x := ⟨_, List.getElem?_eq_getElem hi⟩
        have hxm := List.mem_of_getElem? hxi
        have hcs := hcg (i + 1) hi
        rw [cntS, cntAt_get hxi] at hcs
        have hz3 := hc3.size
        have hx03 : Ext w0 w3 := BCh.new h0 hB0 hbb hc3
        simp only [List.getD_cons_zero]
        rw [bin_lss, decide_eq_true (by omega), condW_true]
        refine ValI.item_old hI hx03 hxi fun cs2 hr2 => ?_
        refine alloc_new fun a2 w4 ha2 hz4 hb4 hx4 => ?_
        have hlen := hr2.len
        refine st_agg_at (l := cs2) hb4 (by omega) (by simp) hr2.all_one fun w5 hz5 hb5 hc5 => ?_
        have hx5 : Ext w3 w5 := hx4.new hc5 (by omega)
        have h5 := h3.ext hx5
        have hc5' := BCh.ext hc3 hx5
        have ha5 := hx5.at ha3 id
        have ha2b : a2 ≠ b := by have := h3.lt; omega
        have hll : (l ++ [91] ++ sumL (partL xs) i).length = l.length + 1 + (sumL (partL xs) i).length := by simp only [List.length_append, List.length_cons, List.length_nil]
        refine JoinW.cut (fun s' w6 => s' = [] ∧ Chg (BCh w5 B b) w5 w6 ∧ Bld w6 B b (l ++ [91] ++ sumL (partL xs) i ++ (if i = 0 then [] else [44]))) ?_ ?_
        · rw [bin_gtr, condW_dec]
          refine ⟨fun hpos => ?_, fun hz => ?_⟩
          · refine wbyte_p (n := 44) h5 (by omega) (by omega) (by omega) fun w6 h6 hc6 => ⟨rfl, hc6, ?_⟩
            rw [if_neg (by omega)]; exact h6
          · refine ⟨rfl, Chg.refl _ _, ?_⟩
            rw [if_pos (by omega), List.append_nil]; exact h5
        rintro s' g6 w6 ⟨rfl, hc6, h6⟩
        have hb6 := BCh.keepv hc6 hb5 ha2b
        have hz6 := hc6.size
        refine ld_all hb6 (by omega) ?_
        refine ih x hxm (w0 := w0) hr2 (BCh.new hx03 (by omega) hbb (BCh.from hx5 hc6) ) hB0 (by omega) h6 (hp2 x hxm) (hu3' x hxm) (hkn2 x hxm) (hf3 x hxm) ?_ hF fun w7 h7 hc7 => ?_
        · simp only [List.length_append] at hll ⊢
          have : (if i = 0 then ([] : Str) else [44]).length ≤ 1 := by split <;> simp
          omega
        have hi2 : i < 100000 := by omega
        rw [bin_add, up1 (i := i) (by omega)]
        have hcc := BCh.trans (BCh.trans hc5' hc6) hc7
        refine hL w7 ⟨hcc, BCh.keepv hc7 (BCh.keepv hc6 ha5 hab) hab, ?_, ?_⟩
        · rw [sum_succ]
          unfold partL
          rw [hxi, ← List.append_assoc, ← List.append_assoc]
          exact h7
        · rw [sum_succ, List.length_append, cntS, cntAt_get hxi]
          have := show_len x (hp2 x hxm)
          have h9 : (partL xs i).length ≤ 1 + (showM x).length := by
            unfold partL; rw [hxi, List.length_append]; split <;> simp
          omega
      · rintro w3 g L ⟨hc3, ha3, h3, hs3⟩
        have hz3 := hc3.size
        have hcs := hcg xs.length (Nat.le_refl _)
        simp only [List.getD_cons_zero]
        rw [bin_lss, decide_eq_false (by omega), condW_false]
        refine wbyte_p (n := 93) h3 (by omega) (by simp only [List.length_append, List.length_cons, List.length_nil]; omega) (by omega) fun w4 h4 hc4 => ?_
        refine hK w4 ?_ (BCh.trans hc3 hc4)
        simpa [List.append_assoc] using h4
    have e6 : k = 6 := by
      have := hh.1; have := hh.2.1; omega
    have hkl := hh.2.2.2.2.2.2.2.2.1 e6
    have hks := keysOk_len hh.2.2.2.2.2.2.2.2.2
    rw [List.all_eq_true] at hu2
    rw [bin_eql, decide_eq_true e6, condW_true]
    rw [if_pos e6, ← obj_join hkl] at hK
    refine wbyte_p (n := 123) hb1 (by omega) (by omega) (by omega) fun w2 h2 hc2 => ?_
    have ha2 := BCh.keepv hc2 ha hab
    refine ld w2 3 _ _ ha2 rfl ?_
    have hit : lenlW sv = fun K => K (i64 (xs.length : Int)) := by
      funext K
      obtain ⟨T, L, i1, _⟩ := hI.items
      exact propext (lenl_at i1 K)
    rw [hit]
    dsimp only
    refine loop_up xs.length (fun i w' => Chg (BCh w B b) w w' ∧ w'.heap[a]? = some (.cells [i64 k, .bool bb, str t, sv, kv].toArray VT (0, 0)) ∧ Bld w' B b (l ++ [123] ++ sumL (partO xs ks) i) ∧ (sumL (partO xs ks) i).length ≤ 200000 * cntS xs i) ⟨mk hc2, ha2, by simpa [sumL] using h2, by simp [sumL]⟩ ?_ ?_
    · rintro i w3 g L hi ⟨hc3, ha3, h3, hs3⟩ hL
      obtain ⟨x, hxi⟩ : ∃ x, xs[i]? = some x := ⟨_, List.getElem?_eq_getElem hi⟩
      obtain ⟨key, hki⟩ : ∃ key, ks[i]? = some key := ⟨_, List.getElem?_eq_getElem (by omega)⟩
      have hkm := List.mem_of_getElem? hki
      have hklen := hks key hkm
      have hql := quote_len key
      have hxm := List.mem_of_getElem? hxi
      have hcs := hcg (i + 1) hi
      rw [cntS, cntAt_get hxi] at hcs
      have hpart : partO xs ks i = (if i = 0 then [] else [44]) ++ quoteM key ++ [58] ++ showM x := by
        unfold partO
        rw [hxi, List.getD_eq_getElem?_getD, hki]; rfl
      have hz3 := hc3.size
      have hx03 : Ext w0 w3 := BCh.new h0 hB0 hbb hc3
      simp only [List.getD_cons_zero]
      rw [bin_lss, decide_eq_true (by omega), condW_true]
      refine ValI.item_old hI hx03 hxi fun cs2 hr2 => ?_
      refine alloc_new fun a2 w4 ha2 hz4 hb4 hx4 => ?_
      have hlen := hr2.len
      refine st_agg_at (l := cs2) hb4 (by omega) (by simp) hr2.all_one fun w5 hz5 hb5 hc5 => ?_
      have hx5 : Ext w3 w5 := hx4.new hc5 (by omega)
      have h5 := h3.ext hx5
      have hc5' := BCh.ext hc3 hx5
      have ha5 := hx5.at ha3 id
      have ha2b : a2 ≠ b := by have := h3.lt; omega
      have hll : (l ++ [123] ++ sumL (partO xs ks) i).length = l.length + 1 + (sumL (partO xs ks) i).length := by simp only [List.length_append, List.length_cons, List.length_nil]
      have hif : (if i = 0 then ([] : Str) else [44]).length ≤ 1 := by split <;> simp
      have hx1 := show_len x (hp2 x hxm)
      refine JoinW.cut (fun s' w6 => s' = [] ∧ Chg (BCh w5 B b) w5 w6 ∧ Bld w6 B b (l ++ [123] ++ sumL (partO xs ks) i ++ (if i = 0 then [] else [44]))) ?_ ?_
      · rw [bin_gtr, condW_dec]
        refine ⟨fun hpos => ?_, fun hz => ?_⟩
        · refine wbyte_p (n := 44) h5 (by omega) (by omega) (by omega) fun w6 h6 hc6 => ⟨rfl, hc6, ?_⟩
          rw [if_neg (by omega)]; exact h6
        · refine ⟨rfl, Chg.refl _ _, ?_⟩
          rw [if_pos (by omega), List.append_nil]; exact h5
      rintro s' g6 w6 ⟨rfl, hc6, h6⟩
      have hb6 := BCh.keepv hc6 hb5 ha2b
      have ha6 := BCh.keepv hc6 ha5 hab
      have hz6 := hc6.size
      have hx06 : Ext w0 w6 := BCh.new hx03 (by omega) hbb (BCh.from hx5 hc6)
      refine ld w6 4 _ _ ha6 rfl ?_
      obtain ⟨T, hkv⟩ := hI.keys
      refine text_ld (hkv.ext hx06) hki ?_
      refine quote_p hx06 hB0 h6 (by omega) (utfM_of (hu2 key hkm)) ?_ (fun _ _ _ => hF) fun w7 h7 hc7 => ?_
      · simp only [List.length_append] at hll ⊢
        omega
      have hb7 := BCh.keepv hc7 hb6 ha2b
      have ha7 := BCh.keepv hc7 ha6 hab
      have hz7 := hc7.size
      refine wbyte_p (n := 58) h7 (by omega) ?_ (by omega) fun w8 h8 hc8 => ?_
      · simp only [List.length_append] at hll ⊢
        omega
      have hb8 := BCh.keepv hc8 hb7 ha2b
      have ha8 := BCh.keepv hc8 ha7 hab
      have hz8 := hc8.size
      refine ld_all hb8 (by omega) ?_
      have hc58 := BCh.trans (BCh.trans hc6 hc7) hc8
      refine ih x hxm (w0 := w0) hr2 (BCh.new hx03 (by omega) hbb (BCh.from hx5 hc58)) hB0 (by omega) h8 (hp2 x hxm) (hu3' x hxm) (hkn2 x hxm) (hf3 x hxm) ?_ hF fun w9 h9 hc9 => ?_
      · simp only [List.length_append, List.length_cons, List.length_nil] at hll ⊢
        omega
      have hi2 : i < 100000 := by omega
      rw [bin_add, up1 (i := i) (by omega)]
      have hcc := BCh.trans (BCh.trans hc5' hc58) hc9
      refine hL w9 ⟨hcc, BCh.keepv hc9 ha8 hab, ?_, ?_⟩
      · rw [sum_succ, hpart]
        simpa [List.append_assoc] using h9
      · rw [sum_succ, List.length_append, cntS, cntAt_get hxi, hpart]
        simp only [List.length_append, List.length_cons, List.length_nil]
        omega
    · rintro w3 g L ⟨hc3, ha3, h3, hs3⟩
      have hz3 := hc3.size
      have hcs := hcg xs.length (Nat.le_refl _)
      simp only [List.getD_cons_zero]
      rw [bin_lss, decide_eq_false (by omega), condW_false]
      refine wbyte_p (n := 125) h3 (by omega) (by simp only [List.length_append, List.length_cons, List.length_nil]; omega) (by omega) fun w4 h4 hc4 => ?_
      refine hK w4 ?_ (BCh.trans hc3 hc4)
      simpa [List.append_assoc] using h4
end
end Go.Proofs.YtnoepcndjljolaaGreatDoor
namespace Go.Proofs.YtnoepcndjljolaaGreatDoor
open Go Go.Eng Go.RowKit
set_option maxRecDepth 100000
theorem valid_iff : ∀ (n : Nat) (l : Str), l.length ≤ n → (Lib.validGoD n l = true ↔ Utf l) := by
  intro n
  induction n with
  | zero =>
    intro l h
    obtain rfl : l = [] := List.eq_nil_of_length_eq_zero (by omega)
    exact ⟨fun _ => .nil, fun _ => rfl⟩
  | succ n ih =>
    intro l h
    unfold Lib.validGoD
    by_cases h0 : l = []
    · rw [if_pos h0]; subst h0; exact ⟨fun _ => .nil, fun _ => rfl⟩
    rw [if_neg h0]
    have hpos : 0 < l.length := List.length_pos_iff.2 h0
    have hd : Lib.decodeL l = Utf8.decode (ofL l) 0 := rfl
    have head : Utf l → ∃ u r, Rn u ∧ Utf r ∧ l = u ++ r ∧ runeM l 0 = u.length := fun hu => by
      cases hu with
      | nil => exact absurd rfl h0
      | cons h1 h2 => exact ⟨_, _, h1, h2, rfl, h1.at (s := _ ++ _) (i := 0) (by rw [List.drop_zero])⟩
    by_cases hr : runeM l 0 = 0
    · rw [hd, rune_bad hpos hr, if_pos ⟨rfl, rfl⟩]
      refine ⟨fun e => (by cases e), fun hu => ?_⟩
      obtain ⟨u, r, h1, _, _, h4⟩ := head hu
      have := h1.pos
      omega
    · obtain ⟨c, hc⟩ := rune_good hpos hr
      rw [hd, hc.dec, if_neg (by
        rintro ⟨e1, e2⟩
        have e1 : c = 65533 := e1
        have := (hc.low e2).2
        omega)]
      have hf := hc.fits
      rw [ih (l.drop (runeM l 0)) (by rw [List.length_drop]; omega)]
      constructor
      · intro hu
        have := Utf.cons (Rn.of hr) hu
        rwa [List.drop_zero, List.take_append_drop] at this
      · intro hu
        obtain ⟨u, r, h1, h2, h3, h4⟩ := head hu
        rw [h4, h3, List.drop_left]
        exact h2
theorem valid_utf (l : Str) : Lib.validD l = utfM l := by
  have h1 := valid_iff l.length l (Nat.le_refl _)
  have h2 := utf_iff l
  unfold Lib.validD
  cases ha : Lib.validGoD l.length l <;> cases hb : utfM l <;> simp_all
def TabU (w : World) : Prop := Lib.Utf8Tabs (Tryz.laysValid_ren.g 3) (Tryz.laysValid_ren.g 4) w
theorem cell_ext {w w' : World} {b o : Nat} {v : Value} (hx : Ext w w') (h : w.cell? ⟨b, o, none⟩ = some v) : w'.cell? ⟨b, o, none⟩ = some v := by
  rw [cell_eq] at h ⊢
  cases hb : w.heap[b]? with
  | none => rw [hb] at h; cases h
  | some x => rw [hb] at h; rw [hx.at hb id]; exact h
theorem TabU.ext {w w' : World} (h : TabU w) (hx : Ext w w') : TabU w' := ⟨fun c hc => cell_ext hx (h.1 c hc), fun i hi => ⟨cell_ext hx (h.2 i hi).1, cell_ext hx (h.2 i hi).2⟩⟩
section
variable [HX]
theorem valid_p {s : Str} {w : World} {K : Value → World → Prop} (hT : TabU w) (hl : s.length ≤ 9223372036854775807) (hK : ∀ w', Ext w w' → K (.bool (utfM s)) w') : callF Tryz.prog 100 [str s] w K := by
  refine of_calls (args := #[str s]) Tryz.call100 ((Tryz.utf8_ValidString (ofL s) w (by rw [ofL_size]; exact hl) hT).mono ?_)
  rintro e w' ⟨rfl, hb⟩
  rw [ofL_data, valid_utf]
  exact ⟨_, rfl, hK w' (Chg.of_below hb)⟩
theorem bad_p {s : Str} {w : World} {K : Value → World → Prop} (hT : TabU w) (hl : s.length ≤ 9223372036854775807) (hK : ∀ w', Ext w w' → K (.bool (!utfM s)) w') : callF Tryz.prog 108 [str s] w K := by
  refine W108_ok ?_
  unfold W108
  refine valid_p hT hl fun w1 hx1 => ?_
  rw [un_not]
  exact hK w1 hx1
theorem index_sx {v f : Value} {T : TypeId} {l : List Str} {p : Str → Bool} {w : World} {K : Value → World → Prop} (h : SlAt w T v l.length (l.map str)) (hl : l.length ≤ 9223372036854775807)
    (hf : ∀ x ∈ l, ∀ {w1 : World} {K : Value → World → Prop}, Ext w w1 → (∀ w', Ext w1 w' → K (.bool (p x)) w') → callV Tryz.prog f [str x] w1 K)
    (hK : ∀ w', Ext w w' → K (i64 (findI p l)) w') : callF Tryz.prog 147 [v, f] w K := by
  refine W147_ok ?_
  unfold W147
  rw [lenl_at h]
  refine loop_up l.length (fun i w' => Ext w w' ∧ (l.take i).any p = false) ⟨Chg.refl _ _, by simp⟩ ?_ ?_
  · rintro i w2 g L hi ⟨hx2, hno⟩ hL
    obtain ⟨x, hxi⟩ : ∃ x, l[i]? = some x := ⟨_, List.getElem?_eq_getElem hi⟩
    have hlt : ((i : Int) < (l.length : Int)) := by omega
    simp only [wsv, wsg, wsh, wsl, cond_true, cond_false, exists_eq_left', Option.some.injEq, Option.isSome_some, List.getElem?_toArray, List.getElem?_cons_zero, List.getElem?_cons_succ, List.length_cons, List.length_nil, List.set_cons_zero, List.set_cons_succ, List.getD_cons_zero, List.getD_cons_succ, Nat.zero_add, Nat.add_zero, Nat.reduceAdd, Nat.reduceLT, Nat.lt_add_one, Nat.zero_lt_succ, decide_true, decide_false, ne_eq, reduceCtorEq, hlt]
    refine text_ld (h.ext hx2) hxi ?_
    refine hf x (List.mem_of_getElem? hxi) hx2 fun w3 hx3 => ?_
    rw [condW_b]
    refine ⟨fun ht => ?_, fun hn => ?_⟩
    · have := hK w3 (hx2.trans hx3)
      unfold findI at this
      rw [findIdx_hit hno hxi ht] at this
      exact this
    · rw [up1 (by omega)]
      exact hL _ ⟨hx2.trans hx3, by rw [any_take hxi, hno, hn]; rfl⟩
  · rintro w2 g L ⟨hx2, hno⟩
    simp only [wsv, wsg, wsh, wsl, cond_true, cond_false, exists_eq_left', Option.some.injEq, Option.isSome_some, List.getElem?_toArray, List.getElem?_cons_zero, List.getElem?_cons_succ, List.length_cons, List.length_nil, List.set_cons_zero, List.set_cons_succ, List.getD_cons_zero, List.getD_cons_succ, Nat.zero_add, Nat.add_zero, Nat.reduceAdd, Nat.reduceLT, Nat.lt_add_one, Nat.zero_lt_succ, decide_true, decide_false, ne_eq, reduceCtorEq, Int.lt_irrefl]
    rw [List.take_length] at hno
    have := hK w2 hx2
    unfold findI at this
    rw [List.findIdx?_eq_none_iff.2 fun x hx => by simpa using List.any_eq_false.1 hno x hx] at this
    exact this
theorem contains_sx {v f : Value} {T : TypeId} {l : List Str} {p : Str → Bool} {w : World} {K : Value → World → Prop} (h : SlAt w T v l.length (l.map str)) (hl : l.length ≤ 9223372036854775807)
    (hf : ∀ x ∈ l, ∀ {w1 : World} {K : Value → World → Prop}, Ext w w1 → (∀ w', Ext w1 w' → K (.bool (p x)) w') → callV Tryz.prog f [str x] w1 K)
    (hK : ∀ w', Ext w w' → K (.bool (l.any p)) w') : callF Tryz.prog 87 [v, f] w K := by
  refine W87_ok ?_
  unfold W87
  refine index_sx h hl hf fun w1 hx1 => ?_
  simp only [wsv, wsg, wsh, wsl, cond_true, cond_false, exists_eq_left', Option.some.injEq, Option.isSome_some, List.getElem?_toArray, List.getElem?_cons_zero, List.getElem?_cons_succ, List.length_cons, List.length_nil, List.set_cons_zero, List.set_cons_succ, List.getD_cons_zero, List.getD_cons_succ, Nat.zero_add, Nat.add_zero, Nat.reduceAdd, Nat.reduceLT, Nat.lt_add_one, Nat.zero_lt_succ, decide_true, decide_false, ne_eq, reduceCtorEq, findI_ge]
  exact hK w1 hx1
theorem any_not_utf (ks : List Str) : (!ks.any fun s => !utfM s) = ks.all utfM := by
  induction ks with
  | nil => rfl
  | cons x xs ih => simp only [List.any_cons, List.all_cons, Bool.not_or, Bool.not_not, ih]
theorem any_not_texts (xs : List JV) : (!xs.any fun x => !textsM x) = textsL xs := by
  induction xs with
  | nil => rfl
  | cons x xs ih => simp only [List.any_cons, Bool.not_or, Bool.not_not, ih, textsL]
theorem textsM_eq (v : JV) : textsM v = (utfM v.t && v.ks.all utfM && textsL v.xs) := by cases v; rfl
theorem texts_p (v : JV) : ∀ {w0 w : World} {cs : List Value} {K : Value → World → Prop}, TabU w0 → Ext w0 w → VRep w v cs → (∀ w', Ext w w' → K (.bool (textsM v)) w') → callF Tryz.prog 51 [.agg cs.toArray] w K := by
  induction v using JV.ind' with
  | h v ih =>
    intro w0 w cs K hT h0 h hK
    rw [textsM_eq] at hK
    refine W51_ok ?_
    unfold W51
    refine box_val h fun a w1 sv kv hB hx _ => ?_
    obtain ⟨f1, f2, f3, f4⟩ := hB.fits
    simp only [wsv, wsg, wsh, wsl, cond_true, cond_false, exists_eq_left', Option.some.injEq, Option.isSome_some, List.getElem?_toArray, List.getElem?_cons_zero, List.getElem?_cons_succ, List.length_cons, List.length_nil, List.set_cons_zero, List.set_cons_succ, List.getD_cons_zero, List.getD_cons_succ, Nat.zero_add, Nat.add_zero, Nat.reduceAdd, Nat.reduceLT, Nat.lt_add_one, Nat.zero_lt_succ, decide_true, decide_false, ne_eq, reduceCtorEq, wsh, hB.hb]
    refine callV_fn (bad_p (hT.ext (h0.trans hx)) f3 fun w2 hx2 => ?_)
    have hB2 := hB.ext hx2
    have hx2' := hx.trans hx2
    obtain ⟨Tk, hkv⟩ := hB2.keys
    simp only [wsv, wsg, wsh, wsl, cond_true, cond_false, exists_eq_left', Option.some.injEq, Option.isSome_some, List.getElem?_toArray, List.getElem?_cons_zero, List.getElem?_cons_succ, List.length_cons, List.length_nil, List.set_cons_zero, List.set_cons_succ, List.getD_cons_zero, List.getD_cons_succ, Nat.zero_add, Nat.add_zero, Nat.reduceAdd, Nat.reduceLT, Nat.lt_add_one, Nat.zero_lt_succ, decide_true, decide_false, ne_eq, reduceCtorEq, Bool.not_not]
    refine GdW.act (v.ks.all utfM) (fun w' => Ext w2 w') (fun _ => Chg.refl _ _) ?_ ?_
    · intro hc J hJ
      simp only [wsv, wsg, wsh, wsl, cond_true, cond_false, exists_eq_left', Option.some.injEq, Option.isSome_some, List.getElem?_toArray, List.getElem?_cons_zero, List.getElem?_cons_succ, List.length_cons, List.length_nil, List.set_cons_zero, List.set_cons_succ, List.getD_cons_zero, List.getD_cons_succ, Nat.zero_add, Nat.add_zero, Nat.reduceAdd, Nat.reduceLT, Nat.lt_add_one, Nat.zero_lt_succ, decide_true, decide_false, ne_eq, reduceCtorEq, wsh, hB2.hb]
      refine contains_sx (p := fun s => !utfM s) hkv f2 (fun x hxm {w3 K} hx3 hK => callV_fn (bad_p (hT.ext ((h0.trans hx2').trans hx3)) (f4 x hxm) hK)) fun w4 hx4 => ?_
      simp only [wsv, wsg, wsh, wsl, cond_true, cond_false, exists_eq_left', Option.some.injEq, Option.isSome_some, List.getElem?_toArray, List.getElem?_cons_zero, List.getElem?_cons_succ, List.length_cons, List.length_nil, List.set_cons_zero, List.set_cons_succ, List.getD_cons_zero, List.getD_cons_succ, Nat.zero_add, Nat.add_zero, Nat.reduceAdd, Nat.reduceLT, Nat.lt_add_one, Nat.zero_lt_succ, decide_true, decide_false, ne_eq, reduceCtorEq, any_not_utf]
      exact hJ w4 hx4
    intro g w4 hx4
    have hB4 := hB2.ext hx4
    have hx4' := hx2'.trans hx4
    simp only [wsv, wsg, wsh, wsl, cond_true, cond_false, exists_eq_left', Option.some.injEq, Option.isSome_some, List.getElem?_toArray, List.getElem?_cons_zero, List.getElem?_cons_succ, List.length_cons, List.length_nil, List.set_cons_zero, List.set_cons_succ, List.getD_cons_zero, List.getD_cons_succ, Nat.zero_add, Nat.add_zero, Nat.reduceAdd, Nat.reduceLT, Nat.lt_add_one, Nat.zero_lt_succ, decide_true, decide_false, ne_eq, reduceCtorEq]
    refine GdW.act (textsL v.xs) (fun w' => Ext w4 w') (fun _ => Chg.refl _ _) ?_ ?_
    · intro hc J hJ
      simp only [wsv, wsg, wsh, wsl, cond_true, cond_false, exists_eq_left', Option.some.injEq, Option.isSome_some, List.getElem?_toArray, List.getElem?_cons_zero, List.getElem?_cons_succ, List.length_cons, List.length_nil, List.set_cons_zero, List.set_cons_succ, List.getD_cons_zero, List.getD_cons_succ, Nat.zero_add, Nat.add_zero, Nat.reduceAdd, Nat.reduceLT, Nat.lt_add_one, Nat.zero_lt_succ, decide_true, decide_false, ne_eq, reduceCtorEq, wsh, hB4.hb]
      refine contains_x (p := fun x => !textsM x) hB4.itemsAt ?_ fun w5 hx5 => ?_
      · intro x hxm cs w5 K hx5 hr hK
        refine callV_fn ?_
        refine W109_ok ?_
        unfold W109
        refine box_val hr fun b w6 sv kv hB6 hx6 _ => ?_
        refine hB6.ld fun cs2 h2 => ?_
        refine ih x hxm hT (((h0.trans hx4').trans hx5).trans hx6) h2 fun w7 hx7 => ?_
        rw [un_not]
        exact hK w7 (hx6.trans hx7)
      · simp only [wsv, wsg, wsh, wsl, cond_true, cond_false, exists_eq_left', Option.some.injEq, Option.isSome_some, List.getElem?_toArray, List.getElem?_cons_zero, List.getElem?_cons_succ, List.length_cons, List.length_nil, List.set_cons_zero, List.set_cons_succ, List.getD_cons_zero, List.getD_cons_succ, Nat.zero_add, Nat.add_zero, Nat.reduceAdd, Nat.reduceLT, Nat.lt_add_one, Nat.zero_lt_succ, decide_true, decide_false, ne_eq, reduceCtorEq, any_not_texts]
        exact hJ w5 hx5
    intro g w5 hx5
    simp only [wsv, wsg, wsh, wsl, cond_true, cond_false, exists_eq_left', Option.some.injEq, Option.isSome_some, List.getElem?_toArray, List.getElem?_cons_zero, List.getElem?_cons_succ, List.length_cons, List.length_nil, List.set_cons_zero, List.set_cons_succ, List.getD_cons_zero, List.getD_cons_succ, Nat.zero_add, Nat.add_zero, Nat.reduceAdd, Nat.reduceLT, Nat.lt_add_one, Nat.zero_lt_succ, decide_true, decide_false, ne_eq, reduceCtorEq]
    exact hK w5 (hx4'.trans hx5)
end
end Go.Proofs.YtnoepcndjljolaaGreatDoor
