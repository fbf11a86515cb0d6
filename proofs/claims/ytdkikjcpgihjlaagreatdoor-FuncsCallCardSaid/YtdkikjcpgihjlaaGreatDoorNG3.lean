/- One plain sentence: weakest preconditions, contracts and plain laws that the claim rests on, text behind text. Conditions: those that each states. -/
import Derived.Test.YtdkikjcpgihjlaaGreatDoorNG2
import Derived.Test.YtdkikjcpgihjlaaGreatDoorNG1
import Derived.Laws.IdiomCopy
import Derived.Lib.Overlaps
import Derived.Lib.AppendZerosOnto
import Derived.Sort.OwnSorted
import Derived.Lib.SlicesCompact
set_option linter.all false
set_option linter.unusedSimpArgs false
set_option linter.unusedVariables false
set_option linter.unusedSectionVars false
namespace Go.Proofs.YtdkikjcpgihjlaaGreatDoor
open Go Go.Eng Go.Num
set_option maxRecDepth 100000
abbrev BT : TypeId := 128
abbrev U64 : TypeId := 122
theorem elem_u : ElemT Tryz.prog 126 U64 1 8 := ⟨by kernel_rfl, by kernel_rfl, by decide⟩
def BRep (w : World) (x : Big) (cs : List Value) : Prop := ∃ sv T, cs = [.bool x.below, sv] ∧ SlAt w T sv x.l.length (x.l.map u64) ∧ x.l.length ≤ 1000 ∧ Lim x.l
theorem BRep.ext {w w' : World} {x : Big} {cs : List Value} (h : BRep w x cs) (hx : Ext w w') : BRep w' x cs := by
  obtain ⟨sv, T, rfl, h1, h2, h3⟩ := h; exact ⟨sv, T, rfl, h1.ext hx, h2, h3⟩
theorem BRep.one {w : World} {x : Big} {cs : List Value} (h : BRep w x cs) : cs.all one1 = true := by
  obtain ⟨sv, T, rfl, h1, _⟩ := h
  obtain ⟨p, c, rfl, _⟩ := h1.shape; rfl
theorem BRep.len {w : World} {x : Big} {cs : List Value} (h : BRep w x cs) : cs.length = 2 := by obtain ⟨sv, T, rfl, _⟩ := h; rfl
structure BigB (w : World) (a : Nat) (x : Big) (sv : Value) : Prop where
  hb : w.heap[a]? = some (.cells [.bool x.below, sv].toArray BT (0, 0))
  l : ∃ T, SlAt w T sv x.l.length (x.l.map u64)
  few : x.l.length ≤ 1000
  lim : Lim x.l
theorem BigB.ext {w w' : World} {a : Nat} {x : Big} {sv : Value} (h : BigB w a x sv) (hx : Ext w w') : BigB w' a x sv := ⟨hx.at h.hb id, let ⟨T, h1⟩ := h.l; ⟨T, h1.ext hx⟩, h.few, h.lim⟩
theorem BigB.rep {w : World} {a : Nat} {x : Big} {sv : Value} (h : BigB w a x sv) : BRep w x [.bool x.below, sv] := by obtain ⟨T, h1⟩ := h.l; exact ⟨sv, T, rfl, h1, h.few, h.lim⟩
theorem BigB.ld {w : World} {a : Nat} {x : Big} {sv : Value} {K : Value → Prop} (h : BigB w a x sv) (hK : ∀ cs, BRep w x cs → K (.agg cs.toArray)) : ldW true 2 (ptr a) w K := ld_all h.hb rfl (hK _ h.rep)
theorem BigB.len {w : World} {a : Nat} {x : Big} {sv : Value} (h : BigB w a x sv) (K : Value → Prop) : lenlW sv K ↔ K (i64 x.l.length) := by obtain ⟨T, h1⟩ := h.l; exact lenl_at h1 K
theorem BigB.at {w : World} {a : Nat} {x : Big} {sv : Value} {k : IntKind} {i n : Nat} {K : Value → Prop} (h : BigB w a x sv) (hi : x.l[i]? = some n) (hK : K (u64 n)) : ixaW none 1 sv (.int k i) fun p => ldW false 1 p w K := by
  obtain ⟨T, h1⟩ := h.l
  exact ixa_ld h1 (by simp) (by simp [hi]) hK
theorem box_big {w : World} {x : Big} {cs : List Value} {K : Value → World → Prop} (h : BRep w x cs) (hK : ∀ a w' sv, BigB w' a x sv → Ext w w' → a = w.heap.size → w'.heap.size = a + 1 → K (ptr a) w') : boxW BT (.agg cs.toArray) w K := by
  obtain ⟨sv, T, rfl, h1, h2, h3⟩ := h
  refine box_new fun a w' ha hz hb hx => hK a w' sv ⟨hb, ⟨T, h1.ext hx⟩, h2, h3⟩ hx ha (by omega)
theorem ret_big {w w0 : World} {b : Nat} {cs ds : List Value} {K : Value → World → Prop} (hb : w.heap[b]? = some (.cells ds.toArray BT (0, 0))) (hd : ds.length = 2) (hl : w0.heap.size ≤ b) (hx : Ext w0 w) (h1 : cs.all one1 = true) (h2 : cs.length = 2)
    (hK : ∀ w', Ext w0 w' → Chg (fun k => k = b) w w' → K (.agg cs.toArray) w') : stW 2 (ptr b) (.agg cs.toArray) w fun w5 => ldW true 2 (ptr b) w5 fun r6 => K r6 w5 :=
  ret_agg hb h2 hd h1 fun w' hc => hK w' (hx.new hc hl) hc
theorem BRep.keep {w w' : World} {b : Nat} {x : Big} {cs : List Value} {p : Bool} {q : Value} {T0 : TypeId} (h : BRep w x cs) (hb : w.heap[b]? = some (.cells [.bool p, q].toArray T0 (0, 0))) (hq : ∀ n, q ≠ u64 n) (hc : Chg (fun k => k = b) w w') : BRep w' x cs := by
  obtain ⟨sv, T, rfl, ⟨p', cap, hv, h1, h2, h3⟩, h4, h5⟩ := h
  refine ⟨sv, T, rfl, ⟨p', cap, hv, h1, h2, fun hne => ?_⟩, h4, h5⟩
  obtain ⟨k, off, c, fr, hp, hk, hcs⟩ := h3 hne
  have hkb : k ≠ b := by
    rintro rfl
    rw [hb] at hk
    cases hk
    obtain ⟨n, r, e⟩ : ∃ n r, x.l = n :: r := by
      cases hx : x.l with
      | nil => rw [hx] at hne; simp at hne
      | cons n r => exact ⟨n, r, rfl⟩
    have := hcs 0 (by rw [e]; simp)
    rw [e] at this
    simp only [Nat.add_zero, List.map_cons, List.getElem?_cons_zero, List.getElem?_toArray] at this
    rcases off with _ | _ | off
    · simp at this
    · simp only [Nat.zero_add, List.getElem?_cons_succ, List.getElem?_cons_zero, Option.some.injEq] at this; exact hq n this
    · simp at this
  exact ⟨k, off, c, fr, hp, hc.at hk hkb, hcs⟩
theorem u64_wrap {n : Int} (h1 : 0 ≤ n) (h2 : n < 18446744073709551616) : IntKind.u64.wrap n = n := by
  simp only [IntKind.wrap, IntKind.signed, IntKind.bits, IntKind.max, IntKind.min]
  simp
  omega
theorem row_u {w : World} {n : Nat} {K : Value → World → Prop} (hK : ∀ t w', SlAt w' U64 t 1 [u64 n] → Ext w w' → K t w') : bslW U64 1 [(.int .u64 0)] [(0, 1, u64 n)] w K := by
  unfold bslW
  simp only [wsv, wsg, wsh, wsl, cond_true, cond_false, exists_eq_left', Option.some.injEq, Option.isSome_some, List.getElem?_toArray, List.getElem?_cons_zero, List.getElem?_cons_succ, List.length_cons, List.length_nil, List.set_cons_zero, List.set_cons_succ, List.getD_cons_zero, List.getD_cons_succ, Nat.zero_add, Nat.add_zero, Nat.reduceAdd, Nat.reduceLT, Nat.lt_add_one, Nat.zero_lt_succ, decide_true, decide_false, ne_eq, reduceCtorEq]
  exact hK _ _ (own_new (w := w) (base := w.heap.size) (e := U64) (size := 1) (n := 1) (cs := [u64 n]) (Nat.le_refl _) rfl (by omega)).sl (by repeat (first | assumption | exact Chg.refl _ _ | refine Chg.drew ?_ | refine Chg.alloc ?_ _ | refine Chg.set ?_ (by first | exact .inl rfl | exact .inr (by omega) | exact .inr (by simp only [size_set, size_alloc, size_drew]; omega) | (left; simp; done)) _ | exact Chg.of_ext (by assumption)))
theorem app_u {w : World} {base n : Nat} {v : Value} {l : List Nat} {K : Value → World → Prop} (h : Own w base U64 1 v l.length (l.map u64)) (hb : base ≤ w.heap.size) (hl : l.length ≤ 100000)
    (hK : ∀ v' w', Own w' base U64 1 v' (l ++ [n]).length ((l ++ [n]).map u64) → Chg (fun k => base ≤ k) w w' → K v' w') :
    bslW U64 1 [(.int .u64 0)] [(0, 1, u64 n)] w fun t w1 => semE Tryz.prog (Builtin.append_ #[126, 126] 126 #[v, t]) w1 K := by
  refine row_u fun t w1 ht hx => ?_
  refine append_own2 elem_u (h.ext hx) ht (m := 1) rfl (fun u hu => by simp only [List.mem_singleton] at hu; subst hu; rfl) (by omega) (by omega) (Nat.le_trans hb hx.size) fun v' w' h' hc _ => ?_
  refine hK v' w' (by simpa using h') ((Chg.of_ext hx).trans ?_)
  refine hc.mono fun k _ e => (own_ge (h.ext hx) e).1
  done
section
variable [HX]
theorem sll_take {w : World} {T : TypeId} {v : Value} {n k : Nat} {cs : List Value} {K : Value → Prop} (h : SlAt w T v n cs) (hl : cs.length = n) (hk : k ≤ n) (hK : ∀ v', SlAt w T v' k (cs.take k) → K v') : sllW 1 v none (some (i64 (k : Nat))) none K := by
  obtain ⟨p, cap, rfl, h1, h2, h3⟩ := h
  rw [sll_sl]
  simp only [bd_none, bd_some]
  refine ⟨by omega, by omega, ?_⟩
  have e : (if cap = 0 then p else p.map (·.add (0 * 1))) = p := by
    split
    · rfl
    · cases p with
      | none => rfl
      | some a => simp [Addr.add]
  rw [e]
  refine hK _ ⟨p, cap - 0, by simp, by omega, fun e => ?_, fun hne => ?_⟩
  · have := h2 e; omega
  · obtain ⟨b, off, c, fr, hp, hb, hcs⟩ := h3 fun e => hne (by rw [e]; simp)
    refine ⟨b, off, c, fr, hp, hb, fun i hi => ?_⟩
    rw [List.length_take] at hi
    rw [hcs i (by omega), List.getElem?_take, if_pos (by omega)]
def lenAt (w : World) (a : Nat) : Nat := match cellO w.heap[a]? 1 with | some (Value.slice _ n _) => n | _ => 0
theorem trim_ref {x : Big} {cs : List Value} {w : World} {K : Value → World → Prop} (h : BRep w x cs) (hK : ∀ cs' w', Ext w w' → BRep w' x.trim cs' → K (.agg cs'.toArray) w') : callF Tryz.prog 165 [.agg cs.toArray] w K := by
  refine W165_ok ?_
  unfold W165
  obtain ⟨sv, T, rfl, h1, h2, h3⟩ := h
  refine box_new fun a w1 ha hz hba hx => ?_
  refine alloc_new fun b w2 hb hz2 hbb hx2 => ?_
  have hba := hx2.at hba id
  have hx12 := hx.trans hx2
  refine ⟨fun s w' => s = [] ∧ ∃ m sv', m ≤ x.l.length ∧ w'.heap[a]? = some (.cells [.bool x.below, sv'].toArray BT (0, 0)) ∧ SlAt w T sv' m ((x.l.take m).map u64) ∧ trimL (x.l.take m) = trimL x.l ∧ Chg (fun k => k = a) w2 w',
    fun _ w' => lenAt w' a, ⟨rfl, x.l.length, sv, Nat.le_refl _, hba, by rw [List.take_length]; exact h1, by rw [List.take_length], Chg.refl _ _⟩, ?_⟩
  rintro s g w3 ⟨rfl, m, sv', hm, hba3, hs, htr, hc3⟩
  have hx3 : Ext w w3 := hx12.new hc3 (by omega)
  have hs3 := hs.ext hx3
  obtain ⟨p, cap, rfl, hcap⟩ := hs.shape
  simp only [wsv, wsg, wsh, wsl, cond_true, cond_false, exists_eq_left', Option.some.injEq, Option.isSome_some, List.getElem?_toArray, List.getElem?_cons_zero, List.getElem?_cons_succ, List.length_cons, List.length_nil, List.set_cons_zero, List.set_cons_succ, List.getD_cons_zero, List.getD_cons_succ, Nat.zero_add, Nat.add_zero, Nat.reduceAdd, Nat.reduceLT, Nat.lt_add_one, Nat.zero_lt_succ, decide_true, decide_false, ne_eq, reduceCtorEq, wsh, hba3]
  have hlen3 : lenAt w3 a = m := by unfold lenAt; rw [hba3]; rfl
  rw [hlen3]
  clear hlen3
  refine GdW.look (decide (x.l[m - 1]? = some 0)) ?_ ?_
  · intro hc J hJ
    obtain ⟨k, rfl⟩ : ∃ k, m = k + 1 := ⟨m - 1, by simp only [decide_eq_true_eq] at hc; omega⟩
    have hw : IntKind.i64.wrap (((k + 1 : Nat) : Int) - 1) = ((k : Nat) : Int) := by rw [wrap_id (by omega) (by omega)]; omega
    obtain ⟨y, hy⟩ : ∃ y, x.l[k]? = some y := ⟨_, List.getElem?_eq_getElem (by omega)⟩
    simp only [wsv, wsg, wsh, wsl, cond_true, cond_false, exists_eq_left', Option.some.injEq, Option.isSome_some, List.getElem?_toArray, List.getElem?_cons_zero, List.getElem?_cons_succ, List.length_cons, List.length_nil, List.set_cons_zero, List.set_cons_succ, List.getD_cons_zero, List.getD_cons_succ, Nat.zero_add, Nat.add_zero, Nat.reduceAdd, Nat.reduceLT, Nat.lt_add_one, Nat.zero_lt_succ, decide_true, decide_false, ne_eq, reduceCtorEq, hw]
    refine ixa_ld hs3 (by simp; omega) (by simp [hy]; rfl) ?_
    simp only [wsv, wsg, wsh, wsl, cond_true, cond_false, exists_eq_left', Option.some.injEq, Option.isSome_some, List.getElem?_toArray, List.getElem?_cons_zero, List.getElem?_cons_succ, List.length_cons, List.length_nil, List.set_cons_zero, List.set_cons_succ, List.getD_cons_zero, List.getD_cons_succ, Nat.zero_add, Nat.add_zero, Nat.reduceAdd, Nat.reduceLT, Nat.lt_add_one, Nat.zero_lt_succ, decide_true, decide_false, ne_eq, reduceCtorEq]
    have e : decide ((y : Int) = 0) = decide (x.l[k + 1 - 1]? = some 0) := decide_eq_decide.2 (by rw [Nat.add_sub_cancel, hy, Option.some.injEq]; omega)
    rw [e]
    exact hJ
  · intro gd
    simp only [wsv, wsg, wsh, wsl, cond_true, cond_false, exists_eq_left', Option.some.injEq, Option.isSome_some, List.getElem?_toArray, List.getElem?_cons_zero, List.getElem?_cons_succ, List.length_cons, List.length_nil, List.set_cons_zero, List.set_cons_succ, List.getD_cons_zero, List.getD_cons_succ, Nat.zero_add, Nat.add_zero, Nat.reduceAdd, Nat.reduceLT, Nat.lt_add_one, Nat.zero_lt_succ, decide_true, decide_false, ne_eq, reduceCtorEq, wsh, hba3]
    rw [condW_b]
    refine ⟨fun hc => ?_, fun hc => ?_⟩
    · simp only [Bool.and_eq_true, decide_eq_true_eq] at hc
      obtain ⟨k, rfl⟩ : ∃ k, m = k + 1 := ⟨m - 1, by omega⟩
      have hw : IntKind.i64.wrap (((k + 1 : Nat) : Int) - 1) = ((k : Nat) : Int) := by rw [wrap_id (by omega) (by omega)]; omega
      rw [hw]
      refine sll_take (k := k) hs (by simp; omega) (by omega) fun v' hv' => ?_
      obtain ⟨p', cap', rfl, _⟩ := hv'.shape
      refine st_at hba3 rfl (by simp) fun w4 hz4 hb4 hc4 => ?_
      have hb4 : w4.heap[a]? = some (.cells [.bool x.below, .slice p' k cap'].toArray BT (0, 0)) := by rw [hb4]; simp
      refine ⟨⟨k, _, by omega, hb4, ?_, ?_, hc3.trans hc4⟩, ?_⟩
      · have e : (x.l.take k).map u64 = ((x.l.take (k + 1)).map u64).take k := by rw [← List.map_take, List.take_take, Nat.min_eq_left (by omega)]
        rw [e]; exact hv'
      · have e : x.l.take (k + 1) = x.l.take k ++ [0] := by
          rw [List.take_add_one]
          have := hc.2
          rw [Nat.add_sub_cancel] at this
          rw [this]; rfl
        rw [← htr, e, trimL_zero]
      · have : lenAt w4 a = k := by unfold lenAt; rw [hb4]; rfl
        rw [this]; omega
    · have hT : trimL x.l = x.l.take m := by
        rw [← htr]
        rcases Nat.eq_zero_or_pos m with h0 | h0
        · subst h0; rw [List.take_zero, trimL_nil]
        · obtain ⟨k, rfl⟩ : ∃ k, m = k + 1 := ⟨m - 1, by omega⟩
          obtain ⟨y, hy⟩ : ∃ y, x.l[k]? = some y := ⟨_, List.getElem?_eq_getElem (by omega)⟩
          have hy0 : y ≠ 0 := by
            rintro rfl
            rw [decide_eq_true (show ((0 : Int) < ((k + 1 : Nat) : Int)) by omega), Nat.add_sub_cancel, hy] at hc
            simp at hc
          have e : x.l.take (k + 1) = x.l.take k ++ [y] := by rw [List.take_add_one, hy]; rfl
          rw [e, trimL_ne hy0]
      have hlt : (trimL x.l).length = m := by rw [hT, List.length_take]; omega
      have hbel : (x.below && decide ((0 : Int) < (m : Int))) = x.trim.below := by
        show _ = (x.below && !(trimL x.l).isEmpty)
        congr 1
        cases hT2 : trimL x.l with
        | nil => rw [hT2] at hlt; simp at hlt; subst hlt; simp
        | cons y r => rw [hT2] at hlt; simp at hlt; simp; omega
      (try simp only [wsv, wsg, wsh, wsl, cond_true, cond_false, exists_eq_left', Option.some.injEq, Option.isSome_some, List.getElem?_toArray, List.getElem?_cons_zero, List.getElem?_cons_succ, List.length_cons, List.length_nil, List.set_cons_zero, List.set_cons_succ, List.getD_cons_zero, List.getD_cons_succ, Nat.zero_add, Nat.add_zero, Nat.reduceAdd, Nat.reduceLT, Nat.lt_add_one, Nat.zero_lt_succ, decide_true, decide_false, ne_eq, reduceCtorEq, wsh, hba3])
      intros
      rw [hbel]
      refine st_at hba3 rfl (by simp) fun w4 hz4 hb4 hc4 => ?_
      have hb4 : w4.heap[a]? = some (.cells [.bool x.trim.below, .slice p m cap].toArray BT (0, 0)) := by rw [hb4]; simp
      refine ld_all hb4 rfl ?_
      have hbb4 := hc4.at (hc3.at hbb (by omega)) (by omega)
      have hx4 : Ext w w4 := hx3.new hc4 (by omega)
      refine ret_big (w0 := w) hbb4 rfl (by have := hx.size; omega) hx4 rfl rfl fun w5 hx5 _ => ?_
      refine hK _ w5 hx5 ⟨_, T, rfl, ?_, ?_, ?_⟩
      · show SlAt w5 T _ (trimL x.l).length ((trimL x.l).map u64)
        rw [hlt, hT]
        exact hs.ext hx5
      · show (trimL x.l).length ≤ 1000
        rw [hlt]; omega
      · exact (trimL_spec x.l).2.2 h3
theorem headD_drop (l : List Nat) (i : Nat) : (l.drop i).headD 0 = l.getD i 0 := by
  induction l generalizing i with
  | nil => simp
  | cons x l ih => cases i <;> simp_all
theorem plusL_step {x y : List Nat} {c : Nat} (h : x ≠ [] ∨ y ≠ []) : plusL x y c = (c + x.headD 0 + y.headD 0) % 1000000000 :: plusL x.tail y.tail ((c + x.headD 0 + y.headD 0) / 1000000000) := by
  cases x with
  | nil => cases y with
    | nil => simp at h
    | cons b y => simp [plusL]
  | cons a x => cases y with
    | nil => simp [plusL]
    | cons b y => simp [plusL]
theorem lim_getD {l : List Nat} (h : Lim l) (i : Nat) : l.getD i 0 < 1000000000 := by
  rw [List.getD_eq_getElem?_getD]
  cases hi : l[i]? with
  | none => simp
  | some x => exact h x (List.mem_of_getElem? hi)
theorem plus_ref {x y : Big} {cs ds : List Value} {w : World} {K : Value → World → Prop} (h : BRep w x cs) (h' : BRep w y ds) (hK : ∀ v w', Ext w w' → SlAt w' U64 v (plusL x.l y.l 0).length ((plusL x.l y.l 0).map u64) → K v w') : callF Tryz.prog 164 [.agg cs.toArray, .agg ds.toArray] w K := by
  refine W164_ok ?_
  unfold W164
  refine box_big h fun a w1 sv hB hx ha hz1 => ?_
  refine box_big (h'.ext hx) fun b w2 sv' hC hx2 hb hz2 => ?_
  have hB := hB.ext hx2
  have hx := hx.trans hx2
  clear hx2
  simp only [wsv, wsg, wsh, wsl, cond_true, cond_false, exists_eq_left', Option.some.injEq, Option.isSome_some, List.getElem?_toArray, List.getElem?_cons_zero, List.getElem?_cons_succ, List.length_cons, List.length_nil, List.set_cons_zero, List.set_cons_succ, List.getD_cons_zero, List.getD_cons_succ, Nat.zero_add, Nat.add_zero, Nat.reduceAdd, Nat.reduceLT, Nat.lt_add_one, Nat.zero_lt_succ, decide_true, decide_false, ne_eq, reduceCtorEq, wsh, hB.hb, hC.hb, hB.len, hC.len]
  have hmax : (if (x.l.length : Int) < (y.l.length : Int) then (y.l.length : Int) else (x.l.length : Int)) = ((max x.l.length y.l.length : Nat) : Int) := by split <;> omega
  rw [hmax]
  generalize hM : max x.l.length y.l.length = M
  have hM1 : M ≤ 1000 := by have := hB.few; have := hC.few; omega
  refine ⟨fun s w' => ∃ i c v l, i ≤ M ∧ c ≤ 1 ∧ s = [v, u64 c, i64 (i : Nat)] ∧ Ext w2 w' ∧ Own w' w2.heap.size U64 1 v l.length (l.map u64) ∧ l.length = i ∧ l ++ plusL (x.l.drop i) (y.l.drop i) c = plusL x.l y.l 0,
    fun s _ => match s with | [_, _, .int _ i] => M - i.toNat | _ => 0, ⟨0, 0, _, [], by omega, by omega, rfl, Chg.refl _ _, ⟨rfl, .inl ⟨rfl, rfl⟩⟩, rfl, by simp⟩, ?_⟩
  rintro s g w3 ⟨i, c, v, l, hi, hc, rfl, hx3, hO, hl, he⟩
  have hB3 := hB.ext hx3
  have hC3 := hC.ext hx3
  rcases Nat.lt_or_ge i M with hlt | hge
  · have hltI : (i : Int) < (M : Int) := by omega
    have hxi := lim_getD hB.lim i
    have hyi := lim_getD hC.lim i
    simp only [wsv, wsg, wsh, wsl, cond_true, cond_false, exists_eq_left', Option.some.injEq, Option.isSome_some, List.getElem?_toArray, List.getElem?_cons_zero, List.getElem?_cons_succ, List.length_cons, List.length_nil, List.set_cons_zero, List.set_cons_succ, List.getD_cons_zero, List.getD_cons_succ, Nat.zero_add, Nat.add_zero, Nat.reduceAdd, Nat.reduceLT, Nat.lt_add_one, Nat.zero_lt_succ, decide_true, decide_false, ne_eq, reduceCtorEq, hltI]
    refine JoinW.cut (fun s w' => s = [u64 (c + x.l.getD i 0)] ∧ w' = w3) ?_ ?_
    · (try simp only [wsv, wsg, wsh, wsl, cond_true, cond_false, exists_eq_left', Option.some.injEq, Option.isSome_some, List.getElem?_toArray, List.getElem?_cons_zero, List.getElem?_cons_succ, List.length_cons, List.length_nil, List.set_cons_zero, List.set_cons_succ, List.getD_cons_zero, List.getD_cons_succ, Nat.zero_add, Nat.add_zero, Nat.reduceAdd, Nat.reduceLT, Nat.lt_add_one, Nat.zero_lt_succ, decide_true, decide_false, ne_eq, reduceCtorEq, wsh, hB3.hb, hB3.len])
      rw [condW_dec]
      refine ⟨fun hi1 => ?_, fun hi1 => ?_⟩
      · obtain ⟨n, hn⟩ : ∃ n, x.l[i]? = some n := ⟨_, List.getElem?_eq_getElem (by omega)⟩
        have hgd : x.l.getD i 0 = n := by rw [List.getD_eq_getElem?_getD, hn]; rfl
        (try simp only [wsv, wsg, wsh, wsl, cond_true, cond_false, exists_eq_left', Option.some.injEq, Option.isSome_some, List.getElem?_toArray, List.getElem?_cons_zero, List.getElem?_cons_succ, List.length_cons, List.length_nil, List.set_cons_zero, List.set_cons_succ, List.getD_cons_zero, List.getD_cons_succ, Nat.zero_add, Nat.add_zero, Nat.reduceAdd, Nat.reduceLT, Nat.lt_add_one, Nat.zero_lt_succ, decide_true, decide_false, ne_eq, reduceCtorEq, wsh, hB3.hb])
        refine hB3.at hn ?_
        simp only [wsv, wsg, wsh, wsl, cond_true, cond_false, exists_eq_left', Option.some.injEq, Option.isSome_some, List.getElem?_toArray, List.getElem?_cons_zero, List.getElem?_cons_succ, List.length_cons, List.length_nil, List.set_cons_zero, List.set_cons_succ, List.getD_cons_zero, List.getD_cons_succ, Nat.zero_add, Nat.add_zero, Nat.reduceAdd, Nat.reduceLT, Nat.lt_add_one, Nat.zero_lt_succ, decide_true, decide_false, ne_eq, reduceCtorEq]
        rw [hgd] at hxi ⊢
        rw [u64_wrap (by omega) (by omega)]
        simp only [u64, Int.natCast_add]
      · have hgd : x.l.getD i 0 = 0 := by rw [List.getD_eq_getElem?_getD, List.getElem?_eq_none (by omega)]; rfl
        rw [hgd]; first | exact ⟨rfl, rfl⟩ | rfl
    · rintro s gg w4 ⟨rfl, rfl⟩
      refine JoinW.cut (fun s w' => s = [u64 (c + x.l.getD i 0 + y.l.getD i 0)] ∧ w' = w4) ?_ ?_
      · (try simp only [wsv, wsg, wsh, wsl, cond_true, cond_false, exists_eq_left', Option.some.injEq, Option.isSome_some, List.getElem?_toArray, List.getElem?_cons_zero, List.getElem?_cons_succ, List.length_cons, List.length_nil, List.set_cons_zero, List.set_cons_succ, List.getD_cons_zero, List.getD_cons_succ, Nat.zero_add, Nat.add_zero, Nat.reduceAdd, Nat.reduceLT, Nat.lt_add_one, Nat.zero_lt_succ, decide_true, decide_false, ne_eq, reduceCtorEq, wsh, hC3.hb, hC3.len])
        rw [condW_dec]
        refine ⟨fun hi1 => ?_, fun hi1 => ?_⟩
        · obtain ⟨n, hn⟩ : ∃ n, y.l[i]? = some n := ⟨_, List.getElem?_eq_getElem (by omega)⟩
          have hgd : y.l.getD i 0 = n := by rw [List.getD_eq_getElem?_getD, hn]; rfl
          (try simp only [wsv, wsg, wsh, wsl, cond_true, cond_false, exists_eq_left', Option.some.injEq, Option.isSome_some, List.getElem?_toArray, List.getElem?_cons_zero, List.getElem?_cons_succ, List.length_cons, List.length_nil, List.set_cons_zero, List.set_cons_succ, List.getD_cons_zero, List.getD_cons_succ, Nat.zero_add, Nat.add_zero, Nat.reduceAdd, Nat.reduceLT, Nat.lt_add_one, Nat.zero_lt_succ, decide_true, decide_false, ne_eq, reduceCtorEq, wsh, hC3.hb])
          refine hC3.at hn ?_
          simp only [wsv, wsg, wsh, wsl, cond_true, cond_false, exists_eq_left', Option.some.injEq, Option.isSome_some, List.getElem?_toArray, List.getElem?_cons_zero, List.getElem?_cons_succ, List.length_cons, List.length_nil, List.set_cons_zero, List.set_cons_succ, List.getD_cons_zero, List.getD_cons_succ, Nat.zero_add, Nat.add_zero, Nat.reduceAdd, Nat.reduceLT, Nat.lt_add_one, Nat.zero_lt_succ, decide_true, decide_false, ne_eq, reduceCtorEq]
          rw [hgd] at hyi ⊢
          rw [u64_wrap (by omega) (by omega)]
          simp only [u64, Int.natCast_add]
        · have hgd : y.l.getD i 0 = 0 := by rw [List.getD_eq_getElem?_getD, List.getElem?_eq_none (by omega)]; rfl
          rw [hgd]; first | exact ⟨rfl, rfl⟩ | rfl
      · rintro s gg w5 ⟨rfl, rfl⟩
        have hst := plusL_step (x := x.l.drop i) (y := y.l.drop i) (c := c) (by
          rcases Nat.lt_or_ge i x.l.length with h1 | h1
          · left; intro e; have := List.drop_eq_nil_iff.1 e; omega
          · right; intro e; have := List.drop_eq_nil_iff.1 e; omega)
        rw [headD_drop, headD_drop, List.tail_drop, List.tail_drop] at hst
        have hn : c + x.l.getD i 0 + y.l.getD i 0 < 2000000000 := by omega
        generalize c + x.l.getD i 0 + y.l.getD i 0 = n at *
        have e1 : ((n : Int).tmod 1000000000) = ((n % 1000000000 : Nat) : Int) := by simp [Int.natCast_emod, Int.tmod_eq_emod_of_nonneg]
        have e2 : IntKind.u64.wrap ((n : Int).tdiv 1000000000) = ((n / 1000000000 : Nat) : Int) := by
          rw [Int.tdiv_eq_ediv_of_nonneg (by omega), u64_wrap (by omega) (by omega)]; omega
        have hne : ¬ (1000000000 : Int) = 0 := by decide
        simp only [wsv, wsg, wsh, wsl, cond_true, cond_false, exists_eq_left', Option.some.injEq, Option.isSome_some, List.getElem?_toArray, List.getElem?_cons_zero, List.getElem?_cons_succ, List.length_cons, List.length_nil, List.set_cons_zero, List.set_cons_succ, List.getD_cons_zero, List.getD_cons_succ, Nat.zero_add, Nat.add_zero, Nat.reduceAdd, Nat.reduceLT, Nat.lt_add_one, Nat.zero_lt_succ, decide_true, decide_false, ne_eq, reduceCtorEq, e1, e2, hne, not_false_eq_true]
        refine app_u hO hx3.size (by omega) fun v' w' h' hc' => ?_
        rw [up1 (by omega)]
        refine ⟨⟨i + 1, n / 1000000000, v', l ++ [n % 1000000000], hlt, by omega, rfl, hx3.then hc' fun k hk e => by omega, h', by simp [hl], ?_⟩, by simp only [Int.toNat_natCast]; omega⟩
        rw [← he, hst]; simp
  · obtain rfl : i = M := by omega
    simp only [wsv, wsg, wsh, wsl, cond_true, cond_false, exists_eq_left', Option.some.injEq, Option.isSome_some, List.getElem?_toArray, List.getElem?_cons_zero, List.getElem?_cons_succ, List.length_cons, List.length_nil, List.set_cons_zero, List.set_cons_succ, List.getD_cons_zero, List.getD_cons_succ, Nat.zero_add, Nat.add_zero, Nat.reduceAdd, Nat.reduceLT, Nat.lt_add_one, Nat.zero_lt_succ, decide_true, decide_false, ne_eq, reduceCtorEq, Int.lt_irrefl]
    refine app_u hO hx3.size (by omega) fun v' w' h' hc' => ?_
    have e1 : x.l.drop i = [] := List.drop_eq_nil_iff.2 (by omega)
    have e2 : y.l.drop i = [] := List.drop_eq_nil_iff.2 (by omega)
    rw [e1, e2] at he
    simp only [plusL] at he
    have := hK v' w' (hx.trans (hx3.then hc' fun k hk e => by omega))
    rw [← he] at this
    exact this h'.sl
theorem minusL_step {a : Nat} {x y : List Nat} {c : Nat} : minusL (a :: x) y c = (if a < c + y.headD 0 then a + 1000000000 - (c + y.headD 0) else a - (c + y.headD 0)) :: minusL x y.tail (if a < c + y.headD 0 then 1 else 0) := by
  simp only [minusL]; split <;> rfl
theorem minus_ref {x y : Big} {cs ds : List Value} {w : World} {K : Value → World → Prop} (h : BRep w x cs) (h' : BRep w y ds) (hK : ∀ v w', Ext w w' → SlAt w' U64 v (minusL x.l y.l 0).length ((minusL x.l y.l 0).map u64) → K v w') : callF Tryz.prog 167 [.agg cs.toArray, .agg ds.toArray] w K := by
  refine W167_ok ?_
  unfold W167
  refine box_big h fun a w1 sv hB hx ha hz1 => ?_
  refine box_big (h'.ext hx) fun b w2 sv' hC hx2 hb hz2 => ?_
  have hB := hB.ext hx2
  have hx := hx.trans hx2
  clear hx2
  simp only [wsv, wsg, wsh, wsl, cond_true, cond_false, exists_eq_left', Option.some.injEq, Option.isSome_some, List.getElem?_toArray, List.getElem?_cons_zero, List.getElem?_cons_succ, List.length_cons, List.length_nil, List.set_cons_zero, List.set_cons_succ, List.getD_cons_zero, List.getD_cons_succ, Nat.zero_add, Nat.add_zero, Nat.reduceAdd, Nat.reduceLT, Nat.lt_add_one, Nat.zero_lt_succ, decide_true, decide_false, ne_eq, reduceCtorEq, wsh, hB.hb, hC.hb, hB.len, hC.len]
  have hM1 : x.l.length ≤ 1000 := hB.few
  refine ⟨fun s w' => ∃ i c v l, i ≤ x.l.length ∧ c ≤ 1 ∧ s = [v, u64 c, i64 (i : Nat)] ∧ Ext w2 w' ∧ Own w' w2.heap.size U64 1 v l.length (l.map u64) ∧ l.length = i ∧ l ++ minusL (x.l.drop i) (y.l.drop i) c = minusL x.l y.l 0,
    fun s _ => match s with | [_, _, .int _ i] => x.l.length - i.toNat | _ => 0, ⟨0, 0, _, [], by omega, by omega, rfl, Chg.refl _ _, ⟨rfl, .inl ⟨rfl, rfl⟩⟩, rfl, by simp⟩, ?_⟩
  rintro s g w3 ⟨i, c, v, l, hi, hc, rfl, hx3, hO, hl, he⟩
  have hB3 := hB.ext hx3
  have hC3 := hC.ext hx3
  rcases Nat.lt_or_ge i x.l.length with hlt | hge
  · have hltI : (i : Int) < (x.l.length : Int) := by omega
    have hyi := lim_getD hC.lim i
    obtain ⟨n, hn⟩ : ∃ n, x.l[i]? = some n := ⟨_, List.getElem?_eq_getElem hlt⟩
    have hnl := hB.lim n (List.mem_of_getElem? hn)
    simp only [wsv, wsg, wsh, wsl, cond_true, cond_false, exists_eq_left', Option.some.injEq, Option.isSome_some, List.getElem?_toArray, List.getElem?_cons_zero, List.getElem?_cons_succ, List.length_cons, List.length_nil, List.set_cons_zero, List.set_cons_succ, List.getD_cons_zero, List.getD_cons_succ, Nat.zero_add, Nat.add_zero, Nat.reduceAdd, Nat.reduceLT, Nat.lt_add_one, Nat.zero_lt_succ, decide_true, decide_false, ne_eq, reduceCtorEq, hltI]
    refine hB3.at hn ?_
    refine JoinW.cut (fun s w' => s = [u64 (c + y.l.getD i 0)] ∧ w' = w3) ?_ ?_
    · (try simp only [wsv, wsg, wsh, wsl, cond_true, cond_false, exists_eq_left', Option.some.injEq, Option.isSome_some, List.getElem?_toArray, List.getElem?_cons_zero, List.getElem?_cons_succ, List.length_cons, List.length_nil, List.set_cons_zero, List.set_cons_succ, List.getD_cons_zero, List.getD_cons_succ, Nat.zero_add, Nat.add_zero, Nat.reduceAdd, Nat.reduceLT, Nat.lt_add_one, Nat.zero_lt_succ, decide_true, decide_false, ne_eq, reduceCtorEq, wsh, hC3.hb, hC3.len])
      rw [condW_dec]
      refine ⟨fun hi1 => ?_, fun hi1 => ?_⟩
      · obtain ⟨m, hm⟩ : ∃ n, y.l[i]? = some n := ⟨_, List.getElem?_eq_getElem (by omega)⟩
        have hgd : y.l.getD i 0 = m := by rw [List.getD_eq_getElem?_getD, hm]; rfl
        (try simp only [wsv, wsg, wsh, wsl, cond_true, cond_false, exists_eq_left', Option.some.injEq, Option.isSome_some, List.getElem?_toArray, List.getElem?_cons_zero, List.getElem?_cons_succ, List.length_cons, List.length_nil, List.set_cons_zero, List.set_cons_succ, List.getD_cons_zero, List.getD_cons_succ, Nat.zero_add, Nat.add_zero, Nat.reduceAdd, Nat.reduceLT, Nat.lt_add_one, Nat.zero_lt_succ, decide_true, decide_false, ne_eq, reduceCtorEq, wsh, hC3.hb])
        refine hC3.at hm ?_
        simp only [wsv, wsg, wsh, wsl, cond_true, cond_false, exists_eq_left', Option.some.injEq, Option.isSome_some, List.getElem?_toArray, List.getElem?_cons_zero, List.getElem?_cons_succ, List.length_cons, List.length_nil, List.set_cons_zero, List.set_cons_succ, List.getD_cons_zero, List.getD_cons_succ, Nat.zero_add, Nat.add_zero, Nat.reduceAdd, Nat.reduceLT, Nat.lt_add_one, Nat.zero_lt_succ, decide_true, decide_false, ne_eq, reduceCtorEq]
        rw [hgd] at hyi ⊢
        rw [u64_wrap (by omega) (by omega)]
        simp only [u64, Int.natCast_add]
      · have hgd : y.l.getD i 0 = 0 := by rw [List.getD_eq_getElem?_getD, List.getElem?_eq_none (by omega)]; rfl
        rw [hgd]; first | exact ⟨rfl, rfl⟩ | rfl
    · rintro s gg w4 ⟨rfl, rfl⟩
      have hdx : x.l.drop i = n :: x.l.drop (i + 1) := by
        rw [List.drop_eq_getElem_cons hlt]; congr 1
        exact Option.some.inj ((List.getElem?_eq_getElem hlt).symm.trans hn)
      rw [hdx, minusL_step, headD_drop, List.tail_drop] at he
      have ht : c + y.l.getD i 0 ≤ 1000000000 := by omega
      generalize c + y.l.getD i 0 = t at *
      refine JoinW.cut (fun s w' => s = [u64 (if n < t then 1 else 0), u64 (if n < t then n + 1000000000 else n)] ∧ w' = w4) ?_ ?_
      · simp only [wsv, wsg, wsh, wsl, cond_true, cond_false, exists_eq_left', Option.some.injEq, Option.isSome_some, List.getElem?_toArray, List.getElem?_cons_zero, List.getElem?_cons_succ, List.length_cons, List.length_nil, List.set_cons_zero, List.set_cons_succ, List.getD_cons_zero, List.getD_cons_succ, Nat.zero_add, Nat.add_zero, Nat.reduceAdd, Nat.reduceLT, Nat.lt_add_one, Nat.zero_lt_succ, decide_true, decide_false, ne_eq, reduceCtorEq, condW_dec]
        refine ⟨fun h1 => ?_, fun h1 => ?_⟩
        · rw [if_pos (by omega), if_pos (by omega), u64_wrap (by omega) (by omega)]
          simp only [u64, Int.natCast_add]; rfl
        · rw [if_neg (by omega), if_neg (by omega)]; rfl
      · rintro s gg w5 ⟨rfl, rfl⟩
        have e1 : IntKind.u64.wrap (((if n < t then n + 1000000000 else n : Nat) : Int) - (t : Int)) = (((if n < t then n + 1000000000 - t else n - t : Nat)) : Int) := by
          split
          · rw [u64_wrap (by omega) (by omega)]; omega
          · rw [u64_wrap (by omega) (by omega)]; omega
        simp only [wsv, wsg, wsh, wsl, cond_true, cond_false, exists_eq_left', Option.some.injEq, Option.isSome_some, List.getElem?_toArray, List.getElem?_cons_zero, List.getElem?_cons_succ, List.length_cons, List.length_nil, List.set_cons_zero, List.set_cons_succ, List.getD_cons_zero, List.getD_cons_succ, Nat.zero_add, Nat.add_zero, Nat.reduceAdd, Nat.reduceLT, Nat.lt_add_one, Nat.zero_lt_succ, decide_true, decide_false, ne_eq, reduceCtorEq, e1]
        refine app_u hO hx3.size (by omega) fun v' w' h' hc' => ?_
        rw [up1 (by omega)]
        refine ⟨⟨i + 1, if n < t then 1 else 0, v', l ++ [if n < t then n + 1000000000 - t else n - t], hlt, by split <;> omega, rfl, hx3.then hc' fun k hk e => by omega, h', by simp [hl], ?_⟩, by simp only [Int.toNat_natCast]; omega⟩
        rw [← he]; simp
  · obtain rfl : i = x.l.length := by omega
    simp only [wsv, wsg, wsh, wsl, cond_true, cond_false, exists_eq_left', Option.some.injEq, Option.isSome_some, List.getElem?_toArray, List.getElem?_cons_zero, List.getElem?_cons_succ, List.length_cons, List.length_nil, List.set_cons_zero, List.set_cons_succ, List.getD_cons_zero, List.getD_cons_succ, Nat.zero_add, Nat.add_zero, Nat.reduceAdd, Nat.reduceLT, Nat.lt_add_one, Nat.zero_lt_succ, decide_true, decide_false, ne_eq, reduceCtorEq, Int.lt_irrefl]
    rw [List.drop_length] at he
    simp only [minusL, List.append_nil] at he
    have := hK v w3 (hx.trans hx3)
    rw [← he] at this
    exact this hO.sl
theorem cmpN_I (a b : Nat) : cmpI (a : Int) (b : Int) = cmpN a b := by unfold cmpN cmpI; simp only [Int.ofNat_lt]
theorem size_num {x y : Big} {cs ds : List Value} {w : World} {K : Value → World → Prop} (h : BRep w x cs) (h' : BRep w y ds) (hK : ∀ w', Ext w w' → K (i64 (sizeL x.l y.l)) w') : callF Tryz.prog 166 [.agg cs.toArray, .agg ds.toArray] w K := by
  refine W166_ok ?_
  unfold W166
  refine box_big h fun a w1 sv hB hx ha hz1 => ?_
  refine box_big (h'.ext hx) fun b w2 sv' hC hx2 hb hz2 => ?_
  have hB := hB.ext hx2
  have hx := hx.trans hx2
  clear hx2
  simp only [wsv, wsg, wsh, wsl, cond_true, cond_false, exists_eq_left', Option.some.injEq, Option.isSome_some, List.getElem?_toArray, List.getElem?_cons_zero, List.getElem?_cons_succ, List.length_cons, List.length_nil, List.set_cons_zero, List.set_cons_succ, List.getD_cons_zero, List.getD_cons_succ, Nat.zero_add, Nat.add_zero, Nat.reduceAdd, Nat.reduceLT, Nat.lt_add_one, Nat.zero_lt_succ, decide_true, decide_false, ne_eq, reduceCtorEq, wsh, hB.hb, hC.hb, hB.len, hC.len]
  refine cmp_i ?_
  rw [cmpN_I]
  unfold sizeL at hK
  simp only [wsv, wsg, wsh, wsl, cond_true, cond_false, exists_eq_left', Option.some.injEq, Option.isSome_some, List.getElem?_toArray, List.getElem?_cons_zero, List.getElem?_cons_succ, List.length_cons, List.length_nil, List.set_cons_zero, List.set_cons_succ, List.getD_cons_zero, List.getD_cons_succ, Nat.zero_add, Nat.add_zero, Nat.reduceAdd, Nat.reduceLT, Nat.lt_add_one, Nat.zero_lt_succ, decide_true, decide_false, ne_eq, reduceCtorEq, condW_dec]
  refine ⟨fun h0 => ?_, fun h0 => ?_⟩
  · have := hK w2 hx
    rw [if_pos h0] at this
    exact this
  · have h0 : cmpN x.l.length y.l.length = 0 := Decidable.not_not.1 h0
    rw [if_neg (by rw [h0]; simp)] at hK
    have hl : x.l.length = y.l.length := by
      rcases cmpN_cases x.l.length y.l.length with ⟨_, e⟩ | ⟨e, _⟩ | ⟨_, e⟩
      · rw [h0] at e; cases e
      · exact e
      · rw [h0] at e; cases e
    have hf := hB.few
    simp only [wsv, wsg, wsh, wsl, cond_true, cond_false, exists_eq_left', Option.some.injEq, Option.isSome_some, List.getElem?_toArray, List.getElem?_cons_zero, List.getElem?_cons_succ, List.length_cons, List.length_nil, List.set_cons_zero, List.set_cons_succ, List.getD_cons_zero, List.getD_cons_succ, Nat.zero_add, Nat.add_zero, Nat.reduceAdd, Nat.reduceLT, Nat.lt_add_one, Nat.zero_lt_succ, decide_true, decide_false, ne_eq, reduceCtorEq, wsh, hB.hb, hB.len]
    refine ⟨fun s w' => ∃ m : Nat, m ≤ x.l.length ∧ s = [i64 ((m : Int) - 1)] ∧ Ext w2 w' ∧ sizeR ((x.l.zip y.l).take m).reverse = sizeR (x.l.zip y.l).reverse,
      fun s _ => match s with | [.int _ i] => (i + 1).toNat | _ => 0, ⟨x.l.length, Nat.le_refl _, by rw [wrap_id (by omega) (by omega)], Chg.refl _ _, by rw [List.take_of_length_le (by rw [List.length_zip]; omega)]⟩, ?_⟩
    rintro s g w3 ⟨m, hm, rfl, hx3, he⟩
    have hxd := hx3.trans (Chg.drew (Chg.refl (fun _ => False) w3))
    have hB3 := hB.ext hx3
    have hC3 := hC.ext hx3
    have hBd := hB.ext hxd
    have hCd := hC.ext hxd
    rcases Nat.eq_zero_or_pos m with h1 | h1
    · subst h1
      have e0 : ¬ (0 : Int) ≤ ((0 : Nat) : Int) - 1 := by omega
      simp only [wsv, wsg, wsh, wsl, cond_true, cond_false, exists_eq_left', Option.some.injEq, Option.isSome_some, List.getElem?_toArray, List.getElem?_cons_zero, List.getElem?_cons_succ, List.length_cons, List.length_nil, List.set_cons_zero, List.set_cons_succ, List.getD_cons_zero, List.getD_cons_succ, Nat.zero_add, Nat.add_zero, Nat.reduceAdd, Nat.reduceLT, Nat.lt_add_one, Nat.zero_lt_succ, decide_true, decide_false, ne_eq, reduceCtorEq, e0]
      have := hK w3 (hx.trans hx3)
      rw [← he] at this
      exact this
    · obtain ⟨k, rfl⟩ : ∃ k, m = k + 1 := ⟨m - 1, by omega⟩
      obtain ⟨p, hp⟩ : ∃ p, x.l[k]? = some p := ⟨_, List.getElem?_eq_getElem (by omega)⟩
      obtain ⟨q, hq⟩ : ∃ q, y.l[k]? = some q := ⟨_, List.getElem?_eq_getElem (by omega)⟩
      have hk : ((k + 1 : Nat) : Int) - 1 = ((k : Nat) : Int) := by omega
      have e0 : (0 : Int) ≤ ((k : Nat) : Int) := by omega
      rw [hk]
      simp only [wsv, wsg, wsh, wsl, cond_true, cond_false, exists_eq_left', Option.some.injEq, Option.isSome_some, List.getElem?_toArray, List.getElem?_cons_zero, List.getElem?_cons_succ, List.length_cons, List.length_nil, List.set_cons_zero, List.set_cons_succ, List.getD_cons_zero, List.getD_cons_succ, Nat.zero_add, Nat.add_zero, Nat.reduceAdd, Nat.reduceLT, Nat.lt_add_one, Nat.zero_lt_succ, decide_true, decide_false, ne_eq, reduceCtorEq, e0, wsh, hB3.hb, hC3.hb]
      refine hBd.at hp ?_
      refine hCd.at hq ?_
      refine cmp_u ?_
      have hz : (x.l.zip y.l).take (k + 1) = (x.l.zip y.l).take k ++ [(p, q)] := by
        rw [List.take_add_one, (List.getElem?_zip_eq_some (z := (p, q))).2 ⟨hp, hq⟩]; rfl
      rw [hz, List.reverse_append] at he
      simp only [List.reverse_cons, List.reverse_nil, List.nil_append, List.singleton_append, sizeR] at he
      simp only [wsv, wsg, wsh, wsl, cond_true, cond_false, exists_eq_left', Option.some.injEq, Option.isSome_some, List.getElem?_toArray, List.getElem?_cons_zero, List.getElem?_cons_succ, List.length_cons, List.length_nil, List.set_cons_zero, List.set_cons_succ, List.getD_cons_zero, List.getD_cons_succ, Nat.zero_add, Nat.add_zero, Nat.reduceAdd, Nat.reduceLT, Nat.lt_add_one, Nat.zero_lt_succ, decide_true, decide_false, ne_eq, reduceCtorEq, condW_dec]
      refine ⟨fun h2 => ?_, fun h2 => ?_⟩
      · rw [if_pos h2] at he
        have := hK w3.drew (hx.trans hxd)
        rw [← he] at this
        exact this
      · rw [if_neg h2] at he
        rw [wrap_id (by omega) (by omega)]
        exact ⟨⟨k, by omega, rfl, hxd, he⟩, by omega⟩
theorem turned_ref {x : Big} {cs : List Value} {w : World} {K : Value → World → Prop} (h : BRep w x cs) (hK : ∀ cs' w', Ext w w' → BRep w' (turnB x) cs' → K (.agg cs'.toArray) w') : callF Tryz.prog 136 [.agg cs.toArray] w K := by
  refine W136_ok ?_
  unfold W136
  refine box_big h fun a w1 sv hB hx ha hz1 => ?_
  refine alloc_new fun b w2 hb hz2 hbb hx2 => ?_
  have hB := hB.ext hx2
  have hx := hx.trans hx2
  obtain ⟨T, hs⟩ := hB.l
  obtain ⟨p, cap, rfl, _⟩ := hs.shape
  simp only [wsv, wsg, wsh, wsl, cond_true, cond_false, exists_eq_left', Option.some.injEq, Option.isSome_some, List.getElem?_toArray, List.getElem?_cons_zero, List.getElem?_cons_succ, List.length_cons, List.length_nil, List.set_cons_zero, List.set_cons_succ, List.getD_cons_zero, List.getD_cons_succ, Nat.zero_add, Nat.add_zero, Nat.reduceAdd, Nat.reduceLT, Nat.lt_add_one, Nat.zero_lt_succ, decide_true, decide_false, ne_eq, reduceCtorEq, wsh, hB.hb]
  refine trim_ref (x := ⟨!x.below, x.l⟩) ⟨_, T, rfl, hs, hB.few, hB.lim⟩ fun cs' w3 hx3 hr => ?_
  have hbb := hx3.at hbb id
  refine ret_agg hbb hr.len rfl hr.one fun w4 hc4 => ?_
  exact hK _ w4 ((hx.trans hx3).new hc4 (by have := hx.size; have := hx2.size; omega)) (hr.keep hbb (by intro n e; cases e) hc4)
theorem sum_ref {x y : Big} {cs ds : List Value} {w : World} {K : Value → World → Prop} (h : BRep w x cs) (h' : BRep w y ds) (hfew : x.l.length + y.l.length < 900) (hK : ∀ cs' w', Ext w w' → BRep w' (sumB x y) cs' → K (.agg cs'.toArray) w') : callF Tryz.prog 134 [.agg cs.toArray, .agg ds.toArray] w K := by
  refine W134_ok ?_
  unfold W134
  refine box_big h fun a w1 sv hB hx ha hz1 => ?_
  refine box_big (h'.ext hx) fun b w2 sv' hC hx2 hb hz2 => ?_
  have hB := hB.ext hx2
  have hx := hx.trans hx2
  refine alloc_new fun g w3 hg hz3 hgg hx3 => ?_
  have hB := hB.ext hx3
  have hC := hC.ext hx3
  have hs2 := hx2.size
  have hs := hx.size
  have hx := hx.trans hx3
  have hfin : ∀ (z : Big) (w4 : World) (v : Value), Ext w3 w4 → SlAt w4 U64 v z.l.length (z.l.map u64) → z.l.length ≤ 1000 → Lim z.l → sumB x y = z.trim →
      callF Tryz.prog 165 [.agg [.bool z.below, v].toArray] w4 fun t w6 => stW 2 (ptr g) t w6 fun w7 => ldW true 2 (ptr g) w7 fun r => K r w7 := by
    intro z w4 v hx4 hv hf hl he
    refine trim_ref (x := z) ⟨v, U64, rfl, hv, hf, hl⟩ fun cs' w5 hx5 hr => ?_
    have hgg := hx5.at (hx4.at hgg id) id
    refine ret_agg hgg hr.len rfl hr.one fun w6 hc6 => ?_
    rw [he] at hK
    exact hK _ w6 ((hx.trans (hx4.trans hx5)).new hc6 (by omega)) (hr.keep hgg (by intro n e; cases e) hc6)
  have hxd : Ext w3 w3.drew := Chg.drew (Chg.refl (fun _ => False) w3)
  have hBd := hB.ext hxd
  have hCd := hC.ext hxd
  have hpl : ∀ (x y : List Nat) (c : Nat), (plusL x y c).length ≤ x.length + y.length + 1 := by
    intro x
    induction x with
    | nil => intro y; induction y with
      | nil => intro c; simp [plusL]
      | cons b y ih => intro c; simp only [plusL, List.length_cons]; have := ih ((c + b) / 1000000000); simp only [List.length_nil] at this ⊢; omega
    | cons a x ih =>
      intro y c
      cases y with
      | nil => simp only [plusL, List.length_cons, List.length_nil]; have := ih [] ((c + a) / 1000000000); simp only [List.length_nil] at this; omega
      | cons b y => simp only [plusL, List.length_cons]; have := ih y ((c + a + b) / 1000000000); omega
  have hml : ∀ (x y : List Nat) (c : Nat), (minusL x y c).length = x.length := by
    intro x
    induction x with
    | nil => intro y c; simp [minusL]
    | cons a x ih => intro y c; rw [minusL_step, List.length_cons, ih, List.length_cons]
  have hmlim : ∀ (x y : List Nat) (c : Nat), Lim x → Lim y → c ≤ 1 → Lim (minusL x y c) := by
    intro x
    induction x with
    | nil => intro y c _ _ _; simp [minusL, Lim]
    | cons a x ih =>
      intro y c h1 h2 h3
      rw [minusL_step]
      have ha := h1 a List.mem_cons_self
      have hy : y.headD 0 < 1000000000 := by
        cases y with
        | nil => simp
        | cons b y => exact h2 b List.mem_cons_self
      have := ih y.tail (if a < c + y.headD 0 then 1 else 0) (fun u hu => h1 u (List.mem_cons_of_mem _ hu)) (fun u hu => h2 u (List.mem_of_mem_tail hu)) (by split <;> omega)
      intro u hu
      rcases List.mem_cons.1 hu with rfl | hu
      · split <;> omega
      · exact this u hu
  simp only [wsv, wsg, wsh, wsl, cond_true, cond_false, exists_eq_left', Option.some.injEq, Option.isSome_some, List.getElem?_toArray, List.getElem?_cons_zero, List.getElem?_cons_succ, List.length_cons, List.length_nil, List.set_cons_zero, List.set_cons_succ, List.getD_cons_zero, List.getD_cons_succ, Nat.zero_add, Nat.add_zero, Nat.reduceAdd, Nat.reduceLT, Nat.lt_add_one, Nat.zero_lt_succ, decide_true, decide_false, ne_eq, reduceCtorEq, wsh, hB.hb, hC.hb, eq_bb]
  rw [condW_b]
  unfold sumB at hfin
  refine ⟨fun he => ?_, fun hne => ?_⟩
  · have he : x.below = y.below := by simpa using he
    refine hBd.ld fun cs1 h1 => ?_
    refine hCd.ld fun cs2 h2 => ?_
    refine plus_ref h1 h2 fun v w4 hx4 hv => ?_
    have hB4 := hBd.ext hx4
    obtain ⟨p, c, rfl, _⟩ := hv.shape
    simp only [wsv, wsg, wsh, wsl, cond_true, cond_false, exists_eq_left', Option.some.injEq, Option.isSome_some, List.getElem?_toArray, List.getElem?_cons_zero, List.getElem?_cons_succ, List.length_cons, List.length_nil, List.set_cons_zero, List.set_cons_succ, List.getD_cons_zero, List.getD_cons_succ, Nat.zero_add, Nat.add_zero, Nat.reduceAdd, Nat.reduceLT, Nat.lt_add_one, Nat.zero_lt_succ, decide_true, decide_false, ne_eq, reduceCtorEq, wsh, hB4.hb]
    rw [if_pos he] at hfin
    refine hfin ⟨x.below, plusL x.l y.l 0⟩ w4 _ (hxd.trans hx4) hv ?_ (plusL_lim _ _ _ hB.lim hC.lim (by omega)) rfl
    have := hpl x.l y.l 0
    show (plusL x.l y.l 0).length ≤ 1000
    omega
  · have hne : x.below ≠ y.below := by simpa using hne
    rw [if_neg hne] at hfin
    refine hB.ld fun cs1 h1 => ?_
    refine hC.ld fun cs2 h2 => ?_
    refine size_num h1 h2 fun w4 hx4 => ?_
    have hB4 := hB.ext hx4
    have hC4 := hC.ext hx4
    have hxd4 : Ext w4 w4.drew := Chg.drew (Chg.refl (fun _ => False) w4)
    have hBd := hB4.ext hxd4
    have hCd := hC4.ext hxd4
    simp only [wsv, wsg, wsh, wsl, cond_true, cond_false, exists_eq_left', Option.some.injEq, Option.isSome_some, List.getElem?_toArray, List.getElem?_cons_zero, List.getElem?_cons_succ, List.length_cons, List.length_nil, List.set_cons_zero, List.set_cons_succ, List.getD_cons_zero, List.getD_cons_succ, Nat.zero_add, Nat.add_zero, Nat.reduceAdd, Nat.reduceLT, Nat.lt_add_one, Nat.zero_lt_succ, decide_true, decide_false, ne_eq, reduceCtorEq, condW_dec]
    refine ⟨fun hs => ?_, fun hs => ?_⟩
    · rw [if_pos hs] at hfin
      (try simp only [wsv, wsg, wsh, wsl, cond_true, cond_false, exists_eq_left', Option.some.injEq, Option.isSome_some, List.getElem?_toArray, List.getElem?_cons_zero, List.getElem?_cons_succ, List.length_cons, List.length_nil, List.set_cons_zero, List.set_cons_succ, List.getD_cons_zero, List.getD_cons_succ, Nat.zero_add, Nat.add_zero, Nat.reduceAdd, Nat.reduceLT, Nat.lt_add_one, Nat.zero_lt_succ, decide_true, decide_false, ne_eq, reduceCtorEq, wsh, hB4.hb])
      refine hBd.ld fun cs3 h3 => ?_
      refine hCd.ld fun cs4 h4 => ?_
      refine minus_ref h3 h4 fun v w5 hx5 hv => ?_
      have hB5 := hBd.ext hx5
      obtain ⟨p, c, rfl, _⟩ := hv.shape
      simp only [wsv, wsg, wsh, wsl, cond_true, cond_false, exists_eq_left', Option.some.injEq, Option.isSome_some, List.getElem?_toArray, List.getElem?_cons_zero, List.getElem?_cons_succ, List.length_cons, List.length_nil, List.set_cons_zero, List.set_cons_succ, List.getD_cons_zero, List.getD_cons_succ, Nat.zero_add, Nat.add_zero, Nat.reduceAdd, Nat.reduceLT, Nat.lt_add_one, Nat.zero_lt_succ, decide_true, decide_false, ne_eq, reduceCtorEq, wsh, hB5.hb]
      refine hfin ⟨x.below, minusL x.l y.l 0⟩ w5 _ (hx4.trans (hxd4.trans hx5)) hv ?_ (hmlim _ _ _ hB.lim hC.lim (by omega)) rfl
      show (minusL x.l y.l 0).length ≤ 1000
      rw [hml]; omega
    · rw [if_neg hs] at hfin
      (try simp only [wsv, wsg, wsh, wsl, cond_true, cond_false, exists_eq_left', Option.some.injEq, Option.isSome_some, List.getElem?_toArray, List.getElem?_cons_zero, List.getElem?_cons_succ, List.length_cons, List.length_nil, List.set_cons_zero, List.set_cons_succ, List.getD_cons_zero, List.getD_cons_succ, Nat.zero_add, Nat.add_zero, Nat.reduceAdd, Nat.reduceLT, Nat.lt_add_one, Nat.zero_lt_succ, decide_true, decide_false, ne_eq, reduceCtorEq, wsh, hC4.hb])
      refine hCd.ld fun cs3 h3 => ?_
      refine hBd.ld fun cs4 h4 => ?_
      refine minus_ref h3 h4 fun v w5 hx5 hv => ?_
      have hC5 := hCd.ext hx5
      obtain ⟨p, c, rfl, _⟩ := hv.shape
      simp only [wsv, wsg, wsh, wsl, cond_true, cond_false, exists_eq_left', Option.some.injEq, Option.isSome_some, List.getElem?_toArray, List.getElem?_cons_zero, List.getElem?_cons_succ, List.length_cons, List.length_nil, List.set_cons_zero, List.set_cons_succ, List.getD_cons_zero, List.getD_cons_succ, Nat.zero_add, Nat.add_zero, Nat.reduceAdd, Nat.reduceLT, Nat.lt_add_one, Nat.zero_lt_succ, decide_true, decide_false, ne_eq, reduceCtorEq, wsh, hC5.hb]
      refine hfin ⟨y.below, minusL y.l x.l 0⟩ w5 _ (hx4.trans (hxd4.trans hx5)) hv ?_ (hmlim _ _ _ hC.lim hB.lim (by omega)) rfl
      show (minusL y.l x.l 0).length ≤ 1000
      rw [hml]; omega
end
end Go.Proofs.YtdkikjcpgihjlaaGreatDoor
namespace Go.Proofs.YtdkikjcpgihjlaaGreatDoor
open Go Go.Eng Go.Num
set_option maxRecDepth 100000
theorem parse_dec : ∀ (l : Str) (acc : Nat), l.all Num.isDig = true → acc * 10 ^ l.length + dec l < 1000000000000000000 → Lib.parseUintM (2 ^ 64 - 1) acc l = .ok (acc * 10 ^ l.length + dec l)
  | [], acc, _, _ => by simp [Lib.parseUintM, dec]
  | c :: r, acc, h, hb => by
    simp only [List.all_cons, Bool.and_eq_true] at h
    have hc := h.1
    simp only [Num.isDig, Bool.and_eq_true, decide_eq_true_eq] at hc
    have e : acc * 10 ^ (c :: r).length + dec (c :: r) = (acc * 10 + (c.toNat - 48)) * 10 ^ r.length + dec r := by
      rw [dec_cons, List.length_cons, Nat.pow_succ, Nat.add_mul, ← Nat.add_assoc]
      congr 2
      rw [Nat.mul_comm (10 ^ r.length) 10, Nat.mul_assoc]
    rw [e] at hb ⊢
    have hp : 1 ≤ 10 ^ r.length := Nat.pow_pos (by omega)
    have h1 : acc * 10 + (c.toNat - 48) ≤ (acc * 10 + (c.toNat - 48)) * 10 ^ r.length := Nat.le_mul_of_pos_right _ hp
    simp only [Lib.parseUintM]
    rw [if_pos hc, if_neg (by omega), if_neg (by omega)]
    exact parse_dec r _ h.2 hb
section
variable [HX]
theorem puint_ref {l : Str} {w : World} {K : Value → World → Prop} (h0 : l ≠ []) (hl : l.length ≤ 9) (hd : l.all Num.isDig = true) (hK : ∀ w', Ext w w' → K (.tuple #[u64 (dec l), .nilIface]) w') : callF Tryz.prog 169 [str l, i64 10, i64 64] w K := by
  have hlt := dec9 hd hl
  have hp : Lib.parseUintB 64 l = .ok (dec l) := by
    unfold Lib.parseUintB
    rw [if_neg h0]
    have := parse_dec l 0 hd (by rw [Nat.zero_mul, Nat.zero_add]; omega)
    rw [Nat.zero_mul, Nat.zero_add] at this
    exact this
  refine of_calls (args := #[str l, i64 10, i64 64]) Tryz.call169 ((Tryz.strconv_ParseUint_10_at64_ok (ofL l) (by rw [ofL_size]; omega) (dec l) (by rw [ofL_data]; exact hp) w).mono ?_)
  rintro e w' ⟨rfl, rfl | rfl⟩
  · exact ⟨_, rfl, hK _ (Chg.refl _ _)⟩
  · exact ⟨_, rfl, hK _ (bytes_ext _ _ _)⟩
theorem limbs_len : ∀ (n : Nat) (d : Str), d.length ≤ n → (limbs d).length ≤ d.length
  | n, [], _ => by rw [limbs_nil]; simp
  | 0, _ :: _, h => by simp at h
  | n + 1, c :: d, hn => by
    rw [limbs_ne (by simp)]
    generalize hD : c :: d = D at *
    have hpos : 0 < D.length := by rw [← hD]; simp
    have := limbs_len n (D.take (D.length - 9)) (by rw [List.length_take]; omega)
    rw [List.length_take] at this
    simp only [List.length_cons]; omega
theorem read_ref {a : Str} {w : World} {K : Value → World → Prop} (hg : goodN a = true) (ha : a.length ≤ 9223372036854775807) (hK : ∀ cs' w', Ext w w' → BRep w' (readB a) cs' → K (.agg cs'.toArray) w') : callF Tryz.prog 135 [str a] w K := by
  refine W135_ok ?_
  unfold W135
  obtain ⟨g1, g2, _, g4⟩ := goodN_out hg
  refine alloc_new fun b w1 hb hz1 hbb hx1 => ?_
  refine cutpre_ref ha ?_
  simp only [wsv, wsg, wsh, wsl, cond_true, cond_false, exists_eq_left', Option.some.injEq, Option.isSome_some, List.getElem?_toArray, List.getElem?_cons_zero, List.getElem?_cons_succ, List.length_cons, List.length_nil, List.set_cons_zero, List.set_cons_succ, List.getD_cons_zero, List.getD_cons_succ, Nat.zero_add, Nat.add_zero, Nat.reduceAdd, Nat.reduceLT, Nat.lt_add_one, Nat.zero_lt_succ, decide_true, decide_false, ne_eq, reduceCtorEq]
  generalize hd : dig a = d at *
  refine alloc_new fun g w2 hgz hz2 hgg hx2 => ?_
  refine st_agg_at (l := [.bool (neg a), .slice none 0 0]) hgg rfl rfl rfl fun w3 hz3 hg3 hc3 => ?_
  have hx3 : Ext w w3 := (hx1.trans hx2).new hc3 (by omega)
  have hbb := hc3.at (hx2.at hbb id) (by omega)
  refine ⟨fun s w' => ∃ (z : Int) (v : Value) (l : List Nat), s = [i64 z] ∧ z ≤ d.length ∧ -9 ≤ z ∧ l ++ limbs (d.take z.toNat) = limbs d ∧ Own w' (g + 1) U64 1 v l.length (l.map u64) ∧ w'.heap[g]? = some (.cells [.bool (neg a), v].toArray BT (0, 0)) ∧ w'.heap[b]? = some (.cells [.bool false, .slice none 0 0].toArray BT (0, 0)) ∧ Chg (fun k => k = g ∨ g + 1 ≤ k) w3 w' ∧ l.length + z.toNat ≤ 100,
    fun s _ => match s with | [.int _ z] => z.toNat | _ => 0, ⟨d.length, _, [], rfl, by omega, by omega, by rw [Int.toNat_natCast, List.take_length]; rfl, ⟨rfl, .inl ⟨rfl, rfl⟩⟩, hg3, hbb, Chg.refl _ _, by simp; omega⟩, ?_⟩
  rintro s gg w4 ⟨z, v, l, rfl, hzl, hz9, hll, hO, hg4, hb4, hc4, hcnt⟩
  have hsz := hc4.size
  rcases Int.lt_or_le 0 z with hpos | hneg
  · obtain ⟨e, rfl⟩ : ∃ e : Nat, z = (e : Int) := ⟨z.toNat, by omega⟩
    rw [Int.toNat_natCast] at hll hcnt
    have hlo : (if (0 : Int) < IntKind.i64.wrap ((e : Int) - 9) then IntKind.i64.wrap ((e : Int) - 9) else 0) = ((e - 9 : Nat) : Int) := by
      rw [wrap_id (by omega) (by omega)]; split <;> omega
    have hlen : (d.take e).length = e := by rw [List.length_take]; omega
    simp only [wsv, wsg, wsh, wsl, cond_true, cond_false, exists_eq_left', Option.some.injEq, Option.isSome_some, List.getElem?_toArray, List.getElem?_cons_zero, List.getElem?_cons_succ, List.length_cons, List.length_nil, List.set_cons_zero, List.set_cons_succ, List.getD_cons_zero, List.getD_cons_succ, Nat.zero_add, Nat.add_zero, Nat.reduceAdd, Nat.reduceLT, Nat.lt_add_one, Nat.zero_lt_succ, decide_true, decide_false, ne_eq, reduceCtorEq, hpos, hlo, Int.toNat_natCast]
    refine ⟨by omega, by omega, by omega, by omega, ?_⟩
    have hne : d.take e ≠ [] := fun h => by rw [h] at hlen; simp at hlen; omega
    have hchunk := limbs_ne hne
    rw [hlen, List.take_take, Nat.min_eq_left (by omega)] at hchunk
    have hcl : ((d.take e).drop (e - 9)).length ≤ 9 := by rw [List.length_drop, hlen]; omega
    have hcn : (d.take e).drop (e - 9) ≠ [] := fun h => by have := List.drop_eq_nil_iff.1 h; omega
    refine puint_ref hcn hcl (all_drop _ (all_take _ g4)) fun w5 hx5 => ?_
    have hg5 := hx5.at hg4 id
    have hs5 := hx5.size
    simp only [wsv, wsg, wsh, wsl, cond_true, cond_false, exists_eq_left', Option.some.injEq, Option.isSome_some, List.getElem?_toArray, List.getElem?_cons_zero, List.getElem?_cons_succ, List.length_cons, List.length_nil, List.set_cons_zero, List.set_cons_succ, List.getD_cons_zero, List.getD_cons_succ, Nat.zero_add, Nat.add_zero, Nat.reduceAdd, Nat.reduceLT, Nat.lt_add_one, Nat.zero_lt_succ, decide_true, decide_false, ne_eq, reduceCtorEq, wsh, hg5]
    refine app_u (hO.ext hx5) (by have := at_lt hg3; omega) (by omega) fun v' w6 h6 hc6 => ?_
    have hg6 := hc6.at hg5 (by omega)
    have h1v : one1 v' = true := by obtain ⟨p, c, rfl, _⟩ := h6.sl.shape; rfl
    refine st_at hg6 h1v (by simp) fun w7 hz7 hg7 hc7 => ?_
    rw [wrap_id (by omega) (by omega)]
    have hg7 : w7.heap[g]? = some (.cells [.bool (neg a), v'].toArray BT (0, 0)) := by rw [hg7]; simp
    have ht : ((e : Int) - 9).toNat = e - 9 := by omega
    refine ⟨⟨_, v', l ++ [dec ((d.take e).drop (e - 9))], rfl, by omega, by omega, ?_, h6.chg hc7 fun k hk e => by have := hk.1; omega, hg7, hc7.at (hc6.at (hx5.at hb4 id) (by omega)) (by omega), ?_, ?_⟩, ?_⟩
    · rw [ht, ← hll, hchunk, List.append_assoc]; rfl
    · exact ((hc4.trans (Chg.of_ext hx5)).trans (hc6.mono fun k _ e => .inr e)).trans (hc7.mono fun k _ e => .inl e)
    · rw [ht]; simp; omega
    · simp only [ht]; omega
  · have h0 : ¬ (0 : Int) < z := by omega
    have hz0 : z.toNat = 0 := by omega
    rw [hz0, List.take_zero, limbs_nil, List.append_nil] at hll
    subst hll
    simp only [wsv, wsg, wsh, wsl, cond_true, cond_false, exists_eq_left', Option.some.injEq, Option.isSome_some, List.getElem?_toArray, List.getElem?_cons_zero, List.getElem?_cons_succ, List.length_cons, List.length_nil, List.set_cons_zero, List.set_cons_succ, List.getD_cons_zero, List.getD_cons_succ, Nat.zero_add, Nat.add_zero, Nat.reduceAdd, Nat.reduceLT, Nat.lt_add_one, Nat.zero_lt_succ, decide_true, decide_false, ne_eq, reduceCtorEq, h0]
    refine ld_all hg4 rfl ?_
    have hlim := (limbs_val _ d (Nat.le_refl _) g4).2
    refine trim_ref (x := ⟨neg a, limbs d⟩) ⟨v, U64, rfl, hO.sl, by simp at hcnt ⊢; omega, hlim⟩ fun cs' w5 hx5 hr => ?_
    have hb5 := hx5.at hb4 id
    refine ret_agg hb5 hr.len rfl hr.one fun w6 hc6 => ?_
    have e : readB a = (⟨neg a, limbs d⟩ : Big).trim := by unfold readB; rw [hd]
    rw [e] at hK
    have hx4 : Ext w w4 := hx3.then hc4 fun k hk h => by have := hx1.size; omega
    exact hK _ w6 ((hx4.trans hx5).new hc6 (by omega)) (hr.keep hb5 (by intro n e; cases e) hc6)
theorem numcmp_ref {a b : Str} {w : World} {K : Value → World → Prop} (ha : a.length ≤ 9223372036854775807) (hb : b.length ≤ 9223372036854775807) (hK : ∀ w', Ext w w' → K (i64 (cmpS a b)) w') : callF Tryz.prog 98 [str a, str b] w K := by
  refine W98_ok ?_
  unfold W98
  unfold cmpS at hK
  refine numgood_ref ha fun w1 hx1 => ?_
  simp only [wsv, wsg, wsh, wsl, cond_true, cond_false, exists_eq_left', Option.some.injEq, Option.isSome_some, List.getElem?_toArray, List.getElem?_cons_zero, List.getElem?_cons_succ, List.length_cons, List.length_nil, List.set_cons_zero, List.set_cons_succ, List.getD_cons_zero, List.getD_cons_succ, Nat.zero_add, Nat.add_zero, Nat.reduceAdd, Nat.reduceLT, Nat.lt_add_one, Nat.zero_lt_succ, decide_true, decide_false, ne_eq, reduceCtorEq]
  refine GdW.act (!goodN b) (fun w' => Ext w1 w') (fun _ => Chg.refl _ _) ?_ ?_
  · intro hc J hJ
    refine numgood_ref hb fun w2 hx2 => ?_
    simp only [wsv, wsg, wsh, wsl, cond_true, cond_false, exists_eq_left', Option.some.injEq, Option.isSome_some, List.getElem?_toArray, List.getElem?_cons_zero, List.getElem?_cons_succ, List.length_cons, List.length_nil, List.set_cons_zero, List.set_cons_succ, List.getD_cons_zero, List.getD_cons_succ, Nat.zero_add, Nat.add_zero, Nat.reduceAdd, Nat.reduceLT, Nat.lt_add_one, Nat.zero_lt_succ, decide_true, decide_false, ne_eq, reduceCtorEq]
    exact hJ w2 hx2
  intro g w2 hx2
  have hx := hx1.trans hx2
  simp only [wsv, wsg, wsh, wsl, cond_true, cond_false, exists_eq_left', Option.some.injEq, Option.isSome_some, List.getElem?_toArray, List.getElem?_cons_zero, List.getElem?_cons_succ, List.length_cons, List.length_nil, List.set_cons_zero, List.set_cons_succ, List.getD_cons_zero, List.getD_cons_succ, Nat.zero_add, Nat.add_zero, Nat.reduceAdd, Nat.reduceLT, Nat.lt_add_one, Nat.zero_lt_succ, decide_true, decide_false, ne_eq, reduceCtorEq]
  rw [condW_b]
  refine ⟨fun hn => ?_, fun hy => ?_⟩
  · have := hK w2 hx
    have e : (goodN a && goodN b) = false := by revert hn; cases goodN a <;> cases goodN b <;> simp
    rw [e] at this
    exact this
  · have hga : goodN a = true := by revert hy; cases goodN a <;> simp
    have hgb : goodN b = true := by revert hy; cases goodN b <;> simp
    rw [hga, hgb] at hK
    simp only [Bool.and_self, if_true] at hK
    have lenR : ∀ {a : Str}, goodN a = true → (readB a).l.length ≤ 100 := by
      intro a h
      obtain ⟨_, h2, _, _⟩ := goodN_out h
      have h3 := limbs_len _ (dig a) (Nat.le_refl _)
      show (trimL (limbs (dig a))).length ≤ 100
      have : ∀ l : List Nat, (trimL l).length ≤ l.length := fun l => by
        induction l using snoc_ind with
        | h0 => rw [trimL_nil]; simp
        | h1 l x ih =>
          by_cases h : x = 0
          · subst h; rw [trimL_zero]; simp; omega
          · rw [trimL_ne h]; simp
      have := this (limbs (dig a))
      omega
    refine read_ref hga ha fun cs1 w3 hx3 h1 => ?_
    refine read_ref hgb hb fun cs2 w4 hx4 h2 => ?_
    refine turned_ref h2 fun cs3 w5 hx5 h3 => ?_
    have hl3 : (turnB (readB b)).l.length ≤ 100 := by
      have := lenR hgb
      have : ∀ l : List Nat, (trimL l).length ≤ l.length := fun l => by
        induction l using snoc_ind with
        | h0 => rw [trimL_nil]; simp
        | h1 l x ih =>
          by_cases h : x = 0
          · subst h; rw [trimL_zero]; simp; omega
          · rw [trimL_ne h]; simp
      have := this (readB b).l
      show (trimL (readB b).l).length ≤ 100
      omega
    refine sum_ref (h1.ext (hx4.trans hx5)) h3 (by have := lenR hga; omega) fun cs4 w6 hx6 h4 => ?_
    generalize sumB (readB a) (turnB (readB b)) = D at *
    obtain ⟨sv, T, rfl, hs, hf, hlim⟩ := h4
    refine alloc_new fun c w7 hc hz7 hcc hx7 => ?_
    obtain ⟨p, cap, rfl, _⟩ := hs.shape
    refine st_agg_at (l := [.bool D.below, .slice p D.l.length cap]) hcc rfl rfl rfl fun w8 hz8 hb8 hc8 => ?_
    have hx8 : Ext w w8 := (hx.trans (hx3.trans (hx4.trans (hx5.trans (hx6.trans hx7))))).new hc8 (by
      have := (hx.trans (hx3.trans (hx4.trans (hx5.trans hx6)))).size; omega)
    have := hK w8 hx8
    simp only [wsv, wsg, wsh, wsl, cond_true, cond_false, exists_eq_left', Option.some.injEq, Option.isSome_some, List.getElem?_toArray, List.getElem?_cons_zero, List.getElem?_cons_succ, List.length_cons, List.length_nil, List.set_cons_zero, List.set_cons_succ, List.getD_cons_zero, List.getD_cons_succ, Nat.zero_add, Nat.add_zero, Nat.reduceAdd, Nat.reduceLT, Nat.lt_add_one, Nat.zero_lt_succ, decide_true, decide_false, ne_eq, reduceCtorEq, wsh, hb8]
    simp only [condW_dec]
    refine ⟨fun h0 => ?_, fun h0 => ?_⟩
    · have hl : D.l = [] := List.eq_nil_of_length_eq_zero (by omega)
      rw [if_pos hl] at this
      exact this
    · have hl : D.l ≠ [] := fun e => by rw [e] at h0; simp at h0
      rw [if_neg hl] at this
      rw [condW_b]
      refine ⟨fun hb => ?_, fun hb => ?_⟩
      · rw [if_pos hb] at this; exact this
      · rw [if_neg (by rw [hb]; simp)] at this; exact this
end
end Go.Proofs.YtdkikjcpgihjlaaGreatDoor
namespace Go.Proofs.YtdkikjcpgihjlaaGreatDoor
open Go Go.Eng Go.Num
set_option maxRecDepth 100000
section
variable [HX]
theorem callV_fn {P : Program} {g : FuncId} {args : List Value} {w : World} {K : Value → World → Prop} (h : callF P g args w K) : callV P (.func (.func g) #[] #[]) args w K := by
  unfold callV semN
  unfold callF at h
  have : (do let d ← (Deferred.ofValue (.func (.func g) #[] #[]) args.toArray); invoke d.target d.args : Sem Next) = callFunc g args.toArray := by
    show callFunc g (#[] ++ args.toArray ++ #[]) = _
    simp
  rw [this]
  exact h
structure ItemsAt (w : World) (sv : Value) (xs : List JV) : Prop where
  it : ∃ T L, SlAt w T sv xs.length L ∧ VReps w xs L
  few : xs.length ≤ 9223372036854775807
theorem ItemsAt.ext {w w' : World} {sv : Value} {xs : List JV} (h : ItemsAt w sv xs) (hx : Ext w w') : ItemsAt w' sv xs := ⟨let ⟨T, L, h1, h2⟩ := h.it; ⟨T, L, h1.ext hx, h2.ext hx⟩, h.few⟩
theorem ValB.itemsAt {w : World} {a : Nat} {v : JV} {sv kv : Value} (h : ValB w a v sv kv) : ItemsAt w sv v.xs := ⟨h.items, h.fits.1⟩
theorem ItemsAt.len {w : World} {sv : Value} {xs : List JV} (h : ItemsAt w sv xs) (K : Value → Prop) : lenlW sv K ↔ K (i64 xs.length) := by obtain ⟨T, L, h1, _⟩ := h.it; exact lenl_at h1 K
theorem ItemsAt.at {w : World} {sv : Value} {xs : List JV} {k : IntKind} {i : Nat} {x : JV} {K : Value → Prop} (h : ItemsAt w sv xs) (hi : xs[i]? = some x) (hK : ∀ cs, VRep w x cs → K (.agg cs.toArray)) : ixaW none 5 sv (.int k i) fun p => ldW true 5 p w K := by
  obtain ⟨T, L, h1, h2⟩ := h.it; exact item_ld h1 h2 hi hK
def findI {α : Type} (p : α → Bool) (xs : List α) : Int := match xs.findIdx? p with | some i => i | none => -1
theorem findI_ge {α : Type} (p : α → Bool) (xs : List α) : decide ((0 : Int) ≤ findI p xs) = xs.any p := by
  unfold findI
  cases h : xs.findIdx? p with
  | none =>
    have := List.findIdx?_eq_none_iff.1 h
    have : xs.any p = false := List.any_eq_false.2 fun x hx => by simp [this x hx]
    rw [this]; decide
  | some i =>
    obtain ⟨hi, hp, _⟩ := List.findIdx?_eq_some_iff_getElem.1 h
    rw [List.any_eq_true.2 ⟨_, List.getElem_mem hi, hp⟩]
    exact decide_eq_true (by simp)
theorem findIdx_hit {α : Type} {p : α → Bool} {xs : List α} {i : Nat} {x : α} (h : (xs.take i).any p = false) (hi : xs[i]? = some x) (hx : p x = true) : xs.findIdx? p = some i := by
  obtain ⟨hl, e⟩ := List.getElem?_eq_some_iff.1 hi
  rw [List.findIdx?_eq_some_iff_getElem]
  refine ⟨hl, by rw [e]; exact hx, fun j hj => ?_⟩
  have := List.any_eq_false.1 h xs[j] (List.mem_of_getElem? (i := j) (by rw [List.getElem?_take, if_pos hj]; exact List.getElem?_eq_getElem _))
  simpa using this
theorem index_v {sv f : Value} {xs : List JV} {p : JV → Bool} {w : World} {K : Value → World → Prop} (h : ItemsAt w sv xs)
    (hf : ∀ x ∈ xs, ∀ {cs : List Value} {w : World} {K : Value → World → Prop}, VRep w x cs → (∀ w', Ext w w' → K (.bool (p x)) w') → callV Tryz.prog f [.agg cs.toArray] w K)
    (hK : ∀ w', Ext w w' → K (i64 (findI p xs)) w') : callF Tryz.prog 44 [sv, f] w K := by
  refine W44_ok ?_
  unfold W44
  rw [h.len]
  refine loop_up xs.length (fun i w' => Ext w w' ∧ (xs.take i).any p = false) ⟨Chg.refl _ _, by simp⟩ ?_ ?_
  · rintro i w2 g L hi ⟨hx2, hno⟩ hL
    obtain ⟨x, hxi⟩ : ∃ x, xs[i]? = some x := ⟨_, List.getElem?_eq_getElem hi⟩
    have hlt : ((i : Int) < (xs.length : Int)) := by omega
    simp only [wsv, wsg, wsh, wsl, cond_true, cond_false, exists_eq_left', Option.some.injEq, Option.isSome_some, List.getElem?_toArray, List.getElem?_cons_zero, List.getElem?_cons_succ, List.length_cons, List.length_nil, List.set_cons_zero, List.set_cons_succ, List.getD_cons_zero, List.getD_cons_succ, Nat.zero_add, Nat.add_zero, Nat.reduceAdd, Nat.reduceLT, Nat.lt_add_one, Nat.zero_lt_succ, decide_true, decide_false, ne_eq, reduceCtorEq, hlt]
    refine (h.ext hx2).at hxi fun cs hcs => ?_
    refine hf x (List.mem_of_getElem? hxi) hcs fun w3 hx3 => ?_
    rw [condW_b]
    refine ⟨fun ht => ?_, fun hn => ?_⟩
    · have := hK w3 (hx2.trans hx3)
      unfold findI at this
      rw [findIdx_hit hno hxi ht] at this
      exact this
    · have := h.few
      rw [up1 (by omega)]
      exact hL w3 ⟨hx2.trans hx3, by rw [any_take hxi, hno, hn]; rfl⟩
  · rintro w2 g L ⟨hx2, hno⟩
    simp only [wsv, wsg, wsh, wsl, cond_true, cond_false, exists_eq_left', Option.some.injEq, Option.isSome_some, List.getElem?_toArray, List.getElem?_cons_zero, List.getElem?_cons_succ, List.length_cons, List.length_nil, List.set_cons_zero, List.set_cons_succ, List.getD_cons_zero, List.getD_cons_succ, Nat.zero_add, Nat.add_zero, Nat.reduceAdd, Nat.reduceLT, Nat.lt_add_one, Nat.zero_lt_succ, decide_true, decide_false, ne_eq, reduceCtorEq, Int.lt_irrefl]
    rw [List.take_length] at hno
    have := hK w2 hx2
    unfold findI at this
    rw [List.findIdx?_eq_none_iff.2 fun x hx => by simpa using List.any_eq_false.1 hno x hx] at this
    exact this
theorem contains_v {sv f : Value} {xs : List JV} {p : JV → Bool} {w : World} {K : Value → World → Prop} (h : ItemsAt w sv xs)
    (hf : ∀ x ∈ xs, ∀ {cs : List Value} {w : World} {K : Value → World → Prop}, VRep w x cs → (∀ w', Ext w w' → K (.bool (p x)) w') → callV Tryz.prog f [.agg cs.toArray] w K)
    (hK : ∀ w', Ext w w' → K (.bool (xs.any p)) w') : callF Tryz.prog 28 [sv, f] w K := by
  refine W28_ok ?_
  unfold W28
  refine index_v h hf fun w1 hx1 => ?_
  simp only [wsv, wsg, wsh, wsl, cond_true, cond_false, exists_eq_left', Option.some.injEq, Option.isSome_some, List.getElem?_toArray, List.getElem?_cons_zero, List.getElem?_cons_succ, List.length_cons, List.length_nil, List.set_cons_zero, List.set_cons_succ, List.getD_cons_zero, List.getD_cons_succ, Nat.zero_add, Nat.add_zero, Nat.reduceAdd, Nat.reduceLT, Nat.lt_add_one, Nat.zero_lt_succ, decide_true, decide_false, ne_eq, reduceCtorEq, findI_ge]
  exact hK w1 hx1
theorem index_x {sv f : Value} {xs : List JV} {p : JV → Bool} {w : World} {K : Value → World → Prop} (h : ItemsAt w sv xs)
    (hf : ∀ x ∈ xs, ∀ {cs : List Value} {w1 : World} {K : Value → World → Prop}, Ext w w1 → VRep w1 x cs → (∀ w', Ext w1 w' → K (.bool (p x)) w') → callV Tryz.prog f [.agg cs.toArray] w1 K)
    (hK : ∀ w', Ext w w' → K (i64 (findI p xs)) w') : callF Tryz.prog 44 [sv, f] w K := by
  refine W44_ok ?_
  unfold W44
  rw [h.len]
  refine loop_up xs.length (fun i w' => Ext w w' ∧ (xs.take i).any p = false) ⟨Chg.refl _ _, by simp⟩ ?_ ?_
  · rintro i w2 g L hi ⟨hx2, hno⟩ hL
    obtain ⟨x, hxi⟩ : ∃ x, xs[i]? = some x := ⟨_, List.getElem?_eq_getElem hi⟩
    have hlt : ((i : Int) < (xs.length : Int)) := by omega
    simp only [wsv, wsg, wsh, wsl, cond_true, cond_false, exists_eq_left', Option.some.injEq, Option.isSome_some, List.getElem?_toArray, List.getElem?_cons_zero, List.getElem?_cons_succ, List.length_cons, List.length_nil, List.set_cons_zero, List.set_cons_succ, List.getD_cons_zero, List.getD_cons_succ, Nat.zero_add, Nat.add_zero, Nat.reduceAdd, Nat.reduceLT, Nat.lt_add_one, Nat.zero_lt_succ, decide_true, decide_false, ne_eq, reduceCtorEq, hlt]
    refine (h.ext hx2).at hxi fun cs hcs => ?_
    refine hf x (List.mem_of_getElem? hxi) hx2 hcs fun w3 hx3 => ?_
    rw [condW_b]
    refine ⟨fun ht => ?_, fun hn => ?_⟩
    · have := hK w3 (hx2.trans hx3)
      unfold findI at this
      rw [findIdx_hit hno hxi ht] at this
      exact this
    · have := h.few
      rw [up1 (by omega)]
      exact hL w3 ⟨hx2.trans hx3, by rw [any_take hxi, hno, hn]; rfl⟩
  · rintro w2 g L ⟨hx2, hno⟩
    simp only [wsv, wsg, wsh, wsl, cond_true, cond_false, exists_eq_left', Option.some.injEq, Option.isSome_some, List.getElem?_toArray, List.getElem?_cons_zero, List.getElem?_cons_succ, List.length_cons, List.length_nil, List.set_cons_zero, List.set_cons_succ, List.getD_cons_zero, List.getD_cons_succ, Nat.zero_add, Nat.add_zero, Nat.reduceAdd, Nat.reduceLT, Nat.lt_add_one, Nat.zero_lt_succ, decide_true, decide_false, ne_eq, reduceCtorEq, Int.lt_irrefl]
    rw [List.take_length] at hno
    have := hK w2 hx2
    unfold findI at this
    rw [List.findIdx?_eq_none_iff.2 fun x hx => by simpa using List.any_eq_false.1 hno x hx] at this
    exact this
theorem contains_x {sv f : Value} {xs : List JV} {p : JV → Bool} {w : World} {K : Value → World → Prop} (h : ItemsAt w sv xs)
    (hf : ∀ x ∈ xs, ∀ {cs : List Value} {w1 : World} {K : Value → World → Prop}, Ext w w1 → VRep w1 x cs → (∀ w', Ext w1 w' → K (.bool (p x)) w') → callV Tryz.prog f [.agg cs.toArray] w1 K)
    (hK : ∀ w', Ext w w' → K (.bool (xs.any p)) w') : callF Tryz.prog 28 [sv, f] w K := by
  refine W28_ok ?_
  unfold W28
  refine index_x h hf fun w1 hx1 => ?_
  simp only [wsv, wsg, wsh, wsl, cond_true, cond_false, exists_eq_left', Option.some.injEq, Option.isSome_some, List.getElem?_toArray, List.getElem?_cons_zero, List.getElem?_cons_succ, List.length_cons, List.length_nil, List.set_cons_zero, List.set_cons_succ, List.getD_cons_zero, List.getD_cons_succ, Nat.zero_add, Nat.add_zero, Nat.reduceAdd, Nat.reduceLT, Nat.lt_add_one, Nat.zero_lt_succ, decide_true, decide_false, ne_eq, reduceCtorEq, findI_ge]
  exact hK w1 hx1
theorem any_not_known (xs : List JV) : (!xs.any fun x => !knownM x) = knownL xs := by
  rw [knownL_all]
  induction xs with
  | nil => rfl
  | cons x xs ih => simp only [List.any_cons, List.all_cons, Bool.not_or, Bool.not_not, ih]
theorem known_p (v : JV) : ∀ {cs : List Value} {w : World} {K : Value → World → Prop}, VRep w v cs → (∀ w', Ext w w' → K (.bool (knownM v)) w') → callF Tryz.prog 33 [.agg cs.toArray] w K := by
  induction v using JV.ind' with
  | h v ih =>
    intro cs w K h hK
    refine W33_ok ?_
    unfold W33
    refine box_val h fun a w1 sv kv hB hx _ => ?_
    rw [knownM_eq] at hK
    simp only [wsv, wsg, wsh, wsl, cond_true, cond_false, exists_eq_left', Option.some.injEq, Option.isSome_some, List.getElem?_toArray, List.getElem?_cons_zero, List.getElem?_cons_succ, List.length_cons, List.length_nil, List.set_cons_zero, List.set_cons_succ, List.getD_cons_zero, List.getD_cons_succ, Nat.zero_add, Nat.add_zero, Nat.reduceAdd, Nat.reduceLT, Nat.lt_add_one, Nat.zero_lt_succ, decide_true, decide_false, ne_eq, reduceCtorEq, wsh, hB.hb]
    refine GdW.act (knownL v.xs) (fun w' => Ext w1 w') (fun _ => Chg.refl _ _) ?_ ?_
    · intro hc J hJ
      refine contains_v (p := fun x => !knownM x) hB.itemsAt ?_ fun w2 hx2 => ?_
      · intro x hx cs w K hr hK
        refine callV_fn ?_
        refine W71_ok ?_
        unfold W71
        refine box_val hr fun b w1 sv kv hB hx1 _ => ?_
        refine hB.ld fun cs2 h2 => ?_
        refine ih x hx h2 fun w2 hx2 => ?_
        simp only [wsv, wsg, wsh, wsl, cond_true, cond_false, exists_eq_left', Option.some.injEq, Option.isSome_some, List.getElem?_toArray, List.getElem?_cons_zero, List.getElem?_cons_succ, List.length_cons, List.length_nil, List.set_cons_zero, List.set_cons_succ, List.getD_cons_zero, List.getD_cons_succ, Nat.zero_add, Nat.add_zero, Nat.reduceAdd, Nat.reduceLT, Nat.lt_add_one, Nat.zero_lt_succ, decide_true, decide_false, ne_eq, reduceCtorEq]
        exact hK w2 (hx1.trans hx2)
      · simp only [wsv, wsg, wsh, wsl, cond_true, cond_false, exists_eq_left', Option.some.injEq, Option.isSome_some, List.getElem?_toArray, List.getElem?_cons_zero, List.getElem?_cons_succ, List.length_cons, List.length_nil, List.set_cons_zero, List.set_cons_succ, List.getD_cons_zero, List.getD_cons_succ, Nat.zero_add, Nat.add_zero, Nat.reduceAdd, Nat.reduceLT, Nat.lt_add_one, Nat.zero_lt_succ, decide_true, decide_false, ne_eq, reduceCtorEq, any_not_known]
        exact hJ w2 hx2
    · intro g w2 hx2
      have := hK w2 (hx.trans hx2)
      simp only [wsv, wsg, wsh, wsl, cond_true, cond_false, exists_eq_left', Option.some.injEq, Option.isSome_some, List.getElem?_toArray, List.getElem?_cons_zero, List.getElem?_cons_succ, List.length_cons, List.length_nil, List.set_cons_zero, List.set_cons_succ, List.getD_cons_zero, List.getD_cons_succ, Nat.zero_add, Nat.add_zero, Nat.reduceAdd, Nat.reduceLT, Nat.lt_add_one, Nat.zero_lt_succ, decide_true, decide_false, ne_eq, reduceCtorEq]
      simpa only [decide_not] using this
theorem truth_p {b : Bool} {w : World} {K : Value → World → Prop} (hK : K (i64 (truthI b)) w) : callF Tryz.prog 157 [.bool b] w K := by
  refine W157_ok ?_
  unfold W157
  rw [condW_b]
  unfold truthI at hK
  exact ⟨fun h => by rw [if_pos h] at hK; exact hK, fun h => by rw [if_neg (by rw [h]; simp)] at hK; exact hK⟩
theorem cmpks_p {a b : List Str} {x y : Value} {T1 T2 : TypeId} {w : World} {K : Value → World → Prop} (h1 : SlAt w T1 x a.length (a.map str)) (h2 : SlAt w T2 y b.length (b.map str)) (ha : a.length ≤ 9223372036854775807)
    (hK : ∀ w', Ext w w' → K (i64 (cmpKs a b)) w') : callF Tryz.prog 160 [x, y] w K := by
  refine W160_ok ?_
  unfold W160
  rw [lenl_at h1]
  refine loop_up a.length (fun i w' => Ext w w' ∧ i ≤ b.length ∧ cmpKs (a.drop i) (b.drop i) = cmpKs a b) ⟨Chg.refl _ _, by omega, rfl⟩ ?_ ?_
  · rintro i w2 g L hi ⟨hx2, hib, he⟩ hL
    obtain ⟨u, hu⟩ : ∃ u, a[i]? = some u := ⟨_, List.getElem?_eq_getElem hi⟩
    have hlt : ((i : Int) < (a.length : Int)) := by omega
    have hda : a.drop i = u :: a.drop (i + 1) := by
      rw [List.drop_eq_getElem_cons hi]; congr 1
      exact Option.some.inj ((List.getElem?_eq_getElem hi).symm.trans hu)
    simp only [wsv, wsg, wsh, wsl, cond_true, cond_false, exists_eq_left', Option.some.injEq, Option.isSome_some, List.getElem?_toArray, List.getElem?_cons_zero, List.getElem?_cons_succ, List.length_cons, List.length_nil, List.set_cons_zero, List.set_cons_succ, List.getD_cons_zero, List.getD_cons_succ, Nat.zero_add, Nat.add_zero, Nat.reduceAdd, Nat.reduceLT, Nat.lt_add_one, Nat.zero_lt_succ, decide_true, decide_false, ne_eq, reduceCtorEq, hlt]
    refine text_ld (h1.ext hx2) hu ?_
    rw [lenl_at h2]
    simp only [wsv, wsg, wsh, wsl, cond_true, cond_false, exists_eq_left', Option.some.injEq, Option.isSome_some, List.getElem?_toArray, List.getElem?_cons_zero, List.getElem?_cons_succ, List.length_cons, List.length_nil, List.set_cons_zero, List.set_cons_succ, List.getD_cons_zero, List.getD_cons_succ, Nat.zero_add, Nat.add_zero, Nat.reduceAdd, Nat.reduceLT, Nat.lt_add_one, Nat.zero_lt_succ, decide_true, decide_false, ne_eq, reduceCtorEq, condW_dec]
    refine ⟨fun hge => ?_, fun hltb => ?_⟩
    · have hdb : b.drop i = [] := List.drop_eq_nil_iff.2 (by omega)
      rw [hda, hdb] at he
      have := hK w2 hx2
      rw [← he] at this
      exact this
    · have hib2 : i < b.length := by omega
      obtain ⟨v, hv⟩ : ∃ v, b[i]? = some v := ⟨_, List.getElem?_eq_getElem hib2⟩
      have hdb : b.drop i = v :: b.drop (i + 1) := by
        rw [List.drop_eq_getElem_cons hib2]; congr 1
        exact Option.some.inj ((List.getElem?_eq_getElem hib2).symm.trans hv)
      rw [hda, hdb] at he
      simp only [cmpKs, orI] at he
      refine text_ld (h2.ext hx2) hv ?_
      refine cmp_s ?_
      simp only [wsv, wsg, wsh, wsl, cond_true, cond_false, exists_eq_left', Option.some.injEq, Option.isSome_some, List.getElem?_toArray, List.getElem?_cons_zero, List.getElem?_cons_succ, List.length_cons, List.length_nil, List.set_cons_zero, List.set_cons_succ, List.getD_cons_zero, List.getD_cons_succ, Nat.zero_add, Nat.add_zero, Nat.reduceAdd, Nat.reduceLT, Nat.lt_add_one, Nat.zero_lt_succ, decide_true, decide_false, ne_eq, reduceCtorEq, condW_dec]
      refine ⟨fun hne => ?_, fun h0 => ?_⟩
      · rw [if_neg hne] at he
        have := hK w2 hx2
        rw [← he] at this
        exact this
      · rw [if_pos (Decidable.not_not.1 h0)] at he
        rw [up1 (by omega)]
        exact hL w2 ⟨hx2, hib2, he⟩
  · rintro w2 g L ⟨hx2, hib, he⟩
    simp only [wsv, wsg, wsh, wsl, cond_true, cond_false, exists_eq_left', Option.some.injEq, Option.isSome_some, List.getElem?_toArray, List.getElem?_cons_zero, List.getElem?_cons_succ, List.length_cons, List.length_nil, List.set_cons_zero, List.set_cons_succ, List.getD_cons_zero, List.getD_cons_succ, Nat.zero_add, Nat.add_zero, Nat.reduceAdd, Nat.reduceLT, Nat.lt_add_one, Nat.zero_lt_succ, decide_true, decide_false, ne_eq, reduceCtorEq, Int.lt_irrefl]
    rw [lenl_at h1, lenl_at h2]
    rw [List.drop_length] at he
    simp only [wsv, wsg, wsh, wsl, cond_true, cond_false, exists_eq_left', Option.some.injEq, Option.isSome_some, List.getElem?_toArray, List.getElem?_cons_zero, List.getElem?_cons_succ, List.length_cons, List.length_nil, List.set_cons_zero, List.set_cons_succ, List.getD_cons_zero, List.getD_cons_succ, Nat.zero_add, Nat.add_zero, Nat.reduceAdd, Nat.reduceLT, Nat.lt_add_one, Nat.zero_lt_succ, decide_true, decide_false, ne_eq, reduceCtorEq, condW_dec]
    have := hK w2 hx2
    rw [← he] at this
    refine ⟨fun hlt => ?_, fun hge => ?_⟩
    · obtain ⟨v, r, e⟩ : ∃ v r, b.drop a.length = v :: r := by
        cases hd : b.drop a.length with
        | nil => have := List.drop_eq_nil_iff.1 hd; omega
        | cons v r => exact ⟨v, r, rfl⟩
      rw [e] at this
      exact this
    · rw [List.drop_eq_nil_iff.2 (show b.length ≤ a.length by omega)] at this
      exact this
theorem or2_p {a b : Int} {v : Value} {w : World} {K : Value → World → Prop} (hv : SlAt w 3 v 2 [i64 a, i64 b]) (hK : ∀ w', Ext w w' → K (i64 (orI a b)) w') : callF Tryz.prog 159 [v] w K := by
  refine W159_ok ?_
  unfold W159
  rw [lenl_at hv]
  unfold orI at hK
  refine loop_up 2 (fun i w' => Ext w w' ∧ (1 ≤ i → a = 0) ∧ (2 ≤ i → b = 0)) ⟨Chg.refl _ _, by omega, by omega⟩ ?_ ?_
  · rintro i w2 g L hi ⟨hx2, h1, h2⟩ hL
    have hlt : ((i : Int) < ((2 : Nat) : Int)) := by omega
    simp only [wsv, wsg, wsh, wsl, cond_true, cond_false, exists_eq_left', Option.some.injEq, Option.isSome_some, List.getElem?_toArray, List.getElem?_cons_zero, List.getElem?_cons_succ, List.length_cons, List.length_nil, List.set_cons_zero, List.set_cons_succ, List.getD_cons_zero, List.getD_cons_succ, Nat.zero_add, Nat.add_zero, Nat.reduceAdd, Nat.reduceLT, Nat.lt_add_one, Nat.zero_lt_succ, decide_true, decide_false, ne_eq, reduceCtorEq, hlt]
    have hc : i = 0 ∨ i = 1 := by omega
    rcases hc with rfl | rfl
    · refine ixa_ld (hv.ext hx2) rfl (show [i64 a, i64 b][0]? = some (i64 a) from rfl) ?_
      simp only [wsv, wsg, wsh, wsl, cond_true, cond_false, exists_eq_left', Option.some.injEq, Option.isSome_some, List.getElem?_toArray, List.getElem?_cons_zero, List.getElem?_cons_succ, List.length_cons, List.length_nil, List.set_cons_zero, List.set_cons_succ, List.getD_cons_zero, List.getD_cons_succ, Nat.zero_add, Nat.add_zero, Nat.reduceAdd, Nat.reduceLT, Nat.lt_add_one, Nat.zero_lt_succ, decide_true, decide_false, ne_eq, reduceCtorEq, condW_dec]
      refine ⟨fun hne => ?_, fun h0 => ?_⟩
      · have := hK w2 hx2
        rw [if_neg hne] at this
        exact this
      · rw [up1 (by omega)]
        exact hL w2 ⟨hx2, fun _ => Decidable.not_not.1 h0, fun h => by omega⟩
    · have ha := h1 (Nat.le_refl _)
      refine ixa_ld (hv.ext hx2) rfl (show [i64 a, i64 b][1]? = some (i64 b) from rfl) ?_
      simp only [wsv, wsg, wsh, wsl, cond_true, cond_false, exists_eq_left', Option.some.injEq, Option.isSome_some, List.getElem?_toArray, List.getElem?_cons_zero, List.getElem?_cons_succ, List.length_cons, List.length_nil, List.set_cons_zero, List.set_cons_succ, List.getD_cons_zero, List.getD_cons_succ, Nat.zero_add, Nat.add_zero, Nat.reduceAdd, Nat.reduceLT, Nat.lt_add_one, Nat.zero_lt_succ, decide_true, decide_false, ne_eq, reduceCtorEq, condW_dec]
      refine ⟨fun hne => ?_, fun h0 => ?_⟩
      · have := hK w2 hx2
        rw [if_pos ha] at this
        exact this
      · rw [up1 (by omega)]
        exact hL w2 ⟨hx2, fun _ => ha, fun _ => Decidable.not_not.1 h0⟩
  · rintro w2 g L ⟨hx2, h1, h2⟩
    simp only [wsv, wsg, wsh, wsl, cond_true, cond_false, exists_eq_left', Option.some.injEq, Option.isSome_some, List.getElem?_toArray, List.getElem?_cons_zero, List.getElem?_cons_succ, List.length_cons, List.length_nil, List.set_cons_zero, List.set_cons_succ, List.getD_cons_zero, List.getD_cons_succ, Nat.zero_add, Nat.add_zero, Nat.reduceAdd, Nat.reduceLT, Nat.lt_add_one, Nat.zero_lt_succ, decide_true, decide_false, ne_eq, reduceCtorEq, Int.lt_irrefl]
    have := hK w2 hx2
    rw [if_pos (h1 (by omega)), h2 (Nat.le_refl _)] at this
    exact this
theorem cmpfunc_p {sv tv f : Value} {xs ys : List JV} {w : World} {K : Value → World → Prop} (h : ItemsAt w sv xs) (h' : ItemsAt w tv ys)
    (hf : ∀ x ∈ xs, ∀ y ∈ ys, ∀ {cs ds : List Value} {w : World} {K : Value → World → Prop}, VRep w x cs → VRep w y ds → (∀ w', Ext w w' → K (i64 (cmpM x y)) w') → callV Tryz.prog f [.agg cs.toArray, .agg ds.toArray] w K)
    (hK : ∀ w', Ext w w' → K (i64 (cmpL xs ys)) w') : callF Tryz.prog 161 [sv, tv, f] w K := by
  refine W161_ok ?_
  unfold W161
  rw [h.len]
  refine loop_up xs.length (fun i w' => Ext w w' ∧ i ≤ ys.length ∧ cmpL (xs.drop i) (ys.drop i) = cmpL xs ys) ⟨Chg.refl _ _, by omega, rfl⟩ ?_ ?_
  · rintro i w2 g L hi ⟨hx2, hib, he⟩ hL
    obtain ⟨u, hu⟩ : ∃ u, xs[i]? = some u := ⟨_, List.getElem?_eq_getElem hi⟩
    have hlt : ((i : Int) < (xs.length : Int)) := by omega
    have hda : xs.drop i = u :: xs.drop (i + 1) := by
      rw [List.drop_eq_getElem_cons hi]; congr 1
      exact Option.some.inj ((List.getElem?_eq_getElem hi).symm.trans hu)
    simp only [wsv, wsg, wsh, wsl, cond_true, cond_false, exists_eq_left', Option.some.injEq, Option.isSome_some, List.getElem?_toArray, List.getElem?_cons_zero, List.getElem?_cons_succ, List.length_cons, List.length_nil, List.set_cons_zero, List.set_cons_succ, List.getD_cons_zero, List.getD_cons_succ, Nat.zero_add, Nat.add_zero, Nat.reduceAdd, Nat.reduceLT, Nat.lt_add_one, Nat.zero_lt_succ, decide_true, decide_false, ne_eq, reduceCtorEq, hlt]
    refine (h.ext hx2).at hu fun cs hcs => ?_
    refine copy_new hcs fun p w3 sp kp hP hx3 => ?_
    rw [h'.len]
    simp only [wsv, wsg, wsh, wsl, cond_true, cond_false, exists_eq_left', Option.some.injEq, Option.isSome_some, List.getElem?_toArray, List.getElem?_cons_zero, List.getElem?_cons_succ, List.length_cons, List.length_nil, List.set_cons_zero, List.set_cons_succ, List.getD_cons_zero, List.getD_cons_succ, Nat.zero_add, Nat.add_zero, Nat.reduceAdd, Nat.reduceLT, Nat.lt_add_one, Nat.zero_lt_succ, decide_true, decide_false, ne_eq, reduceCtorEq, condW_dec]
    refine ⟨fun hge => ?_, fun hltb => ?_⟩
    · have hdb : ys.drop i = [] := List.drop_eq_nil_iff.2 (by omega)
      rw [hda, hdb] at he
      have := hK w3 (hx2.trans hx3)
      rw [← he] at this
      exact this
    · have hib2 : i < ys.length := by omega
      obtain ⟨v, hv⟩ : ∃ v, ys[i]? = some v := ⟨_, List.getElem?_eq_getElem hib2⟩
      have hdb : ys.drop i = v :: ys.drop (i + 1) := by
        rw [List.drop_eq_getElem_cons hib2]; congr 1
        exact Option.some.inj ((List.getElem?_eq_getElem hib2).symm.trans hv)
      rw [hda, hdb] at he
      simp only [cmpL, orI] at he
      refine (h'.ext (hx2.trans hx3)).at hv fun ds hds => ?_
      refine copy_new hds fun q w4 sq kq hQ hx4 => ?_
      refine (hP.ext hx4).ld fun cs2 hc2 => ?_
      refine hQ.ld fun ds2 hd2 => ?_
      refine hf u (List.mem_of_getElem? hu) v (List.mem_of_getElem? hv) hc2 hd2 fun w5 hx5 => ?_
      have hx := hx2.trans (hx3.trans (hx4.trans hx5))
      simp only [wsv, wsg, wsh, wsl, cond_true, cond_false, exists_eq_left', Option.some.injEq, Option.isSome_some, List.getElem?_toArray, List.getElem?_cons_zero, List.getElem?_cons_succ, List.length_cons, List.length_nil, List.set_cons_zero, List.set_cons_succ, List.getD_cons_zero, List.getD_cons_succ, Nat.zero_add, Nat.add_zero, Nat.reduceAdd, Nat.reduceLT, Nat.lt_add_one, Nat.zero_lt_succ, decide_true, decide_false, ne_eq, reduceCtorEq, condW_dec]
      refine ⟨fun hne => ?_, fun h0 => ?_⟩
      · rw [if_neg hne] at he
        have := hK w5 hx
        rw [← he] at this
        exact this
      · rw [if_pos (Decidable.not_not.1 h0)] at he
        have := h.few
        rw [up1 (by omega)]
        exact hL w5 ⟨hx, hib2, he⟩
  · rintro w2 g L ⟨hx2, hib, he⟩
    simp only [wsv, wsg, wsh, wsl, cond_true, cond_false, exists_eq_left', Option.some.injEq, Option.isSome_some, List.getElem?_toArray, List.getElem?_cons_zero, List.getElem?_cons_succ, List.length_cons, List.length_nil, List.set_cons_zero, List.set_cons_succ, List.getD_cons_zero, List.getD_cons_succ, Nat.zero_add, Nat.add_zero, Nat.reduceAdd, Nat.reduceLT, Nat.lt_add_one, Nat.zero_lt_succ, decide_true, decide_false, ne_eq, reduceCtorEq, Int.lt_irrefl]
    rw [h.len, h'.len]
    rw [List.drop_length] at he
    simp only [wsv, wsg, wsh, wsl, cond_true, cond_false, exists_eq_left', Option.some.injEq, Option.isSome_some, List.getElem?_toArray, List.getElem?_cons_zero, List.getElem?_cons_succ, List.length_cons, List.length_nil, List.set_cons_zero, List.set_cons_succ, List.getD_cons_zero, List.getD_cons_succ, Nat.zero_add, Nat.add_zero, Nat.reduceAdd, Nat.reduceLT, Nat.lt_add_one, Nat.zero_lt_succ, decide_true, decide_false, ne_eq, reduceCtorEq, condW_dec]
    have := hK w2 hx2
    rw [← he] at this
    refine ⟨fun hlt => ?_, fun hge => ?_⟩
    · obtain ⟨v, r, e⟩ : ∃ v r, ys.drop xs.length = v :: r := by
        cases hd : ys.drop xs.length with
        | nil => have := List.drop_eq_nil_iff.1 hd; omega
        | cons v r => exact ⟨v, r, rfl⟩
      rw [e] at this
      exact this
    · rw [List.drop_eq_nil_iff.2 (show ys.length ≤ xs.length by omega)] at this
      exact this
theorem cmp_p (v : JV) : ∀ {b : JV} {cs ds : List Value} {w : World} {K : Value → World → Prop}, VRep w v cs → VRep w b ds → (∀ w', Ext w w' → K (i64 (cmpM v b)) w') → callF Tryz.prog 131 [.agg cs.toArray, .agg ds.toArray] w K := by
  induction v using JV.ind' with
  | h v ih =>
    intro b cs ds w K h h' hK
    refine W131_ok ?_
    unfold W131
    refine box_val h fun x w1 sv kv hB hx _ => ?_
    refine box_val (h'.ext hx) fun y w2 sv' kv' hC hx2 _ => ?_
    have hB := hB.ext hx2
    have hx := hx.trans hx2
    clear hx2
    rw [cmpM_eq] at hK
    unfold orI at hK
    simp only [wsv, wsg, wsh, wsl, cond_true, cond_false, exists_eq_left', Option.some.injEq, Option.isSome_some, List.getElem?_toArray, List.getElem?_cons_zero, List.getElem?_cons_succ, List.length_cons, List.length_nil, List.set_cons_zero, List.set_cons_succ, List.getD_cons_zero, List.getD_cons_succ, Nat.zero_add, Nat.add_zero, Nat.reduceAdd, Nat.reduceLT, Nat.lt_add_one, Nat.zero_lt_succ, decide_true, decide_false, ne_eq, reduceCtorEq, wsh, hB.hb, hC.hb]
    refine cmp_k ?_
    simp only [wsv, wsg, wsh, wsl, cond_true, cond_false, exists_eq_left', Option.some.injEq, Option.isSome_some, List.getElem?_toArray, List.getElem?_cons_zero, List.getElem?_cons_succ, List.length_cons, List.length_nil, List.set_cons_zero, List.set_cons_succ, List.getD_cons_zero, List.getD_cons_succ, Nat.zero_add, Nat.add_zero, Nat.reduceAdd, Nat.reduceLT, Nat.lt_add_one, Nat.zero_lt_succ, decide_true, decide_false, ne_eq, reduceCtorEq, condW_dec]
    refine ⟨fun hne => ?_, fun h0 => ?_⟩
    · have := hK w2 hx
      rw [if_neg hne] at this
      exact this
    · rw [if_pos (Decidable.not_not.1 h0)] at hK
      have hxd : Ext w2 w2.drew := Chg.drew (Chg.refl (fun _ => False) w2)
      have hBd := hB.ext hxd
      have hCd := hC.ext hxd
      (try simp only [wsv, wsg, wsh, wsl, cond_true, cond_false, exists_eq_left', Option.some.injEq, Option.isSome_some, List.getElem?_toArray, List.getElem?_cons_zero, List.getElem?_cons_succ, List.length_cons, List.length_nil, List.set_cons_zero, List.set_cons_succ, List.getD_cons_zero, List.getD_cons_succ, Nat.zero_add, Nat.add_zero, Nat.reduceAdd, Nat.reduceLT, Nat.lt_add_one, Nat.zero_lt_succ, decide_true, decide_false, ne_eq, reduceCtorEq, wsh, hB.hb, hC.hb])
      refine ⟨fun h2 => ?_, fun h2 => ?_⟩
      · rw [if_pos (show v.k = 2 by simpa using h2)] at hK
        (try simp only [wsv, wsg, wsh, wsl, cond_true, cond_false, exists_eq_left', Option.some.injEq, Option.isSome_some, List.getElem?_toArray, List.getElem?_cons_zero, List.getElem?_cons_succ, List.length_cons, List.length_nil, List.set_cons_zero, List.set_cons_succ, List.getD_cons_zero, List.getD_cons_succ, Nat.zero_add, Nat.add_zero, Nat.reduceAdd, Nat.reduceLT, Nat.lt_add_one, Nat.zero_lt_succ, decide_true, decide_false, ne_eq, reduceCtorEq, wsh, hB.hb, hC.hb])
        refine truth_p ?_
        (try simp only [wsv, wsg, wsh, wsl, cond_true, cond_false, exists_eq_left', Option.some.injEq, Option.isSome_some, List.getElem?_toArray, List.getElem?_cons_zero, List.getElem?_cons_succ, List.length_cons, List.length_nil, List.set_cons_zero, List.set_cons_succ, List.getD_cons_zero, List.getD_cons_succ, Nat.zero_add, Nat.add_zero, Nat.reduceAdd, Nat.reduceLT, Nat.lt_add_one, Nat.zero_lt_succ, decide_true, decide_false, ne_eq, reduceCtorEq, wsh, hC.hb])
        refine truth_p (cmp_i ?_)
        exact hK _ (hx.trans hxd)
      · rw [if_neg (show ¬ v.k = 2 by simpa using h2)] at hK
        (try simp only [wsv, wsg, wsh, wsl, cond_true, cond_false, exists_eq_left', Option.some.injEq, Option.isSome_some, List.getElem?_toArray, List.getElem?_cons_zero, List.getElem?_cons_succ, List.length_cons, List.length_nil, List.set_cons_zero, List.set_cons_succ, List.getD_cons_zero, List.getD_cons_succ, Nat.zero_add, Nat.add_zero, Nat.reduceAdd, Nat.reduceLT, Nat.lt_add_one, Nat.zero_lt_succ, decide_true, decide_false, ne_eq, reduceCtorEq, condW_dec])
        refine ⟨fun h3 => ?_, fun h3 => ?_⟩
        · rw [if_pos (show v.k = 3 by simpa using h3)] at hK
          (try simp only [wsv, wsg, wsh, wsl, cond_true, cond_false, exists_eq_left', Option.some.injEq, Option.isSome_some, List.getElem?_toArray, List.getElem?_cons_zero, List.getElem?_cons_succ, List.length_cons, List.length_nil, List.set_cons_zero, List.set_cons_succ, List.getD_cons_zero, List.getD_cons_succ, Nat.zero_add, Nat.add_zero, Nat.reduceAdd, Nat.reduceLT, Nat.lt_add_one, Nat.zero_lt_succ, decide_true, decide_false, ne_eq, reduceCtorEq, wsh, hB.hb, hC.hb])
          exact numcmp_ref hB.fits.2.2.1 hC.fits.2.2.1 fun w3 hx3 => hK w3 (hx.trans hx3)
        · rw [if_neg (show ¬ v.k = 3 by simpa using h3)] at hK
          (try simp only [wsv, wsg, wsh, wsl, cond_true, cond_false, exists_eq_left', Option.some.injEq, Option.isSome_some, List.getElem?_toArray, List.getElem?_cons_zero, List.getElem?_cons_succ, List.length_cons, List.length_nil, List.set_cons_zero, List.set_cons_succ, List.getD_cons_zero, List.getD_cons_succ, Nat.zero_add, Nat.add_zero, Nat.reduceAdd, Nat.reduceLT, Nat.lt_add_one, Nat.zero_lt_succ, decide_true, decide_false, ne_eq, reduceCtorEq, condW_dec])
          refine ⟨fun h4 => ?_, fun h4 => ?_⟩
          · rw [if_pos (show v.k = 4 by simpa using h4)] at hK
            (try simp only [wsv, wsg, wsh, wsl, cond_true, cond_false, exists_eq_left', Option.some.injEq, Option.isSome_some, List.getElem?_toArray, List.getElem?_cons_zero, List.getElem?_cons_succ, List.length_cons, List.length_nil, List.set_cons_zero, List.set_cons_succ, List.getD_cons_zero, List.getD_cons_succ, Nat.zero_add, Nat.add_zero, Nat.reduceAdd, Nat.reduceLT, Nat.lt_add_one, Nat.zero_lt_succ, decide_true, decide_false, ne_eq, reduceCtorEq, wsh, hB.hb, hC.hb])
            exact strcmp (hK w2 hx)
          · rw [if_neg (show ¬ v.k = 4 by simpa using h4)] at hK
            (try simp only [wsv, wsg, wsh, wsl, cond_true, cond_false, exists_eq_left', Option.some.injEq, Option.isSome_some, List.getElem?_toArray, List.getElem?_cons_zero, List.getElem?_cons_succ, List.length_cons, List.length_nil, List.set_cons_zero, List.set_cons_succ, List.getD_cons_zero, List.getD_cons_succ, Nat.zero_add, Nat.add_zero, Nat.reduceAdd, Nat.reduceLT, Nat.lt_add_one, Nat.zero_lt_succ, decide_true, decide_false, ne_eq, reduceCtorEq, wsh, hB.hb, hC.hb])
            obtain ⟨T1, k1⟩ := hBd.keys
            obtain ⟨T2, k2⟩ := hCd.keys
            refine cmpks_p k1 k2 hB.fits.2.1 fun w3 hx3 => ?_
            have hB3 := hBd.ext hx3
            have hC3 := hCd.ext hx3
            simp only [wsv, wsg, wsh, wsl, cond_true, cond_false, exists_eq_left', Option.some.injEq, Option.isSome_some, List.getElem?_toArray, List.getElem?_cons_zero, List.getElem?_cons_succ, List.length_cons, List.length_nil, List.set_cons_zero, List.set_cons_succ, List.getD_cons_zero, List.getD_cons_succ, Nat.zero_add, Nat.add_zero, Nat.reduceAdd, Nat.reduceLT, Nat.lt_add_one, Nat.zero_lt_succ, decide_true, decide_false, ne_eq, reduceCtorEq, wsh, hB3.hb, hC3.hb]
            refine cmpfunc_p hB3.itemsAt hC3.itemsAt ?_ fun w4 hx4 => ?_
            · intro p hp q hq cs ds w K hc hd hK
              exact callV_fn (ih p hp hc hd hK)
            unfold bslW
            simp only [wsv, wsg, wsh, wsl, cond_true, cond_false, exists_eq_left', Option.some.injEq, Option.isSome_some, List.getElem?_toArray, List.getElem?_cons_zero, List.getElem?_cons_succ, List.length_cons, List.length_nil, List.set_cons_zero, List.set_cons_succ, List.getD_cons_zero, List.getD_cons_succ, Nat.zero_add, Nat.add_zero, Nat.reduceAdd, Nat.reduceLT, Nat.lt_add_one, Nat.zero_lt_succ, decide_true, decide_false, ne_eq, reduceCtorEq]
            have hs : SlAt (w4.alloc (.cells [i64 (cmpKs v.ks b.ks), i64 (cmpL v.xs b.xs)].toArray 3)) 3 (.slice (some ⟨w4.heap.size, 0, none⟩) 2 2) 2 [i64 (cmpKs v.ks b.ks), i64 (cmpL v.xs b.xs)] :=
              (own_new (w := w4) (base := w4.heap.size) (e := 3) (size := 1) (n := 2) (cs := [i64 (cmpKs v.ks b.ks), i64 (cmpL v.xs b.xs)]) (Nat.le_refl _) rfl (by omega)).sl
            refine or2_p hs fun w5 hx5 => ?_
            have hx' := hx.trans (hxd.trans (hx3.trans (hx4.trans ((Chg.alloc (Chg.refl _ _) _ : Ext w4 _).trans hx5))))
            exact hK w5 hx'
theorem equal_p {a b : JV} {cs ds : List Value} {w : World} {K : Value → World → Prop} (h : VRep w a cs) (h' : VRep w b ds) (hK : ∀ w', Ext w w' → K (.bool (decide (cmpM a b = 0))) w') : callF Tryz.prog 93 [.agg cs.toArray, .agg ds.toArray] w K := by
  refine W93_ok ?_
  unfold W93
  refine box_val h fun x w1 sv kv hB hx _ => ?_
  refine box_val (h'.ext hx) fun y w2 sv' kv' hC hx2 _ => ?_
  have hB := hB.ext hx2
  refine hB.ld fun cs1 h1 => ?_
  refine hC.ld fun cs2 h2 => ?_
  refine cmp_p a h1 h2 fun w3 hx3 => ?_
  simp only [wsv, wsg, wsh, wsl, cond_true, cond_false, exists_eq_left', Option.some.injEq, Option.isSome_some, List.getElem?_toArray, List.getElem?_cons_zero, List.getElem?_cons_succ, List.length_cons, List.length_nil, List.set_cons_zero, List.set_cons_succ, List.getD_cons_zero, List.getD_cons_succ, Nat.zero_add, Nat.add_zero, Nat.reduceAdd, Nat.reduceLT, Nat.lt_add_one, Nat.zero_lt_succ, decide_true, decide_false, ne_eq, reduceCtorEq]
  exact hK w3 (hx.trans (hx2.trans hx3))
end
end Go.Proofs.YtdkikjcpgihjlaaGreatDoor
namespace Go.Proofs.YtdkikjcpgihjlaaGreatDoor
open Go Go.Eng Go.Num
set_option maxRecDepth 100000
def inG (G : Nat → Prop) (v : Value) : Prop := ∀ k, v.ownBlock = some k → G k
mutual
/-- a value all whose lists lie in blocks of G -/
def VRepP (G : Nat → Prop) (w : World) : JV → List Value → Prop
  | .mk k b t xs ks, cs => ∃ sv kv T1 T2 L, cs = [i64 k, .bool b, str t, sv, kv] ∧ SlAt w T1 sv xs.length L ∧ VRepsP G w xs L ∧ SlAt w T2 kv ks.length (ks.map str) ∧ Fits xs.length ks t ∧ (L ≠ [] → inG G sv) ∧ (ks.map str ≠ [] → inG G kv)
def VRepsP (G : Nat → Prop) (w : World) : List JV → List Value → Prop
  | [], L => L = []
  | x :: xs, L => ∃ c r, L = c ++ r ∧ VRepP G w x c ∧ VRepsP G w xs r
end
theorem slat_chgG {S G : Nat → Prop} {w w' : World} {T : TypeId} {v : Value} {n : Nat} {cs : List Value} (h : SlAt w T v n cs) (hg : cs ≠ [] → inG G v) (hc : Chg S w w') (hS : ∀ k, G k → k < w.heap.size → ¬ S k) : SlAt w' T v n cs := by
  obtain ⟨p, cap, rfl, h1, h2, h3⟩ := h
  refine ⟨p, cap, rfl, h1, h2, fun hne => ?_⟩
  obtain ⟨b, off, c, fr, rfl, hb, hcs⟩ := h3 hne
  exact ⟨b, off, c, fr, rfl, hc.at hb (hS b (hg hne b rfl) (at_lt hb)), hcs⟩
theorem slat_lt {w : World} {T : TypeId} {v : Value} {n : Nat} {cs : List Value} (h : SlAt w T v n cs) (hne : cs ≠ []) : inG (fun k => k < w.heap.size) v := by
  obtain ⟨p, cap, rfl, h1, h2, h3⟩ := h
  obtain ⟨b, off, c, fr, rfl, hb, hcs⟩ := h3 hne
  intro k hk
  cases hk
  exact at_lt hb
mutual
theorem VRepP.chg {S G : Nat → Prop} {w w' : World} (hc : Chg S w w') (hS : ∀ k, G k → k < w.heap.size → ¬ S k) : ∀ {v : JV} {cs : List Value}, VRepP G w v cs → VRepP G w' v cs
  | .mk k b t xs ks, cs, h => by
    simp only [VRepP] at h ⊢
    obtain ⟨sv, kv, T1, T2, L, rfl, h1, h2, h3, h4, h5, h6⟩ := h
    exact ⟨sv, kv, T1, T2, L, rfl, slat_chgG h1 h5 hc hS, VRepsP.chg hc hS h2, slat_chgG h3 h6 hc hS, h4, h5, h6⟩
theorem VRepsP.chg {S G : Nat → Prop} {w w' : World} (hc : Chg S w w') (hS : ∀ k, G k → k < w.heap.size → ¬ S k) : ∀ {xs : List JV} {L : List Value}, VRepsP G w xs L → VRepsP G w' xs L
  | [], L, h => by simp only [VRepsP] at h ⊢; exact h
  | x :: xs, L, h => by
    simp only [VRepsP] at h ⊢
    obtain ⟨c, r, rfl, h1, h2⟩ := h
    exact ⟨c, r, rfl, VRepP.chg hc hS h1, VRepsP.chg hc hS h2⟩
end
mutual
theorem VRepP.mono {G G' : Nat → Prop} {w : World} (hG : ∀ k, k < w.heap.size → G k → G' k) : ∀ {v : JV} {cs : List Value}, VRepP G w v cs → VRepP G' w v cs
  | .mk k b t xs ks, cs, h => by
    simp only [VRepP] at h ⊢
    obtain ⟨sv, kv, T1, T2, L, rfl, h1, h2, h3, h4, h5, h6⟩ := h
    exact ⟨sv, kv, T1, T2, L, rfl, h1, VRepsP.mono hG h2, h3, h4, fun hne k hk => hG k (slat_lt h1 hne k hk) (h5 hne k hk), fun hne k hk => hG k (slat_lt h3 hne k hk) (h6 hne k hk)⟩
theorem VRepsP.mono {G G' : Nat → Prop} {w : World} (hG : ∀ k, k < w.heap.size → G k → G' k) : ∀ {xs : List JV} {L : List Value}, VRepsP G w xs L → VRepsP G' w xs L
  | [], L, h => by simp only [VRepsP] at h ⊢; exact h
  | x :: xs, L, h => by
    simp only [VRepsP] at h ⊢
    obtain ⟨c, r, rfl, h1, h2⟩ := h
    exact ⟨c, r, rfl, VRepP.mono hG h1, VRepsP.mono hG h2⟩
end
mutual
theorem VRepP.rep {G : Nat → Prop} {w : World} : ∀ {v : JV} {cs : List Value}, VRepP G w v cs → VRep w v cs
  | .mk k b t xs ks, cs, h => by
    simp only [VRepP] at h
    simp only [VRep]
    obtain ⟨sv, kv, T1, T2, L, rfl, h1, h2, h3, h4, h5, h6⟩ := h
    exact ⟨sv, kv, T1, T2, L, rfl, h1, VRepsP.rep h2, h3, h4⟩
theorem VRepsP.rep {G : Nat → Prop} {w : World} : ∀ {xs : List JV} {L : List Value}, VRepsP G w xs L → VReps w xs L
  | [], L, h => by simp only [VRepsP] at h; simp only [VReps]; exact h
  | x :: xs, L, h => by
    simp only [VRepsP] at h
    simp only [VReps]
    obtain ⟨c, r, rfl, h1, h2⟩ := h
    exact ⟨c, r, rfl, VRepP.rep h1, VRepsP.rep h2⟩
end
theorem VRepsP.snoc {G : Nat → Prop} {w : World} : ∀ {xs : List JV} {x : JV} {L cs : List Value}, VRepsP G w xs L → VRepP G w x cs → VRepsP G w (xs ++ [x]) (L ++ cs)
  | [], x, L, cs, h, hx => by
    simp only [VRepsP] at h
    subst h
    simp only [List.nil_append, VRepsP]
    exact ⟨cs, [], by simp, hx, rfl⟩
  | y :: xs, x, L, cs, h, hx => by
    simp only [VRepsP] at h
    obtain ⟨c, r, rfl, h1, h2⟩ := h
    simp only [List.cons_append, VRepsP]
    exact ⟨c, r ++ cs, by simp, h1, VRepsP.snoc h2 hx⟩
theorem VRepP.mk {G : Nat → Prop} {w : World} {v : JV} {sv kv : Value} {T1 T2 : TypeId} {L : List Value} (h1 : SlAt w T1 sv v.xs.length L) (h2 : VRepsP G w v.xs L) (h3 : SlAt w T2 kv v.ks.length (v.ks.map str)) (h4 : Fits v.xs.length v.ks v.t) (h5 : L ≠ [] → inG G sv) (h6 : v.ks.map str ≠ [] → inG G kv) : VRepP G w v [i64 v.k, .bool v.b, str v.t, sv, kv] := by
  cases v with
  | mk k b t xs ks => simp only [VRepP]; exact ⟨sv, kv, T1, T2, L, rfl, h1, h2, h3, h4, h5, h6⟩
abbrev From (n : Nat) : Nat → Prop := fun k => n ≤ k
section
variable [HX]
theorem clone_s {v : Value} {T : TypeId} {l : List Str} {w : World} {K : Value → World → Prop} (h : SlAt w T v l.length (l.map str)) (hl : l.length ≤ 1000000)
    (hK : ∀ v' w', Ext w w' → SlAt w' ST v' l.length (l.map str) → inG (From w.heap.size) v' → K v' w') : callF Tryz.prog 130 [v] w K := by
  refine W130_ok ?_
  unfold W130
  obtain ⟨p, cap, rfl, hcap, hp, hc⟩ := h
  cases p with
  | none =>
    obtain ⟨h0, rfl⟩ := hp rfl
    have : l = [] := List.eq_nil_of_length_eq_zero h0
    subst this
    have e : ∀ K : Value → Prop, eqW .slice false (.slice none ([] : List Str).length 0) (.slice none 0 0) K ↔ K (.bool true) := fun K => Iff.rfl
    rw [e]
    simp only [wsv, wsg, wsh, wsl, cond_true, cond_false, exists_eq_left', Option.some.injEq, Option.isSome_some, List.getElem?_toArray, List.getElem?_cons_zero, List.getElem?_cons_succ, List.length_cons, List.length_nil, List.set_cons_zero, List.set_cons_succ, List.getD_cons_zero, List.getD_cons_succ, Nat.zero_add, Nat.add_zero, Nat.reduceAdd, Nat.reduceLT, Nat.lt_add_one, Nat.zero_lt_succ, decide_true, decide_false, ne_eq, reduceCtorEq]
    exact hK _ w (Chg.refl _ _) (SlAt.nil _ _) (by intro k hk; cases hk)
  | some a =>
    have e : ∀ K : Value → Prop, eqW .slice false (.slice (some a) l.length cap) (.slice none 0 0) K ↔ K (.bool false) := fun K => Iff.rfl
    rw [e]
    unfold bslW
    simp only [wsv, wsg, wsh, wsl, cond_true, cond_false, exists_eq_left', Option.some.injEq, Option.isSome_some, List.getElem?_toArray, List.getElem?_cons_zero, List.getElem?_cons_succ, List.length_cons, List.length_nil, List.set_cons_zero, List.set_cons_succ, List.getD_cons_zero, List.getD_cons_succ, Nat.zero_add, Nat.add_zero, Nat.reduceAdd, Nat.reduceLT, Nat.lt_add_one, Nat.zero_lt_succ, decide_true, decide_false, ne_eq, reduceCtorEq]
    refine append_own3 elem_s (base := w.heap.size) (own_new (w := w) (base := w.heap.size) (e := ST) (size := 1) (n := 0) (cs := []) (Nat.le_refl _) rfl (by omega)) (x := .slice (some a) l.length cap) (T := T) (m := l.length) (news := l.map str) ?_ (by simp) ?_ (by omega) (by omega) (by rw [size_alloc]; omega) fun v' w' h' hc' hb' => ?_
    · have hx : Ext w (w.alloc (.cells ([] : List Value).toArray ST)) := (by repeat (first | assumption | exact Chg.refl _ _ | refine Chg.drew ?_ | refine Chg.alloc ?_ _ | refine Chg.set ?_ (by first | exact .inl rfl | exact .inr (by omega) | exact .inr (by simp only [size_set, size_alloc, size_drew]; omega) | (left; simp; done)) _ | exact Chg.of_ext (by assumption)))
      exact SlAt.ext ⟨some a, cap, rfl, hcap, hp, hc⟩ hx
    · intro u hu
      obtain ⟨s, _, rfl⟩ := List.mem_map.1 hu
      rfl
    · have hx : Ext w (w.alloc (.cells ([] : List Value).toArray ST)) := (by repeat (first | assumption | exact Chg.refl _ _ | refine Chg.drew ?_ | refine Chg.alloc ?_ _ | refine Chg.set ?_ (by first | exact .inl rfl | exact .inr (by omega) | exact .inr (by simp only [size_set, size_alloc, size_drew]; omega) | (left; simp; done)) _ | exact Chg.of_ext (by assumption)))
      refine hK v' w' (hx.then hc' fun k hk e => ?_) (by simpa using h'.sl) fun k hk => (h'.block k hk).1
      simp only [Value.ownBlock, Option.some.injEq] at e
      omega
theorem clones_p {xs : List JV} (hcl : ∀ x ∈ xs, ∀ {cs : List Value} {w : World} {K : Value → World → Prop}, VRep w x cs → (∀ cs' w', Ext w w' → VRepP (From w.heap.size) w' x cs' → K (.agg cs'.toArray) w') → callF Tryz.prog 90 [.agg cs.toArray] w K)
    {sv : Value} {w : World} {K : Value → World → Prop} (h : ItemsAt w sv xs) (hl : xs.length ≤ 1000000)
    (hK : ∀ sv' w', Ext w w' → (∃ L, SlAt w' VT sv' xs.length L ∧ VRepsP (From w.heap.size) w' xs L) → inG (From w.heap.size) sv' → K sv' w') : callF Tryz.prog 104 [sv] w K := by
  refine W104_ok ?_
  unfold W104
  rw [h.len]
  refine ⟨fun s w' => ∃ i v L, i ≤ xs.length ∧ s = [v, i64 (i : Nat)] ∧ Ext w w' ∧ Own w' w.heap.size VT 5 v i L ∧ VRepsP (fun k => w.heap.size ≤ k ∧ v.ownBlock ≠ some k) w' (xs.take i) L,
    fun s _ => match s with | [_, .int _ i] => xs.length - i.toNat | _ => 0, ⟨0, _, [], by omega, rfl, Chg.refl _ _, ⟨by simp, .inl ⟨rfl, rfl⟩⟩, by simp [VRepsP]⟩, ?_⟩
  rintro s g w2 ⟨i, v, L, hi, rfl, hx2, hO, hr⟩
  rcases Nat.lt_or_ge i xs.length with hlt | hge
  · obtain ⟨x, hxi⟩ : ∃ x, xs[i]? = some x := ⟨_, List.getElem?_eq_getElem hlt⟩
    have hltI : (i : Int) < (xs.length : Int) := by omega
    simp only [wsv, wsg, wsh, wsl, cond_true, cond_false, exists_eq_left', Option.some.injEq, Option.isSome_some, List.getElem?_toArray, List.getElem?_cons_zero, List.getElem?_cons_succ, List.length_cons, List.length_nil, List.set_cons_zero, List.set_cons_succ, List.getD_cons_zero, List.getD_cons_succ, Nat.zero_add, Nat.add_zero, Nat.reduceAdd, Nat.reduceLT, Nat.lt_add_one, Nat.zero_lt_succ, decide_true, decide_false, ne_eq, reduceCtorEq, hltI]
    refine (h.ext hx2).at hxi fun cs hcs => ?_
    refine copy_new hcs fun p w3 sp kp hP hx3 => ?_
    refine hP.ld fun cs2 h2 => ?_
    refine hcl x (List.mem_of_getElem? hxi) h2 fun cs3 w4 hx4 h3 => ?_
    refine row_v h3.rep.len fun t w5 ht hx5 => ?_
    have hx25 := hx3.trans (hx4.trans hx5)
    have hO5 := hO.ext hx25
    have s0 := hx2.size
    have s3 := hx3.size
    have s25 := hx25.size
    have hglt : ∀ k, v.ownBlock = some k → k < w2.heap.size := fun k hk => (World.ownsRow.lt hO k hk).2
    refine append_own3 elem_v hO5 ht (m := 1) (by rw [h3.rep.len]) h3.rep.one (by omega) (by omega) (by omega) fun v' w6 h6 hc6 hb6 => ?_
    have hx6 : Ext w w6 := (hx2.trans hx25).then hc6 fun k hk e => by
      have := (own_ge hO5 e).1; omega
    rw [up1 (by omega)]
    refine ⟨⟨i + 1, v', L ++ cs3, hlt, rfl, hx6, h6, ?_⟩, by simp only [Int.toNat_natCast]; omega⟩
    have e : xs.take (i + 1) = xs.take i ++ [x] := by rw [List.take_add_one, hxi]; rfl
    rw [e]
    have hr5 := VRepsP.chg hx25 (fun _ _ _ e => e) hr
    have h35 := VRepP.chg hx5 (fun _ _ _ e => e) h3
    have hall : VRepsP (fun k => w.heap.size ≤ k ∧ v.ownBlock ≠ some k) w5 (xs.take i ++ [x]) (L ++ cs3) :=
      hr5.snoc (h35.mono fun k _ hk => ⟨by have : w3.heap.size ≤ k := hk; omega, fun e => by have := hglt k e; have : w3.heap.size ≤ k := hk; omega⟩)
    have hall2 : VRepsP (fun k => (w.heap.size ≤ k ∧ v.ownBlock ≠ some k) ∧ k < w5.heap.size) w5 (xs.take i ++ [x]) (L ++ cs3) := hall.mono fun k hlt hk => ⟨hk, hlt⟩
    have hall3 := VRepsP.chg hc6 (fun k hk _ e => hk.1.2 e) hall2
    exact hall3.mono fun k _ hk => ⟨hk.1.1, fun e => by
      rcases hb6 k e with h | h
      · exact hk.1.2 h
      · omega⟩
  · obtain rfl : i = xs.length := by omega
    simp only [wsv, wsg, wsh, wsl, cond_true, cond_false, exists_eq_left', Option.some.injEq, Option.isSome_some, List.getElem?_toArray, List.getElem?_cons_zero, List.getElem?_cons_succ, List.length_cons, List.length_nil, List.set_cons_zero, List.set_cons_succ, List.getD_cons_zero, List.getD_cons_succ, Nat.zero_add, Nat.add_zero, Nat.reduceAdd, Nat.reduceLT, Nat.lt_add_one, Nat.zero_lt_succ, decide_true, decide_false, ne_eq, reduceCtorEq, Int.lt_irrefl]
    rw [List.take_length] at hr
    exact hK v w2 hx2 ⟨L, hO.sl, hr.mono fun k _ hk => hk.1⟩ fun k hk => (hO.block k hk).1
end
end Go.Proofs.YtdkikjcpgihjlaaGreatDoor
namespace Go.Eng
open Go Go.Num
mutual
def fewM : JV → Bool
  | .mk _ _ _ xs ks => decide (xs.length ≤ 100000) && decide (ks.length ≤ 100000) && fewL xs
def fewL : List JV → Bool
  | [] => true
  | x :: xs => fewM x && fewL xs
end
theorem fewM_eq (v : JV) : fewM v = (decide (v.xs.length ≤ 100000) && decide (v.ks.length ≤ 100000) && fewL v.xs) := by cases v; rfl
theorem fewL_all (xs : List JV) : fewL xs = xs.all fewM := by
  induction xs with
  | nil => rfl
  | cons x xs ih => simp [fewL, ih]
theorem size_bound : ∀ (m : Nat), m ≤ 24 → ∀ (v : JV), deepM v m = true → 1 ≤ sizeM v ∧ sizeM v ≤ 2000 * m + 1
  | 0, _, v, h => by rw [deepM_zero] at h; cases h
  | m + 1, hm, v, h => by
    rw [deepM_succ, deepL_all] at h
    rw [sizeM_eq]
    have key : ∀ (xs : List JV) (n : Int), xs.all (deepM · m) = true → 1 ≤ n → n ≤ 2000 * (m + 1) + 1 → 1 ≤ sizeLM xs n ∧ sizeLM xs n ≤ 2000 * (m + 1) + 1 := by
      intro xs
      induction xs with
      | nil => intro n _ h1 h2; exact ⟨h1, h2⟩
      | cons x xs ih =>
        intro n ha h1 h2
        simp only [List.all_cons, Bool.and_eq_true] at ha
        obtain ⟨a1, a2⟩ := size_bound m (by omega) x ha.1
        simp only [sizeLM]
        split
        · rw [wrap_id (by omega) (by omega)]
          exact ih _ ha.2 (by omega) (by omega)
        · exact ⟨h1, h2⟩
    have := key v.xs 1 h (by omega) (by omega)
    exact ⟨this.1, by have := this.2; omega⟩
theorem sizeLM_all {m : Nat} (hm : m ≤ 24) : ∀ (xs : List JV) (n : Int), xs.all (deepM · m) = true → 1 ≤ n → sizeLM xs n ≤ 2000 → n + xs.length ≤ 2000 ∧ ∀ x ∈ xs, sizeM x ≤ 2000
  | [], n, _, _, h => by simp only [sizeLM] at h; exact ⟨by simp; exact h, by simp⟩
  | x :: xs, n, ha, h1, h => by
    simp only [List.all_cons, Bool.and_eq_true] at ha
    obtain ⟨a1, a2⟩ := size_bound m hm x ha.1
    simp only [sizeLM] at h
    split at h
    · rw [wrap_id (by omega) (by omega)] at h
      obtain ⟨i1, i2⟩ := sizeLM_all hm xs _ ha.2 (by omega) h
      refine ⟨by simp only [List.length_cons]; omega, fun y hy => ?_⟩
      rcases List.mem_cons.1 hy with rfl | hy
      · omega
      · exact i2 y hy
    · omega
theorem good_few (v : JV) : ∀ (m : Nat), m ≤ 24 → sizeM v ≤ 2000 → deepM v m = true → plainM v = true → fewM v = true := by
  induction v using JV.ind' with
  | h v ih =>
    intro m hm hs hd hp
    cases m with
    | zero => rw [deepM_zero] at hd; cases hd
    | succ m =>
      rw [deepM_succ, deepL_all] at hd
      rw [sizeM_eq] at hs
      obtain ⟨h1, h2⟩ := sizeLM_all (m := m) (by omega) v.xs 1 hd (by omega) hs
      rw [plainM_eq, Bool.and_eq_true, plainL_all] at hp
      obtain ⟨_, _, _, _, _, k6, _, _, k9, _⟩ := headOk_out hp.1
      rw [fewM_eq, fewL_all]
      have e1 : v.xs.length ≤ 100000 := by omega
      have e2 : v.ks.length ≤ 100000 := by
        by_cases hk : v.ks = []
        · rw [hk]; simp
        · have := k9 (k6 hk); omega
      rw [decide_eq_true e1, decide_eq_true e2]
      simp only [Bool.and_self, Bool.true_and, List.all_eq_true]
      intro x hx
      exact ih x hx m (by omega) (h2 x hx) (List.all_eq_true.1 hd x hx) (List.all_eq_true.1 hp.2 x hx)
structure GoodV (v : JV) : Prop where
  plain : plainM v = true
  few : fewM v = true
theorem good_v {v : JV} (h : goodM v = true) : GoodV v := by
  simp only [goodM, Bool.and_eq_true, decide_eq_true_eq] at h
  exact ⟨h.2, good_few v 24 (Nat.le_refl _) h.1.1 h.1.2 h.2⟩
theorem GoodV.item {v x : JV} (h : GoodV v) (hx : x ∈ v.xs) : GoodV x := by
  have h1 := h.plain
  have h2 := h.few
  rw [plainM_eq, Bool.and_eq_true, plainL_all, List.all_eq_true] at h1
  rw [fewM_eq, fewL_all] at h2
  simp only [Bool.and_eq_true, List.all_eq_true] at h2
  exact ⟨h1.2 x hx, h2.2 x hx⟩
theorem GoodV.lens {v : JV} (h : GoodV v) : v.xs.length ≤ 100000 ∧ v.ks.length ≤ 100000 ∧ (v.k = 6 → v.ks.length = v.xs.length) ∧ keysOk v.ks = true ∧ (v.ks ≠ [] → v.k = 6) := by
  have h1 := h.plain
  have h2 := h.few
  rw [plainM_eq, Bool.and_eq_true] at h1
  rw [fewM_eq] at h2
  simp only [Bool.and_eq_true, decide_eq_true_eq] at h2
  obtain ⟨_, _, _, _, _, k6, _, _, k9, k10⟩ := headOk_out h1.1
  exact ⟨h2.1.1, h2.1.2, k9, k10, k6⟩
theorem less_trans : ∀ {a b c : Str}, Op.bytesLess a b = true → Op.bytesLess b c = true → Op.bytesLess a c = true
  | [], [], _, h, _ => by simp [Op.bytesLess] at h
  | _ :: _, [], _, h, _ => by simp [Op.bytesLess] at h
  | _, _ :: _, [], _, h => by simp [Op.bytesLess] at h
  | [], _ :: _, _ :: _, _, _ => by simp [Op.bytesLess]
  | x :: a, y :: b, z :: c, h1, h2 => by
    simp only [Op.bytesLess, Bool.or_eq_true, Bool.and_eq_true, decide_eq_true_eq, beq_iff_eq] at h1 h2 ⊢
    rcases h1 with h1 | ⟨rfl, h1⟩
    · rcases h2 with h2 | ⟨rfl, h2⟩
      · exact .inl (UInt8.lt_trans h1 h2)
      · exact .inl h1
    · rcases h2 with h2 | ⟨rfl, h2⟩
      · exact .inl h2
      · exact .inr ⟨rfl, less_trans h1 h2⟩
theorem less_tri : ∀ (a b : Str), Op.bytesLess a b = true ∨ a = b ∨ Op.bytesLess b a = true
  | [], [] => .inr (.inl rfl)
  | [], _ :: _ => .inl rfl
  | _ :: _, [] => .inr (.inr rfl)
  | x :: a, y :: b => by
    simp only [Op.bytesLess, Bool.or_eq_true, Bool.and_eq_true, decide_eq_true_eq, beq_iff_eq, List.cons.injEq]
    by_cases h1 : x < y
    · exact .inl (.inl h1)
    · by_cases h2 : y < x
      · exact .inr (.inr (.inl h2))
      · have : x = y := UInt8.le_antisymm (UInt8.not_lt.1 h2) (UInt8.not_lt.1 h1)
        subst this
        rcases less_tri a b with h | h | h
        · exact .inl (.inr ⟨rfl, h⟩)
        · exact .inr (.inl ⟨rfl, h⟩)
        · exact .inr (.inr (.inr ⟨rfl, h⟩))
theorem less_anti {a b : Str} (h : Op.bytesLess a b = true) : Op.bytesLess b a = false := by
  cases hb : Op.bytesLess b a with
  | false => rfl
  | true => have := less_trans h hb; rw [less_irr] at this; cases this
def Rise (ks : List Str) : Prop := ks.Pairwise fun a b => Op.bytesLess a b = true
theorem keysOk_rise : ∀ {ks : List Str}, keysOk ks = true → Rise ks
  | [], _ => List.Pairwise.nil
  | [a], _ => List.pairwise_singleton _ _
  | a :: b :: r, h => by
    simp only [keysOk, Bool.and_eq_true] at h
    have ih := keysOk_rise (ks := b :: r) h.2
    refine List.Pairwise.cons (fun c hc => ?_) ih
    rcases List.mem_cons.1 hc with rfl | hc
    · exact h.1.2
    · exact less_trans h.1.2 ((List.pairwise_cons.1 ih).1 c hc)
theorem keysOk_len {ks : List Str} (h : keysOk ks = true) : ∀ k ∈ ks, k.length ≤ 16384 := by
  induction ks with
  | nil => intro k hk; cases hk
  | cons a r ih =>
    intro k hk
    cases r with
    | nil =>
      simp only [keysOk, decide_eq_true_eq] at h
      rw [List.mem_singleton.1 hk]; exact h
    | cons b r =>
      simp only [keysOk, Bool.and_eq_true, decide_eq_true_eq] at h
      rcases List.mem_cons.1 hk with rfl | hk
      · exact h.1.1
      · exact ih h.2 k hk
theorem rise_lt {ks : List Str} (h : Rise ks) {i j : Nat} {a b : Str} (ha : ks[i]? = some a) (hb : ks[j]? = some b) (hij : i < j) : Op.bytesLess a b = true := by
  obtain ⟨h1, e1⟩ := List.getElem?_eq_some_iff.1 ha
  obtain ⟨h2, e2⟩ := List.getElem?_eq_some_iff.1 hb
  have := List.pairwise_iff_getElem.1 h i j h1 h2 hij
  rw [e1, e2] at this
  exact this
end Go.Eng
namespace Go.Proofs.YtdkikjcpgihjlaaGreatDoor
open Go Go.Eng Go.Num
set_option maxRecDepth 100000
section
variable [HX]
theorem clone_p (v : JV) : ∀ {cs : List Value} {w : World} {K : Value → World → Prop}, fewM v = true → VRep w v cs → (∀ cs' w', Ext w w' → VRepP (From w.heap.size) w' v cs' → K (.agg cs'.toArray) w') → callF Tryz.prog 90 [.agg cs.toArray] w K := by
  induction v using JV.ind' with
  | h v ih =>
    intro cs w K hfew h hK
    rw [fewM_eq, fewL_all] at hfew
    simp only [Bool.and_eq_true, decide_eq_true_eq, List.all_eq_true] at hfew
    obtain ⟨⟨f1, f2⟩, f3⟩ := hfew
    refine W90_ok ?_
    unfold W90
    refine box_val h fun a w1 sv kv hB hx ha => ?_
    refine alloc_new fun b w2 hb hz2 hbb hx2 => ?_
    have hxd : Ext w2 w2.drew := Chg.drew (Chg.refl (fun _ => False) w2)
    have hB2 := hB.ext hx2
    have hBd := hB2.ext hxd
    have hbd := hxd.at hbb id
    have sd : w2.drew.heap.size = w2.heap.size := rfl
    simp only [wsv, wsg, wsh, wsl, cond_true, cond_false, exists_eq_left', Option.some.injEq, Option.isSome_some, List.getElem?_toArray, List.getElem?_cons_zero, List.getElem?_cons_succ, List.length_cons, List.length_nil, List.set_cons_zero, List.set_cons_succ, List.getD_cons_zero, List.getD_cons_succ, Nat.zero_add, Nat.add_zero, Nat.reduceAdd, Nat.reduceLT, Nat.lt_add_one, Nat.zero_lt_succ, decide_true, decide_false, ne_eq, reduceCtorEq, wsh, hB2.hb]
    obtain ⟨T1, k1⟩ := hBd.keys
    refine clone_s k1 (by omega) fun kv' w3 hx3 hk3 hg3 => ?_
    have hB3 := hBd.ext hx3
    have hb3 := hx3.at hbd id
    have s3 := hx3.size
    simp only [wsv, wsg, wsh, wsl, cond_true, cond_false, exists_eq_left', Option.some.injEq, Option.isSome_some, List.getElem?_toArray, List.getElem?_cons_zero, List.getElem?_cons_succ, List.length_cons, List.length_nil, List.set_cons_zero, List.set_cons_succ, List.getD_cons_zero, List.getD_cons_succ, Nat.zero_add, Nat.add_zero, Nat.reduceAdd, Nat.reduceLT, Nat.lt_add_one, Nat.zero_lt_succ, decide_true, decide_false, ne_eq, reduceCtorEq, wsh, hB3.hb]
    refine clones_p (fun x hx => ih x hx (f3 x hx)) hB3.itemsAt (by omega) fun sv' w4 hx4 hL hg4 => ?_
    obtain ⟨L, hL1, hL2⟩ := hL
    have hB4 := hB3.ext hx4
    have hb4 := hx4.at hb3 id
    have s1 := hx.size
    have hak := at_lt hB.hb
    have one1 : one1 sv' = true ∧ one1 kv' = true := by
      obtain ⟨p, c, rfl, _⟩ := hL1.shape
      obtain ⟨p', c', rfl, _⟩ := hk3.shape
      exact ⟨rfl, rfl⟩
    refine st_at hB4.hb one1.2 (by simp) fun w5 hz5 ha5 hc5 => ?_
    have ha5 : w5.heap[a]? = some (.cells [i64 v.k, .bool v.b, str v.t, sv, kv'].toArray VT (0, 0)) := by rw [ha5]; simp
    refine st_at ha5 one1.1 (by simp) fun w6 hz6 ha6 hc6 => ?_
    have ha6 : w6.heap[a]? = some (.cells [i64 v.k, .bool v.b, str v.t, sv', kv'].toArray VT (0, 0)) := by rw [ha6]; simp
    refine ld_all ha6 rfl ?_
    have hb6 := hc6.at (hc5.at hb4 (by omega)) (by omega)
    refine ret_agg hb6 rfl rfl (obj_one one1.1 one1.2) fun w7 hc7 => ?_
    have hx1 : Ext w w4 := hx.trans (hx2.trans (hxd.trans (hx3.trans hx4)))
    have hx5 : Ext w w7 := ((hx1.new hc5 (by omega)).new hc6 (by omega)).new hc7 (by omega)
    have hch : Chg (fun k => k = a ∨ k = b) w4 w7 := ((hc5.mono fun k _ e => .inl e).trans (hc6.mono fun k _ e => .inl e)).trans (hc7.mono fun k _ e => .inr e)
    refine hK _ w7 hx5 (VRepP.mk (T1 := VT) (T2 := ST) (L := L) ?_ ?_ ?_ hB.fits (fun _ k hk => ?_) (fun _ k hk => ?_))
    · exact slat_chgG hL1 (fun _ => hg4) hch fun k hk _ e => by have : w3.heap.size ≤ k := hk; omega
    · refine VRepsP.mono (fun k _ hk => ?_) (VRepsP.chg (G := From w3.heap.size) hch (fun k hk _ e => by have : w3.heap.size ≤ k := hk; omega) hL2)
      have : w3.heap.size ≤ k := hk
      show w.heap.size ≤ k
      omega
    · exact slat_chgG (hk3.ext hx4) (fun _ => hg3) hch fun k hk _ e => by have : w2.drew.heap.size ≤ k := hk; omega
    · have : w3.heap.size ≤ k := hg4 k hk
      show w.heap.size ≤ k
      omega
    · have : w2.drew.heap.size ≤ k := hg3 k hk
      show w.heap.size ≤ k
      omega
theorem search_p {kv : Value} {T : TypeId} {ks : List Str} {k : Str} {w : World} {K : Value → World → Prop} (h : SlAt w T kv ks.length (ks.map str)) (hl : ks.length ≤ 100000) (hr : Rise ks)
    (hK : ∀ i : Nat, (idxK ks k = none ∨ idxK ks k = some i) → (∀ j a, j < i → ks[j]? = some a → Op.bytesLess a k = true) → (∀ j a, i ≤ j → ks[j]? = some a → Op.bytesLess a k = false) → i ≤ ks.length → K (.tuple #[i64 (i : Nat), .bool (idxK ks k).isSome]) w) :
    callF Tryz.prog 133 [kv, str k] w K := by
  refine W133_ok ?_
  unfold W133
  rw [lenl_at h]
  refine ⟨fun s w' => ∃ lo hi : Nat, lo ≤ hi ∧ hi ≤ ks.length ∧ s = [i64 (lo : Nat), i64 (hi : Nat)] ∧ w' = w ∧ (∀ j a, j < lo → ks[j]? = some a → Op.bytesLess a k = true) ∧ (∀ j a, hi ≤ j → ks[j]? = some a → Op.bytesLess a k = false),
    fun s _ => match s with | [.int _ lo, .int _ hi] => hi.toNat - lo.toNat | _ => 0, ⟨0, ks.length, by omega, by omega, rfl, rfl, fun j a h => by omega, fun j a hj ha => by have := (List.getElem?_eq_some_iff.1 ha).1; omega⟩, ?_⟩
  rintro s g w2 ⟨lo, hi, hle, hhi, rfl, rfl, h1, h2⟩
  rcases Nat.lt_or_ge lo hi with hlt | hge
  · have hltI : (lo : Int) < (hi : Int) := by omega
    have e1 : IntKind.i64.wrap ((lo : Int) + (hi : Int)) = ((lo + hi : Nat) : Int) := by rw [wrap_id (by omega) (by omega)]; omega
    have e2 : IntKind.u64.wrap ((lo + hi : Nat) : Int) = ((lo + hi : Nat) : Int) := u64_wrap (by omega) (by omega)
    have e3 : (((lo + hi : Nat) : Int).fdiv (2 ^ min (1 : Int).toNat IntKind.u64.bits)) = (((lo + hi) / 2 : Nat) : Int) := by
      have : (2 : Int) ^ min (1 : Int).toNat IntKind.u64.bits = 2 := by decide
      rw [this, Int.fdiv_eq_ediv_of_nonneg _ (by omega)]; omega
    have e4 : IntKind.i64.wrap (((lo + hi) / 2 : Nat) : Int) = (((lo + hi) / 2 : Nat) : Int) := wrap_id (by omega) (by omega)
    generalize hm : (lo + hi) / 2 = m at *
    obtain ⟨u, hu⟩ : ∃ u, ks[m]? = some u := ⟨_, List.getElem?_eq_getElem (by omega)⟩
    have h01 : (0 : Int) ≤ 1 := by decide
    simp only [wsv, wsg, wsh, wsl, cond_true, cond_false, exists_eq_left', Option.some.injEq, Option.isSome_some, List.getElem?_toArray, List.getElem?_cons_zero, List.getElem?_cons_succ, List.length_cons, List.length_nil, List.set_cons_zero, List.set_cons_succ, List.getD_cons_zero, List.getD_cons_succ, Nat.zero_add, Nat.add_zero, Nat.reduceAdd, Nat.reduceLT, Nat.lt_add_one, Nat.zero_lt_succ, decide_true, decide_false, ne_eq, reduceCtorEq, hltI, e1, e2, bin_shr, h01, e3, e4]
    refine text_ld h hu ?_
    refine cmp_less ?_
    rw [condW_b]
    refine ⟨fun hl => ?_, fun hn => ?_⟩
    · rw [up1 (by omega)]
      refine ⟨⟨m + 1, hi, by omega, hhi, rfl, rfl, fun j a hj ha => ?_, h2⟩, by simp only [Int.toNat_natCast]; omega⟩
      rcases Nat.lt_or_ge j m with hj2 | hj2
      · exact less_trans (rise_lt hr ha hu hj2) hl
      · obtain rfl : j = m := by omega
        rw [hu] at ha; cases ha; exact hl
    · refine ⟨⟨lo, m, by omega, by omega, rfl, rfl, h1, fun j a hj ha => ?_⟩, by simp only [Int.toNat_natCast]; omega⟩
      rcases Nat.lt_or_ge m j with hj2 | hj2
      · cases hb : Op.bytesLess a k with
        | false => rfl
        | true => have := less_trans (rise_lt hr hu ha hj2) hb; rw [hn] at this; cases this
      · obtain rfl : j = m := by omega
        rw [hu] at ha; cases ha; exact hn
  · obtain rfl : lo = hi := by omega
    have hi0 : idxK ks k = none ∨ idxK ks k = some lo := by
      cases hx : idxK ks k with
      | none => exact .inl rfl
      | some j =>
        right
        have hj := idxK_spec hx
        rcases Nat.lt_trichotomy j lo with h | h | h
        · have := h1 j k h hj; rw [less_irr] at this; cases this
        · rw [h]
        · obtain ⟨u, hu⟩ : ∃ u, ks[lo]? = some u := ⟨_, List.getElem?_eq_getElem (by have := (List.getElem?_eq_some_iff.1 hj).1; omega)⟩
          have a1 := h2 lo u (Nat.le_refl _) hu
          have a2 := rise_lt hr hu hj h
          rw [a1] at a2; cases a2
    have hK := hK lo hi0 h1 h2 hhi
    simp only [wsv, wsg, wsh, wsl, cond_true, cond_false, exists_eq_left', Option.some.injEq, Option.isSome_some, List.getElem?_toArray, List.getElem?_cons_zero, List.getElem?_cons_succ, List.length_cons, List.length_nil, List.set_cons_zero, List.set_cons_succ, List.getD_cons_zero, List.getD_cons_succ, Nat.zero_add, Nat.add_zero, Nat.reduceAdd, Nat.reduceLT, Nat.lt_add_one, Nat.zero_lt_succ, decide_true, decide_false, ne_eq, reduceCtorEq, Int.lt_irrefl]
    rcases Nat.lt_or_ge lo ks.length with hlt | hge2
    · obtain ⟨u, hu⟩ : ∃ u, ks[lo]? = some u := ⟨_, List.getElem?_eq_getElem hlt⟩
      have ed : decide ((lo : Int) < (ks.length : Int)) = true := decide_eq_true (by omega)
      have hsome : (idxK ks k).isSome = decide (u = k) := by
        by_cases e : u = k
        · subst e
          have hm : u ∈ ks := List.mem_of_getElem? hu
          rw [decide_eq_true rfl]
          cases hx : idxK ks u with
          | none => exact absurd hm (idxK_none.1 hx)
          | some _ => rfl
        · rw [decide_eq_false e]
          rcases hi0 with h | h
          · rw [h]; rfl
          · have := idxK_spec h; rw [hu] at this; exact absurd (Option.some.inj this) e
      rw [hsome] at hK
      simp only [wsv, wsg, wsh, wsl, cond_true, cond_false, exists_eq_left', Option.some.injEq, Option.isSome_some, List.getElem?_toArray, List.getElem?_cons_zero, List.getElem?_cons_succ, List.length_cons, List.length_nil, List.set_cons_zero, List.set_cons_succ, List.getD_cons_zero, List.getD_cons_succ, Nat.zero_add, Nat.add_zero, Nat.reduceAdd, Nat.reduceLT, Nat.lt_add_one, Nat.zero_lt_succ, decide_true, decide_false, ne_eq, reduceCtorEq, ed]
      refine GdW.t ?_
      refine text_ld h hu ?_
      intro gg
      simp only [ofL_data]
      simp only [wsv, wsg, wsh, wsl, cond_true, cond_false, exists_eq_left', Option.some.injEq, Option.isSome_some, List.getElem?_toArray, List.getElem?_cons_zero, List.getElem?_cons_succ, List.length_cons, List.length_nil, List.set_cons_zero, List.set_cons_succ, List.getD_cons_zero, List.getD_cons_succ, Nat.zero_add, Nat.add_zero, Nat.reduceAdd, Nat.reduceLT, Nat.lt_add_one, Nat.zero_lt_succ, decide_true, decide_false, ne_eq, reduceCtorEq]
      by_cases e : u = k
      · rw [decide_eq_true e] at hK ⊢
        (try simp only [wsv, wsg, wsh, wsl, cond_true, cond_false, exists_eq_left', Option.some.injEq, Option.isSome_some, List.getElem?_toArray, List.getElem?_cons_zero, List.getElem?_cons_succ, List.length_cons, List.length_nil, List.set_cons_zero, List.set_cons_succ, List.getD_cons_zero, List.getD_cons_succ, Nat.zero_add, Nat.add_zero, Nat.reduceAdd, Nat.reduceLT, Nat.lt_add_one, Nat.zero_lt_succ, decide_true, decide_false, ne_eq, reduceCtorEq])
        intros
        exact hK
      · rw [decide_eq_false e] at hK ⊢
        (try simp only [wsv, wsg, wsh, wsl, cond_true, cond_false, exists_eq_left', Option.some.injEq, Option.isSome_some, List.getElem?_toArray, List.getElem?_cons_zero, List.getElem?_cons_succ, List.length_cons, List.length_nil, List.set_cons_zero, List.set_cons_succ, List.getD_cons_zero, List.getD_cons_succ, Nat.zero_add, Nat.add_zero, Nat.reduceAdd, Nat.reduceLT, Nat.lt_add_one, Nat.zero_lt_succ, decide_true, decide_false, ne_eq, reduceCtorEq])
        refine GdW.t ?_
        refine text_ld h hu ?_
        refine isnan_s2 ?_
        intro gg
        (try simp only [wsv, wsg, wsh, wsl, cond_true, cond_false, exists_eq_left', Option.some.injEq, Option.isSome_some, List.getElem?_toArray, List.getElem?_cons_zero, List.getElem?_cons_succ, List.length_cons, List.length_nil, List.set_cons_zero, List.set_cons_succ, List.getD_cons_zero, List.getD_cons_succ, Nat.zero_add, Nat.add_zero, Nat.reduceAdd, Nat.reduceLT, Nat.lt_add_one, Nat.zero_lt_succ, decide_true, decide_false, ne_eq, reduceCtorEq])
        intros
        exact hK
    · have hsome : idxK ks k = none := by
        rcases hi0 with h | h
        · exact h
        · have := (List.getElem?_eq_some_iff.1 (idxK_spec h)).1; omega
      rw [hsome] at hK
      have ed : decide ((lo : Int) < (ks.length : Int)) = false := decide_eq_false (by omega)
      simp only [wsv, wsg, wsh, wsl, cond_true, cond_false, exists_eq_left', Option.some.injEq, Option.isSome_some, List.getElem?_toArray, List.getElem?_cons_zero, List.getElem?_cons_succ, List.length_cons, List.length_nil, List.set_cons_zero, List.set_cons_succ, List.getD_cons_zero, List.getD_cons_succ, Nat.zero_add, Nat.add_zero, Nat.reduceAdd, Nat.reduceLT, Nat.lt_add_one, Nat.zero_lt_succ, decide_true, decide_false, ne_eq, reduceCtorEq, ed]
      intros
      exact hK
end
end Go.Proofs.YtdkikjcpgihjlaaGreatDoor

namespace Go.Proofs.YtdkikjcpgihjlaaGreatDoor
open Go Go.Eng Go.Num
set_option maxRecDepth 100000
mutual
def fewW : JV → Bool
  | .mk _ _ _ xs ks => decide (xs.length ≤ 1000000) && decide (ks.length ≤ 1000000) && fewWL xs
def fewWL : List JV → Bool
  | [] => true
  | x :: xs => fewW x && fewWL xs
end
theorem fewW_eq (v : JV) : fewW v = (decide (v.xs.length ≤ 1000000) && decide (v.ks.length ≤ 1000000) && fewWL v.xs) := by cases v; rfl
theorem fewWL_all (xs : List JV) : fewWL xs = xs.all fewW := by
  induction xs with
  | nil => rfl
  | cons x xs ih => simp [fewWL, ih]
theorem few_w (v : JV) : fewM v = true → fewW v = true := by
  induction v using JV.ind' with
  | h v ih =>
    intro h
    rw [fewM_eq, fewL_all] at h
    rw [fewW_eq, fewWL_all]
    simp only [Bool.and_eq_true, decide_eq_true_eq, List.all_eq_true] at h ⊢
    exact ⟨⟨by omega, by omega⟩, fun x hx => ih x hx (h.2 x hx)⟩
section
variable [HX]
theorem clone_w (v : JV) : ∀ {cs : List Value} {w : World} {K : Value → World → Prop}, fewW v = true → VRep w v cs → (∀ cs' w', Ext w w' → VRepP (From w.heap.size) w' v cs' → K (.agg cs'.toArray) w') → callF Tryz.prog 90 [.agg cs.toArray] w K := by
  induction v using JV.ind' with
  | h v ih =>
    intro cs w K hfew h hK
    rw [fewW_eq, fewWL_all] at hfew
    simp only [Bool.and_eq_true, decide_eq_true_eq, List.all_eq_true] at hfew
    obtain ⟨⟨f1, f2⟩, f3⟩ := hfew
    refine W90_ok ?_
    unfold W90
    refine box_val h fun a w1 sv kv hB hx ha => ?_
    refine alloc_new fun b w2 hb hz2 hbb hx2 => ?_
    have hxd : Ext w2 w2.drew := Chg.drew (Chg.refl (fun _ => False) w2)
    have hB2 := hB.ext hx2
    have hBd := hB2.ext hxd
    have hbd := hxd.at hbb id
    have sd : w2.drew.heap.size = w2.heap.size := rfl
    simp only [wsv, wsg, wsh, wsl, cond_true, cond_false, exists_eq_left', Option.some.injEq, Option.isSome_some, List.getElem?_toArray, List.getElem?_cons_zero, List.getElem?_cons_succ, List.length_cons, List.length_nil, List.set_cons_zero, List.set_cons_succ, List.getD_cons_zero, List.getD_cons_succ, Nat.zero_add, Nat.add_zero, Nat.reduceAdd, Nat.reduceLT, Nat.lt_add_one, Nat.zero_lt_succ, decide_true, decide_false, ne_eq, reduceCtorEq, wsh, hB2.hb]
    obtain ⟨T1, k1⟩ := hBd.keys
    refine clone_s k1 (by omega) fun kv' w3 hx3 hk3 hg3 => ?_
    have hB3 := hBd.ext hx3
    have hb3 := hx3.at hbd id
    have s3 := hx3.size
    simp only [wsv, wsg, wsh, wsl, cond_true, cond_false, exists_eq_left', Option.some.injEq, Option.isSome_some, List.getElem?_toArray, List.getElem?_cons_zero, List.getElem?_cons_succ, List.length_cons, List.length_nil, List.set_cons_zero, List.set_cons_succ, List.getD_cons_zero, List.getD_cons_succ, Nat.zero_add, Nat.add_zero, Nat.reduceAdd, Nat.reduceLT, Nat.lt_add_one, Nat.zero_lt_succ, decide_true, decide_false, ne_eq, reduceCtorEq, wsh, hB3.hb]
    refine clones_p (fun x hx => ih x hx (f3 x hx)) hB3.itemsAt (by omega) fun sv' w4 hx4 hL hg4 => ?_
    obtain ⟨L, hL1, hL2⟩ := hL
    have hB4 := hB3.ext hx4
    have hb4 := hx4.at hb3 id
    have s1 := hx.size
    have hak := at_lt hB.hb
    have one1 : one1 sv' = true ∧ one1 kv' = true := by
      obtain ⟨p, c, rfl, _⟩ := hL1.shape
      obtain ⟨p', c', rfl, _⟩ := hk3.shape
      exact ⟨rfl, rfl⟩
    refine st_at hB4.hb one1.2 (by simp) fun w5 hz5 ha5 hc5 => ?_
    have ha5 : w5.heap[a]? = some (.cells [i64 v.k, .bool v.b, str v.t, sv, kv'].toArray VT (0, 0)) := by rw [ha5]; simp
    refine st_at ha5 one1.1 (by simp) fun w6 hz6 ha6 hc6 => ?_
    have ha6 : w6.heap[a]? = some (.cells [i64 v.k, .bool v.b, str v.t, sv', kv'].toArray VT (0, 0)) := by rw [ha6]; simp
    refine ld_all ha6 rfl ?_
    have hb6 := hc6.at (hc5.at hb4 (by omega)) (by omega)
    refine ret_agg hb6 rfl rfl (obj_one one1.1 one1.2) fun w7 hc7 => ?_
    have hx1 : Ext w w4 := hx.trans (hx2.trans (hxd.trans (hx3.trans hx4)))
    have hx5 : Ext w w7 := ((hx1.new hc5 (by omega)).new hc6 (by omega)).new hc7 (by omega)
    have hch : Chg (fun k => k = a ∨ k = b) w4 w7 := ((hc5.mono fun k _ e => .inl e).trans (hc6.mono fun k _ e => .inl e)).trans (hc7.mono fun k _ e => .inr e)
    refine hK _ w7 hx5 (VRepP.mk (T1 := VT) (T2 := ST) (L := L) ?_ ?_ ?_ hB.fits (fun _ k hk => ?_) (fun _ k hk => ?_))
    · exact slat_chgG hL1 (fun _ => hg4) hch fun k hk _ e => by have : w3.heap.size ≤ k := hk; omega
    · refine VRepsP.mono (fun k _ hk => ?_) (VRepsP.chg (G := From w3.heap.size) hch (fun k hk _ e => by have : w3.heap.size ≤ k := hk; omega) hL2)
      have : w3.heap.size ≤ k := hk
      show w.heap.size ≤ k
      omega
    · exact slat_chgG (hk3.ext hx4) (fun _ => hg3) hch fun k hk _ e => by have : w2.drew.heap.size ≤ k := hk; omega
    · have : w3.heap.size ≤ k := hg4 k hk
      show w.heap.size ≤ k
      omega
    · have : w2.drew.heap.size ≤ k := hg3 k hk
      show w.heap.size ≤ k
      omega
end
end Go.Proofs.YtdkikjcpgihjlaaGreatDoor
namespace Go.Eng
open Go
theorem set_cells {b : Nat} {T : TypeId} : ∀ (vs : List Value) (o : Nat) (w : World) (cs : List Value), w.heap[b]? = some (.cells cs.toArray T (0, 0)) → o + vs.length ≤ cs.length →
    (w.setCells b o vs).heap[b]? = some (.cells (cs.take o ++ vs ++ cs.drop (o + vs.length)).toArray T (0, 0)) ∧ Chg (fun k => k = b) w (w.setCells b o vs) ∧ (w.setCells b o vs).heap.size = w.heap.size
  | [], o, w, cs, h, _ => by
    refine ⟨?_, Chg.refl _ _, rfl⟩
    simp only [World.setCells, List.length_nil, Nat.add_zero, List.append_nil, List.take_append_drop]
    exact h
  | v :: r, o, w, cs, h, hl => by
    rw [List.length_cons] at hl
    have hb : (w.setCell ⟨b, o, none⟩ v).heap[b]? = some (.cells (cs.set o v).toArray T (0, 0)) := by
      rw [heap_set_same, h, setO_some]; simp
    obtain ⟨h1, h2, h3⟩ := set_cells r (o + 1) (w.setCell ⟨b, o, none⟩ v) (cs.set o v) hb (by rw [List.length_set]; omega)
    have hc : Chg (fun k => k = b) w (w.setCell ⟨b, o, none⟩ v) := Chg.set (S := fun k => k = b) (Chg.refl _ _) (.inl rfl) _
    simp only [World.setCells]
    refine ⟨?_, hc.trans h2, by rw [h3]; simp⟩
    rw [h1]
    have e : (cs.set o v).take (o + 1) ++ r ++ (cs.set o v).drop (o + 1 + r.length) = cs.take o ++ v :: r ++ cs.drop (o + (v :: r).length) := by
      rw [List.take_add_one, List.getElem?_set_self (by omega), List.take_set_of_le (by omega), List.drop_set_of_lt (by omega), List.length_cons]
      simp
      congr 1; omega
    rw [e]
theorem run_copy_any {P : Program} (w : World) (dT sT ty elem : TypeId) (b o dLen dCap : Nat) (a : Addr) (sLen sCap : Nat) (cs : List Value) {i : TypeInfo}
    (hu : P.underlying dT = some (.slice elem)) (hq : P.info? elem = some i) (hn : cs.length = Nat.min sLen dLen * i.size)
    (hsrc : ∀ j v, cs[j]? = some v → w.cell? (a.add j) = some v) (hc : ∀ j, j < cs.length → (w.cell? ⟨b, o + j, none⟩).isSome = true) (hf : ∀ j, j < cs.length → w.frozen? ⟨b, o + j, none⟩ = false) (h1 : ∀ v ∈ cs, v.oneCell' = true) :
    (Builtin.copy_ #[dT, sT] ty #[.slice (some ⟨b, o, none⟩) dLen dCap, .slice (some a) sLen sCap]).run P w = .ok (goInt (Nat.min sLen dLen)) (w.setCells b o cs) := by
  have hl := run_loadCells_list (P := P) w a cs hsrc
  have hst := run_storeCells_cells (P := P) b o cs 0 w (by simpa using hc) (by simpa using hf) h1
  simp [Builtin.copy_, run_underlying' hu, Builtin.lenOf, Builtin.firstCells, sizeOf, typeInfo, hq, ← hn, hl, hst, run_bind, run_pure]
theorem copy_q {P : Program} {dT sT ty e : TypeId} {size bytes : Nat} (hT : ElemT P dT e size bytes) {w : World} {b o dl dc sl sc : Nat} {a : Addr} {vs cs : List Value} {T : TypeId} {K : Value → World → Prop}
    (hb : w.heap[b]? = some (.cells cs.toArray T (0, 0))) (hn : vs.length = Nat.min sl dl * size) (hsrc : ∀ j v, vs[j]? = some v → w.cell? (a.add j) = some v) (hfit : o + vs.length ≤ cs.length) (h1 : ∀ v ∈ vs, one1 v = true)
    (hK : ∀ r w', w'.heap[b]? = some (.cells (cs.take o ++ vs ++ cs.drop (o + vs.length)).toArray T (0, 0)) → Chg (fun k => k = b) w w' → w'.heap.size = w.heap.size → K r w') :
    semE P (Builtin.copy_ #[dT, sT] ty #[.slice (some ⟨b, o, none⟩) dl dc, .slice (some a) sl sc]) w K := by
  obtain ⟨i, z, hi, _, hs, _, _⟩ := hT.get
  unfold semE
  rw [run_copy_any w dT sT ty e b o dl dc a sl sc vs hT.und hi (by rw [hs]; exact hn) hsrc (fun j hj => by
      rw [cell_eq, hb, cellO_some]
      simp
      omega) (fun j hj => by rw [frozen_eq, hb, frO_zero]) fun v hv => one1_oneCell' (h1 v hv)]
  obtain ⟨q1, q2, q3⟩ := set_cells vs o w cs hb hfit
  exact hK _ _ q1 q2 q3
section
variable [HX]
def InsW (P : Program) (s : Nat) (t it : TypeId) (ov rep : FuncId) (v0 v1 v2 : Value) (w : World) (K : Value → World → Prop) : Prop :=
  sllW s v0 (some v1) none none fun _ =>
  lenlW v2 fun t14 =>
  binW .eql t14 (.int .i64 0) fun t16 =>
  condW t16 (
    K v0 w) (
    lenlW v0 fun t19 =>
    binW .eql v1 t19 fun t22 =>
    condW t22 (
      semE P (Builtin.append_ #[t, t] t #[v0, v2]) w fun t25 w1 =>
      K t25 w1) (
      binW .add t19 t14 fun t28 =>
      capW v0 fun t30 =>
      binW .gtr t28 t30 fun t31 =>
      condW t31 (
        sllW s v0 none (some v1) none fun t34 =>
        binW .add t19 t14 fun t37 =>
        binW .sub t37 v1 fun t39 =>
        semE P (Builtin.append_ #[t, it] t #[t34, t39]) w fun t40 w2 =>
        sllW s t40 (some v1) none none fun t43 =>
        semE P (Builtin.copy_ #[t, t] it #[t43, v2]) w2 fun _ w3 =>
        binW .add v1 t14 fun t49 =>
        sllW s t40 (some t49) none none fun t50 =>
        sllW s v0 (some v1) none none fun t53 =>
        semE P (Builtin.copy_ #[t, t] it #[t50, t53]) w3.drew fun _ w4 =>
        K t40 w4) (
        binW .add t19 t14 fun t59 =>
        sllW s v0 none (some t59) none fun t60 =>
        binW .add v1 t14 fun t65 =>
        sllW s t60 (some t65) none none fun t66 =>
        callF P ov [v2, t66] w fun t67 w5 =>
        unW .not t67 fun t68 =>
        condW t68 (
          binW .add v1 t14 fun t72 =>
          sllW s t60 (some t72) none none fun t73 =>
          sllW s t60 (some v1) none none fun t76 =>
          semE P (Builtin.copy_ #[t, t] it #[t73, t76]) w5.drew fun _ w6 =>
          sllW s t60 (some v1) none none fun t80 =>
          semE P (Builtin.copy_ #[t, t] it #[t80, v2]) w6 fun _ w7 =>
          K t60 w7) (
          sllW s t60 (some t19) none none fun t86 =>
          semE P (Builtin.copy_ #[t, t] it #[t86, v2]) w5 fun _ w8 =>
          sllW s t60 (some v1) none none fun t91 =>
          callF P rep [t91, t14] w8 fun _ w9 =>
          K t60 w9))))
theorem sll_lo {s g o n cap i : Nat} {K : Value → Prop} (hi : i ≤ n) (hn : n ≤ cap) (hne : cap ≠ i) : sllW s (.slice (some ⟨g, o, none⟩) n cap) (some (i64 (i : Nat))) none none K ↔ K (.slice (some ⟨g, o + i * s, none⟩) (n - i) (cap - i)) := by
  rw [sll_sl, bd_none, bd_none, bd_some]
  simp only [Int.toNat_natCast, if_neg hne, Option.map_some, add_mk]
  constructor
  · rintro ⟨_, _, h⟩; exact h
  · intro h; exact ⟨by omega, by omega, h⟩
theorem sll_hi {s g n cap i : Nat} {K : Value → Prop} (hi : i ≤ cap) (h0 : 0 < cap) : sllW s (.slice (some ⟨g, 0, none⟩) n cap) none (some (i64 (i : Nat))) none K ↔ K (.slice (some ⟨g, 0, none⟩) i cap) := by
  rw [sll_sl, bd_none, bd_some, bd_none]
  simp only [Int.toNat_natCast, if_neg (show ¬ cap = 0 by omega), Option.map_some, add_mk, Nat.zero_mul, Nat.add_zero, Nat.sub_zero]
  constructor
  · rintro ⟨_, _, h⟩; exact h
  · intro h; exact ⟨by omega, by omega, h⟩
theorem insert_q {P : Program} {t it ov rep e T2 : TypeId} {size bytes : Nat} (hT : ElemT P t e size bytes) (hit : P.underlying it = some (.int .i64))
    (hov : ∀ {w : World} {a b oa ob la ca lb cb : Nat} {x y : List Value} {T1 T2 : TypeId} {K : Value → World → Prop}, a ≠ b → w.heap[a]? = some (.cells x.toArray T1 (0, 0)) → w.heap[b]? = some (.cells y.toArray T2 (0, 0)) → y ≠ [] → K (.bool false) w → callF P ov [.slice (some ⟨a, oa, none⟩) la ca, .slice (some ⟨b, ob, none⟩) lb cb] w K)
    {w : World} {base tb n i : Nat} {v : Value} {xs c : List Value} {K : Value → World → Prop} (hown : Own w base e size v n xs) (ht : w.heap[tb]? = some (.cells c.toArray T2 (0, 0))) (hc : c.length = size) (h1 : ∀ u ∈ c, one1 u = true) (hx1 : ∀ u ∈ xs, one1 u = true)
    (hne : v.ownBlock ≠ some tb) (hi : i ≤ n) (hn : n ≤ 1000000) (hby : bytes ≤ 1000) (hbase : base ≤ w.heap.size)
    (hK : ∀ v' w', Own w' base e size v' (n + 1) (xs.take (i * size) ++ c ++ xs.drop (i * size)) → Chg (fun k => v.ownBlock = some k) w w' → (∀ k, v'.ownBlock = some k → v.ownBlock = some k ∨ w.heap.size ≤ k) → K v' w') :
    InsW P size t it ov rep v (i64 (i : Nat)) (.slice (some ⟨tb, 0, none⟩) 1 1) w K := by
  have hpos := hT.pos
  have hmb : (n + 1) * bytes ≤ 140737488355328 := by
    have := Nat.mul_le_mul (show n + 1 ≤ 1000001 by omega) hby
    omega
  have hsl : SlAt w T2 (.slice (some ⟨tb, 0, none⟩) 1 1) 1 c := ⟨_, _, rfl, Nat.le_refl _, fun e => (by cases e), fun _ => ⟨tb, 0, _, _, rfl, ht, fun j _ => by rw [Nat.zero_add]; simp⟩⟩
  have hl := hown.1
  have hlen : lenlW v = fun K => K (i64 (n : Nat)) := by
    funext K
    exact propext (lenl_at hown.sl K)
  unfold InsW
  -- the check of the bounds
  have chk : ∀ (B : Value → Prop), (∀ x, B x) → sllW size v (some (i64 (i : Nat))) none none B := fun B hB => by
    obtain ⟨p, cap, rfl, hcap, _⟩ := hown.sl
    rw [sll_sl, bd_none, bd_none, bd_some]
    exact ⟨by omega, by omega, hB _⟩
  refine chk _ fun _ => ?_
  rw [lenl_sl, bin_eql, decide_eq_false (by decide), condW_false, hlen]
  dsimp only
  rw [bin_eql, condW_dec]
  refine ⟨fun e1 => ?_, fun e1 => ?_⟩
  · obtain rfl : i = n := by omega
    refine append_own3 hT hown hsl (by omega) h1 (by omega) hmb hbase fun v' w' hO hch hblk => ?_
    refine hK v' w' ?_ hch hblk
    have e1 : xs.take (i * size) = xs := List.take_of_length_le (by omega)
    have e2 : xs.drop (i * size) = [] := List.drop_eq_nil_iff.2 (by omega)
    rw [e1, e2, List.append_nil]
    exact hO
  have hlt : i < n := by omega
  have hsz : i * size < n * size := Nat.mul_lt_mul_of_pos_right hlt hpos
  obtain ⟨_, ⟨_, h0⟩ | ⟨g, cap, cur, rfl, hg, hgb, hnc, hcm, hcs, htake⟩⟩ := hown
  · omega
  have en1 : IntKind.i64.wrap ((n : Int) + ((1 : Nat) : Int)) = ((n + 1 : Nat) : Int) := by rw [wrap_id (by omega) (by omega)]; omega
  have ei1 : IntKind.i64.wrap ((i : Int) + ((1 : Nat) : Int)) = ((i + 1 : Nat) : Int) := by rw [wrap_id (by omega) (by omega)]; omega
  have hgne : tb ≠ g := fun e => hne (by rw [e]; rfl)
  have hgb' : w.heap[g]? = some (.cells cur.toList.toArray e (0, 0)) := by rw [Array.toArray_toList]; exact hgb
  have hcl : cur.toList.length = cap * size := by rw [Array.length_toList]; exact hcs
  generalize cur.toList = L at *
  have hncap : n * size ≤ cap * size := Nat.mul_le_mul_right _ hnc
  have hisz : i * size + size ≤ n * size := by rw [← Nat.succ_mul]; exact Nat.mul_le_mul_right _ hlt
  -- the elements from the place on
  have hrest : (xs.drop (i * size)).length = (n - i) * size := by rw [List.length_drop, hl, Nat.sub_mul]
  have hsrc0 : ∀ j u, (xs.drop (i * size))[j]? = some u → L[i * size + j]? = some u := fun j u hj => by
    rw [List.getElem?_drop, ← htake, List.getElem?_take] at hj
    split at hj
    · exact hj
    · cases hj
  have hone : ∀ u ∈ xs.drop (i * size), one1 u = true := fun u hu => hx1 u (List.mem_of_mem_drop hu)
  rw [bin_add, en1]
  have hcap : ∀ K : Value → Prop, capW (.slice (some ⟨g, 0, none⟩) n cap) K ↔ K (i64 (cap : Nat)) := fun K => Iff.rfl
  rw [hcap, bin_gtr, condW_dec]
  refine ⟨fun hfull => ?_, fun hroom => ?_⟩
  · obtain rfl : cap = n := by omega
    rw [sll_hi (by omega) (by omega), bin_add, en1, bin_sub, wrap_id (by omega) (by omega)]
    have ek : ((cap + 1 : Nat) : Int) - (i : Int) = ((cap + 1 - i : Nat) : Int) := by omega
    rw [ek]
    obtain ⟨inf, z, hinf, hz, h2, h3, h4⟩ := hT.get
    have hold : (Builtin.firstCells inf.size i (.slice (some ⟨g, 0, none⟩) i cap)).run P w.drew = .ok (xs.take (i * size)).toArray w.drew := by
      rw [h2]
      have hlt2 : (xs.take (i * size)).length = i * size := by rw [List.length_take]; omega
      have := run_loadCells_list (P := P) w.drew ⟨g, 0, none⟩ (xs.take (i * size)) fun j u hj => by
        rw [add_mk, cell_eq, heap_drew, hgb', cellO_some]
        rw [List.getElem?_take] at hj
        split at hj
        · rw [← htake, List.getElem?_take] at hj
          split at hj
          · rw [Nat.zero_add]; simpa using hj
          · cases hj
        · cases hj
      rw [hlt2] at this
      simpa [Builtin.firstCells] using this
    have hr := Lib.run_append_grow_zeros (P := P) w t it t e inf z .i64 .i64 hT.und hit hinf hz (some ⟨g, 0, none⟩) i cap (xs.take (i * size)) hold (cap + 1 - i) (by omega) (by omega) (by omega) (by omega) (by rw [h3]; have := Nat.mul_le_mul (show cap + 1 - i ≤ 1000001 by omega) hby; omega) (growslice_fits (by omega) (by rw [h3, show i + (cap + 1 - i) = cap + 1 by omega]; exact hmb))
    have ei : i + (cap + 1 - i) = cap + 1 := by omega
    rw [ei] at hr
    unfold semE
    rw [hr]
    dsimp only
    have hgc : cap + 1 ≤ grownCap w (cap + 1) cap e := grownCap_ge w (cap + 1) cap e
    have hgm : grownCap w (cap + 1) cap e ≤ maxLen := grownCap_le_maxLen _ _ _ _ (by simp [maxLen]; omega)
    generalize hN : grownCap w (cap + 1) cap e = N at *
    -- the new block
    have hzl : ∀ k, (Builtin.zeroCells z.cells k).toList.length = k * size := fun k => by rw [Array.length_toList, size_zeroCells, h4]
    obtain ⟨Z, hZ, hZl⟩ : ∃ Z : List Value, (xs.take (i * size)).toArray ++ Builtin.zeroCells z.cells (cap + 1 - i) ++ Builtin.zeroCells z.cells (N - (cap + 1)) = (xs.take (i * size) ++ Z).toArray ∧ Z.length = (N - i) * size := by
      refine ⟨(Builtin.zeroCells z.cells (cap + 1 - i)).toList ++ (Builtin.zeroCells z.cells (N - (cap + 1))).toList, ?_, ?_⟩
      · apply Array.ext'
        simp
      · rw [List.length_append, hzl, hzl, ← Nat.add_mul]
        congr 1; omega
    rw [hZ]
    have hNi : (N - i) * size = size + (cap - i) * size + (N - (cap + 1)) * size := by
      rw [show N - i = 1 + (cap - i) + (N - (cap + 1)) by omega, Nat.add_mul, Nat.add_mul, Nat.one_mul]
    have hx0 : Ext w (w.drew.alloc (.cells (xs.take (i * size) ++ Z).toArray e)) := Chg.alloc (Chg.drew (Chg.refl _ _)) _
    have hb0 : (w.drew.alloc (.cells (xs.take (i * size) ++ Z).toArray e)).heap[w.heap.size]? = some (.cells (xs.take (i * size) ++ Z).toArray e (0, 0)) := heap_anew _ _ _ rfl
    have hz0 : (w.drew.alloc (.cells (xs.take (i * size) ++ Z).toArray e)).heap.size = w.heap.size + 1 := by simp
    generalize (w.drew.alloc (.cells (xs.take (i * size) ++ Z).toArray e)) = w2 at *
    have hlt1 : (xs.take (i * size)).length = i * size := by rw [List.length_take]; omega
    rw [sll_lo (by omega) hgc (by omega)]
    have htlt := at_lt ht
    have hglt := at_lt hgb'
    refine copy_q hT (vs := c) hb0 (by rw [hc, show Nat.min 1 (cap + 1 - i) = 1 by simp only [Nat.min_def]; split <;> omega, Nat.one_mul]) (fun j u hj => ?_) (by rw [List.length_append, hlt1, hZl, hc]; omega) h1 fun _ w3 hb3 hc3 hz3 => ?_
    · rw [add_mk, cell_eq, hx0.at ht id, cellO_some, Nat.zero_add]
      simpa using hj
    rw [bin_add, ei1, sll_lo (by omega) hgc (by omega), sll_lo (by omega) (Nat.le_refl _) (by omega)]
    have hb3' : w3.drew.heap[w.heap.size]? = some (.cells (xs.take (i * size) ++ c ++ Z.drop size).toArray e (0, 0)) := by
      have ez : List.take (0 + i * size) (List.take (i * size) xs ++ Z) ++ c ++ List.drop (0 + i * size + c.length) (List.take (i * size) xs ++ Z) = xs.take (i * size) ++ c ++ Z.drop size := by
        rw [Nat.zero_add, List.take_left' hlt1, ← List.drop_drop, List.drop_left' hlt1, hc]
      rw [heap_drew, hb3, ez]
    have hg3 : w3.drew.heap[g]? = some (.cells L.toArray e (0, 0)) := by
      rw [heap_drew]
      exact hc3.at (hx0.at hgb' id) (by omega)
    have hfl : (xs.take (i * size) ++ c ++ Z.drop size).length = N * size := by
      rw [List.length_append, List.length_append, hlt1, hc, List.length_drop, hZl, hNi, show N * size = (i + (N - i)) * size by congr 1; omega, Nat.add_mul, hNi]
      omega
    have hpre : (xs.take (i * size) ++ c).length = (i + 1) * size := by rw [List.length_append, hlt1, hc, Nat.add_mul, Nat.one_mul]
    have hNn : (cap + 1) * size ≤ N * size := Nat.mul_le_mul_right _ hgc
    have hsum : (i + 1) * size + (cap - i) * size = (cap + 1) * size := by rw [← Nat.add_mul]; congr 1; omega
    refine copy_q hT (vs := xs.drop (i * size)) hb3' (by rw [hrest, show Nat.min (cap - i) (cap + 1 - (i + 1)) = cap - i by simp only [Nat.min_def]; split <;> omega]) (fun j u hj => ?_) (by rw [hfl, hrest, Nat.zero_add]; omega) hone fun _ w4 hb4 hc4 hz4 => ?_
    · rw [add_mk, cell_eq, hg3, cellO_some, Nat.zero_add]
      simpa using hsrc0 j u hj
    have hx4 : Ext w w4 := (((hx0.new hc3 (Nat.le_refl _)).then (Chg.drew (Chg.refl (fun _ => False) w3)) fun _ _ e => e.elim)).new hc4 (Nat.le_refl _)
    refine hK _ w4 ⟨?_, .inr ⟨w.heap.size, N, _, rfl, hbase, hb4, hgc, hgm, ?_, ?_⟩⟩ (Chg.of_ext hx4) fun k hk => .inr ?_
    · rw [List.length_append, hpre, hrest, hsum]
    · rw [List.size_toArray, hrest, List.length_append, List.length_append, hrest, List.length_take, List.length_drop, hfl, Nat.zero_add]
      omega
    · rw [List.toList_toArray]
      rw [Nat.zero_add, List.take_left' hpre]
      refine List.take_left' ?_
      rw [List.length_append, hpre, hrest, hsum]
    · simp only [Value.ownBlock, Option.some.injEq] at hk
      omega
  · have hroom : n + 1 ≤ cap := by omega
    rw [bin_add, en1, sll_hi hroom (by omega), bin_add, ei1, sll_lo (by omega) hroom (by omega)]
    have hLne : L ≠ [] := fun e => by rw [e] at hcl; simp at hcl; have := Nat.mul_lt_mul_of_pos_right (show 0 < cap by omega) hpos; omega
    refine hov hgne ht hgb' hLne ?_
    rw [un_not, Bool.not_false, condW_true, bin_add, ei1, sll_lo (by omega) hroom (by omega), sll_lo (by omega) hroom (by omega)]
    have hncap1 : (n + 1) * size ≤ cap * size := Nat.mul_le_mul_right _ hroom
    have hsum : (i + 1) * size + (n - i) * size = (n + 1) * size := by rw [← Nat.add_mul]; congr 1; omega
    have hpre : (i + 1) * size = i * size + size := by rw [Nat.add_mul, Nat.one_mul]
    have hgd : w.drew.heap[g]? = some (.cells L.toArray e (0, 0)) := by rw [heap_drew]; exact hgb'
    refine copy_q hT (vs := xs.drop (i * size)) hgd (by rw [hrest, show Nat.min (n + 1 - i) (n + 1 - (i + 1)) = n - i by simp only [Nat.min_def]; split <;> omega]) (fun j u hj => ?_) (by rw [hcl, hrest, Nat.zero_add]; omega) hone fun _ w3 hb3 hc3 hz3 => ?_
    · rw [add_mk, cell_eq, hgd, cellO_some, Nat.zero_add]
      simpa using hsrc0 j u hj
    rw [sll_lo (by omega) hroom (by omega)]
    have htd : w.drew.heap[tb]? = some (.cells c.toArray T2 (0, 0)) := by rw [heap_drew]; exact ht
    have ht3 := hc3.at htd hgne
    have hlt1 : (L.take (i * size)).length = i * size := by rw [List.length_take, hcl]; omega
    have hlt2 : (L.take (0 + (i + 1) * size)).length = (i + 1) * size := by rw [List.length_take, hcl, Nat.zero_add]; omega
    have hfl : (L.take (0 + (i + 1) * size) ++ xs.drop (i * size) ++ L.drop (0 + (i + 1) * size + (xs.drop (i * size)).length)).length = cap * size := by
      rw [hrest, List.length_append, List.length_append, hlt2, hrest, List.length_drop, hcl, Nat.zero_add]
      omega
    refine copy_q hT (vs := c) hb3 (by rw [hc, show Nat.min 1 (n + 1 - i) = 1 by simp only [Nat.min_def]; split <;> omega, Nat.one_mul]) (fun j u hj => ?_) (by rw [hfl, hc]; omega) h1 fun _ w4 hb4 hc4 hz4 => ?_
    · rw [add_mk, cell_eq, ht3, cellO_some, Nat.zero_add]
      simpa using hj
    have hch : Chg (fun k => (Value.slice (some ⟨g, 0, none⟩) n cap).ownBlock = some k) w w4 := (((Chg.drew (Chg.refl (fun k => k = g) w)).trans hc3).trans hc4).mono fun k _ e => by rw [e]; rfl
    have hfin : (L.take (0 + (i + 1) * size) ++ xs.drop (i * size) ++ L.drop (0 + (i + 1) * size + (xs.drop (i * size)).length)).take (0 + i * size) ++ c ++ (L.take (0 + (i + 1) * size) ++ xs.drop (i * size) ++ L.drop (0 + (i + 1) * size + (xs.drop (i * size)).length)).drop (0 + i * size + c.length) = xs.take (i * size) ++ c ++ xs.drop (i * size) ++ L.drop ((i + 1) * size + (xs.drop (i * size)).length) := by
      rw [Nat.zero_add, Nat.zero_add, hc, ← hpre, List.append_assoc (L.take ((i + 1) * size)), List.take_append_of_le_length (by rw [List.length_take, hcl]; omega), List.take_take, Nat.min_eq_left (by omega)]
      have e1 : L.take (i * size) = xs.take (i * size) := by rw [← htake, List.take_take, Nat.min_eq_left (by omega)]
      have e2 : (L.take ((i + 1) * size) ++ (xs.drop (i * size) ++ L.drop ((i + 1) * size + (xs.drop (i * size)).length))).drop ((i + 1) * size) = xs.drop (i * size) ++ L.drop ((i + 1) * size + (xs.drop (i * size)).length) := List.drop_left' (by rw [List.length_take, hcl]; omega)
      rw [e1, e2]
      simp
    rw [hfin] at hb4
    have hxl : (xs.take (i * size)).length = i * size := by rw [List.length_take]; omega
    refine hK _ w4 ⟨?_, .inr ⟨g, cap, _, rfl, hg, hb4, hroom, hcm, ?_, ?_⟩⟩ hch fun k hk => .inl hk
    · rw [List.length_append, List.length_append, hxl, hc, hrest]; omega
    · rw [List.size_toArray, hrest, List.length_append, List.length_append, List.length_append, hxl, hc, hrest, List.length_drop, hcl]; omega
    · rw [List.toList_toArray]
      refine List.take_left' ?_
      rw [List.length_append, List.length_append, hxl, hc, hrest]; omega
end
end Go.Eng





namespace Go.Proofs.YtdkikjcpgihjlaaGreatDoor
open Go Go.Eng Go.Num
set_option maxRecDepth 100000
section
variable [HX]
theorem OwnV.rep {w0 w : World} {base : Nat} {v : JV} {sv kv : Value} (h : OwnV w0 w base v sv kv) (hx : Ext w0 w) : VRep w v [i64 v.k, .bool v.b, str v.t, sv, kv] := by
  obtain ⟨sv', kv', T1, T2, L, he, h1, h2, h3, h4⟩ := h.val
  simp only [List.cons.injEq, and_true, true_and] at he
  obtain ⟨rfl, rfl⟩ := he
  exact VRep.mk h1 (h2.ext hx) h3 h4
abbrev nb : Str := [110, 101, 119, 95, 98]
end
end Go.Proofs.YtdkikjcpgihjlaaGreatDoor
