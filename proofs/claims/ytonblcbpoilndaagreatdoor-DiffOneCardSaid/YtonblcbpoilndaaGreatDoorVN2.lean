/- One plain sentence: contracts of the program's sums of numbers of many digits. Conditions: those that each states. -/
import Derived.Test.YtonblcbpoilndaaGreatDoorVN1
set_option linter.all false
set_option linter.unusedSimpArgs false
set_option linter.unusedVariables false
set_option linter.unusedSectionVars false
namespace Go.Proofs.YtonblcbpoilndaaGreatDoor
open Go Go.Eng Go.Num
set_option maxRecDepth 100000
abbrev BT : TypeId := 203
abbrev U64 : TypeId := 164
theorem elem_u : ElemT Tryz.prog 201 U64 1 8 := ⟨by kernel_rfl, by kernel_rfl, by decide⟩
def BRep (w : World) (x : Big) (cs : List Value) : Prop := ∃ sv T, cs = [.bool x.below, sv] ∧ SlAt w T sv x.l.length (x.l.map u64) ∧ x.l.length ≤ 1000 ∧ Lim x.l
theorem BRep.ext {w w' : World} {x : Big} {cs : List Value} (h : BRep w x cs) (hx : Ext w w') : BRep w' x cs := by
  obtain ⟨sv, T, rfl, h1, h2, h3⟩ := h; exact ⟨sv, T, rfl, h1.ext hx, h2, h3⟩
theorem BRep.one {w : World} {x : Big} {cs : List Value} (h : BRep w x cs) : cs.all one1 = true := by
  obtain ⟨sv, T, rfl, h1, _⟩ := h
  obtain ⟨p, c, rfl, _⟩ := h1.shape; rfl
theorem BRep.len {w : World} {x : Big} {cs : List Value} (h : BRep w x cs) : cs.length = 2 := by obtain ⟨sv, T, rfl, _⟩ := h; rfl
/-- in a block of its own -/
structure BigB (w : World) (a : Nat) (x : Big) (sv : Value) : Prop where
  hb : w.heap[a]? = some (.cells [.bool x.below, sv].toArray BT (0, 0))
  l : ∃ T, SlAt w T sv x.l.length (x.l.map u64)
  few : x.l.length ≤ 1000
  lim : Lim x.l
theorem BigB.ext {w w' : World} {a : Nat} {x : Big} {sv : Value} (h : BigB w a x sv) (hx : Ext w w') : BigB w' a x sv := ⟨hx.at h.hb id, let ⟨T, h1⟩ := h.l; ⟨T, h1.ext hx⟩, h.few, h.lim⟩
theorem BigB.rep {w : World} {a : Nat} {x : Big} {sv : Value} (h : BigB w a x sv) : BRep w x [.bool x.below, sv] := by obtain ⟨T, h1⟩ := h.l; exact ⟨sv, T, rfl, h1, h.few, h.lim⟩
theorem BigB.ld {w : World} {a : Nat} {x : Big} {sv : Value} {K : Value → Prop} (h : BigB w a x sv) (hK : ∀ cs, BRep w x cs → K (.agg cs.toArray)) : ldW true 2 (ptr a) w K := ld_all h.hb rfl (hK _ h.rep)
theorem BigB.len {w : World} {a : Nat} {x : Big} {sv : Value} (h : BigB w a x sv) (K : Value → Prop) : lenlW sv K ↔ K (i64 x.l.length) := by obtain ⟨T, h1⟩ := h.l; exact lenl_at h1 K
theorem BigB.at {w : World} {a : Nat} {x : Big} {sv : Value} {k : IntKind} {i n : Nat} {K : Value → Prop} (h : BigB w a x sv) (hi : x.l[i]? = some n) (hK : K (u64 n)) : ixaW none 1 sv (.int k i) fun p => ldW false 1 p w K := by
  obtain ⟨T, h1⟩ := h.l
  exact ixa_ld h1 (by simp) (by simp [hi]) hK
theorem box_big {w : World} {x : Big} {cs : List Value} {K : Value → World → Prop} (h : BRep w x cs) (hK : ∀ a w' sv, BigB w' a x sv → Ext w w' → a = w.heap.size → w'.heap.size = a + 1 → K (ptr a) w') : boxW BT (.agg cs.toArray) w K := by
  obtain ⟨sv, T, rfl, h1, h2, h3⟩ := h
  refine box_new fun a w' ha hz hb hx => hK a w' sv ⟨hb, ⟨T, h1.ext hx⟩, h2, h3⟩ hx ha (by omega)
theorem ret_big {w w0 : World} {b : Nat} {cs ds : List Value} {K : Value → World → Prop} (hb : w.heap[b]? = some (.cells ds.toArray BT (0, 0))) (hd : ds.length = 2) (hl : w0.heap.size ≤ b) (hx : Ext w0 w) (h1 : cs.all one1 = true) (h2 : cs.length = 2)
    (hK : ∀ w', Ext w0 w' → Chg (fun k => k = b) w w' → K (.agg cs.toArray) w') : stW 2 (ptr b) (.agg cs.toArray) w fun w5 => ldW true 2 (ptr b) w5 fun r6 => K r6 w5 :=
  ret_agg hb h2 hd h1 fun w' hc => hK w' (hx.new hc hl) hc
/-- a block that is no row of limbs may turn -/
theorem BRep.keep {w w' : World} {b : Nat} {x : Big} {cs : List Value} {p : Bool} {q : Value} {T0 : TypeId} (h : BRep w x cs) (hb : w.heap[b]? = some (.cells [.bool p, q].toArray T0 (0, 0))) (hq : ∀ n, q ≠ u64 n) (hc : Chg (fun k => k = b) w w') : BRep w' x cs := by
  obtain ⟨sv, T, rfl, ⟨p', cap, hv, h1, h2, h3⟩, h4, h5⟩ := h
  refine ⟨sv, T, rfl, ⟨p', cap, hv, h1, h2, fun hne => ?_⟩, h4, h5⟩
  obtain ⟨k, off, c, fr, hp, hk, hcs⟩ := h3 hne
  have hkb : k ≠ b := by
    rintro rfl
    rw [hb] at hk
    cases hk
    obtain ⟨n, r, e⟩ : ∃ n r, x.l = n :: r := by
      cases hx : x.l with
      | nil => rw [hx] at hne; simp at hne
      | cons n r => exact ⟨n, r, rfl⟩
    have := hcs 0 (by rw [e]; simp)
    rw [e] at this
    simp only [Nat.add_zero, List.map_cons, List.getElem?_cons_zero, List.getElem?_toArray] at this
    rcases off with _ | _ | off
    · simp at this
    · simp only [Nat.zero_add, List.getElem?_cons_succ, List.getElem?_cons_zero, Option.some.injEq] at this; exact hq n this
    · simp at this
  exact ⟨k, off, c, fr, hp, hc.at hk hkb, hcs⟩
theorem u64_wrap {n : Int} (h1 : 0 ≤ n) (h2 : n < 18446744073709551616) : IntKind.u64.wrap n = n := by
  simp only [IntKind.wrap, IntKind.signed, IntKind.bits, IntKind.max, IntKind.min]
  simp
  omega
theorem row_u {w : World} {n : Nat} {K : Value → World → Prop} (hK : ∀ t w', SlAt w' U64 t 1 [u64 n] → Ext w w' → K t w') : bslW U64 1 [(.int .u64 0)] [(0, 1, u64 n)] w K := by
  unfold bslW
  simp only [wsv, wsg, wsh, wsl, cond_true, cond_false, exists_eq_left', Option.some.injEq, Option.isSome_some, List.getElem?_toArray, List.getElem?_cons_zero, List.getElem?_cons_succ, List.length_cons, List.length_nil, List.set_cons_zero, List.set_cons_succ, List.getD_cons_zero, List.getD_cons_succ, Nat.zero_add, Nat.add_zero, Nat.reduceAdd, Nat.reduceLT, Nat.lt_add_one, Nat.zero_lt_succ, decide_true, decide_false, ne_eq, reduceCtorEq]
  exact hK _ _ (own_new (w := w) (base := w.heap.size) (e := U64) (size := 1) (n := 1) (cs := [u64 n]) (Nat.le_refl _) rfl (by omega)).sl (by repeat (first | assumption | exact Chg.refl _ _ | refine Chg.drew ?_ | refine Chg.alloc ?_ _ | refine Chg.set ?_ (by first | exact .inl rfl | exact .inr (by omega) | exact .inr (by simp only [size_set, size_alloc, size_drew]; omega) | (left; simp; done)) _ | exact Chg.of_ext (by assumption)))
/-- one limb more -/
theorem app_u {w : World} {base n : Nat} {v : Value} {l : List Nat} {K : Value → World → Prop} (h : Own w base U64 1 v l.length (l.map u64)) (hb : base ≤ w.heap.size) (hl : l.length ≤ 100000)
    (hK : ∀ v' w', Own w' base U64 1 v' (l ++ [n]).length ((l ++ [n]).map u64) → Chg (fun k => base ≤ k) w w' → K v' w') :
    bslW U64 1 [(.int .u64 0)] [(0, 1, u64 n)] w fun t w1 => semE Tryz.prog (Builtin.append_ #[201, 201] 201 #[v, t]) w1 K := by
  refine row_u fun t w1 ht hx => ?_
  refine append_own2 elem_u (h.ext hx) ht (m := 1) rfl (fun u hu => by simp only [List.mem_singleton] at hu; subst hu; rfl) (by omega) (by omega) (Nat.le_trans hb hx.size) fun v' w' h' hc _ => ?_
  refine hK v' w' (by simpa using h') ((Chg.of_ext hx).trans ?_)
  refine hc.mono fun k _ e => (own_ge (h.ext hx) e).1
  done
section
variable [HX]

/-- the first k of a slice -/
theorem sll_take {w : World} {T : TypeId} {v : Value} {n k : Nat} {cs : List Value} {K : Value → Prop} (h : SlAt w T v n cs) (hl : cs.length = n) (hk : k ≤ n) (hK : ∀ v', SlAt w T v' k (cs.take k) → K v') : sllW 1 v none (some (i64 (k : Nat))) none K := by
  obtain ⟨p, cap, rfl, h1, h2, h3⟩ := h
  rw [sll_sl]
  simp only [bd_none, bd_some]
  refine ⟨by omega, by omega, ?_⟩
  have e : (if cap = 0 then p else p.map (·.add (0 * 1))) = p := by
    split
    · rfl
    · cases p with
      | none => rfl
      | some a => simp [Addr.add]
  rw [e]
  refine hK _ ⟨p, cap - 0, by simp, by omega, fun e => ?_, fun hne => ?_⟩
  · have := h2 e; omega
  · obtain ⟨b, off, c, fr, hp, hb, hcs⟩ := h3 fun e => hne (by rw [e]; simp)
    refine ⟨b, off, c, fr, hp, hb, fun i hi => ?_⟩
    rw [List.length_take] at hi
    rw [hcs i (by omega), List.getElem?_take, if_pos (by omega)]

def lenAt (w : World) (a : Nat) : Nat := match cellO w.heap[a]? 1 with | some (Value.slice _ n _) => n | _ => 0
theorem trim_ref {x : Big} {cs : List Value} {w : World} {K : Value → World → Prop} (h : BRep w x cs) (hK : ∀ cs' w', Ext w w' → BRep w' x.trim cs' → K (.agg cs'.toArray) w') : callF Tryz.prog 194 [.agg cs.toArray] w K := by
  refine W194_ok ?_
  unfold W194
  obtain ⟨sv, T, rfl, h1, h2, h3⟩ := h
  refine box_new fun a w1 ha hz hba hx => ?_
  refine alloc_new fun b w2 hb hz2 hbb hx2 => ?_
  have hba := hx2.at hba id
  have hx12 := hx.trans hx2
  refine ⟨fun s w' => s = [] ∧ ∃ m sv', m ≤ x.l.length ∧ w'.heap[a]? = some (.cells [.bool x.below, sv'].toArray BT (0, 0)) ∧ SlAt w T sv' m ((x.l.take m).map u64) ∧ trimL (x.l.take m) = trimL x.l ∧ Chg (fun k => k = a) w2 w',
    fun _ w' => lenAt w' a, ⟨rfl, x.l.length, sv, Nat.le_refl _, hba, by rw [List.take_length]; exact h1, by rw [List.take_length], Chg.refl _ _⟩, ?_⟩
  rintro s g w3 ⟨rfl, m, sv', hm, hba3, hs, htr, hc3⟩
  have hx3 : Ext w w3 := hx12.new hc3 (by omega)
  have hs3 := hs.ext hx3
  obtain ⟨p, cap, rfl, hcap⟩ := hs.shape
  simp only [wsv, wsg, wsh, wsl, cond_true, cond_false, exists_eq_left', Option.some.injEq, Option.isSome_some, List.getElem?_toArray, List.getElem?_cons_zero, List.getElem?_cons_succ, List.length_cons, List.length_nil, List.set_cons_zero, List.set_cons_succ, List.getD_cons_zero, List.getD_cons_succ, Nat.zero_add, Nat.add_zero, Nat.reduceAdd, Nat.reduceLT, Nat.lt_add_one, Nat.zero_lt_succ, decide_true, decide_false, ne_eq, reduceCtorEq, wsh, hba3]
  have hlen3 : lenAt w3 a = m := by unfold lenAt; rw [hba3]; rfl
  rw [hlen3]
  clear hlen3
  refine GdW.look (decide (x.l[m - 1]? = some 0)) ?_ ?_
  · intro hc J hJ
    obtain ⟨k, rfl⟩ : ∃ k, m = k + 1 := ⟨m - 1, by simp only [decide_eq_true_eq] at hc; omega⟩
    have hw : IntKind.i64.wrap (((k + 1 : Nat) : Int) - 1) = ((k : Nat) : Int) := by rw [wrap_id (by omega) (by omega)]; omega
    obtain ⟨y, hy⟩ : ∃ y, x.l[k]? = some y := ⟨_, List.getElem?_eq_getElem (by omega)⟩
    simp only [wsv, wsg, wsh, wsl, cond_true, cond_false, exists_eq_left', Option.some.injEq, Option.isSome_some, List.getElem?_toArray, List.getElem?_cons_zero, List.getElem?_cons_succ, List.length_cons, List.length_nil, List.set_cons_zero, List.set_cons_succ, List.getD_cons_zero, List.getD_cons_succ, Nat.zero_add, Nat.add_zero, Nat.reduceAdd, Nat.reduceLT, Nat.lt_add_one, Nat.zero_lt_succ, decide_true, decide_false, ne_eq, reduceCtorEq, hw]
    refine ixa_ld hs3 (by simp; omega) (by simp [hy]; rfl) ?_
    simp only [wsv, wsg, wsh, wsl, cond_true, cond_false, exists_eq_left', Option.some.injEq, Option.isSome_some, List.getElem?_toArray, List.getElem?_cons_zero, List.getElem?_cons_succ, List.length_cons, List.length_nil, List.set_cons_zero, List.set_cons_succ, List.getD_cons_zero, List.getD_cons_succ, Nat.zero_add, Nat.add_zero, Nat.reduceAdd, Nat.reduceLT, Nat.lt_add_one, Nat.zero_lt_succ, decide_true, decide_false, ne_eq, reduceCtorEq]
    have e : decide ((y : Int) = 0) = decide (x.l[k + 1 - 1]? = some 0) := decide_eq_decide.2 (by rw [Nat.add_sub_cancel, hy, Option.some.injEq]; omega)
    rw [e]
    exact hJ
  · intro gd
    simp only [wsv, wsg, wsh, wsl, cond_true, cond_false, exists_eq_left', Option.some.injEq, Option.isSome_some, List.getElem?_toArray, List.getElem?_cons_zero, List.getElem?_cons_succ, List.length_cons, List.length_nil, List.set_cons_zero, List.set_cons_succ, List.getD_cons_zero, List.getD_cons_succ, Nat.zero_add, Nat.add_zero, Nat.reduceAdd, Nat.reduceLT, Nat.lt_add_one, Nat.zero_lt_succ, decide_true, decide_false, ne_eq, reduceCtorEq, wsh, hba3]
    rw [condW_b]
    refine ⟨fun hc => ?_, fun hc => ?_⟩
    · simp only [Bool.and_eq_true, decide_eq_true_eq] at hc
      obtain ⟨k, rfl⟩ : ∃ k, m = k + 1 := ⟨m - 1, by omega⟩
      have hw : IntKind.i64.wrap (((k + 1 : Nat) : Int) - 1) = ((k : Nat) : Int) := by rw [wrap_id (by omega) (by omega)]; omega
      rw [hw]
      refine sll_take (k := k) hs (by simp; omega) (by omega) fun v' hv' => ?_
      obtain ⟨p', cap', rfl, _⟩ := hv'.shape
      refine st_at hba3 rfl (by simp) fun w4 hz4 hb4 hc4 => ?_
      have hb4 : w4.heap[a]? = some (.cells [.bool x.below, .slice p' k cap'].toArray BT (0, 0)) := by rw [hb4]; simp
      refine ⟨⟨k, _, by omega, hb4, ?_, ?_, hc3.trans hc4⟩, ?_⟩
      · have e : (x.l.take k).map u64 = ((x.l.take (k + 1)).map u64).take k := by rw [← List.map_take, List.take_take, Nat.min_eq_left (by omega)]
        rw [e]; exact hv'
      · have e : x.l.take (k + 1) = x.l.take k ++ [0] := by
          rw [List.take_add_one]
          have := hc.2
          rw [Nat.add_sub_cancel] at this
          rw [this]; rfl
        rw [← htr, e, trimL_zero]
      · have : lenAt w4 a = k := by unfold lenAt; rw [hb4]; rfl
        rw [this]; omega
    · have hT : trimL x.l = x.l.take m := by
        rw [← htr]
        rcases Nat.eq_zero_or_pos m with h0 | h0
        · subst h0; rw [List.take_zero, trimL_nil]
        · obtain ⟨k, rfl⟩ : ∃ k, m = k + 1 := ⟨m - 1, by omega⟩
          obtain ⟨y, hy⟩ : ∃ y, x.l[k]? = some y := ⟨_, List.getElem?_eq_getElem (by omega)⟩
          have hy0 : y ≠ 0 := by
            rintro rfl
            rw [decide_eq_true (show ((0 : Int) < ((k + 1 : Nat) : Int)) by omega), Nat.add_sub_cancel, hy] at hc
            simp at hc
          have e : x.l.take (k + 1) = x.l.take k ++ [y] := by rw [List.take_add_one, hy]; rfl
          rw [e, trimL_ne hy0]
      have hlt : (trimL x.l).length = m := by rw [hT, List.length_take]; omega
      have hbel : (x.below && decide ((0 : Int) < (m : Int))) = x.trim.below := by
        show _ = (x.below && !(trimL x.l).isEmpty)
        congr 1
        cases hT2 : trimL x.l with
        | nil => rw [hT2] at hlt; simp at hlt; subst hlt; simp
        | cons y r => rw [hT2] at hlt; simp at hlt; simp; omega
      (try simp only [wsv, wsg, wsh, wsl, cond_true, cond_false, exists_eq_left', Option.some.injEq, Option.isSome_some, List.getElem?_toArray, List.getElem?_cons_zero, List.getElem?_cons_succ, List.length_cons, List.length_nil, List.set_cons_zero, List.set_cons_succ, List.getD_cons_zero, List.getD_cons_succ, Nat.zero_add, Nat.add_zero, Nat.reduceAdd, Nat.reduceLT, Nat.lt_add_one, Nat.zero_lt_succ, decide_true, decide_false, ne_eq, reduceCtorEq, wsh, hba3])
      intros
      rw [hbel]
      refine st_at hba3 rfl (by simp) fun w4 hz4 hb4 hc4 => ?_
      have hb4 : w4.heap[a]? = some (.cells [.bool x.trim.below, .slice p m cap].toArray BT (0, 0)) := by rw [hb4]; simp
      refine ld_all hb4 rfl ?_
      have hbb4 := hc4.at (hc3.at hbb (by omega)) (by omega)
      have hx4 : Ext w w4 := hx3.new hc4 (by omega)
      refine ret_big (w0 := w) hbb4 rfl (by have := hx.size; omega) hx4 rfl rfl fun w5 hx5 _ => ?_
      refine hK _ w5 hx5 ⟨_, T, rfl, ?_, ?_, ?_⟩
      · show SlAt w5 T _ (trimL x.l).length ((trimL x.l).map u64)
        rw [hlt, hT]
        exact hs.ext hx5
      · show (trimL x.l).length ≤ 1000
        rw [hlt]; omega
      · exact (trimL_spec x.l).2.2 h3

theorem headD_drop (l : List Nat) (i : Nat) : (l.drop i).headD 0 = l.getD i 0 := by
  induction l generalizing i with
  | nil => simp
  | cons x l ih => cases i <;> simp_all
theorem plusL_step {x y : List Nat} {c : Nat} (h : x ≠ [] ∨ y ≠ []) : plusL x y c = (c + x.headD 0 + y.headD 0) % 1000000000 :: plusL x.tail y.tail ((c + x.headD 0 + y.headD 0) / 1000000000) := by
  cases x with
  | nil => cases y with
    | nil => simp at h
    | cons b y => simp [plusL]
  | cons a x => cases y with
    | nil => simp [plusL]
    | cons b y => simp [plusL]
theorem lim_getD {l : List Nat} (h : Lim l) (i : Nat) : l.getD i 0 < 1000000000 := by
  rw [List.getD_eq_getElem?_getD]
  cases hi : l[i]? with
  | none => simp
  | some x => exact h x (List.mem_of_getElem? hi)
theorem plus_ref {x y : Big} {cs ds : List Value} {w : World} {K : Value → World → Prop} (h : BRep w x cs) (h' : BRep w y ds) (hK : ∀ v w', Ext w w' → SlAt w' U64 v (plusL x.l y.l 0).length ((plusL x.l y.l 0).map u64) → K v w') : callF Tryz.prog 193 [.agg cs.toArray, .agg ds.toArray] w K := by
  refine W193_ok ?_
  unfold W193
  refine box_big h fun a w1 sv hB hx ha hz1 => ?_
  refine box_big (h'.ext hx) fun b w2 sv' hC hx2 hb hz2 => ?_
  have hB := hB.ext hx2
  have hx := hx.trans hx2
  clear hx2
  simp only [wsv, wsg, wsh, wsl, cond_true, cond_false, exists_eq_left', Option.some.injEq, Option.isSome_some, List.getElem?_toArray, List.getElem?_cons_zero, List.getElem?_cons_succ, List.length_cons, List.length_nil, List.set_cons_zero, List.set_cons_succ, List.getD_cons_zero, List.getD_cons_succ, Nat.zero_add, Nat.add_zero, Nat.reduceAdd, Nat.reduceLT, Nat.lt_add_one, Nat.zero_lt_succ, decide_true, decide_false, ne_eq, reduceCtorEq, wsh, hB.hb, hC.hb, hB.len, hC.len]
  have hmax : (if (x.l.length : Int) < (y.l.length : Int) then (y.l.length : Int) else (x.l.length : Int)) = ((max x.l.length y.l.length : Nat) : Int) := by split <;> omega
  rw [hmax]
  generalize hM : max x.l.length y.l.length = M
  have hM1 : M ≤ 1000 := by have := hB.few; have := hC.few; omega
  refine ⟨fun s w' => ∃ i c v l, i ≤ M ∧ c ≤ 1 ∧ s = [v, u64 c, i64 (i : Nat)] ∧ Ext w2 w' ∧ Own w' w2.heap.size U64 1 v l.length (l.map u64) ∧ l.length = i ∧ l ++ plusL (x.l.drop i) (y.l.drop i) c = plusL x.l y.l 0,
    fun s _ => match s with | [_, _, .int _ i] => M - i.toNat | _ => 0, ⟨0, 0, _, [], by omega, by omega, rfl, Chg.refl _ _, ⟨rfl, .inl ⟨rfl, rfl⟩⟩, rfl, by simp⟩, ?_⟩
  rintro s g w3 ⟨i, c, v, l, hi, hc, rfl, hx3, hO, hl, he⟩
  have hB3 := hB.ext hx3
  have hC3 := hC.ext hx3
  rcases Nat.lt_or_ge i M with hlt | hge
  · have hltI : (i : Int) < (M : Int) := by omega
    have hxi := lim_getD hB.lim i
    have hyi := lim_getD hC.lim i
    simp only [wsv, wsg, wsh, wsl, cond_true, cond_false, exists_eq_left', Option.some.injEq, Option.isSome_some, List.getElem?_toArray, List.getElem?_cons_zero, List.getElem?_cons_succ, List.length_cons, List.length_nil, List.set_cons_zero, List.set_cons_succ, List.getD_cons_zero, List.getD_cons_succ, Nat.zero_add, Nat.add_zero, Nat.reduceAdd, Nat.reduceLT, Nat.lt_add_one, Nat.zero_lt_succ, decide_true, decide_false, ne_eq, reduceCtorEq, hltI]
    refine JoinW.cut (fun s w' => s = [u64 (c + x.l.getD i 0)] ∧ w' = w3) ?_ ?_
    · (try simp only [wsv, wsg, wsh, wsl, cond_true, cond_false, exists_eq_left', Option.some.injEq, Option.isSome_some, List.getElem?_toArray, List.getElem?_cons_zero, List.getElem?_cons_succ, List.length_cons, List.length_nil, List.set_cons_zero, List.set_cons_succ, List.getD_cons_zero, List.getD_cons_succ, Nat.zero_add, Nat.add_zero, Nat.reduceAdd, Nat.reduceLT, Nat.lt_add_one, Nat.zero_lt_succ, decide_true, decide_false, ne_eq, reduceCtorEq, wsh, hB3.hb, hB3.len])
      rw [condW_dec]
      refine ⟨fun hi1 => ?_, fun hi1 => ?_⟩
      · obtain ⟨n, hn⟩ : ∃ n, x.l[i]? = some n := ⟨_, List.getElem?_eq_getElem (by omega)⟩
        have hgd : x.l.getD i 0 = n := by rw [List.getD_eq_getElem?_getD, hn]; rfl
        (try simp only [wsv, wsg, wsh, wsl, cond_true, cond_false, exists_eq_left', Option.some.injEq, Option.isSome_some, List.getElem?_toArray, List.getElem?_cons_zero, List.getElem?_cons_succ, List.length_cons, List.length_nil, List.set_cons_zero, List.set_cons_succ, List.getD_cons_zero, List.getD_cons_succ, Nat.zero_add, Nat.add_zero, Nat.reduceAdd, Nat.reduceLT, Nat.lt_add_one, Nat.zero_lt_succ, decide_true, decide_false, ne_eq, reduceCtorEq, wsh, hB3.hb])
        refine hB3.at hn ?_
        simp only [wsv, wsg, wsh, wsl, cond_true, cond_false, exists_eq_left', Option.some.injEq, Option.isSome_some, List.getElem?_toArray, List.getElem?_cons_zero, List.getElem?_cons_succ, List.length_cons, List.length_nil, List.set_cons_zero, List.set_cons_succ, List.getD_cons_zero, List.getD_cons_succ, Nat.zero_add, Nat.add_zero, Nat.reduceAdd, Nat.reduceLT, Nat.lt_add_one, Nat.zero_lt_succ, decide_true, decide_false, ne_eq, reduceCtorEq]
        rw [hgd] at hxi ⊢
        rw [u64_wrap (by omega) (by omega)]
        simp only [u64, Int.natCast_add]
      · have hgd : x.l.getD i 0 = 0 := by rw [List.getD_eq_getElem?_getD, List.getElem?_eq_none (by omega)]; rfl
        rw [hgd]; first | exact ⟨rfl, rfl⟩ | rfl
    · rintro s gg w4 ⟨rfl, rfl⟩
      refine JoinW.cut (fun s w' => s = [u64 (c + x.l.getD i 0 + y.l.getD i 0)] ∧ w' = w4) ?_ ?_
      · (try simp only [wsv, wsg, wsh, wsl, cond_true, cond_false, exists_eq_left', Option.some.injEq, Option.isSome_some, List.getElem?_toArray, List.getElem?_cons_zero, List.getElem?_cons_succ, List.length_cons, List.length_nil, List.set_cons_zero, List.set_cons_succ, List.getD_cons_zero, List.getD_cons_succ, Nat.zero_add, Nat.add_zero, Nat.reduceAdd, Nat.reduceLT, Nat.lt_add_one, Nat.zero_lt_succ, decide_true, decide_false, ne_eq, reduceCtorEq, wsh, hC3.hb, hC3.len])
        rw [condW_dec]
        refine ⟨fun hi1 => ?_, fun hi1 => ?_⟩
        · obtain ⟨n, hn⟩ : ∃ n, y.l[i]? = some n := ⟨_, List.getElem?_eq_getElem (by omega)⟩
          have hgd : y.l.getD i 0 = n := by rw [List.getD_eq_getElem?_getD, hn]; rfl
          (try simp only [wsv, wsg, wsh, wsl, cond_true, cond_false, exists_eq_left', Option.some.injEq, Option.isSome_some, List.getElem?_toArray, List.getElem?_cons_zero, List.getElem?_cons_succ, List.length_cons, List.length_nil, List.set_cons_zero, List.set_cons_succ, List.getD_cons_zero, List.getD_cons_succ, Nat.zero_add, Nat.add_zero, Nat.reduceAdd, Nat.reduceLT, Nat.lt_add_one, Nat.zero_lt_succ, decide_true, decide_false, ne_eq, reduceCtorEq, wsh, hC3.hb])
          refine hC3.at hn ?_
          simp only [wsv, wsg, wsh, wsl, cond_true, cond_false, exists_eq_left', Option.some.injEq, Option.isSome_some, List.getElem?_toArray, List.getElem?_cons_zero, List.getElem?_cons_succ, List.length_cons, List.length_nil, List.set_cons_zero, List.set_cons_succ, List.getD_cons_zero, List.getD_cons_succ, Nat.zero_add, Nat.add_zero, Nat.reduceAdd, Nat.reduceLT, Nat.lt_add_one, Nat.zero_lt_succ, decide_true, decide_false, ne_eq, reduceCtorEq]
          rw [hgd] at hyi ⊢
          rw [u64_wrap (by omega) (by omega)]
          simp only [u64, Int.natCast_add]
        · have hgd : y.l.getD i 0 = 0 := by rw [List.getD_eq_getElem?_getD, List.getElem?_eq_none (by omega)]; rfl
          rw [hgd]; first | exact ⟨rfl, rfl⟩ | rfl
      · rintro s gg w5 ⟨rfl, rfl⟩
        have hst := plusL_step (x := x.l.drop i) (y := y.l.drop i) (c := c) (by
          rcases Nat.lt_or_ge i x.l.length with h1 | h1
          · left; intro e; have := List.drop_eq_nil_iff.1 e; omega
          · right; intro e; have := List.drop_eq_nil_iff.1 e; omega)
        rw [headD_drop, headD_drop, List.tail_drop, List.tail_drop] at hst
        have hn : c + x.l.getD i 0 + y.l.getD i 0 < 2000000000 := by omega
        generalize c + x.l.getD i 0 + y.l.getD i 0 = n at *
        have e1 : ((n : Int).tmod 1000000000) = ((n % 1000000000 : Nat) : Int) := by simp [Int.natCast_emod, Int.tmod_eq_emod_of_nonneg]
        have e2 : IntKind.u64.wrap ((n : Int).tdiv 1000000000) = ((n / 1000000000 : Nat) : Int) := by
          rw [Int.tdiv_eq_ediv_of_nonneg (by omega), u64_wrap (by omega) (by omega)]; omega
        have hne : ¬ (1000000000 : Int) = 0 := by decide
        simp only [wsv, wsg, wsh, wsl, cond_true, cond_false, exists_eq_left', Option.some.injEq, Option.isSome_some, List.getElem?_toArray, List.getElem?_cons_zero, List.getElem?_cons_succ, List.length_cons, List.length_nil, List.set_cons_zero, List.set_cons_succ, List.getD_cons_zero, List.getD_cons_succ, Nat.zero_add, Nat.add_zero, Nat.reduceAdd, Nat.reduceLT, Nat.lt_add_one, Nat.zero_lt_succ, decide_true, decide_false, ne_eq, reduceCtorEq, e1, e2, hne, not_false_eq_true]
        refine app_u hO hx3.size (by omega) fun v' w' h' hc' => ?_
        rw [up1 (by omega)]
        refine ⟨⟨i + 1, n / 1000000000, v', l ++ [n % 1000000000], hlt, by omega, rfl, hx3.then hc' fun k hk e => by omega, h', by simp [hl], ?_⟩, by simp only [Int.toNat_natCast]; omega⟩
        rw [← he, hst]; simp
  · obtain rfl : i = M := by omega
    simp only [wsv, wsg, wsh, wsl, cond_true, cond_false, exists_eq_left', Option.some.injEq, Option.isSome_some, List.getElem?_toArray, List.getElem?_cons_zero, List.getElem?_cons_succ, List.length_cons, List.length_nil, List.set_cons_zero, List.set_cons_succ, List.getD_cons_zero, List.getD_cons_succ, Nat.zero_add, Nat.add_zero, Nat.reduceAdd, Nat.reduceLT, Nat.lt_add_one, Nat.zero_lt_succ, decide_true, decide_false, ne_eq, reduceCtorEq, Int.lt_irrefl]
    refine app_u hO hx3.size (by omega) fun v' w' h' hc' => ?_
    have e1 : x.l.drop i = [] := List.drop_eq_nil_iff.2 (by omega)
    have e2 : y.l.drop i = [] := List.drop_eq_nil_iff.2 (by omega)
    rw [e1, e2] at he
    simp only [plusL] at he
    have := hK v' w' (hx.trans (hx3.then hc' fun k hk e => by omega))
    rw [← he] at this
    exact this h'.sl

theorem minusL_step {a : Nat} {x y : List Nat} {c : Nat} : minusL (a :: x) y c = (if a < c + y.headD 0 then a + 1000000000 - (c + y.headD 0) else a - (c + y.headD 0)) :: minusL x y.tail (if a < c + y.headD 0 then 1 else 0) := by
  simp only [minusL]; split <;> rfl
theorem minus_ref {x y : Big} {cs ds : List Value} {w : World} {K : Value → World → Prop} (h : BRep w x cs) (h' : BRep w y ds) (hK : ∀ v w', Ext w w' → SlAt w' U64 v (minusL x.l y.l 0).length ((minusL x.l y.l 0).map u64) → K v w') : callF Tryz.prog 196 [.agg cs.toArray, .agg ds.toArray] w K := by
  refine W196_ok ?_
  unfold W196
  refine box_big h fun a w1 sv hB hx ha hz1 => ?_
  refine box_big (h'.ext hx) fun b w2 sv' hC hx2 hb hz2 => ?_
  have hB := hB.ext hx2
  have hx := hx.trans hx2
  clear hx2
  simp only [wsv, wsg, wsh, wsl, cond_true, cond_false, exists_eq_left', Option.some.injEq, Option.isSome_some, List.getElem?_toArray, List.getElem?_cons_zero, List.getElem?_cons_succ, List.length_cons, List.length_nil, List.set_cons_zero, List.set_cons_succ, List.getD_cons_zero, List.getD_cons_succ, Nat.zero_add, Nat.add_zero, Nat.reduceAdd, Nat.reduceLT, Nat.lt_add_one, Nat.zero_lt_succ, decide_true, decide_false, ne_eq, reduceCtorEq, wsh, hB.hb, hC.hb, hB.len, hC.len]
  have hM1 : x.l.length ≤ 1000 := hB.few
  refine ⟨fun s w' => ∃ i c v l, i ≤ x.l.length ∧ c ≤ 1 ∧ s = [v, u64 c, i64 (i : Nat)] ∧ Ext w2 w' ∧ Own w' w2.heap.size U64 1 v l.length (l.map u64) ∧ l.length = i ∧ l ++ minusL (x.l.drop i) (y.l.drop i) c = minusL x.l y.l 0,
    fun s _ => match s with | [_, _, .int _ i] => x.l.length - i.toNat | _ => 0, ⟨0, 0, _, [], by omega, by omega, rfl, Chg.refl _ _, ⟨rfl, .inl ⟨rfl, rfl⟩⟩, rfl, by simp⟩, ?_⟩
  rintro s g w3 ⟨i, c, v, l, hi, hc, rfl, hx3, hO, hl, he⟩
  have hB3 := hB.ext hx3
  have hC3 := hC.ext hx3
  rcases Nat.lt_or_ge i x.l.length with hlt | hge
  · have hltI : (i : Int) < (x.l.length : Int) := by omega
    have hyi := lim_getD hC.lim i
    obtain ⟨n, hn⟩ : ∃ n, x.l[i]? = some n := ⟨_, List.getElem?_eq_getElem hlt⟩
    have hnl := hB.lim n (List.mem_of_getElem? hn)
    simp only [wsv, wsg, wsh, wsl, cond_true, cond_false, exists_eq_left', Option.some.injEq, Option.isSome_some, List.getElem?_toArray, List.getElem?_cons_zero, List.getElem?_cons_succ, List.length_cons, List.length_nil, List.set_cons_zero, List.set_cons_succ, List.getD_cons_zero, List.getD_cons_succ, Nat.zero_add, Nat.add_zero, Nat.reduceAdd, Nat.reduceLT, Nat.lt_add_one, Nat.zero_lt_succ, decide_true, decide_false, ne_eq, reduceCtorEq, hltI]
    refine hB3.at hn ?_
    refine JoinW.cut (fun s w' => s = [u64 (c + y.l.getD i 0)] ∧ w' = w3) ?_ ?_
    · (try simp only [wsv, wsg, wsh, wsl, cond_true, cond_false, exists_eq_left', Option.some.injEq, Option.isSome_some, List.getElem?_toArray, List.getElem?_cons_zero, List.getElem?_cons_succ, List.length_cons, List.length_nil, List.set_cons_zero, List.set_cons_succ, List.getD_cons_zero, List.getD_cons_succ, Nat.zero_add, Nat.add_zero, Nat.reduceAdd, Nat.reduceLT, Nat.lt_add_one, Nat.zero_lt_succ, decide_true, decide_false, ne_eq, reduceCtorEq, wsh, hC3.hb, hC3.len])
      rw [condW_dec]
      refine ⟨fun hi1 => ?_, fun hi1 => ?_⟩
      · obtain ⟨m, hm⟩ : ∃ n, y.l[i]? = some n := ⟨_, List.getElem?_eq_getElem (by omega)⟩
        have hgd : y.l.getD i 0 = m := by rw [List.getD_eq_getElem?_getD, hm]; rfl
        (try simp only [wsv, wsg, wsh, wsl, cond_true, cond_false, exists_eq_left', Option.some.injEq, Option.isSome_some, List.getElem?_toArray, List.getElem?_cons_zero, List.getElem?_cons_succ, List.length_cons, List.length_nil, List.set_cons_zero, List.set_cons_succ, List.getD_cons_zero, List.getD_cons_succ, Nat.zero_add, Nat.add_zero, Nat.reduceAdd, Nat.reduceLT, Nat.lt_add_one, Nat.zero_lt_succ, decide_true, decide_false, ne_eq, reduceCtorEq, wsh, hC3.hb])
        refine hC3.at hm ?_
        simp only [wsv, wsg, wsh, wsl, cond_true, cond_false, exists_eq_left', Option.some.injEq, Option.isSome_some, List.getElem?_toArray, List.getElem?_cons_zero, List.getElem?_cons_succ, List.length_cons, List.length_nil, List.set_cons_zero, List.set_cons_succ, List.getD_cons_zero, List.getD_cons_succ, Nat.zero_add, Nat.add_zero, Nat.reduceAdd, Nat.reduceLT, Nat.lt_add_one, Nat.zero_lt_succ, decide_true, decide_false, ne_eq, reduceCtorEq]
        rw [hgd] at hyi ⊢
        rw [u64_wrap (by omega) (by omega)]
        simp only [u64, Int.natCast_add]
      · have hgd : y.l.getD i 0 = 0 := by rw [List.getD_eq_getElem?_getD, List.getElem?_eq_none (by omega)]; rfl
        rw [hgd]; first | exact ⟨rfl, rfl⟩ | rfl
    · rintro s gg w4 ⟨rfl, rfl⟩
      have hdx : x.l.drop i = n :: x.l.drop (i + 1) := by
        rw [List.drop_eq_getElem_cons hlt]; congr 1
        exact Option.some.inj ((List.getElem?_eq_getElem hlt).symm.trans hn)
      rw [hdx, minusL_step, headD_drop, List.tail_drop] at he
      have ht : c + y.l.getD i 0 ≤ 1000000000 := by omega
      generalize c + y.l.getD i 0 = t at *
      refine JoinW.cut (fun s w' => s = [u64 (if n < t then 1 else 0), u64 (if n < t then n + 1000000000 else n)] ∧ w' = w4) ?_ ?_
      · simp only [wsv, wsg, wsh, wsl, cond_true, cond_false, exists_eq_left', Option.some.injEq, Option.isSome_some, List.getElem?_toArray, List.getElem?_cons_zero, List.getElem?_cons_succ, List.length_cons, List.length_nil, List.set_cons_zero, List.set_cons_succ, List.getD_cons_zero, List.getD_cons_succ, Nat.zero_add, Nat.add_zero, Nat.reduceAdd, Nat.reduceLT, Nat.lt_add_one, Nat.zero_lt_succ, decide_true, decide_false, ne_eq, reduceCtorEq, condW_dec]
        refine ⟨fun h1 => ?_, fun h1 => ?_⟩
        · rw [if_pos (by omega), if_pos (by omega), u64_wrap (by omega) (by omega)]
          simp only [u64, Int.natCast_add]; rfl
        · rw [if_neg (by omega), if_neg (by omega)]; rfl
      · rintro s gg w5 ⟨rfl, rfl⟩
        have e1 : IntKind.u64.wrap (((if n < t then n + 1000000000 else n : Nat) : Int) - (t : Int)) = (((if n < t then n + 1000000000 - t else n - t : Nat)) : Int) := by
          split
          · rw [u64_wrap (by omega) (by omega)]; omega
          · rw [u64_wrap (by omega) (by omega)]; omega
        simp only [wsv, wsg, wsh, wsl, cond_true, cond_false, exists_eq_left', Option.some.injEq, Option.isSome_some, List.getElem?_toArray, List.getElem?_cons_zero, List.getElem?_cons_succ, List.length_cons, List.length_nil, List.set_cons_zero, List.set_cons_succ, List.getD_cons_zero, List.getD_cons_succ, Nat.zero_add, Nat.add_zero, Nat.reduceAdd, Nat.reduceLT, Nat.lt_add_one, Nat.zero_lt_succ, decide_true, decide_false, ne_eq, reduceCtorEq, e1]
        refine app_u hO hx3.size (by omega) fun v' w' h' hc' => ?_
        rw [up1 (by omega)]
        refine ⟨⟨i + 1, if n < t then 1 else 0, v', l ++ [if n < t then n + 1000000000 - t else n - t], hlt, by split <;> omega, rfl, hx3.then hc' fun k hk e => by omega, h', by simp [hl], ?_⟩, by simp only [Int.toNat_natCast]; omega⟩
        rw [← he]; simp
  · obtain rfl : i = x.l.length := by omega
    simp only [wsv, wsg, wsh, wsl, cond_true, cond_false, exists_eq_left', Option.some.injEq, Option.isSome_some, List.getElem?_toArray, List.getElem?_cons_zero, List.getElem?_cons_succ, List.length_cons, List.length_nil, List.set_cons_zero, List.set_cons_succ, List.getD_cons_zero, List.getD_cons_succ, Nat.zero_add, Nat.add_zero, Nat.reduceAdd, Nat.reduceLT, Nat.lt_add_one, Nat.zero_lt_succ, decide_true, decide_false, ne_eq, reduceCtorEq, Int.lt_irrefl]
    rw [List.drop_length] at he
    simp only [minusL, List.append_nil] at he
    have := hK v w3 (hx.trans hx3)
    rw [← he] at this
    exact this hO.sl

theorem cmpN_I (a b : Nat) : cmpI (a : Int) (b : Int) = cmpN a b := by unfold cmpN cmpI; simp only [Int.ofNat_lt]
theorem size_num {x y : Big} {cs ds : List Value} {w : World} {K : Value → World → Prop} (h : BRep w x cs) (h' : BRep w y ds) (hK : ∀ w', Ext w w' → K (i64 (sizeL x.l y.l)) w') : callF Tryz.prog 195 [.agg cs.toArray, .agg ds.toArray] w K := by
  refine W195_ok ?_
  unfold W195
  refine box_big h fun a w1 sv hB hx ha hz1 => ?_
  refine box_big (h'.ext hx) fun b w2 sv' hC hx2 hb hz2 => ?_
  have hB := hB.ext hx2
  have hx := hx.trans hx2
  clear hx2
  simp only [wsv, wsg, wsh, wsl, cond_true, cond_false, exists_eq_left', Option.some.injEq, Option.isSome_some, List.getElem?_toArray, List.getElem?_cons_zero, List.getElem?_cons_succ, List.length_cons, List.length_nil, List.set_cons_zero, List.set_cons_succ, List.getD_cons_zero, List.getD_cons_succ, Nat.zero_add, Nat.add_zero, Nat.reduceAdd, Nat.reduceLT, Nat.lt_add_one, Nat.zero_lt_succ, decide_true, decide_false, ne_eq, reduceCtorEq, wsh, hB.hb, hC.hb, hB.len, hC.len]
  refine cmp_i ?_
  rw [cmpN_I]
  unfold sizeL at hK
  simp only [wsv, wsg, wsh, wsl, cond_true, cond_false, exists_eq_left', Option.some.injEq, Option.isSome_some, List.getElem?_toArray, List.getElem?_cons_zero, List.getElem?_cons_succ, List.length_cons, List.length_nil, List.set_cons_zero, List.set_cons_succ, List.getD_cons_zero, List.getD_cons_succ, Nat.zero_add, Nat.add_zero, Nat.reduceAdd, Nat.reduceLT, Nat.lt_add_one, Nat.zero_lt_succ, decide_true, decide_false, ne_eq, reduceCtorEq, condW_dec]
  refine ⟨fun h0 => ?_, fun h0 => ?_⟩
  · have := hK w2 hx
    rw [if_pos h0] at this
    exact this
  · have h0 : cmpN x.l.length y.l.length = 0 := Decidable.not_not.1 h0
    rw [if_neg (by rw [h0]; simp)] at hK
    have hl : x.l.length = y.l.length := by
      rcases cmpN_cases x.l.length y.l.length with ⟨_, e⟩ | ⟨e, _⟩ | ⟨_, e⟩
      · rw [h0] at e; cases e
      · exact e
      · rw [h0] at e; cases e
    have hf := hB.few
    simp only [wsv, wsg, wsh, wsl, cond_true, cond_false, exists_eq_left', Option.some.injEq, Option.isSome_some, List.getElem?_toArray, List.getElem?_cons_zero, List.getElem?_cons_succ, List.length_cons, List.length_nil, List.set_cons_zero, List.set_cons_succ, List.getD_cons_zero, List.getD_cons_succ, Nat.zero_add, Nat.add_zero, Nat.reduceAdd, Nat.reduceLT, Nat.lt_add_one, Nat.zero_lt_succ, decide_true, decide_false, ne_eq, reduceCtorEq, wsh, hB.hb, hB.len]
    refine ⟨fun s w' => ∃ m : Nat, m ≤ x.l.length ∧ s = [i64 ((m : Int) - 1)] ∧ Ext w2 w' ∧ sizeR ((x.l.zip y.l).take m).reverse = sizeR (x.l.zip y.l).reverse,
      fun s _ => match s with | [.int _ i] => (i + 1).toNat | _ => 0, ⟨x.l.length, Nat.le_refl _, by rw [wrap_id (by omega) (by omega)], Chg.refl _ _, by rw [List.take_of_length_le (by rw [List.length_zip]; omega)]⟩, ?_⟩
    rintro s g w3 ⟨m, hm, rfl, hx3, he⟩
    have hxd := hx3.trans (Chg.drew (Chg.refl (fun _ => False) w3))
    have hB3 := hB.ext hx3
    have hC3 := hC.ext hx3
    have hBd := hB.ext hxd
    have hCd := hC.ext hxd
    rcases Nat.eq_zero_or_pos m with h1 | h1
    · subst h1
      have e0 : ¬ (0 : Int) ≤ ((0 : Nat) : Int) - 1 := by omega
      simp only [wsv, wsg, wsh, wsl, cond_true, cond_false, exists_eq_left', Option.some.injEq, Option.isSome_some, List.getElem?_toArray, List.getElem?_cons_zero, List.getElem?_cons_succ, List.length_cons, List.length_nil, List.set_cons_zero, List.set_cons_succ, List.getD_cons_zero, List.getD_cons_succ, Nat.zero_add, Nat.add_zero, Nat.reduceAdd, Nat.reduceLT, Nat.lt_add_one, Nat.zero_lt_succ, decide_true, decide_false, ne_eq, reduceCtorEq, e0]
      have := hK w3 (hx.trans hx3)
      rw [← he] at this
      exact this
    · obtain ⟨k, rfl⟩ : ∃ k, m = k + 1 := ⟨m - 1, by omega⟩
      obtain ⟨p, hp⟩ : ∃ p, x.l[k]? = some p := ⟨_, List.getElem?_eq_getElem (by omega)⟩
      obtain ⟨q, hq⟩ : ∃ q, y.l[k]? = some q := ⟨_, List.getElem?_eq_getElem (by omega)⟩
      have hk : ((k + 1 : Nat) : Int) - 1 = ((k : Nat) : Int) := by omega
      have e0 : (0 : Int) ≤ ((k : Nat) : Int) := by omega
      rw [hk]
      simp only [wsv, wsg, wsh, wsl, cond_true, cond_false, exists_eq_left', Option.some.injEq, Option.isSome_some, List.getElem?_toArray, List.getElem?_cons_zero, List.getElem?_cons_succ, List.length_cons, List.length_nil, List.set_cons_zero, List.set_cons_succ, List.getD_cons_zero, List.getD_cons_succ, Nat.zero_add, Nat.add_zero, Nat.reduceAdd, Nat.reduceLT, Nat.lt_add_one, Nat.zero_lt_succ, decide_true, decide_false, ne_eq, reduceCtorEq, e0, wsh, hB3.hb, hC3.hb]
      refine hBd.at hp ?_
      refine hCd.at hq ?_
      refine cmp_u ?_
      have hz : (x.l.zip y.l).take (k + 1) = (x.l.zip y.l).take k ++ [(p, q)] := by
        rw [List.take_add_one, (List.getElem?_zip_eq_some (z := (p, q))).2 ⟨hp, hq⟩]; rfl
      rw [hz, List.reverse_append] at he
      simp only [List.reverse_cons, List.reverse_nil, List.nil_append, List.singleton_append, sizeR] at he
      simp only [wsv, wsg, wsh, wsl, cond_true, cond_false, exists_eq_left', Option.some.injEq, Option.isSome_some, List.getElem?_toArray, List.getElem?_cons_zero, List.getElem?_cons_succ, List.length_cons, List.length_nil, List.set_cons_zero, List.set_cons_succ, List.getD_cons_zero, List.getD_cons_succ, Nat.zero_add, Nat.add_zero, Nat.reduceAdd, Nat.reduceLT, Nat.lt_add_one, Nat.zero_lt_succ, decide_true, decide_false, ne_eq, reduceCtorEq, condW_dec]
      refine ⟨fun h2 => ?_, fun h2 => ?_⟩
      · rw [if_pos h2] at he
        have := hK w3.drew (hx.trans hxd)
        rw [← he] at this
        exact this
      · rw [if_neg h2] at he
        rw [wrap_id (by omega) (by omega)]
        exact ⟨⟨k, by omega, rfl, hxd, he⟩, by omega⟩

theorem turned_ref {x : Big} {cs : List Value} {w : World} {K : Value → World → Prop} (h : BRep w x cs) (hK : ∀ cs' w', Ext w w' → BRep w' (turnB x) cs' → K (.agg cs'.toArray) w') : callF Tryz.prog 172 [.agg cs.toArray] w K := by
  refine W172_ok ?_
  unfold W172
  refine box_big h fun a w1 sv hB hx ha hz1 => ?_
  refine alloc_new fun b w2 hb hz2 hbb hx2 => ?_
  have hB := hB.ext hx2
  have hx := hx.trans hx2
  obtain ⟨T, hs⟩ := hB.l
  obtain ⟨p, cap, rfl, _⟩ := hs.shape
  simp only [wsv, wsg, wsh, wsl, cond_true, cond_false, exists_eq_left', Option.some.injEq, Option.isSome_some, List.getElem?_toArray, List.getElem?_cons_zero, List.getElem?_cons_succ, List.length_cons, List.length_nil, List.set_cons_zero, List.set_cons_succ, List.getD_cons_zero, List.getD_cons_succ, Nat.zero_add, Nat.add_zero, Nat.reduceAdd, Nat.reduceLT, Nat.lt_add_one, Nat.zero_lt_succ, decide_true, decide_false, ne_eq, reduceCtorEq, wsh, hB.hb]
  refine trim_ref (x := ⟨!x.below, x.l⟩) ⟨_, T, rfl, hs, hB.few, hB.lim⟩ fun cs' w3 hx3 hr => ?_
  have hbb := hx3.at hbb id
  refine ret_agg hbb hr.len rfl hr.one fun w4 hc4 => ?_
  exact hK _ w4 ((hx.trans hx3).new hc4 (by have := hx.size; have := hx2.size; omega)) (hr.keep hbb (by intro n e; cases e) hc4)

theorem sum_ref {x y : Big} {cs ds : List Value} {w : World} {K : Value → World → Prop} (h : BRep w x cs) (h' : BRep w y ds) (hfew : x.l.length + y.l.length < 900) (hK : ∀ cs' w', Ext w w' → BRep w' (sumB x y) cs' → K (.agg cs'.toArray) w') : callF Tryz.prog 170 [.agg cs.toArray, .agg ds.toArray] w K := by
  refine W170_ok ?_
  unfold W170
  refine box_big h fun a w1 sv hB hx ha hz1 => ?_
  refine box_big (h'.ext hx) fun b w2 sv' hC hx2 hb hz2 => ?_
  have hB := hB.ext hx2
  have hx := hx.trans hx2
  refine alloc_new fun g w3 hg hz3 hgg hx3 => ?_
  have hB := hB.ext hx3
  have hC := hC.ext hx3
  have hs2 := hx2.size
  have hs := hx.size
  have hx := hx.trans hx3
  have hfin : ∀ (z : Big) (w4 : World) (v : Value), Ext w3 w4 → SlAt w4 U64 v z.l.length (z.l.map u64) → z.l.length ≤ 1000 → Lim z.l → sumB x y = z.trim →
      callF Tryz.prog 194 [.agg [.bool z.below, v].toArray] w4 fun t w6 => stW 2 (ptr g) t w6 fun w7 => ldW true 2 (ptr g) w7 fun r => K r w7 := by
    intro z w4 v hx4 hv hf hl he
    refine trim_ref (x := z) ⟨v, U64, rfl, hv, hf, hl⟩ fun cs' w5 hx5 hr => ?_
    have hgg := hx5.at (hx4.at hgg id) id
    refine ret_agg hgg hr.len rfl hr.one fun w6 hc6 => ?_
    rw [he] at hK
    exact hK _ w6 ((hx.trans (hx4.trans hx5)).new hc6 (by omega)) (hr.keep hgg (by intro n e; cases e) hc6)
  have hxd : Ext w3 w3.drew := Chg.drew (Chg.refl (fun _ => False) w3)
  have hBd := hB.ext hxd
  have hCd := hC.ext hxd
  have hpl : ∀ (x y : List Nat) (c : Nat), (plusL x y c).length ≤ x.length + y.length + 1 := by
    intro x
    induction x with
    | nil => intro y; induction y with
      | nil => intro c; simp [plusL]
      | cons b y ih => intro c; simp only [plusL, List.length_cons]; have := ih ((c + b) / 1000000000); simp only [List.length_nil] at this ⊢; omega
    | cons a x ih =>
      intro y c
      cases y with
      | nil => simp only [plusL, List.length_cons, List.length_nil]; have := ih [] ((c + a) / 1000000000); simp only [List.length_nil] at this; omega
      | cons b y => simp only [plusL, List.length_cons]; have := ih y ((c + a + b) / 1000000000); omega
  have hml : ∀ (x y : List Nat) (c : Nat), (minusL x y c).length = x.length := by
    intro x
    induction x with
    | nil => intro y c; simp [minusL]
    | cons a x ih => intro y c; rw [minusL_step, List.length_cons, ih, List.length_cons]
  have hmlim : ∀ (x y : List Nat) (c : Nat), Lim x → Lim y → c ≤ 1 → Lim (minusL x y c) := by
    intro x
    induction x with
    | nil => intro y c _ _ _; simp [minusL, Lim]
    | cons a x ih =>
      intro y c h1 h2 h3
      rw [minusL_step]
      have ha := h1 a List.mem_cons_self
      have hy : y.headD 0 < 1000000000 := by
        cases y with
        | nil => simp
        | cons b y => exact h2 b List.mem_cons_self
      have := ih y.tail (if a < c + y.headD 0 then 1 else 0) (fun u hu => h1 u (List.mem_cons_of_mem _ hu)) (fun u hu => h2 u (List.mem_of_mem_tail hu)) (by split <;> omega)
      intro u hu
      rcases List.mem_cons.1 hu with rfl | hu
      · split <;> omega
      · exact this u hu
  simp only [wsv, wsg, wsh, wsl, cond_true, cond_false, exists_eq_left', Option.some.injEq, Option.isSome_some, List.getElem?_toArray, List.getElem?_cons_zero, List.getElem?_cons_succ, List.length_cons, List.length_nil, List.set_cons_zero, List.set_cons_succ, List.getD_cons_zero, List.getD_cons_succ, Nat.zero_add, Nat.add_zero, Nat.reduceAdd, Nat.reduceLT, Nat.lt_add_one, Nat.zero_lt_succ, decide_true, decide_false, ne_eq, reduceCtorEq, wsh, hB.hb, hC.hb, eq_bb]
  rw [condW_b]
  unfold sumB at hfin
  refine ⟨fun he => ?_, fun hne => ?_⟩
  · have he : x.below = y.below := by simpa using he
    refine hBd.ld fun cs1 h1 => ?_
    refine hCd.ld fun cs2 h2 => ?_
    refine plus_ref h1 h2 fun v w4 hx4 hv => ?_
    have hB4 := hBd.ext hx4
    obtain ⟨p, c, rfl, _⟩ := hv.shape
    simp only [wsv, wsg, wsh, wsl, cond_true, cond_false, exists_eq_left', Option.some.injEq, Option.isSome_some, List.getElem?_toArray, List.getElem?_cons_zero, List.getElem?_cons_succ, List.length_cons, List.length_nil, List.set_cons_zero, List.set_cons_succ, List.getD_cons_zero, List.getD_cons_succ, Nat.zero_add, Nat.add_zero, Nat.reduceAdd, Nat.reduceLT, Nat.lt_add_one, Nat.zero_lt_succ, decide_true, decide_false, ne_eq, reduceCtorEq, wsh, hB4.hb]
    rw [if_pos he] at hfin
    refine hfin ⟨x.below, plusL x.l y.l 0⟩ w4 _ (hxd.trans hx4) hv ?_ (plusL_lim _ _ _ hB.lim hC.lim (by omega)) rfl
    have := hpl x.l y.l 0
    show (plusL x.l y.l 0).length ≤ 1000
    omega
  · have hne : x.below ≠ y.below := by simpa using hne
    rw [if_neg hne] at hfin
    refine hB.ld fun cs1 h1 => ?_
    refine hC.ld fun cs2 h2 => ?_
    refine size_num h1 h2 fun w4 hx4 => ?_
    have hB4 := hB.ext hx4
    have hC4 := hC.ext hx4
    have hxd4 : Ext w4 w4.drew := Chg.drew (Chg.refl (fun _ => False) w4)
    have hBd := hB4.ext hxd4
    have hCd := hC4.ext hxd4
    simp only [wsv, wsg, wsh, wsl, cond_true, cond_false, exists_eq_left', Option.some.injEq, Option.isSome_some, List.getElem?_toArray, List.getElem?_cons_zero, List.getElem?_cons_succ, List.length_cons, List.length_nil, List.set_cons_zero, List.set_cons_succ, List.getD_cons_zero, List.getD_cons_succ, Nat.zero_add, Nat.add_zero, Nat.reduceAdd, Nat.reduceLT, Nat.lt_add_one, Nat.zero_lt_succ, decide_true, decide_false, ne_eq, reduceCtorEq, condW_dec]
    refine ⟨fun hs => ?_, fun hs => ?_⟩
    · rw [if_pos hs] at hfin
      (try simp only [wsv, wsg, wsh, wsl, cond_true, cond_false, exists_eq_left', Option.some.injEq, Option.isSome_some, List.getElem?_toArray, List.getElem?_cons_zero, List.getElem?_cons_succ, List.length_cons, List.length_nil, List.set_cons_zero, List.set_cons_succ, List.getD_cons_zero, List.getD_cons_succ, Nat.zero_add, Nat.add_zero, Nat.reduceAdd, Nat.reduceLT, Nat.lt_add_one, Nat.zero_lt_succ, decide_true, decide_false, ne_eq, reduceCtorEq, wsh, hB4.hb])
      refine hBd.ld fun cs3 h3 => ?_
      refine hCd.ld fun cs4 h4 => ?_
      refine minus_ref h3 h4 fun v w5 hx5 hv => ?_
      have hB5 := hBd.ext hx5
      obtain ⟨p, c, rfl, _⟩ := hv.shape
      simp only [wsv, wsg, wsh, wsl, cond_true, cond_false, exists_eq_left', Option.some.injEq, Option.isSome_some, List.getElem?_toArray, List.getElem?_cons_zero, List.getElem?_cons_succ, List.length_cons, List.length_nil, List.set_cons_zero, List.set_cons_succ, List.getD_cons_zero, List.getD_cons_succ, Nat.zero_add, Nat.add_zero, Nat.reduceAdd, Nat.reduceLT, Nat.lt_add_one, Nat.zero_lt_succ, decide_true, decide_false, ne_eq, reduceCtorEq, wsh, hB5.hb]
      refine hfin ⟨x.below, minusL x.l y.l 0⟩ w5 _ (hx4.trans (hxd4.trans hx5)) hv ?_ (hmlim _ _ _ hB.lim hC.lim (by omega)) rfl
      show (minusL x.l y.l 0).length ≤ 1000
      rw [hml]; omega
    · rw [if_neg hs] at hfin
      (try simp only [wsv, wsg, wsh, wsl, cond_true, cond_false, exists_eq_left', Option.some.injEq, Option.isSome_some, List.getElem?_toArray, List.getElem?_cons_zero, List.getElem?_cons_succ, List.length_cons, List.length_nil, List.set_cons_zero, List.set_cons_succ, List.getD_cons_zero, List.getD_cons_succ, Nat.zero_add, Nat.add_zero, Nat.reduceAdd, Nat.reduceLT, Nat.lt_add_one, Nat.zero_lt_succ, decide_true, decide_false, ne_eq, reduceCtorEq, wsh, hC4.hb])
      refine hCd.ld fun cs3 h3 => ?_
      refine hBd.ld fun cs4 h4 => ?_
      refine minus_ref h3 h4 fun v w5 hx5 hv => ?_
      have hC5 := hCd.ext hx5
      obtain ⟨p, c, rfl, _⟩ := hv.shape
      simp only [wsv, wsg, wsh, wsl, cond_true, cond_false, exists_eq_left', Option.some.injEq, Option.isSome_some, List.getElem?_toArray, List.getElem?_cons_zero, List.getElem?_cons_succ, List.length_cons, List.length_nil, List.set_cons_zero, List.set_cons_succ, List.getD_cons_zero, List.getD_cons_succ, Nat.zero_add, Nat.add_zero, Nat.reduceAdd, Nat.reduceLT, Nat.lt_add_one, Nat.zero_lt_succ, decide_true, decide_false, ne_eq, reduceCtorEq, wsh, hC5.hb]
      refine hfin ⟨y.below, minusL y.l x.l 0⟩ w5 _ (hx4.trans (hxd4.trans hx5)) hv ?_ (hmlim _ _ _ hC.lim hB.lim (by omega)) rfl
      show (minusL y.l x.l 0).length ≤ 1000
      rw [hml]; omega
end
end Go.Proofs.YtonblcbpoilndaaGreatDoor
