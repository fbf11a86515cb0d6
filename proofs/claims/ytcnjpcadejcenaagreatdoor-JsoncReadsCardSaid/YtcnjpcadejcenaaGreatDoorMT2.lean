/- One plain sentence: weakest preconditions, contracts and plain laws that the claim rests on, text behind text. Conditions: those that each states. -/
import Derived.Test.YtcnjpcadejcenaaGreatDoorMT1
import Derived.Shelf.Strings.Builder1
import Derived.Shelf.Small.Utf8
import Derived.Shelf.Small.Strs
import Derived.Shelf.Small.Wraps
import Derived.Shelf.Strings.BuilderF
import Derived.Shelf.Strings.BuilderK
import Derived.Shelf.Strings.BuilderRune
import Derived.Shelf.Strconv.Itoa0
import Derived.Shelf.Strconv.Itoa1
import Derived.Shelf.LaysM
import Derived.Shelf.Strconv.Itoa2
import Derived.Shelf.Strconv.Itoa3
import Derived.Shelf.Strconv.Itoa4
import Derived.Shelf.Strconv.Clone
import Derived.Ground.MpProg
import Derived.Shelf.Pu.ParseUintPublic10
import Derived.Shelf.Strings.Search1
import Derived.Shelf.Strings.Search2
import Derived.Shelf.Strings.Search3
import Derived.Shelf.Strings.Cut
import Derived.Shelf.Strings.Count
import Derived.Shelf.Strings.Shaped
import Derived.Shelf.Sort.Plain
import Derived.Shelf.Strings.LastIndex
import Derived.Shelf.Strings.Prefix
import Derived.Shelf.Strings.Runes
import Derived.Shelf.Strings.IndexAny
import Derived.Shelf.Strings.AsciiSet
import Derived.Shelf.Strings.IndexAnyAll
import Derived.Shelf.Unicode.DecodeSlow
import Derived.Shelf.Unicode.DecodeAny
import Derived.Ground.Names2Prog
import Derived.Shelf.Slices.Clone
import Derived.Shelf.Slices.CompactS
import Derived.Shelf.Unicode.ValidAny
import Derived.Test.YtcnjpcadejcenaaGreatDoorProg
import Derived.Lib.ConvBytes
import Derived.Lib.ParseIntBCases
import Derived.Lib.Builder
import Derived.ProofKit
import Derived.WalkKit
import Derived.Lib.AppendStr
import Derived.Lib.RuneBytes
import Derived.Lib.DecodeN
set_option linter.all false
set_option linter.unusedSimpArgs false
set_option linter.unusedVariables false
set_option linter.unusedSectionVars false
namespace Go.Proofs.YtcnjpcadejcenaaGreatDoor
open Go Go.Eng Go.Num
set_option maxRecDepth 100000
section
variable [HX]
theorem ret_val {w w0 : World} {b : Nat} {cs ds : List Value} {v : JV} {K : Value → World → Prop} (hb : w.heap[b]? = some (.cells ds.toArray VT (0, 0))) (hd : ds.length = 5) (hl : w0.heap.size ≤ b) (hx : Ext w0 w) (h : VRep w0 v cs)
    (hK : ∀ w', Ext w0 w' → Chg (fun k => k = b) w w' → VRep w' v cs → K (.agg cs.toArray) w') : stW 5 (ptr b) (.agg cs.toArray) w fun w5 => ldW true 5 (ptr b) w5 fun r6 => K r6 w5 :=
  ret_agg hb h.len hd h.all_one fun w' hc => by
    have hx' := hx.new hc hl
    exact hK w' hx' hc (h.ext hx')
theorem ValB.item_old {w0 w : World} {a : Nat} {v : JV} {sv kv : Value} {k : IntKind} {i : Nat} {x : JV} {K : Value → Prop} (h : ValB w0 a v sv kv) (hx : Ext w0 w) (hi : v.xs[i]? = some x) (hK : ∀ cs, VRep w0 x cs → K (.agg cs.toArray)) : ixaW none 5 sv (.int k i) fun p => ldW true 5 p w K := by
  obtain ⟨T, L, h1, h2⟩ := h.items
  obtain ⟨cs, hc, hg⟩ := h2.get hi
  refine ixa_at (size := 5) (h1.ext hx) h2.len (by omega) (List.getElem?_eq_some_iff.1 hi).1 fun b o c fr hb hcc => ?_
  exact ld_cells hb hc.len (fun j hj => (hcc j hj).trans (hg j hj)) (hK cs hc)
theorem idxI_neg {ks : List Str} {k : Str} : idxI ks k < 0 ↔ idxK ks k = none := by
  unfold idxI
  cases h : idxK ks k with
  | none => simp
  | some i => simp
theorem obj_one {k : Int} {b : Bool} {t : Str} {sv kv : Value} (h1 : one1 sv = true) (h2 : one1 kv = true) : ([i64 k, .bool b, str t, sv, kv] : List Value).all one1 = true := by
  simp only [List.all_cons, List.all_nil, h1, h2, Bool.and_true]; rfl
theorem dropP_take {l : List (Str × JV)} {k : Str} {i : Nat} {p : Str × JV} (hi : l[i]? = some p) : dropP (l.take (i + 1)) k = if p.1 = k then dropP (l.take i) k else dropP (l.take i) k ++ [p] := by
  rw [List.take_add_one, hi]
  simp only [dropP, Option.toList_some, List.filter_append]
  by_cases h : p.1 = k <;> simp [h]
theorem zip_get {ks : List Str} {xs : List JV} {i : Nat} {u : Str} {x : JV} (hu : ks[i]? = some u) (hx : xs[i]? = some x) : (ks.zip xs)[i]? = some (u, x) := by
  rw [List.getElem?_zip_eq_some]; exact ⟨hu, hx⟩
theorem insP_take {l : List (Str × JV)} {k : Str} {x : JV} : ∀ (i : Nat), (∀ p ∈ l.take i, Op.bytesLess k p.1 = false) → insP l k x = l.take i ++ insP (l.drop i) k x := by
  induction l with
  | nil => intro i _; simp [insP]
  | cons p l ih =>
    intro i hi
    cases i with
    | zero => rfl
    | succ i =>
      simp only [List.take_succ_cons, List.drop_succ_cons, List.cons_append]
      obtain ⟨a, y⟩ := p
      have h0 := hi (a, y) (by simp)
      simp only [insP, h0, Bool.false_eq_true, if_false]
      rw [ih i fun q hq => hi q (by simp [hq])]
def putGo (l : List (Str × JV)) (k : Str) (x : JV) : Nat → List (Str × JV) × Bool
  | 0 => ([], false)
  | i + 1 => match l[i]? with
    | none => putGo l k x i
    | some p => if (!(putGo l k x i).2 && Op.bytesLess k p.1) then ((putGo l k x i).1 ++ [(k, x)] ++ [p], true) else ((putGo l k x i).1 ++ [p], (putGo l k x i).2)
theorem putGo_spec {l : List (Str × JV)} {k : Str} {x : JV} : ∀ (i : Nat), i ≤ l.length → ((putGo l k x i).2 = false → (putGo l k x i).1 = l.take i ∧ ∀ p ∈ l.take i, Op.bytesLess k p.1 = false) ∧ ((putGo l k x i).2 = true → (putGo l k x i).1 ++ l.drop i = insP l k x)
  | 0, _ => by simp [putGo]
  | i + 1, h => by
    obtain ⟨h1, h2⟩ := putGo_spec (l := l) (k := k) (x := x) i (by omega)
    obtain ⟨p, hp⟩ : ∃ p, l[i]? = some p := ⟨_, List.getElem?_eq_getElem (by omega)⟩
    have hd : l.drop i = p :: l.drop (i + 1) := by
      have hi : i < l.length := h
      rw [List.drop_eq_getElem_cons hi]
      congr 1
      exact Option.some.inj ((List.getElem?_eq_getElem hi).symm.trans hp)
    have ht : l.take (i + 1) = l.take i ++ [p] := by rw [List.take_add_one, hp]; rfl
    simp only [putGo, hp]
    cases hg : (putGo l k x i).2 with
    | true =>
      simp only [Bool.not_true, Bool.false_and, Bool.false_eq_true, if_false]
      refine ⟨(fun e => by cases e), fun _ => ?_⟩
      rw [← h2 hg, hd]; simp
    | false =>
      obtain ⟨e1, e2⟩ := h1 hg
      cases hb : Op.bytesLess k p.1 with
      | true =>
        simp only [Bool.not_false, Bool.and_self, if_true]
        refine ⟨(fun e => by cases e), fun _ => ?_⟩
        obtain ⟨a, y⟩ := p
        rw [e1, insP_take i e2, hd]
        simp only [insP, hb, if_true]
        simp
      | false =>
        simp only [Bool.not_false, Bool.true_and, Bool.false_eq_true, if_false]
        refine ⟨fun _ => ⟨by rw [e1, ht], fun q hq => ?_⟩, fun e => by cases e⟩
        rw [ht] at hq
        rcases List.mem_append.1 hq with hq | hq
        · exact e2 q hq
        · rw [List.mem_singleton.1 hq]; exact hb
theorem putGo_end {l : List (Str × JV)} {k : Str} {x : JV} : insP l k x = if (putGo l k x l.length).2 then (putGo l k x l.length).1 else (putGo l k x l.length).1 ++ [(k, x)] := by
  obtain ⟨h1, h2⟩ := putGo_spec (k := k) (x := x) l.length (Nat.le_refl _)
  cases hg : (putGo l k x l.length).2 with
  | true =>
    rw [if_pos rfl, ← h2 hg]; simp
  | false =>
    obtain ⟨e1, e2⟩ := h1 hg
    rw [List.take_length] at e1 e2
    rw [if_neg (by simp), e1]
    have := insP_take (l := l) (k := k) (x := x) l.length (by rw [List.take_length]; exact e2)
    rw [this]; simp [insP]
theorem putGo_len (l : List (Str × JV)) (k : Str) (x : JV) : ∀ i, (putGo l k x i).1.length ≤ 2 * i
  | 0 => by simp [putGo]
  | i + 1 => by
    have := putGo_len l k x i
    simp only [putGo]
    split
    · omega
    · split <;> simp <;> omega
end
end Go.Proofs.YtcnjpcadejcenaaGreatDoor

namespace Go.Proofs.YtcnjpcadejcenaaGreatDoor
open Go Go.Eng Go.Num
set_option maxRecDepth 100000
section
variable [HX]
theorem text_ref {s : Str} {w : World} {K : Value → World → Prop} (hs : s.length ≤ 9223372036854775807) (hK : ∀ cs w', Ext w w' → VRep w' (.mk 4 false s [] []) cs → K (.agg cs.toArray) w') : callF Tryz.prog 120 [str s] w K := by
  refine W120_ok ?_
  unfold W120
  refine alloc_new fun b w1 hb hz hbb hx => ?_
  simp only [wsv, wsg, wsh, wsl, cond_true, cond_false, exists_eq_left', Option.some.injEq, Option.isSome_some, List.getElem?_toArray, List.getElem?_cons_zero, List.getElem?_cons_succ, List.length_cons, List.length_nil, List.set_cons_zero, List.set_cons_succ, List.getD_cons_zero, List.getD_cons_succ, Nat.zero_add, Nat.add_zero, Nat.reduceAdd, Nat.reduceLT, Nat.lt_add_one, Nat.zero_lt_succ, decide_true, decide_false, ne_eq, reduceCtorEq]
  have h : VRep w (.mk 4 false s [] []) [i64 4, .bool false, str s, .slice none 0 0, .slice none 0 0] := VRep.mk (v := .mk 4 false s [] []) (T1 := 0) (T2 := 0) (SlAt.nil w 0) (by simp [JV.xs, VReps]) (SlAt.nil w 0) ⟨by simp [JV.xs], by simp [JV.ks], by simpa [JV.t] using hs, by simp [JV.ks]⟩
  exact ret_val hbb rfl (by omega) hx h fun w2 hx2 _ h2 => hK _ w2 hx2 h2
theorem copy_new {w : World} {v : JV} {cs : List Value} {K : Value → World → Prop} (h : VRep w v cs) (hK : ∀ a w' sv kv, ValB w' a v sv kv → Ext w w' → K (ptr a) w') :
    allocW VT [(.int .i64 0), (.bool false), (.string (ofL [])), (.slice none 0 0), (.slice none 0 0)] w fun t w1 => stW 5 t (.agg cs.toArray) w1 fun w2 => K t w2 := by
  obtain ⟨sv, kv, T1, T2, L, rfl, h1, h2, h3, h4⟩ := h.out
  refine alloc_new fun a w1 ha hz hb hx => ?_
  refine st_agg_at hb rfl rfl h.all_one fun w2 hz2 hb2 hc2 => ?_
  have hx' := hx.new hc2 (by omega)
  exact hK a w2 sv kv ⟨hb2, ⟨T1, L, h1.ext hx', h2.ext hx'⟩, ⟨T2, h3.ext hx'⟩, h4⟩ hx'
theorem any_take {α : Type} {p : α → Bool} {xs : List α} {i : Nat} {x : α} (hi : xs[i]? = some x) : (xs.take (i + 1)).any p = ((xs.take i).any p || p x) := by
  rw [List.take_add_one, hi]; simp
end
end Go.Proofs.YtcnjpcadejcenaaGreatDoor
namespace Go.Proofs.YtcnjpcadejcenaaGreatDoor
open Go Go.Eng
set_option maxRecDepth 100000
variable [HX]
def plan76 : Plan := { js := [], ds := [] }
def W76 (v0 v1 : Value) (w : World) (K : Value → World → Prop) : Prop :=
  callF Tryz.prog 136 [v0, v1] w fun t7 w1 =>
  binW .geq t7 (.int .i64 0) fun t8 =>
  K t8 w1
theorem W76_eq (v0 v1 : Value) (w : World) (K : Value → World → Prop) : funW Tryz.prog Tryz.f76 plan76 [v0, v1] w K = W76 v0 v1 w K := by kernel_rfl
theorem W76_chk : chkFun Tryz.prog Tryz.f76 plan76 2 = true := by kernel_rfl
theorem W76_ok {v0 v1 : Value} {w : World} {K : Value → World → Prop} (h : W76 v0 v1 w K) : callF Tryz.prog 76 [v0, v1] w K :=
  tie Tryz.prog 76 Tryz.f76 plan76 [v0, v1] w K 2 (W76 v0 v1 w K) rfl mixed Tryz.func76 W76_chk (W76_eq v0 v1 w K) Tryz.call76 h
def plan162 : Plan := { js := [(6004, ⟨[19], [], 17⟩)], ds := [] }
def W162 (v0 v1 : Value) (w : World) (K : Value → World → Prop) : Prop :=
  boxW 26 v0 w fun t2 w1 =>
  allocW 26 [(.int .i64 0), (.bool false), (.string (ofL [])), (.slice none 0 0), (.slice none 0 0)] w1 fun t4 w2 =>
  fldW 4 t2 fun t9 =>
  ldW false 1 t9 w2 fun t10 =>
  callF Tryz.prog 188 [t10, v1] w2 fun t12 w3 =>
  extW 0 t12 fun t13 =>
  extW 1 t12 fun t14 =>
  GdW (isB t14 true) [undef] w3 (fun J4 =>
    fldW 0 t2 fun t17 =>
    ldW false 1 t17 w3 fun t18 =>
    binW .eql t18 (.int .i64 6) fun t19 =>
    J4 [t19] w3)
  fun s4 _ w5 =>
  pickW t14 (s4.getD 0 undef) (.bool false) fun t20 =>
  condW t20 (
    fldW 3 t2 fun t21 =>
    ldW false 1 t21 w5 fun t22 =>
    ixaW none 5 t22 t13 fun t24 =>
    ldW true 5 t24 w5 fun t25 =>
    callF Tryz.prog 189 [t25] w5 fun t26 w6 =>
    stW 5 t4 t26 w6 fun w7 =>
    ldW true 5 t4 w7 fun r8 =>
    K (.tuple #[r8, (.bool true)]) w7) (
    putW [(.int .i64 0), (.bool false), (.string (ofL [])), (.slice none 0 0), (.slice none 0 0)] [] fun c9 =>
    stW 5 t4 (.agg c9.toArray) w5 fun w10 =>
    ldW true 5 t4 w10 fun r11 =>
    K (.tuple #[r11, (.bool false)]) w10)
theorem W162_eq (v0 v1 : Value) (w : World) (K : Value → World → Prop) : funW Tryz.prog Tryz.f162 plan162 [v0, v1] w K = W162 v0 v1 w K := by kernel_rfl
theorem W162_chk : chkFun Tryz.prog Tryz.f162 plan162 2 = true := by kernel_rfl
theorem W162_ok {v0 v1 : Value} {w : World} {K : Value → World → Prop} (h : W162 v0 v1 w K) : callF Tryz.prog 162 [v0, v1] w K :=
  tie Tryz.prog 162 Tryz.f162 plan162 [v0, v1] w K 2 (W162 v0 v1 w K) rfl mixed Tryz.func162 W162_chk (W162_eq v0 v1 w K) Tryz.call162 h
def plan43 : Plan := { js := [(3006, ⟨[10], [], 7⟩)], ds := [] }
def W43 (v0 : Value) (w : World) (K : Value → World → Prop) : Prop :=
  boxW 26 v0 w fun t1 w1 =>
  fldW 0 t1 fun t3 =>
  ldW false 1 t3 w1 fun t4 =>
  binW .neq t4 (.int .i64 1) fun t5 =>
  GdW (isB t5 true) [undef] w1 (fun J2 =>
    fldW 3 t1 fun t7 =>
    ldW false 1 t7 w1 fun t8 =>
    callF Tryz.prog 99 [t8, (.func (.func 100) #[] #[])] w1 fun t9 w3 =>
    unW .not t9 fun t10 =>
    J2 [t10] w3)
  fun s2 _ w4 =>
  pickW t5 (s2.getD 0 undef) (.bool false) fun t11 =>
  K t11 w4
theorem W43_eq (v0 : Value) (w : World) (K : Value → World → Prop) : funW Tryz.prog Tryz.f43 plan43 [v0] w K = W43 v0 w K := by kernel_rfl
theorem W43_chk : chkFun Tryz.prog Tryz.f43 plan43 1 = true := by kernel_rfl
theorem W43_ok {v0 : Value} {w : World} {K : Value → World → Prop} (h : W43 v0 w K) : callF Tryz.prog 43 [v0] w K :=
  tie Tryz.prog 43 Tryz.f43 plan43 [v0] w K 1 (W43 v0 w K) rfl mixed Tryz.func43 W43_chk (W43_eq v0 w K) Tryz.call43 h
def plan136 : Plan := { js := [(6, ⟨[8], [4, 5], 8⟩)], ds := [] }
def W136 (v0 v1 : Value) (w : World) (K : Value → World → Prop) : Prop :=
  lenlW v0 fun t7 =>
  LoopW [(.int .i64 0)] w fun s1 _ w2 L1 =>
    binW .lss (s1.getD 0 undef) t7 fun t9 =>
    condW t9 (
      ixaW none 1 v0 (s1.getD 0 undef) fun t14 =>
      ldW false 1 t14 w2 fun t15 =>
      callV Tryz.prog v1 [t15] w2 fun t16 w3 =>
      condW t16 (
        K (s1.getD 0 undef) w3) (
        binW .add (s1.getD 0 undef) (.int .i64 1) fun t18 =>
        L1 [t18] w3)) (
      K (.int .i64 (-1)) w2)
theorem W136_eq (v0 v1 : Value) (w : World) (K : Value → World → Prop) : funW Tryz.prog Tryz.f136 plan136 [v0, v1] w K = W136 v0 v1 w K := by kernel_rfl
theorem W136_chk : chkFun Tryz.prog Tryz.f136 plan136 2 = true := by kernel_rfl
theorem W136_ok {v0 v1 : Value} {w : World} {K : Value → World → Prop} (h : W136 v0 v1 w K) : callF Tryz.prog 136 [v0, v1] w K :=
  tie Tryz.prog 136 Tryz.f136 plan136 [v0, v1] w K 2 (W136 v0 v1 w K) rfl mixed Tryz.func136 W136_chk (W136_eq v0 v1 w K) Tryz.call136 h
def plan188 : Plan := { js := [(24004, ⟨[52], [], 36⟩), (24005, ⟨[51], [], 43⟩), (24007, ⟨[50], [], 49⟩), (24013, ⟨[48], [], 43⟩), (24020, ⟨[42], [], 36⟩), (8, ⟨[7, 8], [], 7⟩)], ds := [] }
def W188 (v0 v1 : Value) (w : World) (K : Value → World → Prop) : Prop :=
  lenlW v0 fun t11 =>
  LoopW [(.int .i64 0), t11] w fun s1 _ w2 L1 =>
    binW .lss (s1.getD 0 undef) (s1.getD 1 undef) fun t15 =>
    condW t15 (
      binW .add (s1.getD 0 undef) (s1.getD 1 undef) fun t18 =>
      cvtW .u64 t18 fun t19 =>
      binW .shr t19 (.int .u64 1) fun t20 =>
      cvtW .i64 t20 fun t21 =>
      ixaW none 1 v0 t21 fun t24 =>
      ldW false 1 t24 w2 fun t25 =>
      callF Tryz.prog 226 [t25, v1] w2 fun t27 w3 =>
      condW t27 (
        binW .add t21 (.int .i64 1) fun t29 =>
        L1 [t29, (s1.getD 1 undef)] w3) (
        L1 [(s1.getD 0 undef), t21] w3)) (
      binW .lss (s1.getD 0 undef) t11 fun t34 =>
      GdW (isB t34 true) [undef] w2 (fun J4 =>
        ixaW none 1 v0 (s1.getD 0 undef) fun t38 =>
        ldW false 1 t38 w2 fun t39 =>
        binW .eql t39 v1 fun t41 =>
        J4 [t41] w2)
      fun s4 _ w5 =>
      GdW (isB (s4.getD 0 undef) false) [undef] w5 (fun J6 =>
        ixaW none 1 v0 (s1.getD 0 undef) fun t45 =>
        ldW false 1 t45 w5 fun t46 =>
        callF Tryz.prog 227 [t46] w5 fun t47 w7 =>
        J6 [t47] w7)
      fun s6 _ w8 =>
      GdW (isB (s6.getD 0 undef) true) [undef] w8 (fun J9 =>
        callF Tryz.prog 227 [v1] w8 fun t50 w10 =>
        J9 [t50] w10)
      fun s9 _ w11 =>
      GdW (isB (s4.getD 0 undef) false) [undef] w11 (fun J12 =>
        pickW (s6.getD 0 undef) (s9.getD 0 undef) (.bool false) fun t51 =>
        J12 [t51] w11)
      fun s12 _ w13 =>
      GdW (isB t34 true) [undef] w13 (fun J14 =>
        pickW (s4.getD 0 undef) (.bool true) (s12.getD 0 undef) fun t52 =>
        J14 [t52] w13)
      fun s14 _ w15 =>
      pickW t34 (s14.getD 0 undef) (.bool false) fun t53 =>
      K (.tuple #[(s1.getD 0 undef), t53]) w15)
theorem W188_eq (v0 v1 : Value) (w : World) (K : Value → World → Prop) : funW Tryz.prog Tryz.f188 plan188 [v0, v1] w K = W188 v0 v1 w K := by kernel_rfl
theorem W188_chk : chkFun Tryz.prog Tryz.f188 plan188 2 = true := by kernel_rfl
theorem W188_ok {v0 v1 : Value} {w : World} {K : Value → World → Prop} (h : W188 v0 v1 w K) : callF Tryz.prog 188 [v0, v1] w K :=
  tie Tryz.prog 188 Tryz.f188 plan188 [v0, v1] w K 2 (W188 v0 v1 w K) rfl mixed Tryz.func188 W188_chk (W188_eq v0 v1 w K) Tryz.call188 h
def plan189 : Plan := { js := [], ds := [(3, ⟨[0, 1, 3, 4, 6, 8], [[], [0], [0, 1], [], [3], [0, 1, 2, 3, 4], [0, 1, 2, 3, 4], [0, 1, 2, 3, 4, 5, 6], [0, 1, 2, 3, 4, 5, 6, 7], [0, 1, 2, 3, 4, 5, 6, 7, 8]]⟩)] }
def W189 (v0 : Value) (w : World) (K : Value → World → Prop) : Prop :=
  boxW 26 v0 w fun t1 w1 =>
  allocW 26 [(.int .i64 0), (.bool false), (.string (ofL [])), (.slice none 0 0), (.slice none 0 0)] w1 fun t2 w2 =>
  fldW 4 t1 fun t3 =>
  ldW false 1 t3 w2.drew fun t4 =>
  fldW 3 t1 fun t6 =>
  ldW false 1 t6 w2.drew fun t7 =>
  callF Tryz.prog 228 [t4] w2.drew fun t5 w3 =>
  (ldW false 1 t6 w3 fun x => x = t7) ∧
  fldW 4 t1 fun t9 =>
  callF Tryz.prog 229 [t7] w3 fun t8 w4 =>
  stW 1 t9 t5 w4 fun w5 =>
  fldW 3 t1 fun t10 =>
  stW 1 t10 t8 w5 fun w6 =>
  ldW true 5 t1 w6 fun t11 =>
  stW 5 t2 t11 w6 fun w7 =>
  ldW true 5 t2 w7 fun r8 =>
  K r8 w7
theorem W189_eq (v0 : Value) (w : World) (K : Value → World → Prop) : funW Tryz.prog Tryz.f189 plan189 [v0] w K = W189 v0 w K := by kernel_rfl
theorem W189_chk : chkFun Tryz.prog Tryz.f189 plan189 1 = true := by kernel_rfl
theorem W189_ok {v0 : Value} {w : World} {K : Value → World → Prop} (h : W189 v0 w K) : callF Tryz.prog 189 [v0] w K :=
  tie Tryz.prog 189 Tryz.f189 plan189 [v0] w K 1 (W189 v0 w K) rfl mixed Tryz.func189 W189_chk (W189_eq v0 w K) Tryz.call189 h
def plan99 : Plan := { js := [], ds := [] }
def W99 (v0 v1 : Value) (w : World) (K : Value → World → Prop) : Prop :=
  callF Tryz.prog 150 [v0, v1] w fun t7 w1 =>
  binW .geq t7 (.int .i64 0) fun t8 =>
  K t8 w1
theorem W99_eq (v0 v1 : Value) (w : World) (K : Value → World → Prop) : funW Tryz.prog Tryz.f99 plan99 [v0, v1] w K = W99 v0 v1 w K := by kernel_rfl
theorem W99_chk : chkFun Tryz.prog Tryz.f99 plan99 2 = true := by kernel_rfl
theorem W99_ok {v0 v1 : Value} {w : World} {K : Value → World → Prop} (h : W99 v0 v1 w K) : callF Tryz.prog 99 [v0, v1] w K :=
  tie Tryz.prog 99 Tryz.f99 plan99 [v0, v1] w K 2 (W99 v0 v1 w K) rfl mixed Tryz.func99 W99_chk (W99_eq v0 v1 w K) Tryz.call99 h
def plan100 : Plan := { js := [], ds := [] }
def W100 (v0 : Value) (w : World) (K : Value → World → Prop) : Prop :=
  boxW 26 v0 w fun t1 w1 =>
  ldW true 5 t1 w1 fun t3 =>
  callF Tryz.prog 43 [t3] w1 fun t4 w2 =>
  unW .not t4 fun t5 =>
  K t5 w2
theorem W100_eq (v0 : Value) (w : World) (K : Value → World → Prop) : funW Tryz.prog Tryz.f100 plan100 [v0] w K = W100 v0 w K := by kernel_rfl
theorem W100_chk : chkFun Tryz.prog Tryz.f100 plan100 1 = true := by kernel_rfl
theorem W100_ok {v0 : Value} {w : World} {K : Value → World → Prop} (h : W100 v0 w K) : callF Tryz.prog 100 [v0] w K :=
  tie Tryz.prog 100 Tryz.f100 plan100 [v0] w K 1 (W100 v0 w K) rfl mixed Tryz.func100 W100_chk (W100_eq v0 w K) Tryz.call100 h
def plan148 : Plan := { js := [(28003, ⟨[36], [], 35⟩), (16, ⟨[28], [2, 5], 28⟩), (6002, ⟨[23], [], 17⟩), (6004, ⟨[22], [], 21⟩), (6008, ⟨[20], [], 17⟩), (6013, ⟨[14], [], 12⟩)], ds := [] }
def W148 (v0 : Value) (w : World) (K : Value → World → Prop) : Prop :=
  callF Tryz.prog 184 [v0, (.string (ofL [45]))] w fun t7 w1 =>
  lensW t7 fun t9 =>
  binW .lss t9 (.int .i64 1) fun t10 =>
  GdW (isB t10 false) [undef] w1 (fun J2 =>
    lensW t7 fun t13 =>
    binW .gtr t13 (.int .i64 100) fun t14 =>
    J2 [t14] w1)
  fun s2 _ w3 =>
  pickW t10 (.bool true) (s2.getD 0 undef) fun t15 =>
  GdW (isB t15 false) [undef] w3 (fun J4 =>
    ixsW t7 (.int .i64 0) fun t18 =>
    binW .eql t18 (.int .u8 48) fun t19 =>
    J4 [t19] w3)
  fun s4 _ w5 =>
  GdW (isB (s4.getD 0 undef) true) [undef] w5 (fun J6 =>
    binW .neq v0 (.string (ofL [48])) fun t22 =>
    J6 [t22] w5)
  fun s6 _ w7 =>
  GdW (isB t15 false) [undef] w7 (fun J8 =>
    pickW (s4.getD 0 undef) (s6.getD 0 undef) (.bool false) fun t23 =>
    J8 [t23] w7)
  fun s8 _ w9 =>
  pickW t15 (.bool true) (s8.getD 0 undef) fun t24 =>
  condW t24 (
    K (.bool false) w9) (
    semE Tryz.prog (convert 9 44 t7) w9 fun t26 w10 =>
    lenlW t26 fun t27 =>
    LoopW [(.int .i64 0)] w10 fun s11 _ w12 L11 =>
      binW .lss (s11.getD 0 undef) t27 fun t29 =>
      condW t29 (
        ixaW none 1 t26 (s11.getD 0 undef) fun t30 =>
        ldW false 1 t30 w12 fun t31 =>
        binW .lss t31 (.int .u8 48) fun t33 =>
        GdW (isB t33 false) [undef] w12 (fun J13 =>
          binW .gtr t31 (.int .u8 57) fun t36 =>
          J13 [t36] w12)
        fun s13 _ w14 =>
        pickW t33 (.bool true) (s13.getD 0 undef) fun t37 =>
        condW t37 (
          K (.bool false) w14) (
          binW .add (s11.getD 0 undef) (.int .i64 1) fun t38 =>
          L11 [t38] w14)) (
        K (.bool true) w12))
theorem W148_eq (v0 : Value) (w : World) (K : Value → World → Prop) : funW Tryz.prog Tryz.f148 plan148 [v0] w K = W148 v0 w K := by kernel_rfl
theorem W148_chk : chkFun Tryz.prog Tryz.f148 plan148 1 = true := by kernel_rfl
theorem W148_ok {v0 : Value} {w : World} {K : Value → World → Prop} (h : W148 v0 w K) : callF Tryz.prog 148 [v0] w K :=
  tie Tryz.prog 148 Tryz.f148 plan148 [v0] w K 1 (W148 v0 w K) rfl mixed Tryz.func148 W148_chk (W148_eq v0 w K) Tryz.call148 h
def plan228 : Plan := { js := [], ds := [] }
def W228 (v0 : Value) (w : World) (K : Value → World → Prop) : Prop :=
  eqW .slice false v0 (.slice none 0 0) fun t4 =>
  condW t4 (
    K (.slice none 0 0) w) (
    bslW 9 0 [] [] w fun t5 w1 =>
    semE Tryz.prog (Builtin.append_ #[24, 24] 24 #[t5, v0]) w1 fun t7 w2 =>
    K t7 w2)
theorem W228_eq (v0 : Value) (w : World) (K : Value → World → Prop) : funW Tryz.prog Tryz.f228 plan228 [v0] w K = W228 v0 w K := by kernel_rfl
theorem W228_chk : chkFun Tryz.prog Tryz.f228 plan228 1 = true := by kernel_rfl
theorem W228_ok {v0 : Value} {w : World} {K : Value → World → Prop} (h : W228 v0 w K) : callF Tryz.prog 228 [v0] w K :=
  tie Tryz.prog 228 Tryz.f228 plan228 [v0] w K 1 (W228 v0 w K) rfl mixed Tryz.func228 W228_chk (W228_eq v0 w K) Tryz.call228 h
def plan229 : Plan := { js := [(8, ⟨[3, 8], [3, 5], 8⟩)], ds := [] }
def W229 (v0 : Value) (w : World) (K : Value → World → Prop) : Prop :=
  lenlW v0 fun t7 =>
  LoopW [(.slice none 0 0), (.int .i64 0)] w fun s1 _ w2 L1 =>
    binW .lss (s1.getD 1 undef) t7 fun t9 =>
    condW t9 (
      ixaW none 5 v0 (s1.getD 1 undef) fun t10 =>
      ldW true 5 t10 w2 fun t11 =>
      allocW 26 [(.int .i64 0), (.bool false), (.string (ofL [])), (.slice none 0 0), (.slice none 0 0)] w2 fun t5 w3 =>
      stW 5 t5 t11 w3 fun w4 =>
      ldW true 5 t5 w4 fun t13 =>
      callF Tryz.prog 189 [t13] w4 fun t14 w5 =>
      bslW 26 1 [(.int .i64 0), (.bool false), (.string (ofL [])), (.slice none 0 0), (.slice none 0 0)] [(0, 5, t14)] w5 fun t15 w6 =>
      semE Tryz.prog (Builtin.append_ #[23, 23] 23 #[(s1.getD 0 undef), t15]) w6 fun t16 w7 =>
      binW .add (s1.getD 1 undef) (.int .i64 1) fun t17 =>
      L1 [t16, t17] w7) (
      K (s1.getD 0 undef) w2)
theorem W229_eq (v0 : Value) (w : World) (K : Value → World → Prop) : funW Tryz.prog Tryz.f229 plan229 [v0] w K = W229 v0 w K := by kernel_rfl
theorem W229_chk : chkFun Tryz.prog Tryz.f229 plan229 1 = true := by kernel_rfl
theorem W229_ok {v0 : Value} {w : World} {K : Value → World → Prop} (h : W229 v0 w K) : callF Tryz.prog 229 [v0] w K :=
  tie Tryz.prog 229 Tryz.f229 plan229 [v0] w K 1 (W229 v0 w K) rfl mixed Tryz.func229 W229_chk (W229_eq v0 w K) Tryz.call229 h
def plan150 : Plan := { js := [(6, ⟨[8], [4, 5], 8⟩)], ds := [] }
def W150 (v0 v1 : Value) (w : World) (K : Value → World → Prop) : Prop :=
  lenlW v0 fun t7 =>
  LoopW [(.int .i64 0)] w fun s1 _ w2 L1 =>
    binW .lss (s1.getD 0 undef) t7 fun t9 =>
    condW t9 (
      ixaW none 5 v0 (s1.getD 0 undef) fun t14 =>
      ldW true 5 t14 w2 fun t15 =>
      callV Tryz.prog v1 [t15] w2 fun t16 w3 =>
      condW t16 (
        K (s1.getD 0 undef) w3) (
        binW .add (s1.getD 0 undef) (.int .i64 1) fun t18 =>
        L1 [t18] w3)) (
      K (.int .i64 (-1)) w2)
theorem W150_eq (v0 v1 : Value) (w : World) (K : Value → World → Prop) : funW Tryz.prog Tryz.f150 plan150 [v0, v1] w K = W150 v0 v1 w K := by kernel_rfl
theorem W150_chk : chkFun Tryz.prog Tryz.f150 plan150 2 = true := by kernel_rfl
theorem W150_ok {v0 v1 : Value} {w : World} {K : Value → World → Prop} (h : W150 v0 v1 w K) : callF Tryz.prog 150 [v0, v1] w K :=
  tie Tryz.prog 150 Tryz.f150 plan150 [v0, v1] w K 2 (W150 v0 v1 w K) rfl mixed Tryz.func150 W150_chk (W150_eq v0 v1 w K) Tryz.call150 h
def plan227 : Plan := { js := [], ds := [] }
def W227 (v0 : Value) (w : World) (K : Value → World → Prop) : Prop :=
  binW .neq v0 v0 fun t5 =>
  K t5 w
theorem W227_eq (v0 : Value) (w : World) (K : Value → World → Prop) : funW Tryz.prog Tryz.f227 plan227 [v0] w K = W227 v0 w K := by kernel_rfl
theorem W227_chk : chkFun Tryz.prog Tryz.f227 plan227 1 = true := by kernel_rfl
theorem W227_ok {v0 : Value} {w : World} {K : Value → World → Prop} (h : W227 v0 w K) : callF Tryz.prog 227 [v0] w K :=
  tie Tryz.prog 227 Tryz.f227 plan227 [v0] w K 1 (W227 v0 w K) rfl mixed Tryz.func227 W227_chk (W227_eq v0 w K) Tryz.call227 h
def plan184 : Plan := { js := [], ds := [] }
def W184 (v0 v1 : Value) (w : World) (K : Value → World → Prop) : Prop :=
  callF Tryz.prog 222 [v0, v1] w fun t7 w1 =>
  K t7 w1
theorem W184_eq (v0 v1 : Value) (w : World) (K : Value → World → Prop) : funW Tryz.prog Tryz.f184 plan184 [v0, v1] w K = W184 v0 v1 w K := by kernel_rfl
theorem W184_chk : chkFun Tryz.prog Tryz.f184 plan184 2 = true := by kernel_rfl
theorem W184_ok {v0 v1 : Value} {w : World} {K : Value → World → Prop} (h : W184 v0 v1 w K) : callF Tryz.prog 184 [v0, v1] w K :=
  tie Tryz.prog 184 Tryz.f184 plan184 [v0, v1] w K 2 (W184 v0 v1 w K) rfl mixed Tryz.func184 W184_chk (W184_eq v0 v1 w K) Tryz.call184 h
def plan222 : Plan := { js := [], ds := [] }
def W222 (v0 v1 : Value) (w : World) (K : Value → World → Prop) : Prop :=
  callF Tryz.prog 156 [v0, v1] w fun t7 w1 =>
  condW t7 (
    lensW v1 fun t10 =>
    slsW v0 (some t10) none fun t11 =>
    K t11 w1) (
    K v0 w1)
theorem W222_eq (v0 v1 : Value) (w : World) (K : Value → World → Prop) : funW Tryz.prog Tryz.f222 plan222 [v0, v1] w K = W222 v0 v1 w K := by kernel_rfl
theorem W222_chk : chkFun Tryz.prog Tryz.f222 plan222 2 = true := by kernel_rfl
theorem W222_ok {v0 v1 : Value} {w : World} {K : Value → World → Prop} (h : W222 v0 v1 w K) : callF Tryz.prog 222 [v0, v1] w K :=
  tie Tryz.prog 222 Tryz.f222 plan222 [v0, v1] w K 2 (W222 v0 v1 w K) rfl mixed Tryz.func222 W222_chk (W222_eq v0 v1 w K) Tryz.call222 h
def plan225 : Plan := { js := [], ds := [] }
def W225 (v0 v1 v2 : Value) (w : World) (K : Value → World → Prop) : Prop :=
  callF Tryz.prog 255 [v0, v1, v2] w fun t14 w1 =>
  extW 0 t14 fun t15 =>
  extW 1 t14 fun t16 =>
  eqQ Tryz.prog .neq 111 false true t16 .nilIface w1 fun t18 =>
  condW t18 (
    callF Tryz.prog 180 [(.string (ofL [80, 97, 114, 115, 101, 85, 105, 110, 116])), v0, v1, v2, t16] w1 fun t24 w2 =>
    K (.tuple #[t15, t24]) w2) (
    K (.tuple #[t15, .nilIface]) w1)
theorem W225_eq (v0 v1 v2 : Value) (w : World) (K : Value → World → Prop) : funW Tryz.prog Tryz.f225 plan225 [v0, v1, v2] w K = W225 v0 v1 v2 w K := by kernel_rfl
theorem W225_chk : chkFun Tryz.prog Tryz.f225 plan225 3 = true := by kernel_rfl
theorem W225_ok {v0 v1 v2 : Value} {w : World} {K : Value → World → Prop} (h : W225 v0 v1 v2 w K) : callF Tryz.prog 225 [v0, v1, v2] w K :=
  tie Tryz.prog 225 Tryz.f225 plan225 [v0, v1, v2] w K 3 (W225 v0 v1 v2 w K) rfl mixed Tryz.func225 W225_chk (W225_eq v0 v1 v2 w K) Tryz.call225 h
def plan226 : Plan := { js := [(3005, ⟨[15], [], 13⟩), (3010, ⟨[10], [], 8⟩)], ds := [] }
def W226 (v0 v1 : Value) (w : World) (K : Value → World → Prop) : Prop :=
  callF Tryz.prog 146 [v0] w fun t6 w1 =>
  GdW (isB t6 true) [undef] w1 (fun J2 =>
    callF Tryz.prog 146 [v1] w1 fun t9 w3 =>
    unW .not t9 fun t10 =>
    J2 [t10] w3)
  fun s2 _ w4 =>
  pickW t6 (s2.getD 0 undef) (.bool false) fun t11 =>
  GdW (isB t11 false) [undef] w4 (fun J5 =>
    binW .lss v0 v1 fun t15 =>
    J5 [t15] w4)
  fun s5 _ w6 =>
  pickW t11 (.bool true) (s5.getD 0 undef) fun t16 =>
  K t16 w6
theorem W226_eq (v0 v1 : Value) (w : World) (K : Value → World → Prop) : funW Tryz.prog Tryz.f226 plan226 [v0, v1] w K = W226 v0 v1 w K := by kernel_rfl
theorem W226_chk : chkFun Tryz.prog Tryz.f226 plan226 2 = true := by kernel_rfl
theorem W226_ok {v0 v1 : Value} {w : World} {K : Value → World → Prop} (h : W226 v0 v1 w K) : callF Tryz.prog 226 [v0, v1] w K :=
  tie Tryz.prog 226 Tryz.f226 plan226 [v0, v1] w K 2 (W226 v0 v1 w K) rfl mixed Tryz.func226 W226_chk (W226_eq v0 v1 w K) Tryz.call226 h
def plan146 : Plan := { js := [], ds := [] }
def W146 (v0 : Value) (w : World) (K : Value → World → Prop) : Prop :=
  binW .neq v0 v0 fun t5 =>
  K t5 w
theorem W146_eq (v0 : Value) (w : World) (K : Value → World → Prop) : funW Tryz.prog Tryz.f146 plan146 [v0] w K = W146 v0 w K := by kernel_rfl
theorem W146_chk : chkFun Tryz.prog Tryz.f146 plan146 1 = true := by kernel_rfl
theorem W146_ok {v0 : Value} {w : World} {K : Value → World → Prop} (h : W146 v0 w K) : callF Tryz.prog 146 [v0] w K :=
  tie Tryz.prog 146 Tryz.f146 plan146 [v0] w K 1 (W146 v0 w K) rfl mixed Tryz.func146 W146_chk (W146_eq v0 w K) Tryz.call146 h
end Go.Proofs.YtcnjpcadejcenaaGreatDoor
namespace Go.Proofs
open Go.Shelf
def Tryz.lays170_ren : Go.Shelf.Ren := ⟨fun | 170 => 46 | n => n, fun | 70 => 76 | 3 => 3 | 0 => 0 | 72 => 78 | 37 => 44 | 5 => 5 | n => n, fun | n => n⟩
theorem Tryz.lays170 : Go.Proofs.Lays.n170 Tryz.prog Tryz.lays170_ren := {
  mixed := by kernel_rfl
  f170 := Tryz.func46.trans (congrArg some (by kernel_rfl))
  t0 := Tryz.underlying0
  a0 := Tryz.isAgg0
  z0 := Tryz.sizeOf0
  v0 := Tryz.zeroValue0
  t3 := Tryz.underlying3
  a3 := Tryz.isAgg3
  z3 := Tryz.sizeOf3
  v3 := Tryz.zeroValue3
  t37 := Tryz.underlying44
  a37 := Tryz.isAgg44
  z37 := Tryz.sizeOf44
  v37 := Tryz.zeroValue44
  t70 := Tryz.underlying76
  a70 := Tryz.isAgg76
  z70 := Tryz.sizeOf76
  v70 := Tryz.zeroValue76
  t72 := Tryz.underlying78
  a72 := Tryz.isAgg78
  z72 := Tryz.sizeOf78
  v72 := Tryz.zeroValue78 }
def Tryz.lays169_ren : Go.Shelf.Ren := ⟨fun | 169 => 47 | n => n, fun | 70 => 76 | 9 => 9 | 0 => 0 | 72 => 78 | 37 => 44 | 127 => 136 | 3 => 3 | 5 => 5 | n => n, fun | n => n⟩
theorem Tryz.lays169 : Go.Proofs.Lays.n169 Tryz.prog Tryz.lays169_ren := {
  mixed := by kernel_rfl
  f169 := Tryz.func47.trans (congrArg some (by kernel_rfl))
  t0 := Tryz.underlying0
  a0 := Tryz.isAgg0
  z0 := Tryz.sizeOf0
  v0 := Tryz.zeroValue0
  t3 := Tryz.underlying3
  a3 := Tryz.isAgg3
  z3 := Tryz.sizeOf3
  v3 := Tryz.zeroValue3
  t9 := Tryz.underlying9
  a9 := Tryz.isAgg9
  z9 := Tryz.sizeOf9
  v9 := Tryz.zeroValue9
  t37 := Tryz.underlying44
  a37 := Tryz.isAgg44
  z37 := Tryz.sizeOf44
  v37 := Tryz.zeroValue44
  t70 := Tryz.underlying76
  a70 := Tryz.isAgg76
  z70 := Tryz.sizeOf76
  v70 := Tryz.zeroValue76
  t72 := Tryz.underlying78
  a72 := Tryz.isAgg78
  z72 := Tryz.sizeOf78
  v72 := Tryz.zeroValue78
  t127 := Tryz.underlying136
  a127 := Tryz.isAgg136
  z127 := Tryz.sizeOf136
  v127 := Tryz.zeroValue136 }
theorem Tryz.Builder_Extra_169 : Builder.Extra Tryz.prog Tryz.lays169_ren := {
  sizeBuilder := by kernel_rfl
  liesBuilder := by kernel_rfl
  t5 := Tryz.underlying5
  a5 := Tryz.isAgg5
  z5 := Tryz.sizeOf5
  v5 := Tryz.zeroValue5
  infoByte := by kernel_rfl
  cellsByte := by kernel_rfl
  sizeByte := by kernel_rfl
  neB5 := by decide }
def Tryz.lays137_ren : Go.Shelf.Ren := ⟨fun | 137 => 85 | 217 => 141 | 266 => 178 | n => n, fun | 9 => 9 | 5 => 5 | 3 => 3 | n => n, fun | n => n⟩
theorem Tryz.lays137 : Go.Proofs.Lays.n137 Tryz.prog Tryz.lays137_ren := {
  mixed := by kernel_rfl
  f137 := Tryz.func85.trans (congrArg some (by kernel_rfl))
  f217 := Tryz.func141.trans (congrArg some (by kernel_rfl))
  f266 := Tryz.func178.trans (congrArg some (by kernel_rfl))
  t3 := Tryz.underlying3
  a3 := Tryz.isAgg3
  z3 := Tryz.sizeOf3
  v3 := Tryz.zeroValue3
  t5 := Tryz.underlying5
  a5 := Tryz.isAgg5
  z5 := Tryz.sizeOf5
  v5 := Tryz.zeroValue5
  t9 := Tryz.underlying9
  a9 := Tryz.isAgg9
  z9 := Tryz.sizeOf9
  v9 := Tryz.zeroValue9 }
open Go.RowKit in
theorem Tryz.strings_IndexByte (s : ByteArray) (c : Int) (w : World) :
    Calls Tryz.prog 85 #[.string s, .int .u8 c] w fun e w' => e = .returned (.int .i64 (Lib.indexByte s.data.toList c.toNat.toUInt8)) ∧ w' = w := Any.strings_IndexByte Tryz.lays137 s c w
def Tryz.lays121_ren : Go.Shelf.Ren := ⟨fun | 121 => 104 | 214 => 152 | n => n, fun | 4 => 4 | 9 => 9 | n => n, fun | n => n⟩
theorem Tryz.lays121 : Go.Proofs.Lays.n121 Tryz.prog Tryz.lays121_ren := {
  mixed := by kernel_rfl
  f121 := Tryz.func104.trans (congrArg some (by kernel_rfl))
  f214 := Tryz.func152.trans (congrArg some (by kernel_rfl))
  t4 := Tryz.underlying4
  a4 := Tryz.isAgg4
  z4 := Tryz.sizeOf4
  v4 := Tryz.zeroValue4
  t9 := Tryz.underlying9
  a9 := Tryz.isAgg9
  z9 := Tryz.sizeOf9
  v9 := Tryz.zeroValue9 }
open Go.RowKit in
theorem Tryz.strconv_FormatBool (b : Bool) (w : World) :
    Calls Tryz.prog 104 #[.bool b] w fun e w' => e = .returned (.string ⟨(Lib.formatBool b).toArray⟩) ∧ w' = w := Any.strconv_FormatBool Tryz.lays121 b w
open Go.RowKit in
theorem Tryz.Builder_Len_f (B b : Nat) (bs : List Value) (w : World) (h : Lib.IsBuilderF 78 5 B b bs w) :
    Calls Tryz.prog 46 #[.pointer (some ⟨b, 0, none⟩)] w fun e w' => e = .returned (.int .i64 bs.length) ∧ w' = w := Any.Builder_Len_f Tryz.lays170 B b bs w h
open Go.RowKit in
theorem Tryz.Builder_String_any_k (B b : Nat) (l : List UInt8) (w : World) (h : Lib.IsBuilderF 78 5 B b (Lib.byteCells l) w) (hBw : B ≤ w.heap.size) :
    Calls Tryz.prog 47 #[.pointer (some ⟨b, 0, none⟩)] w fun e w' => e = .returned (.string ⟨l.toArray⟩) ∧ (Lib.IsBuilderF 78 5 B b (Lib.byteCells l) w' ∧ Below B w w' ∧ Lib.OthersKept 5 (some b) w w') := Any.Builder_String_any_k Tryz.lays169 Tryz.Builder_Extra_169 B b l w h hBw
def Tryz.laysM316_ren : Go.Shelf.Ren := ⟨fun | 316 => 134 | n => n, fun | 9 => 9 | 3 => 3 | 4 => 4 | 37 => 44 | 0 => 0 | 127 => 136 | 5 => 5 | n => n, fun | n => n⟩
theorem Tryz.laysM316 : Go.Proofs.LaysM.n316 Tryz.prog Tryz.laysM316_ren := {
  mixed := by kernel_rfl
  f316 := Tryz.func134.trans (congrArg some (by kernel_rfl))
  t0 := Tryz.underlying0
  a0 := Tryz.isAgg0
  z0 := Tryz.sizeOf0
  v0 := Tryz.zeroValue0
  t3 := Tryz.underlying3
  a3 := Tryz.isAgg3
  z3 := Tryz.sizeOf3
  v3 := Tryz.zeroValue3
  t4 := Tryz.underlying4
  a4 := Tryz.isAgg4
  z4 := Tryz.sizeOf4
  v4 := Tryz.zeroValue4
  t9 := Tryz.underlying9
  a9 := Tryz.isAgg9
  z9 := Tryz.sizeOf9
  v9 := Tryz.zeroValue9
  t37 := Tryz.underlying44
  a37 := Tryz.isAgg44
  z37 := Tryz.sizeOf44
  v37 := Tryz.zeroValue44
  t127 := Tryz.underlying136
  a127 := Tryz.isAgg136
  z127 := Tryz.sizeOf136
  v127 := Tryz.zeroValue136
  t5 := Tryz.underlying5
  a5 := Tryz.isAgg5
  z5 := Tryz.sizeOf5
  v5 := Tryz.zeroValue5
  i0 := by kernel_rfl
  i3 := by kernel_rfl
  i4 := by kernel_rfl
  i5 := by kernel_rfl
  i9 := by kernel_rfl
  i37 := by kernel_rfl
  i127 := by kernel_rfl }
open Go.RowKit in
theorem Tryz.stringslite_Clone (s : ByteArray) (w : World) (hlim : s.size ≤ 281474976710656) :
    Calls Tryz.prog 134 #[.string s] w fun e w' => e = .returned (.string s) ∧ Below w.heap.size w w' := Any.stringslite_Clone Tryz.laysM316 s w hlim
def Tryz.lays206_ren : Go.Shelf.Ren := ⟨fun | 206 => 156 | n => n, fun | 9 => 9 | 4 => 4 | 3 => 3 | n => n, fun | n => n⟩
theorem Tryz.lays206 : Go.Proofs.Lays.n206 Tryz.prog Tryz.lays206_ren := {
  mixed := by kernel_rfl
  f206 := Tryz.func156.trans (congrArg some (by kernel_rfl))
  t3 := Tryz.underlying3
  a3 := Tryz.isAgg3
  z3 := Tryz.sizeOf3
  v3 := Tryz.zeroValue3
  t4 := Tryz.underlying4
  a4 := Tryz.isAgg4
  z4 := Tryz.sizeOf4
  v4 := Tryz.zeroValue4
  t9 := Tryz.underlying9
  a9 := Tryz.isAgg9
  z9 := Tryz.sizeOf9
  v9 := Tryz.zeroValue9 }
open Go.RowKit Go.Lib in
theorem Tryz.stringslite_HasPrefix (s p : ByteArray) (w : World) :
    Calls Tryz.prog 156 #[.string s, .string p] w fun e w' => e = .returned (.bool (Lib.hasPrefix s.data.toList p.data.toList)) ∧ w' = w := Any.stringslite_HasPrefix Tryz.lays206 s p w
def Tryz.lays99_ren : Go.Shelf.Ren := ⟨fun | 99 => 107 | 206 => 156 | n => n, fun | 9 => 9 | 4 => 4 | 3 => 3 | n => n, fun | n => n⟩
theorem Tryz.lays99 : Go.Proofs.Lays.n99 Tryz.prog Tryz.lays99_ren := {
  mixed := by kernel_rfl
  f99 := Tryz.func107.trans (congrArg some (by kernel_rfl))
  f206 := Tryz.func156.trans (congrArg some (by kernel_rfl))
  t3 := Tryz.underlying3
  a3 := Tryz.isAgg3
  z3 := Tryz.sizeOf3
  v3 := Tryz.zeroValue3
  t4 := Tryz.underlying4
  a4 := Tryz.isAgg4
  z4 := Tryz.sizeOf4
  v4 := Tryz.zeroValue4
  t9 := Tryz.underlying9
  a9 := Tryz.isAgg9
  z9 := Tryz.sizeOf9
  v9 := Tryz.zeroValue9 }
open Go.RowKit Go.Lib in
theorem Tryz.strings_HasPrefix (s p : ByteArray) (w : World) :
    Calls Tryz.prog 107 #[.string s, .string p] w fun e w' => e = .returned (.bool (Lib.hasPrefix s.data.toList p.data.toList)) ∧ w' = w := Any.strings_HasPrefix Tryz.lays99 s p w
def Tryz.lays197_ren : Go.Shelf.Ren := ⟨fun | 197 => 159 | 260 => 186 | n => n, fun | 9 => 9 | 21 => 21 | 3 => 3 | 4 => 4 | 5 => 5 | 105 => 164 | 119 => 157 | 0 => 0 | 46 => 43 | 139 => 160 | 138 => 159 | n => n, fun | 3 => 0 | 4 => 1 | n => n⟩
theorem Tryz.lays197 : Go.Proofs.Lays.n197 Tryz.prog Tryz.lays197_ren := {
  mixed := by kernel_rfl
  f197 := Tryz.func159.trans (congrArg some (by kernel_rfl))
  f260 := Tryz.func186.trans (congrArg some (by kernel_rfl))
  t0 := Tryz.underlying0
  a0 := Tryz.isAgg0
  z0 := Tryz.sizeOf0
  v0 := Tryz.zeroValue0
  t3 := Tryz.underlying3
  a3 := Tryz.isAgg3
  z3 := Tryz.sizeOf3
  v3 := Tryz.zeroValue3
  t4 := Tryz.underlying4
  a4 := Tryz.isAgg4
  z4 := Tryz.sizeOf4
  v4 := Tryz.zeroValue4
  t5 := Tryz.underlying5
  a5 := Tryz.isAgg5
  z5 := Tryz.sizeOf5
  v5 := Tryz.zeroValue5
  t9 := Tryz.underlying9
  a9 := Tryz.isAgg9
  z9 := Tryz.sizeOf9
  v9 := Tryz.zeroValue9
  t21 := Tryz.underlying21
  a21 := Tryz.isAgg21
  z21 := Tryz.sizeOf21
  v21 := Tryz.zeroValue21
  t46 := Tryz.underlying43
  a46 := Tryz.isAgg43
  z46 := Tryz.sizeOf43
  v46 := Tryz.zeroValue43
  t105 := Tryz.underlying164
  a105 := Tryz.isAgg164
  z105 := Tryz.sizeOf164
  v105 := Tryz.zeroValue164
  t119 := Tryz.underlying157
  a119 := Tryz.isAgg157
  z119 := Tryz.sizeOf157
  t138 := Tryz.underlying159
  a138 := Tryz.isAgg159
  z138 := Tryz.sizeOf159
  v138 := Tryz.zeroValue159
  t139 := Tryz.underlying160
  a139 := Tryz.isAgg160
  z139 := Tryz.sizeOf160
  v139 := Tryz.zeroValue160
  g3 := by kernel_rfl
  g4 := by kernel_rfl }
open Go.RowKit Go.Lib in
theorem Tryz.utf8_DecodeRuneInString (s : ByteArray) (w : World) (hT : Lib.Utf8Tabs 0 1 w) :
    Calls Tryz.prog 159 #[.string s] w fun e w' => e = .returned (.tuple #[.int .i32 (Lib.decodeGo s).1, .int .i64 (Lib.decodeGo s).2]) ∧ Below w.heap.size w w' := Any.utf8_DecodeRuneInString Tryz.lays197 s w hT
def Tryz.laysValid_ren : Go.Shelf.Ren := ⟨fun | 196 => 102 | 259 => 151 | n => n, fun | 9 => 9 | 4 => 4 | 3 => 3 | 5 => 5 | 12 => 12 | 119 => 157 | 0 => 0 | 46 => 43 | 139 => 160 | 138 => 159 | 53 => 182 | n => n, fun | 3 => 0 | 4 => 1 | n => n⟩
theorem Tryz.laysValid : Go.Proofs.Lays.n196 Tryz.prog Tryz.laysValid_ren := {
  mixed := by kernel_rfl
  f196 := Tryz.func102.trans (congrArg some (by kernel_rfl))
  f259 := Tryz.func151.trans (congrArg some (by kernel_rfl))
  t0 := Tryz.underlying0
  a0 := Tryz.isAgg0
  z0 := Tryz.sizeOf0
  v0 := Tryz.zeroValue0
  t3 := Tryz.underlying3
  a3 := Tryz.isAgg3
  z3 := Tryz.sizeOf3
  v3 := Tryz.zeroValue3
  t4 := Tryz.underlying4
  a4 := Tryz.isAgg4
  z4 := Tryz.sizeOf4
  v4 := Tryz.zeroValue4
  t5 := Tryz.underlying5
  a5 := Tryz.isAgg5
  z5 := Tryz.sizeOf5
  v5 := Tryz.zeroValue5
  t9 := Tryz.underlying9
  a9 := Tryz.isAgg9
  z9 := Tryz.sizeOf9
  v9 := Tryz.zeroValue9
  t12 := Tryz.underlying12
  a12 := Tryz.isAgg12
  z12 := Tryz.sizeOf12
  v12 := Tryz.zeroValue12
  t46 := Tryz.underlying43
  a46 := Tryz.isAgg43
  z46 := Tryz.sizeOf43
  v46 := Tryz.zeroValue43
  t53 := Tryz.underlying182
  a53 := Tryz.isAgg182
  z53 := Tryz.sizeOf182
  v53 := Tryz.zeroValue182
  t119 := Tryz.underlying157
  a119 := Tryz.isAgg157
  z119 := Tryz.sizeOf157
  t138 := Tryz.underlying159
  a138 := Tryz.isAgg159
  z138 := Tryz.sizeOf159
  v138 := Tryz.zeroValue159
  t139 := Tryz.underlying160
  a139 := Tryz.isAgg160
  z139 := Tryz.sizeOf160
  v139 := Tryz.zeroValue160
  g3 := by kernel_rfl
  g4 := by kernel_rfl }
open Go.RowKit Go.Lib in
theorem Tryz.utf8_ValidString (s : ByteArray) (w : World) (hs : s.size ≤ 9223372036854775807) (hT : Lib.Utf8Tabs (Tryz.laysValid_ren.g 3) (Tryz.laysValid_ren.g 4) w) :
    Calls Tryz.prog 102 #[.string s] w fun e w' => e = .returned (.bool (Lib.validD s.data.toList)) ∧ Below w.heap.size w w' := Any.utf8_ValidString Tryz.laysValid s w hs hT
end Go.Proofs
namespace Go.Proofs.YtcnjpcadejcenaaGreatDoor
open Go Go.Eng Go.Num
set_option maxRecDepth 100000
abbrev u64 (n : Nat) : Value := .int .u64 (n : Int)
abbrev U8 : TypeId := 5
theorem bytes_ext (w : World) (e : TypeId) (s : ByteArray) : Ext w (Lib.bytesWorld w e s) :=
  ⟨rfl, rfl, rfl, by rw [Lib.bytesWorld_size]; omega, fun k hk _ => Lib.bytesWorld_at_old w e s k hk⟩
theorem to_bytes {l : Str} {w : World} {src dst : TypeId} {K : Value → World → Prop} (hs : Tryz.prog.underlying src = some .string) (hd : Tryz.prog.underlying dst = some (.slice U8)) (he : Tryz.prog.underlying U8 = some (.int .u8))
    (hK : ∀ v w', Byt w' U8 v l → Ext w w' → K v w') : semE Tryz.prog (convert src dst (str l)) w K := by
  unfold semE
  rw [Lib.run_convert_string_bytes w src dst U8 (ofL l) hs hd he]
  refine hK _ _ ?_ (bytes_ext _ _ _)
  have hle : (ofL l).size ≤ grownCap w (ofL l).size 0 U8 := by
    exact grownCap_ge w (ofL l).size 0 U8
  refine ⟨some ⟨w.heap.size, 0, none⟩, grownCap w (ofL l).size 0 U8, by rw [ofL_size], by rw [← ofL_size]; exact hle, (fun e => by cases e), fun _ => ⟨w.heap.size, 0, _, _, rfl, Lib.bytesWorld_at_new w U8 (ofL l), fun i hi => ?_⟩⟩
  have hi : i < (ofL l).size := by rw [ofL_size]; simpa [u8s_length] using hi
  have := Lib.bytesWorld_cell w U8 (ofL l) i hi
  rw [cell_eq, Lib.bytesWorld_at_new, cellO_some] at this
  rw [Nat.zero_add, this, u8s_get, ofL_data]
  have hi' : i < l.length := by rw [ofL_size] at hi; exact hi
  simp [List.getD_eq_getElem?_getD, List.getElem?_eq_getElem hi']
theorem of_calls [HX] {g : FuncId} {args : Array Value} {w : World} {K : Value → World → Prop} (hr : ∀ (ar : Array Value) (w : World), (callFunc g ar).run Tryz.prog w = .ok (.enter g ar) w)
    (h : Calls Tryz.prog g args w fun e w' => ∃ v, e = .returned v ∧ K v w') : callF Tryz.prog g args.toList w K := by
  unfold callF
  rw [show args.toList.toArray = args from by simp, hr]
  refine h.mono ?_
  rintro e w' ⟨v, rfl, hk⟩
  exact hk
section
variable [HX]
theorem nan_s (s : Str) (KK : Value → Prop) (h : KK (.bool false)) : binW .neq (str s) (str s) KK := by rw [bin_sne]; simpa using h
theorem isnan_s {s : Str} {w : World} {K : Value → World → Prop} (hK : K (.bool false) w) : callF Tryz.prog 146 [str s] w K := by
  refine W146_ok ?_
  exact nan_s s _ hK
theorem isnan_s2 {s : Str} {w : World} {K : Value → World → Prop} (hK : K (.bool false) w) : callF Tryz.prog 227 [str s] w K := by
  refine W227_ok ?_
  exact nan_s s _ hK
theorem cmp_less {a b : Str} {w : World} {K : Value → World → Prop} (hK : K (.bool (Op.bytesLess a b)) w) : callF Tryz.prog 226 [str a, str b] w K := by
  refine W226_ok ?_
  unfold W226
  refine isnan_s ?_
  simp only [wsv, wsg, wsh, wsl, cond_true, cond_false, exists_eq_left', Option.some.injEq, Option.isSome_some, List.getElem?_toArray, List.getElem?_cons_zero, List.getElem?_cons_succ, List.length_cons, List.length_nil, List.set_cons_zero, List.set_cons_succ, List.getD_cons_zero, List.getD_cons_succ, Nat.zero_add, Nat.add_zero, Nat.reduceAdd, Nat.reduceLT, Nat.lt_add_one, Nat.zero_lt_succ, decide_true, decide_false, ne_eq, reduceCtorEq]
  intros
  exact hK
theorem pre_ref {s p : Str} {w : World} {K : Value → World → Prop} (hs : s.length ≤ 9223372036854775807) (hK : K (.bool (p.isPrefixOf s)) w) : callF Tryz.prog 156 [str s, str p] w K := by
  refine of_calls (args := #[str s, str p]) Tryz.call156 ((Tryz.stringslite_HasPrefix (ofL s) (ofL p) w).mono ?_)
  rintro e w' ⟨rfl, rfl⟩
  refine ⟨_, rfl, ?_⟩
  rw [ofL_data, ofL_data]
  exact hK
theorem trimpre_ref {a : Str} {w : World} {K : Value → World → Prop} (hs : a.length ≤ 9223372036854775807) (hK : K (str (dig a)) w) : callF Tryz.prog 184 [str a, str [45]] w K := by
  refine W184_ok ?_
  unfold W184
  refine W222_ok ?_
  unfold W222
  refine pre_ref hs ?_
  cases a with
  | nil =>
    rw [show ([45] : Str).isPrefixOf [] = false from rfl]
    simp only [wsv, wsg, wsh, wsl, cond_true, cond_false, exists_eq_left', Option.some.injEq, Option.isSome_some, List.getElem?_toArray, List.getElem?_cons_zero, List.getElem?_cons_succ, List.length_cons, List.length_nil, List.set_cons_zero, List.set_cons_succ, List.getD_cons_zero, List.getD_cons_succ, Nat.zero_add, Nat.add_zero, Nat.reduceAdd, Nat.reduceLT, Nat.lt_add_one, Nat.zero_lt_succ, decide_true, decide_false, ne_eq, reduceCtorEq]
    exact hK
  | cons c r =>
    by_cases hc : c = 45
    · subst hc
      have e : ([45] : Str).isPrefixOf (45 :: r) = true := by simp [List.isPrefixOf]
      have ed : dig (45 :: r) = r := by simp [dig]
      rw [ed] at hK
      rw [e]
      have e1 : ((0 + 1 : Nat) : Int).toNat = 1 := rfl
      simp only [wsv, wsg, wsh, wsl, cond_true, cond_false, exists_eq_left', Option.some.injEq, Option.isSome_some, List.getElem?_toArray, List.getElem?_cons_zero, List.getElem?_cons_succ, List.length_cons, List.length_nil, List.set_cons_zero, List.set_cons_succ, List.getD_cons_zero, List.getD_cons_succ, Nat.zero_add, Nat.add_zero, Nat.reduceAdd, Nat.reduceLT, Nat.lt_add_one, Nat.zero_lt_succ, decide_true, decide_false, ne_eq, reduceCtorEq, e1]
      refine ⟨by omega, by omega, ?_⟩
      rw [← List.length_cons (a := (45 : UInt8)), List.take_length]
      exact hK
    · have e : ([45] : Str).isPrefixOf (c :: r) = false := by simp [List.isPrefixOf, Ne.symm hc]
      have ed : dig (c :: r) = c :: r := by simp [dig, hc]
      rw [ed] at hK
      rw [e]
      simp only [wsv, wsg, wsh, wsl, cond_true, cond_false, exists_eq_left', Option.some.injEq, Option.isSome_some, List.getElem?_toArray, List.getElem?_cons_zero, List.getElem?_cons_succ, List.length_cons, List.length_nil, List.set_cons_zero, List.set_cons_succ, List.getD_cons_zero, List.getD_cons_succ, Nat.zero_add, Nat.add_zero, Nat.reduceAdd, Nat.reduceLT, Nat.lt_add_one, Nat.zero_lt_succ, decide_true, decide_false, ne_eq, reduceCtorEq]
      exact hK
theorem numgood_ref {a : Str} {w : World} {K : Value → World → Prop} (ha : a.length ≤ 9223372036854775807) (hK : ∀ w', Ext w w' → K (.bool (goodN a)) w') : callF Tryz.prog 148 [str a] w K := by
  refine W148_ok ?_
  unfold W148
  refine trimpre_ref ha ?_
  have hg : goodN a = (!decide ((dig a).length < 1) && !decide (100 < (dig a).length) && !((dig a).head? == some 48 && !decide (a = [48])) && (dig a).all Num.isDig) := by
    unfold goodN
    have e1 : decide (1 ≤ (dig a).length) = !decide ((dig a).length < 1) := by rw [← decide_not]; exact decide_eq_decide.2 (by omega)
    have e2 : decide ((dig a).length ≤ 100) = !decide (100 < (dig a).length) := by rw [← decide_not]; exact decide_eq_decide.2 (by omega)
    rw [e1, e2]
    cases ((dig a).head? == some 48) <;> cases decide (a = [48]) <;> simp
  rw [hg] at hK
  have hdl : (dig a).length ≤ a.length := by
    cases a with
    | nil => simp [dig]
    | cons c r => simp only [dig]; split <;> simp
  cases hd : dig a with
  | nil =>
    rw [hd] at hK
    have hz : decide (((0 : Nat) : Int) < 1) = true := by decide
    simp only [wsv, wsg, wsh, wsl, cond_true, cond_false, exists_eq_left', Option.some.injEq, Option.isSome_some, List.getElem?_toArray, List.getElem?_cons_zero, List.getElem?_cons_succ, List.length_cons, List.length_nil, List.set_cons_zero, List.set_cons_succ, List.getD_cons_zero, List.getD_cons_succ, Nat.zero_add, Nat.add_zero, Nat.reduceAdd, Nat.reduceLT, Nat.lt_add_one, Nat.zero_lt_succ, decide_true, decide_false, ne_eq, reduceCtorEq, hz]
    intros
    exact hK _ (Chg.refl _ _)
  | cons c r =>
    rw [hd] at hK hdl
    have hz : decide (((r.length + 1 : Nat) : Int) < 1) = false := decide_eq_false (by omega)
    simp only [wsv, wsg, wsh, wsl, cond_true, cond_false, exists_eq_left', Option.some.injEq, Option.isSome_some, List.getElem?_toArray, List.getElem?_cons_zero, List.getElem?_cons_succ, List.length_cons, List.length_nil, List.set_cons_zero, List.set_cons_succ, List.getD_cons_zero, List.getD_cons_succ, Nat.zero_add, Nat.add_zero, Nat.reduceAdd, Nat.reduceLT, Nat.lt_add_one, Nat.zero_lt_succ, decide_true, decide_false, ne_eq, reduceCtorEq, Int.le_refl, Int.toNat_zero, u8_is c 48 48 rfl, hz]
    intros
    rw [condW_b]
    have e1 : decide ((100 : Int) < ((r.length + 1 : Nat) : Int)) = decide (100 < (c :: r).length) := decide_eq_decide.2 (by simp only [List.length_cons]; omega)
    have e4 : decide ((c :: r).length < 1) = false := decide_eq_false (by simp)
    have e5 : ((c :: r).head? == some 48) = (c == 48) := by simp
    rw [e1]
    rw [e4, e5] at hK
    simp only [decide_not]
    generalize decide (100 < (c :: r).length) = b1 at *
    generalize ((c == 48) && !decide (a = [48])) = b2 at *
    refine ⟨fun h => ?_, fun h => ?_⟩
    · have := hK _ (Chg.refl _ _)
      have e : (!false && !b1 && !b2 && (c :: r).all Num.isDig) = false := by
        cases b1 <;> cases b2 <;> simp at h ⊢
      rw [e] at this
      exact this
    · have hb : b1 = false ∧ b2 = false := by simpa using h
      rw [hb.1, hb.2] at hK
      refine to_bytes (l := c :: r) (by kernel_rfl) (by kernel_rfl) (by kernel_rfl) fun v w1 hv hx1 => ?_
      rw [lenl_at hv]
      generalize c :: r = D at *
      refine loop_up D.length (fun i w2 => Ext w1 w2 ∧ (D.take i).all Num.isDig = true) ⟨Chg.refl _ _, rfl⟩ ?_ ?_
      · rintro i w2 g L hi ⟨hx2, hall⟩ hL
        obtain ⟨e, he⟩ : ∃ e, D[i]? = some e := ⟨_, List.getElem?_eq_getElem hi⟩
        have hlt : ((i : Int) < ((D.length : Nat) : Int)) := by omega
        simp only [wsv, wsg, wsh, wsl, cond_true, cond_false, exists_eq_left', Option.some.injEq, Option.isSome_some, List.getElem?_toArray, List.getElem?_cons_zero, List.getElem?_cons_succ, List.length_cons, List.length_nil, List.set_cons_zero, List.set_cons_succ, List.getD_cons_zero, List.getD_cons_succ, Nat.zero_add, Nat.add_zero, Nat.reduceAdd, Nat.reduceLT, Nat.lt_add_one, Nat.zero_lt_succ, decide_true, decide_false, ne_eq, reduceCtorEq, hlt]
        refine ixa_ld (hv.ext hx2) (by rw [u8s_length]) (by rw [u8s_get, he]; rfl) ?_
        simp only [wsv, wsg, wsh, wsl, cond_true, cond_false, exists_eq_left', Option.some.injEq, Option.isSome_some, List.getElem?_toArray, List.getElem?_cons_zero, List.getElem?_cons_succ, List.length_cons, List.length_nil, List.set_cons_zero, List.set_cons_succ, List.getD_cons_zero, List.getD_cons_succ, Nat.zero_add, Nat.add_zero, Nat.reduceAdd, Nat.reduceLT, Nat.lt_add_one, Nat.zero_lt_succ, decide_true, decide_false, ne_eq, reduceCtorEq, isDig_out]
        intros
        rw [condW_b]
        refine ⟨fun hf => ?_, fun ht => ?_⟩
        · have hf : Num.isDig e = false := by simpa using hf
          have := hK _ (hx1.trans hx2)
          rw [all_no he hf] at this
          exact this
        · have ht : Num.isDig e = true := by simpa using ht
          rw [up1 (by omega)]
          exact hL _ ⟨hx2, by rw [all_take he, hall, ht]; rfl⟩
      · rintro w2 g L ⟨hx2, hall⟩
        simp only [wsv, wsg, wsh, wsl, cond_true, cond_false, exists_eq_left', Option.some.injEq, Option.isSome_some, List.getElem?_toArray, List.getElem?_cons_zero, List.getElem?_cons_succ, List.length_cons, List.length_nil, List.set_cons_zero, List.set_cons_succ, List.getD_cons_zero, List.getD_cons_succ, Nat.zero_add, Nat.add_zero, Nat.reduceAdd, Nat.reduceLT, Nat.lt_add_one, Nat.zero_lt_succ, decide_true, decide_false, ne_eq, reduceCtorEq, Int.lt_irrefl]
        rw [List.take_length] at hall
        have := hK w2 (hx1.trans hx2)
        rw [hall] at this
        exact this
end
end Go.Proofs.YtcnjpcadejcenaaGreatDoor
namespace Go.Proofs
open Go.RowKit Go.Lib Go.Shelf
abbrev BdT : TypeId := 78
set_option maxHeartbeats 1000000 in
set_option maxRecDepth 100000 in
theorem Tryz.check_used (b : Nat) (w : World) (h0 : w.cell? ⟨b, 0, none⟩ = some (.pointer (some ⟨b, 0, none⟩))) :
    Calls Tryz.prog 137 #[.pointer (some ⟨b, 0, none⟩)] w fun e w' => e = .returned (.tuple #[]) ∧ w' = w := by
  obtain ⟨j, hj, _⟩ := Option.map_eq_some_iff.1 (show (Tryz.prog.info? 78).map (·.size) = some 2 by kernel_rfl)
  go_enter Tryz.func137, Tryz.ntmps137
  go_wp2
  rw [Lib.run_neq_ptr_same w _ Tryz.underlying76 hj]
  go_wp2
  go_end0
  exact ⟨rfl, rfl⟩
set_option maxHeartbeats 1000000 in
set_option maxRecDepth 100000 in
theorem Tryz.check_fresh (b : Nat) (w : World) (h0 : w.cell? ⟨b, 0, none⟩ = some (.pointer none)) (hsh : w.shape? b = some (78, 2)) (hfz : w.frozen? ⟨b, 0, none⟩ = false) :
    Calls Tryz.prog 137 #[.pointer (some ⟨b, 0, none⟩)] w fun e w' => e = .returned (.tuple #[]) ∧ w' = w.setCell ⟨b, 0, none⟩ (.pointer (some ⟨b, 0, none⟩)) := by
  obtain ⟨j, hj, hjs⟩ := Option.map_eq_some_iff.1 (show (Tryz.prog.info? 78).map (·.size) = some 2 by kernel_rfl)
  go_enter Tryz.func137, Tryz.ntmps137
  go_wp2
  rw [Lib.run_to_unsafe w ⟨b, 0, none⟩ Tryz.underlying76 Tryz.underlying177 hj (by rw [hjs]; decide) hsh (Nat.zero_lt_succ 1)]
  simp only [Result.andThen]
  rw [Oper.upon_value]
  go_wp2
  rw [run_callFunc_extern Tryz.func176 (by kernel_rfl) (by kernel_rfl) (by kernel_rfl) (e := Extern.AbiNoEscape.same) (by kernel_rfl)]
  rw [Lib.run_noEscape]
  simp only [Result.andThen]
  rw [Oper.upon_value]
  go_wp2
  rw [Lib.run_from_unsafe w ⟨b, 0, none⟩ Tryz.underlying177 Tryz.underlying76 hj hsh (show liesAt Tryz.prog Tryz.prog.depth 78 (2 / Tryz.prog.cellsOf 78) 0 78 1 = true by kernel_rfl)]
  simp only [Result.andThen]
  rw [Oper.upon_value]
  go_wp2
  go_end0
  exact ⟨rfl, rfl⟩
end Go.Proofs
namespace Go.Proofs.YtcnjpcadejcenaaGreatDoor
open Go Go.Eng
set_option maxRecDepth 100000
variable [HX]
def plan78 : Plan := { js := [], ds := [] }
def W78 (v0 v1 : Value) (w : World) (K : Value → World → Prop) : Prop :=
  callF Tryz.prog 137 [v0] w fun t7 w1 =>
  nilW v0 fun t10 =>
  fldW 1 t10 fun t11 =>
  ldW false 1 t11 w1 fun t12 =>
  semE Tryz.prog (Builtin.append_ #[44, 9] 44 #[t12, v1]) w1 fun t14 w2 =>
  nilW v0 fun t15 =>
  fldW 1 t15 fun t16 =>
  stW 1 t16 t14 w2 fun w3 =>
  lensW v1 fun t18 =>
  K (.tuple #[t18, .nilIface]) w3
theorem W78_eq (v0 v1 : Value) (w : World) (K : Value → World → Prop) : funW Tryz.prog Tryz.f78 plan78 [v0, v1] w K = W78 v0 v1 w K := by kernel_rfl
theorem W78_chk : chkFun Tryz.prog Tryz.f78 plan78 2 = true := by kernel_rfl
theorem W78_ok {v0 v1 : Value} {w : World} {K : Value → World → Prop} (h : W78 v0 v1 w K) : callF Tryz.prog 78 [v0, v1] w K :=
  tie Tryz.prog 78 Tryz.f78 plan78 [v0, v1] w K 2 (W78 v0 v1 w K) rfl mixed Tryz.func78 W78_chk (W78_eq v0 v1 w K) Tryz.call78 h
def plan80 : Plan := { js := [], ds := [] }
def W80 (v0 v1 : Value) (w : World) (K : Value → World → Prop) : Prop :=
  callF Tryz.prog 137 [v0] w fun t6 w1 =>
  nilW v0 fun t9 =>
  fldW 1 t9 fun t10 =>
  ldW false 1 t10 w1 fun t11 =>
  bslW 5 1 [(.int .u8 0)] [(0, 1, v1)] w1 fun t13 w2 =>
  semE Tryz.prog (Builtin.append_ #[44, 44] 44 #[t11, t13]) w2 fun t14 w3 =>
  nilW v0 fun t15 =>
  fldW 1 t15 fun t16 =>
  stW 1 t16 t14 w3 fun w4 =>
  K .nilIface w4
theorem W80_eq (v0 v1 : Value) (w : World) (K : Value → World → Prop) : funW Tryz.prog Tryz.f80 plan80 [v0, v1] w K = W80 v0 v1 w K := by kernel_rfl
theorem W80_chk : chkFun Tryz.prog Tryz.f80 plan80 2 = true := by kernel_rfl
theorem W80_ok {v0 v1 : Value} {w : World} {K : Value → World → Prop} (h : W80 v0 v1 w K) : callF Tryz.prog 80 [v0, v1] w K :=
  tie Tryz.prog 80 Tryz.f80 plan80 [v0, v1] w K 2 (W80 v0 v1 w K) rfl mixed Tryz.func80 W80_chk (W80_eq v0 v1 w K) Tryz.call80 h
def plan155 : Plan := { js := [], ds := [] }
def W155 (v0 v1 : Value) (w : World) (K : Value → World → Prop) : Prop :=
  callF Tryz.prog 137 [v0] w fun t8 w1 =>
  nilW v0 fun t10 =>
  fldW 1 t10 fun t11 =>
  ldW false 1 t11 w1 fun t12 =>
  lenlW t12 fun t13 =>
  nilW v0 fun t16 =>
  fldW 1 t16 fun t17 =>
  ldW false 1 t17 w1 fun t18 =>
  callF Tryz.prog 185 [t18, v1] w1 fun t20 w2 =>
  nilW v0 fun t21 =>
  fldW 1 t21 fun t22 =>
  stW 1 t22 t20 w2 fun w3 =>
  nilW v0 fun t24 =>
  fldW 1 t24 fun t25 =>
  ldW false 1 t25 w3 fun t26 =>
  lenlW t26 fun t27 =>
  binW .sub t27 t13 fun t29 =>
  K (.tuple #[t29, .nilIface]) w3
theorem W155_eq (v0 v1 : Value) (w : World) (K : Value → World → Prop) : funW Tryz.prog Tryz.f155 plan155 [v0, v1] w K = W155 v0 v1 w K := by kernel_rfl
theorem W155_chk : chkFun Tryz.prog Tryz.f155 plan155 2 = true := by kernel_rfl
theorem W155_ok {v0 v1 : Value} {w : World} {K : Value → World → Prop} (h : W155 v0 v1 w K) : callF Tryz.prog 155 [v0, v1] w K :=
  tie Tryz.prog 155 Tryz.f155 plan155 [v0, v1] w K 2 (W155 v0 v1 w K) rfl mixed Tryz.func155 W155_chk (W155_eq v0 v1 w K) Tryz.call155 h
def plan185 : Plan := { js := [], ds := [] }
def W185 (v0 v1 : Value) (w : World) (K : Value → World → Prop) : Prop :=
  cvtW .u32 v1 fun t6 =>
  binW .leq t6 (.int .u32 127) fun t7 =>
  condW t7 (
    cvtW .u8 v1 fun t10 =>
    bslW 5 1 [(.int .u8 0)] [(0, 1, t10)] w fun t11 w1 =>
    semE Tryz.prog (Builtin.append_ #[44, 44] 44 #[v0, t11]) w1 fun t12 w2 =>
    K t12 w2) (
    callF Tryz.prog 223 [v0, v1] w fun t15 w3 =>
    K t15 w3)
theorem W185_eq (v0 v1 : Value) (w : World) (K : Value → World → Prop) : funW Tryz.prog Tryz.f185 plan185 [v0, v1] w K = W185 v0 v1 w K := by kernel_rfl
theorem W185_chk : chkFun Tryz.prog Tryz.f185 plan185 2 = true := by kernel_rfl
theorem W185_ok {v0 v1 : Value} {w : World} {K : Value → World → Prop} (h : W185 v0 v1 w K) : callF Tryz.prog 185 [v0, v1] w K :=
  tie Tryz.prog 185 Tryz.f185 plan185 [v0, v1] w K 2 (W185 v0 v1 w K) rfl mixed Tryz.func185 W185_chk (W185_eq v0 v1 w K) Tryz.call185 h
def plan223 : Plan := { js := [(22004, ⟨[55], [], 54⟩), (11, ⟨[25], [], 6⟩), (16004, ⟨[32], [], 31⟩)], ds := [] }
def W223 (v0 v1 : Value) (w : World) (K : Value → World → Prop) : Prop :=
  cvtW .u32 v1 fun t7 =>
  binW .leq t7 (.int .u32 2047) fun t13 =>
  condW t13 (
    binW .shr v1 (.int .u64 6) fun t16 =>
    cvtW .u8 t16 fun t17 =>
    binW .or (.int .u8 192) t17 fun t18 =>
    cvtW .u8 v1 fun t20 =>
    binW .and t20 (.int .u8 63) fun t21 =>
    binW .or (.int .u8 128) t21 fun t22 =>
    bslW 5 2 [(.int .u8 0), (.int .u8 0)] [(0, 1, t18), (1, 1, t22)] w fun t23 w1 =>
    semE Tryz.prog (Builtin.append_ #[44, 44] 44 #[v0, t23]) w1 fun t24 w2 =>
    K t24 w2) (
    JoinW (fun J3 =>
      binW .lss t7 (.int .u32 55296) fun t27 =>
      condW t27 (
        J3 [t27] w) (
        binW .lss (.int .u32 57343) t7 fun t29 =>
        GdW (isB t29 true) [undef] w (fun J4 =>
          binW .leq t7 (.int .u32 65535) fun t32 =>
          J4 [t32] w)
        fun s4 _ w5 =>
        pickW t29 (s4.getD 0 undef) (.bool false) fun t33 =>
        J3 [t33] w5))
    fun s3 _ w6 =>
    condW (s3.getD 0 undef) (
      binW .shr v1 (.int .u64 12) fun t36 =>
      cvtW .u8 t36 fun t37 =>
      binW .or (.int .u8 224) t37 fun t38 =>
      binW .shr v1 (.int .u64 6) fun t40 =>
      cvtW .u8 t40 fun t41 =>
      binW .and t41 (.int .u8 63) fun t42 =>
      binW .or (.int .u8 128) t42 fun t43 =>
      cvtW .u8 v1 fun t45 =>
      binW .and t45 (.int .u8 63) fun t46 =>
      binW .or (.int .u8 128) t46 fun t47 =>
      bslW 5 3 [(.int .u8 0), (.int .u8 0), (.int .u8 0)] [(0, 1, t38), (1, 1, t43), (2, 1, t47)] w6 fun t48 w7 =>
      semE Tryz.prog (Builtin.append_ #[44, 44] 44 #[v0, t48]) w7 fun t49 w8 =>
      K t49 w8) (
      binW .gtr t7 (.int .u32 65535) fun t52 =>
      GdW (isB t52 true) [undef] w6 (fun J9 =>
        binW .leq t7 (.int .u32 1114111) fun t55 =>
        J9 [t55] w6)
      fun s9 _ w10 =>
      pickW t52 (s9.getD 0 undef) (.bool false) fun t56 =>
      condW t56 (
        binW .shr v1 (.int .u64 18) fun t59 =>
        cvtW .u8 t59 fun t60 =>
        binW .or (.int .u8 240) t60 fun t61 =>
        binW .shr v1 (.int .u64 12) fun t63 =>
        cvtW .u8 t63 fun t64 =>
        binW .and t64 (.int .u8 63) fun t65 =>
        binW .or (.int .u8 128) t65 fun t66 =>
        binW .shr v1 (.int .u64 6) fun t68 =>
        cvtW .u8 t68 fun t69 =>
        binW .and t69 (.int .u8 63) fun t70 =>
        binW .or (.int .u8 128) t70 fun t71 =>
        cvtW .u8 v1 fun t73 =>
        binW .and t73 (.int .u8 63) fun t74 =>
        binW .or (.int .u8 128) t74 fun t75 =>
        bslW 5 4 [(.int .u8 0), (.int .u8 0), (.int .u8 0), (.int .u8 0)] [(0, 1, t61), (1, 1, t66), (2, 1, t71), (3, 1, t75)] w10 fun t76 w11 =>
        semE Tryz.prog (Builtin.append_ #[44, 44] 44 #[v0, t76]) w11 fun t77 w12 =>
        K t77 w12) (
        bslW 5 3 [(.int .u8 0), (.int .u8 0), (.int .u8 0)] [(0, 1, (.int .u8 239)), (1, 1, (.int .u8 191)), (2, 1, (.int .u8 189))] w10 fun t9 w13 =>
        semE Tryz.prog (Builtin.append_ #[44, 44] 44 #[v0, t9]) w13 fun t10 w14 =>
        K t10 w14)))
theorem W223_eq (v0 v1 : Value) (w : World) (K : Value → World → Prop) : funW Tryz.prog Tryz.f223 plan223 [v0, v1] w K = W223 v0 v1 w K := by kernel_rfl
theorem W223_chk : chkFun Tryz.prog Tryz.f223 plan223 2 = true := by kernel_rfl
theorem W223_ok {v0 v1 : Value} {w : World} {K : Value → World → Prop} (h : W223 v0 v1 w K) : callF Tryz.prog 223 [v0, v1] w K :=
  tie Tryz.prog 223 Tryz.f223 plan223 [v0, v1] w K 2 (W223 v0 v1 w K) rfl mixed Tryz.func223 W223_chk (W223_eq v0 v1 w K) Tryz.call223 h
def plan154 : Plan := { js := [], ds := [] }
def W154 (v0 v1 : Value) (w : World) (K : Value → World → Prop) : Prop :=
  callF Tryz.prog 172 [v0, v1] w fun t7 w1 =>
  K t7 w1
theorem W154_eq (v0 v1 : Value) (w : World) (K : Value → World → Prop) : funW Tryz.prog Tryz.f154 plan154 [v0, v1] w K = W154 v0 v1 w K := by kernel_rfl
theorem W154_chk : chkFun Tryz.prog Tryz.f154 plan154 2 = true := by kernel_rfl
theorem W154_ok {v0 v1 : Value} {w : World} {K : Value → World → Prop} (h : W154 v0 v1 w K) : callF Tryz.prog 154 [v0, v1] w K :=
  tie Tryz.prog 154 Tryz.f154 plan154 [v0, v1] w K 2 (W154 v0 v1 w K) rfl mixed Tryz.func154 W154_chk (W154_eq v0 v1 w K) Tryz.call154 h
def plan172 : Plan := { js := [(18, ⟨[6], [], 6⟩), (8003, ⟨[16], [], 15⟩)], ds := [] }
def W172 (v0 v1 : Value) (w : World) (K : Value → World → Prop) : Prop :=
  binW .eql v1 (.int .i64 10) fun t11 =>
  condW t11 (
    binW .leq (.int .i64 0) v0 fun t13 =>
    GdW (isB t13 true) [undef] w (fun J1 =>
      binW .lss v0 (.int .i64 100) fun t16 =>
      J1 [t16] w)
    fun s1 _ w2 =>
    pickW t13 (s1.getD 0 undef) (.bool false) fun t17 =>
    condW t17 (
      callF Tryz.prog 196 [v0] w2 fun t19 w3 =>
      K t19 w3) (
      allocW 191 (List.replicate 24 (.int .u8 0)) w2 fun t5 w4 =>
      cvtW .u64 v0 fun t21 =>
      JoinW (fun J5 =>
        binW .lss v0 (.int .i64 0) fun t23 =>
        condW t23 (
          unW .neg t21 fun t25 =>
          J5 [t25] w4) (
          J5 [t21] w4))
      fun s5 _ w6 =>
      callF Tryz.prog 197 [(s5.getD 0 undef)] w6 fun t27 w7 =>
      binW .add (.int .i64 1) t27 fun t29 =>
      slaW 24 1 t5 (some (.int .i64 1)) (some t29) none fun t30 =>
      callF Tryz.prog 198 [t30, (s5.getD 0 undef)] w7 fun t32 w8 =>
      binW .lss v0 (.int .i64 0) fun t34 =>
      condW t34 (
        ixaW (some 24) 1 t5 (.int .i64 0) fun t35 =>
        stW 1 t35 (.int .u8 45) w8 fun w9 =>
        binW .add (.int .i64 1) t27 fun t37 =>
        slaW 24 1 t5 none (some t37) none fun t38 =>
        semQ Tryz.prog (convert 44 9 t38) w9 fun t39 =>
        K t39 w9) (
        binW .add (.int .i64 1) t27 fun t41 =>
        slaW 24 1 t5 (some (.int .i64 1)) (some t41) none fun t42 =>
        semQ Tryz.prog (convert 44 9 t42) w8 fun t43 =>
        K t43 w8))) (
    cvtW .u64 v0 fun t46 =>
    binW .lss v0 (.int .i64 0) fun t49 =>
    callF Tryz.prog 199 [(.slice none 0 0), t46, v1, t49, (.bool false)] w fun t50 w10 =>
    extW 0 t50 fun t51 =>
    extW 1 t50 fun t52 =>
    K t52 w10)
theorem W172_eq (v0 v1 : Value) (w : World) (K : Value → World → Prop) : funW Tryz.prog Tryz.f172 plan172 [v0, v1] w K = W172 v0 v1 w K := by kernel_rfl
theorem W172_chk : chkFun Tryz.prog Tryz.f172 plan172 2 = true := by kernel_rfl
theorem W172_ok {v0 v1 : Value} {w : World} {K : Value → World → Prop} (h : W172 v0 v1 w K) : callF Tryz.prog 172 [v0, v1] w K :=
  tie Tryz.prog 172 Tryz.f172 plan172 [v0, v1] w K 2 (W172 v0 v1 w K) rfl mixed Tryz.func172 W172_chk (W172_eq v0 v1 w K) Tryz.call172 h
def plan199 : Plan := { js := [(68, ⟨[13], [], 13⟩), (18, ⟨[13], [1], 13⟩), (50, ⟨[1, 13], [1, 13], 18⟩), (30, ⟨[1, 13], [1, 13], 17⟩), (12, ⟨[1], [1], 14⟩), (2, ⟨[], [], 12⟩), (4003, ⟨[27], [], 26⟩), (4007, ⟨[23], [], 22⟩)], ds := [] }
def W199 (v0 v1 v2 v3 v4 : Value) (w : World) (K : Value → World → Prop) : Prop :=
  JoinW (fun J1 =>
    binW .lss v2 (.int .i64 2) fun t20 =>
    GdW (isB t20 false) [undef] w (fun J2 =>
      binW .eql v2 (.int .i64 10) fun t23 =>
      J2 [t23] w)
    fun s2 _ w3 =>
    pickW t20 (.bool true) (s2.getD 0 undef) fun t24 =>
    GdW (isB t24 false) [undef] w3 (fun J4 =>
      binW .gtr v2 (.int .i64 36) fun t27 =>
      J4 [t27] w3)
    fun s4 _ w5 =>
    pickW t24 (.bool true) (s4.getD 0 undef) fun t28 =>
    condW t28 (
      pncW (.iface 9 (.string (ofL [115, 116, 114, 99, 111, 110, 118, 58, 32, 105, 108, 108, 101, 103, 97, 108, 32, 65, 112, 112, 101, 110, 100, 73, 110, 116, 47, 70, 111, 114, 109, 97, 116, 73, 110, 116, 32, 98, 97, 115, 101]))) w5) (
      J1 [] w5))
  fun s1 _ w6 =>
  allocW 225 (List.replicate 65 (.int .u8 0)) w6 fun t12 w7 =>
  JoinW (fun J8 =>
    condW v3 (
      unW .neg v1 fun t32 =>
      J8 [t32] w7) (
      J8 [v1] w7))
  fun s8 _ w9 =>
  JoinW (fun J10 =>
    callF Tryz.prog 247 [v2] w9 fun t34 w11 =>
    condW t34 (
      cvtW .u64 v2 fun t36 =>
      callF Tryz.prog 248 [t36] w11 fun t37 w12 =>
      cvtW .u64 t37 fun t38 =>
      cvtW .u64 v2 fun t40 =>
      cvtW .u64 v2 fun t42 =>
      binW .sub t42 (.int .u64 1) fun t43 =>
      LoopW [(s8.getD 0 undef), (.int .i64 65)] w12 fun s13 _ w14 L13 =>
        binW .geq (s13.getD 0 undef) t40 fun t46 =>
        condW t46 (
          binW .sub (s13.getD 1 undef) (.int .i64 1) fun t48 =>
          binW .and (s13.getD 0 undef) t43 fun t52 =>
          ixsW (.string (ofL [48, 49, 50, 51, 52, 53, 54, 55, 56, 57, 97, 98, 99, 100, 101, 102, 103, 104, 105, 106, 107, 108, 109, 110, 111, 112, 113, 114, 115, 116, 117, 118, 119, 120, 121, 122])) t52 fun t53 =>
          ixaW (some 65) 1 t12 t48 fun t54 =>
          stW 1 t54 t53 w14 fun w15 =>
          binW .shr (s13.getD 0 undef) t38 fun t57 =>
          L13 [t57, t48] w15) (
          binW .sub (s13.getD 1 undef) (.int .i64 1) fun t59 =>
          ixsW (.string (ofL [48, 49, 50, 51, 52, 53, 54, 55, 56, 57, 97, 98, 99, 100, 101, 102, 103, 104, 105, 106, 107, 108, 109, 110, 111, 112, 113, 114, 115, 116, 117, 118, 119, 120, 121, 122])) (s13.getD 0 undef) fun t62 =>
          ixaW (some 65) 1 t12 t59 fun t63 =>
          stW 1 t63 t62 w14 fun w16 =>
          J10 [t59] w16)) (
      cvtW .u64 v2 fun t65 =>
      LoopW [(s8.getD 0 undef), (.int .i64 65)] w11 fun s17 _ w18 L17 =>
        binW .geq (s17.getD 0 undef) t65 fun t68 =>
        condW t68 (
          binW .sub (s17.getD 1 undef) (.int .i64 1) fun t70 =>
          binW .quo (s17.getD 0 undef) t65 fun t73 =>
          binW .mul t73 t65 fun t78 =>
          binW .sub (s17.getD 0 undef) t78 fun t79 =>
          ixsW (.string (ofL [48, 49, 50, 51, 52, 53, 54, 55, 56, 57, 97, 98, 99, 100, 101, 102, 103, 104, 105, 106, 107, 108, 109, 110, 111, 112, 113, 114, 115, 116, 117, 118, 119, 120, 121, 122])) t79 fun t80 =>
          ixaW (some 65) 1 t12 t70 fun t81 =>
          stW 1 t81 t80 w18 fun w19 =>
          L17 [t73, t70] w19) (
          binW .sub (s17.getD 1 undef) (.int .i64 1) fun t84 =>
          ixsW (.string (ofL [48, 49, 50, 51, 52, 53, 54, 55, 56, 57, 97, 98, 99, 100, 101, 102, 103, 104, 105, 106, 107, 108, 109, 110, 111, 112, 113, 114, 115, 116, 117, 118, 119, 120, 121, 122])) (s17.getD 0 undef) fun t87 =>
          ixaW (some 65) 1 t12 t84 fun t88 =>
          stW 1 t88 t87 w18 fun w20 =>
          J10 [t84] w20)))
  fun s10 _ w21 =>
  JoinW (fun J22 =>
    condW v3 (
      binW .sub (s10.getD 0 undef) (.int .i64 1) fun t91 =>
      ixaW (some 65) 1 t12 t91 fun t93 =>
      stW 1 t93 (.int .u8 45) w21 fun w23 =>
      J22 [t91] w23) (
      J22 [(s10.getD 0 undef)] w21))
  fun s22 _ w24 =>
  condW v4 (
    slaW 65 1 t12 (some (s22.getD 0 undef)) none none fun t97 =>
    semE Tryz.prog (Builtin.append_ #[44, 44] 44 #[v0, t97]) w24 fun t98 w25 =>
    K (.tuple #[t98, (.string (ofL []))]) w25) (
    slaW 65 1 t12 (some (s22.getD 0 undef)) none none fun t100 =>
    semQ Tryz.prog (convert 44 9 t100) w24 fun t101 =>
    K (.tuple #[(.slice none 0 0), t101]) w24)
theorem W199_eq (v0 v1 v2 v3 v4 : Value) (w : World) (K : Value → World → Prop) : funW Tryz.prog Tryz.f199 plan199 [v0, v1, v2, v3, v4] w K = W199 v0 v1 v2 v3 v4 w K := by kernel_rfl
theorem W199_chk : chkFun Tryz.prog Tryz.f199 plan199 5 = true := by kernel_rfl
theorem W199_ok {v0 v1 v2 v3 v4 : Value} {w : World} {K : Value → World → Prop} (h : W199 v0 v1 v2 v3 v4 w K) : callF Tryz.prog 199 [v0, v1, v2, v3, v4] w K :=
  tie Tryz.prog 199 Tryz.f199 plan199 [v0, v1, v2, v3, v4] w K 5 (W199 v0 v1 v2 v3 v4 w K) rfl mixed Tryz.func199 W199_chk (W199_eq v0 v1 v2 v3 v4 w K) Tryz.call199 h
def plan247 : Plan := { js := [], ds := [] }
def W247 (v0 : Value) (w : World) (K : Value → World → Prop) : Prop :=
  binW .sub v0 (.int .i64 1) fun t5 =>
  binW .and v0 t5 fun t6 =>
  binW .eql t6 (.int .i64 0) fun t7 =>
  K t7 w
theorem W247_eq (v0 : Value) (w : World) (K : Value → World → Prop) : funW Tryz.prog Tryz.f247 plan247 [v0] w K = W247 v0 w K := by kernel_rfl
theorem W247_chk : chkFun Tryz.prog Tryz.f247 plan247 1 = true := by kernel_rfl
theorem W247_ok {v0 : Value} {w : World} {K : Value → World → Prop} (h : W247 v0 w K) : callF Tryz.prog 247 [v0] w K :=
  tie Tryz.prog 247 Tryz.f247 plan247 [v0] w K 1 (W247 v0 w K) rfl mixed Tryz.func247 W247_chk (W247_eq v0 w K) Tryz.call247 h
end Go.Proofs.YtcnjpcadejcenaaGreatDoor
namespace Go.Proofs.YtcnjpcadejcenaaGreatDoor
open Go Go.Eng Go.RowKit
set_option maxRecDepth 100000
abbrev BdT : TypeId := 78
theorem elem_u8 : ElemT Tryz.prog 44 U8 1 1 := ⟨by kernel_rfl, by kernel_rfl, by decide⟩
def Bld (w : World) (B b : Nat) (l : Str) : Prop :=
  ∃ p v, w.heap[b]? = some (.cells [p, v].toArray BdT (0, 0)) ∧ (p = .pointer none ∨ p = .pointer (some ⟨b, 0, none⟩)) ∧ Own w B U8 1 v l.length (u8s l) ∧ B ≤ b
def BCh (w : World) (B b : Nat) (k : Nat) : Prop := k = b ∨ OwnS w B U8 k
theorem Bld.chg {S : Nat → Prop} {w w' : World} {B b : Nat} {l : Str} (h : Bld w B b l) (hc : Chg S w w') (hb : ¬ S b) (hS : ∀ k, OwnS w B U8 k → ¬ S k) : Bld w' B b l := by
  obtain ⟨p, v, h1, h2, h3, h4⟩ := h
  exact ⟨p, v, hc.at h1 hb, h2, h3.chg hc hS, h4⟩
theorem Bld.ext {w w' : World} {B b : Nat} {l : Str} (h : Bld w B b l) (hc : Ext w w') : Bld w' B b l := h.chg hc (fun e => e) fun _ _ e => e
theorem Bld.lt {w : World} {B b : Nat} {l : Str} (h : Bld w B b l) : b < w.heap.size := by
  obtain ⟨p, v, h1, _⟩ := h
  exact at_lt h1
theorem Bld.base {w : World} {B b : Nat} {l : Str} (h : Bld w B b l) : B ≤ b := by obtain ⟨p, v, _, _, _, h4⟩ := h; exact h4
theorem bd_ne {w : World} {B b : Nat} {p v : Value} (h1 : w.heap[b]? = some (.cells [p, v].toArray BdT (0, 0))) : ¬ OwnS w B U8 b := by
  rintro ⟨_, c, hc⟩
  rw [h1] at hc
  simp only [Option.some.injEq, Obj.cells.injEq] at hc
  exact absurd hc.2.1 (by decide)
theorem BCh.trans {w w1 w2 : World} {B b : Nat} (h1 : Chg (BCh w B b) w w1) (h2 : Chg (BCh w1 B b) w1 w2) : Chg (BCh w B b) w w2 := by
  refine ⟨h2.os.trans h1.os, h2.tape.trans h1.tape, h2.output.trans h1.output, Nat.le_trans h1.size h2.size, fun k hk hn => ?_⟩
  have e1 := h1.heap k hk hn
  rw [← e1]
  refine h2.heap k (Nat.lt_of_lt_of_le hk h1.size) fun e => hn ?_
  rcases e with e | ⟨e2, c, e3⟩
  · exact .inl e
  · exact .inr ⟨e2, c, by rw [← e1]; exact e3⟩
theorem BCh.ext {w w1 w2 : World} {B b : Nat} (h1 : Chg (BCh w B b) w w1) (h2 : Ext w1 w2) : Chg (BCh w B b) w w2 := h1.then h2 fun _ _ e => e.elim
theorem BCh.from {w w1 w2 : World} {B b : Nat} (h1 : Ext w w1) (h2 : Chg (BCh w1 B b) w1 w2) : Chg (BCh w B b) w w2 := BCh.trans (Chg.of_ext h1) h2
theorem BCh.new {w0 w w' : World} {B b : Nat} (h0 : Ext w0 w) (hB : w0.heap.size ≤ B) (hb : B ≤ b) (h : Chg (BCh w B b) w w') : Ext w0 w' :=
  h0.then h fun k hk e => by
    rcases e with rfl | ⟨e, _⟩
    · omega
    · omega
theorem BCh.keep {w w' : World} {B b k : Nat} {c : Array Value} {T : TypeId} {fr : Nat × Nat} (h : Chg (BCh w B b) w w') (hk : w.heap[k]? = some (.cells c T fr)) (hb : k ≠ b) (hT : T ≠ U8) : w'.heap[k]? = some (.cells c T fr) :=
  h.at hk fun e => by
    rcases e with e | ⟨_, c', e⟩
    · exact hb e
    · rw [hk] at e
      simp only [Option.some.injEq, Obj.cells.injEq] at e
      exact hT e.2.1
theorem BCh.iter {w w' : World} {B b k p : Nat} {s : ByteArray} (h : Chg (BCh w B b) w w') (hk : w.heap[k]? = some (.stringIter s p)) (hb : k ≠ b) : w'.heap[k]? = some (.stringIter s p) :=
  h.at hk fun e => by
    rcases e with e | ⟨_, c', e⟩
    · exact hb e
    · rw [hk] at e; cases e
section
variable [HX]
theorem bnew {w : World} {B : Nat} {K : Value → World → Prop} (hB : B ≤ w.heap.size) (hK : ∀ b w', b = w.heap.size → Bld w' B b [] → Ext w w' → K (.pointer (some ⟨b, 0, none⟩)) w') : allocW BdT [.pointer none, .slice none 0 0] w K :=
  alloc_new fun a w' ha hz hb hx => hK a w' ha ⟨_, _, hb, .inl rfl, ⟨by simp [u8s], .inl ⟨rfl, rfl⟩⟩, by omega⟩ hx
theorem check_p {w : World} {B b : Nat} {l : Str} {K : Value → World → Prop} (h : Bld w B b l)
    (hK : ∀ v w', w'.heap[b]? = some (.cells [.pointer (some ⟨b, 0, none⟩), v].toArray BdT (0, 0)) → Own w' B U8 1 v l.length (u8s l) → w'.heap.size = w.heap.size → Chg (BCh w B b) w w' → K (.tuple #[]) w') :
    callF Tryz.prog 137 [.pointer (some ⟨b, 0, none⟩)] w K := by
  obtain ⟨p, v, h1, h2, h3, h4⟩ := h
  have c0 : w.cell? ⟨b, 0, none⟩ = some p := by rw [cell_eq, h1]; rfl
  rcases h2 with rfl | rfl
  · refine of_calls (args := #[.pointer (some ⟨b, 0, none⟩)]) Tryz.call137 ((Tryz.check_fresh b w c0 (by simp [World.shape?, h1]) (by rw [frozen_eq, h1]; rfl)).mono ?_)
    rintro e w' ⟨rfl, rfl⟩
    refine ⟨_, rfl, hK v _ ?_ ?_ (size_set _ _ _) (Chg.set (Chg.refl _ _) (.inl (.inl rfl)) _)⟩
    · rw [heap_set_same, h1]; rfl
    · refine h3.chg (Chg.set (S := fun k => k = b) (Chg.refl _ _) (.inl rfl) _) fun k hk e => ?_
      subst e
      exact bd_ne h1 hk
  · refine of_calls (args := #[.pointer (some ⟨b, 0, none⟩)]) Tryz.call137 ((Tryz.check_used b w c0).mono ?_)
    rintro e w' ⟨rfl, rfl⟩
    exact ⟨_, rfl, hK v _ h1 h3 rfl (Chg.refl _ _)⟩
theorem bstore {w w3 : World} {B b n : Nat} {l l' : Str} {v v' : Value} {K : World → Prop} (h1 : w.heap[b]? = some (.cells [.pointer (some ⟨b, 0, none⟩), v].toArray BdT (0, 0))) (hO : Own w B U8 1 v l.length (u8s l)) (hb : B ≤ b)
    (hc : Chg (fun k => v.ownBlock = some k) w w3) (hO' : Own w3 B U8 1 v' l'.length (u8s l')) (hK : ∀ w', Bld w' B b l' → Chg (BCh w B b) w w' → w'.heap.size = w3.heap.size → K w') :
    stW 1 (.pointer (some ⟨b, 1, none⟩)) v' w3 K := by
  have hne : ¬ v.ownBlock = some b := fun e => bd_ne h1 (hO.block b e)
  have h3 := hc.at h1 hne
  have hsh : one1 v' = true := by obtain ⟨p, c, rfl, _⟩ := hO'.sl.shape; rfl
  refine st_at h3 hsh (by simp) fun w4 hz hb4 hc4 => ?_
  refine hK w4 ⟨.pointer (some ⟨b, 0, none⟩), v', by rw [hb4]; simp, .inr rfl, hO'.chg hc4 fun k hk e => by subst e; exact bd_ne h3 hk, hb⟩ ?_ hz
  have s1 : Chg (BCh w B b) w w3 := hc.mono fun k _ e => .inr (hO.block k e)
  exact s1.then hc4 fun k _ e => .inl e
theorem wstr_p {w : World} {B b : Nat} {l s : Str} {K : Value → World → Prop} (h : Bld w B b l) (hB : B ≤ w.heap.size) (hl : l.length + s.length ≤ 140737488355328)
    (hK : ∀ v w', Bld w' B b (l ++ s) → Chg (BCh w B b) w w' → K v w') : callF Tryz.prog 78 [.pointer (some ⟨b, 0, none⟩), str s] w K := by
  have hb := h.base
  refine W78_ok ?_
  unfold W78
  refine check_p h fun v w1 h1 hO hz hc => ?_
  rw [nil_ptr, fld_ptr, ld_one]
  refine ⟨v, by rw [add_mk, cell_eq, h1]; rfl, ?_⟩
  obtain ⟨i, z, hi, hzr, h2, h3, h4⟩ := elem_u8.get
  have hz0 : i.zero = some (.int .u8 0) := by
    have : (Tryz.prog.info? U8).map (·.zero) = some (some (.int .u8 0)) := by kernel_rfl
    rw [hi] at this; simpa using this
  obtain ⟨v', w3, hr, hO', hg, _⟩ := Lib.run_append_own_string (P := Tryz.prog) w1 B 44 9 44 U8 i elem_u8.und (by kernel_rfl) hi hz0 h2 h3 v l.length (u8s l) hO (ofL s) (by rw [ofL_size]; unfold maxLen; omega) (by rw [ofL_size]; omega) (by omega)
  unfold semE
  rw [hr]
  dsimp only
  rw [nil_ptr, fld_ptr]
  have hO2 : Own w3 B U8 1 v' (l ++ s).length (u8s (l ++ s)) := by
    rw [u8s_app, List.length_append]
    have e1 : Lib.strCells (ofL s) = u8s s := by unfold Lib.strCells u8s; rw [ofL_data]
    rw [ofL_size, e1] at hO'
    exact hO'
  refine bstore (n := 0) h1 hO hb (Chg.of_grown hg fun k e => e) hO2 fun w4 hb4 hc4 _ => ?_
  rw [lens_str]
  exact hK _ w4 hb4 (BCh.trans hc hc4)
theorem row_u8 {w : World} {n : Nat} {K : Value → World → Prop} (hK : ∀ t w', SlAt w' U8 t 1 [.int .u8 (n : Int)] → Ext w w' → K t w') : bslW U8 1 [(.int .u8 0)] [(0, 1, .int .u8 (n : Int))] w K := by
  rw [bslW]
  simp only [put_int, put_nil, List.length_cons, List.length_nil, List.set_cons_zero]
  refine ⟨by omega, ?_⟩
  refine hK _ _ ⟨_, _, rfl, Nat.le_refl _, fun e => (by cases e), fun _ => ⟨_, _, _, _, rfl, heap_anew _ _ _ rfl, fun i _ => by rw [Nat.zero_add]; simp⟩⟩ (Chg.alloc (Chg.refl _ _) _)
theorem wbyte_p {w : World} {B b n : Nat} {l : Str} {K : Value → World → Prop} (h : Bld w B b l) (hB : B ≤ w.heap.size) (hl : l.length + 1 ≤ 140737488355328) (hn : n < 256)
    (hK : ∀ w', Bld w' B b (l ++ [UInt8.ofNat n]) → Chg (BCh w B b) w w' → K .nilIface w') : callF Tryz.prog 80 [.pointer (some ⟨b, 0, none⟩), .int .u8 (n : Int)] w K := by
  have hb := h.base
  refine W80_ok ?_
  unfold W80
  refine check_p h fun v w1 h1 hO hz hc => ?_
  rw [nil_ptr, fld_ptr, ld_one]
  refine ⟨v, by rw [add_mk, cell_eq, h1]; rfl, ?_⟩
  refine row_u8 fun t w2 ht hx2 => ?_
  refine append_own2 elem_u8 (hO.ext hx2) ht (m := 1) rfl (fun u hu => by simp only [List.mem_singleton] at hu; subst hu; rfl) (by omega) (by omega) (by have := hx2.size; omega) fun v' w3 hO3 hc3 _ => ?_
  rw [nil_ptr, fld_ptr]
  have hO2 : Own w3 B U8 1 v' (l ++ [UInt8.ofNat n]).length (u8s (l ++ [UInt8.ofNat n])) := by
    rw [u8s_app, List.length_append]
    have e1 : u8s [UInt8.ofNat n] = [.int .u8 (n : Int)] := by
      simp only [u8s, List.map_cons, List.map_nil, UInt8.toNat_ofNat']
      rw [Nat.mod_eq_of_lt (by omega)]
    rw [e1]
    exact hO3
  refine bstore (n := 0) (hx2.at h1 id) (hO.ext hx2) hb hc3 hO2 fun w4 hb4 hc4 _ => ?_
  exact hK w4 hb4 (BCh.trans hc (BCh.from hx2 hc4))
end
end Go.Proofs.YtcnjpcadejcenaaGreatDoor
namespace Go.Eng
open Go
def byteM (s : Str) (i : Nat) : Int := match s[i]? with | some b => (b.toNat : Int) | none => -1
def moreM (s : Str) (i : Nat) : Bool := decide (128 ≤ byteM s i) && decide (byteM s i < 192)
def runeM (s : Str) (i : Nat) : Nat :=
  let c := byteM s i
  if c < 0 then 0 else if c < 128 then 1
  else if 194 ≤ c ∧ c < 224 ∧ moreM s (i + 1) = true then 2
  else if 224 ≤ c ∧ c < 240 ∧ moreM s (i + 1) = true ∧ moreM s (i + 2) = true ∧
    2048 ≤ (c - 224) * 4096 + (byteM s (i + 1) - 128) * 64 + byteM s (i + 2) - 128 ∧ ((c - 224) * 4096 + (byteM s (i + 1) - 128) * 64 + byteM s (i + 2) - 128 < 55296 ∨ 57343 < (c - 224) * 4096 + (byteM s (i + 1) - 128) * 64 + byteM s (i + 2) - 128) then 3
  else if 240 ≤ c ∧ c < 245 ∧ moreM s (i + 1) = true ∧ moreM s (i + 2) = true ∧ moreM s (i + 3) = true ∧
    65536 ≤ (c - 240) * 262144 + (byteM s (i + 1) - 128) * 4096 + (byteM s (i + 2) - 128) * 64 + byteM s (i + 3) - 128 ∧ (c - 240) * 262144 + (byteM s (i + 1) - 128) * 4096 + (byteM s (i + 2) - 128) * 64 + byteM s (i + 3) - 128 ≤ 1114111 then 4
  else 0
def utfGo (s : Str) : Nat → Nat → Bool
  | 0, i => decide (s.length ≤ i)
  | n + 1, i => if s.length ≤ i then true else if runeM s i = 0 then false else utfGo s n (i + runeM s i)
def utfM (s : Str) : Bool := utfGo s s.length 0
def b8 (n : Nat) : UInt8 := UInt8.ofNat n
def wrM (n : Nat) : Str :=
  if n < 128 then [b8 n] else if n < 2048 then [b8 (192 + n / 64), b8 (128 + n % 64)]
  else if n < 65536 then [b8 (224 + n / 4096), b8 (128 + n / 64 % 64), b8 (128 + n % 64)]
  else [b8 (240 + n / 262144), b8 (128 + n / 4096 % 64), b8 (128 + n / 64 % 64), b8 (128 + n % 64)]
def hexD (n : Nat) : UInt8 := if n < 10 then b8 (48 + n) else b8 (87 + n)
def escB (c : UInt8) : Str :=
  if c = 34 ∨ c = 92 then [92, c] else if c = 8 then [92, 98] else if c = 12 then [92, 102] else if c = 10 then [92, 110] else if c = 13 then [92, 114] else if c = 9 then [92, 116]
  else if c < 32 then [92, 117, 48, 48, b8 (48 + c.toNat / 16), hexD (c.toNat % 16)] else [c]
def quoteM (s : Str) : Str := [34] ++ s.flatMap escB ++ [34]
def joinM : List Str → Str
  | [] => []
  | [x] => x
  | x :: y :: r => x ++ [44] ++ joinM (y :: r)
mutual
def showM : JV → Str
  | .mk k b t xs ks =>
    if k = 0 then [110, 117, 108, 108] else if k = 2 then (if b then [116, 114, 117, 101] else [102, 97, 108, 115, 101]) else if k = 3 then t else if k = 4 then quoteM t
    else if k = 6 then [123] ++ joinM (List.zipWith (fun a b => quoteM a ++ [58] ++ b) ks (showL xs)) ++ [125] else [91] ++ joinM (showL xs) ++ [93]
def showL : List JV → List Str
  | [] => []
  | x :: xs => showM x :: showL xs
end
mutual
def textsM : JV → Bool
  | .mk _ _ t xs ks => utfM t && ks.all utfM && textsL xs
def textsL : List JV → Bool
  | [] => true
  | x :: xs => textsM x && textsL xs
end
def encM (eRange eUnknown eText eLong : Int) (v : JV) : Str × Int :=
  if goodM v = false then ([], eRange) else if knownM v = false then ([], eUnknown) else if textsM v = false then ([], eText) else if 65536 < (showM v).length then ([], eLong) else (showM v, 0)
inductive RR (α : Type) where
  | ok (v : α) (i : Nat) (count : Nat)
  | bad (code : Int) (i : Nat)
def isBlank (c : Int) : Bool := decide (c = 32) || decide (c = 9) || decide (c = 10) || decide (c = 13)
def blankGo (s : Str) : Nat → Nat → Nat
  | 0, i => i
  | n + 1, i => if isBlank (byteM s i) then blankGo s n (i + 1) else i
def blankM (s : Str) (i : Nat) : Nat := blankGo s (s.length - i) i
def isDig (c : Int) : Bool := decide (48 ≤ c) && decide (c ≤ 57)
def digGo (s : Str) : Nat → Nat → Nat
  | 0, i => i
  | n + 1, i => if isDig (byteM s i) then digGo s n (i + 1) else i
def digM (s : Str) (i : Nat) : Nat := digGo s (s.length - i) i
def hexV (c : Int) : Int := if 48 ≤ c ∧ c ≤ 57 then c - 48 else if 97 ≤ c ∧ c ≤ 102 then c - 87 else if 65 ≤ c ∧ c ≤ 70 then c - 55 else -1
def hexM (s : Str) (i : Nat) : Int :=
  if i + 6 ≤ s.length ∧ byteM s i = 92 ∧ byteM s (i + 1) = 117 ∧ 0 ≤ hexV (byteM s (i + 2)) ∧ 0 ≤ hexV (byteM s (i + 3)) ∧ 0 ≤ hexV (byteM s (i + 4)) ∧ 0 ≤ hexV (byteM s (i + 5)) then
    ((hexV (byteM s (i + 2)) * 16 + hexV (byteM s (i + 3))) * 16 + hexV (byteM s (i + 4))) * 16 + hexV (byteM s (i + 5)) else -1
def escM (s : Str) (i : Nat) : Option (Str × Nat) :=
  let c := byteM s (i + 1)
  if c = 34 then some ([34], 2) else if c = 92 then some ([92], 2) else if c = 47 then some ([47], 2) else if c = 98 then some ([8], 2) else if c = 102 then some ([12], 2)
  else if c = 110 then some ([10], 2) else if c = 114 then some ([13], 2) else if c = 116 then some ([9], 2)
  else
    let a := hexM s i
    let b := hexM s (i + 6)
    if a < 0 ∨ 56320 ≤ a ∧ a ≤ 57343 then none
    else if 55296 ≤ a ∧ a ≤ 56319 then (if b < 56320 ∨ 57343 < b then none else some (wrM (65536 + (a - 55296) * 1024 + b - 56320).toNat, 12))
    else some (wrM a.toNat, 6)
structure ErrNo where
  json : Int
  long : Int
  deep : Int
  text : Int
  twice : Int
def quotGo (E : ErrNo) (s : Str) (start : Nat) : Nat → Nat → Str → Nat → RR Str
  | 0, i, _, _ => .bad E.json i
  | n + 1, i, out, cnt =>
    if byteM s i = 34 then (if 16384 < out.length then .bad E.long start else .ok out (i + 1) cnt)
    else if byteM s i < 0 then .bad E.json s.length
    else if byteM s i = 92 then (match escM s i with | none => .bad E.json i | some (t, k) => quotGo E s start n (i + k) (out ++ t) cnt)
    else if byteM s i < 32 then .bad E.json i
    else if runeM s i = 0 then .bad E.text i
    else quotGo E s start n (i + runeM s i) (out ++ (s.drop i).take (runeM s i)) cnt
def quotM (E : ErrNo) (s : Str) (i cnt : Nat) : RR Str := quotGo E s i (s.length + 1) (i + 1) [] cnt
def numM (E : ErrNo) (s : Str) (i cnt : Nat) : RR JV :=
  let first := if byteM s i = 45 then i + 1 else i
  let stop := if byteM s first = 48 then first + 1 else digM s first
  if stop = first then .bad E.json stop
  else if 100 < stop - first then .bad E.long i
  else if isDig (byteM s stop) || decide (byteM s stop = 46) || decide (byteM s stop = 101) || decide (byteM s stop = 69) then .bad E.json stop
  else
    let t := (s.drop i).take (stop - i)
    .ok (.mk 3 false (if t = [45, 48] then [48] else t) [] []) stop cnt
def wordM (s : Str) (i : Nat) (w : Str) : Bool := decide ((s.drop i).take w.length = w)
mutual
/-- a value at a place, so deep, so many values ahead of it (first: steps left) -/
def valM (E : ErrNo) (s : Str) : Nat → Nat → Nat → Nat → RR JV
  | 0, _, i, _ => .bad E.json i
  | n + 1, deep, i0, cnt0 =>
    let i := blankM s i0
    if 24 < deep then .bad E.deep i
    else if 2000 ≤ cnt0 then .bad E.long i
    else if wordM s i [110, 117, 108, 108] then .ok JV.null (i + 4) (cnt0 + 1)
    else if wordM s i [116, 114, 117, 101] then .ok (.mk 2 true [] [] []) (i + 4) (cnt0 + 1)
    else if wordM s i [102, 97, 108, 115, 101] then .ok (.mk 2 false [] [] []) (i + 5) (cnt0 + 1)
    else if byteM s i = 45 ∨ isDig (byteM s i) = true then numM E s i (cnt0 + 1)
    else if byteM s i = 34 then (match quotM E s i (cnt0 + 1) with | .ok t j c => .ok (.mk 4 false t [] []) j c | .bad e j => .bad e j)
    else if byteM s i = 91 then (if byteM s (blankM s (i + 1)) = 93 then .ok (.mk 5 false [] [] []) (blankM s (i + 1) + 1) (cnt0 + 1) else listM E s n deep (blankM s (i + 1)) (cnt0 + 1) [])
    else if byteM s i = 123 then (if byteM s (blankM s (i + 1)) = 125 then .ok (.mk 6 false [] [] []) (blankM s (i + 1) + 1) (cnt0 + 1) else objM E s n deep (blankM s (i + 1)) (cnt0 + 1) (.mk 6 false [] [] []))
    else .bad E.json i
def listM (E : ErrNo) (s : Str) : Nat → Nat → Nat → Nat → List JV → RR JV
  | 0, _, i, _, _ => .bad E.json i
  | n + 1, deep, i, cnt, acc =>
    match valM E s n (deep + 1) i cnt with
    | .bad e j => .bad e j
    | .ok x j c =>
      if byteM s (blankM s j) = 93 then .ok (.mk 5 false [] (acc ++ [x]) []) (blankM s j + 1) c
      else if byteM s (blankM s j) = 44 then listM E s n deep (blankM s j + 1) c (acc ++ [x])
      else .bad E.json (blankM s j)
def objM (E : ErrNo) (s : Str) : Nat → Nat → Nat → Nat → JV → RR JV
  | 0, _, i, _, _ => .bad E.json i
  | n + 1, deep, i0, cnt, acc =>
    let i := blankM s i0
    if byteM s i ≠ 34 then .bad E.json i
    else match quotM E s i cnt with
    | .bad e j => .bad e j
    | .ok key j c =>
      if (getM acc key).isSome then .bad E.twice i
      else if byteM s (blankM s j) ≠ 58 then .bad E.json (blankM s j)
      else match valM E s n (deep + 1) (blankM s j + 1) c with
      | .bad e j2 => .bad e j2
      | .ok x j2 c2 =>
        if byteM s (blankM s j2) = 125 then .ok (putM acc key x) (blankM s j2 + 1) c2
        else if byteM s (blankM s j2) = 44 then objM E s n deep (blankM s j2 + 1) c2 (putM acc key x)
        else .bad E.json (blankM s j2)
end
def decM (E : ErrNo) (s : Str) : RR JV :=
  if 65536 < s.length then .bad E.long 0
  else match valM E s 5000 1 0 0 with
  | .bad e i => .bad e i
  | .ok v i c => if blankM s i < s.length then .bad E.json (blankM s i) else .ok v i c
end Go.Eng
namespace Go.Eng
open Go
def bt (s : Str) (i : Nat) : Nat := (s.getD i 0).toNat
theorem bt_lt (s : Str) (i : Nat) : bt s i < 256 := UInt8.toNat_lt _
theorem byteM_in {s : Str} {i : Nat} (h : i < s.length) : byteM s i = (bt s i : Int) := by
  unfold byteM bt
  rw [List.getElem?_eq_getElem h, List.getD_eq_getElem?_getD, List.getElem?_eq_getElem h]; rfl
theorem byteM_out {s : Str} {i : Nat} (h : s.length ≤ i) : byteM s i = -1 := by
  unfold byteM
  rw [List.getElem?_eq_none h]
theorem byteM_neg {s : Str} {i : Nat} : byteM s i < 0 ↔ s.length ≤ i := by
  rcases Nat.lt_or_ge i s.length with h | h
  · rw [byteM_in h]; omega
  · rw [byteM_out h]; omega
theorem get_bt (s : Str) (i : Nat) : ((ofL s).get! i).toNat = bt s i := by
  unfold bt
  congr 1
  show (s.toArray)[i]! = s.getD i 0
  rw [List.getElem!_toArray, List.getElem!_eq_getElem?_getD, List.getD_eq_getElem?_getD]; rfl
theorem dec_ofL (s : Str) (i : Nat) : Utf8.decode (ofL s) i = Lib.decodeN (s.length - i) (bt s i) (bt s (i + 1)) (bt s (i + 2)) (bt s (i + 3)) := by
  rw [Lib.decode_at, get_bt, get_bt, get_bt, get_bt, ofL_size]
abbrev mor (L k b : Nat) : Prop := k < L ∧ 128 ≤ b ∧ b < 192
abbrev c3 (b0 b1 b2 : Nat) : Nat := (b0 - 224) * 4096 + (b1 - 128) * 64 + (b2 - 128)
abbrev c4 (b0 b1 b2 b3 : Nat) : Nat := (b0 - 240) * 262144 + (b1 - 128) * 4096 + (b2 - 128) * 64 + (b3 - 128)
def decR (L b0 b1 b2 b3 : Nat) : Nat × Nat :=
  if b0 < 128 then (b0, 1)
  else if 194 ≤ b0 ∧ b0 < 224 ∧ mor L 1 b1 then ((b0 - 192) * 64 + (b1 - 128), 2)
  else if 224 ≤ b0 ∧ b0 < 240 ∧ mor L 1 b1 ∧ mor L 2 b2 ∧ 2048 ≤ c3 b0 b1 b2 ∧ (c3 b0 b1 b2 < 55296 ∨ 57343 < c3 b0 b1 b2) then (c3 b0 b1 b2, 3)
  else if 240 ≤ b0 ∧ b0 < 245 ∧ mor L 1 b1 ∧ mor L 2 b2 ∧ mor L 3 b3 ∧ 65536 ≤ c4 b0 b1 b2 b3 ∧ c4 b0 b1 b2 b3 ≤ 1114111 then (c4 b0 b1 b2 b3, 4)
  else (65533, 1)
theorem dec_decR {L b0 b1 b2 b3 : Nat} (h0 : b0 < 256) (h1 : b1 < 256) (h2 : b2 < 256) (h3 : b3 < 256) : Lib.decodeN L b0 b1 b2 b3 = decR L b0 b1 b2 b3 := by
  have m1 : (1 < L ∧ b1 / 64 = 2) ↔ mor L 1 b1 := by unfold mor; omega
  have m2 : (2 < L ∧ b2 / 64 = 2) ↔ mor L 2 b2 := by unfold mor; omega
  have m3 : (3 < L ∧ b3 / 64 = 2) ↔ mor L 3 b3 := by unfold mor; omega
  unfold Lib.decodeN decR
  simp only [m1, m2, m3]
  by_cases a0 : b0 < 128
  · rw [if_pos a0, if_pos a0]
  rw [if_neg a0, if_neg a0]
  by_cases a1 : b0 < 194
  · rw [if_neg (show ¬ (194 ≤ b0 ∧ b0 < 224 ∧ mor L 1 b1) from fun h => by omega), if_neg (show ¬ (224 ≤ b0 ∧ b0 < 240 ∧ _) from fun h => by omega), if_neg (show ¬ (240 ≤ b0 ∧ b0 < 245 ∧ _) from fun h => by omega)]
    rw [if_neg (show ¬ (b0 / 16 = 14 ∧ _) from fun h => by omega), if_neg (show ¬ (b0 / 8 = 30 ∧ _) from fun h => by omega)]
    by_cases a2 : b0 / 32 = 6 ∧ mor L 1 b1
    · rw [if_pos a2, if_neg (by omega)]
    · rw [if_neg a2]
  by_cases a2 : b0 < 224
  · rw [if_neg (show ¬ (224 ≤ b0 ∧ b0 < 240 ∧ _) from fun h => by omega), if_neg (show ¬ (240 ≤ b0 ∧ b0 < 245 ∧ _) from fun h => by omega)]
    rw [if_neg (show ¬ (b0 / 16 = 14 ∧ _) from fun h => by omega), if_neg (show ¬ (b0 / 8 = 30 ∧ _) from fun h => by omega)]
    by_cases q : mor L 1 b1
    · have q' := q
      unfold mor at q'
      rw [if_pos ⟨by omega, q⟩, if_pos (by omega), if_pos ⟨by omega, a2, q⟩]
      apply Prod.ext
      · show b0 % 32 * 64 + b1 % 64 = (b0 - 192) * 64 + (b1 - 128); omega
      · rfl
    · rw [if_neg (fun h => q h.2), if_neg (fun h => q h.2.2)]
  by_cases a3 : b0 < 240
  · rw [if_neg (show ¬ (194 ≤ b0 ∧ b0 < 224 ∧ mor L 1 b1) from fun h => by omega), if_neg (show ¬ (240 ≤ b0 ∧ b0 < 245 ∧ _) from fun h => by omega)]
    rw [if_neg (show ¬ (b0 / 32 = 6 ∧ _) from fun h => by omega), if_neg (show ¬ (b0 / 8 = 30 ∧ _) from fun h => by omega)]
    by_cases q : mor L 1 b1 ∧ mor L 2 b2
    · have q' := q
      unfold mor at q'
      have e : b0 % 16 * 4096 + b1 % 64 * 64 + b2 % 64 = c3 b0 b1 b2 := by unfold c3; omega
      have e2 : c3 b0 b1 b2 ≤ 65535 := by unfold c3; omega
      rw [if_pos ⟨by omega, q.1, q.2⟩]
      simp only [e]
      by_cases r : 2048 ≤ c3 b0 b1 b2 ∧ (c3 b0 b1 b2 < 55296 ∨ 57343 < c3 b0 b1 b2)
      · rw [if_pos ⟨r.1, by omega⟩, if_pos ⟨by omega, a3, q.1, q.2, r.1, r.2⟩]
      · rw [if_neg (by omega), if_neg (fun h => r ⟨h.2.2.2.2.1, h.2.2.2.2.2⟩)]
    · rw [if_neg (fun h => q ⟨h.2.1, h.2.2⟩), if_neg (fun h => q ⟨h.2.2.1, h.2.2.2.1⟩)]
  · rw [if_neg (show ¬ (194 ≤ b0 ∧ b0 < 224 ∧ mor L 1 b1) from fun h => by omega), if_neg (show ¬ (224 ≤ b0 ∧ b0 < 240 ∧ _) from fun h => by omega)]
    rw [if_neg (show ¬ (b0 / 32 = 6 ∧ _) from fun h => by omega), if_neg (show ¬ (b0 / 16 = 14 ∧ _) from fun h => by omega)]
    by_cases q : mor L 1 b1 ∧ mor L 2 b2 ∧ mor L 3 b3
    · have q' := q
      unfold mor at q'
      by_cases a4 : b0 < 248
      · have e : b0 % 8 * 262144 + b1 % 64 * 4096 + b2 % 64 * 64 + b3 % 64 = c4 b0 b1 b2 b3 := by unfold c4; omega
        rw [if_pos ⟨by omega, q.1, q.2.1, q.2.2⟩]
        simp only [e]
        by_cases r : 65536 ≤ c4 b0 b1 b2 b3 ∧ c4 b0 b1 b2 b3 ≤ 1114111
        · rw [if_pos ⟨r.1, by omega⟩, if_pos ⟨by omega, by have := r.2; unfold c4 at this; omega, q.1, q.2.1, q.2.2, r.1, r.2⟩]
        · rw [if_neg (by omega), if_neg (fun h => r ⟨h.2.2.2.2.2.1, h.2.2.2.2.2.2⟩)]
      · rw [if_neg (show ¬ (b0 / 8 = 30 ∧ _) from fun h => by omega), if_neg (show ¬ (240 ≤ b0 ∧ b0 < 245 ∧ _) from fun h => by omega)]
    · rw [if_neg (fun h => q ⟨h.2.1, h.2.2.1, h.2.2.2⟩), if_neg (fun h => q ⟨h.2.2.1, h.2.2.2.1, h.2.2.2.2.1⟩)]
theorem moreM_iff {s : Str} {i k : Nat} : moreM s (i + k) = true ↔ mor (s.length - i) k (bt s (i + k)) := by
  unfold moreM mor
  rw [Bool.and_eq_true, decide_eq_true_iff, decide_eq_true_iff]
  rcases Nat.lt_or_ge (i + k) s.length with h | h
  · rw [byteM_in h]; omega
  · rw [byteM_out h]; omega
def runR (L b0 b1 b2 b3 : Nat) : Nat :=
  if b0 < 128 then 1
  else if 194 ≤ b0 ∧ b0 < 224 ∧ mor L 1 b1 then 2
  else if 224 ≤ b0 ∧ b0 < 240 ∧ mor L 1 b1 ∧ mor L 2 b2 ∧ 2048 ≤ c3 b0 b1 b2 ∧ (c3 b0 b1 b2 < 55296 ∨ 57343 < c3 b0 b1 b2) then 3
  else if 240 ≤ b0 ∧ b0 < 245 ∧ mor L 1 b1 ∧ mor L 2 b2 ∧ mor L 3 b3 ∧ 65536 ≤ c4 b0 b1 b2 b3 ∧ c4 b0 b1 b2 b3 ≤ 1114111 then 4
  else 0
set_option maxHeartbeats 4000000 in
theorem runeM_runR {s : Str} {i : Nat} (h : i < s.length) : runeM s i = runR (s.length - i) (bt s i) (bt s (i + 1)) (bt s (i + 2)) (bt s (i + 3)) := by
  unfold runeM runR
  simp only [moreM_iff, byteM_in h]
  by_cases h1 : i + 1 < s.length
  · by_cases h2 : i + 2 < s.length
    · by_cases h3 : i + 3 < s.length
      · simp only [byteM_in h1, byteM_in h2, byteM_in h3, mor, c3, c4]
        repeat' split
        all_goals first | rfl | (exfalso; omega)
      · simp only [byteM_in h1, byteM_in h2, mor, c3, c4]
        repeat' split
        all_goals first | rfl | (exfalso; omega)
    · simp only [byteM_in h1, mor, c3, c4]
      repeat' split
      all_goals first | rfl | (exfalso; omega)
  · simp only [mor, c3, c4]
    repeat' split
    all_goals first | rfl | (exfalso; omega)
theorem b8_bt (s : Str) (i : Nat) (h : i < s.length) : UInt8.ofNat (bt s i) = s[i] := by
  unfold bt
  rw [List.getD_eq_getElem?_getD, List.getElem?_eq_getElem h]; simp
theorem take_one {s : Str} {i : Nat} (h : i < s.length) : (s.drop i).take 1 = [UInt8.ofNat (bt s i)] := by
  rw [b8_bt s i h, List.drop_eq_getElem_cons h]; rfl
theorem take_step {s : Str} {i n : Nat} (h : i < s.length) : (s.drop i).take (n + 1) = UInt8.ofNat (bt s i) :: (s.drop (i + 1)).take n := by
  rw [b8_bt s i h, List.drop_eq_getElem_cons h]; rfl
set_option maxHeartbeats 4000000 in
theorem rune_bad {s : Str} {i : Nat} (h : i < s.length) (h0 : runeM s i = 0) : Utf8.decode (ofL s) i = (65533, 1) := by
  rw [dec_ofL, dec_decR (bt_lt _ _) (bt_lt _ _) (bt_lt _ _) (bt_lt _ _)]
  rw [runeM_runR h] at h0
  unfold runR at h0
  unfold decR
  repeat' split at h0
  all_goals first | (exfalso; omega) | skip
  all_goals (repeat rw [if_neg (by assumption)])
structure RuneAt (s : Str) (i n c : Nat) : Prop where
  dec : Utf8.decode (ofL s) i = (c, n)
  fits : i + n ≤ s.length
  small : n ≤ 4
  bytes : Lib.encodeRune c = (s.drop i).take n
  low : n = 1 → c = bt s i ∧ c < 128
  high : 2 ≤ n → 128 ≤ c ∧ 128 ≤ bt s i
  top : c ≤ 1114111
  val : c < 55296 ∨ 57343 < c
theorem enc_map (l : List Int) : (l.map fun x => x.toNat.toUInt8) = l.map fun x => UInt8.ofNat x.toNat := rfl
set_option maxHeartbeats 8000000 in
theorem rune_good {s : Str} {i : Nat} (h : i < s.length) (h0 : runeM s i ≠ 0) : ∃ c, RuneAt s i (runeM s i) c := by
  have e := dec_ofL s i
  rw [dec_decR (bt_lt _ _) (bt_lt _ _) (bt_lt _ _) (bt_lt _ _)] at e
  have hr := runeM_runR h
  have l0 := bt_lt s i
  generalize hn : runeM s i = n at *
  unfold runR at hr
  unfold decR at e
  by_cases a1 : bt s i < 128
  · rw [if_pos a1] at hr e
    subst hr
    refine ⟨_, e, by omega, by omega, ?_, fun _ => ⟨rfl, a1⟩, fun h => by omega, by omega, by omega⟩
    rw [take_one h, Lib.encodeRune, Lib.encodeRuneZ_one (by omega) (by omega)]
    simp
  rw [if_neg a1] at hr e
  by_cases a2 : 194 ≤ bt s i ∧ bt s i < 224 ∧ mor (s.length - i) 1 (bt s (i + 1))
  · rw [if_pos a2] at hr e
    subst hr
    obtain ⟨a2, a3, a4, a5, a6⟩ := a2
    refine ⟨_, e, by omega, by omega, ?_, fun h => by omega, fun h => by omega, by omega, by omega⟩
    rw [take_step h, take_one (by omega), Lib.encodeRune, Lib.encodeRuneZ_two (by omega) (by omega)]
    simp only [List.map_cons, List.map_nil, enc_map]
    rw [show ((192 : Int) + (((bt s i - 192) * 64 + (bt s (i + 1) - 128) : Nat) : Int) / 64).toNat = bt s i by omega, show ((128 : Int) + (((bt s i - 192) * 64 + (bt s (i + 1) - 128) : Nat) : Int) % 64).toNat = bt s (i + 1) by omega]
  rw [if_neg a2] at hr e
  by_cases a3 : 224 ≤ bt s i ∧ bt s i < 240 ∧ mor (s.length - i) 1 (bt s (i + 1)) ∧ mor (s.length - i) 2 (bt s (i + 2)) ∧ 2048 ≤ c3 (bt s i) (bt s (i + 1)) (bt s (i + 2)) ∧ (c3 (bt s i) (bt s (i + 1)) (bt s (i + 2)) < 55296 ∨ 57343 < c3 (bt s i) (bt s (i + 1)) (bt s (i + 2)))
  · rw [if_pos a3] at hr e
    subst hr
    obtain ⟨p1, p2, ⟨p3, p4, p5⟩, ⟨p6, p7, p8⟩, p9, p10⟩ := a3
    have q3 : c3 (bt s i) (bt s (i + 1)) (bt s (i + 2)) = (bt s i - 224) * 4096 + (bt s (i + 1) - 128) * 64 + (bt s (i + 2) - 128) := rfl
    refine ⟨_, e, by omega, by omega, ?_, fun h => by omega, fun h => by omega, by omega, by omega⟩
    rw [take_step h, take_step (by omega), take_one (by omega), Lib.encodeRune, Lib.encodeRuneZ_three (by omega)]
    simp only [List.map_cons, List.map_nil, enc_map]
    rw [show ((224 : Int) + ((c3 (bt s i) (bt s (i + 1)) (bt s (i + 2)) : Nat) : Int) / 4096).toNat = bt s i by unfold c3; omega, show ((128 : Int) + ((c3 (bt s i) (bt s (i + 1)) (bt s (i + 2)) : Nat) : Int) / 64 % 64).toNat = bt s (i + 1) by unfold c3; omega, show ((128 : Int) + ((c3 (bt s i) (bt s (i + 1)) (bt s (i + 2)) : Nat) : Int) % 64).toNat = bt s (i + 2) by unfold c3; omega]
  rw [if_neg a3] at hr e
  by_cases a4 : 240 ≤ bt s i ∧ bt s i < 245 ∧ mor (s.length - i) 1 (bt s (i + 1)) ∧ mor (s.length - i) 2 (bt s (i + 2)) ∧ mor (s.length - i) 3 (bt s (i + 3)) ∧ 65536 ≤ c4 (bt s i) (bt s (i + 1)) (bt s (i + 2)) (bt s (i + 3)) ∧ c4 (bt s i) (bt s (i + 1)) (bt s (i + 2)) (bt s (i + 3)) ≤ 1114111
  · rw [if_pos a4] at hr e
    subst hr
    obtain ⟨p1, p2, ⟨p3, p4, p5⟩, ⟨p6, p7, p8⟩, ⟨p9, p10, p11⟩, p12, p13⟩ := a4
    refine ⟨_, e, by omega, by omega, ?_, fun h => by omega, fun h => by omega, by omega, by omega⟩
    rw [take_step h, take_step (by omega), take_step (by omega), take_one (by omega), Lib.encodeRune, Lib.encodeRuneZ_four (by omega) (by omega)]
    simp only [List.map_cons, List.map_nil, enc_map]
    rw [show ((240 : Int) + ((c4 (bt s i) (bt s (i + 1)) (bt s (i + 2)) (bt s (i + 3)) : Nat) : Int) / 262144).toNat = bt s i by unfold c4; omega, show ((128 : Int) + ((c4 (bt s i) (bt s (i + 1)) (bt s (i + 2)) (bt s (i + 3)) : Nat) : Int) / 4096 % 64).toNat = bt s (i + 1) by unfold c4; omega, show ((128 : Int) + ((c4 (bt s i) (bt s (i + 1)) (bt s (i + 2)) (bt s (i + 3)) : Nat) : Int) / 64 % 64).toNat = bt s (i + 2) by unfold c4; omega, show ((128 : Int) + ((c4 (bt s i) (bt s (i + 1)) (bt s (i + 2)) (bt s (i + 3)) : Nat) : Int) % 64).toNat = bt s (i + 3) by unfold c4; omega]
  rw [if_neg a4] at hr
  exact absurd hr h0
theorem rune_end {s : Str} {i : Nat} (h : s.length ≤ i) : runeM s i = 0 := by
  unfold runeM
  simp only [byteM_out h]
  rfl
theorem wr_enc {n : Nat} (h : n < 55296 ∨ 57343 < n ∧ n ≤ 1114111) : Lib.encodeRune n = wrM n := by
  unfold Lib.encodeRune wrM b8
  by_cases h1 : n < 128
  · rw [Lib.encodeRuneZ_one (by omega) (by omega), if_pos h1]; simp
  rw [if_neg h1]
  by_cases h2 : n < 2048
  · rw [Lib.encodeRuneZ_two (by omega) (by omega), if_pos h2]
    simp only [List.map_cons, List.map_nil, enc_map]
    rw [show ((192 : Int) + (n : Int) / 64).toNat = 192 + n / 64 by omega, show ((128 : Int) + (n : Int) % 64).toNat = 128 + n % 64 by omega]
  rw [if_neg h2]
  by_cases h3 : n < 65536
  · rw [Lib.encodeRuneZ_three (by omega), if_pos h3]
    simp only [List.map_cons, List.map_nil, enc_map]
    rw [show ((224 : Int) + (n : Int) / 4096).toNat = 224 + n / 4096 by omega, show ((128 : Int) + (n : Int) / 64 % 64).toNat = 128 + n / 64 % 64 by omega, show ((128 : Int) + (n : Int) % 64).toNat = 128 + n % 64 by omega]
  · rw [Lib.encodeRuneZ_four (by omega) (by omega), if_neg h3]
    simp only [List.map_cons, List.map_nil, enc_map]
    rw [show ((240 : Int) + (n : Int) / 262144).toNat = 240 + n / 262144 by omega, show ((128 : Int) + (n : Int) / 4096 % 64).toNat = 128 + n / 4096 % 64 by omega, show ((128 : Int) + (n : Int) / 64 % 64).toNat = 128 + n / 64 % 64 by omega, show ((128 : Int) + (n : Int) % 64).toNat = 128 + n % 64 by omega]
end Go.Eng
namespace Go.Proofs.YtcnjpcadejcenaaGreatDoor
open Go Go.Eng Go.RowKit
set_option maxRecDepth 100000
abbrev u8 (n : Nat) : Value := .int .u8 (n : Int)
theorem or192 : ∀ x : Fin 32, IntKind.u8.wrap (BitVec.ofInt IntKind.u8.bits 192 ||| BitVec.ofInt IntKind.u8.bits ((x.val : Nat) : Int)).toNat = ((192 + x.val : Nat) : Int) := by decide +kernel
theorem or224 : ∀ x : Fin 16, IntKind.u8.wrap (BitVec.ofInt IntKind.u8.bits 224 ||| BitVec.ofInt IntKind.u8.bits ((x.val : Nat) : Int)).toNat = ((224 + x.val : Nat) : Int) := by decide +kernel
theorem or240 : ∀ x : Fin 8, IntKind.u8.wrap (BitVec.ofInt IntKind.u8.bits 240 ||| BitVec.ofInt IntKind.u8.bits ((x.val : Nat) : Int)).toNat = ((240 + x.val : Nat) : Int) := by decide +kernel
theorem or128 : ∀ x : Fin 64, IntKind.u8.wrap (BitVec.ofInt IntKind.u8.bits 128 ||| BitVec.ofInt IntKind.u8.bits ((x.val : Nat) : Int)).toNat = ((128 + x.val : Nat) : Int) := by decide +kernel
theorem and63 : ∀ x : Fin 256, IntKind.u8.wrap (BitVec.ofInt IntKind.u8.bits ((x.val : Nat) : Int) &&& BitVec.ofInt IntKind.u8.bits 63).toNat = ((x.val % 64 : Nat) : Int) := by decide +kernel
theorem u8_wrap (n : Nat) : IntKind.u8.wrap (n : Int) = ((n % 256 : Nat) : Int) := by
  simp only [IntKind.wrap, IntKind.bits, IntKind.signed, Bool.false_and]
  rw [show (2 : Int) ^ 8 = 256 by decide]
  simp
theorem u32_wrap {n : Nat} (h : n < 4294967296) : IntKind.u32.wrap (n : Int) = (n : Int) := by
  simp only [IntKind.wrap, IntKind.bits, IntKind.signed, Bool.false_and]
  rw [show (2 : Int) ^ 32 = 4294967296 by decide]
  simp only [Bool.false_eq_true, if_false]
  omega
theorem shr_n (r k : Nat) (hk : k ≤ 32) (K : Value → Prop) : binW .shr (.int .i32 (r : Int)) (.int .u64 (k : Int)) K ↔ K (.int .i32 ((r / 2 ^ k : Nat) : Int)) := by
  have e : (r : Int).fdiv (2 ^ min (k : Int).toNat IntKind.i32.bits) = ((r / 2 ^ k : Nat) : Int) := by
    rw [Int.toNat_natCast, show min k IntKind.i32.bits = k from Nat.min_eq_left hk, Int.fdiv_eq_ediv_of_nonneg _ (by exact Int.le_of_lt (Int.pow_pos (by decide)))]
    rw [Int.natCast_ediv, Int.natCast_pow]; rfl
  simp only [binW]
  rw [e]
  constructor
  · exact fun h => h.2
  · exact fun h => ⟨by omega, h⟩
theorem tail_n (x : Nat) (K : Value → Prop) : (cvtW .u8 (.int .i32 (x : Int)) fun t => binW .and t (.int .u8 63) fun t => binW .or (.int .u8 128) t K) ↔ K (u8 (128 + x % 64)) := by
  rw [cvt_int, u8_wrap, bin_and, and63 ⟨x % 256, by omega⟩, bin_or, or128 ⟨x % 256 % 64, by omega⟩]
  simp only
  rw [show x % 256 % 64 = x % 64 by omega]
theorem row2 {w : World} {a b : Nat} {K : Value → World → Prop} (hK : ∀ t w', SlAt w' U8 t 2 [u8 a, u8 b] → Ext w w' → K t w') : bslW U8 2 [(.int .u8 0), (.int .u8 0)] [(0, 1, u8 a), (1, 1, u8 b)] w K := by
  rw [bslW]
  simp only [put_int, put_nil, List.length_cons, List.length_nil, List.set_cons_zero, List.set_cons_succ]
  refine ⟨by omega, by omega, ?_⟩
  refine hK _ _ ⟨_, _, rfl, Nat.le_refl _, fun e => (by cases e), fun _ => ⟨_, _, _, _, rfl, heap_anew _ _ _ rfl, fun i _ => by rw [Nat.zero_add]; simp⟩⟩ (Chg.alloc (Chg.refl _ _) _)
theorem row3 {w : World} {a b c : Nat} {K : Value → World → Prop} (hK : ∀ t w', SlAt w' U8 t 3 [u8 a, u8 b, u8 c] → Ext w w' → K t w') : bslW U8 3 [(.int .u8 0), (.int .u8 0), (.int .u8 0)] [(0, 1, u8 a), (1, 1, u8 b), (2, 1, u8 c)] w K := by
  rw [bslW]
  simp only [put_int, put_nil, List.length_cons, List.length_nil, List.set_cons_zero, List.set_cons_succ]
  refine ⟨by omega, by omega, by omega, ?_⟩
  refine hK _ _ ⟨_, _, rfl, Nat.le_refl _, fun e => (by cases e), fun _ => ⟨_, _, _, _, rfl, heap_anew _ _ _ rfl, fun i _ => by rw [Nat.zero_add]; simp⟩⟩ (Chg.alloc (Chg.refl _ _) _)
theorem row4 {w : World} {a b c d : Nat} {K : Value → World → Prop} (hK : ∀ t w', SlAt w' U8 t 4 [u8 a, u8 b, u8 c, u8 d] → Ext w w' → K t w') : bslW U8 4 [(.int .u8 0), (.int .u8 0), (.int .u8 0), (.int .u8 0)] [(0, 1, u8 a), (1, 1, u8 b), (2, 1, u8 c), (3, 1, u8 d)] w K := by
  rw [bslW]
  simp only [put_int, put_nil, List.length_cons, List.length_nil, List.set_cons_zero, List.set_cons_succ]
  refine ⟨by omega, by omega, by omega, by omega, ?_⟩
  refine hK _ _ ⟨_, _, rfl, Nat.le_refl _, fun e => (by cases e), fun _ => ⟨_, _, _, _, rfl, heap_anew _ _ _ rfl, fun i _ => by rw [Nat.zero_add]; simp⟩⟩ (Chg.alloc (Chg.refl _ _) _)
theorem u8s_nat (l : List Nat) (h : ∀ x ∈ l, x < 256) : u8s (l.map b8) = l.map u8 := by
  unfold u8s
  rw [List.map_map]
  apply List.map_congr_left
  intro x hx
  have := h x hx
  simp only [Function.comp, b8, UInt8.toNat_ofNat', u8]
  rw [Nat.mod_eq_of_lt (by omega)]
section
variable [HX]
theorem arune_p {w : World} {B r : Nat} {l : Str} {v : Value} {K : Value → World → Prop} (hO : Own w B U8 1 v l.length (u8s l)) (hB : B ≤ w.heap.size) (hl : l.length + 4 ≤ 140737488355328) (hr : r < 55296 ∨ 57343 < r ∧ r ≤ 1114111)
    (hK : ∀ v' w', Own w' B U8 1 v' (l ++ wrM r).length (u8s (l ++ wrM r)) → (∀ k, ¬ OwnS w B U8 k → k < w.heap.size → w'.heap[k]? = w.heap[k]?) → Chg (fun k => v.ownBlock = some k) w w' → K v' w') :
    callF Tryz.prog 185 [v, .int .i32 (r : Int)] w K := by
  have fin : ∀ (bs : List Nat) (t : Value) (w1 : World), wrM r = bs.map b8 → (∀ x ∈ bs, x < 256) → bs.length ≤ 4 → SlAt w1 U8 t bs.length (bs.map u8) → Ext w w1 → semE Tryz.prog (Builtin.append_ #[44, 44] 44 #[v, t]) w1 K := by
    intro bs t w1 he hlt hlen ht hx
    refine append_own2 elem_u8 (hO.ext hx) ht (m := bs.length) (by simp) (fun u hu => by simp only [List.mem_map] at hu; obtain ⟨x, _, rfl⟩ := hu; rfl) (by omega) (by omega) (by have := hx.size; omega) fun v' w3 hO3 hc3 _ => ?_
    have hc : Chg (fun k => v.ownBlock = some k) w w3 := (Chg.of_ext hx).trans hc3
    refine hK v' w3 ?_ (fun k hk hlt => hc.heap k hlt fun e => hk (hO.block k e)) hc
    rw [u8s_app, he, u8s_nat bs hlt, List.length_append, List.length_map]
    exact hO3
  refine W185_ok ?_
  unfold W185
  rw [cvt_int, u32_wrap (by omega), bin_leq, condW_dec]
  refine ⟨fun h => ?_, fun h => ?_⟩
  · rw [cvt_int, u8_wrap, Nat.mod_eq_of_lt (by omega)]
    refine row_u8 fun t w1 ht hx => ?_
    refine fin [r] t w1 ?_ (fun x hx => by simp only [List.mem_singleton] at hx; omega) (by simp) ht hx
    unfold wrM; rw [if_pos (by omega)]; rfl
  refine W223_ok ?_
  unfold W223
  rw [cvt_int, u32_wrap (by omega), bin_leq, condW_dec]
  refine ⟨fun h2 => ?_, fun h2 => ?_⟩
  · rw [show (6 : Int) = ((6 : Nat) : Int) from rfl, shr_n r 6 (by omega), cvt_int, u8_wrap, show r / 2 ^ 6 % 256 = r / 64 by omega, bin_or, or192 ⟨r / 64, by omega⟩, tail_n]
    refine row2 fun t w1 ht hx => ?_
    refine fin [192 + r / 64, 128 + r % 64] t w1 ?_ (fun x hx => by simp only [List.mem_cons, List.not_mem_nil, or_false] at hx; omega) (by simp) ht hx
    unfold wrM; rw [if_neg (by omega), if_pos (by omega)]; rfl
  refine JoinW.cut (fun s' w' => s' = [.bool (decide (r ≤ 65535))] ∧ w' = w) ?_ ?_
  · rw [bin_lss, condW_dec]
    refine ⟨fun h3 => ?_, fun h3 => ?_⟩
    · rw [decide_eq_true h3, decide_eq_true (by omega)]; exact ⟨rfl, rfl⟩
    · rw [bin_lss, decide_eq_true (show (57343 : Int) < (r : Int) by omega)]
      refine GdW.look (decide (r ≤ 65535)) (fun _ J hJ => ?_) fun g => ?_
      · rw [bin_leq]
        rw [show decide ((r : Int) ≤ 65535) = decide (r ≤ 65535) by rw [decide_eq_decide]; omega]
        exact hJ
      · exact ⟨rfl, rfl⟩
  rintro s' g w' ⟨rfl, rfl⟩
  simp only [List.getD_cons_zero]
  rw [condW_dec]
  refine ⟨fun h3 => ?_, fun h3 => ?_⟩
  · rw [show (12 : Int) = ((12 : Nat) : Int) from rfl, shr_n r 12 (by omega), cvt_int, u8_wrap, show r / 2 ^ 12 % 256 = r / 4096 by omega, bin_or, or224 ⟨r / 4096, by omega⟩, show (6 : Int) = ((6 : Nat) : Int) from rfl, shr_n r 6 (by omega), tail_n, tail_n]
    refine row3 fun t w1 ht hx => ?_
    refine fin [224 + r / 4096, 128 + r / 64 % 64, 128 + r % 64] t w1 ?_ (fun x hx => by simp only [List.mem_cons, List.not_mem_nil, or_false] at hx; omega) (by simp) ht hx
    unfold wrM; rw [if_neg (by omega), if_neg (by omega), if_pos (by omega)]; rfl
  rw [bin_gtr, decide_eq_true (show (65535 : Int) < (r : Int) by omega)]
  refine GdW.look true (fun _ J hJ => ?_) fun g => ?_
  · rw [bin_leq, decide_eq_true (show (r : Int) ≤ 1114111 by omega)]; exact hJ
  show condW (.bool true) _ _
  rw [condW_true]
  rw [show (18 : Int) = ((18 : Nat) : Int) from rfl, shr_n r 18 (by omega), cvt_int, u8_wrap, show r / 2 ^ 18 % 256 = r / 262144 by omega, bin_or, or240 ⟨r / 262144, by omega⟩, show (12 : Int) = ((12 : Nat) : Int) from rfl, shr_n r 12 (by omega), tail_n, show (6 : Int) = ((6 : Nat) : Int) from rfl, shr_n r 6 (by omega), tail_n, tail_n]
  refine row4 fun t w1 ht hx => ?_
  refine fin [240 + r / 262144, 128 + r / 4096 % 64, 128 + r / 64 % 64, 128 + r % 64] t w1 ?_ (fun x hx => by simp only [List.mem_cons, List.not_mem_nil, or_false] at hx; omega) (by simp) ht hx
  unfold wrM; rw [if_neg (by omega), if_neg (by omega), if_neg (by omega)]; rfl
theorem wrune_p {w : World} {B b r : Nat} {l : Str} {K : Value → World → Prop} (h : Bld w B b l) (hB : B ≤ w.heap.size) (hl : l.length + 4 ≤ 140737488355328) (hr : r < 55296 ∨ 57343 < r ∧ r ≤ 1114111)
    (hK : ∀ v w', Bld w' B b (l ++ wrM r) → Chg (BCh w B b) w w' → K v w') : callF Tryz.prog 155 [.pointer (some ⟨b, 0, none⟩), .int .i32 (r : Int)] w K := by
  have hb := h.base
  refine W155_ok ?_
  unfold W155
  refine check_p h fun v w1 h1 hO hz hc => ?_
  have hc1 : w1.cell? (⟨b, 0, none⟩ : Addr) |>.isSome := by rw [cell_eq, h1]; rfl
  rw [nil_ptr, fld_ptr, ld_one]
  refine ⟨v, by rw [add_mk, cell_eq, h1]; rfl, ?_⟩
  rw [lenl_at hO.sl, nil_ptr, fld_ptr, ld_one]
  refine ⟨v, by rw [add_mk, cell_eq, h1]; rfl, ?_⟩
  refine arune_p hO (by omega) hl hr fun v' w2 hO2 _ hc2 => ?_
  rw [nil_ptr, fld_ptr]
  refine bstore (n := 0) h1 hO hb hc2 hO2 fun w4 hb4 hc4 _ => ?_
  obtain ⟨p, v4, h4, _, hO4, _⟩ := id hb4
  rw [nil_ptr, fld_ptr, ld_one]
  refine ⟨v4, by rw [add_mk, cell_eq, h4]; rfl, ?_⟩
  rw [lenl_at hO4.sl, bin_sub]
  exact hK _ w4 hb4 (BCh.trans hc hc4)
end
end Go.Proofs.YtcnjpcadejcenaaGreatDoor
namespace Go.Eng
open Go
mutual
/-- how many values it has -/
def cntM : JV → Nat
  | .mk _ _ _ xs _ => 1 + cntL xs
def cntL : List JV → Nat
  | [] => 0
  | x :: xs => cntM x + cntL xs
end
theorem cnt_pos (v : JV) : 1 ≤ cntM v := by cases v; simp only [cntM]; omega
theorem showM_eq (k : Int) (b : Bool) (t : Str) (xs : List JV) (ks : List Str) : showM (.mk k b t xs ks) = (if k = 0 then [110, 117, 108, 108] else if k = 2 then (if b then [116, 114, 117, 101] else [102, 97, 108, 115, 101]) else if k = 3 then t else if k = 4 then quoteM t
    else if k = 6 then [123] ++ joinM (List.zipWith (fun a b => quoteM a ++ [58] ++ b) ks (showL xs)) ++ [125] else [91] ++ joinM (showL xs) ++ [93]) := by rw [showM]
theorem byte_at {s r : Str} {i : Nat} {c : UInt8} (h : s.drop i = c :: r) : byteM s i = c.toNat := by
  unfold byteM
  have : s[i]? = some c := by
    have := List.getElem?_drop (xs := s) (i := i) (j := 0)
    rw [h] at this
    simpa using this.symm
  rw [this]
theorem drop_app {s l r : Str} {i : Nat} (h : s.drop i = l ++ r) : s.drop (i + l.length) = r := by
  rw [← List.drop_drop, h, List.drop_left]
theorem drop_cons {s r : Str} {i : Nat} {c : UInt8} (h : s.drop i = c :: r) : s.drop (i + 1) = r := drop_app (l := [c]) h
theorem drop_lt {s r : Str} {i : Nat} {c : UInt8} (h : s.drop i = c :: r) : i < s.length := by
  apply Nat.lt_of_not_le
  intro hle
  rw [List.drop_eq_nil_iff.2 hle] at h
  cases h
theorem blank_stop {s : Str} {i : Nat} (h : isBlank (byteM s i) = false) : blankM s i = i := by
  unfold blankM
  cases s.length - i with
  | zero => rfl
  | succ n => rw [blankGo, h]; rfl
theorem blank_step {s r : Str} {i : Nat} {c : UInt8} (h : s.drop i = c :: r) (hc : isBlank c.toNat = true) : blankM s i = blankM s (i + 1) := by
  have hlt := drop_lt h
  unfold blankM
  rw [show s.length - i = (s.length - (i + 1)) + 1 by omega, blankGo, byte_at h, hc]
  rfl
end Go.Eng
namespace Go.Eng
open Go
theorem byte_pref {s u r : Str} {i j : Nat} (h : s.drop i = u ++ r) (hj : j < u.length) : byteM s (i + j) = u[j].toNat := by
  have : s.drop (i + j) = u[j] :: (u.drop (j + 1) ++ r) := by
    rw [← List.drop_drop, h, List.drop_append_of_le_length (by omega), List.drop_eq_getElem_cons hj]; rfl
  exact byte_at this
theorem rune_same {s t : Str} {i k m : Nat} (hm : 0 < m) (h : runeM s i = m) (hb : ∀ j, j < m → byteM t (k + j) = byteM s (i + j)) : runeM t k = m := by
  have e0 : byteM t k = byteM s i := hb 0 hm
  unfold runeM at h ⊢
  dsimp only at h
  simp only [e0]
  by_cases h1 : m = 1
  · subst h1
    split at h
    · omega
    rename_i a
    split at h
    · rename_i b; rw [if_neg a, if_pos b]
    split at h
    · omega
    split at h
    · omega
    split at h <;> omega
  by_cases h2 : m = 2
  · subst h2
    have e1 := hb 1 (by omega)
    have m1 : moreM t (k + 1) = moreM s (i + 1) := by unfold moreM; rw [e1]
    simp only [m1]
    split at h
    · omega
    rename_i a
    split at h
    · omega
    rename_i b
    split at h
    · rename_i c; rw [if_neg a, if_neg b, if_pos c]
    split at h
    · omega
    split at h <;> omega
  by_cases h3 : m = 3
  · subst h3
    have e1 := hb 1 (by omega)
    have e2 := hb 2 (by omega)
    have m1 : moreM t (k + 1) = moreM s (i + 1) := by unfold moreM; rw [e1]
    have m2 : moreM t (k + 2) = moreM s (i + 2) := by unfold moreM; rw [e2]
    simp only [m1, m2, e1, e2]
    split at h
    · omega
    rename_i a
    split at h
    · omega
    rename_i b
    split at h
    · omega
    rename_i c
    split at h
    · rename_i d; rw [if_neg a, if_neg b, if_neg c, if_pos d]
    split at h <;> omega
  by_cases h4 : m = 4
  · subst h4
    have e1 := hb 1 (by omega)
    have e2 := hb 2 (by omega)
    have e3 := hb 3 (by omega)
    simp only [moreM, e1, e2, e3] at h ⊢
    exact h
  · exfalso
    split at h
    · omega
    split at h
    · omega
    split at h
    · omega
    split at h
    · omega
    split at h <;> omega
theorem rune_lt {s : Str} {i : Nat} (h : runeM s i ≠ 0) : i < s.length := by
  apply Nat.lt_of_not_le
  intro hle
  exact h (rune_end hle)
theorem rune_fits {s : Str} {i : Nat} (h : runeM s i ≠ 0) : i + runeM s i ≤ s.length := by
  obtain ⟨c, hc⟩ := rune_good (rune_lt h) h
  exact hc.fits
def Rn (u : Str) : Prop := u ≠ [] ∧ runeM u 0 = u.length
theorem Rn.pos {u : Str} (h : Rn u) : 0 < u.length := List.length_pos_iff.2 h.1
theorem Rn.at {u s r : Str} {i : Nat} (h : Rn u) (hs : s.drop i = u ++ r) : runeM s i = u.length := by
  refine rune_same (s := u) (i := 0) h.pos h.2 fun j hj => ?_
  rw [byte_pref hs hj, byte_pref (s := u) (i := 0) (u := u) (r := []) (by simp) hj]
theorem Rn.of {s : Str} {i : Nat} (h : runeM s i ≠ 0) : Rn ((s.drop i).take (runeM s i)) := by
  have hf := rune_fits h
  have hl : ((s.drop i).take (runeM s i)).length = runeM s i := by rw [List.length_take, List.length_drop]; omega
  refine ⟨fun e => by rw [e] at hl; simp at hl; omega, ?_⟩
  rw [hl]
  refine rune_same (s := s) (i := i) (by omega) rfl fun j hj => ?_
  rw [byte_pref (s := s) (i := i) (u := (s.drop i).take (runeM s i)) (r := (s.drop i).drop (runeM s i)) (List.take_append_drop _ _).symm (by omega), byte_pref (s := (s.drop i).take (runeM s i)) (i := 0) (u := (s.drop i).take (runeM s i)) (r := []) (by simp) (by omega)]
inductive Utf : Str → Prop where
  | nil : Utf []
  | cons {u r : Str} : Rn u → Utf r → Utf (u ++ r)
theorem Utf.app {a b : Str} (h : Utf a) (h' : Utf b) : Utf (a ++ b) := by
  induction h with
  | nil => exact h'
  | cons hu _ ih => rw [List.append_assoc]; exact .cons hu ih
theorem Utf.one {u : Str} (h : Rn u) : Utf u := by have := Utf.cons h .nil; rwa [List.append_nil] at this
theorem utf_of {s : Str} : ∀ {n i : Nat}, utfGo s n i = true → Utf (s.drop i) := by
  intro n
  induction n with
  | zero =>
    intro i h
    rw [utfGo, decide_eq_true_eq] at h
    rw [List.drop_of_length_le h]
    exact .nil
  | succ n ih =>
    intro i h
    rw [utfGo] at h
    split at h
    · rename_i hl; rw [List.drop_of_length_le hl]; exact .nil
    · split at h
      · cases h
      · rename_i h0
        have := Utf.cons (Rn.of h0) (ih h)
        rwa [← List.drop_drop, List.take_append_drop] at this
theorem of_utf {t : Str} (h : Utf t) : ∀ {s : Str} {n i : Nat}, s.drop i = t → t.length ≤ n → utfGo s n i = true := by
  induction h with
  | nil =>
    intro s n i hs _
    have hl := List.drop_eq_nil_iff.1 hs
    cases n with
    | zero => rw [utfGo, decide_eq_true_eq]; exact hl
    | succ n => rw [utfGo, if_pos hl]
  | @cons u r hu _ ih =>
    intro s n i hs hn
    have hp := hu.pos
    rw [List.length_append] at hn
    have hr := hu.at hs
    cases n with
    | zero => omega
    | succ n =>
      rw [utfGo]
      split
      · rfl
      · rw [if_neg (by omega), hr]
        exact ih (drop_app hs) (by omega)
theorem utf_iff (s : Str) : utfM s = true ↔ Utf s := by
  unfold utfM
  constructor
  · intro h; have := utf_of h; rwa [List.drop_zero] at this
  · intro h; exact of_utf h (List.drop_zero ..) (Nat.le_refl _)
theorem Rn.cases {u : Str} (h : Rn u) : (∃ c : UInt8, u = [c] ∧ c.toNat < 128) ∨ (∀ c ∈ u, 128 ≤ c.toNat) := by
  have hr := h.2
  have hp := h.pos
  have hb : ∀ j, (hj : j < u.length) → byteM u j = u[j].toNat := fun j hj => by
    have := byte_pref (s := u) (i := 0) (u := u) (r := []) (by simp) hj
    rwa [Nat.zero_add] at this
  have hm : ∀ j, (hj : j < u.length) → moreM u j = true → 128 ≤ u[j].toNat := fun j hj hm => by
    unfold moreM at hm
    rw [hb j hj, Bool.and_eq_true, decide_eq_true_iff, decide_eq_true_iff] at hm
    omega
  unfold runeM at hr
  rw [hb 0 hp] at hr
  simp only [Nat.zero_add] at hr
  have hall : (∀ j, (hj : j < u.length) → 128 ≤ u[j].toNat) → ∀ c ∈ u, 128 ≤ c.toNat := fun hj c hc => by
    obtain ⟨j, h1, rfl⟩ := List.getElem_of_mem hc
    exact hj j h1
  split at hr
  · omega
  split at hr
  · rename_i hlt
    left
    obtain ⟨c, rfl⟩ := List.length_eq_one_iff.1 hr.symm
    refine ⟨c, rfl, ?_⟩
    have e : ([c] : Str)[0].toNat = c.toNat := rfl
    omega
  right
  refine hall fun j hj => ?_
  split at hr
  · rename_i c
    obtain ⟨c1, _, c2⟩ := c
    obtain rfl | rfl : j = 0 ∨ j = 1 := by omega
    · omega
    · exact hm 1 hj c2
  split at hr
  · rename_i c
    obtain ⟨c1, _, c2, c3, _⟩ := c
    obtain rfl | rfl | rfl : j = 0 ∨ j = 1 ∨ j = 2 := by omega
    · omega
    · exact hm 1 hj c2
    · exact hm 2 hj c3
  split at hr
  · rename_i c
    obtain ⟨c1, _, c2, c3, c4, _⟩ := c
    obtain rfl | rfl | rfl | rfl : j = 0 ∨ j = 1 ∨ j = 2 ∨ j = 3 := by omega
    · omega
    · exact hm 1 hj c2
    · exact hm 2 hj c3
    · exact hm 3 hj c4
  · omega
theorem esc_high {u : Str} (h : ∀ c ∈ u, 128 ≤ c.toNat) : u.flatMap escB = u := by
  induction u with
  | nil => rfl
  | cons c u ih =>
    have hc := h c List.mem_cons_self
    have hne : ∀ d : UInt8, d.toNat < 128 → c ≠ d := fun d hd e => by subst e; omega
    rw [List.flatMap_cons, ih fun x hx => h x (List.mem_cons_of_mem _ hx)]
    unfold escB
    rw [if_neg (by rintro (e | e) <;> exact hne _ (by decide) e), if_neg (hne _ (by decide)), if_neg (hne _ (by decide)), if_neg (hne _ (by decide)), if_neg (hne _ (by decide)), if_neg (hne _ (by decide)), if_neg (by
      intro e
      have : c.toNat < 32 := e
      omega)]
    rfl
end Go.Eng
namespace Go.Eng
open Go
theorem hexM_at {s r : Str} {i : Nat} {a b c d e f : UInt8} (h : s.drop i = a :: b :: c :: d :: e :: f :: r) : hexM s i = hexM [a, b, c, d, e, f] 0 := by
  have hl : i + 6 ≤ s.length := by
    have : (s.drop i).length = 6 + r.length := by rw [h]; simp; omega
    rw [List.length_drop] at this
    omega
  have h1 := drop_cons h
  have h2 := drop_cons h1
  have h3 := drop_cons h2
  have h4 := drop_cons h3
  have h5 := drop_cons h4
  have e0 := byte_at h
  have e1 := byte_at h1
  have e2 := byte_at h2
  have e3 := byte_at h3
  have e4 := byte_at h4
  have e5 := byte_at h5
  unfold hexM
  simp only [Nat.add_assoc, Nat.reduceAdd] at e2 e3 e4 e5 ⊢
  rw [e0, e1, e2, e3, e4, e5]
  simp only [Nat.zero_add, List.length_cons, List.length_nil]
  rw [show byteM [a, b, c, d, e, f] 0 = a.toNat from rfl, show byteM [a, b, c, d, e, f] 1 = b.toNat from rfl, show byteM [a, b, c, d, e, f] 2 = c.toNat from rfl, show byteM [a, b, c, d, e, f] 3 = d.toNat from rfl, show byteM [a, b, c, d, e, f] 4 = e.toNat from rfl, show byteM [a, b, c, d, e, f] 5 = f.toNat from rfl]
  have : (0 + 6 ≤ 0 + 1 + 1 + 1 + 1 + 1 + 1) = True := by simp
  simp only [hl, true_and, this]
theorem rn_wr {n : Nat} (h : n < 55296 ∨ 57343 < n ∧ n ≤ 1114111) : Rn (wrM n) := by
  have e : ∀ x : Nat, x < 256 → ((b8 x).toNat : Int) = x := fun x hx => by unfold b8; rw [UInt8.toNat_ofNat']; omega
  unfold wrM
  split
  · refine ⟨by simp, ?_⟩
    unfold runeM
    rw [show byteM [b8 n] 0 = (b8 n).toNat from rfl, e n (by omega), if_neg (by omega), if_pos (by omega)]; rfl
  split
  · refine ⟨by simp, ?_⟩
    unfold runeM moreM
    simp only [Nat.zero_add]
    rw [show byteM [b8 (192 + n / 64), b8 (128 + n % 64)] 0 = (b8 (192 + n / 64)).toNat from rfl, show byteM [b8 (192 + n / 64), b8 (128 + n % 64)] 1 = (b8 (128 + n % 64)).toNat from rfl, e _ (by omega), e _ (by omega),
      if_neg (by omega), if_neg (by omega), if_pos ⟨by omega, by omega, by rw [Bool.and_eq_true, decide_eq_true_iff, decide_eq_true_iff]; omega⟩]; rfl
  split
  · refine ⟨by simp, ?_⟩
    unfold runeM moreM
    simp only [Nat.zero_add]
    rw [show byteM [b8 (224 + n / 4096), b8 (128 + n / 64 % 64), b8 (128 + n % 64)] 0 = (b8 (224 + n / 4096)).toNat from rfl, show byteM [b8 (224 + n / 4096), b8 (128 + n / 64 % 64), b8 (128 + n % 64)] 1 = (b8 (128 + n / 64 % 64)).toNat from rfl, show byteM [b8 (224 + n / 4096), b8 (128 + n / 64 % 64), b8 (128 + n % 64)] 2 = (b8 (128 + n % 64)).toNat from rfl, e _ (by omega), e _ (by omega), e _ (by omega),
      if_neg (by omega), if_neg (by omega), if_neg (by omega), if_pos ⟨by omega, by omega, by rw [Bool.and_eq_true, decide_eq_true_iff, decide_eq_true_iff]; omega, by rw [Bool.and_eq_true, decide_eq_true_iff, decide_eq_true_iff]; omega, by omega, by omega⟩]; rfl
  · refine ⟨by simp, ?_⟩
    unfold runeM moreM
    simp only [Nat.zero_add]
    rw [show byteM [b8 (240 + n / 262144), b8 (128 + n / 4096 % 64), b8 (128 + n / 64 % 64), b8 (128 + n % 64)] 0 = (b8 (240 + n / 262144)).toNat from rfl, show byteM [b8 (240 + n / 262144), b8 (128 + n / 4096 % 64), b8 (128 + n / 64 % 64), b8 (128 + n % 64)] 1 = (b8 (128 + n / 4096 % 64)).toNat from rfl, show byteM [b8 (240 + n / 262144), b8 (128 + n / 4096 % 64), b8 (128 + n / 64 % 64), b8 (128 + n % 64)] 2 = (b8 (128 + n / 64 % 64)).toNat from rfl, show byteM [b8 (240 + n / 262144), b8 (128 + n / 4096 % 64), b8 (128 + n / 64 % 64), b8 (128 + n % 64)] 3 = (b8 (128 + n % 64)).toNat from rfl, e _ (by omega), e _ (by omega), e _ (by omega), e _ (by omega),
      if_neg (by omega), if_neg (by omega), if_neg (by omega), if_neg (by omega), if_pos ⟨by omega, by omega, by rw [Bool.and_eq_true, decide_eq_true_iff, decide_eq_true_iff]; omega, by rw [Bool.and_eq_true, decide_eq_true_iff, decide_eq_true_iff]; omega, by rw [Bool.and_eq_true, decide_eq_true_iff, decide_eq_true_iff]; omega, by omega, by omega⟩]; rfl
theorem hexV_le (c : Int) : hexV c ≤ 15 := by unfold hexV; split; omega; split; omega; split <;> omega
theorem hexM_range (s : Str) (i : Nat) : hexM s i = -1 ∨ 0 ≤ hexM s i ∧ hexM s i ≤ 65535 := by
  unfold hexM
  split
  · rename_i h
    have h2 := hexV_le (byteM s (i + 2))
    have h3 := hexV_le (byteM s (i + 3))
    have h4 := hexV_le (byteM s (i + 4))
    have h5 := hexV_le (byteM s (i + 5))
    omega
  · omega
theorem escB_le (c : UInt8) : (escB c).length ≤ 6 := by unfold escB; repeat' split
                                                        all_goals simp
theorem rn_one {c : UInt8} (h : c.toNat < 128) : Rn [c] := by
  refine ⟨by simp, ?_⟩
  unfold runeM
  rw [show byteM [c] 0 = c.toNat from rfl, if_neg (by omega), if_pos (by omega)]; rfl
theorem rn_len {u : Str} (h : Rn u) : u.length ≤ 4 := by
  obtain ⟨c, hc⟩ := rune_good (i := 0) h.pos (by rw [h.2]; have := h.pos; omega)
  have := hc.small
  rw [h.2] at this; exact this
theorem escM_def (s : Str) (i : Nat) : escM s i = if byteM s (i + 1) = 34 then some ([34], 2) else if byteM s (i + 1) = 92 then some ([92], 2) else if byteM s (i + 1) = 47 then some ([47], 2) else if byteM s (i + 1) = 98 then some ([8], 2) else if byteM s (i + 1) = 102 then some ([12], 2)
  else if byteM s (i + 1) = 110 then some ([10], 2) else if byteM s (i + 1) = 114 then some ([13], 2) else if byteM s (i + 1) = 116 then some ([9], 2)
  else if hexM s i < 0 ∨ 56320 ≤ hexM s i ∧ hexM s i ≤ 57343 then none
    else if 55296 ≤ hexM s i ∧ hexM s i ≤ 56319 then (if hexM s (i + 6) < 56320 ∨ 57343 < hexM s (i + 6) then none else some (wrM (65536 + (hexM s i - 55296) * 1024 + hexM s (i + 6) - 56320).toNat, 12))
    else some (wrM (hexM s i).toNat, 6) := rfl
theorem escM_rune {s : Str} {i k : Nat} {t : Str} (h : escM s i = some (t, k)) : Rn t ∧ (t.flatMap escB).length ≤ k ∧ 2 ≤ k := by
  have long : ∀ {u : Str}, Rn u → (u.flatMap escB).length ≤ 6 := fun {u} hu => by
    rcases hu.cases with ⟨c, rfl, _⟩ | hh
    · simpa using escB_le c
    · rw [esc_high hh]; have := rn_len hu; omega
  have hr := hexM_range s i
  have hr2 := hexM_range s (i + 6)
  have one : ∀ (d : UInt8), d.toNat < 128 → (escB d).length ≤ 2 → some ([d], 2) = some (t, k) → Rn t ∧ (t.flatMap escB).length ≤ k ∧ 2 ≤ k := fun d hd hl he => by
    cases he
    exact ⟨rn_one hd, by simpa using hl, by omega⟩
  rw [escM_def] at h
  by_cases q0 : byteM s (i + 1) = 34
  · rw [if_pos q0] at h; exact one _ (by decide) (by decide) h
  rw [if_neg q0] at h
  by_cases q1 : byteM s (i + 1) = 92
  · rw [if_pos q1] at h; exact one _ (by decide) (by decide) h
  rw [if_neg q1] at h
  by_cases q2 : byteM s (i + 1) = 47
  · rw [if_pos q2] at h; exact one _ (by decide) (by decide) h
  rw [if_neg q2] at h
  by_cases q3 : byteM s (i + 1) = 98
  · rw [if_pos q3] at h; exact one _ (by decide) (by decide) h
  rw [if_neg q3] at h
  by_cases q4 : byteM s (i + 1) = 102
  · rw [if_pos q4] at h; exact one _ (by decide) (by decide) h
  rw [if_neg q4] at h
  by_cases q5 : byteM s (i + 1) = 110
  · rw [if_pos q5] at h; exact one _ (by decide) (by decide) h
  rw [if_neg q5] at h
  by_cases q6 : byteM s (i + 1) = 114
  · rw [if_pos q6] at h; exact one _ (by decide) (by decide) h
  rw [if_neg q6] at h
  by_cases q7 : byteM s (i + 1) = 116
  · rw [if_pos q7] at h; exact one _ (by decide) (by decide) h
  rw [if_neg q7] at h
  by_cases a1 : hexM s i < 0 ∨ 56320 ≤ hexM s i ∧ hexM s i ≤ 57343
  · rw [if_pos a1] at h; cases h
  rw [if_neg a1] at h
  by_cases a2 : 55296 ≤ hexM s i ∧ hexM s i ≤ 56319
  · rw [if_pos a2] at h
    by_cases a3 : hexM s (i + 6) < 56320 ∨ 57343 < hexM s (i + 6)
    · rw [if_pos a3] at h; cases h
    rw [if_neg a3] at h
    have hn := rn_wr (n := (65536 + (hexM s i - 55296) * 1024 + hexM s (i + 6) - 56320).toNat) (by omega)
    generalize wrM (65536 + (hexM s i - 55296) * 1024 + hexM s (i + 6) - 56320).toNat = z at *
    simp only [Option.some.injEq, Prod.mk.injEq] at h
    obtain ⟨rfl, rfl⟩ := h
    exact ⟨hn, by have := long hn; omega, by omega⟩
  · rw [if_neg a2] at h
    have hn := rn_wr (n := (hexM s i).toNat) (by omega)
    generalize wrM (hexM s i).toNat = z at *
    simp only [Option.some.injEq, Prod.mk.injEq] at h
    obtain ⟨rfl, rfl⟩ := h
    exact ⟨hn, long hn, by omega⟩
theorem quot_back {E : ErrNo} {s : Str} {start cnt : Nat} : ∀ {n i : Nat} {out t : Str} {j c : Nat}, quotGo E s start n i out cnt = .ok t j c → Utf out →
    c = cnt ∧ Utf t ∧ t.length ≤ 16384 ∧ i < j ∧ j ≤ s.length ∧ (t.flatMap escB).length + 1 + i ≤ (out.flatMap escB).length + j := by
  intro n
  induction n with
  | zero => intro i out t j c h _; rw [quotGo] at h; cases h
  | succ n ih =>
    intro i out t j c h hu
    rw [quotGo] at h
    split at h
    · rename_i h34
      split at h
      · cases h
      · cases h
        have hlt : i < s.length := by
          apply Nat.lt_of_not_le; intro hle
          rw [byteM_out hle] at h34; omega
        refine ⟨rfl, hu, by omega, by omega, by omega, by omega⟩
    split at h
    · cases h
    split at h
    · split at h
      · cases h
      · rename_i u k he
        obtain ⟨h1, h2, h3⟩ := escM_rune he
        obtain ⟨a1, a2, a3, a4, a5, a6⟩ := ih h (hu.app (.one h1))
        rw [List.flatMap_append, List.length_append] at a6
        refine ⟨a1, a2, a3, by omega, a5, by omega⟩
    split at h
    · cases h
    split at h
    · cases h
    · rename_i n34 nneg n92 n32 hr
      have hn := Rn.of hr
      have hl : ((s.drop i).take (runeM s i)).length = runeM s i := by rw [List.length_take, List.length_drop]; have := rune_fits hr; omega
      obtain ⟨a1, a2, a3, a4, a5, a6⟩ := ih h (hu.app (.one hn))
      rw [List.flatMap_append, List.length_append] at a6
      have hw : (((s.drop i).take (runeM s i)).flatMap escB).length ≤ runeM s i := by
        have hb0 : byteM s i = ((((s.drop i).take (runeM s i))[0]'(by omega)).toNat : Int) := by
          have := byte_pref (s := s) (i := i) (j := 0) (u := (s.drop i).take (runeM s i)) (r := (s.drop i).drop (runeM s i)) (List.take_append_drop _ _).symm (by omega)
          rwa [Nat.add_zero] at this
        rcases hn.cases with ⟨d, hd, hd2⟩ | hh
        · rw [hd] at hl ⊢
          simp only [hd, List.getElem_cons_zero] at hb0
          simp only [List.flatMap_cons, List.flatMap_nil, List.append_nil]
          rw [← hl]
          have q : ∀ x : UInt8, d = x → byteM s i = x.toNat := fun x e => by rw [hb0, e]
          unfold escB
          rw [if_neg (by rintro (e | e); exact n34 (q _ e); exact n92 (q _ e)), if_neg (fun e => n32 (by rw [q _ e]; decide)), if_neg (fun e => n32 (by rw [q _ e]; decide)), if_neg (fun e => n32 (by rw [q _ e]; decide)), if_neg (fun e => n32 (by rw [q _ e]; decide)), if_neg (fun e => n32 (by rw [q _ e]; decide)), if_neg (by
            intro e
            have e2 : d.toNat < 32 := e
            exact n32 (by rw [hb0]; omega))]
          exact Nat.le_refl _
        · rw [esc_high hh]; omega
      refine ⟨a1, a2, a3, by omega, a5, by omega⟩
end Go.Eng

namespace Go.Proofs.YtcnjpcadejcenaaGreatDoor
open Go Go.Eng
set_option maxRecDepth 100000
variable [HX]
def plan127 : Plan := { js := [(49003, ⟨[122], [], 121⟩), (44005, ⟨[93], [], 90⟩), (44011, ⟨[87], [], 84⟩), (44017, ⟨[81], [], 78⟩), (44021, ⟨[75], [], 74⟩), (28, ⟨[], [4], 6⟩), (35002, ⟨[69], [], 64⟩), (35004, ⟨[68], [], 67⟩), (35007, ⟨[66], [], 64⟩), (30005, ⟨[43], [], 40⟩), (30011, ⟨[37], [], 34⟩), (30015, ⟨[31], [], 30⟩), (22005, ⟨[25], [], 22⟩), (22009, ⟨[19], [], 18⟩)], ds := [] }
def W127 (v0 v1 : Value) (w : World) (K : Value → World → Prop) : Prop :=
  callF Tryz.prog 170 [v0, v1] w fun t10 w1 =>
  binW .lss t10 (.int .i64 0) fun t12 =>
  condW t12 (
    K (.int .i64 0) w1) (
    binW .lss t10 (.int .i64 128) fun t14 =>
    condW t14 (
      K (.int .i64 1) w1) (
      binW .geq t10 (.int .i64 194) fun t16 =>
      GdW (isB t16 true) [undef] w1 (fun J2 =>
        binW .lss t10 (.int .i64 224) fun t19 =>
        J2 [t19] w1)
      fun s2 _ w3 =>
      pickW t16 (s2.getD 0 undef) (.bool false) fun t20 =>
      GdW (isB t20 true) [undef] w3 (fun J4 =>
        binW .add v1 (.int .i64 1) fun t24 =>
        callF Tryz.prog 171 [v0, t24] w3 fun t25 w5 =>
        J4 [t25] w5)
      fun s4 _ w6 =>
      pickW t20 (s4.getD 0 undef) (.bool false) fun t26 =>
      condW t26 (
        K (.int .i64 2) w6) (
        JoinW (fun J7 =>
          binW .geq t10 (.int .i64 224) fun t28 =>
          GdW (isB t28 true) [undef] w6 (fun J8 =>
            binW .lss t10 (.int .i64 240) fun t31 =>
            J8 [t31] w6)
          fun s8 _ w9 =>
          pickW t28 (s8.getD 0 undef) (.bool false) fun t32 =>
          GdW (isB t32 true) [undef] w9 (fun J10 =>
            binW .add v1 (.int .i64 1) fun t36 =>
            callF Tryz.prog 171 [v0, t36] w9 fun t37 w11 =>
            J10 [t37] w11)
          fun s10 _ w12 =>
          pickW t32 (s10.getD 0 undef) (.bool false) fun t38 =>
          GdW (isB t38 true) [undef] w12 (fun J13 =>
            binW .add v1 (.int .i64 2) fun t42 =>
            callF Tryz.prog 171 [v0, t42] w12 fun t43 w14 =>
            J13 [t43] w14)
          fun s13 _ w15 =>
          pickW t38 (s13.getD 0 undef) (.bool false) fun t44 =>
          condW t44 (
            binW .sub t10 (.int .i64 224) fun t46 =>
            binW .mul t46 (.int .i64 4096) fun t47 =>
            binW .add v1 (.int .i64 1) fun t50 =>
            callF Tryz.prog 170 [v0, t50] w15 fun t51 w16 =>
            binW .sub t51 (.int .i64 128) fun t52 =>
            binW .mul t52 (.int .i64 64) fun t53 =>
            binW .add t47 t53 fun t54 =>
            binW .add v1 (.int .i64 2) fun t57 =>
            callF Tryz.prog 170 [v0, t57] w16 fun t58 w17 =>
            binW .add t54 t58 fun t59 =>
            binW .sub t59 (.int .i64 128) fun t60 =>
            binW .geq t60 (.int .i64 2048) fun t62 =>
            GdW (isB t62 true) [undef] w17 (fun J18 =>
              binW .lss t60 (.int .i64 55296) fun t65 =>
              J18 [t65] w17)
            fun s18 _ w19 =>
            GdW (isB (s18.getD 0 undef) false) [undef] w19 (fun J20 =>
              binW .gtr t60 (.int .i64 57343) fun t68 =>
              J20 [t68] w19)
            fun s20 _ w21 =>
            GdW (isB t62 true) [undef] w21 (fun J22 =>
              pickW (s18.getD 0 undef) (.bool true) (s20.getD 0 undef) fun t69 =>
              J22 [t69] w21)
            fun s22 _ w23 =>
            pickW t62 (s22.getD 0 undef) (.bool false) fun t70 =>
            condW t70 (
              K (.int .i64 3) w23) (
              J7 [] w23)) (
            J7 [] w15))
        fun s7 _ w24 =>
        binW .geq t10 (.int .i64 240) fun t72 =>
        GdW (isB t72 true) [undef] w24 (fun J25 =>
          binW .lss t10 (.int .i64 245) fun t75 =>
          J25 [t75] w24)
        fun s25 _ w26 =>
        pickW t72 (s25.getD 0 undef) (.bool false) fun t76 =>
        GdW (isB t76 true) [undef] w26 (fun J27 =>
          binW .add v1 (.int .i64 1) fun t80 =>
          callF Tryz.prog 171 [v0, t80] w26 fun t81 w28 =>
          J27 [t81] w28)
        fun s27 _ w29 =>
        pickW t76 (s27.getD 0 undef) (.bool false) fun t82 =>
        GdW (isB t82 true) [undef] w29 (fun J30 =>
          binW .add v1 (.int .i64 2) fun t86 =>
          callF Tryz.prog 171 [v0, t86] w29 fun t87 w31 =>
          J30 [t87] w31)
        fun s30 _ w32 =>
        pickW t82 (s30.getD 0 undef) (.bool false) fun t88 =>
        GdW (isB t88 true) [undef] w32 (fun J33 =>
          binW .add v1 (.int .i64 3) fun t92 =>
          callF Tryz.prog 171 [v0, t92] w32 fun t93 w34 =>
          J33 [t93] w34)
        fun s33 _ w35 =>
        pickW t88 (s33.getD 0 undef) (.bool false) fun t94 =>
        condW t94 (
          binW .sub t10 (.int .i64 240) fun t96 =>
          binW .mul t96 (.int .i64 262144) fun t97 =>
          binW .add v1 (.int .i64 1) fun t100 =>
          callF Tryz.prog 170 [v0, t100] w35 fun t101 w36 =>
          binW .sub t101 (.int .i64 128) fun t102 =>
          binW .mul t102 (.int .i64 4096) fun t103 =>
          binW .add t97 t103 fun t104 =>
          binW .add v1 (.int .i64 2) fun t107 =>
          callF Tryz.prog 170 [v0, t107] w36 fun t108 w37 =>
          binW .sub t108 (.int .i64 128) fun t109 =>
          binW .mul t109 (.int .i64 64) fun t110 =>
          binW .add t104 t110 fun t111 =>
          binW .add v1 (.int .i64 3) fun t114 =>
          callF Tryz.prog 170 [v0, t114] w37 fun t115 w38 =>
          binW .add t111 t115 fun t116 =>
          binW .sub t116 (.int .i64 128) fun t117 =>
          binW .geq t117 (.int .i64 65536) fun t119 =>
          GdW (isB t119 true) [undef] w38 (fun J39 =>
            binW .leq t117 (.int .i64 1114111) fun t122 =>
            J39 [t122] w38)
          fun s39 _ w40 =>
          pickW t119 (s39.getD 0 undef) (.bool false) fun t123 =>
          condW t123 (
            K (.int .i64 4) w40) (
            K (.int .i64 0) w40)) (
          K (.int .i64 0) w35))))
theorem W127_eq (v0 v1 : Value) (w : World) (K : Value → World → Prop) : funW Tryz.prog Tryz.f127 plan127 [v0, v1] w K = W127 v0 v1 w K := by kernel_rfl
theorem W127_chk : chkFun Tryz.prog Tryz.f127 plan127 2 = true := by kernel_rfl
theorem W127_ok {v0 v1 : Value} {w : World} {K : Value → World → Prop} (h : W127 v0 v1 w K) : callF Tryz.prog 127 [v0, v1] w K :=
  tie Tryz.prog 127 Tryz.f127 plan127 [v0, v1] w K 2 (W127 v0 v1 w K) rfl mixed Tryz.func127 W127_chk (W127_eq v0 v1 w K) Tryz.call127 h
def plan170 : Plan := { js := [], ds := [] }
def W170 (v0 v1 : Value) (w : World) (K : Value → World → Prop) : Prop :=
  lensW v0 fun t7 =>
  binW .geq v1 t7 fun t8 =>
  condW t8 (
    K (.int .i64 (-1)) w) (
    ixsW v0 v1 fun t11 =>
    cvtW .i64 t11 fun t12 =>
    K t12 w)
theorem W170_eq (v0 v1 : Value) (w : World) (K : Value → World → Prop) : funW Tryz.prog Tryz.f170 plan170 [v0, v1] w K = W170 v0 v1 w K := by kernel_rfl
theorem W170_chk : chkFun Tryz.prog Tryz.f170 plan170 2 = true := by kernel_rfl
theorem W170_ok {v0 v1 : Value} {w : World} {K : Value → World → Prop} (h : W170 v0 v1 w K) : callF Tryz.prog 170 [v0, v1] w K :=
  tie Tryz.prog 170 Tryz.f170 plan170 [v0, v1] w K 2 (W170 v0 v1 w K) rfl mixed Tryz.func170 W170_chk (W170_eq v0 v1 w K) Tryz.call170 h
def plan171 : Plan := { js := [(3006, ⟨[13], [], 10⟩)], ds := [] }
def W171 (v0 v1 : Value) (w : World) (K : Value → World → Prop) : Prop :=
  callF Tryz.prog 170 [v0, v1] w fun t7 w1 =>
  binW .geq t7 (.int .i64 128) fun t8 =>
  GdW (isB t8 true) [undef] w1 (fun J2 =>
    callF Tryz.prog 170 [v0, v1] w1 fun t12 w3 =>
    binW .lss t12 (.int .i64 192) fun t13 =>
    J2 [t13] w3)
  fun s2 _ w4 =>
  pickW t8 (s2.getD 0 undef) (.bool false) fun t14 =>
  K t14 w4
theorem W171_eq (v0 v1 : Value) (w : World) (K : Value → World → Prop) : funW Tryz.prog Tryz.f171 plan171 [v0, v1] w K = W171 v0 v1 w K := by kernel_rfl
theorem W171_chk : chkFun Tryz.prog Tryz.f171 plan171 2 = true := by kernel_rfl
theorem W171_ok {v0 v1 : Value} {w : World} {K : Value → World → Prop} (h : W171 v0 v1 w K) : callF Tryz.prog 171 [v0, v1] w K :=
  tie Tryz.prog 171 Tryz.f171 plan171 [v0, v1] w K 2 (W171 v0 v1 w K) rfl mixed Tryz.func171 W171_chk (W171_eq v0 v1 w K) Tryz.call171 h
end Go.Proofs.YtcnjpcadejcenaaGreatDoor
namespace Go.Proofs.YtcnjpcadejcenaaGreatDoor
open Go Go.Eng
set_option maxRecDepth 100000
section
variable [HX]
theorem byteM_lo (s : Str) (i : Nat) : -1 ≤ byteM s i ∧ byteM s i ≤ 255 := by
  rcases Nat.lt_or_ge i s.length with h | h
  · rw [byteM_in h]; have := bt_lt s i; omega
  · rw [byteM_out h]; omega
theorem one_ref {s : Str} {i : Nat} {w : World} {K : Value → World → Prop} (hl : s.length ≤ 4611686018427387904) (hK : K (i64 (byteM s i)) w) : callF Tryz.prog 170 [str s, i64 (i : Int)] w K := by
  refine W170_ok ?_
  unfold W170
  rw [lens_str, bin_geq]
  rcases Nat.lt_or_ge i s.length with h | h
  · rw [decide_eq_false (by omega), condW_false, ixs_str]
    refine ⟨by omega, s[i], by simp [h], ?_⟩
    rw [cvt_int]
    have e : byteM s i = (s[i].toNat : Int) := by
      rw [byteM_in h]; unfold bt
      rw [List.getD_eq_getElem?_getD, List.getElem?_eq_getElem h]; rfl
    rw [e] at hK
    have := UInt8.toNat_lt s[i]
    rw [wrap_id (by omega) (by omega)]
    exact hK
  · rw [decide_eq_true (by omega), condW_true]
    rw [byteM_out h] at hK
    exact hK
theorem more_ref {s : Str} {i : Nat} {w : World} {K : Value → World → Prop} (hl : s.length ≤ 4611686018427387904) (hK : K (.bool (moreM s i)) w) : callF Tryz.prog 171 [str s, i64 (i : Int)] w K := by
  refine W171_ok ?_
  unfold W171
  refine one_ref hl ?_
  rw [bin_geq]
  refine GdW.look (decide (byteM s i < 192)) (fun _ J hJ => ?_) fun g => ?_
  · refine one_ref hl ?_
    rw [bin_lss]
    exact hJ
  · simp only [wsv, wsg, wsh, wsl, cond_true, cond_false, exists_eq_left', Option.some.injEq, Option.isSome_some, List.getElem?_toArray, List.getElem?_cons_zero, List.getElem?_cons_succ, List.length_cons, List.length_nil, List.set_cons_zero, List.set_cons_succ, List.getD_cons_zero, List.getD_cons_succ, Nat.zero_add, Nat.add_zero, Nat.reduceAdd, Nat.reduceLT, Nat.lt_add_one, Nat.zero_lt_succ, decide_true, decide_false, ne_eq, reduceCtorEq]
    exact hK
theorem add1 {i k : Nat} (h : i ≤ 4611686018427387904) (hk : k ≤ 10) : IntKind.i64.wrap ((i : Int) + (k : Nat)) = ((i + k : Nat) : Int) := by rw [wrap_id (by omega) (by omega)]; omega
theorem rune_ref {s : Str} {i : Nat} {w : World} {K : Value → World → Prop} (hl : s.length ≤ 4611686018427387904) (hi : i ≤ 4611686018427387904) (hK : K (i64 (runeM s i)) w) : callF Tryz.prog 127 [str s, i64 (i : Int)] w K := by
  have b0 := byteM_lo s i
  have b1 := byteM_lo s (i + 1)
  have b2 := byteM_lo s (i + 2)
  have b3 := byteM_lo s (i + 3)
  have a1 : IntKind.i64.wrap ((i : Int) + 1) = ((i + 1 : Nat) : Int) := add1 (k := 1) hi (by omega)
  have a2 : IntKind.i64.wrap ((i : Int) + 2) = ((i + 2 : Nat) : Int) := add1 (k := 2) hi (by omega)
  have a3 : IntKind.i64.wrap ((i : Int) + 3) = ((i + 3 : Nat) : Int) := add1 (k := 3) hi (by omega)
  refine W127_ok ?_
  unfold W127
  refine one_ref hl ?_
  unfold runeM at hK
  dsimp only at hK
  rw [bin_lss, condW_dec]
  refine ⟨fun c0 => by rw [if_pos c0] at hK; exact hK, fun c0 => ?_⟩
  rw [if_neg c0] at hK
  rw [bin_lss, condW_dec]
  refine ⟨fun c1 => by rw [if_pos c1] at hK; exact hK, fun c1 => ?_⟩
  rw [if_neg c1] at hK
  simp only [wsv, wsg, wsh, wsl, cond_true, cond_false, exists_eq_left', Option.some.injEq, Option.isSome_some, List.getElem?_toArray, List.getElem?_cons_zero, List.getElem?_cons_succ, List.length_cons, List.length_nil, List.set_cons_zero, List.set_cons_succ, List.getD_cons_zero, List.getD_cons_succ, Nat.zero_add, Nat.add_zero, Nat.reduceAdd, Nat.reduceLT, Nat.lt_add_one, Nat.zero_lt_succ, decide_true, decide_false, ne_eq, reduceCtorEq]
  intros
  refine GdW.look (moreM s (i + 1)) (fun _ J hJ => ?_) fun g => ?_
  · rw [a1]; exact more_ref hl hJ
  simp only [wsv, wsg, wsh, wsl, cond_true, cond_false, exists_eq_left', Option.some.injEq, Option.isSome_some, List.getElem?_toArray, List.getElem?_cons_zero, List.getElem?_cons_succ, List.length_cons, List.length_nil, List.set_cons_zero, List.set_cons_succ, List.getD_cons_zero, List.getD_cons_succ, Nat.zero_add, Nat.add_zero, Nat.reduceAdd, Nat.reduceLT, Nat.lt_add_one, Nat.zero_lt_succ, decide_true, decide_false, ne_eq, reduceCtorEq]
  rw [condW_b]
  refine ⟨fun c2 => ?_, fun c2 => ?_⟩
  · simp only [Bool.and_eq_true, decide_eq_true_eq] at c2
    rw [if_pos ⟨c2.1.1, c2.1.2, c2.2⟩] at hK
    exact hK
  have c2' : ¬ (194 ≤ byteM s i ∧ byteM s i < 224 ∧ moreM s (i + 1) = true) := fun h => by
    rw [decide_eq_true h.1, decide_eq_true h.2.1, h.2.2] at c2; cases c2
  rw [if_neg c2'] at hK
  have four : (¬ (224 ≤ byteM s i ∧ byteM s i < 240 ∧ moreM s (i + 1) = true ∧ moreM s (i + 2) = true ∧
    2048 ≤ (byteM s i - 224) * 4096 + (byteM s (i + 1) - 128) * 64 + byteM s (i + 2) - 128 ∧ ((byteM s i - 224) * 4096 + (byteM s (i + 1) - 128) * 64 + byteM s (i + 2) - 128 < 55296 ∨ 57343 < (byteM s i - 224) * 4096 + (byteM s (i + 1) - 128) * 64 + byteM s (i + 2) - 128))) → K (.int .i64 (if 240 ≤ byteM s i ∧ byteM s i < 245 ∧ moreM s (i + 1) = true ∧ moreM s (i + 2) = true ∧ moreM s (i + 3) = true ∧
    65536 ≤ (byteM s i - 240) * 262144 + (byteM s (i + 1) - 128) * 4096 + (byteM s (i + 2) - 128) * 64 + byteM s (i + 3) - 128 ∧ (byteM s i - 240) * 262144 + (byteM s (i + 1) - 128) * 4096 + (byteM s (i + 2) - 128) * 64 + byteM s (i + 3) - 128 ≤ 1114111 then 4 else 0 : Nat)) w := fun h => by
    rw [if_neg h] at hK; exact hK
  refine JoinW.cut (fun s' w' => s' = [] ∧ w' = w ∧ (¬ (224 ≤ byteM s i ∧ byteM s i < 240 ∧ moreM s (i + 1) = true ∧ moreM s (i + 2) = true ∧
    2048 ≤ (byteM s i - 224) * 4096 + (byteM s (i + 1) - 128) * 64 + byteM s (i + 2) - 128 ∧ ((byteM s i - 224) * 4096 + (byteM s (i + 1) - 128) * 64 + byteM s (i + 2) - 128 < 55296 ∨ 57343 < (byteM s i - 224) * 4096 + (byteM s (i + 1) - 128) * 64 + byteM s (i + 2) - 128)))) ?_ ?_
  · simp only [wsv, wsg, wsh, wsl, cond_true, cond_false, exists_eq_left', Option.some.injEq, Option.isSome_some, List.getElem?_toArray, List.getElem?_cons_zero, List.getElem?_cons_succ, List.length_cons, List.length_nil, List.set_cons_zero, List.set_cons_succ, List.getD_cons_zero, List.getD_cons_succ, Nat.zero_add, Nat.add_zero, Nat.reduceAdd, Nat.reduceLT, Nat.lt_add_one, Nat.zero_lt_succ, decide_true, decide_false, ne_eq, reduceCtorEq]
    intros
    refine GdW.look (moreM s (i + 1)) (fun _ J hJ => ?_) fun g => ?_
    · rw [a1]; exact more_ref hl hJ
    simp only [wsv, wsg, wsh, wsl, cond_true, cond_false, exists_eq_left', Option.some.injEq, Option.isSome_some, List.getElem?_toArray, List.getElem?_cons_zero, List.getElem?_cons_succ, List.length_cons, List.length_nil, List.set_cons_zero, List.set_cons_succ, List.getD_cons_zero, List.getD_cons_succ, Nat.zero_add, Nat.add_zero, Nat.reduceAdd, Nat.reduceLT, Nat.lt_add_one, Nat.zero_lt_succ, decide_true, decide_false, ne_eq, reduceCtorEq]
    refine GdW.look (moreM s (i + 2)) (fun _ J hJ => ?_) fun g => ?_
    · rw [a2]; exact more_ref hl hJ
    simp only [wsv, wsg, wsh, wsl, cond_true, cond_false, exists_eq_left', Option.some.injEq, Option.isSome_some, List.getElem?_toArray, List.getElem?_cons_zero, List.getElem?_cons_succ, List.length_cons, List.length_nil, List.set_cons_zero, List.set_cons_succ, List.getD_cons_zero, List.getD_cons_succ, Nat.zero_add, Nat.add_zero, Nat.reduceAdd, Nat.reduceLT, Nat.lt_add_one, Nat.zero_lt_succ, decide_true, decide_false, ne_eq, reduceCtorEq]
    rw [condW_b]
    refine ⟨fun c3 => ?_, fun c3 h => ?_⟩
    · simp only [Bool.and_eq_true, decide_eq_true_eq] at c3
      obtain ⟨⟨⟨d1, d2⟩, d3⟩, d4⟩ := c3
      rw [a1]
      refine one_ref hl ?_
      simp only [wsv, wsg, wsh, wsl, cond_true, cond_false, exists_eq_left', Option.some.injEq, Option.isSome_some, List.getElem?_toArray, List.getElem?_cons_zero, List.getElem?_cons_succ, List.length_cons, List.length_nil, List.set_cons_zero, List.set_cons_succ, List.getD_cons_zero, List.getD_cons_succ, Nat.zero_add, Nat.add_zero, Nat.reduceAdd, Nat.reduceLT, Nat.lt_add_one, Nat.zero_lt_succ, decide_true, decide_false, ne_eq, reduceCtorEq]
      rw [a2]
      refine one_ref hl ?_
      simp only [wsv, wsg, wsh, wsl, cond_true, cond_false, exists_eq_left', Option.some.injEq, Option.isSome_some, List.getElem?_toArray, List.getElem?_cons_zero, List.getElem?_cons_succ, List.length_cons, List.length_nil, List.set_cons_zero, List.set_cons_succ, List.getD_cons_zero, List.getD_cons_succ, Nat.zero_add, Nat.add_zero, Nat.reduceAdd, Nat.reduceLT, Nat.lt_add_one, Nat.zero_lt_succ, decide_true, decide_false, ne_eq, reduceCtorEq]
      have e1 : IntKind.i64.wrap (byteM s i - 224) = byteM s i - 224 := wrap_id (by omega) (by omega)
      have e2 : IntKind.i64.wrap ((byteM s i - 224) * 4096) = (byteM s i - 224) * 4096 := wrap_id (by omega) (by omega)
      have e3 : IntKind.i64.wrap (byteM s (i + 1) - 128) = byteM s (i + 1) - 128 := wrap_id (by omega) (by omega)
      have e4 : IntKind.i64.wrap ((byteM s (i + 1) - 128) * 64) = (byteM s (i + 1) - 128) * 64 := wrap_id (by omega) (by omega)
      have e5 : IntKind.i64.wrap ((byteM s i - 224) * 4096 + (byteM s (i + 1) - 128) * 64) = (byteM s i - 224) * 4096 + (byteM s (i + 1) - 128) * 64 := wrap_id (by omega) (by omega)
      have e6 : IntKind.i64.wrap ((byteM s i - 224) * 4096 + (byteM s (i + 1) - 128) * 64 + byteM s (i + 2)) = (byteM s i - 224) * 4096 + (byteM s (i + 1) - 128) * 64 + byteM s (i + 2) := wrap_id (by omega) (by omega)
      have e7 : IntKind.i64.wrap ((byteM s i - 224) * 4096 + (byteM s (i + 1) - 128) * 64 + byteM s (i + 2) - 128) = (byteM s i - 224) * 4096 + (byteM s (i + 1) - 128) * 64 + byteM s (i + 2) - 128 := wrap_id (by omega) (by omega)
      simp only [e1, e2, e3, e4, e5, e6, e7]
      intro _ _ _
      rw [condW_b]
      refine ⟨fun c4 => ?_, fun c4 h => ?_⟩
      · simp only [Bool.and_eq_true, Bool.or_eq_true, decide_eq_true_eq] at c4
        rw [if_pos ⟨d1, d2, d3, d4, c4.1, c4.2⟩] at hK
        exact hK
      · have : (decide (2048 ≤ (byteM s i - 224) * 4096 + (byteM s (i + 1) - 128) * 64 + byteM s (i + 2) - 128) && (decide ((byteM s i - 224) * 4096 + (byteM s (i + 1) - 128) * 64 + byteM s (i + 2) - 128 < 55296) || decide (57343 < (byteM s i - 224) * 4096 + (byteM s (i + 1) - 128) * 64 + byteM s (i + 2) - 128))) = true := by
          simp only [Bool.and_eq_true, Bool.or_eq_true, decide_eq_true_eq]
          exact h.2.2.2.2
        rw [c4] at this; cases this
    · rw [decide_eq_true h.1, decide_eq_true h.2.1, h.2.2.1, h.2.2.2.1] at c3; cases c3
  · rintro s' g w' ⟨rfl, rfl, hno⟩
    have hK := four hno
    intro g2
    refine GdW.look (moreM s (i + 1)) (fun _ J hJ => ?_) fun g => ?_
    · rw [a1]; exact more_ref hl hJ
    simp only [wsv, wsg, wsh, wsl, cond_true, cond_false, exists_eq_left', Option.some.injEq, Option.isSome_some, List.getElem?_toArray, List.getElem?_cons_zero, List.getElem?_cons_succ, List.length_cons, List.length_nil, List.set_cons_zero, List.set_cons_succ, List.getD_cons_zero, List.getD_cons_succ, Nat.zero_add, Nat.add_zero, Nat.reduceAdd, Nat.reduceLT, Nat.lt_add_one, Nat.zero_lt_succ, decide_true, decide_false, ne_eq, reduceCtorEq]
    refine GdW.look (moreM s (i + 2)) (fun _ J hJ => ?_) fun g => ?_
    · rw [a2]; exact more_ref hl hJ
    simp only [wsv, wsg, wsh, wsl, cond_true, cond_false, exists_eq_left', Option.some.injEq, Option.isSome_some, List.getElem?_toArray, List.getElem?_cons_zero, List.getElem?_cons_succ, List.length_cons, List.length_nil, List.set_cons_zero, List.set_cons_succ, List.getD_cons_zero, List.getD_cons_succ, Nat.zero_add, Nat.add_zero, Nat.reduceAdd, Nat.reduceLT, Nat.lt_add_one, Nat.zero_lt_succ, decide_true, decide_false, ne_eq, reduceCtorEq]
    refine GdW.look (moreM s (i + 3)) (fun _ J hJ => ?_) fun g => ?_
    · rw [a3]; exact more_ref hl hJ
    simp only [wsv, wsg, wsh, wsl, cond_true, cond_false, exists_eq_left', Option.some.injEq, Option.isSome_some, List.getElem?_toArray, List.getElem?_cons_zero, List.getElem?_cons_succ, List.length_cons, List.length_nil, List.set_cons_zero, List.set_cons_succ, List.getD_cons_zero, List.getD_cons_succ, Nat.zero_add, Nat.add_zero, Nat.reduceAdd, Nat.reduceLT, Nat.lt_add_one, Nat.zero_lt_succ, decide_true, decide_false, ne_eq, reduceCtorEq]
    rw [condW_b]
    refine ⟨fun c3 => ?_, fun c3 => ?_⟩
    · simp only [Bool.and_eq_true, decide_eq_true_eq] at c3
      obtain ⟨⟨⟨⟨d1, d2⟩, d3⟩, d4⟩, d5⟩ := c3
      rw [a1]
      refine one_ref hl ?_
      simp only [wsv, wsg, wsh, wsl, cond_true, cond_false, exists_eq_left', Option.some.injEq, Option.isSome_some, List.getElem?_toArray, List.getElem?_cons_zero, List.getElem?_cons_succ, List.length_cons, List.length_nil, List.set_cons_zero, List.set_cons_succ, List.getD_cons_zero, List.getD_cons_succ, Nat.zero_add, Nat.add_zero, Nat.reduceAdd, Nat.reduceLT, Nat.lt_add_one, Nat.zero_lt_succ, decide_true, decide_false, ne_eq, reduceCtorEq]
      rw [a2]
      refine one_ref hl ?_
      simp only [wsv, wsg, wsh, wsl, cond_true, cond_false, exists_eq_left', Option.some.injEq, Option.isSome_some, List.getElem?_toArray, List.getElem?_cons_zero, List.getElem?_cons_succ, List.length_cons, List.length_nil, List.set_cons_zero, List.set_cons_succ, List.getD_cons_zero, List.getD_cons_succ, Nat.zero_add, Nat.add_zero, Nat.reduceAdd, Nat.reduceLT, Nat.lt_add_one, Nat.zero_lt_succ, decide_true, decide_false, ne_eq, reduceCtorEq]
      rw [a3]
      refine one_ref hl ?_
      simp only [wsv, wsg, wsh, wsl, cond_true, cond_false, exists_eq_left', Option.some.injEq, Option.isSome_some, List.getElem?_toArray, List.getElem?_cons_zero, List.getElem?_cons_succ, List.length_cons, List.length_nil, List.set_cons_zero, List.set_cons_succ, List.getD_cons_zero, List.getD_cons_succ, Nat.zero_add, Nat.add_zero, Nat.reduceAdd, Nat.reduceLT, Nat.lt_add_one, Nat.zero_lt_succ, decide_true, decide_false, ne_eq, reduceCtorEq]
      have e1 : IntKind.i64.wrap (byteM s i - 240) = byteM s i - 240 := wrap_id (by omega) (by omega)
      have e2 : IntKind.i64.wrap ((byteM s i - 240) * 262144) = (byteM s i - 240) * 262144 := wrap_id (by omega) (by omega)
      have e3 : IntKind.i64.wrap (byteM s (i + 1) - 128) = byteM s (i + 1) - 128 := wrap_id (by omega) (by omega)
      have e4 : IntKind.i64.wrap ((byteM s (i + 1) - 128) * 4096) = (byteM s (i + 1) - 128) * 4096 := wrap_id (by omega) (by omega)
      have e5 : IntKind.i64.wrap ((byteM s i - 240) * 262144 + (byteM s (i + 1) - 128) * 4096) = (byteM s i - 240) * 262144 + (byteM s (i + 1) - 128) * 4096 := wrap_id (by omega) (by omega)
      have e6 : IntKind.i64.wrap (byteM s (i + 2) - 128) = byteM s (i + 2) - 128 := wrap_id (by omega) (by omega)
      have e7 : IntKind.i64.wrap ((byteM s (i + 2) - 128) * 64) = (byteM s (i + 2) - 128) * 64 := wrap_id (by omega) (by omega)
      have e8 : IntKind.i64.wrap ((byteM s i - 240) * 262144 + (byteM s (i + 1) - 128) * 4096 + (byteM s (i + 2) - 128) * 64) = (byteM s i - 240) * 262144 + (byteM s (i + 1) - 128) * 4096 + (byteM s (i + 2) - 128) * 64 := wrap_id (by omega) (by omega)
      have e9 : IntKind.i64.wrap ((byteM s i - 240) * 262144 + (byteM s (i + 1) - 128) * 4096 + (byteM s (i + 2) - 128) * 64 + byteM s (i + 3)) = (byteM s i - 240) * 262144 + (byteM s (i + 1) - 128) * 4096 + (byteM s (i + 2) - 128) * 64 + byteM s (i + 3) := wrap_id (by omega) (by omega)
      have e10 : IntKind.i64.wrap ((byteM s i - 240) * 262144 + (byteM s (i + 1) - 128) * 4096 + (byteM s (i + 2) - 128) * 64 + byteM s (i + 3) - 128) = (byteM s i - 240) * 262144 + (byteM s (i + 1) - 128) * 4096 + (byteM s (i + 2) - 128) * 64 + byteM s (i + 3) - 128 := wrap_id (by omega) (by omega)
      simp only [e1, e2, e3, e4, e5, e6, e7, e8, e9, e10]
      intro _
      rw [condW_b]
      refine ⟨fun c4 => ?_, fun c4 => ?_⟩
      · simp only [Bool.and_eq_true, decide_eq_true_eq] at c4
        rw [if_pos ⟨d1, d2, d3, d4, d5, c4.1, c4.2⟩] at hK
        exact hK
      · rw [if_neg (fun h => by rw [decide_eq_true h.2.2.2.2.2.1, decide_eq_true h.2.2.2.2.2.2] at c4; cases c4)] at hK
        exact hK
    · rw [if_neg (fun h => by rw [decide_eq_true h.1, decide_eq_true h.2.1, h.2.2.1, h.2.2.2.1, h.2.2.2.2.1] at c3; cases c3)] at hK
      exact hK
end
end Go.Proofs.YtcnjpcadejcenaaGreatDoor

namespace Go.Proofs.YtcnjpcadejcenaaGreatDoor
open Go Go.Eng Go.RowKit
set_option maxRecDepth 100000
section
variable [HX]
theorem range_str {l : Str} {w : World} {K : Value → World → Prop} (hK : K (.pointer (some ⟨w.heap.size, 0, none⟩)) (w.alloc (.stringIter (ofL l) 0))) : semE Tryz.prog (Instr.range 9 (str l)) w K := by
  have hT : Tryz.prog.underlying 9 = some .string := by kernel_rfl
  have hr : (Instr.range 9 (str l)).run Tryz.prog w = .ok (.pointer (some ⟨w.heap.size, 0, none⟩)) (w.alloc (.stringIter (ofL l) 0)) := by
    simp [Instr.range, run_bind, run_underlying' hT, run_pure, newObj, Sem.run]
  unfold semE
  rw [hr]
  exact hK
theorem setObj_chg' {w : World} {r : Nat} {o : Obj} (h : r < w.heap.size) : Chg (· = r) w { w with heap := w.heap.setIfInBounds r o } :=
  ⟨rfl, rfl, rfl, by simp, fun k _ hk => by
    show (w.heap.setIfInBounds r o)[k]? = _
    rw [Array.getElem?_setIfInBounds_ne (by omega)]⟩
theorem next_str {r pos : Nat} {l : Str} {T : TypeId} {w : World} {K : Value → World → Prop} (hw : w.heap[r]? = some (.stringIter (ofL l) pos))
    (h0 : l.length ≤ pos → K (.tuple #[.bool false]) w)
    (h1 : pos < l.length → ∀ w', w'.heap[r]? = some (.stringIter (ofL l) (pos + (Utf8.decode (ofL l) pos).2)) → Chg (· = r) w w' → w'.heap.size = w.heap.size → K (.tuple #[.bool true, i64 pos, .int .i32 (Utf8.decode (ofL l) pos).1]) w') :
    semE Tryz.prog (Instr.next (.pointer (some ⟨r, 0, none⟩)) true T) w K := by
  have hg : (getObj r).run Tryz.prog w = .ok (.stringIter (ofL l) pos) w := by simp [getObj, Sem.run, hw]
  have hlt : r < w.heap.size := (Array.getElem?_eq_some_iff.1 hw).1
  unfold semE
  simp only [Instr.next, run_bind, hg, ofL_size]
  by_cases hp : pos < l.length
  · have hset : (setObj r (.stringIter (ofL l) (pos + (Utf8.decode (ofL l) pos).2))).run Tryz.prog w = .ok () { w with heap := w.heap.setIfInBounds r (.stringIter (ofL l) (pos + (Utf8.decode (ofL l) pos).2)) } := by simp [setObj, Sem.run, hw]
    rw [if_pos hp]
    simp only [run_bind, hset, run_pure]
    exact h1 hp _ (by simp [hlt]) (setObj_chg' hlt) (by simp)
  · rw [if_neg hp]
    simp only [run_pure]
    exact h0 (by omega)
end
end Go.Proofs.YtcnjpcadejcenaaGreatDoor
namespace Go.Proofs.YtcnjpcadejcenaaGreatDoor
open Go Go.Eng
set_option maxRecDepth 100000
variable [HX]
def plan16 : Plan := { js := [], ds := [] }
def W16 (v0 : Value) (w : World) (K : Value → World → Prop) : Prop :=
  boxW 26 v0 w fun t1 w1 =>
  ldW true 5 t1 w1 fun t6 =>
  callF Tryz.prog 42 [t6] w1 fun t7 w2 =>
  unW .not t7 fun t8 =>
  condW t8 (
    K (.tuple #[(.string (ofL [])), (.int .i64 1)]) w2) (
    ldW true 5 t1 w2 fun t10 =>
    callF Tryz.prog 43 [t10] w2 fun t11 w3 =>
    unW .not t11 fun t12 =>
    condW t12 (
      K (.tuple #[(.string (ofL [])), (.int .i64 20)]) w3) (
      ldW true 5 t1 w3 fun t14 =>
      callF Tryz.prog 44 [t14] w3 fun t15 w4 =>
      unW .not t15 fun t16 =>
      condW t16 (
        K (.tuple #[(.string (ofL [])), (.int .i64 31)]) w4) (
        allocW 78 [(.pointer none), (.slice none 0 0)] w4 fun t4 w5 =>
        ldW true 5 t1 w5 fun t17 =>
        callF Tryz.prog 45 [t4, t17] w5 fun t18 w6 =>
        callF Tryz.prog 46 [t4] w6 fun t19 w7 =>
        binW .gtr t19 (.int .i64 65536) fun t20 =>
        condW t20 (
          K (.tuple #[(.string (ofL [])), (.int .i64 3)]) w7) (
          callF Tryz.prog 47 [t4] w7 fun t21 w8 =>
          K (.tuple #[t21, (.int .i64 0)]) w8))))
theorem W16_eq (v0 : Value) (w : World) (K : Value → World → Prop) : funW Tryz.prog Tryz.f16 plan16 [v0] w K = W16 v0 w K := by kernel_rfl
theorem W16_chk : chkFun Tryz.prog Tryz.f16 plan16 1 = true := by kernel_rfl
theorem W16_ok {v0 : Value} {w : World} {K : Value → World → Prop} (h : W16 v0 w K) : callF Tryz.prog 16 [v0] w K :=
  tie Tryz.prog 16 Tryz.f16 plan16 [v0] w K 1 (W16 v0 w K) rfl mixed Tryz.func16 W16_chk (W16_eq v0 w K) Tryz.call16 h
def plan44 : Plan := { js := [(5006, ⟨[20], [], 17⟩), (5013, ⟨[14], [], 10⟩)], ds := [] }
def W44 (v0 : Value) (w : World) (K : Value → World → Prop) : Prop :=
  boxW 26 v0 w fun t1 w1 =>
  fldW 2 t1 fun t5 =>
  ldW false 1 t5 w1 fun t6 =>
  callV Tryz.prog (.func (.func 101) #[] #[]) [t6] w1 fun t7 w2 =>
  unW .not t7 fun t8 =>
  GdW (isB t8 true) [undef] w2 (fun J3 =>
    fldW 4 t1 fun t10 =>
    ldW false 1 t10 w2 fun t11 =>
    callF Tryz.prog 76 [t11, (.func (.func 101) #[] #[])] w2 fun t13 w4 =>
    unW .not t13 fun t14 =>
    J3 [t14] w4)
  fun s3 _ w5 =>
  pickW t8 (s3.getD 0 undef) (.bool false) fun t15 =>
  GdW (isB t15 true) [undef] w5 (fun J6 =>
    fldW 3 t1 fun t17 =>
    ldW false 1 t17 w5 fun t18 =>
    callF Tryz.prog 99 [t18, (.func (.func 103) #[] #[])] w5 fun t19 w7 =>
    unW .not t19 fun t20 =>
    J6 [t20] w7)
  fun s6 _ w8 =>
  pickW t15 (s6.getD 0 undef) (.bool false) fun t21 =>
  K t21 w8
theorem W44_eq (v0 : Value) (w : World) (K : Value → World → Prop) : funW Tryz.prog Tryz.f44 plan44 [v0] w K = W44 v0 w K := by kernel_rfl
theorem W44_chk : chkFun Tryz.prog Tryz.f44 plan44 1 = true := by kernel_rfl
theorem W44_ok {v0 : Value} {w : World} {K : Value → World → Prop} (h : W44 v0 w K) : callF Tryz.prog 44 [v0] w K :=
  tie Tryz.prog 44 Tryz.f44 plan44 [v0] w K 1 (W44 v0 w K) rfl mixed Tryz.func44 W44_chk (W44_eq v0 w K) Tryz.call44 h
def plan45 : Plan := { js := [(70, ⟨[], [], 63⟩), (59, ⟨[62], [6, 7], 62⟩), (41, ⟨[], [], 41⟩), (30, ⟨[40], [4, 5], 40⟩)], ds := [] }
def W45 (v0 v1 : Value) (w : World) (K : Value → World → Prop) : Prop :=
  boxW 26 v1 w fun t3 w1 =>
  fldW 0 t3 fun t8 =>
  ldW false 1 t8 w1 fun t9 =>
  binW .eql t9 (.int .i64 0) fun t11 =>
  condW t11 (
    callF Tryz.prog 78 [v0, (.string (ofL [110, 117, 108, 108]))] w1 fun t13 w2 =>
    K (.tuple #[]) w2) (
    binW .eql t9 (.int .i64 2) fun t15 =>
    condW t15 (
      fldW 1 t3 fun t17 =>
      ldW false 1 t17 w1 fun t18 =>
      callF Tryz.prog 104 [t18] w1 fun t19 w3 =>
      callF Tryz.prog 78 [v0, t19] w3 fun t20 w4 =>
      K (.tuple #[]) w4) (
      binW .eql t9 (.int .i64 3) fun t22 =>
      condW t22 (
        fldW 2 t3 fun t24 =>
        ldW false 1 t24 w1 fun t25 =>
        callF Tryz.prog 78 [v0, t25] w1 fun t26 w5 =>
        K (.tuple #[]) w5) (
        binW .eql t9 (.int .i64 4) fun t28 =>
        condW t28 (
          fldW 2 t3 fun t30 =>
          ldW false 1 t30 w1 fun t31 =>
          callF Tryz.prog 105 [v0, t31] w1 fun t32 w6 =>
          K (.tuple #[]) w6) (
          binW .eql t9 (.int .i64 5) fun t34 =>
          condW t34 (
            callF Tryz.prog 80 [v0, (.int .u8 91)] w1 fun t36 w7 =>
            fldW 3 t3 fun t37 =>
            ldW false 1 t37 w7 fun t38 =>
            lenlW t38 fun t39 =>
            LoopW [(.int .i64 0)] w7 fun s8 _ w9 L8 =>
              binW .lss (s8.getD 0 undef) t39 fun t41 =>
              condW t41 (
                ixaW none 5 t38 (s8.getD 0 undef) fun t43 =>
                ldW true 5 t43 w9 fun t44 =>
                allocW 26 [(.int .i64 0), (.bool false), (.string (ofL [])), (.slice none 0 0), (.slice none 0 0)] w9 fun t5 w10 =>
                stW 5 t5 t44 w10 fun w11 =>
                JoinW (fun J12 =>
                  binW .gtr (s8.getD 0 undef) (.int .i64 0) fun t46 =>
                  condW t46 (
                    callF Tryz.prog 80 [v0, (.int .u8 44)] w11 fun t48 w13 =>
                    J12 [] w13) (
                    J12 [] w11))
                fun s12 _ w14 =>
                ldW true 5 t5 w14 fun t50 =>
                callF Tryz.prog 45 [v0, t50] w14 fun t51 w15 =>
                binW .add (s8.getD 0 undef) (.int .i64 1) fun t52 =>
                L8 [t52] w15) (
                callF Tryz.prog 80 [v0, (.int .u8 93)] w9 fun t54 w16 =>
                K (.tuple #[]) w16)) (
            binW .eql t9 (.int .i64 6) fun t56 =>
            condW t56 (
              callF Tryz.prog 80 [v0, (.int .u8 123)] w1 fun t58 w17 =>
              fldW 3 t3 fun t59 =>
              ldW false 1 t59 w17 fun t60 =>
              lenlW t60 fun t61 =>
              LoopW [(.int .i64 0)] w17 fun s18 _ w19 L18 =>
                binW .lss (s18.getD 0 undef) t61 fun t63 =>
                condW t63 (
                  ixaW none 5 t60 (s18.getD 0 undef) fun t65 =>
                  ldW true 5 t65 w19 fun t66 =>
                  allocW 26 [(.int .i64 0), (.bool false), (.string (ofL [])), (.slice none 0 0), (.slice none 0 0)] w19 fun t7 w20 =>
                  stW 5 t7 t66 w20 fun w21 =>
                  JoinW (fun J22 =>
                    binW .gtr (s18.getD 0 undef) (.int .i64 0) fun t68 =>
                    condW t68 (
                      callF Tryz.prog 80 [v0, (.int .u8 44)] w21 fun t70 w23 =>
                      J22 [] w23) (
                      J22 [] w21))
                  fun s22 _ w24 =>
                  fldW 4 t3 fun t72 =>
                  ldW false 1 t72 w24 fun t73 =>
                  ixaW none 1 t73 (s18.getD 0 undef) fun t75 =>
                  ldW false 1 t75 w24 fun t76 =>
                  callF Tryz.prog 105 [v0, t76] w24 fun t77 w25 =>
                  callF Tryz.prog 80 [v0, (.int .u8 58)] w25 fun t79 w26 =>
                  ldW true 5 t7 w26 fun t81 =>
                  callF Tryz.prog 45 [v0, t81] w26 fun t82 w27 =>
                  binW .add (s18.getD 0 undef) (.int .i64 1) fun t83 =>
                  L18 [t83] w27) (
                  callF Tryz.prog 80 [v0, (.int .u8 125)] w19 fun t85 w28 =>
                  K (.tuple #[]) w28)) (
              K (.tuple #[]) w1))))))
theorem W45_eq (v0 v1 : Value) (w : World) (K : Value → World → Prop) : funW Tryz.prog Tryz.f45 plan45 [v0, v1] w K = W45 v0 v1 w K := by kernel_rfl
theorem W45_chk : chkFun Tryz.prog Tryz.f45 plan45 2 = true := by kernel_rfl
theorem W45_ok {v0 v1 : Value} {w : World} {K : Value → World → Prop} (h : W45 v0 v1 w K) : callF Tryz.prog 45 [v0, v1] w K :=
  tie Tryz.prog 45 Tryz.f45 plan45 [v0, v1] w K 2 (W45 v0 v1 w K) rfl mixed Tryz.func45 W45_chk (W45_eq v0 v1 w K) Tryz.call45 h
def plan101 : Plan := { js := [], ds := [] }
def W101 (v0 : Value) (w : World) (K : Value → World → Prop) : Prop :=
  callF Tryz.prog 102 [v0] w fun t4 w1 =>
  unW .not t4 fun t5 =>
  K t5 w1
theorem W101_eq (v0 : Value) (w : World) (K : Value → World → Prop) : funW Tryz.prog Tryz.f101 plan101 [v0] w K = W101 v0 w K := by kernel_rfl
theorem W101_chk : chkFun Tryz.prog Tryz.f101 plan101 1 = true := by kernel_rfl
theorem W101_ok {v0 : Value} {w : World} {K : Value → World → Prop} (h : W101 v0 w K) : callF Tryz.prog 101 [v0] w K :=
  tie Tryz.prog 101 Tryz.f101 plan101 [v0] w K 1 (W101 v0 w K) rfl mixed Tryz.func101 W101_chk (W101_eq v0 w K) Tryz.call101 h
def plan103 : Plan := { js := [], ds := [] }
def W103 (v0 : Value) (w : World) (K : Value → World → Prop) : Prop :=
  boxW 26 v0 w fun t1 w1 =>
  ldW true 5 t1 w1 fun t3 =>
  callF Tryz.prog 44 [t3] w1 fun t4 w2 =>
  unW .not t4 fun t5 =>
  K t5 w2
theorem W103_eq (v0 : Value) (w : World) (K : Value → World → Prop) : funW Tryz.prog Tryz.f103 plan103 [v0] w K = W103 v0 w K := by kernel_rfl
theorem W103_chk : chkFun Tryz.prog Tryz.f103 plan103 1 = true := by kernel_rfl
theorem W103_ok {v0 : Value} {w : World} {K : Value → World → Prop} (h : W103 v0 w K) : callF Tryz.prog 103 [v0] w K :=
  tie Tryz.prog 103 Tryz.f103 plan103 [v0] w K 1 (W103 v0 w K) rfl mixed Tryz.func103 W103_chk (W103_eq v0 w K) Tryz.call103 h
def plan105 : Plan := { js := [(6, ⟨[], [5, 6], 11⟩)], ds := [] }
def W105 (v0 v1 : Value) (w : World) (K : Value → World → Prop) : Prop :=
  callF Tryz.prog 80 [v0, (.int .u8 34)] w fun t8 w1 =>
  semE Tryz.prog (Instr.range 9 v1) w1 fun t10 w2 =>
  LoopW [] w2 fun s3 _ w4 L3 =>
    semE Tryz.prog (Instr.next t10 true 0) w4 fun t11 w5 =>
    extW 0 t11 fun t12 =>
    condW t12 (
      extW 2 t11 fun t13 =>
      callF Tryz.prog 153 [t13] w5 fun t15 w6 =>
      binW .neq t15 (.int .u8 0) fun t21 =>
      condW t21 (
        cvtW .i32 t15 fun t24 =>
        cvsW t24 fun t25 =>
        binW .add (.string (ofL [92])) t25 fun t26 =>
        callF Tryz.prog 78 [v0, t26] w6 fun t27 w7 =>
        L3 [] w7) (
        binW .lss t13 (.int .i32 32) fun t30 =>
        condW t30 (
          cvtW .i64 t13 fun t33 =>
          binW .add t33 (.int .i64 256) fun t34 =>
          callF Tryz.prog 154 [t34, (.int .i64 16)] w6 fun t35 w8 =>
          slsW t35 (some (.int .i64 1)) none fun t36 =>
          binW .add (.string (ofL [92, 117, 48, 48])) t36 fun t37 =>
          callF Tryz.prog 78 [v0, t37] w8 fun t38 w9 =>
          L3 [] w9) (
          callF Tryz.prog 155 [v0, t13] w6 fun t18 w10 =>
          L3 [] w10))) (
      callF Tryz.prog 80 [v0, (.int .u8 34)] w5 fun t40 w11 =>
      K (.tuple #[]) w11)
theorem W105_eq (v0 v1 : Value) (w : World) (K : Value → World → Prop) : funW Tryz.prog Tryz.f105 plan105 [v0, v1] w K = W105 v0 v1 w K := by kernel_rfl
theorem W105_chk : chkFun Tryz.prog Tryz.f105 plan105 2 = true := by kernel_rfl
theorem W105_ok {v0 v1 : Value} {w : World} {K : Value → World → Prop} (h : W105 v0 v1 w K) : callF Tryz.prog 105 [v0, v1] w K :=
  tie Tryz.prog 105 Tryz.f105 plan105 [v0, v1] w K 2 (W105 v0 v1 w K) rfl mixed Tryz.func105 W105_chk (W105_eq v0 v1 w K) Tryz.call105 h
def plan153 : Plan := { js := [(6, ⟨[4], [], 4⟩)], ds := [] }
def W153 (v0 : Value) (w : World) (K : Value → World → Prop) : Prop :=
  JoinW (fun J1 =>
    binW .eql v0 (.int .i32 34) fun t5 =>
    condW t5 (
      J1 [t5] w) (
      binW .eql v0 (.int .i32 92) fun t6 =>
      J1 [t6] w))
  fun s1 _ w2 =>
  condW (s1.getD 0 undef) (
    cvtW .u8 v0 fun t8 =>
    K t8 w2) (
    binW .eql v0 (.int .i32 8) fun t10 =>
    condW t10 (
      K (.int .u8 98) w2) (
      binW .eql v0 (.int .i32 12) fun t12 =>
      condW t12 (
        K (.int .u8 102) w2) (
        binW .eql v0 (.int .i32 10) fun t14 =>
        condW t14 (
          K (.int .u8 110) w2) (
          binW .eql v0 (.int .i32 13) fun t16 =>
          condW t16 (
            K (.int .u8 114) w2) (
            binW .eql v0 (.int .i32 9) fun t18 =>
            condW t18 (
              K (.int .u8 116) w2) (
              K (.int .u8 0) w2))))))
theorem W153_eq (v0 : Value) (w : World) (K : Value → World → Prop) : funW Tryz.prog Tryz.f153 plan153 [v0] w K = W153 v0 w K := by kernel_rfl
theorem W153_chk : chkFun Tryz.prog Tryz.f153 plan153 1 = true := by kernel_rfl
theorem W153_ok {v0 : Value} {w : World} {K : Value → World → Prop} (h : W153 v0 w K) : callF Tryz.prog 153 [v0] w K :=
  tie Tryz.prog 153 Tryz.f153 plan153 [v0] w K 1 (W153 v0 w K) rfl mixed Tryz.func153 W153_chk (W153_eq v0 w K) Tryz.call153 h
def plan42 : Plan := { js := [], ds := [] }
def W42 (v0 : Value) (w : World) (K : Value → World → Prop) : Prop :=
  boxW 26 v0 w fun t1 w1 =>
  allocW 3 [(.int .i64 0)] w1 fun t3 w2 =>
  stW 1 t3 (.int .i64 2000) w2 fun w3 =>
  ldW true 5 t1 w3 fun t4 =>
  callF Tryz.prog 98 [t4, (.int .i64 24), t3] w3 fun t5 w4 =>
  K t5 w4
theorem W42_eq (v0 : Value) (w : World) (K : Value → World → Prop) : funW Tryz.prog Tryz.f42 plan42 [v0] w K = W42 v0 w K := by kernel_rfl
theorem W42_chk : chkFun Tryz.prog Tryz.f42 plan42 1 = true := by kernel_rfl
theorem W42_ok {v0 : Value} {w : World} {K : Value → World → Prop} (h : W42 v0 w K) : callF Tryz.prog 42 [v0] w K :=
  tie Tryz.prog 42 Tryz.f42 plan42 [v0] w K 1 (W42 v0 w K) rfl mixed Tryz.func42 W42_chk (W42_eq v0 w K) Tryz.call42 h
def plan98 : Plan := { js := [(89007, ⟨[130], [], 126⟩), (12, ⟨[], [], 6⟩), (78002, ⟨[119], [], 108⟩), (78010, ⟨[118], [], 111⟩), (78013, ⟨[110], [], 108⟩), (66, ⟨[99], [6, 7, 8], 99⟩), (40010, ⟨[79], [], 72⟩), (34010, ⟨[63], [], 56⟩), (28010, ⟨[48], [], 41⟩), (16, ⟨[33], [], 33⟩), (6002, ⟨[29], [], 23⟩), (6005, ⟨[28], [], 26⟩), (6008, ⟨[25], [], 23⟩), (6014, ⟨[20], [], 17⟩)], ds := [] }
def W98 (v0 v1 v2 : Value) (w : World) (K : Value → World → Prop) : Prop :=
  boxW 26 v0 w fun t3 w1 =>
  boxW 3 v1 w1 fun t4 w2 =>
  boxW 132 v2 w2 fun t5 w3 =>
  ldW false 1 t5 w3 fun t9 =>
  nilW t9 fun t10 =>
  ldW false 1 t10 w3 fun t11 =>
  binW .sub t11 (.int .i64 1) fun t12 =>
  nilW t9 fun t13 =>
  stW 1 t13 t12 w3 fun w4 =>
  ldW false 1 t4 w4 fun t14 =>
  binW .eql t14 (.int .i64 0) fun t15 =>
  GdW (isB t15 false) [undef] w4 (fun J5 =>
    ldW false 1 t5 w4 fun t17 =>
    nilW t17 fun t18 =>
    ldW false 1 t18 w4 fun t19 =>
    binW .lss t19 (.int .i64 0) fun t20 =>
    J5 [t20] w4)
  fun s5 _ w6 =>
  pickW t15 (.bool true) (s5.getD 0 undef) fun t21 =>
  GdW (isB t21 false) [undef] w6 (fun J7 =>
    fldW 1 t3 fun t23 =>
    ldW false 1 t23 w6 fun t24 =>
    J7 [t24] w6)
  fun s7 _ w8 =>
  GdW (isB (s7.getD 0 undef) true) [undef] w8 (fun J9 =>
    fldW 0 t3 fun t26 =>
    ldW false 1 t26 w8 fun t27 =>
    binW .neq t27 (.int .i64 2) fun t28 =>
    J9 [t28] w8)
  fun s9 _ w10 =>
  GdW (isB t21 false) [undef] w10 (fun J11 =>
    pickW (s7.getD 0 undef) (s9.getD 0 undef) (.bool false) fun t29 =>
    J11 [t29] w10)
  fun s11 _ w12 =>
  pickW t21 (.bool true) (s11.getD 0 undef) fun t30 =>
  condW t30 (
    K (.bool false) w12) (
    JoinW (fun J13 =>
      fldW 0 t3 fun t31 =>
      ldW false 1 t31 w12 fun t32 =>
      JoinW (fun J14 =>
        binW .eql t32 (.int .i64 0) fun t34 =>
        condW t34 (
          J14 [t34] w12) (
          binW .eql t32 (.int .i64 1) fun t35 =>
          condW t35 (
            J14 [t35] w12) (
            binW .eql t32 (.int .i64 2) fun t36 =>
            J14 [t36] w12)))
      fun s14 _ w15 =>
      condW (s14.getD 0 undef) (
        fldW 2 t3 fun t37 =>
        ldW false 1 t37 w15 fun t38 =>
        binW .eql t38 (.string (ofL [])) fun t39 =>
        GdW (isB t39 true) [undef] w15 (fun J16 =>
          fldW 3 t3 fun t41 =>
          ldW false 1 t41 w15 fun t42 =>
          lenlW t42 fun t43 =>
          fldW 4 t3 fun t44 =>
          ldW false 1 t44 w15 fun t45 =>
          lenlW t45 fun t46 =>
          binW .add t43 t46 fun t47 =>
          binW .eql t47 (.int .i64 0) fun t48 =>
          J16 [t48] w15)
        fun s16 _ w17 =>
        pickW t39 (s16.getD 0 undef) (.bool false) fun t49 =>
        K t49 w17) (
        binW .eql t32 (.int .i64 3) fun t51 =>
        condW t51 (
          fldW 2 t3 fun t52 =>
          ldW false 1 t52 w15 fun t53 =>
          callF Tryz.prog 148 [t53] w15 fun t54 w18 =>
          GdW (isB t54 true) [undef] w18 (fun J19 =>
            fldW 3 t3 fun t56 =>
            ldW false 1 t56 w18 fun t57 =>
            lenlW t57 fun t58 =>
            fldW 4 t3 fun t59 =>
            ldW false 1 t59 w18 fun t60 =>
            lenlW t60 fun t61 =>
            binW .add t58 t61 fun t62 =>
            binW .eql t62 (.int .i64 0) fun t63 =>
            J19 [t63] w18)
          fun s19 _ w20 =>
          pickW t54 (s19.getD 0 undef) (.bool false) fun t64 =>
          K t64 w20) (
          binW .eql t32 (.int .i64 4) fun t66 =>
          condW t66 (
            fldW 2 t3 fun t67 =>
            ldW false 1 t67 w15 fun t68 =>
            lensW t68 fun t69 =>
            binW .leq t69 (.int .i64 16384) fun t70 =>
            GdW (isB t70 true) [undef] w15 (fun J21 =>
              fldW 3 t3 fun t72 =>
              ldW false 1 t72 w15 fun t73 =>
              lenlW t73 fun t74 =>
              fldW 4 t3 fun t75 =>
              ldW false 1 t75 w15 fun t76 =>
              lenlW t76 fun t77 =>
              binW .add t74 t77 fun t78 =>
              binW .eql t78 (.int .i64 0) fun t79 =>
              J21 [t79] w15)
            fun s21 _ w22 =>
            pickW t70 (s21.getD 0 undef) (.bool false) fun t80 =>
            K t80 w22) (
            binW .eql t32 (.int .i64 5) fun t82 =>
            condW t82 (
              fldW 4 t3 fun t83 =>
              ldW false 1 t83 w15 fun t84 =>
              lenlW t84 fun t85 =>
              binW .gtr t85 (.int .i64 0) fun t86 =>
              condW t86 (
                K (.bool false) w15) (
                J13 [] w15)) (
              binW .eql t32 (.int .i64 6) fun t88 =>
              condW t88 (
                fldW 4 t3 fun t89 =>
                ldW false 1 t89 w15 fun t90 =>
                lenlW t90 fun t91 =>
                fldW 3 t3 fun t92 =>
                ldW false 1 t92 w15 fun t93 =>
                lenlW t93 fun t94 =>
                binW .neq t91 t94 fun t95 =>
                condW t95 (
                  K (.bool false) w15) (
                  fldW 4 t3 fun t96 =>
                  ldW false 1 t96 w15 fun t97 =>
                  lenlW t97 fun t98 =>
                  LoopW [(.int .i64 0)] w15 fun s23 _ w24 L23 =>
                    binW .lss (s23.getD 0 undef) t98 fun t100 =>
                    condW t100 (
                      ixaW none 1 t97 (s23.getD 0 undef) fun t102 =>
                      ldW false 1 t102 w24 fun t103 =>
                      lensW t103 fun t105 =>
                      binW .gtr t105 (.int .i64 16384) fun t106 =>
                      GdW (isB t106 false) [undef] w24 (fun J25 =>
                        binW .gtr (s23.getD 0 undef) (.int .i64 0) fun t109 =>
                        J25 [t109] w24)
                      fun s25 _ w26 =>
                      GdW (isB (s25.getD 0 undef) true) [undef] w26 (fun J27 =>
                        fldW 4 t3 fun t111 =>
                        ldW false 1 t111 w26 fun t112 =>
                        binW .sub (s23.getD 0 undef) (.int .i64 1) fun t114 =>
                        ixaW none 1 t112 t114 fun t115 =>
                        ldW false 1 t115 w26 fun t116 =>
                        binW .geq t116 t103 fun t118 =>
                        J27 [t118] w26)
                      fun s27 _ w28 =>
                      GdW (isB t106 false) [undef] w28 (fun J29 =>
                        pickW (s25.getD 0 undef) (s27.getD 0 undef) (.bool false) fun t119 =>
                        J29 [t119] w28)
                      fun s29 _ w30 =>
                      pickW t106 (.bool true) (s29.getD 0 undef) fun t120 =>
                      condW t120 (
                        K (.bool false) w30) (
                        binW .add (s23.getD 0 undef) (.int .i64 1) fun t121 =>
                        L23 [t121] w30)) (
                      J13 [] w24))) (
                K (.bool false) w15))))))
    fun s13 _ w31 =>
    fldW 2 t3 fun t122 =>
    ldW false 1 t122 w31 fun t123 =>
    binW .eql t123 (.string (ofL [])) fun t124 =>
    GdW (isB t124 true) [undef] w31 (fun J32 =>
      fldW 3 t3 fun t126 =>
      ldW false 1 t126 w31 fun t127 =>
      callF Tryz.prog 99 [t127, (.func (.func 149) #[] #[t4, t5])] w31 fun t129 w33 =>
      unW .not t129 fun t130 =>
      J32 [t130] w33)
    fun s32 _ w34 =>
    pickW t124 (s32.getD 0 undef) (.bool false) fun t131 =>
    K t131 w34)
theorem W98_eq (v0 v1 v2 : Value) (w : World) (K : Value → World → Prop) : funW Tryz.prog Tryz.f98 plan98 [v0, v1, v2] w K = W98 v0 v1 v2 w K := by kernel_rfl
theorem W98_chk : chkFun Tryz.prog Tryz.f98 plan98 3 = true := by kernel_rfl
theorem W98_ok {v0 v1 v2 : Value} {w : World} {K : Value → World → Prop} (h : W98 v0 v1 v2 w K) : callF Tryz.prog 98 [v0, v1, v2] w K :=
  tie Tryz.prog 98 Tryz.f98 plan98 [v0, v1, v2] w K 3 (W98 v0 v1 v2 w K) rfl mixed Tryz.func98 W98_chk (W98_eq v0 v1 v2 w K) Tryz.call98 h
def plan149 : Plan := { js := [], ds := [] }
def W149 (v0 v1 v2 : Value) (w : World) (K : Value → World → Prop) : Prop :=
  boxW 26 v0 w fun t3 w1 =>
  ldW true 5 t3 w1 fun t5 =>
  ldW false 1 v1 w1 fun t6 =>
  binW .sub t6 (.int .i64 1) fun t7 =>
  ldW false 1 v2 w1 fun t8 =>
  callF Tryz.prog 98 [t5, t7, t8] w1 fun t9 w2 =>
  unW .not t9 fun t10 =>
  K t10 w2
theorem W149_eq (v0 v1 v2 : Value) (w : World) (K : Value → World → Prop) : funW Tryz.prog Tryz.f149 plan149 [v0, v1, v2] w K = W149 v0 v1 v2 w K := by kernel_rfl
theorem W149_chk : chkFun Tryz.prog Tryz.f149 plan149 3 = true := by kernel_rfl
theorem W149_ok {v0 v1 v2 : Value} {w : World} {K : Value → World → Prop} (h : W149 v0 v1 v2 w K) : callF Tryz.prog 149 [v0, v1, v2] w K :=
  tie Tryz.prog 149 Tryz.f149 plan149 [v0, v1, v2] w K 3 (W149 v0 v1 v2 w K) rfl mixed Tryz.func149 W149_chk (W149_eq v0 v1 v2 w K) Tryz.call149 h
def plan15 : Plan := { js := [(9007, ⟨[46], [], 42⟩), (9014, ⟨[39], [], 35⟩), (9018, ⟨[32], [], 31⟩), (9022, ⟨[28], [], 27⟩), (9026, ⟨[24], [], 23⟩)], ds := [] }
def W15 (w : World) (K : Value → World → Prop) : Prop :=
  callF Tryz.prog 18 [(.string (ofL [32, 123, 34, 98, 34, 32, 58, 32, 91, 49, 44, 32, 110, 117, 108, 108, 93, 44, 32, 34, 97, 34, 58, 34, 120, 92, 110, 34, 125]))] w fun t8 w1 =>
  extW 0 t8 fun t9 =>
  extW 1 t8 fun t10 =>
  allocW 26 [(.int .i64 0), (.bool false), (.string (ofL [])), (.slice none 0 0), (.slice none 0 0)] w1 fun t1 w2 =>
  stW 5 t1 t9 w2 fun w3 =>
  ldW true 5 t1 w3 fun t12 =>
  callF Tryz.prog 16 [t12] w3 fun t13 w4 =>
  extW 0 t13 fun t14 =>
  extW 1 t13 fun t15 =>
  callF Tryz.prog 18 [(.string (ofL [91, 49, 44, 93]))] w4 fun t17 w5 =>
  extW 0 t17 fun t18 =>
  extW 1 t17 fun t19 =>
  allocW 26 [(.int .i64 0), (.bool false), (.string (ofL [])), (.slice none 0 0), (.slice none 0 0)] w5 fun t5 w6 =>
  stW 5 t5 t18 w6 fun w7 =>
  eqW .ptr false t10 (.pointer none) fun t21 =>
  GdW (isB t21 true) [undef] w7 (fun J8 =>
    binW .eql t15 (.int .i64 0) fun t24 =>
    J8 [t24] w7)
  fun s8 _ w9 =>
  pickW t21 (s8.getD 0 undef) (.bool false) fun t25 =>
  GdW (isB t25 true) [undef] w9 (fun J10 =>
    binW .eql t14 (.string (ofL [123, 34, 97, 34, 58, 34, 120, 92, 110, 34, 44, 34, 98, 34, 58, 91, 49, 44, 110, 117, 108, 108, 93, 125])) fun t28 =>
    J10 [t28] w9)
  fun s10 _ w11 =>
  pickW t25 (s10.getD 0 undef) (.bool false) fun t29 =>
  GdW (isB t29 true) [undef] w11 (fun J12 =>
    eqW .ptr true t19 (.pointer none) fun t32 =>
    J12 [t32] w11)
  fun s12 _ w13 =>
  pickW t29 (s12.getD 0 undef) (.bool false) fun t33 =>
  GdW (isB t33 true) [undef] w13 (fun J14 =>
    nilW t19 fun t36 =>
    fldW 0 t36 fun t37 =>
    ldW false 1 t37 w13 fun t38 =>
    binW .eql t38 (.int .i64 30) fun t39 =>
    J14 [t39] w13)
  fun s14 _ w15 =>
  pickW t33 (s14.getD 0 undef) (.bool false) fun t40 =>
  GdW (isB t40 true) [undef] w15 (fun J16 =>
    nilW t19 fun t43 =>
    fldW 2 t43 fun t44 =>
    ldW false 1 t44 w15 fun t45 =>
    binW .eql t45 (.int .i64 3) fun t46 =>
    J16 [t46] w15)
  fun s16 _ w17 =>
  pickW t40 (s16.getD 0 undef) (.bool false) fun t47 =>
  K t47 w17
theorem W15_eq (w : World) (K : Value → World → Prop) : funW Tryz.prog Tryz.f15 plan15 [] w K = W15 w K := by kernel_rfl
theorem W15_chk : chkFun Tryz.prog Tryz.f15 plan15 0 = true := by kernel_rfl
theorem W15_ok {w : World} {K : Value → World → Prop} (h : W15 w K) : callF Tryz.prog 15 [] w K :=
  tie Tryz.prog 15 Tryz.f15 plan15 [] w K 0 (W15 w K) rfl mixed Tryz.func15 W15_chk (W15_eq w K) Tryz.call15 h
end Go.Proofs.YtcnjpcadejcenaaGreatDoor
namespace Go.Proofs.YtcnjpcadejcenaaGreatDoor
open Go Go.Eng Go.RowKit
set_option maxRecDepth 100000
def shortM (r : Nat) : Nat := if r = 34 ∨ r = 92 then r else if r = 8 then 98 else if r = 12 then 102 else if r = 10 then 110 else if r = 13 then 114 else if r = 9 then 116 else 0
def hexS (r : Nat) : Str := [b8 (48 + r / 16), hexD (r % 16)]
theorem esc_short {c : UInt8} (h : shortM c.toNat ≠ 0) : escB c = [92, b8 (shortM c.toNat)] ∧ shortM c.toNat < 128 := by
  have e : ∀ n : Nat, n < 256 → (c = UInt8.ofNat n ↔ c.toNat = n) := fun n hn => by
    constructor
    · rintro rfl; simp only [UInt8.toNat_ofNat']; omega
    · intro h; rw [← h]; simp
  unfold shortM at h ⊢
  unfold escB
  by_cases a1 : c.toNat = 34 ∨ c.toNat = 92
  · rw [if_pos a1, if_pos (by rcases a1 with a | a; exact .inl ((e 34 (by omega)).2 a); exact .inr ((e 92 (by omega)).2 a))]
    refine ⟨?_, by omega⟩
    unfold b8; simp
  rw [if_neg a1] at h ⊢
  rw [if_neg (by rintro (a | a); exact a1 (.inl ((e 34 (by omega)).1 a)); exact a1 (.inr ((e 92 (by omega)).1 a)))]
  by_cases a2 : c.toNat = 8
  · rw [if_pos a2, if_pos (show c = (8 : UInt8) from (e 8 (by omega)).2 a2)]; exact ⟨rfl, by omega⟩
  rw [if_neg a2] at h ⊢
  rw [if_neg fun (a : c = (8 : UInt8)) => a2 ((e 8 (by omega)).1 a)]
  by_cases a3 : c.toNat = 12
  · rw [if_pos a3, if_pos (show c = (12 : UInt8) from (e 12 (by omega)).2 a3)]; exact ⟨rfl, by omega⟩
  rw [if_neg a3] at h ⊢
  rw [if_neg fun (a : c = (12 : UInt8)) => a3 ((e 12 (by omega)).1 a)]
  by_cases a4 : c.toNat = 10
  · rw [if_pos a4, if_pos (show c = (10 : UInt8) from (e 10 (by omega)).2 a4)]; exact ⟨rfl, by omega⟩
  rw [if_neg a4] at h ⊢
  rw [if_neg fun (a : c = (10 : UInt8)) => a4 ((e 10 (by omega)).1 a)]
  by_cases a5 : c.toNat = 13
  · rw [if_pos a5, if_pos (show c = (13 : UInt8) from (e 13 (by omega)).2 a5)]; exact ⟨rfl, by omega⟩
  rw [if_neg a5] at h ⊢
  rw [if_neg fun (a : c = (13 : UInt8)) => a5 ((e 13 (by omega)).1 a)]
  by_cases a6 : c.toNat = 9
  · rw [if_pos a6, if_pos (show c = (9 : UInt8) from (e 9 (by omega)).2 a6)]; exact ⟨rfl, by omega⟩
  rw [if_neg a6] at h
  exact absurd rfl h
theorem esc_long {c : UInt8} (h : shortM c.toNat = 0) : escB c = if c.toNat < 32 then [92, 117, 48, 48] ++ hexS c.toNat else [c] := by
  have e : ∀ n : Nat, n < 256 → c = UInt8.ofNat n → c.toNat = n := fun n hn a => by subst a; simp only [UInt8.toNat_ofNat']; omega
  have hn : ¬ (c.toNat = 34 ∨ c.toNat = 92) ∧ c.toNat ≠ 8 ∧ c.toNat ≠ 12 ∧ c.toNat ≠ 10 ∧ c.toNat ≠ 13 ∧ c.toNat ≠ 9 := by
    unfold shortM at h
    split at h
    · omega
    · repeat' split at h
      all_goals omega
  obtain ⟨n1, n2, n3, n4, n5, n6⟩ := hn
  unfold escB
  rw [if_neg (by rintro (a | a); exact n1 (.inl (e 34 (by omega) a)); exact n1 (.inr (e 92 (by omega) a))), if_neg fun (a : c = (8 : UInt8)) => n2 (e 8 (by omega) a), if_neg fun (a : c = (12 : UInt8)) => n3 (e 12 (by omega) a), if_neg fun (a : c = (10 : UInt8)) => n4 (e 10 (by omega) a), if_neg fun (a : c = (13 : UInt8)) => n5 (e 13 (by omega) a), if_neg fun (a : c = (9 : UInt8)) => n6 (e 9 (by omega) a)]
  by_cases a : c.toNat < 32
  · rw [if_pos a, if_pos (show c < 32 from a)]; rfl
  · rw [if_neg a, if_neg (show ¬ c < 32 from a)]
theorem enc_low {n : Nat} (h : n < 128) : Utf8.encode (n : Int) = ofL [b8 n] := by
  unfold Utf8.encode
  have : Utf8.valid (n : Int) = true := by unfold Utf8.valid; simp only [Bool.or_eq_true, Bool.and_eq_true, decide_eq_true_eq]; omega
  simp only [this, if_true, Int.toNat_natCast]
  rw [if_pos h]; rfl
section
variable [HX]
def FmtOk (w0 : World) : Prop := ∀ r : Nat, r < 32 → ∀ (w : World) (K : Value → World → Prop), Ext w0 w → (∀ w', Ext w w' → K (str ([49] ++ hexS r)) w') → callF Tryz.prog 154 [i64 ((r + 256 : Nat) : Int), i64 16] w K
theorem short_p {r : Nat} {w : World} {K : Value → World → Prop} (hr : r ≤ 1114111) (hK : K (u8 (shortM r)) w) : callF Tryz.prog 153 [.int .i32 (r : Int)] w K := by
  refine W153_ok ?_
  unfold W153
  unfold shortM at hK
  refine JoinW.cut (fun s' w' => s' = [.bool (decide (r = 34 ∨ r = 92))] ∧ w' = w) ?_ ?_
  · rw [bin_eql, condW_dec]
    refine ⟨fun h => ?_, fun h => ?_⟩
    · rw [decide_eq_true h, decide_eq_true (.inl (by omega))]; exact ⟨rfl, rfl⟩
    · rw [bin_eql]
      rw [show decide (((r : Nat) : Int) = 92) = decide (r = 34 ∨ r = 92) by rw [decide_eq_decide]; omega]
      exact ⟨rfl, rfl⟩
  rintro s' g w' ⟨rfl, rfl⟩
  simp only [List.getD_cons_zero]
  rw [condW_dec]
  refine ⟨fun h => ?_, fun h => ?_⟩
  · rw [cvt_int, u8_wrap, Nat.mod_eq_of_lt (by omega)]
    rw [if_pos h] at hK; exact hK
  rw [if_neg h] at hK
  rw [bin_eql, condW_dec]
  refine ⟨fun h => by rw [if_pos (by omega)] at hK; exact hK, fun h => ?_⟩
  rw [if_neg (by omega)] at hK
  rw [bin_eql, condW_dec]
  refine ⟨fun h => by rw [if_pos (by omega)] at hK; exact hK, fun h => ?_⟩
  rw [if_neg (by omega)] at hK
  rw [bin_eql, condW_dec]
  refine ⟨fun h => by rw [if_pos (by omega)] at hK; exact hK, fun h => ?_⟩
  rw [if_neg (by omega)] at hK
  rw [bin_eql, condW_dec]
  refine ⟨fun h => by rw [if_pos (by omega)] at hK; exact hK, fun h => ?_⟩
  rw [if_neg (by omega)] at hK
  rw [bin_eql, condW_dec]
  refine ⟨fun h => by rw [if_pos (by omega)] at hK; exact hK, fun h => ?_⟩
  rw [if_neg (by omega)] at hK
  exact hK
theorem i32_wrap {n : Nat} (h : n < 2147483648) : IntKind.i32.wrap (n : Int) = (n : Int) := by
  have e1 : (2 : Int) ^ 32 = 4294967296 := by decide
  have e2 : (2 : Int) ^ (32 - 1) = 2147483648 := by decide
  simp only [IntKind.wrap, IntKind.bits, IntKind.signed, Bool.true_and, e1, e2]
  rw [if_neg (by simp; omega)]
  omega
theorem flat_len (s : Str) : (s.flatMap escB).length ≤ 6 * s.length := by
  induction s with
  | nil => simp
  | cons c s ih => rw [List.flatMap_cons, List.length_append, List.length_cons]; have := escB_le c; omega
theorem short_high {r : Nat} (h : 128 ≤ r) : shortM r = 0 := by unfold shortM; repeat' split
                                                                all_goals omega
theorem quote_p {w0 w : World} {B b : Nat} {l s : Str} {K : Value → World → Prop} (h0 : Ext w0 w) (hB0 : w0.heap.size ≤ B) (h : Bld w B b l) (hB : B ≤ w.heap.size) (hs : Utf s) (hl : l.length + 6 * s.length + 2 ≤ 1000000000) (hF : ∀ c ∈ s, c.toNat < 32 → FmtOk w0)
    (hK : ∀ w', Bld w' B b (l ++ quoteM s) → Chg (BCh w B b) w w' → K (.tuple #[]) w') : callF Tryz.prog 105 [.pointer (some ⟨b, 0, none⟩), str s] w K := by
  have hb := h.base
  have hbl := h.lt
  refine W105_ok ?_
  unfold W105
  refine wbyte_p (n := 34) h hB (by omega) (by omega) fun w1 h1 hc1 => ?_
  refine range_str ?_
  have hz1 := hc1.size
  have hc2 : Chg (BCh w B b) w (w1.alloc (.stringIter (ofL s) 0)) := BCh.ext hc1 (Chg.alloc (Chg.refl _ _) _)
  refine ⟨fun s' w4 => ∃ p, p ≤ s.length ∧ s' = [] ∧ Utf (s.drop p) ∧ w4.heap[w1.heap.size]? = some (.stringIter (ofL s) p) ∧ Bld w4 B b (l ++ [34] ++ (s.take p).flatMap escB) ∧ Chg (BCh w B b) w w4,
    fun _ w4 => match w4.heap[w1.heap.size]? with | some (.stringIter _ p) => s.length - p | _ => 0,
    ⟨0, Nat.zero_le _, rfl, by rw [List.drop_zero]; exact hs, heap_anew _ _ _ rfl, by rw [List.take_zero, List.flatMap_nil, List.append_nil]; exact h1.ext (Chg.alloc (Chg.refl _ _) _), hc2⟩, ?_⟩
  rintro s' g w4 ⟨p, hp, rfl, hu, hit, h4, hc4⟩
  have hz4 := hc4.size
  have hfl := flat_len (s.take p)
  have htl : (s.take p).length = p := by rw [List.length_take]; omega
  have hll : (l ++ [34] ++ (s.take p).flatMap escB).length = l.length + 1 + ((s.take p).flatMap escB).length := by simp only [List.length_append, List.length_cons, List.length_nil]
  refine next_str hit (fun hpe => ?_) (fun hpl w5 hit5 hc5 hz5 => ?_)
  · rw [ext_tuple]
    refine ⟨.bool false, rfl, ?_⟩
    rw [condW_false]
    obtain rfl : p = s.length := by omega
    rw [List.take_length] at h4 hll hfl
    refine wbyte_p (n := 34) h4 (by omega) (by omega) (by omega) fun w6 h6 hc6 => ?_
    refine hK w6 ?_ (BCh.trans hc4 hc6)
    rw [List.append_assoc, List.append_assoc] at h6
    unfold quoteM
    rw [List.append_assoc]
    exact h6
  · have hne : s.drop p ≠ [] := fun e => by have := List.drop_eq_nil_iff.1 e; omega
    -- the rune that comes next
    obtain ⟨u, r, hru, hur, hdr⟩ : ∃ u r, Rn u ∧ Utf r ∧ s.drop p = u ++ r := by
      cases hd : s.drop p with
      | nil => exact absurd hd hne
      | cons x y =>
        rw [hd] at hu
        generalize he : x :: y = z at hu
        cases hu with
        | nil => cases he
        | cons h1 h2 => exact ⟨_, _, h1, h2, rfl⟩
    have hrm : runeM s p = u.length := hru.at hdr
    have hup := hru.pos
    obtain ⟨c, hc⟩ := rune_good hpl (by omega)
    rw [hrm] at hc
    have htk : (s.drop p).take u.length = u := by rw [hdr, List.take_left]
    have hnext : s.take (p + u.length) = s.take p ++ u := by rw [List.take_add, htk]
    have hdr2 : s.drop (p + u.length) = r := drop_app hdr
    have hdec := hc.dec
    have hct := hc.top
    have hcv := hc.val
    have hcu : wrM c = u := by rw [← wr_enc (by omega), hc.bytes, htk]
    rw [hdec] at hit5
    have h5 : Bld w5 B b (l ++ [34] ++ (s.take p).flatMap escB) := h4.chg hc5 (fun e => by have := h1.lt; have := e; omega) fun k hk e => by
      obtain ⟨_, c', hc'⟩ := hk
      have e : k = w1.heap.size := e
      rw [e, hit] at hc'; cases hc'
    have hc5' : Chg (BCh w B b) w w5 := hc4.then hc5 fun k hk e => by omega
    have hx0 : Ext w0 w5 := BCh.new h0 hB0 hb hc5'
    have hfit := hc.fits
    -- once the rune's text is written
    have fin : ∀ w6, Bld w6 B b (l ++ [34] ++ (s.take p).flatMap escB ++ u.flatMap escB) → Chg (BCh w5 B b) w5 w6 → (fun (s' : List Value) w4 => ∃ p, p ≤ s.length ∧ s' = [] ∧ Utf (s.drop p) ∧ w4.heap[w1.heap.size]? = some (.stringIter (ofL s) p) ∧ Bld w4 B b (l ++ [34] ++ (s.take p).flatMap escB) ∧ Chg (BCh w B b) w w4) [] w6 ∧
        (match w6.heap[w1.heap.size]? with | some (.stringIter _ p) => s.length - p | _ => 0) < (match w4.heap[w1.heap.size]? with | some (.stringIter _ p) => s.length - p | _ => 0) := by
      intro w6 h6 hc6
      have hit6 := BCh.iter hc6 hit5 (by have := h1.lt; omega)
      refine ⟨⟨p + u.length, hfit, rfl, by rw [hdr2]; exact hur, hit6, ?_, BCh.trans hc5' hc6⟩, ?_⟩
      · rw [hnext, List.flatMap_append, ← List.append_assoc]; exact h6
      · rw [hit6, hit]
        show s.length - (p + u.length) < s.length - p
        omega
    rw [ext_tuple]
    refine ⟨.bool true, rfl, ?_⟩
    rw [condW_true, ext_tuple]
    refine ⟨.int .i32 (c : Int), by rw [hdec]; rfl, ?_⟩
    refine short_p hct ?_
    rw [bin_neq, condW_dec]
    rcases hru.cases with ⟨x, hx, hxl⟩ | hh
    · -- one byte
      subst hx
      have hcx : c = x.toNat := by
        have := (hc.low rfl).1
        rw [this]
        have e := byteM_in hpl
        rw [Go.Eng.byte_at (show s.drop p = x :: r from hdr)] at e
        omega
      subst hcx
      have e1 : [x].flatMap escB = escB x := by simp
      rw [e1] at fin
      refine ⟨fun hne => ?_, fun he => ?_⟩
      · obtain ⟨f1, f2⟩ := esc_short (c := x) (by omega)
        rw [cvt_int, i32_wrap (by omega)]
        show cvsW _ _
        unfold cvsW
        dsimp only
        rw [enc_low f2, bin_sadd]
        refine ⟨by simp only [List.length_cons, List.length_nil]; decide, ?_⟩
        refine wstr_p h5 (by omega) (by rw [hll]; simp only [List.length_append, List.length_cons, List.length_nil]; omega) fun v w6 h6 hc6 => ?_
        refine fin w6 ?_ hc6
        rw [f1]; exact h6
      · have f := esc_long (c := x) (by omega)
        rw [bin_lss, condW_dec]
        refine ⟨fun hlt => ?_, fun hge => ?_⟩
        · rw [if_pos (by omega)] at f
          have hmem : x ∈ s := List.mem_of_mem_drop (i := p) (by rw [hdr]; simp)
          rw [cvt_int, wrap_id (by omega) (by omega), bin_add, wrap_id (by omega) (by omega)]
          have hfm := hF x hmem (by omega) x.toNat (by omega) w5
          rw [show ((x.toNat + 256 : Nat) : Int) = (x.toNat : Int) + 256 by omega] at hfm
          refine hfm _ hx0 fun w6 hx6 => ?_
          rw [sls_str, bd_none, bd_some]
          refine ⟨by decide, by simp [hexS], ?_⟩
          rw [bin_sadd]
          refine ⟨by simp [hexS], ?_⟩
          refine wstr_p (h5.ext hx6) (by have := hx6.size; omega) (by rw [hll]; clear fin h4 h5 hll; generalize ((s.take p).flatMap escB).length = q at *; simp [hexS]; omega) fun v w7 h7 hc7 => ?_
          refine fin w7 ?_ (BCh.from hx6 hc7)
          rw [f]
          simpa [hexS] using h7
        · rw [if_neg (by omega)] at f
          refine wrune_p h5 (by omega) (by omega) (by omega) fun v w6 h6 hc6 => ?_
          refine fin w6 ?_ hc6
          rw [f, ← hcu]; exact h6
    · -- more than one
      have hc128 : 128 ≤ c := by
        have hb0 := byte_pref (j := 0) hdr hup
        have h128 := hh u[0] (List.getElem_mem ..)
        rw [Nat.add_zero, byteM_in hpl] at hb0
        by_cases h1 : u.length = 1
        · have := hc.low h1; omega
        · exact (hc.high (by omega)).1
      rw [esc_high hh] at fin
      refine ⟨fun hne => absurd (short_high hc128) (by omega), fun he => ?_⟩
      rw [bin_lss, condW_dec]
      refine ⟨fun hlt => by omega, fun hge => ?_⟩
      refine wrune_p h5 (by omega) (by omega) (by omega) fun v w6 h6 hc6 => ?_
      refine fin w6 ?_ hc6
      rw [← hcu]; exact h6
end
end Go.Proofs.YtcnjpcadejcenaaGreatDoor
namespace Go.Proofs.YtcnjpcadejcenaaGreatDoor
open Go Go.Eng Go.Num
set_option maxRecDepth 100000
abbrev BT : TypeId := 244
abbrev U64 : TypeId := 182
def BRep (w : World) (x : Big) (cs : List Value) : Prop := ∃ sv T, cs = [.bool x.below, sv] ∧ SlAt w T sv x.l.length (x.l.map u64) ∧ x.l.length ≤ 1000 ∧ Lim x.l
theorem BRep.ext {w w' : World} {x : Big} {cs : List Value} (h : BRep w x cs) (hx : Ext w w') : BRep w' x cs := by
  obtain ⟨sv, T, rfl, h1, h2, h3⟩ := h; exact ⟨sv, T, rfl, h1.ext hx, h2, h3⟩
theorem BRep.one {w : World} {x : Big} {cs : List Value} (h : BRep w x cs) : cs.all one1 = true := by
  obtain ⟨sv, T, rfl, h1, _⟩ := h
  obtain ⟨p, c, rfl, _⟩ := h1.shape; rfl
theorem BRep.len {w : World} {x : Big} {cs : List Value} (h : BRep w x cs) : cs.length = 2 := by obtain ⟨sv, T, rfl, _⟩ := h; rfl
structure BigB (w : World) (a : Nat) (x : Big) (sv : Value) : Prop where
  hb : w.heap[a]? = some (.cells [.bool x.below, sv].toArray BT (0, 0))
  l : ∃ T, SlAt w T sv x.l.length (x.l.map u64)
  few : x.l.length ≤ 1000
  lim : Lim x.l
theorem BigB.ext {w w' : World} {a : Nat} {x : Big} {sv : Value} (h : BigB w a x sv) (hx : Ext w w') : BigB w' a x sv := ⟨hx.at h.hb id, let ⟨T, h1⟩ := h.l; ⟨T, h1.ext hx⟩, h.few, h.lim⟩
theorem BigB.rep {w : World} {a : Nat} {x : Big} {sv : Value} (h : BigB w a x sv) : BRep w x [.bool x.below, sv] := by obtain ⟨T, h1⟩ := h.l; exact ⟨sv, T, rfl, h1, h.few, h.lim⟩
theorem BigB.ld {w : World} {a : Nat} {x : Big} {sv : Value} {K : Value → Prop} (h : BigB w a x sv) (hK : ∀ cs, BRep w x cs → K (.agg cs.toArray)) : ldW true 2 (ptr a) w K := ld_all h.hb rfl (hK _ h.rep)
theorem BigB.len {w : World} {a : Nat} {x : Big} {sv : Value} (h : BigB w a x sv) (K : Value → Prop) : lenlW sv K ↔ K (i64 x.l.length) := by obtain ⟨T, h1⟩ := h.l; exact lenl_at h1 K
theorem BigB.at {w : World} {a : Nat} {x : Big} {sv : Value} {k : IntKind} {i n : Nat} {K : Value → Prop} (h : BigB w a x sv) (hi : x.l[i]? = some n) (hK : K (u64 n)) : ixaW none 1 sv (.int k i) fun p => ldW false 1 p w K := by
  obtain ⟨T, h1⟩ := h.l
  exact ixa_ld h1 (by simp) (by simp [hi]) hK
theorem BRep.keep {w w' : World} {b : Nat} {x : Big} {cs : List Value} {p : Bool} {q : Value} {T0 : TypeId} (h : BRep w x cs) (hb : w.heap[b]? = some (.cells [.bool p, q].toArray T0 (0, 0))) (hq : ∀ n, q ≠ u64 n) (hc : Chg (fun k => k = b) w w') : BRep w' x cs := by
  obtain ⟨sv, T, rfl, ⟨p', cap, hv, h1, h2, h3⟩, h4, h5⟩ := h
  refine ⟨sv, T, rfl, ⟨p', cap, hv, h1, h2, fun hne => ?_⟩, h4, h5⟩
  obtain ⟨k, off, c, fr, hp, hk, hcs⟩ := h3 hne
  have hkb : k ≠ b := by
    rintro rfl
    rw [hb] at hk
    cases hk
    obtain ⟨n, r, e⟩ : ∃ n r, x.l = n :: r := by
      cases hx : x.l with
      | nil => rw [hx] at hne; simp at hne
      | cons n r => exact ⟨n, r, rfl⟩
    have := hcs 0 (by rw [e]; simp)
    rw [e] at this
    simp only [Nat.add_zero, List.map_cons, List.getElem?_cons_zero, List.getElem?_toArray] at this
    rcases off with _ | _ | off
    · simp at this
    · simp only [Nat.zero_add, List.getElem?_cons_succ, List.getElem?_cons_zero, Option.some.injEq] at this; exact hq n this
    · simp at this
  exact ⟨k, off, c, fr, hp, hc.at hk hkb, hcs⟩
theorem u64_wrap {n : Int} (h1 : 0 ≤ n) (h2 : n < 18446744073709551616) : IntKind.u64.wrap n = n := by
  simp only [IntKind.wrap, IntKind.signed, IntKind.bits, IntKind.max, IntKind.min]
  simp
  omega
section
variable [HX]
end
end Go.Proofs.YtcnjpcadejcenaaGreatDoor

namespace Go.Proofs.YtcnjpcadejcenaaGreatDoor
open Go Go.Eng Go.Num
set_option maxRecDepth 100000
section
variable [HX]
theorem callV_fn {P : Program} {g : FuncId} {args : List Value} {w : World} {K : Value → World → Prop} (h : callF P g args w K) : callV P (.func (.func g) #[] #[]) args w K := by
  unfold callV semN
  unfold callF at h
  have : (do let d ← (Deferred.ofValue (.func (.func g) #[] #[]) args.toArray); invoke d.target d.args : Sem Next) = callFunc g args.toArray := by
    show callFunc g (#[] ++ args.toArray ++ #[]) = _
    simp
  rw [this]
  exact h
structure ItemsAt (w : World) (sv : Value) (xs : List JV) : Prop where
  it : ∃ T L, SlAt w T sv xs.length L ∧ VReps w xs L
  few : xs.length ≤ 9223372036854775807
theorem ItemsAt.ext {w w' : World} {sv : Value} {xs : List JV} (h : ItemsAt w sv xs) (hx : Ext w w') : ItemsAt w' sv xs := ⟨let ⟨T, L, h1, h2⟩ := h.it; ⟨T, L, h1.ext hx, h2.ext hx⟩, h.few⟩
theorem ValB.itemsAt {w : World} {a : Nat} {v : JV} {sv kv : Value} (h : ValB w a v sv kv) : ItemsAt w sv v.xs := ⟨h.items, h.fits.1⟩
theorem ItemsAt.len {w : World} {sv : Value} {xs : List JV} (h : ItemsAt w sv xs) (K : Value → Prop) : lenlW sv K ↔ K (i64 xs.length) := by obtain ⟨T, L, h1, _⟩ := h.it; exact lenl_at h1 K
theorem ItemsAt.at {w : World} {sv : Value} {xs : List JV} {k : IntKind} {i : Nat} {x : JV} {K : Value → Prop} (h : ItemsAt w sv xs) (hi : xs[i]? = some x) (hK : ∀ cs, VRep w x cs → K (.agg cs.toArray)) : ixaW none 5 sv (.int k i) fun p => ldW true 5 p w K := by
  obtain ⟨T, L, h1, h2⟩ := h.it; exact item_ld h1 h2 hi hK
def findI {α : Type} (p : α → Bool) (xs : List α) : Int := match xs.findIdx? p with | some i => i | none => -1
theorem findI_ge {α : Type} (p : α → Bool) (xs : List α) : decide ((0 : Int) ≤ findI p xs) = xs.any p := by
  unfold findI
  cases h : xs.findIdx? p with
  | none =>
    have := List.findIdx?_eq_none_iff.1 h
    have : xs.any p = false := List.any_eq_false.2 fun x hx => by simp [this x hx]
    rw [this]; decide
  | some i =>
    obtain ⟨hi, hp, _⟩ := List.findIdx?_eq_some_iff_getElem.1 h
    rw [List.any_eq_true.2 ⟨_, List.getElem_mem hi, hp⟩]
    exact decide_eq_true (by simp)
theorem findIdx_hit {α : Type} {p : α → Bool} {xs : List α} {i : Nat} {x : α} (h : (xs.take i).any p = false) (hi : xs[i]? = some x) (hx : p x = true) : xs.findIdx? p = some i := by
  obtain ⟨hl, e⟩ := List.getElem?_eq_some_iff.1 hi
  rw [List.findIdx?_eq_some_iff_getElem]
  refine ⟨hl, by rw [e]; exact hx, fun j hj => ?_⟩
  have := List.any_eq_false.1 h xs[j] (List.mem_of_getElem? (i := j) (by rw [List.getElem?_take, if_pos hj]; exact List.getElem?_eq_getElem _))
  simpa using this
theorem index_v {sv f : Value} {xs : List JV} {p : JV → Bool} {w : World} {K : Value → World → Prop} (h : ItemsAt w sv xs)
    (hf : ∀ x ∈ xs, ∀ {cs : List Value} {w : World} {K : Value → World → Prop}, VRep w x cs → (∀ w', Ext w w' → K (.bool (p x)) w') → callV Tryz.prog f [.agg cs.toArray] w K)
    (hK : ∀ w', Ext w w' → K (i64 (findI p xs)) w') : callF Tryz.prog 150 [sv, f] w K := by
  refine W150_ok ?_
  unfold W150
  rw [h.len]
  refine loop_up xs.length (fun i w' => Ext w w' ∧ (xs.take i).any p = false) ⟨Chg.refl _ _, by simp⟩ ?_ ?_
  · rintro i w2 g L hi ⟨hx2, hno⟩ hL
    obtain ⟨x, hxi⟩ : ∃ x, xs[i]? = some x := ⟨_, List.getElem?_eq_getElem hi⟩
    have hlt : ((i : Int) < (xs.length : Int)) := by omega
    simp only [wsv, wsg, wsh, wsl, cond_true, cond_false, exists_eq_left', Option.some.injEq, Option.isSome_some, List.getElem?_toArray, List.getElem?_cons_zero, List.getElem?_cons_succ, List.length_cons, List.length_nil, List.set_cons_zero, List.set_cons_succ, List.getD_cons_zero, List.getD_cons_succ, Nat.zero_add, Nat.add_zero, Nat.reduceAdd, Nat.reduceLT, Nat.lt_add_one, Nat.zero_lt_succ, decide_true, decide_false, ne_eq, reduceCtorEq, hlt]
    refine (h.ext hx2).at hxi fun cs hcs => ?_
    refine hf x (List.mem_of_getElem? hxi) hcs fun w3 hx3 => ?_
    rw [condW_b]
    refine ⟨fun ht => ?_, fun hn => ?_⟩
    · have := hK w3 (hx2.trans hx3)
      unfold findI at this
      rw [findIdx_hit hno hxi ht] at this
      exact this
    · have := h.few
      rw [up1 (by omega)]
      exact hL w3 ⟨hx2.trans hx3, by rw [any_take hxi, hno, hn]; rfl⟩
  · rintro w2 g L ⟨hx2, hno⟩
    simp only [wsv, wsg, wsh, wsl, cond_true, cond_false, exists_eq_left', Option.some.injEq, Option.isSome_some, List.getElem?_toArray, List.getElem?_cons_zero, List.getElem?_cons_succ, List.length_cons, List.length_nil, List.set_cons_zero, List.set_cons_succ, List.getD_cons_zero, List.getD_cons_succ, Nat.zero_add, Nat.add_zero, Nat.reduceAdd, Nat.reduceLT, Nat.lt_add_one, Nat.zero_lt_succ, decide_true, decide_false, ne_eq, reduceCtorEq, Int.lt_irrefl]
    rw [List.take_length] at hno
    have := hK w2 hx2
    unfold findI at this
    rw [List.findIdx?_eq_none_iff.2 fun x hx => by simpa using List.any_eq_false.1 hno x hx] at this
    exact this
theorem contains_v {sv f : Value} {xs : List JV} {p : JV → Bool} {w : World} {K : Value → World → Prop} (h : ItemsAt w sv xs)
    (hf : ∀ x ∈ xs, ∀ {cs : List Value} {w : World} {K : Value → World → Prop}, VRep w x cs → (∀ w', Ext w w' → K (.bool (p x)) w') → callV Tryz.prog f [.agg cs.toArray] w K)
    (hK : ∀ w', Ext w w' → K (.bool (xs.any p)) w') : callF Tryz.prog 99 [sv, f] w K := by
  refine W99_ok ?_
  unfold W99
  refine index_v h hf fun w1 hx1 => ?_
  simp only [wsv, wsg, wsh, wsl, cond_true, cond_false, exists_eq_left', Option.some.injEq, Option.isSome_some, List.getElem?_toArray, List.getElem?_cons_zero, List.getElem?_cons_succ, List.length_cons, List.length_nil, List.set_cons_zero, List.set_cons_succ, List.getD_cons_zero, List.getD_cons_succ, Nat.zero_add, Nat.add_zero, Nat.reduceAdd, Nat.reduceLT, Nat.lt_add_one, Nat.zero_lt_succ, decide_true, decide_false, ne_eq, reduceCtorEq, findI_ge]
  exact hK w1 hx1
theorem index_x {sv f : Value} {xs : List JV} {p : JV → Bool} {w : World} {K : Value → World → Prop} (h : ItemsAt w sv xs)
    (hf : ∀ x ∈ xs, ∀ {cs : List Value} {w1 : World} {K : Value → World → Prop}, Ext w w1 → VRep w1 x cs → (∀ w', Ext w1 w' → K (.bool (p x)) w') → callV Tryz.prog f [.agg cs.toArray] w1 K)
    (hK : ∀ w', Ext w w' → K (i64 (findI p xs)) w') : callF Tryz.prog 150 [sv, f] w K := by
  refine W150_ok ?_
  unfold W150
  rw [h.len]
  refine loop_up xs.length (fun i w' => Ext w w' ∧ (xs.take i).any p = false) ⟨Chg.refl _ _, by simp⟩ ?_ ?_
  · rintro i w2 g L hi ⟨hx2, hno⟩ hL
    obtain ⟨x, hxi⟩ : ∃ x, xs[i]? = some x := ⟨_, List.getElem?_eq_getElem hi⟩
    have hlt : ((i : Int) < (xs.length : Int)) := by omega
    simp only [wsv, wsg, wsh, wsl, cond_true, cond_false, exists_eq_left', Option.some.injEq, Option.isSome_some, List.getElem?_toArray, List.getElem?_cons_zero, List.getElem?_cons_succ, List.length_cons, List.length_nil, List.set_cons_zero, List.set_cons_succ, List.getD_cons_zero, List.getD_cons_succ, Nat.zero_add, Nat.add_zero, Nat.reduceAdd, Nat.reduceLT, Nat.lt_add_one, Nat.zero_lt_succ, decide_true, decide_false, ne_eq, reduceCtorEq, hlt]
    refine (h.ext hx2).at hxi fun cs hcs => ?_
    refine hf x (List.mem_of_getElem? hxi) hx2 hcs fun w3 hx3 => ?_
    rw [condW_b]
    refine ⟨fun ht => ?_, fun hn => ?_⟩
    · have := hK w3 (hx2.trans hx3)
      unfold findI at this
      rw [findIdx_hit hno hxi ht] at this
      exact this
    · have := h.few
      rw [up1 (by omega)]
      exact hL w3 ⟨hx2.trans hx3, by rw [any_take hxi, hno, hn]; rfl⟩
  · rintro w2 g L ⟨hx2, hno⟩
    simp only [wsv, wsg, wsh, wsl, cond_true, cond_false, exists_eq_left', Option.some.injEq, Option.isSome_some, List.getElem?_toArray, List.getElem?_cons_zero, List.getElem?_cons_succ, List.length_cons, List.length_nil, List.set_cons_zero, List.set_cons_succ, List.getD_cons_zero, List.getD_cons_succ, Nat.zero_add, Nat.add_zero, Nat.reduceAdd, Nat.reduceLT, Nat.lt_add_one, Nat.zero_lt_succ, decide_true, decide_false, ne_eq, reduceCtorEq, Int.lt_irrefl]
    rw [List.take_length] at hno
    have := hK w2 hx2
    unfold findI at this
    rw [List.findIdx?_eq_none_iff.2 fun x hx => by simpa using List.any_eq_false.1 hno x hx] at this
    exact this
theorem contains_x {sv f : Value} {xs : List JV} {p : JV → Bool} {w : World} {K : Value → World → Prop} (h : ItemsAt w sv xs)
    (hf : ∀ x ∈ xs, ∀ {cs : List Value} {w1 : World} {K : Value → World → Prop}, Ext w w1 → VRep w1 x cs → (∀ w', Ext w1 w' → K (.bool (p x)) w') → callV Tryz.prog f [.agg cs.toArray] w1 K)
    (hK : ∀ w', Ext w w' → K (.bool (xs.any p)) w') : callF Tryz.prog 99 [sv, f] w K := by
  refine W99_ok ?_
  unfold W99
  refine index_x h hf fun w1 hx1 => ?_
  simp only [wsv, wsg, wsh, wsl, cond_true, cond_false, exists_eq_left', Option.some.injEq, Option.isSome_some, List.getElem?_toArray, List.getElem?_cons_zero, List.getElem?_cons_succ, List.length_cons, List.length_nil, List.set_cons_zero, List.set_cons_succ, List.getD_cons_zero, List.getD_cons_succ, Nat.zero_add, Nat.add_zero, Nat.reduceAdd, Nat.reduceLT, Nat.lt_add_one, Nat.zero_lt_succ, decide_true, decide_false, ne_eq, reduceCtorEq, findI_ge]
  exact hK w1 hx1
theorem any_not_known (xs : List JV) : (!xs.any fun x => !knownM x) = knownL xs := by
  rw [knownL_all]
  induction xs with
  | nil => rfl
  | cons x xs ih => simp only [List.any_cons, List.all_cons, Bool.not_or, Bool.not_not, ih]
theorem known_p (v : JV) : ∀ {cs : List Value} {w : World} {K : Value → World → Prop}, VRep w v cs → (∀ w', Ext w w' → K (.bool (knownM v)) w') → callF Tryz.prog 43 [.agg cs.toArray] w K := by
  induction v using JV.ind' with
  | h v ih =>
    intro cs w K h hK
    refine W43_ok ?_
    unfold W43
    refine box_val h fun a w1 sv kv hB hx _ => ?_
    rw [knownM_eq] at hK
    simp only [wsv, wsg, wsh, wsl, cond_true, cond_false, exists_eq_left', Option.some.injEq, Option.isSome_some, List.getElem?_toArray, List.getElem?_cons_zero, List.getElem?_cons_succ, List.length_cons, List.length_nil, List.set_cons_zero, List.set_cons_succ, List.getD_cons_zero, List.getD_cons_succ, Nat.zero_add, Nat.add_zero, Nat.reduceAdd, Nat.reduceLT, Nat.lt_add_one, Nat.zero_lt_succ, decide_true, decide_false, ne_eq, reduceCtorEq, wsh, hB.hb]
    refine GdW.act (knownL v.xs) (fun w' => Ext w1 w') (fun _ => Chg.refl _ _) ?_ ?_
    · intro hc J hJ
      refine contains_v (p := fun x => !knownM x) hB.itemsAt ?_ fun w2 hx2 => ?_
      · intro x hx cs w K hr hK
        refine callV_fn ?_
        refine W100_ok ?_
        unfold W100
        refine box_val hr fun b w1 sv kv hB hx1 _ => ?_
        refine hB.ld fun cs2 h2 => ?_
        refine ih x hx h2 fun w2 hx2 => ?_
        simp only [wsv, wsg, wsh, wsl, cond_true, cond_false, exists_eq_left', Option.some.injEq, Option.isSome_some, List.getElem?_toArray, List.getElem?_cons_zero, List.getElem?_cons_succ, List.length_cons, List.length_nil, List.set_cons_zero, List.set_cons_succ, List.getD_cons_zero, List.getD_cons_succ, Nat.zero_add, Nat.add_zero, Nat.reduceAdd, Nat.reduceLT, Nat.lt_add_one, Nat.zero_lt_succ, decide_true, decide_false, ne_eq, reduceCtorEq]
        exact hK w2 (hx1.trans hx2)
      · simp only [wsv, wsg, wsh, wsl, cond_true, cond_false, exists_eq_left', Option.some.injEq, Option.isSome_some, List.getElem?_toArray, List.getElem?_cons_zero, List.getElem?_cons_succ, List.length_cons, List.length_nil, List.set_cons_zero, List.set_cons_succ, List.getD_cons_zero, List.getD_cons_succ, Nat.zero_add, Nat.add_zero, Nat.reduceAdd, Nat.reduceLT, Nat.lt_add_one, Nat.zero_lt_succ, decide_true, decide_false, ne_eq, reduceCtorEq, any_not_known]
        exact hJ w2 hx2
    · intro g w2 hx2
      have := hK w2 (hx.trans hx2)
      simp only [wsv, wsg, wsh, wsl, cond_true, cond_false, exists_eq_left', Option.some.injEq, Option.isSome_some, List.getElem?_toArray, List.getElem?_cons_zero, List.getElem?_cons_succ, List.length_cons, List.length_nil, List.set_cons_zero, List.set_cons_succ, List.getD_cons_zero, List.getD_cons_succ, Nat.zero_add, Nat.add_zero, Nat.reduceAdd, Nat.reduceLT, Nat.lt_add_one, Nat.zero_lt_succ, decide_true, decide_false, ne_eq, reduceCtorEq]
      simpa only [decide_not] using this
end
end Go.Proofs.YtcnjpcadejcenaaGreatDoor
namespace Go.Proofs.YtcnjpcadejcenaaGreatDoor
open Go Go.Eng Go.Num
set_option maxRecDepth 100000
def inG (G : Nat → Prop) (v : Value) : Prop := ∀ k, v.ownBlock = some k → G k
mutual
/-- a value all whose lists lie in blocks of G -/
def VRepP (G : Nat → Prop) (w : World) : JV → List Value → Prop
  | .mk k b t xs ks, cs => ∃ sv kv T1 T2 L, cs = [i64 k, .bool b, str t, sv, kv] ∧ SlAt w T1 sv xs.length L ∧ VRepsP G w xs L ∧ SlAt w T2 kv ks.length (ks.map str) ∧ Fits xs.length ks t ∧ (L ≠ [] → inG G sv) ∧ (ks.map str ≠ [] → inG G kv)
def VRepsP (G : Nat → Prop) (w : World) : List JV → List Value → Prop
  | [], L => L = []
  | x :: xs, L => ∃ c r, L = c ++ r ∧ VRepP G w x c ∧ VRepsP G w xs r
end
theorem slat_chgG {S G : Nat → Prop} {w w' : World} {T : TypeId} {v : Value} {n : Nat} {cs : List Value} (h : SlAt w T v n cs) (hg : cs ≠ [] → inG G v) (hc : Chg S w w') (hS : ∀ k, G k → k < w.heap.size → ¬ S k) : SlAt w' T v n cs := by
  obtain ⟨p, cap, rfl, h1, h2, h3⟩ := h
  refine ⟨p, cap, rfl, h1, h2, fun hne => ?_⟩
  obtain ⟨b, off, c, fr, rfl, hb, hcs⟩ := h3 hne
  exact ⟨b, off, c, fr, rfl, hc.at hb (hS b (hg hne b rfl) (at_lt hb)), hcs⟩
theorem slat_lt {w : World} {T : TypeId} {v : Value} {n : Nat} {cs : List Value} (h : SlAt w T v n cs) (hne : cs ≠ []) : inG (fun k => k < w.heap.size) v := by
  obtain ⟨p, cap, rfl, h1, h2, h3⟩ := h
  obtain ⟨b, off, c, fr, rfl, hb, hcs⟩ := h3 hne
  intro k hk
  cases hk
  exact at_lt hb
mutual
theorem VRepP.chg {S G : Nat → Prop} {w w' : World} (hc : Chg S w w') (hS : ∀ k, G k → k < w.heap.size → ¬ S k) : ∀ {v : JV} {cs : List Value}, VRepP G w v cs → VRepP G w' v cs
  | .mk k b t xs ks, cs, h => by
    simp only [VRepP] at h ⊢
    obtain ⟨sv, kv, T1, T2, L, rfl, h1, h2, h3, h4, h5, h6⟩ := h
    exact ⟨sv, kv, T1, T2, L, rfl, slat_chgG h1 h5 hc hS, VRepsP.chg hc hS h2, slat_chgG h3 h6 hc hS, h4, h5, h6⟩
theorem VRepsP.chg {S G : Nat → Prop} {w w' : World} (hc : Chg S w w') (hS : ∀ k, G k → k < w.heap.size → ¬ S k) : ∀ {xs : List JV} {L : List Value}, VRepsP G w xs L → VRepsP G w' xs L
  | [], L, h => by simp only [VRepsP] at h ⊢; exact h
  | x :: xs, L, h => by
    simp only [VRepsP] at h ⊢
    obtain ⟨c, r, rfl, h1, h2⟩ := h
    exact ⟨c, r, rfl, VRepP.chg hc hS h1, VRepsP.chg hc hS h2⟩
end
mutual
theorem VRepP.mono {G G' : Nat → Prop} {w : World} (hG : ∀ k, k < w.heap.size → G k → G' k) : ∀ {v : JV} {cs : List Value}, VRepP G w v cs → VRepP G' w v cs
  | .mk k b t xs ks, cs, h => by
    simp only [VRepP] at h ⊢
    obtain ⟨sv, kv, T1, T2, L, rfl, h1, h2, h3, h4, h5, h6⟩ := h
    exact ⟨sv, kv, T1, T2, L, rfl, h1, VRepsP.mono hG h2, h3, h4, fun hne k hk => hG k (slat_lt h1 hne k hk) (h5 hne k hk), fun hne k hk => hG k (slat_lt h3 hne k hk) (h6 hne k hk)⟩
theorem VRepsP.mono {G G' : Nat → Prop} {w : World} (hG : ∀ k, k < w.heap.size → G k → G' k) : ∀ {xs : List JV} {L : List Value}, VRepsP G w xs L → VRepsP G' w xs L
  | [], L, h => by simp only [VRepsP] at h ⊢; exact h
  | x :: xs, L, h => by
    simp only [VRepsP] at h ⊢
    obtain ⟨c, r, rfl, h1, h2⟩ := h
    exact ⟨c, r, rfl, VRepP.mono hG h1, VRepsP.mono hG h2⟩
end
mutual
theorem VRepP.rep {G : Nat → Prop} {w : World} : ∀ {v : JV} {cs : List Value}, VRepP G w v cs → VRep w v cs
  | .mk k b t xs ks, cs, h => by
    simp only [VRepP] at h
    simp only [VRep]
    obtain ⟨sv, kv, T1, T2, L, rfl, h1, h2, h3, h4, h5, h6⟩ := h
    exact ⟨sv, kv, T1, T2, L, rfl, h1, VRepsP.rep h2, h3, h4⟩
theorem VRepsP.rep {G : Nat → Prop} {w : World} : ∀ {xs : List JV} {L : List Value}, VRepsP G w xs L → VReps w xs L
  | [], L, h => by simp only [VRepsP] at h; simp only [VReps]; exact h
  | x :: xs, L, h => by
    simp only [VRepsP] at h
    simp only [VReps]
    obtain ⟨c, r, rfl, h1, h2⟩ := h
    exact ⟨c, r, rfl, VRepP.rep h1, VRepsP.rep h2⟩
end
theorem VRepsP.snoc {G : Nat → Prop} {w : World} : ∀ {xs : List JV} {x : JV} {L cs : List Value}, VRepsP G w xs L → VRepP G w x cs → VRepsP G w (xs ++ [x]) (L ++ cs)
  | [], x, L, cs, h, hx => by
    simp only [VRepsP] at h
    subst h
    simp only [List.nil_append, VRepsP]
    exact ⟨cs, [], by simp, hx, rfl⟩
  | y :: xs, x, L, cs, h, hx => by
    simp only [VRepsP] at h
    obtain ⟨c, r, rfl, h1, h2⟩ := h
    simp only [List.cons_append, VRepsP]
    exact ⟨c, r ++ cs, by simp, h1, VRepsP.snoc h2 hx⟩
theorem VRepP.mk {G : Nat → Prop} {w : World} {v : JV} {sv kv : Value} {T1 T2 : TypeId} {L : List Value} (h1 : SlAt w T1 sv v.xs.length L) (h2 : VRepsP G w v.xs L) (h3 : SlAt w T2 kv v.ks.length (v.ks.map str)) (h4 : Fits v.xs.length v.ks v.t) (h5 : L ≠ [] → inG G sv) (h6 : v.ks.map str ≠ [] → inG G kv) : VRepP G w v [i64 v.k, .bool v.b, str v.t, sv, kv] := by
  cases v with
  | mk k b t xs ks => simp only [VRepP]; exact ⟨sv, kv, T1, T2, L, rfl, h1, h2, h3, h4, h5, h6⟩
abbrev From (n : Nat) : Nat → Prop := fun k => n ≤ k
section
variable [HX]
theorem clone_s {v : Value} {T : TypeId} {l : List Str} {w : World} {K : Value → World → Prop} (h : SlAt w T v l.length (l.map str)) (hl : l.length ≤ 1000000)
    (hK : ∀ v' w', Ext w w' → SlAt w' ST v' l.length (l.map str) → inG (From w.heap.size) v' → K v' w') : callF Tryz.prog 228 [v] w K := by
  refine W228_ok ?_
  unfold W228
  obtain ⟨p, cap, rfl, hcap, hp, hc⟩ := h
  cases p with
  | none =>
    obtain ⟨h0, rfl⟩ := hp rfl
    have : l = [] := List.eq_nil_of_length_eq_zero h0
    subst this
    have e : ∀ K : Value → Prop, eqW .slice false (.slice none ([] : List Str).length 0) (.slice none 0 0) K ↔ K (.bool true) := fun K => Iff.rfl
    rw [e]
    simp only [wsv, wsg, wsh, wsl, cond_true, cond_false, exists_eq_left', Option.some.injEq, Option.isSome_some, List.getElem?_toArray, List.getElem?_cons_zero, List.getElem?_cons_succ, List.length_cons, List.length_nil, List.set_cons_zero, List.set_cons_succ, List.getD_cons_zero, List.getD_cons_succ, Nat.zero_add, Nat.add_zero, Nat.reduceAdd, Nat.reduceLT, Nat.lt_add_one, Nat.zero_lt_succ, decide_true, decide_false, ne_eq, reduceCtorEq]
    exact hK _ w (Chg.refl _ _) (SlAt.nil _ _) (by intro k hk; cases hk)
  | some a =>
    have e : ∀ K : Value → Prop, eqW .slice false (.slice (some a) l.length cap) (.slice none 0 0) K ↔ K (.bool false) := fun K => Iff.rfl
    rw [e]
    unfold bslW
    simp only [wsv, wsg, wsh, wsl, cond_true, cond_false, exists_eq_left', Option.some.injEq, Option.isSome_some, List.getElem?_toArray, List.getElem?_cons_zero, List.getElem?_cons_succ, List.length_cons, List.length_nil, List.set_cons_zero, List.set_cons_succ, List.getD_cons_zero, List.getD_cons_succ, Nat.zero_add, Nat.add_zero, Nat.reduceAdd, Nat.reduceLT, Nat.lt_add_one, Nat.zero_lt_succ, decide_true, decide_false, ne_eq, reduceCtorEq]
    refine append_own3 elem_s (base := w.heap.size) (own_new (w := w) (base := w.heap.size) (e := ST) (size := 1) (n := 0) (cs := []) (Nat.le_refl _) rfl (by omega)) (x := .slice (some a) l.length cap) (T := T) (m := l.length) (news := l.map str) ?_ (by simp) ?_ (by omega) (by omega) (by rw [size_alloc]; omega) fun v' w' h' hc' hb' => ?_
    · have hx : Ext w (w.alloc (.cells ([] : List Value).toArray ST)) := (by repeat (first | assumption | exact Chg.refl _ _ | refine Chg.drew ?_ | refine Chg.alloc ?_ _ | refine Chg.set ?_ (by first | exact .inl rfl | exact .inr (by omega) | exact .inr (by simp only [size_set, size_alloc, size_drew]; omega) | (left; simp; done)) _ | exact Chg.of_ext (by assumption)))
      exact SlAt.ext ⟨some a, cap, rfl, hcap, hp, hc⟩ hx
    · intro u hu
      obtain ⟨s, _, rfl⟩ := List.mem_map.1 hu
      rfl
    · have hx : Ext w (w.alloc (.cells ([] : List Value).toArray ST)) := (by repeat (first | assumption | exact Chg.refl _ _ | refine Chg.drew ?_ | refine Chg.alloc ?_ _ | refine Chg.set ?_ (by first | exact .inl rfl | exact .inr (by omega) | exact .inr (by simp only [size_set, size_alloc, size_drew]; omega) | (left; simp; done)) _ | exact Chg.of_ext (by assumption)))
      refine hK v' w' (hx.then hc' fun k hk e => ?_) (by simpa using h'.sl) fun k hk => (h'.block k hk).1
      simp only [Value.ownBlock, Option.some.injEq] at e
      omega
theorem clones_p {xs : List JV} (hcl : ∀ x ∈ xs, ∀ {cs : List Value} {w : World} {K : Value → World → Prop}, VRep w x cs → (∀ cs' w', Ext w w' → VRepP (From w.heap.size) w' x cs' → K (.agg cs'.toArray) w') → callF Tryz.prog 189 [.agg cs.toArray] w K)
    {sv : Value} {w : World} {K : Value → World → Prop} (h : ItemsAt w sv xs) (hl : xs.length ≤ 1000000)
    (hK : ∀ sv' w', Ext w w' → (∃ L, SlAt w' VT sv' xs.length L ∧ VRepsP (From w.heap.size) w' xs L) → inG (From w.heap.size) sv' → K sv' w') : callF Tryz.prog 229 [sv] w K := by
  refine W229_ok ?_
  unfold W229
  rw [h.len]
  refine ⟨fun s w' => ∃ i v L, i ≤ xs.length ∧ s = [v, i64 (i : Nat)] ∧ Ext w w' ∧ Own w' w.heap.size VT 5 v i L ∧ VRepsP (fun k => w.heap.size ≤ k ∧ v.ownBlock ≠ some k) w' (xs.take i) L,
    fun s _ => match s with | [_, .int _ i] => xs.length - i.toNat | _ => 0, ⟨0, _, [], by omega, rfl, Chg.refl _ _, ⟨by simp, .inl ⟨rfl, rfl⟩⟩, by simp [VRepsP]⟩, ?_⟩
  rintro s g w2 ⟨i, v, L, hi, rfl, hx2, hO, hr⟩
  rcases Nat.lt_or_ge i xs.length with hlt | hge
  · obtain ⟨x, hxi⟩ : ∃ x, xs[i]? = some x := ⟨_, List.getElem?_eq_getElem hlt⟩
    have hltI : (i : Int) < (xs.length : Int) := by omega
    simp only [wsv, wsg, wsh, wsl, cond_true, cond_false, exists_eq_left', Option.some.injEq, Option.isSome_some, List.getElem?_toArray, List.getElem?_cons_zero, List.getElem?_cons_succ, List.length_cons, List.length_nil, List.set_cons_zero, List.set_cons_succ, List.getD_cons_zero, List.getD_cons_succ, Nat.zero_add, Nat.add_zero, Nat.reduceAdd, Nat.reduceLT, Nat.lt_add_one, Nat.zero_lt_succ, decide_true, decide_false, ne_eq, reduceCtorEq, hltI]
    refine (h.ext hx2).at hxi fun cs hcs => ?_
    refine copy_new hcs fun p w3 sp kp hP hx3 => ?_
    refine hP.ld fun cs2 h2 => ?_
    refine hcl x (List.mem_of_getElem? hxi) h2 fun cs3 w4 hx4 h3 => ?_
    refine row_v h3.rep.len fun t w5 ht hx5 => ?_
    have hx25 := hx3.trans (hx4.trans hx5)
    have hO5 := hO.ext hx25
    have s0 := hx2.size
    have s3 := hx3.size
    have s25 := hx25.size
    have hglt : ∀ k, v.ownBlock = some k → k < w2.heap.size := fun k hk => (World.ownsRow.lt hO k hk).2
    refine append_own3 elem_v hO5 ht (m := 1) (by rw [h3.rep.len]) h3.rep.one (by omega) (by omega) (by omega) fun v' w6 h6 hc6 hb6 => ?_
    have hx6 : Ext w w6 := (hx2.trans hx25).then hc6 fun k hk e => by
      have := (own_ge hO5 e).1; omega
    rw [up1 (by omega)]
    refine ⟨⟨i + 1, v', L ++ cs3, hlt, rfl, hx6, h6, ?_⟩, by simp only [Int.toNat_natCast]; omega⟩
    have e : xs.take (i + 1) = xs.take i ++ [x] := by rw [List.take_add_one, hxi]; rfl
    rw [e]
    have hr5 := VRepsP.chg hx25 (fun _ _ _ e => e) hr
    have h35 := VRepP.chg hx5 (fun _ _ _ e => e) h3
    have hall : VRepsP (fun k => w.heap.size ≤ k ∧ v.ownBlock ≠ some k) w5 (xs.take i ++ [x]) (L ++ cs3) :=
      hr5.snoc (h35.mono fun k _ hk => ⟨by have : w3.heap.size ≤ k := hk; omega, fun e => by have := hglt k e; have : w3.heap.size ≤ k := hk; omega⟩)
    have hall2 : VRepsP (fun k => (w.heap.size ≤ k ∧ v.ownBlock ≠ some k) ∧ k < w5.heap.size) w5 (xs.take i ++ [x]) (L ++ cs3) := hall.mono fun k hlt hk => ⟨hk, hlt⟩
    have hall3 := VRepsP.chg hc6 (fun k hk _ e => hk.1.2 e) hall2
    exact hall3.mono fun k _ hk => ⟨hk.1.1, fun e => by
      rcases hb6 k e with h | h
      · exact hk.1.2 h
      · omega⟩
  · obtain rfl : i = xs.length := by omega
    simp only [wsv, wsg, wsh, wsl, cond_true, cond_false, exists_eq_left', Option.some.injEq, Option.isSome_some, List.getElem?_toArray, List.getElem?_cons_zero, List.getElem?_cons_succ, List.length_cons, List.length_nil, List.set_cons_zero, List.set_cons_succ, List.getD_cons_zero, List.getD_cons_succ, Nat.zero_add, Nat.add_zero, Nat.reduceAdd, Nat.reduceLT, Nat.lt_add_one, Nat.zero_lt_succ, decide_true, decide_false, ne_eq, reduceCtorEq, Int.lt_irrefl]
    rw [List.take_length] at hr
    exact hK v w2 hx2 ⟨L, hO.sl, hr.mono fun k _ hk => hk.1⟩ fun k hk => (hO.block k hk).1
end
end Go.Proofs.YtcnjpcadejcenaaGreatDoor
namespace Go.Eng
open Go Go.Num
mutual
def fewM : JV → Bool
  | .mk _ _ _ xs ks => decide (xs.length ≤ 100000) && decide (ks.length ≤ 100000) && fewL xs
def fewL : List JV → Bool
  | [] => true
  | x :: xs => fewM x && fewL xs
end
theorem fewM_eq (v : JV) : fewM v = (decide (v.xs.length ≤ 100000) && decide (v.ks.length ≤ 100000) && fewL v.xs) := by cases v; rfl
theorem fewL_all (xs : List JV) : fewL xs = xs.all fewM := by
  induction xs with
  | nil => rfl
  | cons x xs ih => simp [fewL, ih]
theorem size_bound : ∀ (m : Nat), m ≤ 24 → ∀ (v : JV), deepM v m = true → 1 ≤ sizeM v ∧ sizeM v ≤ 2000 * m + 1
  | 0, _, v, h => by rw [deepM_zero] at h; cases h
  | m + 1, hm, v, h => by
    rw [deepM_succ, deepL_all] at h
    rw [sizeM_eq]
    have key : ∀ (xs : List JV) (n : Int), xs.all (deepM · m) = true → 1 ≤ n → n ≤ 2000 * (m + 1) + 1 → 1 ≤ sizeLM xs n ∧ sizeLM xs n ≤ 2000 * (m + 1) + 1 := by
      intro xs
      induction xs with
      | nil => intro n _ h1 h2; exact ⟨h1, h2⟩
      | cons x xs ih =>
        intro n ha h1 h2
        simp only [List.all_cons, Bool.and_eq_true] at ha
        obtain ⟨a1, a2⟩ := size_bound m (by omega) x ha.1
        simp only [sizeLM]
        split
        · rw [wrap_id (by omega) (by omega)]
          exact ih _ ha.2 (by omega) (by omega)
        · exact ⟨h1, h2⟩
    have := key v.xs 1 h (by omega) (by omega)
    exact ⟨this.1, by have := this.2; omega⟩
theorem sizeLM_all {m : Nat} (hm : m ≤ 24) : ∀ (xs : List JV) (n : Int), xs.all (deepM · m) = true → 1 ≤ n → sizeLM xs n ≤ 2000 → n + xs.length ≤ 2000 ∧ ∀ x ∈ xs, sizeM x ≤ 2000
  | [], n, _, _, h => by simp only [sizeLM] at h; exact ⟨by simp; exact h, by simp⟩
  | x :: xs, n, ha, h1, h => by
    simp only [List.all_cons, Bool.and_eq_true] at ha
    obtain ⟨a1, a2⟩ := size_bound m hm x ha.1
    simp only [sizeLM] at h
    split at h
    · rw [wrap_id (by omega) (by omega)] at h
      obtain ⟨i1, i2⟩ := sizeLM_all hm xs _ ha.2 (by omega) h
      refine ⟨by simp only [List.length_cons]; omega, fun y hy => ?_⟩
      rcases List.mem_cons.1 hy with rfl | hy
      · omega
      · exact i2 y hy
    · omega
theorem good_few (v : JV) : ∀ (m : Nat), m ≤ 24 → sizeM v ≤ 2000 → deepM v m = true → plainM v = true → fewM v = true := by
  induction v using JV.ind' with
  | h v ih =>
    intro m hm hs hd hp
    cases m with
    | zero => rw [deepM_zero] at hd; cases hd
    | succ m =>
      rw [deepM_succ, deepL_all] at hd
      rw [sizeM_eq] at hs
      obtain ⟨h1, h2⟩ := sizeLM_all (m := m) (by omega) v.xs 1 hd (by omega) hs
      rw [plainM_eq, Bool.and_eq_true, plainL_all] at hp
      obtain ⟨_, _, _, _, _, k6, _, _, k9, _⟩ := headOk_out hp.1
      rw [fewM_eq, fewL_all]
      have e1 : v.xs.length ≤ 100000 := by omega
      have e2 : v.ks.length ≤ 100000 := by
        by_cases hk : v.ks = []
        · rw [hk]; simp
        · have := k9 (k6 hk); omega
      rw [decide_eq_true e1, decide_eq_true e2]
      simp only [Bool.and_self, Bool.true_and, List.all_eq_true]
      intro x hx
      exact ih x hx m (by omega) (h2 x hx) (List.all_eq_true.1 hd x hx) (List.all_eq_true.1 hp.2 x hx)
structure GoodV (v : JV) : Prop where
  plain : plainM v = true
  few : fewM v = true
theorem good_v {v : JV} (h : goodM v = true) : GoodV v := by
  simp only [goodM, Bool.and_eq_true, decide_eq_true_eq] at h
  exact ⟨h.2, good_few v 24 (Nat.le_refl _) h.1.1 h.1.2 h.2⟩
theorem GoodV.item {v x : JV} (h : GoodV v) (hx : x ∈ v.xs) : GoodV x := by
  have h1 := h.plain
  have h2 := h.few
  rw [plainM_eq, Bool.and_eq_true, plainL_all, List.all_eq_true] at h1
  rw [fewM_eq, fewL_all] at h2
  simp only [Bool.and_eq_true, List.all_eq_true] at h2
  exact ⟨h1.2 x hx, h2.2 x hx⟩
theorem less_trans : ∀ {a b c : Str}, Op.bytesLess a b = true → Op.bytesLess b c = true → Op.bytesLess a c = true
  | [], [], _, h, _ => by simp [Op.bytesLess] at h
  | _ :: _, [], _, h, _ => by simp [Op.bytesLess] at h
  | _, _ :: _, [], _, h => by simp [Op.bytesLess] at h
  | [], _ :: _, _ :: _, _, _ => by simp [Op.bytesLess]
  | x :: a, y :: b, z :: c, h1, h2 => by
    simp only [Op.bytesLess, Bool.or_eq_true, Bool.and_eq_true, decide_eq_true_eq, beq_iff_eq] at h1 h2 ⊢
    rcases h1 with h1 | ⟨rfl, h1⟩
    · rcases h2 with h2 | ⟨rfl, h2⟩
      · exact .inl (UInt8.lt_trans h1 h2)
      · exact .inl h1
    · rcases h2 with h2 | ⟨rfl, h2⟩
      · exact .inl h2
      · exact .inr ⟨rfl, less_trans h1 h2⟩
theorem less_tri : ∀ (a b : Str), Op.bytesLess a b = true ∨ a = b ∨ Op.bytesLess b a = true
  | [], [] => .inr (.inl rfl)
  | [], _ :: _ => .inl rfl
  | _ :: _, [] => .inr (.inr rfl)
  | x :: a, y :: b => by
    simp only [Op.bytesLess, Bool.or_eq_true, Bool.and_eq_true, decide_eq_true_eq, beq_iff_eq, List.cons.injEq]
    by_cases h1 : x < y
    · exact .inl (.inl h1)
    · by_cases h2 : y < x
      · exact .inr (.inr (.inl h2))
      · have : x = y := UInt8.le_antisymm (UInt8.not_lt.1 h2) (UInt8.not_lt.1 h1)
        subst this
        rcases less_tri a b with h | h | h
        · exact .inl (.inr ⟨rfl, h⟩)
        · exact .inr (.inl ⟨rfl, h⟩)
        · exact .inr (.inr (.inr ⟨rfl, h⟩))
theorem less_anti {a b : Str} (h : Op.bytesLess a b = true) : Op.bytesLess b a = false := by
  cases hb : Op.bytesLess b a with
  | false => rfl
  | true => have := less_trans h hb; rw [less_irr] at this; cases this
def Rise (ks : List Str) : Prop := ks.Pairwise fun a b => Op.bytesLess a b = true
theorem keysOk_len {ks : List Str} (h : keysOk ks = true) : ∀ k ∈ ks, k.length ≤ 16384 := by
  induction ks with
  | nil => intro k hk; cases hk
  | cons a r ih =>
    intro k hk
    cases r with
    | nil =>
      simp only [keysOk, decide_eq_true_eq] at h
      rw [List.mem_singleton.1 hk]; exact h
    | cons b r =>
      simp only [keysOk, Bool.and_eq_true, decide_eq_true_eq] at h
      rcases List.mem_cons.1 hk with rfl | hk
      · exact h.1.1
      · exact ih h.2 k hk
theorem rise_lt {ks : List Str} (h : Rise ks) {i j : Nat} {a b : Str} (ha : ks[i]? = some a) (hb : ks[j]? = some b) (hij : i < j) : Op.bytesLess a b = true := by
  obtain ⟨h1, e1⟩ := List.getElem?_eq_some_iff.1 ha
  obtain ⟨h2, e2⟩ := List.getElem?_eq_some_iff.1 hb
  have := List.pairwise_iff_getElem.1 h i j h1 h2 hij
  rw [e1, e2] at this
  exact this
end Go.Eng
namespace Go.Proofs.YtcnjpcadejcenaaGreatDoor
open Go Go.Eng Go.Num
set_option maxRecDepth 100000
section
variable [HX]
theorem clone_p (v : JV) : ∀ {cs : List Value} {w : World} {K : Value → World → Prop}, fewM v = true → VRep w v cs → (∀ cs' w', Ext w w' → VRepP (From w.heap.size) w' v cs' → K (.agg cs'.toArray) w') → callF Tryz.prog 189 [.agg cs.toArray] w K := by
  induction v using JV.ind' with
  | h v ih =>
    intro cs w K hfew h hK
    rw [fewM_eq, fewL_all] at hfew
    simp only [Bool.and_eq_true, decide_eq_true_eq, List.all_eq_true] at hfew
    obtain ⟨⟨f1, f2⟩, f3⟩ := hfew
    refine W189_ok ?_
    unfold W189
    refine box_val h fun a w1 sv kv hB hx ha => ?_
    refine alloc_new fun b w2 hb hz2 hbb hx2 => ?_
    have hxd : Ext w2 w2.drew := Chg.drew (Chg.refl (fun _ => False) w2)
    have hB2 := hB.ext hx2
    have hBd := hB2.ext hxd
    have hbd := hxd.at hbb id
    have sd : w2.drew.heap.size = w2.heap.size := rfl
    simp only [wsv, wsg, wsh, wsl, cond_true, cond_false, exists_eq_left', Option.some.injEq, Option.isSome_some, List.getElem?_toArray, List.getElem?_cons_zero, List.getElem?_cons_succ, List.length_cons, List.length_nil, List.set_cons_zero, List.set_cons_succ, List.getD_cons_zero, List.getD_cons_succ, Nat.zero_add, Nat.add_zero, Nat.reduceAdd, Nat.reduceLT, Nat.lt_add_one, Nat.zero_lt_succ, decide_true, decide_false, ne_eq, reduceCtorEq, wsh, hB2.hb]
    obtain ⟨T1, k1⟩ := hBd.keys
    refine clone_s k1 (by omega) fun kv' w3 hx3 hk3 hg3 => ?_
    have hB3 := hBd.ext hx3
    have hb3 := hx3.at hbd id
    have s3 := hx3.size
    simp only [wsv, wsg, wsh, wsl, cond_true, cond_false, exists_eq_left', Option.some.injEq, Option.isSome_some, List.getElem?_toArray, List.getElem?_cons_zero, List.getElem?_cons_succ, List.length_cons, List.length_nil, List.set_cons_zero, List.set_cons_succ, List.getD_cons_zero, List.getD_cons_succ, Nat.zero_add, Nat.add_zero, Nat.reduceAdd, Nat.reduceLT, Nat.lt_add_one, Nat.zero_lt_succ, decide_true, decide_false, ne_eq, reduceCtorEq, wsh, hB3.hb]
    refine clones_p (fun x hx => ih x hx (f3 x hx)) hB3.itemsAt (by omega) fun sv' w4 hx4 hL hg4 => ?_
    obtain ⟨L, hL1, hL2⟩ := hL
    have hB4 := hB3.ext hx4
    have hb4 := hx4.at hb3 id
    have s1 := hx.size
    have hak := at_lt hB.hb
    have one1 : one1 sv' = true ∧ one1 kv' = true := by
      obtain ⟨p, c, rfl, _⟩ := hL1.shape
      obtain ⟨p', c', rfl, _⟩ := hk3.shape
      exact ⟨rfl, rfl⟩
    refine st_at hB4.hb one1.2 (by simp) fun w5 hz5 ha5 hc5 => ?_
    have ha5 : w5.heap[a]? = some (.cells [i64 v.k, .bool v.b, str v.t, sv, kv'].toArray VT (0, 0)) := by rw [ha5]; simp
    refine st_at ha5 one1.1 (by simp) fun w6 hz6 ha6 hc6 => ?_
    have ha6 : w6.heap[a]? = some (.cells [i64 v.k, .bool v.b, str v.t, sv', kv'].toArray VT (0, 0)) := by rw [ha6]; simp
    refine ld_all ha6 rfl ?_
    have hb6 := hc6.at (hc5.at hb4 (by omega)) (by omega)
    refine ret_agg hb6 rfl rfl (obj_one one1.1 one1.2) fun w7 hc7 => ?_
    have hx1 : Ext w w4 := hx.trans (hx2.trans (hxd.trans (hx3.trans hx4)))
    have hx5 : Ext w w7 := ((hx1.new hc5 (by omega)).new hc6 (by omega)).new hc7 (by omega)
    have hch : Chg (fun k => k = a ∨ k = b) w4 w7 := ((hc5.mono fun k _ e => .inl e).trans (hc6.mono fun k _ e => .inl e)).trans (hc7.mono fun k _ e => .inr e)
    refine hK _ w7 hx5 (VRepP.mk (T1 := VT) (T2 := ST) (L := L) ?_ ?_ ?_ hB.fits (fun _ k hk => ?_) (fun _ k hk => ?_))
    · exact slat_chgG hL1 (fun _ => hg4) hch fun k hk _ e => by have : w3.heap.size ≤ k := hk; omega
    · refine VRepsP.mono (fun k _ hk => ?_) (VRepsP.chg (G := From w3.heap.size) hch (fun k hk _ e => by have : w3.heap.size ≤ k := hk; omega) hL2)
      have : w3.heap.size ≤ k := hk
      show w.heap.size ≤ k
      omega
    · exact slat_chgG (hk3.ext hx4) (fun _ => hg3) hch fun k hk _ e => by have : w2.drew.heap.size ≤ k := hk; omega
    · have : w3.heap.size ≤ k := hg4 k hk
      show w.heap.size ≤ k
      omega
    · have : w2.drew.heap.size ≤ k := hg3 k hk
      show w.heap.size ≤ k
      omega
theorem search_p {kv : Value} {T : TypeId} {ks : List Str} {k : Str} {w : World} {K : Value → World → Prop} (h : SlAt w T kv ks.length (ks.map str)) (hl : ks.length ≤ 100000) (hr : Rise ks)
    (hK : ∀ i : Nat, (idxK ks k = none ∨ idxK ks k = some i) → (∀ j a, j < i → ks[j]? = some a → Op.bytesLess a k = true) → (∀ j a, i ≤ j → ks[j]? = some a → Op.bytesLess a k = false) → i ≤ ks.length → K (.tuple #[i64 (i : Nat), .bool (idxK ks k).isSome]) w) :
    callF Tryz.prog 188 [kv, str k] w K := by
  refine W188_ok ?_
  unfold W188
  rw [lenl_at h]
  refine ⟨fun s w' => ∃ lo hi : Nat, lo ≤ hi ∧ hi ≤ ks.length ∧ s = [i64 (lo : Nat), i64 (hi : Nat)] ∧ w' = w ∧ (∀ j a, j < lo → ks[j]? = some a → Op.bytesLess a k = true) ∧ (∀ j a, hi ≤ j → ks[j]? = some a → Op.bytesLess a k = false),
    fun s _ => match s with | [.int _ lo, .int _ hi] => hi.toNat - lo.toNat | _ => 0, ⟨0, ks.length, by omega, by omega, rfl, rfl, fun j a h => by omega, fun j a hj ha => by have := (List.getElem?_eq_some_iff.1 ha).1; omega⟩, ?_⟩
  rintro s g w2 ⟨lo, hi, hle, hhi, rfl, rfl, h1, h2⟩
  rcases Nat.lt_or_ge lo hi with hlt | hge
  · have hltI : (lo : Int) < (hi : Int) := by omega
    have e1 : IntKind.i64.wrap ((lo : Int) + (hi : Int)) = ((lo + hi : Nat) : Int) := by rw [wrap_id (by omega) (by omega)]; omega
    have e2 : IntKind.u64.wrap ((lo + hi : Nat) : Int) = ((lo + hi : Nat) : Int) := u64_wrap (by omega) (by omega)
    have e3 : (((lo + hi : Nat) : Int).fdiv (2 ^ min (1 : Int).toNat IntKind.u64.bits)) = (((lo + hi) / 2 : Nat) : Int) := by
      have : (2 : Int) ^ min (1 : Int).toNat IntKind.u64.bits = 2 := by decide
      rw [this, Int.fdiv_eq_ediv_of_nonneg _ (by omega)]; omega
    have e4 : IntKind.i64.wrap (((lo + hi) / 2 : Nat) : Int) = (((lo + hi) / 2 : Nat) : Int) := wrap_id (by omega) (by omega)
    generalize hm : (lo + hi) / 2 = m at *
    obtain ⟨u, hu⟩ : ∃ u, ks[m]? = some u := ⟨_, List.getElem?_eq_getElem (by omega)⟩
    have h01 : (0 : Int) ≤ 1 := by decide
    simp only [wsv, wsg, wsh, wsl, cond_true, cond_false, exists_eq_left', Option.some.injEq, Option.isSome_some, List.getElem?_toArray, List.getElem?_cons_zero, List.getElem?_cons_succ, List.length_cons, List.length_nil, List.set_cons_zero, List.set_cons_succ, List.getD_cons_zero, List.getD_cons_succ, Nat.zero_add, Nat.add_zero, Nat.reduceAdd, Nat.reduceLT, Nat.lt_add_one, Nat.zero_lt_succ, decide_true, decide_false, ne_eq, reduceCtorEq, hltI, e1, e2, bin_shr, h01, e3, e4]
    refine text_ld h hu ?_
    refine cmp_less ?_
    rw [condW_b]
    refine ⟨fun hl => ?_, fun hn => ?_⟩
    · rw [up1 (by omega)]
      refine ⟨⟨m + 1, hi, by omega, hhi, rfl, rfl, fun j a hj ha => ?_, h2⟩, by simp only [Int.toNat_natCast]; omega⟩
      rcases Nat.lt_or_ge j m with hj2 | hj2
      · exact less_trans (rise_lt hr ha hu hj2) hl
      · obtain rfl : j = m := by omega
        rw [hu] at ha; cases ha; exact hl
    · refine ⟨⟨lo, m, by omega, by omega, rfl, rfl, h1, fun j a hj ha => ?_⟩, by simp only [Int.toNat_natCast]; omega⟩
      rcases Nat.lt_or_ge m j with hj2 | hj2
      · cases hb : Op.bytesLess a k with
        | false => rfl
        | true => have := less_trans (rise_lt hr hu ha hj2) hb; rw [hn] at this; cases this
      · obtain rfl : j = m := by omega
        rw [hu] at ha; cases ha; exact hn
  · obtain rfl : lo = hi := by omega
    have hi0 : idxK ks k = none ∨ idxK ks k = some lo := by
      cases hx : idxK ks k with
      | none => exact .inl rfl
      | some j =>
        right
        have hj := idxK_spec hx
        rcases Nat.lt_trichotomy j lo with h | h | h
        · have := h1 j k h hj; rw [less_irr] at this; cases this
        · rw [h]
        · obtain ⟨u, hu⟩ : ∃ u, ks[lo]? = some u := ⟨_, List.getElem?_eq_getElem (by have := (List.getElem?_eq_some_iff.1 hj).1; omega)⟩
          have a1 := h2 lo u (Nat.le_refl _) hu
          have a2 := rise_lt hr hu hj h
          rw [a1] at a2; cases a2
    have hK := hK lo hi0 h1 h2 hhi
    simp only [wsv, wsg, wsh, wsl, cond_true, cond_false, exists_eq_left', Option.some.injEq, Option.isSome_some, List.getElem?_toArray, List.getElem?_cons_zero, List.getElem?_cons_succ, List.length_cons, List.length_nil, List.set_cons_zero, List.set_cons_succ, List.getD_cons_zero, List.getD_cons_succ, Nat.zero_add, Nat.add_zero, Nat.reduceAdd, Nat.reduceLT, Nat.lt_add_one, Nat.zero_lt_succ, decide_true, decide_false, ne_eq, reduceCtorEq, Int.lt_irrefl]
    rcases Nat.lt_or_ge lo ks.length with hlt | hge2
    · obtain ⟨u, hu⟩ : ∃ u, ks[lo]? = some u := ⟨_, List.getElem?_eq_getElem hlt⟩
      have ed : decide ((lo : Int) < (ks.length : Int)) = true := decide_eq_true (by omega)
      have hsome : (idxK ks k).isSome = decide (u = k) := by
        by_cases e : u = k
        · subst e
          have hm : u ∈ ks := List.mem_of_getElem? hu
          rw [decide_eq_true rfl]
          cases hx : idxK ks u with
          | none => exact absurd hm (idxK_none.1 hx)
          | some _ => rfl
        · rw [decide_eq_false e]
          rcases hi0 with h | h
          · rw [h]; rfl
          · have := idxK_spec h; rw [hu] at this; exact absurd (Option.some.inj this) e
      rw [hsome] at hK
      simp only [wsv, wsg, wsh, wsl, cond_true, cond_false, exists_eq_left', Option.some.injEq, Option.isSome_some, List.getElem?_toArray, List.getElem?_cons_zero, List.getElem?_cons_succ, List.length_cons, List.length_nil, List.set_cons_zero, List.set_cons_succ, List.getD_cons_zero, List.getD_cons_succ, Nat.zero_add, Nat.add_zero, Nat.reduceAdd, Nat.reduceLT, Nat.lt_add_one, Nat.zero_lt_succ, decide_true, decide_false, ne_eq, reduceCtorEq, ed]
      refine GdW.t ?_
      refine text_ld h hu ?_
      intro gg
      simp only [ofL_data]
      simp only [wsv, wsg, wsh, wsl, cond_true, cond_false, exists_eq_left', Option.some.injEq, Option.isSome_some, List.getElem?_toArray, List.getElem?_cons_zero, List.getElem?_cons_succ, List.length_cons, List.length_nil, List.set_cons_zero, List.set_cons_succ, List.getD_cons_zero, List.getD_cons_succ, Nat.zero_add, Nat.add_zero, Nat.reduceAdd, Nat.reduceLT, Nat.lt_add_one, Nat.zero_lt_succ, decide_true, decide_false, ne_eq, reduceCtorEq]
      by_cases e : u = k
      · rw [decide_eq_true e] at hK ⊢
        (try simp only [wsv, wsg, wsh, wsl, cond_true, cond_false, exists_eq_left', Option.some.injEq, Option.isSome_some, List.getElem?_toArray, List.getElem?_cons_zero, List.getElem?_cons_succ, List.length_cons, List.length_nil, List.set_cons_zero, List.set_cons_succ, List.getD_cons_zero, List.getD_cons_succ, Nat.zero_add, Nat.add_zero, Nat.reduceAdd, Nat.reduceLT, Nat.lt_add_one, Nat.zero_lt_succ, decide_true, decide_false, ne_eq, reduceCtorEq])
        intros
        exact hK
      · rw [decide_eq_false e] at hK ⊢
        (try simp only [wsv, wsg, wsh, wsl, cond_true, cond_false, exists_eq_left', Option.some.injEq, Option.isSome_some, List.getElem?_toArray, List.getElem?_cons_zero, List.getElem?_cons_succ, List.length_cons, List.length_nil, List.set_cons_zero, List.set_cons_succ, List.getD_cons_zero, List.getD_cons_succ, Nat.zero_add, Nat.add_zero, Nat.reduceAdd, Nat.reduceLT, Nat.lt_add_one, Nat.zero_lt_succ, decide_true, decide_false, ne_eq, reduceCtorEq])
        refine GdW.t ?_
        refine text_ld h hu ?_
        refine isnan_s2 ?_
        intro gg
        (try simp only [wsv, wsg, wsh, wsl, cond_true, cond_false, exists_eq_left', Option.some.injEq, Option.isSome_some, List.getElem?_toArray, List.getElem?_cons_zero, List.getElem?_cons_succ, List.length_cons, List.length_nil, List.set_cons_zero, List.set_cons_succ, List.getD_cons_zero, List.getD_cons_succ, Nat.zero_add, Nat.add_zero, Nat.reduceAdd, Nat.reduceLT, Nat.lt_add_one, Nat.zero_lt_succ, decide_true, decide_false, ne_eq, reduceCtorEq])
        intros
        exact hK
    · have hsome : idxK ks k = none := by
        rcases hi0 with h | h
        · exact h
        · have := (List.getElem?_eq_some_iff.1 (idxK_spec h)).1; omega
      rw [hsome] at hK
      have ed : decide ((lo : Int) < (ks.length : Int)) = false := decide_eq_false (by omega)
      simp only [wsv, wsg, wsh, wsl, cond_true, cond_false, exists_eq_left', Option.some.injEq, Option.isSome_some, List.getElem?_toArray, List.getElem?_cons_zero, List.getElem?_cons_succ, List.length_cons, List.length_nil, List.set_cons_zero, List.set_cons_succ, List.getD_cons_zero, List.getD_cons_succ, Nat.zero_add, Nat.add_zero, Nat.reduceAdd, Nat.reduceLT, Nat.lt_add_one, Nat.zero_lt_succ, decide_true, decide_false, ne_eq, reduceCtorEq, ed]
      intros
      exact hK
end
end Go.Proofs.YtcnjpcadejcenaaGreatDoor
namespace Go.Proofs.YtcnjpcadejcenaaGreatDoor
open Go Go.Eng Go.RowKit
set_option maxRecDepth 100000
theorem utfM_of {s : Str} (h : utfM s = true) : Utf s := (utf_iff s).1 h
def partL (xs : List JV) (i : Nat) : Str := (if i = 0 then [] else [44]) ++ (match xs[i]? with | some x => showM x | none => [])
def partO (xs : List JV) (ks : List Str) (i : Nat) : Str := (if i = 0 then [] else [44]) ++ quoteM (ks.getD i []) ++ [58] ++ (match xs[i]? with | some x => showM x | none => [])
def sumL (f : Nat → Str) : Nat → Str
  | 0 => []
  | n + 1 => sumL f n ++ f n
theorem joinM_cons {x : Str} {xs : List Str} (h : xs ≠ []) : joinM (x :: xs) = x ++ [44] ++ joinM xs := by
  cases xs with
  | nil => exact absurd rfl h
  | cons y r => rfl
theorem joinM_snoc : ∀ (xs : List Str) (x : Str), joinM (xs ++ [x]) = if xs = [] then x else joinM xs ++ [44] ++ x
  | [], x => rfl
  | [y], x => by simp [joinM]
  | y :: z :: r, x => by
    have := joinM_snoc (z :: r) x
    rw [List.cons_append, joinM_cons (by simp), this, if_neg (by simp), if_neg (by simp), joinM_cons (x := y) (xs := z :: r) (by simp)]
    simp [List.append_assoc]
theorem sum_join (f : Nat → Str) (g : List Str) (hf : ∀ i x, g[i]? = some x → f i = (if i = 0 then [] else [44]) ++ x) : ∀ n, n ≤ g.length → sumL f n = joinM (g.take n) := by
  intro n
  induction n with
  | zero => intro _; rfl
  | succ n ih =>
    intro h
    have hn : n < g.length := by omega
    rw [sumL, ih (by omega), hf n g[n] (List.getElem?_eq_getElem hn), List.take_add_one, List.getElem?_eq_getElem hn, Option.toList_some, joinM_snoc]
    cases n with
    | zero => simp [joinM]
    | succ n =>
      rw [if_neg (by omega), if_neg (by
        intro e
        have := congrArg List.length e
        rw [List.length_take, List.length_nil] at this
        omega), List.append_assoc]
theorem showL_get : ∀ (xs : List JV) (i : Nat), (showL xs)[i]? = (xs[i]?).map showM
  | [], i => by simp [showL]
  | x :: xs, 0 => by simp [showL]
  | x :: xs, i + 1 => by simp only [showL, List.getElem?_cons_succ]; exact showL_get xs i
theorem showL_len : ∀ (xs : List JV), (showL xs).length = xs.length
  | [] => rfl
  | x :: xs => by simp only [showL, List.length_cons]; rw [showL_len xs]
theorem list_join (xs : List JV) : sumL (partL xs) xs.length = joinM (showL xs) := by
  rw [sum_join (partL xs) (showL xs) (fun i x h => by
    rw [showL_get] at h
    unfold partL
    cases hx : xs[i]? with
    | none => rw [hx] at h; cases h
    | some y => rw [hx] at h; cases h; rfl) xs.length (by rw [showL_len]; exact Nat.le_refl _), ← showL_len, List.take_length]
theorem obj_join {xs : List JV} {ks : List Str} (hl : ks.length = xs.length) : sumL (partO xs ks) xs.length = joinM (List.zipWith (fun a b => quoteM a ++ [58] ++ b) ks (showL xs)) := by
  have hz : (List.zipWith (fun a b => quoteM a ++ [58] ++ b) ks (showL xs)).length = xs.length := by rw [List.length_zipWith, showL_len]; omega
  rw [sum_join (partO xs ks) (List.zipWith (fun a b => quoteM a ++ [58] ++ b) ks (showL xs)) (fun i x h => by
    rw [List.getElem?_zipWith] at h
    unfold partO
    cases hx : xs[i]? with
    | none =>
      rw [showL_get, hx] at h
      cases hk : ks[i]? with
      | none => rw [hk] at h; cases h
      | some k => rw [hk] at h; cases h
    | some y =>
      cases hk : ks[i]? with
      | none =>
        have := List.getElem?_eq_none_iff.1 hk
        have := (List.getElem?_eq_some_iff.1 hx).1
        omega
      | some k =>
        rw [showL_get, hx, hk] at h
        cases h
        rw [List.getD_eq_getElem?_getD, hk]
        simp [List.append_assoc]) xs.length (by rw [hz]; exact Nat.le_refl _), ← hz, List.take_length]
section
variable [HX]
theorem quote_len (s : Str) : (quoteM s).length ≤ 6 * s.length + 2 := by
  unfold quoteM
  simp only [List.length_append, List.length_cons, List.length_nil]
  have := flat_len s
  omega
def cntAt (xs : List JV) (i : Nat) : Nat := match xs[i]? with | some x => cntM x | none => 0
def cntS (xs : List JV) : Nat → Nat
  | 0 => 0
  | n + 1 => cntS xs n + cntAt xs n
theorem cntAt_get {xs : List JV} {i : Nat} {x : JV} (h : xs[i]? = some x) : cntAt xs i = cntM x := by unfold cntAt; rw [h]
theorem cntS_cons (x : JV) (xs : List JV) : ∀ n, cntS (x :: xs) (n + 1) = cntM x + cntS xs n
  | 0 => by simp [cntS, cntAt]
  | n + 1 => by
    rw [cntS, cntS_cons x xs n, cntS]
    have : cntAt (x :: xs) (n + 1) = cntAt xs n := by unfold cntAt; rw [List.getElem?_cons_succ]
    omega
theorem cntS_le : ∀ (xs : List JV) (n : Nat), n ≤ xs.length → cntS xs n ≤ cntL xs
  | xs, 0, _ => Nat.zero_le _
  | [], n + 1, h => by simp at h
  | x :: xs, n + 1, h => by
    have ih := cntS_le xs n (by simpa using h)
    rw [cntS_cons]
    simp only [cntL]
    omega
theorem sum_len {f : Nat → Str} {xs : List JV} : ∀ n, (∀ i, i < n → (f i).length ≤ 200000 * cntAt xs i) → (sumL f n).length ≤ 200000 * cntS xs n := by
  intro n
  induction n with
  | zero => intro _; simp [sumL]
  | succ n ih =>
    intro h
    have ih := ih fun i hi => h i (by omega)
    rw [sumL, List.length_append, cntS]
    have := h n (by omega)
    omega
theorem show_len (v : JV) : plainM v = true → (showM v).length + 100000 ≤ 200000 * cntM v := by
  induction v using JV.ind with
  | h k b t xs ks ih =>
    intro hp
    rw [plainM_eq, Bool.and_eq_true] at hp
    obtain ⟨hp1, hp2⟩ := hp
    have hh := headOk_out hp1
    simp only [JV.k, JV.b, JV.t, JV.xs, JV.ks] at hh hp2
    rw [plainL_all, List.all_eq_true] at hp2
    have hi : ∀ x ∈ xs, (showM x).length + 100000 ≤ 200000 * cntM x := fun x hx => ih x hx (hp2 x hx)
    simp only [cntM]
    rw [showM_eq]
    have hcg := cntS_le xs xs.length (Nat.le_refl _)
    have sums : ∀ (f : Nat → Str) , (∀ i, i < xs.length → (f i).length ≤ 200000 * cntAt xs i) → (sumL f xs.length).length ≤ 200000 * cntL xs := fun f hf => by
      have h1 := sum_len (f := f) xs.length hf
      omega
    split
    · simp; omega
    split
    · cases b <;> simp <;> omega
    split
    · rename_i h3
      have hg := hh.2.2.2.2.2.2.1 h3
      obtain ⟨g1, g2, _, _⟩ := Num.goodN_out hg
      have : t.length ≤ (Num.dig t).length + 1 := by
        cases t with
        | nil => simp [Num.dig]
        | cons c d => unfold Num.dig; dsimp only; split <;> simp
      omega
    split
    · rename_i h4
      have hl := hh.2.2.2.2.2.2.2.1 h4
      have := quote_len t
      omega
    split
    · rename_i h6
      have hkl := hh.2.2.2.2.2.2.2.2.1 h6
      have hks := keysOk_len hh.2.2.2.2.2.2.2.2.2
      rw [← obj_join hkl]
      have := sums (partO xs ks) fun i hlt => by
        unfold partO
        rw [cntAt_get (List.getElem?_eq_getElem hlt), List.getElem?_eq_getElem hlt]
        have h1 := hi xs[i] (List.getElem_mem ..)
        have hk : ks[i]? = some (ks[i]'(by omega)) := List.getElem?_eq_getElem _
        have h2 := hks (ks[i]'(by omega)) (List.getElem_mem ..)
        have h3 := quote_len (ks[i]'(by omega))
        rw [List.getD_eq_getElem?_getD, hk, Option.getD_some]
        simp only [List.length_append, List.length_cons, List.length_nil]
        split
        · rw [List.length_nil]; omega
        · rw [List.length_cons, List.length_nil]; omega
      simp only [List.length_append, List.length_cons, List.length_nil]
      omega
    · rw [← list_join]
      have := sums (partL xs) fun i hlt => by
        unfold partL
        rw [cntAt_get (List.getElem?_eq_getElem hlt), List.getElem?_eq_getElem hlt]
        have h1 := hi xs[i] (List.getElem_mem ..)
        simp only [List.length_append]
        split
        · rw [List.length_nil]; omega
        · rw [List.length_cons, List.length_nil]; omega
      simp only [List.length_append, List.length_cons, List.length_nil]
      omega
end
end Go.Proofs.YtcnjpcadejcenaaGreatDoor
