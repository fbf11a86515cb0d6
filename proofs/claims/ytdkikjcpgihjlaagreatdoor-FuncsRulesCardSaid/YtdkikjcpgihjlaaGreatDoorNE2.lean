/- One plain sentence: weakest preconditions, contracts and plain laws that the claim rests on, text behind text. Conditions: those that each states. -/
import Derived.Test.YtdkikjcpgihjlaaGreatDoorNE1
import Derived.Shelf.Strings.BuilderF
import Derived.Shelf.Strings.BuilderK
import Derived.Shelf.Strconv.AtoiInnerAll
import Derived.Shelf.Strconv.ParseUint10
import Derived.Shelf.Slices.ReverseS
import Derived.Shelf.Sort.Plain
import Derived.Shelf.Strconv.Itoa3
import Derived.Shelf.Pu.ParseUintPublic10
import Derived.Shelf.Strconv.ToErrorRange
import Derived.Shelf.Strconv.ToError
import Derived.Shelf.Small.Strs
import Derived.Shelf.Strings.Count
import Derived.Shelf.Small.Wraps
import Derived.Shelf.Strings.OnBuilder
import Derived.Shelf.Strings.Repeat
import Derived.Shelf.Strings.Split
import Derived.Shelf.Strings.Prefix
import Derived.Shelf.Strings.Search1
import Derived.Shelf.Strings.BuilderX
import Derived.Shelf.Lays
import Derived.Shelf.Lays2
import Derived.Shelf.LaysC
import Derived.Shelf.LaysM
import Derived.Shelf.Pu.Lays
import Derived.Ground.MpProg
import Derived.Ground.Names2Prog
import Derived.Ground.SlgnProg
import Derived.Test.YtdkikjcpgihjlaaGreatDoorProg
import Derived.Lib.ConvBytes
import Derived.Lib.ParseIntBCases
set_option linter.all false
set_option linter.unusedSimpArgs false
set_option linter.unusedVariables false
set_option linter.unusedSectionVars false
namespace Go.Proofs.YtdkikjcpgihjlaaGreatDoor
open Go Go.Eng Go.Num
set_option maxRecDepth 100000
section
variable [HX]
theorem isDig_out (c : UInt8) : (decide (((c.toNat : Nat) : Int) < 48) || decide ((57 : Int) < ((c.toNat : Nat) : Int))) = !Num.isDig c := by
  unfold Num.isDig
  rcases Nat.lt_or_ge c.toNat 48 with h | h
  · rw [decide_eq_true (by omega), decide_eq_false (show ¬ 48 ≤ c.toNat by omega)]; rfl
  · rw [decide_eq_false (show ¬ ((c.toNat : Nat) : Int) < 48 by omega), decide_eq_true (show 48 ≤ c.toNat by omega)]
    rcases Nat.lt_or_ge 57 c.toNat with h2 | h2
    · rw [decide_eq_true (by omega), decide_eq_false (show ¬ c.toNat ≤ 57 by omega)]; rfl
    · rw [decide_eq_false (by omega), decide_eq_true (show c.toNat ≤ 57 by omega)]; rfl
theorem u8_is (c : UInt8) (m : Int) (d : UInt8) (hm : m = (d.toNat : Nat)) : decide (((c.toNat : Nat) : Int) = m) = (c == d) := by
  rw [Bool.eq_iff_iff, decide_eq_true_eq, beq_iff_eq, hm]
  constructor
  · intro h; exact UInt8.toNat_inj.1 (by omega)
  · intro h; rw [h]
theorem keysOk_two {ks : List Str} {i : Nat} {a b : Str} (ha : ks[i]? = some a) (hb : ks[i + 1]? = some b) (h : Op.bytesLess a b = false) : keysOk ks = false := by
  induction ks generalizing i with
  | nil => simp at ha
  | cons x r ih =>
    cases r with
    | nil => simp at hb
    | cons y r =>
      cases i with
      | zero => simp only [List.getElem?_cons_zero, Option.some.injEq, Nat.zero_add, List.getElem?_cons_succ] at ha hb; subst ha hb; simp [keysOk, h]
      | succ i =>
        simp only [List.getElem?_cons_succ] at ha hb
        rw [keysOk, ih (by simpa using ha) (by simpa using hb)]; simp
theorem keysOk_long {ks : List Str} {i : Nat} {a : Str} (ha : ks[i]? = some a) (h : 16384 < a.length) : keysOk ks = false := by
  induction ks generalizing i with
  | nil => simp at ha
  | cons x r ih =>
    cases i with
    | zero =>
      simp only [List.getElem?_cons_zero, Option.some.injEq] at ha
      subst ha
      cases r with
      | nil => simp only [keysOk, decide_eq_false_iff_not]; omega
      | cons y r => rw [keysOk, decide_eq_false (by omega)]; rfl
    | succ i =>
      simp only [List.getElem?_cons_succ] at ha
      cases r with
      | nil => simp at ha
      | cons y r => rw [keysOk, ih ha]; simp
theorem keysOk_mk {ks : List Str} (h1 : ∀ (i : Nat) (a : Str), ks[i]? = some a → a.length ≤ 16384) (h2 : ∀ (i : Nat) (a b : Str), ks[i]? = some a → ks[i + 1]? = some b → Op.bytesLess a b = true) : keysOk ks = true := by
  induction ks with
  | nil => rfl
  | cons x r ih =>
    have := ih (fun i a h => h1 (i + 1) a (by rw [List.getElem?_cons_succ]; exact h)) (fun i a b ha hb => h2 (i + 1) a b (by rw [List.getElem?_cons_succ]; exact ha) (by rw [List.getElem?_cons_succ]; exact hb))
    cases r with
    | nil => simp only [keysOk, decide_eq_true_eq]; exact h1 0 x rfl
    | cons y r => rw [keysOk, this, h2 0 x y rfl rfl, decide_eq_true (h1 0 x rfl)]; rfl
theorem same_ref (a : JV) : ∀ {b : JV} {cs ds : List Value} {w : World} {K : Value → World → Prop}, VRep w a cs → VRep w b ds → (∀ w', Ext w w' → K (.bool (sameM a b)) w') → callF Tryz.prog 13 [.agg cs.toArray, .agg ds.toArray] w K := by
  induction a using JV.ind' with
  | h v ih =>
    intro b cs ds w K h h' hK
    refine W13_ok ?_
    unfold W13
    refine box_val h fun x w1 sv kv hB hx _ => ?_
    refine box_val (h'.ext hx) fun y w2 sv' kv' hC hx2 _ => ?_
    have hB := hB.ext hx2
    have hx := hx.trans hx2
    clear hx2
    rw [sameM_eq] at hK
    simp only [wsv, wsg, wsh, wsl, cond_true, cond_false, exists_eq_left', Option.some.injEq, Option.isSome_some, List.getElem?_toArray, List.getElem?_cons_zero, List.getElem?_cons_succ, List.length_cons, List.length_nil, List.set_cons_zero, List.set_cons_succ, List.getD_cons_zero, List.getD_cons_succ, Nat.zero_add, Nat.add_zero, Nat.reduceAdd, Nat.reduceLT, Nat.lt_add_one, Nat.zero_lt_succ, decide_true, decide_false, ne_eq, reduceCtorEq, wsh, hB.hb, hC.hb, eq_bb, ne_bb]
    intros
    refine GdW.act (!decide (v.ks = b.ks)) (fun w' => Ext w2 w') (fun _ => Chg.refl _ _) ?_ ?_
    · intro hc J hJ
      obtain ⟨T1, k1⟩ := hB.keys
      obtain ⟨T2, k2⟩ := hC.keys
      refine texts_ref k1 k2 hB.fits.2.1 fun w3 hx3 => ?_
      simp only [wsv, wsg, wsh, wsl, cond_true, cond_false, exists_eq_left', Option.some.injEq, Option.isSome_some, List.getElem?_toArray, List.getElem?_cons_zero, List.getElem?_cons_succ, List.length_cons, List.length_nil, List.set_cons_zero, List.set_cons_succ, List.getD_cons_zero, List.getD_cons_succ, Nat.zero_add, Nat.add_zero, Nat.reduceAdd, Nat.reduceLT, Nat.lt_add_one, Nat.zero_lt_succ, decide_true, decide_false, ne_eq, reduceCtorEq]
      exact hJ w3 hx3
    intro g w3 hx3
    have hB := hB.ext hx3
    have hC := hC.ext hx3
    have hx := hx.trans hx3
    clear hx3
    simp only [wsv, wsg, wsh, wsl, cond_true, cond_false, exists_eq_left', Option.some.injEq, Option.isSome_some, List.getElem?_toArray, List.getElem?_cons_zero, List.getElem?_cons_succ, List.length_cons, List.length_nil, List.set_cons_zero, List.set_cons_succ, List.getD_cons_zero, List.getD_cons_succ, Nat.zero_add, Nat.add_zero, Nat.reduceAdd, Nat.reduceLT, Nat.lt_add_one, Nat.zero_lt_succ, decide_true, decide_false, ne_eq, reduceCtorEq, wsh, hB.hb, hC.hb, hB.lenx, hC.lenx]
    intros
    have e1 : (!v.b == b.b) = !decide (v.b = b.b) := by cases v.b <;> cases b.b <;> rfl
    have e2 : decide (¬ (v.xs.length : Int) = (b.xs.length : Int)) = !decide (v.xs.length = b.xs.length) := by rw [← decide_not]; exact decide_eq_decide.2 (by omega)
    rw [e2]
    simp only [decide_not]
    have hsl : v.xs.length ≠ b.xs.length → sameL v.xs b.xs = false := sameL_len
    by_cases hl : v.xs.length = b.xs.length
    · rw [decide_eq_true hl, condW_b]
      refine ⟨fun hne => ?_, fun heq => ?_⟩
      · have := hK w3 hx
        have e : (decide (v.k = b.k) && decide (v.b = b.b) && decide (v.t = b.t) && decide (v.ks = b.ks) && sameL v.xs b.xs) = false := by
          have e1 : (v.b == b.b) = decide (v.b = b.b) := by cases v.b <;> cases b.b <;> rfl
          rw [e1] at hne
          revert hne
          cases decide (v.k = b.k) <;> cases decide (v.b = b.b) <;> cases decide (v.t = b.t) <;> cases decide (v.ks = b.ks) <;> simp
        rw [e] at this
        exact this
      · have e : (decide (v.k = b.k) && decide (v.b = b.b) && decide (v.t = b.t) && decide (v.ks = b.ks)) = true := by
          have e1 : (v.b == b.b) = decide (v.b = b.b) := by cases v.b <;> cases b.b <;> rfl
          rw [e1] at heq
          revert heq
          cases decide (v.k = b.k) <;> cases decide (v.b = b.b) <;> cases decide (v.t = b.t) <;> cases decide (v.ks = b.ks) <;> simp
        rw [e] at hK
        refine loop_up v.xs.length (fun i w' => Ext w3 w' ∧ v.xs.take i = b.xs.take i) ⟨Chg.refl _ _, rfl⟩ ?_ ?_
        · rintro i w4 g L hi ⟨hx4, hall⟩ hL
          have hxd : Ext w3 w4.drew := hx4.trans (Chg.drew (Chg.refl (fun _ => False) w4))
          have hB4 := hB.ext hx4
          have hC4 := hC.ext hx4
          have hB := hB.ext hxd
          have hC := hC.ext hxd
          obtain ⟨p, hp⟩ : ∃ p, v.xs[i]? = some p := ⟨_, List.getElem?_eq_getElem hi⟩
          obtain ⟨q, hq⟩ : ∃ q, b.xs[i]? = some q := ⟨_, List.getElem?_eq_getElem (by omega)⟩
          have hlt : ((i : Int) < (v.xs.length : Int)) := by omega
          simp only [wsv, wsg, wsh, wsl, cond_true, cond_false, exists_eq_left', Option.some.injEq, Option.isSome_some, List.getElem?_toArray, List.getElem?_cons_zero, List.getElem?_cons_succ, List.length_cons, List.length_nil, List.set_cons_zero, List.set_cons_succ, List.getD_cons_zero, List.getD_cons_succ, Nat.zero_add, Nat.add_zero, Nat.reduceAdd, Nat.reduceLT, Nat.lt_add_one, Nat.zero_lt_succ, decide_true, decide_false, ne_eq, reduceCtorEq, wsh, hB4.hb, hC4.hb, hlt]
          refine hB.item hp fun cs1 h1 => ?_
          refine hC.item hq fun cs2 h2 => ?_
          refine ih p (List.mem_of_getElem? hp) h1 h2 fun w5 hx5 => ?_
          simp only [wsv, wsg, wsh, wsl, cond_true, cond_false, exists_eq_left', Option.some.injEq, Option.isSome_some, List.getElem?_toArray, List.getElem?_cons_zero, List.getElem?_cons_succ, List.length_cons, List.length_nil, List.set_cons_zero, List.set_cons_succ, List.getD_cons_zero, List.getD_cons_succ, Nat.zero_add, Nat.add_zero, Nat.reduceAdd, Nat.reduceLT, Nat.lt_add_one, Nat.zero_lt_succ, decide_true, decide_false, ne_eq, reduceCtorEq, condW_b]
          refine ⟨fun hf => ?_, fun ht => ?_⟩
          · have hf : sameM p q = false := by simpa using hf
            have := hK w5 (hx.trans (hxd.trans hx5))
            rw [sameL_take hl hp hq hf] at this
            exact this
          · have ht : sameM p q = true := by simpa using ht
            have := (same_iff p q).1 ht
            subst this
            rw [up1 (by have := hB.fits.1; omega)]
            exact hL w5 ⟨hxd.trans hx5, take_eq hall hp hq⟩
        · rintro w4 g L ⟨hx4, hall⟩
          simp only [wsv, wsg, wsh, wsl, cond_true, cond_false, exists_eq_left', Option.some.injEq, Option.isSome_some, List.getElem?_toArray, List.getElem?_cons_zero, List.getElem?_cons_succ, List.length_cons, List.length_nil, List.set_cons_zero, List.set_cons_succ, List.getD_cons_zero, List.getD_cons_succ, Nat.zero_add, Nat.add_zero, Nat.reduceAdd, Nat.reduceLT, Nat.lt_add_one, Nat.zero_lt_succ, decide_true, decide_false, ne_eq, reduceCtorEq, Int.lt_irrefl]
          rw [List.take_length, hl, List.take_length] at hall
          have := hK w4 (hx.trans hx4)
          rw [(sameL_iff _ _).2 hall] at this
          exact this
    · rw [decide_eq_false hl, Bool.not_false, Bool.or_true, condW_true]
      have := hK w3 hx
      rw [hsl hl, Bool.and_false] at this
      exact this
end
end Go.Proofs.YtdkikjcpgihjlaaGreatDoor
namespace Go.Proofs.YtdkikjcpgihjlaaGreatDoor
open Go Go.Eng Go.Num
set_option maxRecDepth 100000
abbrev ST : TypeId := 9
theorem elem_s : ElemT Tryz.prog 26 ST 1 16 := ⟨by kernel_rfl, by kernel_rfl, by decide⟩
theorem elem_v : ElemT Tryz.prog 22 VT 5 80 := ⟨by kernel_rfl, by kernel_rfl, by decide⟩
abbrev ptr (b : Nat) : Value := .pointer (some ⟨b, 0, none⟩)
structure Grow (w0 w : World) (b base : Nat) (sv0 kv0 sv kv : Value) (xs : List JV) (ks : List Str) : Prop where
  ext : Ext w0 w
  hb : w.heap[b]? = some (.cells [i64 6, .bool false, str [], sv0, kv0].toArray VT (0, 0))
  low : w0.heap.size ≤ b
  lt : b < base
  le : base ≤ w.heap.size
  items : ∃ L, Own w base VT 5 sv xs.length L ∧ VReps w0 xs L
  keys : Own w base ST 1 kv ks.length (ks.map str)
theorem Grow.chg {w0 w w' : World} {b b' base : Nat} {sv0 kv0 sv kv : Value} {xs : List JV} {ks : List Str} (h : Grow w0 w b base sv0 kv0 sv kv xs ks) (hc : Chg (fun k => k = b') w w') (h1 : b' ≠ b) (h2 : b' < base) (h3 : w0.heap.size ≤ b') : Grow w0 w' b base sv0 kv0 sv kv xs ks :=
  ⟨h.ext.new hc h3, hc.at h.hb (fun e => h1 e.symm), h.low, h.lt, Nat.le_trans h.le hc.size, let ⟨L, g1, g2⟩ := h.items; ⟨L, g1.chg hc fun k hk e => by have := hk.1; omega, g2⟩, h.keys.chg hc fun k hk e => by have := hk.1; omega⟩
theorem own_ge {w : World} {base : Nat} {e : TypeId} {size : Nat} {v : Value} {n : Nat} {xs : List Value} (h : Own w base e size v n xs) {k : Nat} (hk : v.ownBlock = some k) : base ≤ k ∧ ∃ c, w.heap[k]? = some (.cells c e (0, 0)) := h.block k hk
theorem Grow.set {w0 w : World} {b base off : Nat} {sv0 kv0 sv kv v sv1 kv1 : Value} {xs : List JV} {ks : List Str} {K : World → Prop} (h : Grow w0 w b base sv0 kv0 sv kv xs ks) (h1 : one1 v = true) (ho : off < 5)
    (he : ([i64 6, .bool false, str [], sv0, kv0] : List Value).set off v = [i64 6, .bool false, str [], sv1, kv1]) (hK : ∀ w', Grow w0 w' b base sv1 kv1 sv kv xs ks → Chg (fun k => k = b) w w' → K w') : stW 1 (.pointer (some ⟨b, off, none⟩)) v w K := by
  refine st_at h.hb h1 (by simpa using ho) fun w' hz hb' hc => ?_
  refine hK w' ⟨h.ext.new hc h.low, ?_, h.low, h.lt, by rw [hz]; exact h.le, ?_, h.keys.chg hc fun k hk e => ?_⟩ hc
  · rw [hb', ← he]; simp
  · obtain ⟨L, h1, h2⟩ := h.items
    exact ⟨L, h1.chg hc fun k hk e => by have := hk.1; have := h.lt; omega, h2⟩
  · have := hk.1; have := h.lt; omega
theorem Grow.one {w0 w : World} {b base : Nat} {sv0 kv0 sv kv : Value} {xs : List JV} {ks : List Str} (h : Grow w0 w b base sv0 kv0 sv kv xs ks) : one1 sv = true ∧ one1 kv = true := by
  obtain ⟨L, h1, _⟩ := h.items
  obtain ⟨p, c, rfl, _⟩ := h1.sl.shape
  obtain ⟨p', c', rfl, _⟩ := h.keys.sl.shape
  exact ⟨rfl, rfl⟩
structure OwnV (w0 w : World) (base : Nat) (v : JV) (sv kv : Value) : Prop where
  items : ∃ L, Own w base VT 5 sv v.xs.length L ∧ VReps w0 v.xs L
  keys : Own w base ST 1 kv v.ks.length (v.ks.map str)
  fits : Fits v.xs.length v.ks v.t
theorem OwnV.chg {w0 w w' : World} {base : Nat} {v : JV} {sv kv : Value} {S : Nat → Prop} (h : OwnV w0 w base v sv kv) (hc : Chg S w w') (hS : ∀ k, base ≤ k → k < w.heap.size → ¬ S k) : OwnV w0 w' base v sv kv :=
  ⟨let ⟨L, h1, h2⟩ := h.items; ⟨L, h1.chg hc fun k hk => hS k hk.1 (by obtain ⟨_, c, hk⟩ := hk; exact at_lt hk), h2⟩, h.keys.chg hc fun k hk => hS k hk.1 (by obtain ⟨_, c, hk⟩ := hk; exact at_lt hk), h.fits⟩
theorem OwnV.one {w0 w : World} {base : Nat} {v : JV} {sv kv : Value} (h : OwnV w0 w base v sv kv) : one1 sv = true ∧ one1 kv = true := by
  obtain ⟨L, h1, _⟩ := h.items
  obtain ⟨p, c, rfl, _⟩ := h1.sl.shape
  obtain ⟨p', c', rfl, _⟩ := h.keys.sl.shape
  exact ⟨rfl, rfl⟩
theorem OwnV.val {w0 w : World} {base : Nat} {v : JV} {sv kv : Value} (h : OwnV w0 w base v sv kv) : VRepS w0 w v [i64 v.k, .bool v.b, str v.t, sv, kv] := by
  obtain ⟨L, h1, h2⟩ := h.items
  exact ⟨sv, kv, VT, ST, L, rfl, h1.sl, h2, h.keys.sl, h.fits⟩
theorem Grow.own {w0 w : World} {b base : Nat} {sv kv : Value} {l : List (Str × JV)} (h : Grow w0 w b base sv kv sv kv (l.map (·.2)) (l.map (·.1))) (hl : l.length ≤ 1000000) (hk : ∀ p ∈ l, p.1.length ≤ 9223372036854775807) : OwnV w0 w base (mkO l) sv kv := by
  refine ⟨h.items, h.keys, ?_, ?_, ?_, ?_⟩
  · simp only [mkO, JV.xs, List.length_map]; omega
  · simp only [mkO, JV.ks, List.length_map]; omega
  · simp [mkO, JV.t]
  · intro s hs
    simp only [mkO, JV.ks, List.mem_map] at hs
    obtain ⟨p, hp, rfl⟩ := hs
    exact hk p hp
theorem row_s {w : World} {x : Str} {K : Value → World → Prop} (hK : ∀ t w', SlAt w' ST t 1 [str x] → Ext w w' → K t w') : bslW ST 1 [.string (ofL [])] [(0, 1, str x)] w K := by
  unfold bslW
  simp only [wsv, wsg, wsh, wsl, cond_true, cond_false, exists_eq_left', Option.some.injEq, Option.isSome_some, List.getElem?_toArray, List.getElem?_cons_zero, List.getElem?_cons_succ, List.length_cons, List.length_nil, List.set_cons_zero, List.set_cons_succ, List.getD_cons_zero, List.getD_cons_succ, Nat.zero_add, Nat.add_zero, Nat.reduceAdd, Nat.reduceLT, Nat.lt_add_one, Nat.zero_lt_succ, decide_true, decide_false, ne_eq, reduceCtorEq]
  exact hK _ _ (own_new (w := w) (base := w.heap.size) (e := ST) (size := 1) (n := 1) (cs := [str x]) (Nat.le_refl _) rfl (by omega)).sl (by repeat (first | assumption | exact Chg.refl _ _ | refine Chg.drew ?_ | refine Chg.alloc ?_ _ | refine Chg.set ?_ (by first | exact .inl rfl | exact .inr (by omega) | exact .inr (by simp only [size_set, size_alloc, size_drew]; omega) | (left; simp; done)) _ | exact Chg.of_ext (by assumption)))
theorem row_v {w : World} {cs : List Value} {K : Value → World → Prop} (hc : cs.length = 5) (hK : ∀ t w', SlAt w' VT t 1 cs → Ext w w' → K t w') : bslW VT 1 [(.int .i64 0), (.bool false), (.string (ofL [])), (.slice none 0 0), (.slice none 0 0)] [(0, 5, .agg cs.toArray)] w K := by
  unfold bslW
  have hp : ∀ K : List Value → Prop, K cs → putW [(.int .i64 0), (.bool false), (.string (ofL [])), (.slice none 0 0), (.slice none 0 0)] [(0, 5, .agg cs.toArray)] K := by
    intro K hK
    refine ⟨by simp [Value.cells, hc], by simp, ?_⟩
    have : List.take 0 [(Value.int .i64 0), (.bool false), (.string (ofL [])), (.slice none 0 0), (.slice none 0 0)] ++ ((Value.agg cs.toArray).cells.toList ++ List.drop (0 + 5) [(Value.int .i64 0), (.bool false), (.string (ofL [])), (.slice none 0 0), (.slice none 0 0)]) = cs := by simp [Value.cells]
    rw [this]
    exact hK
  refine hp _ ?_
  exact hK _ _ (own_new (w := w) (base := w.heap.size) (e := VT) (size := 5) (n := 1) (cs := cs) (Nat.le_refl _) (by omega) (by omega)).sl (by repeat (first | assumption | exact Chg.refl _ _ | refine Chg.drew ?_ | refine Chg.alloc ?_ _ | refine Chg.set ?_ (by first | exact .inl rfl | exact .inr (by omega) | exact .inr (by simp only [size_set, size_alloc, size_drew]; omega) | (left; simp; done)) _ | exact Chg.of_ext (by assumption)))
theorem OwnV.item_old {w0 w : World} {base : Nat} {v : JV} {sv kv : Value} {k : IntKind} {i : Nat} {x : JV} {K : Value → Prop} (h : OwnV w0 w base v sv kv) (hi : v.xs[i]? = some x) (hK : ∀ cs, VRep w0 x cs → K (.agg cs.toArray)) : ixaW none 5 sv (.int k i) fun p => ldW true 5 p w K := by
  obtain ⟨L, h1, h2⟩ := h.items
  obtain ⟨cs, hc, hg⟩ := h2.get hi
  refine ixa_at (size := 5) h1.sl h2.len (by omega) (List.getElem?_eq_some_iff.1 hi).1 fun b o c fr hb hcc => ?_
  exact ld_cells hb hc.len (fun j hj => (hcc j hj).trans (hg j hj)) (hK cs hc)
end Go.Proofs.YtdkikjcpgihjlaaGreatDoor
namespace Go.Proofs.YtdkikjcpgihjlaaGreatDoor
open Go Go.Eng Go.Num
set_option maxRecDepth 100000
section
variable [HX]
theorem ValB.item_old {w0 w : World} {a : Nat} {v : JV} {sv kv : Value} {k : IntKind} {i : Nat} {x : JV} {K : Value → Prop} (h : ValB w0 a v sv kv) (hx : Ext w0 w) (hi : v.xs[i]? = some x) (hK : ∀ cs, VRep w0 x cs → K (.agg cs.toArray)) : ixaW none 5 sv (.int k i) fun p => ldW true 5 p w K := by
  obtain ⟨T, L, h1, h2⟩ := h.items
  obtain ⟨cs, hc, hg⟩ := h2.get hi
  refine ixa_at (size := 5) (h1.ext hx) h2.len (by omega) (List.getElem?_eq_some_iff.1 hi).1 fun b o c fr hb hcc => ?_
  exact ld_cells hb hc.len (fun j hj => (hcc j hj).trans (hg j hj)) (hK cs hc)
theorem obj_one {k : Int} {b : Bool} {t : Str} {sv kv : Value} (h1 : one1 sv = true) (h2 : one1 kv = true) : ([i64 k, .bool b, str t, sv, kv] : List Value).all one1 = true := by
  simp only [List.all_cons, List.all_nil, h1, h2, Bool.and_true]; rfl
theorem zip_get {ks : List Str} {xs : List JV} {i : Nat} {u : Str} {x : JV} (hu : ks[i]? = some u) (hx : xs[i]? = some x) : (ks.zip xs)[i]? = some (u, x) := by
  rw [List.getElem?_zip_eq_some]; exact ⟨hu, hx⟩
end
end Go.Proofs.YtdkikjcpgihjlaaGreatDoor

namespace Go.Proofs.YtdkikjcpgihjlaaGreatDoor
open Go Go.Eng Go.Num
set_option maxRecDepth 100000
section
variable [HX]
theorem copy_new {w : World} {v : JV} {cs : List Value} {K : Value → World → Prop} (h : VRep w v cs) (hK : ∀ a w' sv kv, ValB w' a v sv kv → Ext w w' → K (ptr a) w') :
    allocW VT [(.int .i64 0), (.bool false), (.string (ofL [])), (.slice none 0 0), (.slice none 0 0)] w fun t w1 => stW 5 t (.agg cs.toArray) w1 fun w2 => K t w2 := by
  obtain ⟨sv, kv, T1, T2, L, rfl, h1, h2, h3, h4⟩ := h.out
  refine alloc_new fun a w1 ha hz hb hx => ?_
  refine st_agg_at hb rfl rfl h.all_one fun w2 hz2 hb2 hc2 => ?_
  have hx' := hx.new hc2 (by omega)
  exact hK a w2 sv kv ⟨hb2, ⟨T1, L, h1.ext hx', h2.ext hx'⟩, ⟨T2, h3.ext hx'⟩, h4⟩ hx'
theorem any_take {α : Type} {p : α → Bool} {xs : List α} {i : Nat} {x : α} (hi : xs[i]? = some x) : (xs.take (i + 1)).any p = ((xs.take i).any p || p x) := by
  rw [List.take_add_one, hi]; simp
theorem any_yes {α : Type} {p : α → Bool} {xs : List α} {i : Nat} {x : α} (hi : xs[i]? = some x) (h : p x = true) : xs.any p = true := List.any_eq_true.2 ⟨x, List.mem_of_getElem? hi, h⟩
end
end Go.Proofs.YtdkikjcpgihjlaaGreatDoor
namespace Go.Proofs.YtdkikjcpgihjlaaGreatDoor
open Go Go.Eng
set_option maxRecDepth 100000
variable [HX]
def plan97 : Plan := { js := [(6004, ⟨[19], [], 17⟩)], ds := [] }
def W97 (v0 v1 : Value) (w : World) (K : Value → World → Prop) : Prop :=
  boxW 28 v0 w fun t2 w1 =>
  allocW 28 [(.int .i64 0), (.bool false), (.string (ofL [])), (.slice none 0 0), (.slice none 0 0)] w1 fun t4 w2 =>
  fldW 4 t2 fun t9 =>
  ldW false 1 t9 w2 fun t10 =>
  callF Tryz.prog 133 [t10, v1] w2 fun t12 w3 =>
  extW 0 t12 fun t13 =>
  extW 1 t12 fun t14 =>
  GdW (isB t14 true) [undef] w3 (fun J4 =>
    fldW 0 t2 fun t17 =>
    ldW false 1 t17 w3 fun t18 =>
    binW .eql t18 (.int .i64 6) fun t19 =>
    J4 [t19] w3)
  fun s4 _ w5 =>
  pickW t14 (s4.getD 0 undef) (.bool false) fun t20 =>
  condW t20 (
    fldW 3 t2 fun t21 =>
    ldW false 1 t21 w5 fun t22 =>
    ixaW none 5 t22 t13 fun t24 =>
    ldW true 5 t24 w5 fun t25 =>
    callF Tryz.prog 90 [t25] w5 fun t26 w6 =>
    stW 5 t4 t26 w6 fun w7 =>
    ldW true 5 t4 w7 fun r8 =>
    K (.tuple #[r8, (.bool true)]) w7) (
    putW [(.int .i64 0), (.bool false), (.string (ofL [])), (.slice none 0 0), (.slice none 0 0)] [] fun c9 =>
    stW 5 t4 (.agg c9.toArray) w5 fun w10 =>
    ldW true 5 t4 w10 fun r11 =>
    K (.tuple #[r11, (.bool false)]) w10)
theorem W97_eq (v0 v1 : Value) (w : World) (K : Value → World → Prop) : funW Tryz.prog Tryz.f97 plan97 [v0, v1] w K = W97 v0 v1 w K := by kernel_rfl
theorem W97_chk : chkFun Tryz.prog Tryz.f97 plan97 2 = true := by kernel_rfl
theorem W97_ok {v0 v1 : Value} {w : World} {K : Value → World → Prop} (h : W97 v0 v1 w K) : callF Tryz.prog 97 [v0, v1] w K :=
  tie Tryz.prog 97 Tryz.f97 plan97 [v0, v1] w K 2 (W97 v0 v1 w K) rfl mixed Tryz.func97 W97_chk (W97_eq v0 v1 w K) Tryz.call97 h
def plan93 : Plan := { js := [], ds := [] }
def W93 (v0 v1 : Value) (w : World) (K : Value → World → Prop) : Prop :=
  boxW 28 v0 w fun t2 w1 =>
  boxW 28 v1 w1 fun t3 w2 =>
  ldW true 5 t2 w2 fun t5 =>
  ldW true 5 t3 w2 fun t6 =>
  callF Tryz.prog 131 [t5, t6] w2 fun t7 w3 =>
  binW .eql t7 (.int .i64 0) fun t8 =>
  K t8 w3
theorem W93_eq (v0 v1 : Value) (w : World) (K : Value → World → Prop) : funW Tryz.prog Tryz.f93 plan93 [v0, v1] w K = W93 v0 v1 w K := by kernel_rfl
theorem W93_chk : chkFun Tryz.prog Tryz.f93 plan93 2 = true := by kernel_rfl
theorem W93_ok {v0 v1 : Value} {w : World} {K : Value → World → Prop} (h : W93 v0 v1 w K) : callF Tryz.prog 93 [v0, v1] w K :=
  tie Tryz.prog 93 Tryz.f93 plan93 [v0, v1] w K 2 (W93 v0 v1 w K) rfl mixed Tryz.func93 W93_chk (W93_eq v0 v1 w K) Tryz.call93 h
def plan33 : Plan := { js := [(3006, ⟨[10], [], 7⟩)], ds := [] }
def W33 (v0 : Value) (w : World) (K : Value → World → Prop) : Prop :=
  boxW 28 v0 w fun t1 w1 =>
  fldW 0 t1 fun t3 =>
  ldW false 1 t3 w1 fun t4 =>
  binW .neq t4 (.int .i64 1) fun t5 =>
  GdW (isB t5 true) [undef] w1 (fun J2 =>
    fldW 3 t1 fun t7 =>
    ldW false 1 t7 w1 fun t8 =>
    callF Tryz.prog 28 [t8, (.func (.func 71) #[] #[])] w1 fun t9 w3 =>
    unW .not t9 fun t10 =>
    J2 [t10] w3)
  fun s2 _ w4 =>
  pickW t5 (s2.getD 0 undef) (.bool false) fun t11 =>
  K t11 w4
theorem W33_eq (v0 : Value) (w : World) (K : Value → World → Prop) : funW Tryz.prog Tryz.f33 plan33 [v0] w K = W33 v0 w K := by kernel_rfl
theorem W33_chk : chkFun Tryz.prog Tryz.f33 plan33 1 = true := by kernel_rfl
theorem W33_ok {v0 : Value} {w : World} {K : Value → World → Prop} (h : W33 v0 w K) : callF Tryz.prog 33 [v0] w K :=
  tie Tryz.prog 33 Tryz.f33 plan33 [v0] w K 1 (W33 v0 w K) rfl mixed Tryz.func33 W33_chk (W33_eq v0 w K) Tryz.call33 h
def plan133 : Plan := { js := [(24004, ⟨[52], [], 36⟩), (24005, ⟨[51], [], 43⟩), (24007, ⟨[50], [], 49⟩), (24013, ⟨[48], [], 43⟩), (24020, ⟨[42], [], 36⟩), (8, ⟨[7, 8], [], 7⟩)], ds := [] }
def W133 (v0 v1 : Value) (w : World) (K : Value → World → Prop) : Prop :=
  lenlW v0 fun t11 =>
  LoopW [(.int .i64 0), t11] w fun s1 _ w2 L1 =>
    binW .lss (s1.getD 0 undef) (s1.getD 1 undef) fun t15 =>
    condW t15 (
      binW .add (s1.getD 0 undef) (s1.getD 1 undef) fun t18 =>
      cvtW .u64 t18 fun t19 =>
      binW .shr t19 (.int .u64 1) fun t20 =>
      cvtW .i64 t20 fun t21 =>
      ixaW none 1 v0 t21 fun t24 =>
      ldW false 1 t24 w2 fun t25 =>
      callF Tryz.prog 124 [t25, v1] w2 fun t27 w3 =>
      condW t27 (
        binW .add t21 (.int .i64 1) fun t29 =>
        L1 [t29, (s1.getD 1 undef)] w3) (
        L1 [(s1.getD 0 undef), t21] w3)) (
      binW .lss (s1.getD 0 undef) t11 fun t34 =>
      GdW (isB t34 true) [undef] w2 (fun J4 =>
        ixaW none 1 v0 (s1.getD 0 undef) fun t38 =>
        ldW false 1 t38 w2 fun t39 =>
        binW .eql t39 v1 fun t41 =>
        J4 [t41] w2)
      fun s4 _ w5 =>
      GdW (isB (s4.getD 0 undef) false) [undef] w5 (fun J6 =>
        ixaW none 1 v0 (s1.getD 0 undef) fun t45 =>
        ldW false 1 t45 w5 fun t46 =>
        callF Tryz.prog 163 [t46] w5 fun t47 w7 =>
        J6 [t47] w7)
      fun s6 _ w8 =>
      GdW (isB (s6.getD 0 undef) true) [undef] w8 (fun J9 =>
        callF Tryz.prog 163 [v1] w8 fun t50 w10 =>
        J9 [t50] w10)
      fun s9 _ w11 =>
      GdW (isB (s4.getD 0 undef) false) [undef] w11 (fun J12 =>
        pickW (s6.getD 0 undef) (s9.getD 0 undef) (.bool false) fun t51 =>
        J12 [t51] w11)
      fun s12 _ w13 =>
      GdW (isB t34 true) [undef] w13 (fun J14 =>
        pickW (s4.getD 0 undef) (.bool true) (s12.getD 0 undef) fun t52 =>
        J14 [t52] w13)
      fun s14 _ w15 =>
      pickW t34 (s14.getD 0 undef) (.bool false) fun t53 =>
      K (.tuple #[(s1.getD 0 undef), t53]) w15)
theorem W133_eq (v0 v1 : Value) (w : World) (K : Value → World → Prop) : funW Tryz.prog Tryz.f133 plan133 [v0, v1] w K = W133 v0 v1 w K := by kernel_rfl
theorem W133_chk : chkFun Tryz.prog Tryz.f133 plan133 2 = true := by kernel_rfl
theorem W133_ok {v0 v1 : Value} {w : World} {K : Value → World → Prop} (h : W133 v0 v1 w K) : callF Tryz.prog 133 [v0, v1] w K :=
  tie Tryz.prog 133 Tryz.f133 plan133 [v0, v1] w K 2 (W133 v0 v1 w K) rfl mixed Tryz.func133 W133_chk (W133_eq v0 v1 w K) Tryz.call133 h
def plan90 : Plan := { js := [], ds := [(3, ⟨[0, 1, 3, 4, 6, 8], [[], [0], [0, 1], [], [3], [0, 1, 2, 3, 4], [0, 1, 2, 3, 4], [0, 1, 2, 3, 4, 5, 6], [0, 1, 2, 3, 4, 5, 6, 7], [0, 1, 2, 3, 4, 5, 6, 7, 8]]⟩)] }
def W90 (v0 : Value) (w : World) (K : Value → World → Prop) : Prop :=
  boxW 28 v0 w fun t1 w1 =>
  allocW 28 [(.int .i64 0), (.bool false), (.string (ofL [])), (.slice none 0 0), (.slice none 0 0)] w1 fun t2 w2 =>
  fldW 4 t1 fun t3 =>
  ldW false 1 t3 w2.drew fun t4 =>
  fldW 3 t1 fun t6 =>
  ldW false 1 t6 w2.drew fun t7 =>
  callF Tryz.prog 130 [t4] w2.drew fun t5 w3 =>
  (ldW false 1 t6 w3 fun x => x = t7) ∧
  fldW 4 t1 fun t9 =>
  callF Tryz.prog 104 [t7] w3 fun t8 w4 =>
  stW 1 t9 t5 w4 fun w5 =>
  fldW 3 t1 fun t10 =>
  stW 1 t10 t8 w5 fun w6 =>
  ldW true 5 t1 w6 fun t11 =>
  stW 5 t2 t11 w6 fun w7 =>
  ldW true 5 t2 w7 fun r8 =>
  K r8 w7
theorem W90_eq (v0 : Value) (w : World) (K : Value → World → Prop) : funW Tryz.prog Tryz.f90 plan90 [v0] w K = W90 v0 w K := by kernel_rfl
theorem W90_chk : chkFun Tryz.prog Tryz.f90 plan90 1 = true := by kernel_rfl
theorem W90_ok {v0 : Value} {w : World} {K : Value → World → Prop} (h : W90 v0 w K) : callF Tryz.prog 90 [v0] w K :=
  tie Tryz.prog 90 Tryz.f90 plan90 [v0] w K 1 (W90 v0 w K) rfl mixed Tryz.func90 W90_chk (W90_eq v0 w K) Tryz.call90 h
def plan131 : Plan := { js := [], ds := [(36, ⟨[0, 1, 2, 3, 5, 6, 7, 8, 12], [[], [0], [], [2], [0, 1, 2, 3], [], [5], [], [7], [0, 1, 2, 3, 4, 5, 6, 7, 8], [0, 1, 2, 3, 4, 5, 6, 7, 8, 9], [0, 1, 2, 3, 4, 5, 6, 7, 8, 9, 10], [0, 1, 2, 3, 4, 5, 6, 7, 8, 9, 10, 11]]⟩), (20, ⟨[0, 1, 3, 4, 7], [[], [0], [0, 1], [], [3], [0, 1, 2, 3, 4], [0, 1, 2, 3, 4, 5], [0, 1, 2, 3, 4, 5, 6]]⟩)] }
def W131 (v0 v1 : Value) (w : World) (K : Value → World → Prop) : Prop :=
  boxW 28 v0 w fun t2 w1 =>
  boxW 28 v1 w1 fun t3 w2 =>
  fldW 0 t2 fun t6 =>
  ldW false 1 t6 w2 fun t7 =>
  fldW 0 t3 fun t8 =>
  ldW false 1 t8 w2 fun t9 =>
  callF Tryz.prog 155 [t7, t9] w2 fun t10 w3 =>
  binW .neq t10 (.int .i64 0) fun t12 =>
  condW t12 (
    K t10 w3) (
    fldW 0 t2 fun t14 =>
    ldW false 1 t14 w3 fun t15 =>
    binW .eql t15 (.int .i64 2) fun t17 =>
    condW t17 (
      fldW 1 t2 fun t18 =>
      ldW false 1 t18 w3.drew fun t19 =>
      fldW 1 t3 fun t21 =>
      ldW false 1 t21 w3.drew fun t22 =>
      callF Tryz.prog 157 [t19] w3.drew fun t20 w4 =>
      (ldW false 1 t21 w4 fun x => x = t22) ∧
      callF Tryz.prog 157 [t22] w4 fun t23 w5 =>
      callF Tryz.prog 156 [t20, t23] w5 fun t24 w6 =>
      K t24 w6) (
      binW .eql t15 (.int .i64 3) fun t26 =>
      condW t26 (
        fldW 2 t2 fun t27 =>
        ldW false 1 t27 w3 fun t28 =>
        fldW 2 t3 fun t29 =>
        ldW false 1 t29 w3 fun t30 =>
        callF Tryz.prog 98 [t28, t30] w3 fun t31 w7 =>
        K t31 w7) (
        binW .eql t15 (.int .i64 4) fun t33 =>
        condW t33 (
          fldW 2 t2 fun t34 =>
          ldW false 1 t34 w3 fun t35 =>
          fldW 2 t3 fun t36 =>
          ldW false 1 t36 w3 fun t37 =>
          callF Tryz.prog 158 [t35, t37] w3 fun t38 w8 =>
          K t38 w8) (
          fldW 4 t2 fun t39 =>
          ldW false 1 t39 w3.drew fun t40 =>
          fldW 4 t3 fun t41 =>
          ldW false 1 t41 w3.drew fun t42 =>
          fldW 3 t2 fun t44 =>
          ldW false 1 t44 w3.drew fun t45 =>
          fldW 3 t3 fun t46 =>
          ldW false 1 t46 w3.drew fun t47 =>
          callF Tryz.prog 160 [t40, t42] w3.drew fun t43 w9 =>
          (ldW false 1 t46 w9 fun x => x = t47) ∧
          (ldW false 1 t44 w9 fun x => x = t45) ∧
          callF Tryz.prog 161 [t45, t47, (.func (.func 131) #[] #[])] w9 fun t48 w10 =>
          bslW 3 2 [(.int .i64 0), (.int .i64 0)] [(0, 1, t43), (1, 1, t48)] w10 fun t49 w11 =>
          callF Tryz.prog 159 [t49] w11 fun t50 w12 =>
          K t50 w12))))
theorem W131_eq (v0 v1 : Value) (w : World) (K : Value → World → Prop) : funW Tryz.prog Tryz.f131 plan131 [v0, v1] w K = W131 v0 v1 w K := by kernel_rfl
theorem W131_chk : chkFun Tryz.prog Tryz.f131 plan131 2 = true := by kernel_rfl
theorem W131_ok {v0 v1 : Value} {w : World} {K : Value → World → Prop} (h : W131 v0 v1 w K) : callF Tryz.prog 131 [v0, v1] w K :=
  tie Tryz.prog 131 Tryz.f131 plan131 [v0, v1] w K 2 (W131 v0 v1 w K) rfl mixed Tryz.func131 W131_chk (W131_eq v0 v1 w K) Tryz.call131 h
def plan28 : Plan := { js := [], ds := [] }
def W28 (v0 v1 : Value) (w : World) (K : Value → World → Prop) : Prop :=
  callF Tryz.prog 44 [v0, v1] w fun t7 w1 =>
  binW .geq t7 (.int .i64 0) fun t8 =>
  K t8 w1
theorem W28_eq (v0 v1 : Value) (w : World) (K : Value → World → Prop) : funW Tryz.prog Tryz.f28 plan28 [v0, v1] w K = W28 v0 v1 w K := by kernel_rfl
theorem W28_chk : chkFun Tryz.prog Tryz.f28 plan28 2 = true := by kernel_rfl
theorem W28_ok {v0 v1 : Value} {w : World} {K : Value → World → Prop} (h : W28 v0 v1 w K) : callF Tryz.prog 28 [v0, v1] w K :=
  tie Tryz.prog 28 Tryz.f28 plan28 [v0, v1] w K 2 (W28 v0 v1 w K) rfl mixed Tryz.func28 W28_chk (W28_eq v0 v1 w K) Tryz.call28 h
def plan71 : Plan := { js := [], ds := [] }
def W71 (v0 : Value) (w : World) (K : Value → World → Prop) : Prop :=
  boxW 28 v0 w fun t1 w1 =>
  ldW true 5 t1 w1 fun t3 =>
  callF Tryz.prog 33 [t3] w1 fun t4 w2 =>
  unW .not t4 fun t5 =>
  K t5 w2
theorem W71_eq (v0 : Value) (w : World) (K : Value → World → Prop) : funW Tryz.prog Tryz.f71 plan71 [v0] w K = W71 v0 w K := by kernel_rfl
theorem W71_chk : chkFun Tryz.prog Tryz.f71 plan71 1 = true := by kernel_rfl
theorem W71_ok {v0 : Value} {w : World} {K : Value → World → Prop} (h : W71 v0 w K) : callF Tryz.prog 71 [v0] w K :=
  tie Tryz.prog 71 Tryz.f71 plan71 [v0] w K 1 (W71 v0 w K) rfl mixed Tryz.func71 W71_chk (W71_eq v0 w K) Tryz.call71 h
def plan87 : Plan := { js := [(28003, ⟨[36], [], 35⟩), (16, ⟨[28], [2, 5], 28⟩), (6002, ⟨[23], [], 17⟩), (6004, ⟨[22], [], 21⟩), (6008, ⟨[20], [], 17⟩), (6013, ⟨[14], [], 12⟩)], ds := [] }
def W87 (v0 : Value) (w : World) (K : Value → World → Prop) : Prop :=
  callF Tryz.prog 47 [v0, (.string (ofL [45]))] w fun t7 w1 =>
  lensW t7 fun t9 =>
  binW .lss t9 (.int .i64 1) fun t10 =>
  GdW (isB t10 false) [undef] w1 (fun J2 =>
    lensW t7 fun t13 =>
    binW .gtr t13 (.int .i64 100) fun t14 =>
    J2 [t14] w1)
  fun s2 _ w3 =>
  pickW t10 (.bool true) (s2.getD 0 undef) fun t15 =>
  GdW (isB t15 false) [undef] w3 (fun J4 =>
    ixsW t7 (.int .i64 0) fun t18 =>
    binW .eql t18 (.int .u8 48) fun t19 =>
    J4 [t19] w3)
  fun s4 _ w5 =>
  GdW (isB (s4.getD 0 undef) true) [undef] w5 (fun J6 =>
    binW .neq v0 (.string (ofL [48])) fun t22 =>
    J6 [t22] w5)
  fun s6 _ w7 =>
  GdW (isB t15 false) [undef] w7 (fun J8 =>
    pickW (s4.getD 0 undef) (s6.getD 0 undef) (.bool false) fun t23 =>
    J8 [t23] w7)
  fun s8 _ w9 =>
  pickW t15 (.bool true) (s8.getD 0 undef) fun t24 =>
  condW t24 (
    K (.bool false) w9) (
    semE Tryz.prog (convert 9 66 t7) w9 fun t26 w10 =>
    lenlW t26 fun t27 =>
    LoopW [(.int .i64 0)] w10 fun s11 _ w12 L11 =>
      binW .lss (s11.getD 0 undef) t27 fun t29 =>
      condW t29 (
        ixaW none 1 t26 (s11.getD 0 undef) fun t30 =>
        ldW false 1 t30 w12 fun t31 =>
        binW .lss t31 (.int .u8 48) fun t33 =>
        GdW (isB t33 false) [undef] w12 (fun J13 =>
          binW .gtr t31 (.int .u8 57) fun t36 =>
          J13 [t36] w12)
        fun s13 _ w14 =>
        pickW t33 (.bool true) (s13.getD 0 undef) fun t37 =>
        condW t37 (
          K (.bool false) w14) (
          binW .add (s11.getD 0 undef) (.int .i64 1) fun t38 =>
          L11 [t38] w14)) (
        K (.bool true) w12))
theorem W87_eq (v0 : Value) (w : World) (K : Value → World → Prop) : funW Tryz.prog Tryz.f87 plan87 [v0] w K = W87 v0 w K := by kernel_rfl
theorem W87_chk : chkFun Tryz.prog Tryz.f87 plan87 1 = true := by kernel_rfl
theorem W87_ok {v0 : Value} {w : World} {K : Value → World → Prop} (h : W87 v0 w K) : callF Tryz.prog 87 [v0] w K :=
  tie Tryz.prog 87 Tryz.f87 plan87 [v0] w K 1 (W87 v0 w K) rfl mixed Tryz.func87 W87_chk (W87_eq v0 w K) Tryz.call87 h
def plan130 : Plan := { js := [], ds := [] }
def W130 (v0 : Value) (w : World) (K : Value → World → Prop) : Prop :=
  eqW .slice false v0 (.slice none 0 0) fun t4 =>
  condW t4 (
    K (.slice none 0 0) w) (
    bslW 9 0 [] [] w fun t5 w1 =>
    semE Tryz.prog (Builtin.append_ #[26, 26] 26 #[t5, v0]) w1 fun t7 w2 =>
    K t7 w2)
theorem W130_eq (v0 : Value) (w : World) (K : Value → World → Prop) : funW Tryz.prog Tryz.f130 plan130 [v0] w K = W130 v0 w K := by kernel_rfl
theorem W130_chk : chkFun Tryz.prog Tryz.f130 plan130 1 = true := by kernel_rfl
theorem W130_ok {v0 : Value} {w : World} {K : Value → World → Prop} (h : W130 v0 w K) : callF Tryz.prog 130 [v0] w K :=
  tie Tryz.prog 130 Tryz.f130 plan130 [v0] w K 1 (W130 v0 w K) rfl mixed Tryz.func130 W130_chk (W130_eq v0 w K) Tryz.call130 h
def plan104 : Plan := { js := [(8, ⟨[3, 8], [3, 5], 8⟩)], ds := [] }
def W104 (v0 : Value) (w : World) (K : Value → World → Prop) : Prop :=
  lenlW v0 fun t7 =>
  LoopW [(.slice none 0 0), (.int .i64 0)] w fun s1 _ w2 L1 =>
    binW .lss (s1.getD 1 undef) t7 fun t9 =>
    condW t9 (
      ixaW none 5 v0 (s1.getD 1 undef) fun t10 =>
      ldW true 5 t10 w2 fun t11 =>
      allocW 28 [(.int .i64 0), (.bool false), (.string (ofL [])), (.slice none 0 0), (.slice none 0 0)] w2 fun t5 w3 =>
      stW 5 t5 t11 w3 fun w4 =>
      ldW true 5 t5 w4 fun t13 =>
      callF Tryz.prog 90 [t13] w4 fun t14 w5 =>
      bslW 28 1 [(.int .i64 0), (.bool false), (.string (ofL [])), (.slice none 0 0), (.slice none 0 0)] [(0, 5, t14)] w5 fun t15 w6 =>
      semE Tryz.prog (Builtin.append_ #[22, 22] 22 #[(s1.getD 0 undef), t15]) w6 fun t16 w7 =>
      binW .add (s1.getD 1 undef) (.int .i64 1) fun t17 =>
      L1 [t16, t17] w7) (
      K (s1.getD 0 undef) w2)
theorem W104_eq (v0 : Value) (w : World) (K : Value → World → Prop) : funW Tryz.prog Tryz.f104 plan104 [v0] w K = W104 v0 w K := by kernel_rfl
theorem W104_chk : chkFun Tryz.prog Tryz.f104 plan104 1 = true := by kernel_rfl
theorem W104_ok {v0 : Value} {w : World} {K : Value → World → Prop} (h : W104 v0 w K) : callF Tryz.prog 104 [v0] w K :=
  tie Tryz.prog 104 Tryz.f104 plan104 [v0] w K 1 (W104 v0 w K) rfl mixed Tryz.func104 W104_chk (W104_eq v0 w K) Tryz.call104 h
def plan155 : Plan := { js := [], ds := [] }
def W155 (v0 v1 : Value) (w : World) (K : Value → World → Prop) : Prop :=
  callF Tryz.prog 183 [v0] w fun t8 w1 =>
  callF Tryz.prog 183 [v1] w1 fun t10 w2 =>
  condW t8 (
    condW t10 (
      K (.int .i64 0) w2) (
      K (.int .i64 (-1)) w2)) (
    condW t10 (
      K (.int .i64 1) w2) (
      binW .lss v0 v1 fun t16 =>
      condW t16 (
        K (.int .i64 (-1)) w2) (
        binW .gtr v0 v1 fun t19 =>
        condW t19 (
          K (.int .i64 1) w2) (
          K (.int .i64 0) w2))))
theorem W155_eq (v0 v1 : Value) (w : World) (K : Value → World → Prop) : funW Tryz.prog Tryz.f155 plan155 [v0, v1] w K = W155 v0 v1 w K := by kernel_rfl
theorem W155_chk : chkFun Tryz.prog Tryz.f155 plan155 2 = true := by kernel_rfl
theorem W155_ok {v0 v1 : Value} {w : World} {K : Value → World → Prop} (h : W155 v0 v1 w K) : callF Tryz.prog 155 [v0, v1] w K :=
  tie Tryz.prog 155 Tryz.f155 plan155 [v0, v1] w K 2 (W155 v0 v1 w K) rfl mixed Tryz.func155 W155_chk (W155_eq v0 v1 w K) Tryz.call155 h
def plan156 : Plan := { js := [], ds := [] }
def W156 (v0 v1 : Value) (w : World) (K : Value → World → Prop) : Prop :=
  callF Tryz.prog 184 [v0] w fun t8 w1 =>
  callF Tryz.prog 184 [v1] w1 fun t10 w2 =>
  condW t8 (
    condW t10 (
      K (.int .i64 0) w2) (
      K (.int .i64 (-1)) w2)) (
    condW t10 (
      K (.int .i64 1) w2) (
      binW .lss v0 v1 fun t16 =>
      condW t16 (
        K (.int .i64 (-1)) w2) (
        binW .gtr v0 v1 fun t19 =>
        condW t19 (
          K (.int .i64 1) w2) (
          K (.int .i64 0) w2))))
theorem W156_eq (v0 v1 : Value) (w : World) (K : Value → World → Prop) : funW Tryz.prog Tryz.f156 plan156 [v0, v1] w K = W156 v0 v1 w K := by kernel_rfl
theorem W156_chk : chkFun Tryz.prog Tryz.f156 plan156 2 = true := by kernel_rfl
theorem W156_ok {v0 v1 : Value} {w : World} {K : Value → World → Prop} (h : W156 v0 v1 w K) : callF Tryz.prog 156 [v0, v1] w K :=
  tie Tryz.prog 156 Tryz.f156 plan156 [v0, v1] w K 2 (W156 v0 v1 w K) rfl mixed Tryz.func156 W156_chk (W156_eq v0 v1 w K) Tryz.call156 h
def plan157 : Plan := { js := [], ds := [] }
def W157 (v0 : Value) (w : World) (K : Value → World → Prop) : Prop :=
  condW v0 (
    K (.int .i64 1) w) (
    K (.int .i64 0) w)
theorem W157_eq (v0 : Value) (w : World) (K : Value → World → Prop) : funW Tryz.prog Tryz.f157 plan157 [v0] w K = W157 v0 w K := by kernel_rfl
theorem W157_chk : chkFun Tryz.prog Tryz.f157 plan157 1 = true := by kernel_rfl
theorem W157_ok {v0 : Value} {w : World} {K : Value → World → Prop} (h : W157 v0 w K) : callF Tryz.prog 157 [v0] w K :=
  tie Tryz.prog 157 Tryz.f157 plan157 [v0] w K 1 (W157 v0 w K) rfl mixed Tryz.func157 W157_chk (W157_eq v0 w K) Tryz.call157 h
def plan98 : Plan := { js := [(4004, ⟨[12], [], 10⟩)], ds := [] }
def W98 (v0 v1 : Value) (w : World) (K : Value → World → Prop) : Prop :=
  callF Tryz.prog 87 [v0] w fun t7 w1 =>
  unW .not t7 fun t8 =>
  GdW (isB t8 false) [undef] w1 (fun J2 =>
    callF Tryz.prog 87 [v1] w1 fun t11 w3 =>
    unW .not t11 fun t12 =>
    J2 [t12] w3)
  fun s2 _ w4 =>
  pickW t8 (.bool true) (s2.getD 0 undef) fun t13 =>
  condW t13 (
    K (.int .i64 0) w4) (
    callF Tryz.prog 135 [v0] w4 fun t15 w5 =>
    callF Tryz.prog 135 [v1] w5 fun t17 w6 =>
    callF Tryz.prog 136 [t17] w6 fun t18 w7 =>
    callF Tryz.prog 134 [t15, t18] w7 fun t19 w8 =>
    allocW 128 [(.bool false), (.slice none 0 0)] w8 fun t5 w9 =>
    stW 2 t5 t19 w9 fun w10 =>
    fldW 1 t5 fun t21 =>
    ldW false 1 t21 w10 fun t22 =>
    lenlW t22 fun t23 =>
    binW .eql t23 (.int .i64 0) fun t24 =>
    condW t24 (
      K (.int .i64 0) w10) (
      fldW 0 t5 fun t26 =>
      ldW false 1 t26 w10 fun t27 =>
      condW t27 (
        K (.int .i64 (-1)) w10) (
        K (.int .i64 1) w10)))
theorem W98_eq (v0 v1 : Value) (w : World) (K : Value → World → Prop) : funW Tryz.prog Tryz.f98 plan98 [v0, v1] w K = W98 v0 v1 w K := by kernel_rfl
theorem W98_chk : chkFun Tryz.prog Tryz.f98 plan98 2 = true := by kernel_rfl
theorem W98_ok {v0 v1 : Value} {w : World} {K : Value → World → Prop} (h : W98 v0 v1 w K) : callF Tryz.prog 98 [v0, v1] w K :=
  tie Tryz.prog 98 Tryz.f98 plan98 [v0, v1] w K 2 (W98 v0 v1 w K) rfl mixed Tryz.func98 W98_chk (W98_eq v0 v1 w K) Tryz.call98 h
def plan159 : Plan := { js := [(8, ⟨[8], [2, 5], 8⟩)], ds := [] }
def W159 (v0 : Value) (w : World) (K : Value → World → Prop) : Prop :=
  lenlW v0 fun t7 =>
  LoopW [(.int .i64 0)] w fun s1 _ w2 L1 =>
    binW .lss (s1.getD 0 undef) t7 fun t9 =>
    condW t9 (
      ixaW none 1 v0 (s1.getD 0 undef) fun t10 =>
      ldW false 1 t10 w2 fun t11 =>
      binW .neq t11 (.int .i64 0) fun t14 =>
      condW t14 (
        K t11 w2) (
        binW .add (s1.getD 0 undef) (.int .i64 1) fun t16 =>
        L1 [t16] w2)) (
      K (.int .i64 0) w2)
theorem W159_eq (v0 : Value) (w : World) (K : Value → World → Prop) : funW Tryz.prog Tryz.f159 plan159 [v0] w K = W159 v0 w K := by kernel_rfl
theorem W159_chk : chkFun Tryz.prog Tryz.f159 plan159 1 = true := by kernel_rfl
theorem W159_ok {v0 : Value} {w : World} {K : Value → World → Prop} (h : W159 v0 w K) : callF Tryz.prog 159 [v0] w K :=
  tie Tryz.prog 159 Tryz.f159 plan159 [v0] w K 1 (W159 v0 w K) rfl mixed Tryz.func159 W159_chk (W159_eq v0 w K) Tryz.call159 h
def plan160 : Plan := { js := [(6, ⟨[11], [4, 5, 6, 7, 8], 11⟩)], ds := [] }
def W160 (v0 v1 : Value) (w : World) (K : Value → World → Prop) : Prop :=
  lenlW v0 fun t10 =>
  LoopW [(.int .i64 0)] w fun s1 _ w2 L1 =>
    binW .lss (s1.getD 0 undef) t10 fun t12 =>
    condW t12 (
      ixaW none 1 v0 (s1.getD 0 undef) fun t14 =>
      ldW false 1 t14 w2 fun t15 =>
      lenlW v1 fun t18 =>
      binW .geq (s1.getD 0 undef) t18 fun t19 =>
      condW t19 (
        K (.int .i64 1) w2) (
        ixaW none 1 v1 (s1.getD 0 undef) fun t22 =>
        ldW false 1 t22 w2 fun t23 =>
        callF Tryz.prog 186 [t15, t23] w2 fun t26 w3 =>
        binW .neq t26 (.int .i64 0) fun t28 =>
        condW t28 (
          K t26 w3) (
          binW .add (s1.getD 0 undef) (.int .i64 1) fun t30 =>
          L1 [t30] w3))) (
      lenlW v0 fun t32 =>
      lenlW v1 fun t34 =>
      binW .lss t32 t34 fun t35 =>
      condW t35 (
        K (.int .i64 (-1)) w2) (
        K (.int .i64 0) w2))
theorem W160_eq (v0 v1 : Value) (w : World) (K : Value → World → Prop) : funW Tryz.prog Tryz.f160 plan160 [v0, v1] w K = W160 v0 v1 w K := by kernel_rfl
theorem W160_chk : chkFun Tryz.prog Tryz.f160 plan160 2 = true := by kernel_rfl
theorem W160_ok {v0 v1 : Value} {w : World} {K : Value → World → Prop} (h : W160 v0 v1 w K) : callF Tryz.prog 160 [v0, v1] w K :=
  tie Tryz.prog 160 Tryz.f160 plan160 [v0, v1] w K 2 (W160 v0 v1 w K) rfl mixed Tryz.func160 W160_chk (W160_eq v0 v1 w K) Tryz.call160 h
def plan161 : Plan := { js := [(6, ⟨[13], [6, 7, 8, 9, 10], 13⟩)], ds := [] }
def W161 (v0 v1 v2 : Value) (w : World) (K : Value → World → Prop) : Prop :=
  lenlW v0 fun t12 =>
  LoopW [(.int .i64 0)] w fun s1 _ w2 L1 =>
    binW .lss (s1.getD 0 undef) t12 fun t14 =>
    condW t14 (
      ixaW none 5 v0 (s1.getD 0 undef) fun t16 =>
      ldW true 5 t16 w2 fun t17 =>
      allocW 28 [(.int .i64 0), (.bool false), (.string (ofL [])), (.slice none 0 0), (.slice none 0 0)] w2 fun t8 w3 =>
      stW 5 t8 t17 w3 fun w4 =>
      lenlW v1 fun t20 =>
      binW .geq (s1.getD 0 undef) t20 fun t21 =>
      condW t21 (
        K (.int .i64 1) w4) (
        ixaW none 5 v1 (s1.getD 0 undef) fun t24 =>
        ldW true 5 t24 w4 fun t25 =>
        allocW 28 [(.int .i64 0), (.bool false), (.string (ofL [])), (.slice none 0 0), (.slice none 0 0)] w4 fun t9 w5 =>
        stW 5 t9 t25 w5 fun w6 =>
        ldW true 5 t8 w6 fun t27 =>
        ldW true 5 t9 w6 fun t28 =>
        callV Tryz.prog v2 [t27, t28] w6 fun t29 w7 =>
        binW .neq t29 (.int .i64 0) fun t31 =>
        condW t31 (
          K t29 w7) (
          binW .add (s1.getD 0 undef) (.int .i64 1) fun t33 =>
          L1 [t33] w7))) (
      lenlW v0 fun t35 =>
      lenlW v1 fun t37 =>
      binW .lss t35 t37 fun t38 =>
      condW t38 (
        K (.int .i64 (-1)) w2) (
        K (.int .i64 0) w2))
theorem W161_eq (v0 v1 v2 : Value) (w : World) (K : Value → World → Prop) : funW Tryz.prog Tryz.f161 plan161 [v0, v1, v2] w K = W161 v0 v1 v2 w K := by kernel_rfl
theorem W161_chk : chkFun Tryz.prog Tryz.f161 plan161 3 = true := by kernel_rfl
theorem W161_ok {v0 v1 v2 : Value} {w : World} {K : Value → World → Prop} (h : W161 v0 v1 v2 w K) : callF Tryz.prog 161 [v0, v1, v2] w K :=
  tie Tryz.prog 161 Tryz.f161 plan161 [v0, v1, v2] w K 3 (W161 v0 v1 v2 w K) rfl mixed Tryz.func161 W161_chk (W161_eq v0 v1 v2 w K) Tryz.call161 h
def plan44 : Plan := { js := [(6, ⟨[8], [4, 5], 8⟩)], ds := [] }
def W44 (v0 v1 : Value) (w : World) (K : Value → World → Prop) : Prop :=
  lenlW v0 fun t7 =>
  LoopW [(.int .i64 0)] w fun s1 _ w2 L1 =>
    binW .lss (s1.getD 0 undef) t7 fun t9 =>
    condW t9 (
      ixaW none 5 v0 (s1.getD 0 undef) fun t14 =>
      ldW true 5 t14 w2 fun t15 =>
      callV Tryz.prog v1 [t15] w2 fun t16 w3 =>
      condW t16 (
        K (s1.getD 0 undef) w3) (
        binW .add (s1.getD 0 undef) (.int .i64 1) fun t18 =>
        L1 [t18] w3)) (
      K (.int .i64 (-1)) w2)
theorem W44_eq (v0 v1 : Value) (w : World) (K : Value → World → Prop) : funW Tryz.prog Tryz.f44 plan44 [v0, v1] w K = W44 v0 v1 w K := by kernel_rfl
theorem W44_chk : chkFun Tryz.prog Tryz.f44 plan44 2 = true := by kernel_rfl
theorem W44_ok {v0 v1 : Value} {w : World} {K : Value → World → Prop} (h : W44 v0 v1 w K) : callF Tryz.prog 44 [v0, v1] w K :=
  tie Tryz.prog 44 Tryz.f44 plan44 [v0, v1] w K 2 (W44 v0 v1 w K) rfl mixed Tryz.func44 W44_chk (W44_eq v0 v1 w K) Tryz.call44 h
def plan183 : Plan := { js := [], ds := [] }
def W183 (v0 : Value) (w : World) (K : Value → World → Prop) : Prop :=
  binW .neq v0 v0 fun t5 =>
  K t5 w
theorem W183_eq (v0 : Value) (w : World) (K : Value → World → Prop) : funW Tryz.prog Tryz.f183 plan183 [v0] w K = W183 v0 w K := by kernel_rfl
theorem W183_chk : chkFun Tryz.prog Tryz.f183 plan183 1 = true := by kernel_rfl
theorem W183_ok {v0 : Value} {w : World} {K : Value → World → Prop} (h : W183 v0 w K) : callF Tryz.prog 183 [v0] w K :=
  tie Tryz.prog 183 Tryz.f183 plan183 [v0] w K 1 (W183 v0 w K) rfl mixed Tryz.func183 W183_chk (W183_eq v0 w K) Tryz.call183 h
def plan184 : Plan := { js := [], ds := [] }
def W184 (v0 : Value) (w : World) (K : Value → World → Prop) : Prop :=
  binW .neq v0 v0 fun t5 =>
  K t5 w
theorem W184_eq (v0 : Value) (w : World) (K : Value → World → Prop) : funW Tryz.prog Tryz.f184 plan184 [v0] w K = W184 v0 w K := by kernel_rfl
theorem W184_chk : chkFun Tryz.prog Tryz.f184 plan184 1 = true := by kernel_rfl
theorem W184_ok {v0 : Value} {w : World} {K : Value → World → Prop} (h : W184 v0 w K) : callF Tryz.prog 184 [v0] w K :=
  tie Tryz.prog 184 Tryz.f184 plan184 [v0] w K 1 (W184 v0 w K) rfl mixed Tryz.func184 W184_chk (W184_eq v0 w K) Tryz.call184 h
def plan134 : Plan := { js := [], ds := [(18, ⟨[0, 1, 2, 3, 5], [[], [0], [], [], [2, 3], [0, 1, 2, 3, 4], [0, 1, 2, 3, 4, 5], [0, 1, 2, 3, 4, 5, 6]]⟩), (14, ⟨[0, 1, 2, 3, 5], [[], [0], [], [], [2, 3], [0, 1, 2, 3, 4], [0, 1, 2, 3, 4, 5], [0, 1, 2, 3, 4, 5, 6]]⟩), (8, ⟨[0, 1, 2, 3, 5], [[], [0], [], [], [2, 3], [0, 1, 2, 3, 4], [0, 1, 2, 3, 4, 5], [0, 1, 2, 3, 4, 5, 6]]⟩)] }
def W134 (v0 v1 : Value) (w : World) (K : Value → World → Prop) : Prop :=
  boxW 128 v0 w fun t2 w1 =>
  boxW 128 v1 w1 fun t3 w2 =>
  allocW 128 [(.bool false), (.slice none 0 0)] w2 fun t4 w3 =>
  fldW 0 t2 fun t6 =>
  ldW false 1 t6 w3 fun t7 =>
  fldW 0 t3 fun t8 =>
  ldW false 1 t8 w3 fun t9 =>
  eqW .bool false t7 t9 fun t10 =>
  condW t10 (
    fldW 0 t2 fun t11 =>
    ldW false 1 t11 w3.drew fun t12 =>
    ldW true 2 t2 w3.drew fun t13 =>
    ldW true 2 t3 w3.drew fun t14 =>
    callF Tryz.prog 164 [t13, t14] w3.drew fun t15 w4 =>
    (ldW false 1 t11 w4 fun x => x = t12) ∧
    putW [(.bool false), (.slice none 0 0)] [(0, 1, t12), (1, 1, t15)] fun c5 =>
    callF Tryz.prog 165 [(.agg c5.toArray)] w4 fun t17 w6 =>
    stW 2 t4 t17 w6 fun w7 =>
    ldW true 2 t4 w7 fun r8 =>
    K r8 w7) (
    ldW true 2 t2 w3 fun t19 =>
    ldW true 2 t3 w3 fun t20 =>
    callF Tryz.prog 166 [t19, t20] w3 fun t21 w9 =>
    binW .geq t21 (.int .i64 0) fun t22 =>
    condW t22 (
      fldW 0 t2 fun t23 =>
      ldW false 1 t23 w9.drew fun t24 =>
      ldW true 2 t2 w9.drew fun t25 =>
      ldW true 2 t3 w9.drew fun t26 =>
      callF Tryz.prog 167 [t25, t26] w9.drew fun t27 w10 =>
      (ldW false 1 t23 w10 fun x => x = t24) ∧
      putW [(.bool false), (.slice none 0 0)] [(0, 1, t24), (1, 1, t27)] fun c11 =>
      callF Tryz.prog 165 [(.agg c11.toArray)] w10 fun t29 w12 =>
      stW 2 t4 t29 w12 fun w13 =>
      ldW true 2 t4 w13 fun r14 =>
      K r14 w13) (
      fldW 0 t3 fun t30 =>
      ldW false 1 t30 w9.drew fun t31 =>
      ldW true 2 t3 w9.drew fun t32 =>
      ldW true 2 t2 w9.drew fun t33 =>
      callF Tryz.prog 167 [t32, t33] w9.drew fun t34 w15 =>
      (ldW false 1 t30 w15 fun x => x = t31) ∧
      putW [(.bool false), (.slice none 0 0)] [(0, 1, t31), (1, 1, t34)] fun c16 =>
      callF Tryz.prog 165 [(.agg c16.toArray)] w15 fun t36 w17 =>
      stW 2 t4 t36 w17 fun w18 =>
      ldW true 2 t4 w18 fun r19 =>
      K r19 w18))
theorem W134_eq (v0 v1 : Value) (w : World) (K : Value → World → Prop) : funW Tryz.prog Tryz.f134 plan134 [v0, v1] w K = W134 v0 v1 w K := by kernel_rfl
theorem W134_chk : chkFun Tryz.prog Tryz.f134 plan134 2 = true := by kernel_rfl
theorem W134_ok {v0 v1 : Value} {w : World} {K : Value → World → Prop} (h : W134 v0 v1 w K) : callF Tryz.prog 134 [v0, v1] w K :=
  tie Tryz.prog 134 Tryz.f134 plan134 [v0, v1] w K 2 (W134 v0 v1 w K) rfl mixed Tryz.func134 W134_chk (W134_eq v0 v1 w K) Tryz.call134 h
def plan135 : Plan := { js := [(10, ⟨[6], [], 6⟩)], ds := [] }
def W135 (v0 : Value) (w : World) (K : Value → World → Prop) : Prop :=
  allocW 128 [(.bool false), (.slice none 0 0)] w fun t2 w1 =>
  callF Tryz.prog 168 [v0, (.string (ofL [45]))] w1 fun t11 w2 =>
  extW 0 t11 fun t12 =>
  extW 1 t11 fun t13 =>
  putW [(.bool false), (.slice none 0 0)] [(0, 1, t13)] fun c3 =>
  allocW 128 [(.bool false), (.slice none 0 0)] w2 fun t5 w4 =>
  stW 2 t5 (.agg c3.toArray) w4 fun w5 =>
  lensW t12 fun t17 =>
  LoopW [t17] w5 fun s6 _ w7 L6 =>
    binW .gtr (s6.getD 0 undef) (.int .i64 0) fun t19 =>
    condW t19 (
      binW .sub (s6.getD 0 undef) (.int .i64 9) fun t25 =>
      maxW (.int .i64 0) t25 fun t26 =>
      slsW t12 (some t26) (some (s6.getD 0 undef)) fun t28 =>
      callF Tryz.prog 169 [t28, (.int .i64 10), (.int .i64 64)] w7 fun t29 w8 =>
      extW 0 t29 fun t30 =>
      extW 1 t29 fun t31 =>
      fldW 1 t5 fun t32 =>
      ldW false 1 t32 w8 fun t33 =>
      bslW 122 1 [(.int .u64 0)] [(0, 1, t30)] w8 fun t35 w9 =>
      semE Tryz.prog (Builtin.append_ #[126, 126] 126 #[t33, t35]) w9 fun t36 w10 =>
      fldW 1 t5 fun t37 =>
      stW 1 t37 t36 w10 fun w11 =>
      binW .sub (s6.getD 0 undef) (.int .i64 9) fun t21 =>
      L6 [t21] w11) (
      ldW true 2 t5 w7 fun t38 =>
      callF Tryz.prog 165 [t38] w7 fun t39 w12 =>
      stW 2 t2 t39 w12 fun w13 =>
      ldW true 2 t2 w13 fun r14 =>
      K r14 w13)
theorem W135_eq (v0 : Value) (w : World) (K : Value → World → Prop) : funW Tryz.prog Tryz.f135 plan135 [v0] w K = W135 v0 w K := by kernel_rfl
theorem W135_chk : chkFun Tryz.prog Tryz.f135 plan135 1 = true := by kernel_rfl
theorem W135_ok {v0 : Value} {w : World} {K : Value → World → Prop} (h : W135 v0 w K) : callF Tryz.prog 135 [v0] w K :=
  tie Tryz.prog 135 Tryz.f135 plan135 [v0] w K 1 (W135 v0 w K) rfl mixed Tryz.func135 W135_chk (W135_eq v0 w K) Tryz.call135 h
def plan136 : Plan := { js := [], ds := [] }
def W136 (v0 : Value) (w : World) (K : Value → World → Prop) : Prop :=
  boxW 128 v0 w fun t1 w1 =>
  allocW 128 [(.bool false), (.slice none 0 0)] w1 fun t2 w2 =>
  fldW 0 t1 fun t3 =>
  ldW false 1 t3 w2 fun t4 =>
  unW .not t4 fun t5 =>
  fldW 1 t1 fun t6 =>
  ldW false 1 t6 w2 fun t7 =>
  putW [(.bool false), (.slice none 0 0)] [(0, 1, t5), (1, 1, t7)] fun c3 =>
  callF Tryz.prog 165 [(.agg c3.toArray)] w2 fun t9 w4 =>
  stW 2 t2 t9 w4 fun w5 =>
  ldW true 2 t2 w5 fun r6 =>
  K r6 w5
theorem W136_eq (v0 : Value) (w : World) (K : Value → World → Prop) : funW Tryz.prog Tryz.f136 plan136 [v0] w K = W136 v0 w K := by kernel_rfl
theorem W136_chk : chkFun Tryz.prog Tryz.f136 plan136 1 = true := by kernel_rfl
theorem W136_ok {v0 : Value} {w : World} {K : Value → World → Prop} (h : W136 v0 w K) : callF Tryz.prog 136 [v0] w K :=
  tie Tryz.prog 136 Tryz.f136 plan136 [v0] w K 1 (W136 v0 w K) rfl mixed Tryz.func136 W136_chk (W136_eq v0 w K) Tryz.call136 h
def plan186 : Plan := { js := [], ds := [] }
def W186 (v0 v1 : Value) (w : World) (K : Value → World → Prop) : Prop :=
  callF Tryz.prog 154 [v0] w fun t8 w1 =>
  callF Tryz.prog 154 [v1] w1 fun t10 w2 =>
  condW t8 (
    condW t10 (
      K (.int .i64 0) w2) (
      K (.int .i64 (-1)) w2)) (
    condW t10 (
      K (.int .i64 1) w2) (
      binW .lss v0 v1 fun t16 =>
      condW t16 (
        K (.int .i64 (-1)) w2) (
        binW .gtr v0 v1 fun t19 =>
        condW t19 (
          K (.int .i64 1) w2) (
          K (.int .i64 0) w2))))
theorem W186_eq (v0 v1 : Value) (w : World) (K : Value → World → Prop) : funW Tryz.prog Tryz.f186 plan186 [v0, v1] w K = W186 v0 v1 w K := by kernel_rfl
theorem W186_chk : chkFun Tryz.prog Tryz.f186 plan186 2 = true := by kernel_rfl
theorem W186_ok {v0 v1 : Value} {w : World} {K : Value → World → Prop} (h : W186 v0 v1 w K) : callF Tryz.prog 186 [v0, v1] w K :=
  tie Tryz.prog 186 Tryz.f186 plan186 [v0, v1] w K 2 (W186 v0 v1 w K) rfl mixed Tryz.func186 W186_chk (W186_eq v0 v1 w K) Tryz.call186 h
def plan164 : Plan := { js := [(27, ⟨[6], [6], 16⟩), (21, ⟨[6], [6], 16⟩), (10, ⟨[5, 6, 15], [5, 6, 7], 15⟩)], ds := [] }
def W164 (v0 v1 : Value) (w : World) (K : Value → World → Prop) : Prop :=
  boxW 128 v0 w fun t2 w1 =>
  boxW 128 v1 w1 fun t3 w2 =>
  fldW 1 t2 fun t8 =>
  ldW false 1 t8 w2 fun t9 =>
  lenlW t9 fun t10 =>
  fldW 1 t3 fun t11 =>
  ldW false 1 t11 w2 fun t12 =>
  lenlW t12 fun t13 =>
  maxW t10 t13 fun t14 =>
  LoopW [(.slice none 0 0), (.int .u64 0), (.int .i64 0)] w2 fun s3 _ w4 L3 =>
    binW .lss (s3.getD 2 undef) t14 fun t16 =>
    condW t16 (
      JoinW (fun J5 =>
        fldW 1 t2 fun t19 =>
        ldW false 1 t19 w4 fun t20 =>
        lenlW t20 fun t21 =>
        binW .lss (s3.getD 2 undef) t21 fun t22 =>
        condW t22 (
          fldW 1 t2 fun t24 =>
          ldW false 1 t24 w4 fun t25 =>
          ixaW none 1 t25 (s3.getD 2 undef) fun t27 =>
          ldW false 1 t27 w4 fun t28 =>
          binW .add (s3.getD 1 undef) t28 fun t29 =>
          J5 [t29] w4) (
          J5 [(s3.getD 1 undef)] w4))
      fun s5 _ w6 =>
      JoinW (fun J7 =>
        fldW 1 t3 fun t31 =>
        ldW false 1 t31 w6 fun t32 =>
        lenlW t32 fun t33 =>
        binW .lss (s3.getD 2 undef) t33 fun t34 =>
        condW t34 (
          fldW 1 t3 fun t36 =>
          ldW false 1 t36 w6 fun t37 =>
          ixaW none 1 t37 (s3.getD 2 undef) fun t39 =>
          ldW false 1 t39 w6 fun t40 =>
          binW .add (s5.getD 0 undef) t40 fun t41 =>
          J7 [t41] w6) (
          J7 [(s5.getD 0 undef)] w6))
      fun s7 _ w8 =>
      binW .rem (s7.getD 0 undef) (.int .u64 1000000000) fun t44 =>
      bslW 122 1 [(.int .u64 0)] [(0, 1, t44)] w8 fun t45 w9 =>
      semE Tryz.prog (Builtin.append_ #[126, 126] 126 #[(s3.getD 0 undef), t45]) w9 fun t46 w10 =>
      binW .quo (s7.getD 0 undef) (.int .u64 1000000000) fun t48 =>
      binW .add (s3.getD 2 undef) (.int .i64 1) fun t49 =>
      L3 [t46, t48, t49] w10) (
      bslW 122 1 [(.int .u64 0)] [(0, 1, (s3.getD 1 undef))] w4 fun t52 w11 =>
      semE Tryz.prog (Builtin.append_ #[126, 126] 126 #[(s3.getD 0 undef), t52]) w11 fun t53 w12 =>
      K t53 w12)
theorem W164_eq (v0 v1 : Value) (w : World) (K : Value → World → Prop) : funW Tryz.prog Tryz.f164 plan164 [v0, v1] w K = W164 v0 v1 w K := by kernel_rfl
theorem W164_chk : chkFun Tryz.prog Tryz.f164 plan164 2 = true := by kernel_rfl
theorem W164_ok {v0 v1 : Value} {w : World} {K : Value → World → Prop} (h : W164 v0 v1 w K) : callF Tryz.prog 164 [v0, v1] w K :=
  tie Tryz.prog 164 Tryz.f164 plan164 [v0, v1] w K 2 (W164 v0 v1 w K) rfl mixed Tryz.func164 W164_chk (W164_eq v0 v1 w K) Tryz.call164 h
def plan165 : Plan := { js := [(14007, ⟨[32], [], 29⟩), (7010, ⟨[16], [], 8⟩), (4, ⟨[], [], 3⟩)], ds := [] }
def W165 (v0 : Value) (w : World) (K : Value → World → Prop) : Prop :=
  boxW 128 v0 w fun t1 w1 =>
  allocW 128 [(.bool false), (.slice none 0 0)] w1 fun t2 w2 =>
  LoopW [] w2 fun s3 _ w4 L3 =>
    fldW 1 t1 fun t3 =>
    ldW false 1 t3 w4 fun t4 =>
    lenlW t4 fun t5 =>
    binW .gtr t5 (.int .i64 0) fun t6 =>
    GdW (isB t6 true) [undef] w4 (fun J5 =>
      fldW 1 t1 fun t8 =>
      ldW false 1 t8 w4 fun t9 =>
      fldW 1 t1 fun t10 =>
      ldW false 1 t10 w4 fun t11 =>
      lenlW t11 fun t12 =>
      binW .sub t12 (.int .i64 1) fun t13 =>
      ixaW none 1 t9 t13 fun t14 =>
      ldW false 1 t14 w4 fun t15 =>
      binW .eql t15 (.int .u64 0) fun t16 =>
      J5 [t16] w4)
    fun s5 _ w6 =>
    pickW t6 (s5.getD 0 undef) (.bool false) fun t17 =>
    condW t17 (
      fldW 1 t1 fun t18 =>
      ldW false 1 t18 w6 fun t19 =>
      fldW 1 t1 fun t20 =>
      ldW false 1 t20 w6 fun t21 =>
      lenlW t21 fun t22 =>
      binW .sub t22 (.int .i64 1) fun t23 =>
      sllW 1 t19 none (some t23) none fun t24 =>
      fldW 1 t1 fun t25 =>
      stW 1 t25 t24 w6 fun w7 =>
      L3 [] w7) (
      fldW 0 t1 fun t26 =>
      ldW false 1 t26 w6 fun t27 =>
      GdW (isB t27 true) [undef] w6 (fun J8 =>
        fldW 1 t1 fun t29 =>
        ldW false 1 t29 w6 fun t30 =>
        lenlW t30 fun t31 =>
        binW .gtr t31 (.int .i64 0) fun t32 =>
        J8 [t32] w6)
      fun s8 _ w9 =>
      pickW t27 (s8.getD 0 undef) (.bool false) fun t33 =>
      fldW 0 t1 fun t34 =>
      stW 1 t34 t33 w9 fun w10 =>
      ldW true 2 t1 w10 fun t35 =>
      stW 2 t2 t35 w10 fun w11 =>
      ldW true 2 t2 w11 fun r12 =>
      K r12 w11)
theorem W165_eq (v0 : Value) (w : World) (K : Value → World → Prop) : funW Tryz.prog Tryz.f165 plan165 [v0] w K = W165 v0 w K := by kernel_rfl
theorem W165_chk : chkFun Tryz.prog Tryz.f165 plan165 1 = true := by kernel_rfl
theorem W165_ok {v0 : Value} {w : World} {K : Value → World → Prop} (h : W165 v0 w K) : callF Tryz.prog 165 [v0] w K :=
  tie Tryz.prog 165 Tryz.f165 plan165 [v0] w K 1 (W165 v0 w K) rfl mixed Tryz.func165 W165_chk (W165_eq v0 w K) Tryz.call165 h
def plan166 : Plan := { js := [(16, ⟨[6], [], 4⟩)], ds := [(26, ⟨[0, 1, 2, 3, 4, 5, 6, 7, 8, 9, 11], [[], [0], [], [0, 1, 2], [0, 1, 2, 3], [], [5], [], [5, 6, 7], [5, 6, 7, 8], [0, 1, 2, 3, 4, 5, 6, 7, 8, 9], [0, 1, 2, 3, 4, 5, 6, 7, 8, 9, 10]]⟩)] }
def W166 (v0 v1 : Value) (w : World) (K : Value → World → Prop) : Prop :=
  boxW 128 v0 w fun t2 w1 =>
  boxW 128 v1 w1 fun t3 w2 =>
  fldW 1 t2 fun t8 =>
  ldW false 1 t8 w2 fun t9 =>
  lenlW t9 fun t10 =>
  fldW 1 t3 fun t11 =>
  ldW false 1 t11 w2 fun t12 =>
  lenlW t12 fun t13 =>
  callF Tryz.prog 156 [t10, t13] w2 fun t14 w3 =>
  binW .neq t14 (.int .i64 0) fun t16 =>
  condW t16 (
    K t14 w3) (
    fldW 1 t2 fun t18 =>
    ldW false 1 t18 w3 fun t19 =>
    lenlW t19 fun t20 =>
    binW .sub t20 (.int .i64 1) fun t21 =>
    LoopW [t21] w3 fun s4 _ w5 L4 =>
      binW .geq (s4.getD 0 undef) (.int .i64 0) fun t23 =>
      condW t23 (
        fldW 1 t2 fun t26 =>
        ldW false 1 t26 w5.drew fun t27 =>
        ixaW none 1 t27 (s4.getD 0 undef) fun t29 =>
        ldW false 1 t29 w5.drew fun t30 =>
        fldW 1 t3 fun t31 =>
        ldW false 1 t31 w5.drew fun t32 =>
        ixaW none 1 t32 (s4.getD 0 undef) fun t34 =>
        ldW false 1 t34 w5.drew fun t35 =>
        callF Tryz.prog 188 [t30, t35] w5.drew fun t36 w6 =>
        binW .neq t36 (.int .i64 0) fun t38 =>
        condW t38 (
          K t36 w6) (
          binW .sub (s4.getD 0 undef) (.int .i64 1) fun t25 =>
          L4 [t25] w6)) (
        K (.int .i64 0) w5))
theorem W166_eq (v0 v1 : Value) (w : World) (K : Value → World → Prop) : funW Tryz.prog Tryz.f166 plan166 [v0, v1] w K = W166 v0 v1 w K := by kernel_rfl
theorem W166_chk : chkFun Tryz.prog Tryz.f166 plan166 2 = true := by kernel_rfl
theorem W166_ok {v0 v1 : Value} {w : World} {K : Value → World → Prop} (h : W166 v0 v1 w K) : callF Tryz.prog 166 [v0, v1] w K :=
  tie Tryz.prog 166 Tryz.f166 plan166 [v0, v1] w K 2 (W166 v0 v1 w K) rfl mixed Tryz.func166 W166_chk (W166_eq v0 v1 w K) Tryz.call166 h
def plan167 : Plan := { js := [(31, ⟨[6, 8], [6, 8], 14⟩), (23, ⟨[9], [9], 14⟩), (10, ⟨[5, 6, 13], [5, 6, 7, 8, 9], 13⟩)], ds := [] }
def W167 (v0 v1 : Value) (w : World) (K : Value → World → Prop) : Prop :=
  boxW 128 v0 w fun t2 w1 =>
  boxW 128 v1 w1 fun t3 w2 =>
  fldW 1 t2 fun t10 =>
  ldW false 1 t10 w2 fun t11 =>
  lenlW t11 fun t12 =>
  LoopW [(.slice none 0 0), (.int .u64 0), (.int .i64 0)] w2 fun s3 _ w4 L3 =>
    binW .lss (s3.getD 2 undef) t12 fun t14 =>
    condW t14 (
      ixaW none 1 t11 (s3.getD 2 undef) fun t16 =>
      ldW false 1 t16 w4 fun t17 =>
      JoinW (fun J5 =>
        fldW 1 t3 fun t20 =>
        ldW false 1 t20 w4 fun t21 =>
        lenlW t21 fun t22 =>
        binW .lss (s3.getD 2 undef) t22 fun t23 =>
        condW t23 (
          fldW 1 t3 fun t25 =>
          ldW false 1 t25 w4 fun t26 =>
          ixaW none 1 t26 (s3.getD 2 undef) fun t28 =>
          ldW false 1 t28 w4 fun t29 =>
          binW .add (s3.getD 1 undef) t29 fun t30 =>
          J5 [t30] w4) (
          J5 [(s3.getD 1 undef)] w4))
      fun s5 _ w6 =>
      JoinW (fun J7 =>
        binW .lss t17 (s5.getD 0 undef) fun t33 =>
        condW t33 (
          binW .add t17 (.int .u64 1000000000) fun t35 =>
          J7 [(.int .u64 1), t35] w6) (
          J7 [(.int .u64 0), t17] w6))
      fun s7 _ w8 =>
      binW .sub (s7.getD 1 undef) (s5.getD 0 undef) fun t39 =>
      bslW 122 1 [(.int .u64 0)] [(0, 1, t39)] w8 fun t40 w9 =>
      semE Tryz.prog (Builtin.append_ #[126, 126] 126 #[(s3.getD 0 undef), t40]) w9 fun t41 w10 =>
      binW .add (s3.getD 2 undef) (.int .i64 1) fun t42 =>
      L3 [t41, (s7.getD 0 undef), t42] w10) (
      K (s3.getD 0 undef) w4)
theorem W167_eq (v0 v1 : Value) (w : World) (K : Value → World → Prop) : funW Tryz.prog Tryz.f167 plan167 [v0, v1] w K = W167 v0 v1 w K := by kernel_rfl
theorem W167_chk : chkFun Tryz.prog Tryz.f167 plan167 2 = true := by kernel_rfl
theorem W167_ok {v0 v1 : Value} {w : World} {K : Value → World → Prop} (h : W167 v0 v1 w K) : callF Tryz.prog 167 [v0, v1] w K :=
  tie Tryz.prog 167 Tryz.f167 plan167 [v0, v1] w K 2 (W167 v0 v1 w K) rfl mixed Tryz.func167 W167_chk (W167_eq v0 v1 w K) Tryz.call167 h
def plan168 : Plan := { js := [], ds := [] }
def W168 (v0 v1 : Value) (w : World) (K : Value → World → Prop) : Prop :=
  callF Tryz.prog 189 [v0, v1] w fun t8 w1 =>
  extW 0 t8 fun t9 =>
  extW 1 t8 fun t10 =>
  K (.tuple #[t9, t10]) w1
theorem W168_eq (v0 v1 : Value) (w : World) (K : Value → World → Prop) : funW Tryz.prog Tryz.f168 plan168 [v0, v1] w K = W168 v0 v1 w K := by kernel_rfl
theorem W168_chk : chkFun Tryz.prog Tryz.f168 plan168 2 = true := by kernel_rfl
theorem W168_ok {v0 v1 : Value} {w : World} {K : Value → World → Prop} (h : W168 v0 v1 w K) : callF Tryz.prog 168 [v0, v1] w K :=
  tie Tryz.prog 168 Tryz.f168 plan168 [v0, v1] w K 2 (W168 v0 v1 w K) rfl mixed Tryz.func168 W168_chk (W168_eq v0 v1 w K) Tryz.call168 h
def plan188 : Plan := { js := [], ds := [] }
def W188 (v0 v1 : Value) (w : World) (K : Value → World → Prop) : Prop :=
  callF Tryz.prog 208 [v0] w fun t8 w1 =>
  callF Tryz.prog 208 [v1] w1 fun t10 w2 =>
  condW t8 (
    condW t10 (
      K (.int .i64 0) w2) (
      K (.int .i64 (-1)) w2)) (
    condW t10 (
      K (.int .i64 1) w2) (
      binW .lss v0 v1 fun t16 =>
      condW t16 (
        K (.int .i64 (-1)) w2) (
        binW .gtr v0 v1 fun t19 =>
        condW t19 (
          K (.int .i64 1) w2) (
          K (.int .i64 0) w2))))
theorem W188_eq (v0 v1 : Value) (w : World) (K : Value → World → Prop) : funW Tryz.prog Tryz.f188 plan188 [v0, v1] w K = W188 v0 v1 w K := by kernel_rfl
theorem W188_chk : chkFun Tryz.prog Tryz.f188 plan188 2 = true := by kernel_rfl
theorem W188_ok {v0 v1 : Value} {w : World} {K : Value → World → Prop} (h : W188 v0 v1 w K) : callF Tryz.prog 188 [v0, v1] w K :=
  tie Tryz.prog 188 Tryz.f188 plan188 [v0, v1] w K 2 (W188 v0 v1 w K) rfl mixed Tryz.func188 W188_chk (W188_eq v0 v1 w K) Tryz.call188 h
def plan189 : Plan := { js := [], ds := [] }
def W189 (v0 v1 : Value) (w : World) (K : Value → World → Prop) : Prop :=
  callF Tryz.prog 129 [v0, v1] w fun t8 w1 =>
  unW .not t8 fun t9 =>
  condW t9 (
    K (.tuple #[v0, (.bool false)]) w1) (
    lensW v1 fun t13 =>
    slsW v0 (some t13) none fun t14 =>
    K (.tuple #[t14, (.bool true)]) w1)
theorem W189_eq (v0 v1 : Value) (w : World) (K : Value → World → Prop) : funW Tryz.prog Tryz.f189 plan189 [v0, v1] w K = W189 v0 v1 w K := by kernel_rfl
theorem W189_chk : chkFun Tryz.prog Tryz.f189 plan189 2 = true := by kernel_rfl
theorem W189_ok {v0 v1 : Value} {w : World} {K : Value → World → Prop} (h : W189 v0 v1 w K) : callF Tryz.prog 189 [v0, v1] w K :=
  tie Tryz.prog 189 Tryz.f189 plan189 [v0, v1] w K 2 (W189 v0 v1 w K) rfl mixed Tryz.func189 W189_chk (W189_eq v0 v1 w K) Tryz.call189 h
def plan208 : Plan := { js := [], ds := [] }
def W208 (v0 : Value) (w : World) (K : Value → World → Prop) : Prop :=
  binW .neq v0 v0 fun t5 =>
  K t5 w
theorem W208_eq (v0 : Value) (w : World) (K : Value → World → Prop) : funW Tryz.prog Tryz.f208 plan208 [v0] w K = W208 v0 w K := by kernel_rfl
theorem W208_chk : chkFun Tryz.prog Tryz.f208 plan208 1 = true := by kernel_rfl
theorem W208_ok {v0 : Value} {w : World} {K : Value → World → Prop} (h : W208 v0 w K) : callF Tryz.prog 208 [v0] w K :=
  tie Tryz.prog 208 Tryz.f208 plan208 [v0] w K 1 (W208 v0 w K) rfl mixed Tryz.func208 W208_chk (W208_eq v0 w K) Tryz.call208 h
def plan163 : Plan := { js := [], ds := [] }
def W163 (v0 : Value) (w : World) (K : Value → World → Prop) : Prop :=
  binW .neq v0 v0 fun t5 =>
  K t5 w
theorem W163_eq (v0 : Value) (w : World) (K : Value → World → Prop) : funW Tryz.prog Tryz.f163 plan163 [v0] w K = W163 v0 w K := by kernel_rfl
theorem W163_chk : chkFun Tryz.prog Tryz.f163 plan163 1 = true := by kernel_rfl
theorem W163_ok {v0 : Value} {w : World} {K : Value → World → Prop} (h : W163 v0 w K) : callF Tryz.prog 163 [v0] w K :=
  tie Tryz.prog 163 Tryz.f163 plan163 [v0] w K 1 (W163 v0 w K) rfl mixed Tryz.func163 W163_chk (W163_eq v0 w K) Tryz.call163 h
def plan47 : Plan := { js := [], ds := [] }
def W47 (v0 v1 : Value) (w : World) (K : Value → World → Prop) : Prop :=
  callF Tryz.prog 89 [v0, v1] w fun t7 w1 =>
  K t7 w1
theorem W47_eq (v0 v1 : Value) (w : World) (K : Value → World → Prop) : funW Tryz.prog Tryz.f47 plan47 [v0, v1] w K = W47 v0 v1 w K := by kernel_rfl
theorem W47_chk : chkFun Tryz.prog Tryz.f47 plan47 2 = true := by kernel_rfl
theorem W47_ok {v0 v1 : Value} {w : World} {K : Value → World → Prop} (h : W47 v0 v1 w K) : callF Tryz.prog 47 [v0, v1] w K :=
  tie Tryz.prog 47 Tryz.f47 plan47 [v0, v1] w K 2 (W47 v0 v1 w K) rfl mixed Tryz.func47 W47_chk (W47_eq v0 v1 w K) Tryz.call47 h
def plan89 : Plan := { js := [], ds := [] }
def W89 (v0 v1 : Value) (w : World) (K : Value → World → Prop) : Prop :=
  callF Tryz.prog 129 [v0, v1] w fun t7 w1 =>
  condW t7 (
    lensW v1 fun t10 =>
    slsW v0 (some t10) none fun t11 =>
    K t11 w1) (
    K v0 w1)
theorem W89_eq (v0 v1 : Value) (w : World) (K : Value → World → Prop) : funW Tryz.prog Tryz.f89 plan89 [v0, v1] w K = W89 v0 v1 w K := by kernel_rfl
theorem W89_chk : chkFun Tryz.prog Tryz.f89 plan89 2 = true := by kernel_rfl
theorem W89_ok {v0 v1 : Value} {w : World} {K : Value → World → Prop} (h : W89 v0 v1 w K) : callF Tryz.prog 89 [v0, v1] w K :=
  tie Tryz.prog 89 Tryz.f89 plan89 [v0, v1] w K 2 (W89 v0 v1 w K) rfl mixed Tryz.func89 W89_chk (W89_eq v0 v1 w K) Tryz.call89 h
def plan124 : Plan := { js := [(3005, ⟨[15], [], 13⟩), (3010, ⟨[10], [], 8⟩)], ds := [] }
def W124 (v0 v1 : Value) (w : World) (K : Value → World → Prop) : Prop :=
  callF Tryz.prog 154 [v0] w fun t6 w1 =>
  GdW (isB t6 true) [undef] w1 (fun J2 =>
    callF Tryz.prog 154 [v1] w1 fun t9 w3 =>
    unW .not t9 fun t10 =>
    J2 [t10] w3)
  fun s2 _ w4 =>
  pickW t6 (s2.getD 0 undef) (.bool false) fun t11 =>
  GdW (isB t11 false) [undef] w4 (fun J5 =>
    binW .lss v0 v1 fun t15 =>
    J5 [t15] w4)
  fun s5 _ w6 =>
  pickW t11 (.bool true) (s5.getD 0 undef) fun t16 =>
  K t16 w6
theorem W124_eq (v0 v1 : Value) (w : World) (K : Value → World → Prop) : funW Tryz.prog Tryz.f124 plan124 [v0, v1] w K = W124 v0 v1 w K := by kernel_rfl
theorem W124_chk : chkFun Tryz.prog Tryz.f124 plan124 2 = true := by kernel_rfl
theorem W124_ok {v0 v1 : Value} {w : World} {K : Value → World → Prop} (h : W124 v0 v1 w K) : callF Tryz.prog 124 [v0, v1] w K :=
  tie Tryz.prog 124 Tryz.f124 plan124 [v0, v1] w K 2 (W124 v0 v1 w K) rfl mixed Tryz.func124 W124_chk (W124_eq v0 v1 w K) Tryz.call124 h
def plan154 : Plan := { js := [], ds := [] }
def W154 (v0 : Value) (w : World) (K : Value → World → Prop) : Prop :=
  binW .neq v0 v0 fun t5 =>
  K t5 w
theorem W154_eq (v0 : Value) (w : World) (K : Value → World → Prop) : funW Tryz.prog Tryz.f154 plan154 [v0] w K = W154 v0 w K := by kernel_rfl
theorem W154_chk : chkFun Tryz.prog Tryz.f154 plan154 1 = true := by kernel_rfl
theorem W154_ok {v0 : Value} {w : World} {K : Value → World → Prop} (h : W154 v0 w K) : callF Tryz.prog 154 [v0] w K :=
  tie Tryz.prog 154 Tryz.f154 plan154 [v0] w K 1 (W154 v0 w K) rfl mixed Tryz.func154 W154_chk (W154_eq v0 w K) Tryz.call154 h
end Go.Proofs.YtdkikjcpgihjlaaGreatDoor
namespace Go.Proofs
open Go.Shelf
def Tryz.lays156_ren : Go.Shelf.Ren := ⟨fun | 156 => 94 | 165 => 108 | 166 => 109 | 169 => 111 | 240 => 143 | 241 => 144 | 276 => 177 | 277 => 178 | n => n, fun | 31 => 26 | 9 => 9 | 3 => 3 | 4 => 4 | 0 => 0 | 20 => 20 | 72 => 103 | 76 => 107 | 70 => 101 | 37 => 66 | 75 => 106 | 127 => 137 | 164 => 158 | 5 => 5 | 80 => 110 | n => n, fun | n => n⟩
theorem Tryz.lays156 : Go.Proofs.Lays.n156 Tryz.prog Tryz.lays156_ren := {
  mixed := by kernel_rfl
  f156 := Tryz.func94.trans (congrArg some (by kernel_rfl))
  f165 := Tryz.func108.trans (congrArg some (by kernel_rfl))
  f166 := Tryz.func109.trans (congrArg some (by kernel_rfl))
  f169 := Tryz.func111.trans (congrArg some (by kernel_rfl))
  f240 := Tryz.func143.trans (congrArg some (by kernel_rfl))
  f241 := Tryz.func144.trans (congrArg some (by kernel_rfl))
  f276 := Tryz.func177.trans (congrArg some (by kernel_rfl))
  f277 := Tryz.func178.trans (congrArg some (by kernel_rfl))
  t0 := Tryz.underlying0
  a0 := Tryz.isAgg0
  z0 := Tryz.sizeOf0
  v0 := Tryz.zeroValue0
  t3 := Tryz.underlying3
  a3 := Tryz.isAgg3
  z3 := Tryz.sizeOf3
  v3 := Tryz.zeroValue3
  t4 := Tryz.underlying4
  a4 := Tryz.isAgg4
  z4 := Tryz.sizeOf4
  v4 := Tryz.zeroValue4
  t9 := Tryz.underlying9
  a9 := Tryz.isAgg9
  z9 := Tryz.sizeOf9
  v9 := Tryz.zeroValue9
  t20 := Tryz.underlying20
  a20 := Tryz.isAgg20
  z20 := Tryz.sizeOf20
  v20 := Tryz.zeroValue20
  t31 := Tryz.underlying26
  a31 := Tryz.isAgg26
  z31 := Tryz.sizeOf26
  v31 := Tryz.zeroValue26
  t37 := Tryz.underlying66
  a37 := Tryz.isAgg66
  z37 := Tryz.sizeOf66
  v37 := Tryz.zeroValue66
  t70 := Tryz.underlying101
  a70 := Tryz.isAgg101
  z70 := Tryz.sizeOf101
  v70 := Tryz.zeroValue101
  t72 := Tryz.underlying103
  a72 := Tryz.isAgg103
  z72 := Tryz.sizeOf103
  v72 := Tryz.zeroValue103
  t75 := Tryz.underlying106
  a75 := Tryz.isAgg106
  z75 := Tryz.sizeOf106
  v75 := Tryz.zeroValue106
  t76 := Tryz.underlying107
  a76 := Tryz.isAgg107
  z76 := Tryz.sizeOf107
  v76 := Tryz.zeroValue107
  t127 := Tryz.underlying137
  a127 := Tryz.isAgg137
  z127 := Tryz.sizeOf137
  v127 := Tryz.zeroValue137
  t164 := Tryz.underlying158
  a164 := Tryz.isAgg158
  z164 := Tryz.sizeOf158
  v164 := Tryz.zeroValue158 }
theorem Tryz.Builder_Extra_156 : Builder.Extra Tryz.prog Tryz.lays156_ren := {
  sizeBuilder := by kernel_rfl
  liesBuilder := by kernel_rfl
  t5 := Tryz.underlying5
  a5 := Tryz.isAgg5
  z5 := Tryz.sizeOf5
  v5 := Tryz.zeroValue5
  infoByte := by kernel_rfl
  cellsByte := by kernel_rfl
  sizeByte := by kernel_rfl
  neB5 := by decide }
open Go.RowKit in
theorem Tryz.strings_Join_none (a : Option Addr) (c : Nat) (sep : ByteArray) (w : World) :
    Calls Tryz.prog 94 #[.slice a 0 c, .string sep] w fun e w' => e = .returned (.string ⟨#[]⟩) ∧ w' = w := Any.strings_Join_none Tryz.lays156 Tryz.Builder_Extra_156 a c sep w
open Go.RowKit in
theorem Tryz.strings_Join (bk o c : Nat) (xs : List ByteArray) (sep : ByteArray) (w : World) (hcells : ∀ (j : Nat) x, xs[j]? = some x → w.cell? ⟨bk, o + j, none⟩ = some (.string x)) (hbk : bk < w.heap.size) (hN : xs.length ≤ 140737488355328) (hcap : xs.length ≤ c) (hlen : (Lib.join (xs.map (·.data.toList)) sep.data.toList).length ≤ 140737488355328) :
    Calls Tryz.prog 94 #[.slice (some ⟨bk, o, none⟩) xs.length c, .string sep] w fun e w' => e = .returned (.string ⟨(Lib.join (xs.map (·.data.toList)) sep.data.toList).toArray⟩) ∧ Below w.heap.size w w' := Any.strings_Join Tryz.lays156 Tryz.Builder_Extra_156 bk o c xs sep w hcells hbk hN hcap hlen
def Tryz.lays106_ren : Go.Shelf.Ren := ⟨fun | 106 => 158 | 213 => 185 | 265 => 206 | n => n, fun | 9 => 9 | 3 => 3 | n => n, fun | n => n⟩
theorem Tryz.lays106 : Go.Proofs.Lays.n106 Tryz.prog Tryz.lays106_ren := {
  mixed := by kernel_rfl
  f106 := Tryz.func158.trans (congrArg some (by kernel_rfl))
  f213 := Tryz.func185.trans (congrArg some (by kernel_rfl))
  f265 := Tryz.func206.trans (congrArg some (by kernel_rfl))
  t3 := Tryz.underlying3
  a3 := Tryz.isAgg3
  z3 := Tryz.sizeOf3
  v3 := Tryz.zeroValue3
  t9 := Tryz.underlying9
  a9 := Tryz.isAgg9
  z9 := Tryz.sizeOf9
  v9 := Tryz.zeroValue9 }
open Go.RowKit in
theorem Tryz.strings_Compare (a b : ByteArray) (w : World) :
    Calls Tryz.prog 158 #[.string a, .string b] w fun e w' => e = .returned (.int .i64 (Lib.compareBytes a.data.toList b.data.toList)) ∧ w' = w := Any.strings_Compare Tryz.lays106 a b w
def Tryz.lays104_ren : Go.Shelf.Ren := ⟨fun | 104 => 72 | 211 => 105 | 207 => 140 | n => n, fun | 9 => 9 | 4 => 4 | 24 => 78 | 3 => 3 | n => n, fun | n => n⟩
theorem Tryz.lays104 : Go.Proofs.Lays.n104 Tryz.prog Tryz.lays104_ren := {
  mixed := by kernel_rfl
  f104 := Tryz.func72.trans (congrArg some (by kernel_rfl))
  f207 := Tryz.func140.trans (congrArg some (by kernel_rfl))
  f211 := Tryz.func105.trans (congrArg some (by kernel_rfl))
  t3 := Tryz.underlying3
  a3 := Tryz.isAgg3
  z3 := Tryz.sizeOf3
  v3 := Tryz.zeroValue3
  t4 := Tryz.underlying4
  a4 := Tryz.isAgg4
  z4 := Tryz.sizeOf4
  v4 := Tryz.zeroValue4
  t9 := Tryz.underlying9
  a9 := Tryz.isAgg9
  z9 := Tryz.sizeOf9
  v9 := Tryz.zeroValue9
  t24 := Tryz.underlying78
  a24 := Tryz.isAgg78
  z24 := Tryz.sizeOf78
  v24 := Tryz.zeroValue78 }
open Go.RowKit in
theorem Tryz.strings_CutSuffix (s p : ByteArray) (w : World) (hs : s.size ≤ 9223372036854775807) :
    Calls Tryz.prog 72 #[.string s, .string p] w fun e w' => e = .returned (.tuple #[.string ⟨(Lib.trimSuffix s.data.toList p.data.toList).toArray⟩, .bool (Lib.hasSuffix s.data.toList p.data.toList)]) ∧ w' = w := Any.strings_CutSuffix Tryz.lays104 s p w hs
def Tryz.laysM171_ren : Go.Shelf.Ren := ⟨fun | 171 => 162 | 243 => 187 | 246 => 207 | 283 => 220 | 284 => 221 | 285 => 222 | 286 => 223 | 129 => 128 | 317 => 226 | 318 => 227 | 319 => 228 | 320 => 229 | 337 => 230 | 338 => 231 | n => n, fun | 3 => 3 | 9 => 9 | 2 => 2 | 4 => 4 | 171 => 187 | 0 => 0 | 53 => 122 | 37 => 66 | 5 => 5 | 173 => 189 | 212 => 199 | 51 => 120 | 20 => 20 | 213 => 200 | 46 => 37 | 232 => 201 | 233 => 202 | n => n, fun | 17 => 5 | 18 => 6 | 19 => 7 | n => n⟩
theorem Tryz.laysM171 : Go.Proofs.LaysM.n171 Tryz.prog Tryz.laysM171_ren := {
  mixed := by kernel_rfl
  f129 := Tryz.func128.trans (congrArg some (by kernel_rfl))
  f171 := Tryz.func162.trans (congrArg some (by kernel_rfl))
  f243 := Tryz.func187.trans (congrArg some (by kernel_rfl))
  f246 := Tryz.func207.trans (congrArg some (by kernel_rfl))
  f283 := Tryz.func220.trans (congrArg some (by kernel_rfl))
  f284 := Tryz.func221.trans (congrArg some (by kernel_rfl))
  f285 := Tryz.func222.trans (congrArg some (by kernel_rfl))
  f286 := Tryz.func223.trans (congrArg some (by kernel_rfl))
  f317 := Tryz.func226.trans (congrArg some (by kernel_rfl))
  f318 := Tryz.func227.trans (congrArg some (by kernel_rfl))
  f319 := Tryz.func228.trans (congrArg some (by kernel_rfl))
  f320 := Tryz.func229.trans (congrArg some (by kernel_rfl))
  f337 := Tryz.func230.trans (congrArg some (by kernel_rfl))
  f338 := Tryz.func231.trans (congrArg some (by kernel_rfl))
  t0 := Tryz.underlying0
  a0 := Tryz.isAgg0
  z0 := Tryz.sizeOf0
  v0 := Tryz.zeroValue0
  t2 := Tryz.underlying2
  a2 := Tryz.isAgg2
  z2 := Tryz.sizeOf2
  v2 := Tryz.zeroValue2
  t3 := Tryz.underlying3
  a3 := Tryz.isAgg3
  z3 := Tryz.sizeOf3
  v3 := Tryz.zeroValue3
  t4 := Tryz.underlying4
  a4 := Tryz.isAgg4
  z4 := Tryz.sizeOf4
  v4 := Tryz.zeroValue4
  t5 := Tryz.underlying5
  a5 := Tryz.isAgg5
  z5 := Tryz.sizeOf5
  v5 := Tryz.zeroValue5
  t9 := Tryz.underlying9
  a9 := Tryz.isAgg9
  z9 := Tryz.sizeOf9
  v9 := Tryz.zeroValue9
  t20 := Tryz.underlying20
  a20 := Tryz.isAgg20
  z20 := Tryz.sizeOf20
  v20 := Tryz.zeroValue20
  t37 := Tryz.underlying66
  a37 := Tryz.isAgg66
  z37 := Tryz.sizeOf66
  v37 := Tryz.zeroValue66
  t46 := Tryz.underlying37
  a46 := Tryz.isAgg37
  z46 := Tryz.sizeOf37
  v46 := Tryz.zeroValue37
  t51 := Tryz.underlying120
  a51 := Tryz.isAgg120
  z51 := Tryz.sizeOf120
  v51 := Tryz.zeroValue120
  t53 := Tryz.underlying122
  a53 := Tryz.isAgg122
  z53 := Tryz.sizeOf122
  v53 := Tryz.zeroValue122
  t171 := Tryz.underlying187
  a171 := Tryz.isAgg187
  z171 := Tryz.sizeOf187
  v171 := Tryz.zeroValue187
  t173 := Tryz.underlying189
  a173 := Tryz.isAgg189
  z173 := Tryz.sizeOf189
  v173 := Tryz.zeroValue189
  t212 := Tryz.underlying199
  a212 := Tryz.isAgg199
  z212 := Tryz.sizeOf199
  v212 := Tryz.zeroValue199
  t213 := Tryz.underlying200
  a213 := Tryz.isAgg200
  z213 := Tryz.sizeOf200
  t232 := Tryz.underlying201
  a232 := Tryz.isAgg201
  z232 := Tryz.sizeOf201
  v232 := Tryz.zeroValue201
  t233 := Tryz.underlying202
  a233 := Tryz.isAgg202
  z233 := Tryz.sizeOf202
  v233 := Tryz.zeroValue202
  g17 := by kernel_rfl
  g18 := by kernel_rfl
  g19 := by kernel_rfl
  i0 := by kernel_rfl
  i2 := by kernel_rfl
  i3 := by kernel_rfl
  i4 := by kernel_rfl
  i5 := by kernel_rfl
  i9 := by kernel_rfl
  i20 := by kernel_rfl
  i37 := by kernel_rfl
  i46 := by kernel_rfl
  i51 := by kernel_rfl
  i53 := by kernel_rfl
  i171 := by kernel_rfl
  i173 := by kernel_rfl
  i212 := by kernel_rfl
  i232 := by kernel_rfl
  i233 := by kernel_rfl
  m17 := by kernel_rfl
  m18 := by kernel_rfl
  m19 := by kernel_rfl }
open Go.RowKit Go.Sort Go.Lib in
theorem Tryz.strconv_Itoa (n : Int) (h0 : -9223372036854775808 ≤ n) (h1 : n ≤ 9223372036854775807) (w : World) (htab : Lib.TabIs Tryz.prog w "internal/strconv.uint64pow10" .u64 Lib.pow10Tab) :
    Calls Tryz.prog 162 #[.int .i64 n] w fun e w' => e = .returned (.string ⟨(Lib.itoa n).toArray⟩) ∧ ∃ k os, w' = grow (w.drewN k) os := Any.strconv_Itoa Tryz.laysM171 n h0 h1 w htab
def Tryz.laysC245_ren : Go.Shelf.Ren := ⟨fun | 245 => 173 | 279 => 196 | 280 => 197 | 281 => 198 | 282 => 199 | 316 => 213 | 171 => 162 | 205 => 214 | 243 => 187 | 246 => 207 | 283 => 220 | 284 => 221 | 285 => 222 | 286 => 223 | 129 => 128 | 317 => 226 | 318 => 227 | 319 => 228 | 320 => 229 | 337 => 230 | 338 => 231 | n => n, fun | 9 => 9 | 3 => 3 | 75 => 106 | 167 => 171 | 4 => 4 | 168 => 174 | 210 => 184 | 37 => 66 | 0 => 0 | 127 => 137 | 145 => 193 | 143 => 191 | 2 => 2 | 171 => 187 | 53 => 122 | 5 => 5 | 173 => 189 | 212 => 199 | 51 => 120 | 20 => 20 | 213 => 200 | 46 => 37 | 232 => 201 | 233 => 202 | 80 => 110 | n => n, fun | 15 => 1 | 16 => 2 | 17 => 5 | 18 => 6 | 19 => 7 | n => n⟩
theorem Tryz.laysC245 : Go.Proofs.LaysC.n245 Tryz.prog Tryz.laysC245_ren := {
  mixed := by kernel_rfl
  f129 := Tryz.func128.trans (congrArg some (by kernel_rfl))
  f171 := Tryz.func162.trans (congrArg some (by kernel_rfl))
  f205 := Tryz.func214.trans (congrArg some (by kernel_rfl))
  f243 := Tryz.func187.trans (congrArg some (by kernel_rfl))
  f245 := Tryz.func173.trans (congrArg some (by kernel_rfl))
  f246 := Tryz.func207.trans (congrArg some (by kernel_rfl))
  f279 := Tryz.func196.trans (congrArg some (by kernel_rfl))
  f280 := Tryz.func197.trans (congrArg some (by kernel_rfl))
  f281 := Tryz.func198.trans (congrArg some (by kernel_rfl))
  f282 := Tryz.func199.trans (congrArg some (by kernel_rfl))
  f283 := Tryz.func220.trans (congrArg some (by kernel_rfl))
  f284 := Tryz.func221.trans (congrArg some (by kernel_rfl))
  f285 := Tryz.func222.trans (congrArg some (by kernel_rfl))
  f286 := Tryz.func223.trans (congrArg some (by kernel_rfl))
  f316 := Tryz.func213.trans (congrArg some (by kernel_rfl))
  f317 := Tryz.func226.trans (congrArg some (by kernel_rfl))
  f318 := Tryz.func227.trans (congrArg some (by kernel_rfl))
  f319 := Tryz.func228.trans (congrArg some (by kernel_rfl))
  f320 := Tryz.func229.trans (congrArg some (by kernel_rfl))
  f337 := Tryz.func230.trans (congrArg some (by kernel_rfl))
  f338 := Tryz.func231.trans (congrArg some (by kernel_rfl))
  t0 := Tryz.underlying0
  a0 := Tryz.isAgg0
  z0 := Tryz.sizeOf0
  v0 := Tryz.zeroValue0
  t2 := Tryz.underlying2
  a2 := Tryz.isAgg2
  z2 := Tryz.sizeOf2
  v2 := Tryz.zeroValue2
  t3 := Tryz.underlying3
  a3 := Tryz.isAgg3
  z3 := Tryz.sizeOf3
  v3 := Tryz.zeroValue3
  t4 := Tryz.underlying4
  a4 := Tryz.isAgg4
  z4 := Tryz.sizeOf4
  v4 := Tryz.zeroValue4
  t5 := Tryz.underlying5
  a5 := Tryz.isAgg5
  z5 := Tryz.sizeOf5
  v5 := Tryz.zeroValue5
  t9 := Tryz.underlying9
  a9 := Tryz.isAgg9
  z9 := Tryz.sizeOf9
  v9 := Tryz.zeroValue9
  t20 := Tryz.underlying20
  a20 := Tryz.isAgg20
  z20 := Tryz.sizeOf20
  v20 := Tryz.zeroValue20
  t37 := Tryz.underlying66
  a37 := Tryz.isAgg66
  z37 := Tryz.sizeOf66
  v37 := Tryz.zeroValue66
  t46 := Tryz.underlying37
  a46 := Tryz.isAgg37
  z46 := Tryz.sizeOf37
  v46 := Tryz.zeroValue37
  t51 := Tryz.underlying120
  a51 := Tryz.isAgg120
  z51 := Tryz.sizeOf120
  v51 := Tryz.zeroValue120
  t53 := Tryz.underlying122
  a53 := Tryz.isAgg122
  z53 := Tryz.sizeOf122
  v53 := Tryz.zeroValue122
  t75 := Tryz.underlying106
  a75 := Tryz.isAgg106
  z75 := Tryz.sizeOf106
  v75 := Tryz.zeroValue106
  t127 := Tryz.underlying137
  a127 := Tryz.isAgg137
  z127 := Tryz.sizeOf137
  v127 := Tryz.zeroValue137
  t143 := Tryz.underlying191
  a143 := Tryz.isAgg191
  z143 := Tryz.sizeOf191
  v143 := Tryz.zeroValue191
  t145 := Tryz.underlying193
  a145 := Tryz.isAgg193
  z145 := Tryz.sizeOf193
  v145 := Tryz.zeroValue193
  t167 := Tryz.underlying171
  a167 := Tryz.isAgg171
  z167 := Tryz.sizeOf171
  v167 := Tryz.zeroValue171
  t168 := Tryz.underlying174
  a168 := Tryz.isAgg174
  z168 := Tryz.sizeOf174
  v168 := Tryz.zeroValue174
  t171 := Tryz.underlying187
  a171 := Tryz.isAgg187
  z171 := Tryz.sizeOf187
  v171 := Tryz.zeroValue187
  t173 := Tryz.underlying189
  a173 := Tryz.isAgg189
  z173 := Tryz.sizeOf189
  v173 := Tryz.zeroValue189
  t210 := Tryz.underlying184
  a210 := Tryz.isAgg184
  z210 := Tryz.sizeOf184
  v210 := Tryz.zeroValue184
  t212 := Tryz.underlying199
  a212 := Tryz.isAgg199
  z212 := Tryz.sizeOf199
  v212 := Tryz.zeroValue199
  t213 := Tryz.underlying200
  a213 := Tryz.isAgg200
  z213 := Tryz.sizeOf200
  t232 := Tryz.underlying201
  a232 := Tryz.isAgg201
  z232 := Tryz.sizeOf201
  v232 := Tryz.zeroValue201
  t233 := Tryz.underlying202
  a233 := Tryz.isAgg202
  z233 := Tryz.sizeOf202
  v233 := Tryz.zeroValue202
  g15 := by kernel_rfl
  g16 := by kernel_rfl
  g17 := by kernel_rfl
  g18 := by kernel_rfl
  g19 := by kernel_rfl
  t80 := Tryz.underlying110
  a80 := Tryz.isAgg110
  z80 := Tryz.sizeOf110
  v80 := Tryz.zeroValue110
  i0 := by kernel_rfl
  i2 := by kernel_rfl
  i3 := by kernel_rfl
  i4 := by kernel_rfl
  i5 := by kernel_rfl
  i9 := by kernel_rfl
  i20 := by kernel_rfl
  i37 := by kernel_rfl
  i46 := by kernel_rfl
  i51 := by kernel_rfl
  i53 := by kernel_rfl
  i75 := by kernel_rfl
  i80 := by kernel_rfl
  i127 := by kernel_rfl
  i143 := by kernel_rfl
  i145 := by kernel_rfl
  i167 := by kernel_rfl
  i168 := by kernel_rfl
  i171 := by kernel_rfl
  i173 := by kernel_rfl
  i210 := by kernel_rfl
  i212 := by kernel_rfl
  i232 := by kernel_rfl
  i233 := by kernel_rfl
  m15 := by kernel_rfl
  m16 := by kernel_rfl
  m17 := by kernel_rfl
  m18 := by kernel_rfl
  m19 := by kernel_rfl
  c0 := by kernel_rfl
  c2 := by kernel_rfl
  c3 := by kernel_rfl
  c4 := by kernel_rfl
  c5 := by kernel_rfl
  c9 := by kernel_rfl
  c20 := by kernel_rfl
  c37 := by kernel_rfl
  c46 := by kernel_rfl
  c51 := by kernel_rfl
  c53 := by kernel_rfl
  c75 := by kernel_rfl
  c80 := by kernel_rfl
  c127 := by kernel_rfl
  c143 := by kernel_rfl
  c145 := by kernel_rfl
  c167 := by kernel_rfl
  c168 := by kernel_rfl
  c171 := by kernel_rfl
  c173 := by kernel_rfl
  c210 := by kernel_rfl
  c212 := by kernel_rfl
  c213 := by kernel_rfl
  c232 := by kernel_rfl
  c233 := by kernel_rfl }
open Go.RowKit in
theorem Tryz.strconv_toError_syntax (fn s : ByteArray) (base bits : Int) (ev : Value) (w : World) (hlim : s.size ≤ 281474976710656) (hv : w.cell? ⟨1, 0, none⟩ = some ev) (hev : ev = .nilIface ∨ ∃ te pe, ev = .iface te pe) :
    Calls Tryz.prog 173 #[.string fn, .string s, .int .i64 base, .int .i64 bits, .iface 171 (.int .i64 2)] w fun e w' => ∃ N, e = .returned (.iface 174 (.pointer (some ⟨N, 0, none⟩))) ∧ w.heap.size ≤ N ∧ w'.heap[N]? = some (.cells #[.string fn, .string s, ev] 184 (0, 0)) ∧ Below w.heap.size w w' := Any.strconv_toError_syntax Tryz.laysC245 fn s base bits ev w hlim hv hev
def Tryz.laysC244_ren : Go.Shelf.Ren := ⟨fun | 244 => 172 | 247 => 195 | 287 => 190 | 321 => 209 | 322 => 210 | n => n, fun | 9 => 9 | 3 => 3 | 75 => 106 | 4 => 4 | 5 => 5 | 167 => 171 | 37 => 66 | 0 => 0 | 85 => 172 | 2 => 2 | 53 => 122 | 175 => 152 | 46 => 37 | 21 => 21 | 80 => 110 | n => n, fun | n => n⟩
theorem Tryz.laysC244 : Go.Proofs.LaysC.n244 Tryz.prog Tryz.laysC244_ren := {
  mixed := by kernel_rfl
  f244 := Tryz.func172.trans (congrArg some (by kernel_rfl))
  f247 := Tryz.func195.trans (congrArg some (by kernel_rfl))
  f287 := Tryz.func190.trans (congrArg some (by kernel_rfl))
  f321 := Tryz.func209.trans (congrArg some (by kernel_rfl))
  f322 := Tryz.func210.trans (congrArg some (by kernel_rfl))
  t0 := Tryz.underlying0
  a0 := Tryz.isAgg0
  z0 := Tryz.sizeOf0
  v0 := Tryz.zeroValue0
  t2 := Tryz.underlying2
  a2 := Tryz.isAgg2
  z2 := Tryz.sizeOf2
  v2 := Tryz.zeroValue2
  t3 := Tryz.underlying3
  a3 := Tryz.isAgg3
  z3 := Tryz.sizeOf3
  v3 := Tryz.zeroValue3
  t4 := Tryz.underlying4
  a4 := Tryz.isAgg4
  z4 := Tryz.sizeOf4
  v4 := Tryz.zeroValue4
  t5 := Tryz.underlying5
  a5 := Tryz.isAgg5
  z5 := Tryz.sizeOf5
  v5 := Tryz.zeroValue5
  t9 := Tryz.underlying9
  a9 := Tryz.isAgg9
  z9 := Tryz.sizeOf9
  v9 := Tryz.zeroValue9
  t21 := Tryz.underlying21
  a21 := Tryz.isAgg21
  z21 := Tryz.sizeOf21
  v21 := Tryz.zeroValue21
  t37 := Tryz.underlying66
  a37 := Tryz.isAgg66
  z37 := Tryz.sizeOf66
  v37 := Tryz.zeroValue66
  t46 := Tryz.underlying37
  a46 := Tryz.isAgg37
  z46 := Tryz.sizeOf37
  v46 := Tryz.zeroValue37
  t53 := Tryz.underlying122
  a53 := Tryz.isAgg122
  z53 := Tryz.sizeOf122
  v53 := Tryz.zeroValue122
  t75 := Tryz.underlying106
  a75 := Tryz.isAgg106
  z75 := Tryz.sizeOf106
  v75 := Tryz.zeroValue106
  t85 := Tryz.underlying172
  a85 := Tryz.isAgg172
  z85 := Tryz.sizeOf172
  v85 := Tryz.zeroValue172
  t167 := Tryz.underlying171
  a167 := Tryz.isAgg171
  z167 := Tryz.sizeOf171
  v167 := Tryz.zeroValue171
  t175 := Tryz.underlying152
  a175 := Tryz.isAgg152
  z175 := Tryz.sizeOf152
  v175 := Tryz.zeroValue152
  t80 := Tryz.underlying110
  a80 := Tryz.isAgg110
  z80 := Tryz.sizeOf110
  v80 := Tryz.zeroValue110
  i0 := by kernel_rfl
  i2 := by kernel_rfl
  i3 := by kernel_rfl
  i4 := by kernel_rfl
  i5 := by kernel_rfl
  i9 := by kernel_rfl
  i21 := by kernel_rfl
  i37 := by kernel_rfl
  i46 := by kernel_rfl
  i53 := by kernel_rfl
  i75 := by kernel_rfl
  i80 := by kernel_rfl
  i85 := by kernel_rfl
  i167 := by kernel_rfl
  i175 := by kernel_rfl
  c0 := by kernel_rfl
  c2 := by kernel_rfl
  c3 := by kernel_rfl
  c4 := by kernel_rfl
  c5 := by kernel_rfl
  c9 := by kernel_rfl
  c21 := by kernel_rfl
  c37 := by kernel_rfl
  c46 := by kernel_rfl
  c53 := by kernel_rfl
  c75 := by kernel_rfl
  c80 := by kernel_rfl
  c85 := by kernel_rfl
  c167 := by kernel_rfl
  c175 := by kernel_rfl }
open Go.RowKit in
theorem Tryz.internal_strconv_Atoi_all (s : ByteArray) (hmax : s.size ≤ 9223372036854775806) (w : World) :
    Calls Tryz.prog 172 #[.string s] w fun e w' => e = .returned (Lib.intTuple 171 (Lib.atoiSat s.data.toList) (Lib.atoiAll s.data.toList)) ∧ (w' = w ∨ ∃ t, w' = Lib.bytesWorld w 5 t) := Any.internal_strconv_Atoi_all Tryz.laysC244 s hmax w
open Go.RowKit in
theorem Tryz.strconv_toError_range (fn s : ByteArray) (base bits : Int) (ev : Value) (w : World) (hlim : s.size ≤ 281474976710656) (hv : w.cell? ⟨2, 0, none⟩ = some ev) (hev : ev = .nilIface ∨ ∃ te pe, ev = .iface te pe) :
    Calls Tryz.prog 173 #[.string fn, .string s, .int .i64 base, .int .i64 bits, .iface 171 (.int .i64 1)] w fun e w' => ∃ N, e = .returned (.iface 174 (.pointer (some ⟨N, 0, none⟩))) ∧ w.heap.size ≤ N ∧ w'.heap[N]? = some (.cells #[.string fn, .string s, ev] 184 (0, 0)) ∧ Below w.heap.size w w' := Any.strconv_toError_range Tryz.laysC245 fn s base bits ev w hlim hv hev
def Tryz.laysPu14_ren : Go.Shelf.Ren := ⟨fun | 14 => 169 | 16 => 190 | 17 => 173 | 19 => 209 | 20 => 210 | 21 => 196 | 22 => 197 | 23 => 198 | 24 => 199 | 25 => 213 | 27 => 162 | 26 => 214 | 28 => 187 | 29 => 207 | 30 => 220 | 31 => 221 | 32 => 222 | 33 => 223 | 35 => 128 | 34 => 226 | 36 => 227 | 37 => 228 | 38 => 229 | 39 => 230 | 40 => 231 | n => n, fun | 9 => 9 | 3 => 3 | 22 => 122 | 24 => 106 | 25 => 152 | 4 => 4 | 34 => 171 | 5 => 5 | 36 => 37 | 37 => 66 | 0 => 0 | 39 => 174 | 21 => 21 | 44 => 184 | 47 => 137 | 50 => 193 | 48 => 191 | 2 => 2 | 52 => 187 | 55 => 189 | 59 => 199 | 60 => 120 | 20 => 20 | 61 => 200 | 65 => 201 | 66 => 202 | 67 => 110 | n => n, fun | 0 => 1 | 1 => 2 | 2 => 5 | 3 => 6 | 4 => 7 | n => n⟩
theorem Tryz.laysPu14 : Go.Proofs.LaysPu.n14 Tryz.prog Tryz.laysPu14_ren := {
  mixed := by kernel_rfl
  f14 := Tryz.func169.trans (congrArg some (by kernel_rfl))
  f16 := Tryz.func190.trans (congrArg some (by kernel_rfl))
  f17 := Tryz.func173.trans (congrArg some (by kernel_rfl))
  f19 := Tryz.func209.trans (congrArg some (by kernel_rfl))
  f20 := Tryz.func210.trans (congrArg some (by kernel_rfl))
  f21 := Tryz.func196.trans (congrArg some (by kernel_rfl))
  f22 := Tryz.func197.trans (congrArg some (by kernel_rfl))
  f23 := Tryz.func198.trans (congrArg some (by kernel_rfl))
  f24 := Tryz.func199.trans (congrArg some (by kernel_rfl))
  f25 := Tryz.func213.trans (congrArg some (by kernel_rfl))
  f26 := Tryz.func214.trans (congrArg some (by kernel_rfl))
  f27 := Tryz.func162.trans (congrArg some (by kernel_rfl))
  f28 := Tryz.func187.trans (congrArg some (by kernel_rfl))
  f29 := Tryz.func207.trans (congrArg some (by kernel_rfl))
  f30 := Tryz.func220.trans (congrArg some (by kernel_rfl))
  f31 := Tryz.func221.trans (congrArg some (by kernel_rfl))
  f32 := Tryz.func222.trans (congrArg some (by kernel_rfl))
  f33 := Tryz.func223.trans (congrArg some (by kernel_rfl))
  f34 := Tryz.func226.trans (congrArg some (by kernel_rfl))
  f35 := Tryz.func128.trans (congrArg some (by kernel_rfl))
  f36 := Tryz.func227.trans (congrArg some (by kernel_rfl))
  f37 := Tryz.func228.trans (congrArg some (by kernel_rfl))
  f38 := Tryz.func229.trans (congrArg some (by kernel_rfl))
  f39 := Tryz.func230.trans (congrArg some (by kernel_rfl))
  f40 := Tryz.func231.trans (congrArg some (by kernel_rfl))
  t0 := Tryz.underlying0
  a0 := Tryz.isAgg0
  z0 := Tryz.sizeOf0
  v0 := Tryz.zeroValue0
  i0 := by kernel_rfl
  t2 := Tryz.underlying2
  a2 := Tryz.isAgg2
  z2 := Tryz.sizeOf2
  v2 := Tryz.zeroValue2
  i2 := by kernel_rfl
  t3 := Tryz.underlying3
  a3 := Tryz.isAgg3
  z3 := Tryz.sizeOf3
  v3 := Tryz.zeroValue3
  i3 := by kernel_rfl
  t4 := Tryz.underlying4
  a4 := Tryz.isAgg4
  z4 := Tryz.sizeOf4
  v4 := Tryz.zeroValue4
  i4 := by kernel_rfl
  t5 := Tryz.underlying5
  a5 := Tryz.isAgg5
  z5 := Tryz.sizeOf5
  v5 := Tryz.zeroValue5
  i5 := by kernel_rfl
  t9 := Tryz.underlying9
  a9 := Tryz.isAgg9
  z9 := Tryz.sizeOf9
  v9 := Tryz.zeroValue9
  i9 := by kernel_rfl
  t20 := Tryz.underlying20
  a20 := Tryz.isAgg20
  z20 := Tryz.sizeOf20
  v20 := Tryz.zeroValue20
  i20 := by kernel_rfl
  t21 := Tryz.underlying21
  a21 := Tryz.isAgg21
  z21 := Tryz.sizeOf21
  v21 := Tryz.zeroValue21
  i21 := by kernel_rfl
  t22 := Tryz.underlying122
  a22 := Tryz.isAgg122
  z22 := Tryz.sizeOf122
  v22 := Tryz.zeroValue122
  i22 := by kernel_rfl
  t24 := Tryz.underlying106
  a24 := Tryz.isAgg106
  z24 := Tryz.sizeOf106
  v24 := Tryz.zeroValue106
  i24 := by kernel_rfl
  t25 := Tryz.underlying152
  a25 := Tryz.isAgg152
  z25 := Tryz.sizeOf152
  v25 := Tryz.zeroValue152
  i25 := by kernel_rfl
  t34 := Tryz.underlying171
  a34 := Tryz.isAgg171
  z34 := Tryz.sizeOf171
  v34 := Tryz.zeroValue171
  i34 := by kernel_rfl
  c34 := by kernel_rfl
  t36 := Tryz.underlying37
  a36 := Tryz.isAgg37
  z36 := Tryz.sizeOf37
  v36 := Tryz.zeroValue37
  i36 := by kernel_rfl
  t37 := Tryz.underlying66
  a37 := Tryz.isAgg66
  z37 := Tryz.sizeOf66
  v37 := Tryz.zeroValue66
  i37 := by kernel_rfl
  t39 := Tryz.underlying174
  a39 := Tryz.isAgg174
  z39 := Tryz.sizeOf174
  v39 := Tryz.zeroValue174
  i39 := by kernel_rfl
  t44 := Tryz.underlying184
  a44 := Tryz.isAgg184
  z44 := Tryz.sizeOf184
  v44 := Tryz.zeroValue184
  i44 := by kernel_rfl
  t47 := Tryz.underlying137
  a47 := Tryz.isAgg137
  z47 := Tryz.sizeOf137
  v47 := Tryz.zeroValue137
  i47 := by kernel_rfl
  t48 := Tryz.underlying191
  a48 := Tryz.isAgg191
  z48 := Tryz.sizeOf191
  v48 := Tryz.zeroValue191
  i48 := by kernel_rfl
  t50 := Tryz.underlying193
  a50 := Tryz.isAgg193
  z50 := Tryz.sizeOf193
  v50 := Tryz.zeroValue193
  i50 := by kernel_rfl
  t52 := Tryz.underlying187
  a52 := Tryz.isAgg187
  z52 := Tryz.sizeOf187
  v52 := Tryz.zeroValue187
  i52 := by kernel_rfl
  t55 := Tryz.underlying189
  a55 := Tryz.isAgg189
  z55 := Tryz.sizeOf189
  v55 := Tryz.zeroValue189
  i55 := by kernel_rfl
  t59 := Tryz.underlying199
  a59 := Tryz.isAgg199
  z59 := Tryz.sizeOf199
  v59 := Tryz.zeroValue199
  i59 := by kernel_rfl
  t60 := Tryz.underlying120
  a60 := Tryz.isAgg120
  z60 := Tryz.sizeOf120
  v60 := Tryz.zeroValue120
  i60 := by kernel_rfl
  t61 := Tryz.underlying200
  a61 := Tryz.isAgg200
  z61 := Tryz.sizeOf200
  t65 := Tryz.underlying201
  a65 := Tryz.isAgg201
  z65 := Tryz.sizeOf201
  v65 := Tryz.zeroValue201
  i65 := by kernel_rfl
  t66 := Tryz.underlying202
  a66 := Tryz.isAgg202
  z66 := Tryz.sizeOf202
  v66 := Tryz.zeroValue202
  i66 := by kernel_rfl
  t67 := Tryz.underlying110
  a67 := Tryz.isAgg110
  z67 := Tryz.sizeOf110
  v67 := Tryz.zeroValue110
  i67 := by kernel_rfl
  g0 := by kernel_rfl
  m0 := by kernel_rfl
  g1 := by kernel_rfl
  m1 := by kernel_rfl
  g2 := by kernel_rfl
  m2 := by kernel_rfl
  g3 := by kernel_rfl
  m3 := by kernel_rfl
  g4 := by kernel_rfl
  m4 := by kernel_rfl }
open Go.RowKit in
theorem Tryz.strconv_ParseUint_10_at64_ok (s : ByteArray) (hmax : s.size ≤ 9223372036854775806) (u : Nat) (h : Lib.parseUintB 64 s.data.toList = .ok u) (w : World) :
    Calls Tryz.prog 169 #[.string s, .int .i64 10, .int .i64 64] w fun e w' => e = .returned (.tuple #[.int .u64 u, .nilIface]) ∧ (w' = w ∨ w' = Lib.bytesWorld w 5 s) := Any.strconv_ParseUint_10_at64_ok Tryz.laysPu14 s hmax u h w
def Tryz.lays206_ren : Go.Shelf.Ren := ⟨fun | 206 => 129 | n => n, fun | 9 => 9 | 4 => 4 | 3 => 3 | n => n, fun | n => n⟩
theorem Tryz.lays206 : Go.Proofs.Lays.n206 Tryz.prog Tryz.lays206_ren := {
  mixed := by kernel_rfl
  f206 := Tryz.func129.trans (congrArg some (by kernel_rfl))
  t3 := Tryz.underlying3
  a3 := Tryz.isAgg3
  z3 := Tryz.sizeOf3
  v3 := Tryz.zeroValue3
  t4 := Tryz.underlying4
  a4 := Tryz.isAgg4
  z4 := Tryz.sizeOf4
  v4 := Tryz.zeroValue4
  t9 := Tryz.underlying9
  a9 := Tryz.isAgg9
  z9 := Tryz.sizeOf9
  v9 := Tryz.zeroValue9 }
open Go.RowKit Go.Lib in
theorem Tryz.stringslite_HasPrefix (s p : ByteArray) (w : World) :
    Calls Tryz.prog 129 #[.string s, .string p] w fun e w' => e = .returned (.bool (Lib.hasPrefix s.data.toList p.data.toList)) ∧ w' = w := Any.stringslite_HasPrefix Tryz.lays206 s p w
def Tryz.lays146_ren : Go.Shelf.Ren := ⟨fun | 146 => 103 | 221 => 139 | 268 => 174 | 138 => 175 | 143 => 176 | 195 => 200 | 197 => 201 | 218 => 202 | 219 => 203 | 260 => 215 | 217 => 216 | 225 => 217 | 224 => 218 | 267 => 219 | 266 => 224 | 314 => 225 | n => n, fun | 9 => 9 | 31 => 26 | 3 => 3 | 4 => 4 | 0 => 0 | 105 => 177 | 21 => 21 | 5 => 5 | 46 => 37 | 119 => 194 | 139 => 197 | 138 => 196 | 146 => 133 | 51 => 120 | n => n, fun | 1 => 0 | 3 => 3 | 4 => 4 | n => n⟩
theorem Tryz.lays146 : Go.Proofs.Lays.n146 Tryz.prog Tryz.lays146_ren := {
  mixed := by kernel_rfl
  f138 := Tryz.func175.trans (congrArg some (by kernel_rfl))
  f143 := Tryz.func176.trans (congrArg some (by kernel_rfl))
  f146 := Tryz.func103.trans (congrArg some (by kernel_rfl))
  f195 := Tryz.func200.trans (congrArg some (by kernel_rfl))
  f197 := Tryz.func201.trans (congrArg some (by kernel_rfl))
  f217 := Tryz.func216.trans (congrArg some (by kernel_rfl))
  f218 := Tryz.func202.trans (congrArg some (by kernel_rfl))
  f219 := Tryz.func203.trans (congrArg some (by kernel_rfl))
  f221 := Tryz.func139.trans (congrArg some (by kernel_rfl))
  f224 := Tryz.func218.trans (congrArg some (by kernel_rfl))
  f225 := Tryz.func217.trans (congrArg some (by kernel_rfl))
  f260 := Tryz.func215.trans (congrArg some (by kernel_rfl))
  f266 := Tryz.func224.trans (congrArg some (by kernel_rfl))
  f267 := Tryz.func219.trans (congrArg some (by kernel_rfl))
  f268 := Tryz.func174.trans (congrArg some (by kernel_rfl))
  f314 := Tryz.func225.trans (congrArg some (by kernel_rfl))
  t0 := Tryz.underlying0
  a0 := Tryz.isAgg0
  z0 := Tryz.sizeOf0
  v0 := Tryz.zeroValue0
  t3 := Tryz.underlying3
  a3 := Tryz.isAgg3
  z3 := Tryz.sizeOf3
  v3 := Tryz.zeroValue3
  t4 := Tryz.underlying4
  a4 := Tryz.isAgg4
  z4 := Tryz.sizeOf4
  v4 := Tryz.zeroValue4
  t5 := Tryz.underlying5
  a5 := Tryz.isAgg5
  z5 := Tryz.sizeOf5
  v5 := Tryz.zeroValue5
  t9 := Tryz.underlying9
  a9 := Tryz.isAgg9
  z9 := Tryz.sizeOf9
  v9 := Tryz.zeroValue9
  t21 := Tryz.underlying21
  a21 := Tryz.isAgg21
  z21 := Tryz.sizeOf21
  v21 := Tryz.zeroValue21
  t31 := Tryz.underlying26
  a31 := Tryz.isAgg26
  z31 := Tryz.sizeOf26
  v31 := Tryz.zeroValue26
  t46 := Tryz.underlying37
  a46 := Tryz.isAgg37
  z46 := Tryz.sizeOf37
  v46 := Tryz.zeroValue37
  t51 := Tryz.underlying120
  a51 := Tryz.isAgg120
  z51 := Tryz.sizeOf120
  v51 := Tryz.zeroValue120
  t105 := Tryz.underlying177
  a105 := Tryz.isAgg177
  z105 := Tryz.sizeOf177
  v105 := Tryz.zeroValue177
  t119 := Tryz.underlying194
  a119 := Tryz.isAgg194
  z119 := Tryz.sizeOf194
  t138 := Tryz.underlying196
  a138 := Tryz.isAgg196
  z138 := Tryz.sizeOf196
  v138 := Tryz.zeroValue196
  t139 := Tryz.underlying197
  a139 := Tryz.isAgg197
  z139 := Tryz.sizeOf197
  v139 := Tryz.zeroValue197
  t146 := Tryz.underlying133
  a146 := Tryz.isAgg133
  z146 := Tryz.sizeOf133
  v146 := Tryz.zeroValue133
  g1 := by kernel_rfl
  g3 := by kernel_rfl
  g4 := by kernel_rfl }
open Go.RowKit Go.Lib in
theorem Tryz.strings_Split (s sep : ByteArray) (m : Int) (w : World) (hs : s.size < 4294967281) (hm : w.cell? ⟨0, 0, none⟩ = some (.int .i64 m)) (h1 : 1 ≤ sep.size) :
    Calls Tryz.prog 103 #[.string s, .string sep] w fun e w' =>
      e = .returned (.slice (some ⟨w.heap.size, 0, none⟩) (Lib.countB s sep + 1) (Lib.countB s sep + 1)) ∧ w' = w.alloc (.cells ((Lib.splitB sep 0 (Lib.countB s sep) s).map Value.string).toArray 9) := Any.strings_Split Tryz.lays146 (by kernel_rfl) s sep m w hs hm h1
def Tryz.lays105_ren : Go.Shelf.Ren := ⟨fun | 105 => 73 | 212 => 106 | 99 => 107 | 165 => 108 | 166 => 109 | 170 => 110 | 169 => 111 | 263 => 141 | 264 => 142 | 206 => 129 | 240 => 143 | 241 => 144 | 276 => 177 | 277 => 178 | n => n, fun | 9 => 9 | 3 => 3 | 4 => 4 | 20 => 20 | 0 => 0 | 46 => 37 | 109 => 98 | 5 => 5 | 72 => 103 | 76 => 107 | 51 => 120 | 146 => 133 | 53 => 122 | 148 => 135 | 70 => 101 | 37 => 66 | 75 => 106 | 127 => 137 | 164 => 158 | 80 => 110 | n => n, fun | n => n⟩
theorem Tryz.lays105 : Go.Proofs.Lays.n105 Tryz.prog Tryz.lays105_ren := {
  mixed := by kernel_rfl
  f99 := Tryz.func107.trans (congrArg some (by kernel_rfl))
  f105 := Tryz.func73.trans (congrArg some (by kernel_rfl))
  f165 := Tryz.func108.trans (congrArg some (by kernel_rfl))
  f166 := Tryz.func109.trans (congrArg some (by kernel_rfl))
  f169 := Tryz.func111.trans (congrArg some (by kernel_rfl))
  f170 := Tryz.func110.trans (congrArg some (by kernel_rfl))
  f206 := Tryz.func129.trans (congrArg some (by kernel_rfl))
  f212 := Tryz.func106.trans (congrArg some (by kernel_rfl))
  f240 := Tryz.func143.trans (congrArg some (by kernel_rfl))
  f241 := Tryz.func144.trans (congrArg some (by kernel_rfl))
  f263 := Tryz.func141.trans (congrArg some (by kernel_rfl))
  f264 := Tryz.func142.trans (congrArg some (by kernel_rfl))
  f276 := Tryz.func177.trans (congrArg some (by kernel_rfl))
  f277 := Tryz.func178.trans (congrArg some (by kernel_rfl))
  t0 := Tryz.underlying0
  a0 := Tryz.isAgg0
  z0 := Tryz.sizeOf0
  v0 := Tryz.zeroValue0
  t3 := Tryz.underlying3
  a3 := Tryz.isAgg3
  z3 := Tryz.sizeOf3
  v3 := Tryz.zeroValue3
  t4 := Tryz.underlying4
  a4 := Tryz.isAgg4
  z4 := Tryz.sizeOf4
  v4 := Tryz.zeroValue4
  t5 := Tryz.underlying5
  a5 := Tryz.isAgg5
  z5 := Tryz.sizeOf5
  v5 := Tryz.zeroValue5
  t9 := Tryz.underlying9
  a9 := Tryz.isAgg9
  z9 := Tryz.sizeOf9
  v9 := Tryz.zeroValue9
  t20 := Tryz.underlying20
  a20 := Tryz.isAgg20
  z20 := Tryz.sizeOf20
  v20 := Tryz.zeroValue20
  t37 := Tryz.underlying66
  a37 := Tryz.isAgg66
  z37 := Tryz.sizeOf66
  v37 := Tryz.zeroValue66
  t46 := Tryz.underlying37
  a46 := Tryz.isAgg37
  z46 := Tryz.sizeOf37
  v46 := Tryz.zeroValue37
  t51 := Tryz.underlying120
  a51 := Tryz.isAgg120
  z51 := Tryz.sizeOf120
  v51 := Tryz.zeroValue120
  t53 := Tryz.underlying122
  a53 := Tryz.isAgg122
  z53 := Tryz.sizeOf122
  v53 := Tryz.zeroValue122
  t70 := Tryz.underlying101
  a70 := Tryz.isAgg101
  z70 := Tryz.sizeOf101
  v70 := Tryz.zeroValue101
  t72 := Tryz.underlying103
  a72 := Tryz.isAgg103
  z72 := Tryz.sizeOf103
  v72 := Tryz.zeroValue103
  t75 := Tryz.underlying106
  a75 := Tryz.isAgg106
  z75 := Tryz.sizeOf106
  v75 := Tryz.zeroValue106
  t76 := Tryz.underlying107
  a76 := Tryz.isAgg107
  z76 := Tryz.sizeOf107
  v76 := Tryz.zeroValue107
  t109 := Tryz.underlying98
  a109 := Tryz.isAgg98
  z109 := Tryz.sizeOf98
  v109 := Tryz.zeroValue98
  t127 := Tryz.underlying137
  a127 := Tryz.isAgg137
  z127 := Tryz.sizeOf137
  v127 := Tryz.zeroValue137
  t146 := Tryz.underlying133
  a146 := Tryz.isAgg133
  z146 := Tryz.sizeOf133
  v146 := Tryz.zeroValue133
  t148 := Tryz.underlying135
  a148 := Tryz.isAgg135
  z148 := Tryz.sizeOf135
  v148 := Tryz.zeroValue135
  t164 := Tryz.underlying158
  a164 := Tryz.isAgg158
  z164 := Tryz.sizeOf158
  v164 := Tryz.zeroValue158 }
theorem Tryz.Builder_Extra_105 : Builder.Extra Tryz.prog Tryz.lays105_ren := {
  sizeBuilder := by kernel_rfl
  liesBuilder := by kernel_rfl
  t5 := Tryz.underlying5
  a5 := Tryz.isAgg5
  z5 := Tryz.sizeOf5
  v5 := Tryz.zeroValue5
  infoByte := by kernel_rfl
  cellsByte := by kernel_rfl
  sizeByte := by kernel_rfl
  neB5 := by decide }
open Go.RowKit Go.Lib in
theorem Tryz.strings_Repeat (s : ByteArray) (c : Nat) (w : World) (hc : c ≤ 9223372036854775807) (hlen : s.size * c ≤ 140737488355328) :
    Calls Tryz.prog 73 #[.string s, .int .i64 c] w fun e w' => e = .returned (.string ⟨(Lib.repeatL s.data.toList c).toArray⟩) ∧ Below w.heap.size w w' := Any.strings_Repeat Tryz.lays105 Tryz.Builder_Extra_105 s c w hc hlen
def Tryz.laysNm217_ren : Go.Shelf.Ren := ⟨fun | 17 => 101 | n => n, fun | 24 => 26 | 9 => 9 | 3 => 3 | 4 => 4 | 0 => 0 | n => n, fun | n => n⟩
theorem Tryz.laysNm217 : Go.Proofs.Lays2.n17 Tryz.prog Tryz.laysNm217_ren := {
  mixed := by kernel_rfl
  f17 := Tryz.func101.trans (congrArg some (by kernel_rfl))
  t0 := Tryz.underlying0
  a0 := Tryz.isAgg0
  z0 := Tryz.sizeOf0
  v0 := Tryz.zeroValue0
  t3 := Tryz.underlying3
  a3 := Tryz.isAgg3
  z3 := Tryz.sizeOf3
  v3 := Tryz.zeroValue3
  t4 := Tryz.underlying4
  a4 := Tryz.isAgg4
  z4 := Tryz.sizeOf4
  v4 := Tryz.zeroValue4
  t9 := Tryz.underlying9
  a9 := Tryz.isAgg9
  z9 := Tryz.sizeOf9
  v9 := Tryz.zeroValue9
  t24 := Tryz.underlying26
  a24 := Tryz.isAgg26
  z24 := Tryz.sizeOf26
  v24 := Tryz.zeroValue26 }
open Go.RowKit Go.Lib Go.Sort in
theorem Tryz.slices_Reverse_string (blk off cap : Nat) (zs : List (List UInt8)) (w : World) (hH : Holds encStr w blk off zs.toArray) (hsz : zs.length ≤ 9223372036854775807) :
    Calls Tryz.prog 101 #[.slice (some ⟨blk, off, none⟩) zs.length cap] w fun e w' => e = .returned (.tuple #[]) ∧ ∃ n, w' = putRow encStr (Sort.ahead w n) blk off zs.reverse.toArray := Any.slices_Reverse_string Tryz.laysNm217 blk off cap zs w hH hsz
open Go.RowKit Go.Lib Go.Sort in
theorem Tryz.slices_Reverse_string_empty (a : Option Addr) (cap : Nat) (w : World) :
    Calls Tryz.prog 101 #[.slice a 0 cap] w fun e w' => e = .returned (.tuple #[]) ∧ w' = w := Any.slices_Reverse_string_empty Tryz.laysNm217 a cap w
end Go.Proofs
namespace Go.Proofs.YtdkikjcpgihjlaaGreatDoor
open Go Go.Eng Go.Num
set_option maxRecDepth 100000
abbrev u64 (n : Nat) : Value := .int .u64 (n : Int)
abbrev U8 : TypeId := 5
theorem bytes_ext (w : World) (e : TypeId) (s : ByteArray) : Ext w (Lib.bytesWorld w e s) :=
  ⟨rfl, rfl, rfl, by rw [Lib.bytesWorld_size]; omega, fun k hk _ => Lib.bytesWorld_at_old w e s k hk⟩
theorem to_bytes {l : Str} {w : World} {src dst : TypeId} {K : Value → World → Prop} (hs : Tryz.prog.underlying src = some .string) (hd : Tryz.prog.underlying dst = some (.slice U8)) (he : Tryz.prog.underlying U8 = some (.int .u8))
    (hK : ∀ v w', Byt w' U8 v l → Ext w w' → K v w') : semE Tryz.prog (convert src dst (str l)) w K := by
  unfold semE
  rw [Lib.run_convert_string_bytes w src dst U8 (ofL l) hs hd he]
  refine hK _ _ ?_ (bytes_ext _ _ _)
  have hle : (ofL l).size ≤ grownCap w (ofL l).size 0 U8 := by
    exact grownCap_ge w (ofL l).size 0 U8
  refine ⟨some ⟨w.heap.size, 0, none⟩, grownCap w (ofL l).size 0 U8, by rw [ofL_size], by rw [← ofL_size]; exact hle, (fun e => by cases e), fun _ => ⟨w.heap.size, 0, _, _, rfl, Lib.bytesWorld_at_new w U8 (ofL l), fun i hi => ?_⟩⟩
  have hi : i < (ofL l).size := by rw [ofL_size]; simpa [u8s_length] using hi
  have := Lib.bytesWorld_cell w U8 (ofL l) i hi
  rw [cell_eq, Lib.bytesWorld_at_new, cellO_some] at this
  rw [Nat.zero_add, this, u8s_get, ofL_data]
  have hi' : i < l.length := by rw [ofL_size] at hi; exact hi
  simp [List.getD_eq_getElem?_getD, List.getElem?_eq_getElem hi']
theorem of_calls [HX] {g : FuncId} {args : Array Value} {w : World} {K : Value → World → Prop} (hr : ∀ (ar : Array Value) (w : World), (callFunc g ar).run Tryz.prog w = .ok (.enter g ar) w)
    (h : Calls Tryz.prog g args w fun e w' => ∃ v, e = .returned v ∧ K v w') : callF Tryz.prog g args.toList w K := by
  unfold callF
  rw [show args.toList.toArray = args from by simp, hr]
  refine h.mono ?_
  rintro e w' ⟨v, rfl, hk⟩
  exact hk
section
variable [HX]
theorem nan_i (n : Int) (KK : Value → Prop) (h : KK (.bool false)) : binW .neq (i64 n) (i64 n) KK := by rw [bin_neq]; simpa using h
theorem nan_u (n : Nat) (KK : Value → Prop) (h : KK (.bool false)) : binW .neq (u64 n) (u64 n) KK := by rw [bin_neq]; simpa using h
theorem nan_s (s : Str) (KK : Value → Prop) (h : KK (.bool false)) : binW .neq (str s) (str s) KK := by rw [bin_sne]; simpa using h
theorem isnan_k {n : Int} {w : World} {K : Value → World → Prop} (hK : K (.bool false) w) : callF Tryz.prog 183 [i64 n] w K := by
  refine W183_ok ?_
  exact nan_i n _ hK
theorem isnan_i {n : Int} {w : World} {K : Value → World → Prop} (hK : K (.bool false) w) : callF Tryz.prog 184 [i64 n] w K := by
  refine W184_ok ?_
  exact nan_i n _ hK
theorem isnan_u {n : Nat} {w : World} {K : Value → World → Prop} (hK : K (.bool false) w) : callF Tryz.prog 208 [u64 n] w K := by
  refine W208_ok ?_
  exact nan_u n _ hK
theorem isnan_s {s : Str} {w : World} {K : Value → World → Prop} (hK : K (.bool false) w) : callF Tryz.prog 154 [str s] w K := by
  refine W154_ok ?_
  exact nan_s s _ hK
theorem isnan_s2 {s : Str} {w : World} {K : Value → World → Prop} (hK : K (.bool false) w) : callF Tryz.prog 163 [str s] w K := by
  refine W163_ok ?_
  exact nan_s s _ hK
theorem cmpI_K {a b : Int} {w : World} {K : Value → World → Prop} (hK : K (i64 (cmpI a b)) w) : (a < b → K (i64 (-1)) w) ∧ (¬ a < b → (b < a → K (i64 1) w) ∧ (¬ b < a → K (i64 0) w)) := by
  unfold cmpI at hK
  refine ⟨fun h => ?_, fun h => ⟨fun h2 => ?_, fun h2 => ?_⟩⟩
  · rw [if_pos h] at hK; exact hK
  · rw [if_neg h, if_pos h2] at hK; exact hK
  · rw [if_neg h, if_neg h2] at hK; exact hK
theorem cmp_k {a b : Int} {w : World} {K : Value → World → Prop} (hK : K (i64 (cmpI a b)) w) : callF Tryz.prog 155 [i64 a, i64 b] w K := by
  refine W155_ok ?_
  unfold W155
  refine isnan_k (isnan_k ?_)
  simp only [wsv, wsg, wsh, wsl, cond_true, cond_false, exists_eq_left', Option.some.injEq, Option.isSome_some, List.getElem?_toArray, List.getElem?_cons_zero, List.getElem?_cons_succ, List.length_cons, List.length_nil, List.set_cons_zero, List.set_cons_succ, List.getD_cons_zero, List.getD_cons_succ, Nat.zero_add, Nat.add_zero, Nat.reduceAdd, Nat.reduceLT, Nat.lt_add_one, Nat.zero_lt_succ, decide_true, decide_false, ne_eq, reduceCtorEq, condW_dec]
  exact cmpI_K hK
theorem cmp_i {a b : Int} {w : World} {K : Value → World → Prop} (hK : K (i64 (cmpI a b)) w) : callF Tryz.prog 156 [i64 a, i64 b] w K := by
  refine W156_ok ?_
  unfold W156
  refine isnan_i (isnan_i ?_)
  simp only [wsv, wsg, wsh, wsl, cond_true, cond_false, exists_eq_left', Option.some.injEq, Option.isSome_some, List.getElem?_toArray, List.getElem?_cons_zero, List.getElem?_cons_succ, List.length_cons, List.length_nil, List.set_cons_zero, List.set_cons_succ, List.getD_cons_zero, List.getD_cons_succ, Nat.zero_add, Nat.add_zero, Nat.reduceAdd, Nat.reduceLT, Nat.lt_add_one, Nat.zero_lt_succ, decide_true, decide_false, ne_eq, reduceCtorEq, condW_dec]
  exact cmpI_K hK
theorem cmp_u {a b : Nat} {w : World} {K : Value → World → Prop} (hK : K (i64 (cmpN a b)) w) : callF Tryz.prog 188 [u64 a, u64 b] w K := by
  refine W188_ok ?_
  unfold W188
  refine isnan_u (isnan_u ?_)
  simp only [wsv, wsg, wsh, wsl, cond_true, cond_false, exists_eq_left', Option.some.injEq, Option.isSome_some, List.getElem?_toArray, List.getElem?_cons_zero, List.getElem?_cons_succ, List.length_cons, List.length_nil, List.set_cons_zero, List.set_cons_succ, List.getD_cons_zero, List.getD_cons_succ, Nat.zero_add, Nat.add_zero, Nat.reduceAdd, Nat.reduceLT, Nat.lt_add_one, Nat.zero_lt_succ, decide_true, decide_false, ne_eq, reduceCtorEq, condW_dec]
  have e : cmpN a b = cmpI a b := by unfold cmpN cmpI; simp only [Int.ofNat_lt]
  rw [e] at hK
  exact cmpI_K hK
theorem less_total {a b : Str} (h1 : Op.bytesLess a b = false) (h2 : (!(Op.bytesLess a b || decide (a = b))) = false) : a = b := by
  rw [h1] at h2; simpa using h2
theorem cmp_s {a b : Str} {w : World} {K : Value → World → Prop} (hK : K (i64 (cmpB a b)) w) : callF Tryz.prog 186 [str a, str b] w K := by
  refine W186_ok ?_
  unfold W186
  refine isnan_s (isnan_s ?_)
  simp only [wsv, wsg, wsh, wsl, cond_true, cond_false, exists_eq_left', Option.some.injEq, Option.isSome_some, List.getElem?_toArray, List.getElem?_cons_zero, List.getElem?_cons_succ, List.length_cons, List.length_nil, List.set_cons_zero, List.set_cons_succ, List.getD_cons_zero, List.getD_cons_succ, Nat.zero_add, Nat.add_zero, Nat.reduceAdd, Nat.reduceLT, Nat.lt_add_one, Nat.zero_lt_succ, decide_true, decide_false, ne_eq, reduceCtorEq]
  simp only [condW_b]
  unfold cmpB at hK
  refine ⟨fun h => ?_, fun h => ⟨fun h2 => ?_, fun h2 => ?_⟩⟩
  · rw [if_pos h] at hK; exact hK
  · have hne : a ≠ b := by rintro rfl; simp at h2
    rw [if_neg (by rw [h]; simp), if_neg hne] at hK; exact hK
  · rw [if_neg (by rw [h]; simp), if_pos (less_total h h2)] at hK; exact hK
theorem cmp_less {a b : Str} {w : World} {K : Value → World → Prop} (hK : K (.bool (Op.bytesLess a b)) w) : callF Tryz.prog 124 [str a, str b] w K := by
  refine W124_ok ?_
  unfold W124
  refine isnan_s ?_
  simp only [wsv, wsg, wsh, wsl, cond_true, cond_false, exists_eq_left', Option.some.injEq, Option.isSome_some, List.getElem?_toArray, List.getElem?_cons_zero, List.getElem?_cons_succ, List.length_cons, List.length_nil, List.set_cons_zero, List.set_cons_succ, List.getD_cons_zero, List.getD_cons_succ, Nat.zero_add, Nat.add_zero, Nat.reduceAdd, Nat.reduceLT, Nat.lt_add_one, Nat.zero_lt_succ, decide_true, decide_false, ne_eq, reduceCtorEq]
  intros
  exact hK
theorem compareBytes_eq (a b : Str) : Lib.compareBytes a b = cmpB a b := by
  induction a generalizing b with
  | nil => cases b <;> simp [Lib.compareBytes, cmpB, Op.bytesLess]
  | cons x a ih =>
    cases b with
    | nil => simp [Lib.compareBytes, cmpB, Op.bytesLess]
    | cons y b =>
      simp only [Lib.compareBytes, ih, cmpB, Op.bytesLess]
      by_cases h1 : x < y
      · simp [h1]
      · by_cases h2 : y < x
        · have : x ≠ y := by rintro rfl; exact h1 h2
          simp [h1, h2, this]
        · have : x = y := UInt8.le_antisymm (UInt8.not_lt.1 h2) (UInt8.not_lt.1 h1)
          subst this
          simp
theorem strcmp {a b : Str} {w : World} {K : Value → World → Prop} (hK : K (i64 (cmpB a b)) w) : callF Tryz.prog 158 [str a, str b] w K := by
  refine of_calls (args := #[str a, str b]) Tryz.call158 ((Tryz.strings_Compare (ofL a) (ofL b) w).mono ?_)
  rintro e w' ⟨rfl, rfl⟩
  refine ⟨_, rfl, ?_⟩
  rw [ofL_data, ofL_data]
  rw [compareBytes_eq]
  exact hK
theorem pre_ref {s p : Str} {w : World} {K : Value → World → Prop} (hs : s.length ≤ 9223372036854775807) (hK : K (.bool (p.isPrefixOf s)) w) : callF Tryz.prog 129 [str s, str p] w K := by
  refine of_calls (args := #[str s, str p]) Tryz.call129 ((Tryz.stringslite_HasPrefix (ofL s) (ofL p) w).mono ?_)
  rintro e w' ⟨rfl, rfl⟩
  refine ⟨_, rfl, ?_⟩
  rw [ofL_data, ofL_data]
  exact hK
theorem trimpre_ref {a : Str} {w : World} {K : Value → World → Prop} (hs : a.length ≤ 9223372036854775807) (hK : K (str (dig a)) w) : callF Tryz.prog 47 [str a, str [45]] w K := by
  refine W47_ok ?_
  unfold W47
  refine W89_ok ?_
  unfold W89
  refine pre_ref hs ?_
  cases a with
  | nil =>
    rw [show ([45] : Str).isPrefixOf [] = false from rfl]
    simp only [wsv, wsg, wsh, wsl, cond_true, cond_false, exists_eq_left', Option.some.injEq, Option.isSome_some, List.getElem?_toArray, List.getElem?_cons_zero, List.getElem?_cons_succ, List.length_cons, List.length_nil, List.set_cons_zero, List.set_cons_succ, List.getD_cons_zero, List.getD_cons_succ, Nat.zero_add, Nat.add_zero, Nat.reduceAdd, Nat.reduceLT, Nat.lt_add_one, Nat.zero_lt_succ, decide_true, decide_false, ne_eq, reduceCtorEq]
    exact hK
  | cons c r =>
    by_cases hc : c = 45
    · subst hc
      have e : ([45] : Str).isPrefixOf (45 :: r) = true := by simp [List.isPrefixOf]
      have ed : dig (45 :: r) = r := by simp [dig]
      rw [ed] at hK
      rw [e]
      have e1 : ((0 + 1 : Nat) : Int).toNat = 1 := rfl
      simp only [wsv, wsg, wsh, wsl, cond_true, cond_false, exists_eq_left', Option.some.injEq, Option.isSome_some, List.getElem?_toArray, List.getElem?_cons_zero, List.getElem?_cons_succ, List.length_cons, List.length_nil, List.set_cons_zero, List.set_cons_succ, List.getD_cons_zero, List.getD_cons_succ, Nat.zero_add, Nat.add_zero, Nat.reduceAdd, Nat.reduceLT, Nat.lt_add_one, Nat.zero_lt_succ, decide_true, decide_false, ne_eq, reduceCtorEq, e1]
      refine ⟨by omega, by omega, ?_⟩
      rw [← List.length_cons (a := (45 : UInt8)), List.take_length]
      exact hK
    · have e : ([45] : Str).isPrefixOf (c :: r) = false := by simp [List.isPrefixOf, Ne.symm hc]
      have ed : dig (c :: r) = c :: r := by simp [dig, hc]
      rw [ed] at hK
      rw [e]
      simp only [wsv, wsg, wsh, wsl, cond_true, cond_false, exists_eq_left', Option.some.injEq, Option.isSome_some, List.getElem?_toArray, List.getElem?_cons_zero, List.getElem?_cons_succ, List.length_cons, List.length_nil, List.set_cons_zero, List.set_cons_succ, List.getD_cons_zero, List.getD_cons_succ, Nat.zero_add, Nat.add_zero, Nat.reduceAdd, Nat.reduceLT, Nat.lt_add_one, Nat.zero_lt_succ, decide_true, decide_false, ne_eq, reduceCtorEq]
      exact hK
theorem cutpre_ref {a : Str} {w : World} {K : Value → World → Prop} (hs : a.length ≤ 9223372036854775807) (hK : K (.tuple #[str (dig a), .bool (neg a)]) w) : callF Tryz.prog 168 [str a, str [45]] w K := by
  refine W168_ok ?_
  unfold W168
  refine W189_ok ?_
  unfold W189
  refine pre_ref hs ?_
  cases a with
  | nil =>
    rw [show ([45] : Str).isPrefixOf [] = false from rfl]
    simp only [wsv, wsg, wsh, wsl, cond_true, cond_false, exists_eq_left', Option.some.injEq, Option.isSome_some, List.getElem?_toArray, List.getElem?_cons_zero, List.getElem?_cons_succ, List.length_cons, List.length_nil, List.set_cons_zero, List.set_cons_succ, List.getD_cons_zero, List.getD_cons_succ, Nat.zero_add, Nat.add_zero, Nat.reduceAdd, Nat.reduceLT, Nat.lt_add_one, Nat.zero_lt_succ, decide_true, decide_false, ne_eq, reduceCtorEq]
    exact hK
  | cons c r =>
    by_cases hc : c = 45
    · subst hc
      have e : ([45] : Str).isPrefixOf (45 :: r) = true := by simp [List.isPrefixOf]
      have ed : dig (45 :: r) = r := by simp [dig]
      have en : neg (45 :: r) = true := by simp [neg]
      rw [ed, en] at hK
      rw [e]
      have e1 : ((0 + 1 : Nat) : Int).toNat = 1 := rfl
      simp only [wsv, wsg, wsh, wsl, cond_true, cond_false, exists_eq_left', Option.some.injEq, Option.isSome_some, List.getElem?_toArray, List.getElem?_cons_zero, List.getElem?_cons_succ, List.length_cons, List.length_nil, List.set_cons_zero, List.set_cons_succ, List.getD_cons_zero, List.getD_cons_succ, Nat.zero_add, Nat.add_zero, Nat.reduceAdd, Nat.reduceLT, Nat.lt_add_one, Nat.zero_lt_succ, decide_true, decide_false, ne_eq, reduceCtorEq, e1]
      refine ⟨by omega, by omega, ?_⟩
      rw [← List.length_cons (a := (45 : UInt8)), List.take_length]
      exact hK
    · have e : ([45] : Str).isPrefixOf (c :: r) = false := by simp [List.isPrefixOf, Ne.symm hc]
      have ed : dig (c :: r) = c :: r := by simp [dig, hc]
      have en : neg (c :: r) = false := by simp [neg, hc]
      rw [ed, en] at hK
      rw [e]
      simp only [wsv, wsg, wsh, wsl, cond_true, cond_false, exists_eq_left', Option.some.injEq, Option.isSome_some, List.getElem?_toArray, List.getElem?_cons_zero, List.getElem?_cons_succ, List.length_cons, List.length_nil, List.set_cons_zero, List.set_cons_succ, List.getD_cons_zero, List.getD_cons_succ, Nat.zero_add, Nat.add_zero, Nat.reduceAdd, Nat.reduceLT, Nat.lt_add_one, Nat.zero_lt_succ, decide_true, decide_false, ne_eq, reduceCtorEq]
      exact hK
theorem numgood_ref {a : Str} {w : World} {K : Value → World → Prop} (ha : a.length ≤ 9223372036854775807) (hK : ∀ w', Ext w w' → K (.bool (goodN a)) w') : callF Tryz.prog 87 [str a] w K := by
  refine W87_ok ?_
  unfold W87
  refine trimpre_ref ha ?_
  have hg : goodN a = (!decide ((dig a).length < 1) && !decide (100 < (dig a).length) && !((dig a).head? == some 48 && !decide (a = [48])) && (dig a).all Num.isDig) := by
    unfold goodN
    have e1 : decide (1 ≤ (dig a).length) = !decide ((dig a).length < 1) := by rw [← decide_not]; exact decide_eq_decide.2 (by omega)
    have e2 : decide ((dig a).length ≤ 100) = !decide (100 < (dig a).length) := by rw [← decide_not]; exact decide_eq_decide.2 (by omega)
    rw [e1, e2]
    cases ((dig a).head? == some 48) <;> cases decide (a = [48]) <;> simp
  rw [hg] at hK
  have hdl : (dig a).length ≤ a.length := by
    cases a with
    | nil => simp [dig]
    | cons c r => simp only [dig]; split <;> simp
  cases hd : dig a with
  | nil =>
    rw [hd] at hK
    have hz : decide (((0 : Nat) : Int) < 1) = true := by decide
    simp only [wsv, wsg, wsh, wsl, cond_true, cond_false, exists_eq_left', Option.some.injEq, Option.isSome_some, List.getElem?_toArray, List.getElem?_cons_zero, List.getElem?_cons_succ, List.length_cons, List.length_nil, List.set_cons_zero, List.set_cons_succ, List.getD_cons_zero, List.getD_cons_succ, Nat.zero_add, Nat.add_zero, Nat.reduceAdd, Nat.reduceLT, Nat.lt_add_one, Nat.zero_lt_succ, decide_true, decide_false, ne_eq, reduceCtorEq, hz]
    intros
    exact hK _ (Chg.refl _ _)
  | cons c r =>
    rw [hd] at hK hdl
    have hz : decide (((r.length + 1 : Nat) : Int) < 1) = false := decide_eq_false (by omega)
    simp only [wsv, wsg, wsh, wsl, cond_true, cond_false, exists_eq_left', Option.some.injEq, Option.isSome_some, List.getElem?_toArray, List.getElem?_cons_zero, List.getElem?_cons_succ, List.length_cons, List.length_nil, List.set_cons_zero, List.set_cons_succ, List.getD_cons_zero, List.getD_cons_succ, Nat.zero_add, Nat.add_zero, Nat.reduceAdd, Nat.reduceLT, Nat.lt_add_one, Nat.zero_lt_succ, decide_true, decide_false, ne_eq, reduceCtorEq, Int.le_refl, Int.toNat_zero, u8_is c 48 48 rfl, hz]
    intros
    rw [condW_b]
    have e1 : decide ((100 : Int) < ((r.length + 1 : Nat) : Int)) = decide (100 < (c :: r).length) := decide_eq_decide.2 (by simp only [List.length_cons]; omega)
    have e4 : decide ((c :: r).length < 1) = false := decide_eq_false (by simp)
    have e5 : ((c :: r).head? == some 48) = (c == 48) := by simp
    rw [e1]
    rw [e4, e5] at hK
    simp only [decide_not]
    generalize decide (100 < (c :: r).length) = b1 at *
    generalize ((c == 48) && !decide (a = [48])) = b2 at *
    refine ⟨fun h => ?_, fun h => ?_⟩
    · have := hK _ (Chg.refl _ _)
      have e : (!false && !b1 && !b2 && (c :: r).all Num.isDig) = false := by
        cases b1 <;> cases b2 <;> simp at h ⊢
      rw [e] at this
      exact this
    · have hb : b1 = false ∧ b2 = false := by simpa using h
      rw [hb.1, hb.2] at hK
      refine to_bytes (l := c :: r) (by kernel_rfl) (by kernel_rfl) (by kernel_rfl) fun v w1 hv hx1 => ?_
      rw [lenl_at hv]
      generalize c :: r = D at *
      refine loop_up D.length (fun i w2 => Ext w1 w2 ∧ (D.take i).all Num.isDig = true) ⟨Chg.refl _ _, rfl⟩ ?_ ?_
      · rintro i w2 g L hi ⟨hx2, hall⟩ hL
        obtain ⟨e, he⟩ : ∃ e, D[i]? = some e := ⟨_, List.getElem?_eq_getElem hi⟩
        have hlt : ((i : Int) < ((D.length : Nat) : Int)) := by omega
        simp only [wsv, wsg, wsh, wsl, cond_true, cond_false, exists_eq_left', Option.some.injEq, Option.isSome_some, List.getElem?_toArray, List.getElem?_cons_zero, List.getElem?_cons_succ, List.length_cons, List.length_nil, List.set_cons_zero, List.set_cons_succ, List.getD_cons_zero, List.getD_cons_succ, Nat.zero_add, Nat.add_zero, Nat.reduceAdd, Nat.reduceLT, Nat.lt_add_one, Nat.zero_lt_succ, decide_true, decide_false, ne_eq, reduceCtorEq, hlt]
        refine ixa_ld (hv.ext hx2) (by rw [u8s_length]) (by rw [u8s_get, he]; rfl) ?_
        simp only [wsv, wsg, wsh, wsl, cond_true, cond_false, exists_eq_left', Option.some.injEq, Option.isSome_some, List.getElem?_toArray, List.getElem?_cons_zero, List.getElem?_cons_succ, List.length_cons, List.length_nil, List.set_cons_zero, List.set_cons_succ, List.getD_cons_zero, List.getD_cons_succ, Nat.zero_add, Nat.add_zero, Nat.reduceAdd, Nat.reduceLT, Nat.lt_add_one, Nat.zero_lt_succ, decide_true, decide_false, ne_eq, reduceCtorEq, isDig_out]
        intros
        rw [condW_b]
        refine ⟨fun hf => ?_, fun ht => ?_⟩
        · have hf : Num.isDig e = false := by simpa using hf
          have := hK _ (hx1.trans hx2)
          rw [all_no he hf] at this
          exact this
        · have ht : Num.isDig e = true := by simpa using ht
          rw [up1 (by omega)]
          exact hL _ ⟨hx2, by rw [all_take he, hall, ht]; rfl⟩
      · rintro w2 g L ⟨hx2, hall⟩
        simp only [wsv, wsg, wsh, wsl, cond_true, cond_false, exists_eq_left', Option.some.injEq, Option.isSome_some, List.getElem?_toArray, List.getElem?_cons_zero, List.getElem?_cons_succ, List.length_cons, List.length_nil, List.set_cons_zero, List.set_cons_succ, List.getD_cons_zero, List.getD_cons_succ, Nat.zero_add, Nat.add_zero, Nat.reduceAdd, Nat.reduceLT, Nat.lt_add_one, Nat.zero_lt_succ, decide_true, decide_false, ne_eq, reduceCtorEq, Int.lt_irrefl]
        rw [List.take_length] at hall
        have := hK w2 (hx1.trans hx2)
        rw [hall] at this
        exact this
end
end Go.Proofs.YtdkikjcpgihjlaaGreatDoor
namespace Go.Proofs.YtdkikjcpgihjlaaGreatDoor
open Go Go.Eng Go.Num
set_option maxRecDepth 100000
abbrev BT : TypeId := 128
abbrev U64 : TypeId := 122
theorem elem_u : ElemT Tryz.prog 126 U64 1 8 := ⟨by kernel_rfl, by kernel_rfl, by decide⟩
def BRep (w : World) (x : Big) (cs : List Value) : Prop := ∃ sv T, cs = [.bool x.below, sv] ∧ SlAt w T sv x.l.length (x.l.map u64) ∧ x.l.length ≤ 1000 ∧ Lim x.l
theorem BRep.ext {w w' : World} {x : Big} {cs : List Value} (h : BRep w x cs) (hx : Ext w w') : BRep w' x cs := by
  obtain ⟨sv, T, rfl, h1, h2, h3⟩ := h; exact ⟨sv, T, rfl, h1.ext hx, h2, h3⟩
theorem BRep.one {w : World} {x : Big} {cs : List Value} (h : BRep w x cs) : cs.all one1 = true := by
  obtain ⟨sv, T, rfl, h1, _⟩ := h
  obtain ⟨p, c, rfl, _⟩ := h1.shape; rfl
theorem BRep.len {w : World} {x : Big} {cs : List Value} (h : BRep w x cs) : cs.length = 2 := by obtain ⟨sv, T, rfl, _⟩ := h; rfl
structure BigB (w : World) (a : Nat) (x : Big) (sv : Value) : Prop where
  hb : w.heap[a]? = some (.cells [.bool x.below, sv].toArray BT (0, 0))
  l : ∃ T, SlAt w T sv x.l.length (x.l.map u64)
  few : x.l.length ≤ 1000
  lim : Lim x.l
theorem BigB.ext {w w' : World} {a : Nat} {x : Big} {sv : Value} (h : BigB w a x sv) (hx : Ext w w') : BigB w' a x sv := ⟨hx.at h.hb id, let ⟨T, h1⟩ := h.l; ⟨T, h1.ext hx⟩, h.few, h.lim⟩
theorem BigB.rep {w : World} {a : Nat} {x : Big} {sv : Value} (h : BigB w a x sv) : BRep w x [.bool x.below, sv] := by obtain ⟨T, h1⟩ := h.l; exact ⟨sv, T, rfl, h1, h.few, h.lim⟩
theorem BigB.ld {w : World} {a : Nat} {x : Big} {sv : Value} {K : Value → Prop} (h : BigB w a x sv) (hK : ∀ cs, BRep w x cs → K (.agg cs.toArray)) : ldW true 2 (ptr a) w K := ld_all h.hb rfl (hK _ h.rep)
theorem BigB.len {w : World} {a : Nat} {x : Big} {sv : Value} (h : BigB w a x sv) (K : Value → Prop) : lenlW sv K ↔ K (i64 x.l.length) := by obtain ⟨T, h1⟩ := h.l; exact lenl_at h1 K
theorem BigB.at {w : World} {a : Nat} {x : Big} {sv : Value} {k : IntKind} {i n : Nat} {K : Value → Prop} (h : BigB w a x sv) (hi : x.l[i]? = some n) (hK : K (u64 n)) : ixaW none 1 sv (.int k i) fun p => ldW false 1 p w K := by
  obtain ⟨T, h1⟩ := h.l
  exact ixa_ld h1 (by simp) (by simp [hi]) hK
theorem box_big {w : World} {x : Big} {cs : List Value} {K : Value → World → Prop} (h : BRep w x cs) (hK : ∀ a w' sv, BigB w' a x sv → Ext w w' → a = w.heap.size → w'.heap.size = a + 1 → K (ptr a) w') : boxW BT (.agg cs.toArray) w K := by
  obtain ⟨sv, T, rfl, h1, h2, h3⟩ := h
  refine box_new fun a w' ha hz hb hx => hK a w' sv ⟨hb, ⟨T, h1.ext hx⟩, h2, h3⟩ hx ha (by omega)
theorem ret_big {w w0 : World} {b : Nat} {cs ds : List Value} {K : Value → World → Prop} (hb : w.heap[b]? = some (.cells ds.toArray BT (0, 0))) (hd : ds.length = 2) (hl : w0.heap.size ≤ b) (hx : Ext w0 w) (h1 : cs.all one1 = true) (h2 : cs.length = 2)
    (hK : ∀ w', Ext w0 w' → Chg (fun k => k = b) w w' → K (.agg cs.toArray) w') : stW 2 (ptr b) (.agg cs.toArray) w fun w5 => ldW true 2 (ptr b) w5 fun r6 => K r6 w5 :=
  ret_agg hb h2 hd h1 fun w' hc => hK w' (hx.new hc hl) hc
theorem BRep.keep {w w' : World} {b : Nat} {x : Big} {cs : List Value} {p : Bool} {q : Value} {T0 : TypeId} (h : BRep w x cs) (hb : w.heap[b]? = some (.cells [.bool p, q].toArray T0 (0, 0))) (hq : ∀ n, q ≠ u64 n) (hc : Chg (fun k => k = b) w w') : BRep w' x cs := by
  obtain ⟨sv, T, rfl, ⟨p', cap, hv, h1, h2, h3⟩, h4, h5⟩ := h
  refine ⟨sv, T, rfl, ⟨p', cap, hv, h1, h2, fun hne => ?_⟩, h4, h5⟩
  obtain ⟨k, off, c, fr, hp, hk, hcs⟩ := h3 hne
  have hkb : k ≠ b := by
    rintro rfl
    rw [hb] at hk
    cases hk
    obtain ⟨n, r, e⟩ : ∃ n r, x.l = n :: r := by
      cases hx : x.l with
      | nil => rw [hx] at hne; simp at hne
      | cons n r => exact ⟨n, r, rfl⟩
    have := hcs 0 (by rw [e]; simp)
    rw [e] at this
    simp only [Nat.add_zero, List.map_cons, List.getElem?_cons_zero, List.getElem?_toArray] at this
    rcases off with _ | _ | off
    · simp at this
    · simp only [Nat.zero_add, List.getElem?_cons_succ, List.getElem?_cons_zero, Option.some.injEq] at this; exact hq n this
    · simp at this
  exact ⟨k, off, c, fr, hp, hc.at hk hkb, hcs⟩
theorem u64_wrap {n : Int} (h1 : 0 ≤ n) (h2 : n < 18446744073709551616) : IntKind.u64.wrap n = n := by
  simp only [IntKind.wrap, IntKind.signed, IntKind.bits, IntKind.max, IntKind.min]
  simp
  omega
theorem row_u {w : World} {n : Nat} {K : Value → World → Prop} (hK : ∀ t w', SlAt w' U64 t 1 [u64 n] → Ext w w' → K t w') : bslW U64 1 [(.int .u64 0)] [(0, 1, u64 n)] w K := by
  unfold bslW
  simp only [wsv, wsg, wsh, wsl, cond_true, cond_false, exists_eq_left', Option.some.injEq, Option.isSome_some, List.getElem?_toArray, List.getElem?_cons_zero, List.getElem?_cons_succ, List.length_cons, List.length_nil, List.set_cons_zero, List.set_cons_succ, List.getD_cons_zero, List.getD_cons_succ, Nat.zero_add, Nat.add_zero, Nat.reduceAdd, Nat.reduceLT, Nat.lt_add_one, Nat.zero_lt_succ, decide_true, decide_false, ne_eq, reduceCtorEq]
  exact hK _ _ (own_new (w := w) (base := w.heap.size) (e := U64) (size := 1) (n := 1) (cs := [u64 n]) (Nat.le_refl _) rfl (by omega)).sl (by repeat (first | assumption | exact Chg.refl _ _ | refine Chg.drew ?_ | refine Chg.alloc ?_ _ | refine Chg.set ?_ (by first | exact .inl rfl | exact .inr (by omega) | exact .inr (by simp only [size_set, size_alloc, size_drew]; omega) | (left; simp; done)) _ | exact Chg.of_ext (by assumption)))
theorem app_u {w : World} {base n : Nat} {v : Value} {l : List Nat} {K : Value → World → Prop} (h : Own w base U64 1 v l.length (l.map u64)) (hb : base ≤ w.heap.size) (hl : l.length ≤ 100000)
    (hK : ∀ v' w', Own w' base U64 1 v' (l ++ [n]).length ((l ++ [n]).map u64) → Chg (fun k => base ≤ k) w w' → K v' w') :
    bslW U64 1 [(.int .u64 0)] [(0, 1, u64 n)] w fun t w1 => semE Tryz.prog (Builtin.append_ #[126, 126] 126 #[v, t]) w1 K := by
  refine row_u fun t w1 ht hx => ?_
  refine append_own2 elem_u (h.ext hx) ht (m := 1) rfl (fun u hu => by simp only [List.mem_singleton] at hu; subst hu; rfl) (by omega) (by omega) (Nat.le_trans hb hx.size) fun v' w' h' hc _ => ?_
  refine hK v' w' (by simpa using h') ((Chg.of_ext hx).trans ?_)
  refine hc.mono fun k _ e => (own_ge (h.ext hx) e).1
  done
section
variable [HX]
theorem sll_take {w : World} {T : TypeId} {v : Value} {n k : Nat} {cs : List Value} {K : Value → Prop} (h : SlAt w T v n cs) (hl : cs.length = n) (hk : k ≤ n) (hK : ∀ v', SlAt w T v' k (cs.take k) → K v') : sllW 1 v none (some (i64 (k : Nat))) none K := by
  obtain ⟨p, cap, rfl, h1, h2, h3⟩ := h
  rw [sll_sl]
  simp only [bd_none, bd_some]
  refine ⟨by omega, by omega, ?_⟩
  have e : (if cap = 0 then p else p.map (·.add (0 * 1))) = p := by
    split
    · rfl
    · cases p with
      | none => rfl
      | some a => simp [Addr.add]
  rw [e]
  refine hK _ ⟨p, cap - 0, by simp, by omega, fun e => ?_, fun hne => ?_⟩
  · have := h2 e; omega
  · obtain ⟨b, off, c, fr, hp, hb, hcs⟩ := h3 fun e => hne (by rw [e]; simp)
    refine ⟨b, off, c, fr, hp, hb, fun i hi => ?_⟩
    rw [List.length_take] at hi
    rw [hcs i (by omega), List.getElem?_take, if_pos (by omega)]
def lenAt (w : World) (a : Nat) : Nat := match cellO w.heap[a]? 1 with | some (Value.slice _ n _) => n | _ => 0
theorem trim_ref {x : Big} {cs : List Value} {w : World} {K : Value → World → Prop} (h : BRep w x cs) (hK : ∀ cs' w', Ext w w' → BRep w' x.trim cs' → K (.agg cs'.toArray) w') : callF Tryz.prog 165 [.agg cs.toArray] w K := by
  refine W165_ok ?_
  unfold W165
  obtain ⟨sv, T, rfl, h1, h2, h3⟩ := h
  refine box_new fun a w1 ha hz hba hx => ?_
  refine alloc_new fun b w2 hb hz2 hbb hx2 => ?_
  have hba := hx2.at hba id
  have hx12 := hx.trans hx2
  refine ⟨fun s w' => s = [] ∧ ∃ m sv', m ≤ x.l.length ∧ w'.heap[a]? = some (.cells [.bool x.below, sv'].toArray BT (0, 0)) ∧ SlAt w T sv' m ((x.l.take m).map u64) ∧ trimL (x.l.take m) = trimL x.l ∧ Chg (fun k => k = a) w2 w',
    fun _ w' => lenAt w' a, ⟨rfl, x.l.length, sv, Nat.le_refl _, hba, by rw [List.take_length]; exact h1, by rw [List.take_length], Chg.refl _ _⟩, ?_⟩
  rintro s g w3 ⟨rfl, m, sv', hm, hba3, hs, htr, hc3⟩
  have hx3 : Ext w w3 := hx12.new hc3 (by omega)
  have hs3 := hs.ext hx3
  obtain ⟨p, cap, rfl, hcap⟩ := hs.shape
  simp only [wsv, wsg, wsh, wsl, cond_true, cond_false, exists_eq_left', Option.some.injEq, Option.isSome_some, List.getElem?_toArray, List.getElem?_cons_zero, List.getElem?_cons_succ, List.length_cons, List.length_nil, List.set_cons_zero, List.set_cons_succ, List.getD_cons_zero, List.getD_cons_succ, Nat.zero_add, Nat.add_zero, Nat.reduceAdd, Nat.reduceLT, Nat.lt_add_one, Nat.zero_lt_succ, decide_true, decide_false, ne_eq, reduceCtorEq, wsh, hba3]
  have hlen3 : lenAt w3 a = m := by unfold lenAt; rw [hba3]; rfl
  rw [hlen3]
  clear hlen3
  refine GdW.look (decide (x.l[m - 1]? = some 0)) ?_ ?_
  · intro hc J hJ
    obtain ⟨k, rfl⟩ : ∃ k, m = k + 1 := ⟨m - 1, by simp only [decide_eq_true_eq] at hc; omega⟩
    have hw : IntKind.i64.wrap (((k + 1 : Nat) : Int) - 1) = ((k : Nat) : Int) := by rw [wrap_id (by omega) (by omega)]; omega
    obtain ⟨y, hy⟩ : ∃ y, x.l[k]? = some y := ⟨_, List.getElem?_eq_getElem (by omega)⟩
    simp only [wsv, wsg, wsh, wsl, cond_true, cond_false, exists_eq_left', Option.some.injEq, Option.isSome_some, List.getElem?_toArray, List.getElem?_cons_zero, List.getElem?_cons_succ, List.length_cons, List.length_nil, List.set_cons_zero, List.set_cons_succ, List.getD_cons_zero, List.getD_cons_succ, Nat.zero_add, Nat.add_zero, Nat.reduceAdd, Nat.reduceLT, Nat.lt_add_one, Nat.zero_lt_succ, decide_true, decide_false, ne_eq, reduceCtorEq, hw]
    refine ixa_ld hs3 (by simp; omega) (by simp [hy]; rfl) ?_
    simp only [wsv, wsg, wsh, wsl, cond_true, cond_false, exists_eq_left', Option.some.injEq, Option.isSome_some, List.getElem?_toArray, List.getElem?_cons_zero, List.getElem?_cons_succ, List.length_cons, List.length_nil, List.set_cons_zero, List.set_cons_succ, List.getD_cons_zero, List.getD_cons_succ, Nat.zero_add, Nat.add_zero, Nat.reduceAdd, Nat.reduceLT, Nat.lt_add_one, Nat.zero_lt_succ, decide_true, decide_false, ne_eq, reduceCtorEq]
    have e : decide ((y : Int) = 0) = decide (x.l[k + 1 - 1]? = some 0) := decide_eq_decide.2 (by rw [Nat.add_sub_cancel, hy, Option.some.injEq]; omega)
    rw [e]
    exact hJ
  · intro gd
    simp only [wsv, wsg, wsh, wsl, cond_true, cond_false, exists_eq_left', Option.some.injEq, Option.isSome_some, List.getElem?_toArray, List.getElem?_cons_zero, List.getElem?_cons_succ, List.length_cons, List.length_nil, List.set_cons_zero, List.set_cons_succ, List.getD_cons_zero, List.getD_cons_succ, Nat.zero_add, Nat.add_zero, Nat.reduceAdd, Nat.reduceLT, Nat.lt_add_one, Nat.zero_lt_succ, decide_true, decide_false, ne_eq, reduceCtorEq, wsh, hba3]
    rw [condW_b]
    refine ⟨fun hc => ?_, fun hc => ?_⟩
    · simp only [Bool.and_eq_true, decide_eq_true_eq] at hc
      obtain ⟨k, rfl⟩ : ∃ k, m = k + 1 := ⟨m - 1, by omega⟩
      have hw : IntKind.i64.wrap (((k + 1 : Nat) : Int) - 1) = ((k : Nat) : Int) := by rw [wrap_id (by omega) (by omega)]; omega
      rw [hw]
      refine sll_take (k := k) hs (by simp; omega) (by omega) fun v' hv' => ?_
      obtain ⟨p', cap', rfl, _⟩ := hv'.shape
      refine st_at hba3 rfl (by simp) fun w4 hz4 hb4 hc4 => ?_
      have hb4 : w4.heap[a]? = some (.cells [.bool x.below, .slice p' k cap'].toArray BT (0, 0)) := by rw [hb4]; simp
      refine ⟨⟨k, _, by omega, hb4, ?_, ?_, hc3.trans hc4⟩, ?_⟩
      · have e : (x.l.take k).map u64 = ((x.l.take (k + 1)).map u64).take k := by rw [← List.map_take, List.take_take, Nat.min_eq_left (by omega)]
        rw [e]; exact hv'
      · have e : x.l.take (k + 1) = x.l.take k ++ [0] := by
          rw [List.take_add_one]
          have := hc.2
          rw [Nat.add_sub_cancel] at this
          rw [this]; rfl
        rw [← htr, e, trimL_zero]
      · have : lenAt w4 a = k := by unfold lenAt; rw [hb4]; rfl
        rw [this]; omega
    · have hT : trimL x.l = x.l.take m := by
        rw [← htr]
        rcases Nat.eq_zero_or_pos m with h0 | h0
        · subst h0; rw [List.take_zero, trimL_nil]
        · obtain ⟨k, rfl⟩ : ∃ k, m = k + 1 := ⟨m - 1, by omega⟩
          obtain ⟨y, hy⟩ : ∃ y, x.l[k]? = some y := ⟨_, List.getElem?_eq_getElem (by omega)⟩
          have hy0 : y ≠ 0 := by
            rintro rfl
            rw [decide_eq_true (show ((0 : Int) < ((k + 1 : Nat) : Int)) by omega), Nat.add_sub_cancel, hy] at hc
            simp at hc
          have e : x.l.take (k + 1) = x.l.take k ++ [y] := by rw [List.take_add_one, hy]; rfl
          rw [e, trimL_ne hy0]
      have hlt : (trimL x.l).length = m := by rw [hT, List.length_take]; omega
      have hbel : (x.below && decide ((0 : Int) < (m : Int))) = x.trim.below := by
        show _ = (x.below && !(trimL x.l).isEmpty)
        congr 1
        cases hT2 : trimL x.l with
        | nil => rw [hT2] at hlt; simp at hlt; subst hlt; simp
        | cons y r => rw [hT2] at hlt; simp at hlt; simp; omega
      (try simp only [wsv, wsg, wsh, wsl, cond_true, cond_false, exists_eq_left', Option.some.injEq, Option.isSome_some, List.getElem?_toArray, List.getElem?_cons_zero, List.getElem?_cons_succ, List.length_cons, List.length_nil, List.set_cons_zero, List.set_cons_succ, List.getD_cons_zero, List.getD_cons_succ, Nat.zero_add, Nat.add_zero, Nat.reduceAdd, Nat.reduceLT, Nat.lt_add_one, Nat.zero_lt_succ, decide_true, decide_false, ne_eq, reduceCtorEq, wsh, hba3])
      intros
      rw [hbel]
      refine st_at hba3 rfl (by simp) fun w4 hz4 hb4 hc4 => ?_
      have hb4 : w4.heap[a]? = some (.cells [.bool x.trim.below, .slice p m cap].toArray BT (0, 0)) := by rw [hb4]; simp
      refine ld_all hb4 rfl ?_
      have hbb4 := hc4.at (hc3.at hbb (by omega)) (by omega)
      have hx4 : Ext w w4 := hx3.new hc4 (by omega)
      refine ret_big (w0 := w) hbb4 rfl (by have := hx.size; omega) hx4 rfl rfl fun w5 hx5 _ => ?_
      refine hK _ w5 hx5 ⟨_, T, rfl, ?_, ?_, ?_⟩
      · show SlAt w5 T _ (trimL x.l).length ((trimL x.l).map u64)
        rw [hlt, hT]
        exact hs.ext hx5
      · show (trimL x.l).length ≤ 1000
        rw [hlt]; omega
      · exact (trimL_spec x.l).2.2 h3
theorem headD_drop (l : List Nat) (i : Nat) : (l.drop i).headD 0 = l.getD i 0 := by
  induction l generalizing i with
  | nil => simp
  | cons x l ih => cases i <;> simp_all
theorem plusL_step {x y : List Nat} {c : Nat} (h : x ≠ [] ∨ y ≠ []) : plusL x y c = (c + x.headD 0 + y.headD 0) % 1000000000 :: plusL x.tail y.tail ((c + x.headD 0 + y.headD 0) / 1000000000) := by
  cases x with
  | nil => cases y with
    | nil => simp at h
    | cons b y => simp [plusL]
  | cons a x => cases y with
    | nil => simp [plusL]
    | cons b y => simp [plusL]
theorem lim_getD {l : List Nat} (h : Lim l) (i : Nat) : l.getD i 0 < 1000000000 := by
  rw [List.getD_eq_getElem?_getD]
  cases hi : l[i]? with
  | none => simp
  | some x => exact h x (List.mem_of_getElem? hi)
theorem plus_ref {x y : Big} {cs ds : List Value} {w : World} {K : Value → World → Prop} (h : BRep w x cs) (h' : BRep w y ds) (hK : ∀ v w', Ext w w' → SlAt w' U64 v (plusL x.l y.l 0).length ((plusL x.l y.l 0).map u64) → K v w') : callF Tryz.prog 164 [.agg cs.toArray, .agg ds.toArray] w K := by
  refine W164_ok ?_
  unfold W164
  refine box_big h fun a w1 sv hB hx ha hz1 => ?_
  refine box_big (h'.ext hx) fun b w2 sv' hC hx2 hb hz2 => ?_
  have hB := hB.ext hx2
  have hx := hx.trans hx2
  clear hx2
  simp only [wsv, wsg, wsh, wsl, cond_true, cond_false, exists_eq_left', Option.some.injEq, Option.isSome_some, List.getElem?_toArray, List.getElem?_cons_zero, List.getElem?_cons_succ, List.length_cons, List.length_nil, List.set_cons_zero, List.set_cons_succ, List.getD_cons_zero, List.getD_cons_succ, Nat.zero_add, Nat.add_zero, Nat.reduceAdd, Nat.reduceLT, Nat.lt_add_one, Nat.zero_lt_succ, decide_true, decide_false, ne_eq, reduceCtorEq, wsh, hB.hb, hC.hb, hB.len, hC.len]
  have hmax : (if (x.l.length : Int) < (y.l.length : Int) then (y.l.length : Int) else (x.l.length : Int)) = ((max x.l.length y.l.length : Nat) : Int) := by split <;> omega
  rw [hmax]
  generalize hM : max x.l.length y.l.length = M
  have hM1 : M ≤ 1000 := by have := hB.few; have := hC.few; omega
  refine ⟨fun s w' => ∃ i c v l, i ≤ M ∧ c ≤ 1 ∧ s = [v, u64 c, i64 (i : Nat)] ∧ Ext w2 w' ∧ Own w' w2.heap.size U64 1 v l.length (l.map u64) ∧ l.length = i ∧ l ++ plusL (x.l.drop i) (y.l.drop i) c = plusL x.l y.l 0,
    fun s _ => match s with | [_, _, .int _ i] => M - i.toNat | _ => 0, ⟨0, 0, _, [], by omega, by omega, rfl, Chg.refl _ _, ⟨rfl, .inl ⟨rfl, rfl⟩⟩, rfl, by simp⟩, ?_⟩
  rintro s g w3 ⟨i, c, v, l, hi, hc, rfl, hx3, hO, hl, he⟩
  have hB3 := hB.ext hx3
  have hC3 := hC.ext hx3
  rcases Nat.lt_or_ge i M with hlt | hge
  · have hltI : (i : Int) < (M : Int) := by omega
    have hxi := lim_getD hB.lim i
    have hyi := lim_getD hC.lim i
    simp only [wsv, wsg, wsh, wsl, cond_true, cond_false, exists_eq_left', Option.some.injEq, Option.isSome_some, List.getElem?_toArray, List.getElem?_cons_zero, List.getElem?_cons_succ, List.length_cons, List.length_nil, List.set_cons_zero, List.set_cons_succ, List.getD_cons_zero, List.getD_cons_succ, Nat.zero_add, Nat.add_zero, Nat.reduceAdd, Nat.reduceLT, Nat.lt_add_one, Nat.zero_lt_succ, decide_true, decide_false, ne_eq, reduceCtorEq, hltI]
    refine JoinW.cut (fun s w' => s = [u64 (c + x.l.getD i 0)] ∧ w' = w3) ?_ ?_
    · (try simp only [wsv, wsg, wsh, wsl, cond_true, cond_false, exists_eq_left', Option.some.injEq, Option.isSome_some, List.getElem?_toArray, List.getElem?_cons_zero, List.getElem?_cons_succ, List.length_cons, List.length_nil, List.set_cons_zero, List.set_cons_succ, List.getD_cons_zero, List.getD_cons_succ, Nat.zero_add, Nat.add_zero, Nat.reduceAdd, Nat.reduceLT, Nat.lt_add_one, Nat.zero_lt_succ, decide_true, decide_false, ne_eq, reduceCtorEq, wsh, hB3.hb, hB3.len])
      rw [condW_dec]
      refine ⟨fun hi1 => ?_, fun hi1 => ?_⟩
      · obtain ⟨n, hn⟩ : ∃ n, x.l[i]? = some n := ⟨_, List.getElem?_eq_getElem (by omega)⟩
        have hgd : x.l.getD i 0 = n := by rw [List.getD_eq_getElem?_getD, hn]; rfl
        (try simp only [wsv, wsg, wsh, wsl, cond_true, cond_false, exists_eq_left', Option.some.injEq, Option.isSome_some, List.getElem?_toArray, List.getElem?_cons_zero, List.getElem?_cons_succ, List.length_cons, List.length_nil, List.set_cons_zero, List.set_cons_succ, List.getD_cons_zero, List.getD_cons_succ, Nat.zero_add, Nat.add_zero, Nat.reduceAdd, Nat.reduceLT, Nat.lt_add_one, Nat.zero_lt_succ, decide_true, decide_false, ne_eq, reduceCtorEq, wsh, hB3.hb])
        refine hB3.at hn ?_
        simp only [wsv, wsg, wsh, wsl, cond_true, cond_false, exists_eq_left', Option.some.injEq, Option.isSome_some, List.getElem?_toArray, List.getElem?_cons_zero, List.getElem?_cons_succ, List.length_cons, List.length_nil, List.set_cons_zero, List.set_cons_succ, List.getD_cons_zero, List.getD_cons_succ, Nat.zero_add, Nat.add_zero, Nat.reduceAdd, Nat.reduceLT, Nat.lt_add_one, Nat.zero_lt_succ, decide_true, decide_false, ne_eq, reduceCtorEq]
        rw [hgd] at hxi ⊢
        rw [u64_wrap (by omega) (by omega)]
        simp only [u64, Int.natCast_add]
      · have hgd : x.l.getD i 0 = 0 := by rw [List.getD_eq_getElem?_getD, List.getElem?_eq_none (by omega)]; rfl
        rw [hgd]; first | exact ⟨rfl, rfl⟩ | rfl
    · rintro s gg w4 ⟨rfl, rfl⟩
      refine JoinW.cut (fun s w' => s = [u64 (c + x.l.getD i 0 + y.l.getD i 0)] ∧ w' = w4) ?_ ?_
      · (try simp only [wsv, wsg, wsh, wsl, cond_true, cond_false, exists_eq_left', Option.some.injEq, Option.isSome_some, List.getElem?_toArray, List.getElem?_cons_zero, List.getElem?_cons_succ, List.length_cons, List.length_nil, List.set_cons_zero, List.set_cons_succ, List.getD_cons_zero, List.getD_cons_succ, Nat.zero_add, Nat.add_zero, Nat.reduceAdd, Nat.reduceLT, Nat.lt_add_one, Nat.zero_lt_succ, decide_true, decide_false, ne_eq, reduceCtorEq, wsh, hC3.hb, hC3.len])
        rw [condW_dec]
        refine ⟨fun hi1 => ?_, fun hi1 => ?_⟩
        · obtain ⟨n, hn⟩ : ∃ n, y.l[i]? = some n := ⟨_, List.getElem?_eq_getElem (by omega)⟩
          have hgd : y.l.getD i 0 = n := by rw [List.getD_eq_getElem?_getD, hn]; rfl
          (try simp only [wsv, wsg, wsh, wsl, cond_true, cond_false, exists_eq_left', Option.some.injEq, Option.isSome_some, List.getElem?_toArray, List.getElem?_cons_zero, List.getElem?_cons_succ, List.length_cons, List.length_nil, List.set_cons_zero, List.set_cons_succ, List.getD_cons_zero, List.getD_cons_succ, Nat.zero_add, Nat.add_zero, Nat.reduceAdd, Nat.reduceLT, Nat.lt_add_one, Nat.zero_lt_succ, decide_true, decide_false, ne_eq, reduceCtorEq, wsh, hC3.hb])
          refine hC3.at hn ?_
          simp only [wsv, wsg, wsh, wsl, cond_true, cond_false, exists_eq_left', Option.some.injEq, Option.isSome_some, List.getElem?_toArray, List.getElem?_cons_zero, List.getElem?_cons_succ, List.length_cons, List.length_nil, List.set_cons_zero, List.set_cons_succ, List.getD_cons_zero, List.getD_cons_succ, Nat.zero_add, Nat.add_zero, Nat.reduceAdd, Nat.reduceLT, Nat.lt_add_one, Nat.zero_lt_succ, decide_true, decide_false, ne_eq, reduceCtorEq]
          rw [hgd] at hyi ⊢
          rw [u64_wrap (by omega) (by omega)]
          simp only [u64, Int.natCast_add]
        · have hgd : y.l.getD i 0 = 0 := by rw [List.getD_eq_getElem?_getD, List.getElem?_eq_none (by omega)]; rfl
          rw [hgd]; first | exact ⟨rfl, rfl⟩ | rfl
      · rintro s gg w5 ⟨rfl, rfl⟩
        have hst := plusL_step (x := x.l.drop i) (y := y.l.drop i) (c := c) (by
          rcases Nat.lt_or_ge i x.l.length with h1 | h1
          · left; intro e; have := List.drop_eq_nil_iff.1 e; omega
          · right; intro e; have := List.drop_eq_nil_iff.1 e; omega)
        rw [headD_drop, headD_drop, List.tail_drop, List.tail_drop] at hst
        have hn : c + x.l.getD i 0 + y.l.getD i 0 < 2000000000 := by omega
        generalize c + x.l.getD i 0 + y.l.getD i 0 = n at *
        have e1 : ((n : Int).tmod 1000000000) = ((n % 1000000000 : Nat) : Int) := by simp [Int.natCast_emod, Int.tmod_eq_emod_of_nonneg]
        have e2 : IntKind.u64.wrap ((n : Int).tdiv 1000000000) = ((n / 1000000000 : Nat) : Int) := by
          rw [Int.tdiv_eq_ediv_of_nonneg (by omega), u64_wrap (by omega) (by omega)]; omega
        have hne : ¬ (1000000000 : Int) = 0 := by decide
        simp only [wsv, wsg, wsh, wsl, cond_true, cond_false, exists_eq_left', Option.some.injEq, Option.isSome_some, List.getElem?_toArray, List.getElem?_cons_zero, List.getElem?_cons_succ, List.length_cons, List.length_nil, List.set_cons_zero, List.set_cons_succ, List.getD_cons_zero, List.getD_cons_succ, Nat.zero_add, Nat.add_zero, Nat.reduceAdd, Nat.reduceLT, Nat.lt_add_one, Nat.zero_lt_succ, decide_true, decide_false, ne_eq, reduceCtorEq, e1, e2, hne, not_false_eq_true]
        refine app_u hO hx3.size (by omega) fun v' w' h' hc' => ?_
        rw [up1 (by omega)]
        refine ⟨⟨i + 1, n / 1000000000, v', l ++ [n % 1000000000], hlt, by omega, rfl, hx3.then hc' fun k hk e => by omega, h', by simp [hl], ?_⟩, by simp only [Int.toNat_natCast]; omega⟩
        rw [← he, hst]; simp
  · obtain rfl : i = M := by omega
    simp only [wsv, wsg, wsh, wsl, cond_true, cond_false, exists_eq_left', Option.some.injEq, Option.isSome_some, List.getElem?_toArray, List.getElem?_cons_zero, List.getElem?_cons_succ, List.length_cons, List.length_nil, List.set_cons_zero, List.set_cons_succ, List.getD_cons_zero, List.getD_cons_succ, Nat.zero_add, Nat.add_zero, Nat.reduceAdd, Nat.reduceLT, Nat.lt_add_one, Nat.zero_lt_succ, decide_true, decide_false, ne_eq, reduceCtorEq, Int.lt_irrefl]
    refine app_u hO hx3.size (by omega) fun v' w' h' hc' => ?_
    have e1 : x.l.drop i = [] := List.drop_eq_nil_iff.2 (by omega)
    have e2 : y.l.drop i = [] := List.drop_eq_nil_iff.2 (by omega)
    rw [e1, e2] at he
    simp only [plusL] at he
    have := hK v' w' (hx.trans (hx3.then hc' fun k hk e => by omega))
    rw [← he] at this
    exact this h'.sl
theorem minusL_step {a : Nat} {x y : List Nat} {c : Nat} : minusL (a :: x) y c = (if a < c + y.headD 0 then a + 1000000000 - (c + y.headD 0) else a - (c + y.headD 0)) :: minusL x y.tail (if a < c + y.headD 0 then 1 else 0) := by
  simp only [minusL]; split <;> rfl
theorem minus_ref {x y : Big} {cs ds : List Value} {w : World} {K : Value → World → Prop} (h : BRep w x cs) (h' : BRep w y ds) (hK : ∀ v w', Ext w w' → SlAt w' U64 v (minusL x.l y.l 0).length ((minusL x.l y.l 0).map u64) → K v w') : callF Tryz.prog 167 [.agg cs.toArray, .agg ds.toArray] w K := by
  refine W167_ok ?_
  unfold W167
  refine box_big h fun a w1 sv hB hx ha hz1 => ?_
  refine box_big (h'.ext hx) fun b w2 sv' hC hx2 hb hz2 => ?_
  have hB := hB.ext hx2
  have hx := hx.trans hx2
  clear hx2
  simp only [wsv, wsg, wsh, wsl, cond_true, cond_false, exists_eq_left', Option.some.injEq, Option.isSome_some, List.getElem?_toArray, List.getElem?_cons_zero, List.getElem?_cons_succ, List.length_cons, List.length_nil, List.set_cons_zero, List.set_cons_succ, List.getD_cons_zero, List.getD_cons_succ, Nat.zero_add, Nat.add_zero, Nat.reduceAdd, Nat.reduceLT, Nat.lt_add_one, Nat.zero_lt_succ, decide_true, decide_false, ne_eq, reduceCtorEq, wsh, hB.hb, hC.hb, hB.len, hC.len]
  have hM1 : x.l.length ≤ 1000 := hB.few
  refine ⟨fun s w' => ∃ i c v l, i ≤ x.l.length ∧ c ≤ 1 ∧ s = [v, u64 c, i64 (i : Nat)] ∧ Ext w2 w' ∧ Own w' w2.heap.size U64 1 v l.length (l.map u64) ∧ l.length = i ∧ l ++ minusL (x.l.drop i) (y.l.drop i) c = minusL x.l y.l 0,
    fun s _ => match s with | [_, _, .int _ i] => x.l.length - i.toNat | _ => 0, ⟨0, 0, _, [], by omega, by omega, rfl, Chg.refl _ _, ⟨rfl, .inl ⟨rfl, rfl⟩⟩, rfl, by simp⟩, ?_⟩
  rintro s g w3 ⟨i, c, v, l, hi, hc, rfl, hx3, hO, hl, he⟩
  have hB3 := hB.ext hx3
  have hC3 := hC.ext hx3
  rcases Nat.lt_or_ge i x.l.length with hlt | hge
  · have hltI : (i : Int) < (x.l.length : Int) := by omega
    have hyi := lim_getD hC.lim i
    obtain ⟨n, hn⟩ : ∃ n, x.l[i]? = some n := ⟨_, List.getElem?_eq_getElem hlt⟩
    have hnl := hB.lim n (List.mem_of_getElem? hn)
    simp only [wsv, wsg, wsh, wsl, cond_true, cond_false, exists_eq_left', Option.some.injEq, Option.isSome_some, List.getElem?_toArray, List.getElem?_cons_zero, List.getElem?_cons_succ, List.length_cons, List.length_nil, List.set_cons_zero, List.set_cons_succ, List.getD_cons_zero, List.getD_cons_succ, Nat.zero_add, Nat.add_zero, Nat.reduceAdd, Nat.reduceLT, Nat.lt_add_one, Nat.zero_lt_succ, decide_true, decide_false, ne_eq, reduceCtorEq, hltI]
    refine hB3.at hn ?_
    refine JoinW.cut (fun s w' => s = [u64 (c + y.l.getD i 0)] ∧ w' = w3) ?_ ?_
    · (try simp only [wsv, wsg, wsh, wsl, cond_true, cond_false, exists_eq_left', Option.some.injEq, Option.isSome_some, List.getElem?_toArray, List.getElem?_cons_zero, List.getElem?_cons_succ, List.length_cons, List.length_nil, List.set_cons_zero, List.set_cons_succ, List.getD_cons_zero, List.getD_cons_succ, Nat.zero_add, Nat.add_zero, Nat.reduceAdd, Nat.reduceLT, Nat.lt_add_one, Nat.zero_lt_succ, decide_true, decide_false, ne_eq, reduceCtorEq, wsh, hC3.hb, hC3.len])
      rw [condW_dec]
      refine ⟨fun hi1 => ?_, fun hi1 => ?_⟩
      · obtain ⟨m, hm⟩ : ∃ n, y.l[i]? = some n := ⟨_, List.getElem?_eq_getElem (by omega)⟩
        have hgd : y.l.getD i 0 = m := by rw [List.getD_eq_getElem?_getD, hm]; rfl
        (try simp only [wsv, wsg, wsh, wsl, cond_true, cond_false, exists_eq_left', Option.some.injEq, Option.isSome_some, List.getElem?_toArray, List.getElem?_cons_zero, List.getElem?_cons_succ, List.length_cons, List.length_nil, List.set_cons_zero, List.set_cons_succ, List.getD_cons_zero, List.getD_cons_succ, Nat.zero_add, Nat.add_zero, Nat.reduceAdd, Nat.reduceLT, Nat.lt_add_one, Nat.zero_lt_succ, decide_true, decide_false, ne_eq, reduceCtorEq, wsh, hC3.hb])
        refine hC3.at hm ?_
        simp only [wsv, wsg, wsh, wsl, cond_true, cond_false, exists_eq_left', Option.some.injEq, Option.isSome_some, List.getElem?_toArray, List.getElem?_cons_zero, List.getElem?_cons_succ, List.length_cons, List.length_nil, List.set_cons_zero, List.set_cons_succ, List.getD_cons_zero, List.getD_cons_succ, Nat.zero_add, Nat.add_zero, Nat.reduceAdd, Nat.reduceLT, Nat.lt_add_one, Nat.zero_lt_succ, decide_true, decide_false, ne_eq, reduceCtorEq]
        rw [hgd] at hyi ⊢
        rw [u64_wrap (by omega) (by omega)]
        simp only [u64, Int.natCast_add]
      · have hgd : y.l.getD i 0 = 0 := by rw [List.getD_eq_getElem?_getD, List.getElem?_eq_none (by omega)]; rfl
        rw [hgd]; first | exact ⟨rfl, rfl⟩ | rfl
    · rintro s gg w4 ⟨rfl, rfl⟩
      have hdx : x.l.drop i = n :: x.l.drop (i + 1) := by
        rw [List.drop_eq_getElem_cons hlt]; congr 1
        exact Option.some.inj ((List.getElem?_eq_getElem hlt).symm.trans hn)
      rw [hdx, minusL_step, headD_drop, List.tail_drop] at he
      have ht : c + y.l.getD i 0 ≤ 1000000000 := by omega
      generalize c + y.l.getD i 0 = t at *
      refine JoinW.cut (fun s w' => s = [u64 (if n < t then 1 else 0), u64 (if n < t then n + 1000000000 else n)] ∧ w' = w4) ?_ ?_
      · simp only [wsv, wsg, wsh, wsl, cond_true, cond_false, exists_eq_left', Option.some.injEq, Option.isSome_some, List.getElem?_toArray, List.getElem?_cons_zero, List.getElem?_cons_succ, List.length_cons, List.length_nil, List.set_cons_zero, List.set_cons_succ, List.getD_cons_zero, List.getD_cons_succ, Nat.zero_add, Nat.add_zero, Nat.reduceAdd, Nat.reduceLT, Nat.lt_add_one, Nat.zero_lt_succ, decide_true, decide_false, ne_eq, reduceCtorEq, condW_dec]
        refine ⟨fun h1 => ?_, fun h1 => ?_⟩
        · rw [if_pos (by omega), if_pos (by omega), u64_wrap (by omega) (by omega)]
          simp only [u64, Int.natCast_add]; rfl
        · rw [if_neg (by omega), if_neg (by omega)]; rfl
      · rintro s gg w5 ⟨rfl, rfl⟩
        have e1 : IntKind.u64.wrap (((if n < t then n + 1000000000 else n : Nat) : Int) - (t : Int)) = (((if n < t then n + 1000000000 - t else n - t : Nat)) : Int) := by
          split
          · rw [u64_wrap (by omega) (by omega)]; omega
          · rw [u64_wrap (by omega) (by omega)]; omega
        simp only [wsv, wsg, wsh, wsl, cond_true, cond_false, exists_eq_left', Option.some.injEq, Option.isSome_some, List.getElem?_toArray, List.getElem?_cons_zero, List.getElem?_cons_succ, List.length_cons, List.length_nil, List.set_cons_zero, List.set_cons_succ, List.getD_cons_zero, List.getD_cons_succ, Nat.zero_add, Nat.add_zero, Nat.reduceAdd, Nat.reduceLT, Nat.lt_add_one, Nat.zero_lt_succ, decide_true, decide_false, ne_eq, reduceCtorEq, e1]
        refine app_u hO hx3.size (by omega) fun v' w' h' hc' => ?_
        rw [up1 (by omega)]
        refine ⟨⟨i + 1, if n < t then 1 else 0, v', l ++ [if n < t then n + 1000000000 - t else n - t], hlt, by split <;> omega, rfl, hx3.then hc' fun k hk e => by omega, h', by simp [hl], ?_⟩, by simp only [Int.toNat_natCast]; omega⟩
        rw [← he]; simp
  · obtain rfl : i = x.l.length := by omega
    simp only [wsv, wsg, wsh, wsl, cond_true, cond_false, exists_eq_left', Option.some.injEq, Option.isSome_some, List.getElem?_toArray, List.getElem?_cons_zero, List.getElem?_cons_succ, List.length_cons, List.length_nil, List.set_cons_zero, List.set_cons_succ, List.getD_cons_zero, List.getD_cons_succ, Nat.zero_add, Nat.add_zero, Nat.reduceAdd, Nat.reduceLT, Nat.lt_add_one, Nat.zero_lt_succ, decide_true, decide_false, ne_eq, reduceCtorEq, Int.lt_irrefl]
    rw [List.drop_length] at he
    simp only [minusL, List.append_nil] at he
    have := hK v w3 (hx.trans hx3)
    rw [← he] at this
    exact this hO.sl
theorem cmpN_I (a b : Nat) : cmpI (a : Int) (b : Int) = cmpN a b := by unfold cmpN cmpI; simp only [Int.ofNat_lt]
theorem size_num {x y : Big} {cs ds : List Value} {w : World} {K : Value → World → Prop} (h : BRep w x cs) (h' : BRep w y ds) (hK : ∀ w', Ext w w' → K (i64 (sizeL x.l y.l)) w') : callF Tryz.prog 166 [.agg cs.toArray, .agg ds.toArray] w K := by
  refine W166_ok ?_
  unfold W166
  refine box_big h fun a w1 sv hB hx ha hz1 => ?_
  refine box_big (h'.ext hx) fun b w2 sv' hC hx2 hb hz2 => ?_
  have hB := hB.ext hx2
  have hx := hx.trans hx2
  clear hx2
  simp only [wsv, wsg, wsh, wsl, cond_true, cond_false, exists_eq_left', Option.some.injEq, Option.isSome_some, List.getElem?_toArray, List.getElem?_cons_zero, List.getElem?_cons_succ, List.length_cons, List.length_nil, List.set_cons_zero, List.set_cons_succ, List.getD_cons_zero, List.getD_cons_succ, Nat.zero_add, Nat.add_zero, Nat.reduceAdd, Nat.reduceLT, Nat.lt_add_one, Nat.zero_lt_succ, decide_true, decide_false, ne_eq, reduceCtorEq, wsh, hB.hb, hC.hb, hB.len, hC.len]
  refine cmp_i ?_
  rw [cmpN_I]
  unfold sizeL at hK
  simp only [wsv, wsg, wsh, wsl, cond_true, cond_false, exists_eq_left', Option.some.injEq, Option.isSome_some, List.getElem?_toArray, List.getElem?_cons_zero, List.getElem?_cons_succ, List.length_cons, List.length_nil, List.set_cons_zero, List.set_cons_succ, List.getD_cons_zero, List.getD_cons_succ, Nat.zero_add, Nat.add_zero, Nat.reduceAdd, Nat.reduceLT, Nat.lt_add_one, Nat.zero_lt_succ, decide_true, decide_false, ne_eq, reduceCtorEq, condW_dec]
  refine ⟨fun h0 => ?_, fun h0 => ?_⟩
  · have := hK w2 hx
    rw [if_pos h0] at this
    exact this
  · have h0 : cmpN x.l.length y.l.length = 0 := Decidable.not_not.1 h0
    rw [if_neg (by rw [h0]; simp)] at hK
    have hl : x.l.length = y.l.length := by
      rcases cmpN_cases x.l.length y.l.length with ⟨_, e⟩ | ⟨e, _⟩ | ⟨_, e⟩
      · rw [h0] at e; cases e
      · exact e
      · rw [h0] at e; cases e
    have hf := hB.few
    simp only [wsv, wsg, wsh, wsl, cond_true, cond_false, exists_eq_left', Option.some.injEq, Option.isSome_some, List.getElem?_toArray, List.getElem?_cons_zero, List.getElem?_cons_succ, List.length_cons, List.length_nil, List.set_cons_zero, List.set_cons_succ, List.getD_cons_zero, List.getD_cons_succ, Nat.zero_add, Nat.add_zero, Nat.reduceAdd, Nat.reduceLT, Nat.lt_add_one, Nat.zero_lt_succ, decide_true, decide_false, ne_eq, reduceCtorEq, wsh, hB.hb, hB.len]
    refine ⟨fun s w' => ∃ m : Nat, m ≤ x.l.length ∧ s = [i64 ((m : Int) - 1)] ∧ Ext w2 w' ∧ sizeR ((x.l.zip y.l).take m).reverse = sizeR (x.l.zip y.l).reverse,
      fun s _ => match s with | [.int _ i] => (i + 1).toNat | _ => 0, ⟨x.l.length, Nat.le_refl _, by rw [wrap_id (by omega) (by omega)], Chg.refl _ _, by rw [List.take_of_length_le (by rw [List.length_zip]; omega)]⟩, ?_⟩
    rintro s g w3 ⟨m, hm, rfl, hx3, he⟩
    have hxd := hx3.trans (Chg.drew (Chg.refl (fun _ => False) w3))
    have hB3 := hB.ext hx3
    have hC3 := hC.ext hx3
    have hBd := hB.ext hxd
    have hCd := hC.ext hxd
    rcases Nat.eq_zero_or_pos m with h1 | h1
    · subst h1
      have e0 : ¬ (0 : Int) ≤ ((0 : Nat) : Int) - 1 := by omega
      simp only [wsv, wsg, wsh, wsl, cond_true, cond_false, exists_eq_left', Option.some.injEq, Option.isSome_some, List.getElem?_toArray, List.getElem?_cons_zero, List.getElem?_cons_succ, List.length_cons, List.length_nil, List.set_cons_zero, List.set_cons_succ, List.getD_cons_zero, List.getD_cons_succ, Nat.zero_add, Nat.add_zero, Nat.reduceAdd, Nat.reduceLT, Nat.lt_add_one, Nat.zero_lt_succ, decide_true, decide_false, ne_eq, reduceCtorEq, e0]
      have := hK w3 (hx.trans hx3)
      rw [← he] at this
      exact this
    · obtain ⟨k, rfl⟩ : ∃ k, m = k + 1 := ⟨m - 1, by omega⟩
      obtain ⟨p, hp⟩ : ∃ p, x.l[k]? = some p := ⟨_, List.getElem?_eq_getElem (by omega)⟩
      obtain ⟨q, hq⟩ : ∃ q, y.l[k]? = some q := ⟨_, List.getElem?_eq_getElem (by omega)⟩
      have hk : ((k + 1 : Nat) : Int) - 1 = ((k : Nat) : Int) := by omega
      have e0 : (0 : Int) ≤ ((k : Nat) : Int) := by omega
      rw [hk]
      simp only [wsv, wsg, wsh, wsl, cond_true, cond_false, exists_eq_left', Option.some.injEq, Option.isSome_some, List.getElem?_toArray, List.getElem?_cons_zero, List.getElem?_cons_succ, List.length_cons, List.length_nil, List.set_cons_zero, List.set_cons_succ, List.getD_cons_zero, List.getD_cons_succ, Nat.zero_add, Nat.add_zero, Nat.reduceAdd, Nat.reduceLT, Nat.lt_add_one, Nat.zero_lt_succ, decide_true, decide_false, ne_eq, reduceCtorEq, e0, wsh, hB3.hb, hC3.hb]
      refine hBd.at hp ?_
      refine hCd.at hq ?_
      refine cmp_u ?_
      have hz : (x.l.zip y.l).take (k + 1) = (x.l.zip y.l).take k ++ [(p, q)] := by
        rw [List.take_add_one, (List.getElem?_zip_eq_some (z := (p, q))).2 ⟨hp, hq⟩]; rfl
      rw [hz, List.reverse_append] at he
      simp only [List.reverse_cons, List.reverse_nil, List.nil_append, List.singleton_append, sizeR] at he
      simp only [wsv, wsg, wsh, wsl, cond_true, cond_false, exists_eq_left', Option.some.injEq, Option.isSome_some, List.getElem?_toArray, List.getElem?_cons_zero, List.getElem?_cons_succ, List.length_cons, List.length_nil, List.set_cons_zero, List.set_cons_succ, List.getD_cons_zero, List.getD_cons_succ, Nat.zero_add, Nat.add_zero, Nat.reduceAdd, Nat.reduceLT, Nat.lt_add_one, Nat.zero_lt_succ, decide_true, decide_false, ne_eq, reduceCtorEq, condW_dec]
      refine ⟨fun h2 => ?_, fun h2 => ?_⟩
      · rw [if_pos h2] at he
        have := hK w3.drew (hx.trans hxd)
        rw [← he] at this
        exact this
      · rw [if_neg h2] at he
        rw [wrap_id (by omega) (by omega)]
        exact ⟨⟨k, by omega, rfl, hxd, he⟩, by omega⟩
theorem turned_ref {x : Big} {cs : List Value} {w : World} {K : Value → World → Prop} (h : BRep w x cs) (hK : ∀ cs' w', Ext w w' → BRep w' (turnB x) cs' → K (.agg cs'.toArray) w') : callF Tryz.prog 136 [.agg cs.toArray] w K := by
  refine W136_ok ?_
  unfold W136
  refine box_big h fun a w1 sv hB hx ha hz1 => ?_
  refine alloc_new fun b w2 hb hz2 hbb hx2 => ?_
  have hB := hB.ext hx2
  have hx := hx.trans hx2
  obtain ⟨T, hs⟩ := hB.l
  obtain ⟨p, cap, rfl, _⟩ := hs.shape
  simp only [wsv, wsg, wsh, wsl, cond_true, cond_false, exists_eq_left', Option.some.injEq, Option.isSome_some, List.getElem?_toArray, List.getElem?_cons_zero, List.getElem?_cons_succ, List.length_cons, List.length_nil, List.set_cons_zero, List.set_cons_succ, List.getD_cons_zero, List.getD_cons_succ, Nat.zero_add, Nat.add_zero, Nat.reduceAdd, Nat.reduceLT, Nat.lt_add_one, Nat.zero_lt_succ, decide_true, decide_false, ne_eq, reduceCtorEq, wsh, hB.hb]
  refine trim_ref (x := ⟨!x.below, x.l⟩) ⟨_, T, rfl, hs, hB.few, hB.lim⟩ fun cs' w3 hx3 hr => ?_
  have hbb := hx3.at hbb id
  refine ret_agg hbb hr.len rfl hr.one fun w4 hc4 => ?_
  exact hK _ w4 ((hx.trans hx3).new hc4 (by have := hx.size; have := hx2.size; omega)) (hr.keep hbb (by intro n e; cases e) hc4)
theorem sum_ref {x y : Big} {cs ds : List Value} {w : World} {K : Value → World → Prop} (h : BRep w x cs) (h' : BRep w y ds) (hfew : x.l.length + y.l.length < 900) (hK : ∀ cs' w', Ext w w' → BRep w' (sumB x y) cs' → K (.agg cs'.toArray) w') : callF Tryz.prog 134 [.agg cs.toArray, .agg ds.toArray] w K := by
  refine W134_ok ?_
  unfold W134
  refine box_big h fun a w1 sv hB hx ha hz1 => ?_
  refine box_big (h'.ext hx) fun b w2 sv' hC hx2 hb hz2 => ?_
  have hB := hB.ext hx2
  have hx := hx.trans hx2
  refine alloc_new fun g w3 hg hz3 hgg hx3 => ?_
  have hB := hB.ext hx3
  have hC := hC.ext hx3
  have hs2 := hx2.size
  have hs := hx.size
  have hx := hx.trans hx3
  have hfin : ∀ (z : Big) (w4 : World) (v : Value), Ext w3 w4 → SlAt w4 U64 v z.l.length (z.l.map u64) → z.l.length ≤ 1000 → Lim z.l → sumB x y = z.trim →
      callF Tryz.prog 165 [.agg [.bool z.below, v].toArray] w4 fun t w6 => stW 2 (ptr g) t w6 fun w7 => ldW true 2 (ptr g) w7 fun r => K r w7 := by
    intro z w4 v hx4 hv hf hl he
    refine trim_ref (x := z) ⟨v, U64, rfl, hv, hf, hl⟩ fun cs' w5 hx5 hr => ?_
    have hgg := hx5.at (hx4.at hgg id) id
    refine ret_agg hgg hr.len rfl hr.one fun w6 hc6 => ?_
    rw [he] at hK
    exact hK _ w6 ((hx.trans (hx4.trans hx5)).new hc6 (by omega)) (hr.keep hgg (by intro n e; cases e) hc6)
  have hxd : Ext w3 w3.drew := Chg.drew (Chg.refl (fun _ => False) w3)
  have hBd := hB.ext hxd
  have hCd := hC.ext hxd
  have hpl : ∀ (x y : List Nat) (c : Nat), (plusL x y c).length ≤ x.length + y.length + 1 := by
    intro x
    induction x with
    | nil => intro y; induction y with
      | nil => intro c; simp [plusL]
      | cons b y ih => intro c; simp only [plusL, List.length_cons]; have := ih ((c + b) / 1000000000); simp only [List.length_nil] at this ⊢; omega
    | cons a x ih =>
      intro y c
      cases y with
      | nil => simp only [plusL, List.length_cons, List.length_nil]; have := ih [] ((c + a) / 1000000000); simp only [List.length_nil] at this; omega
      | cons b y => simp only [plusL, List.length_cons]; have := ih y ((c + a + b) / 1000000000); omega
  have hml : ∀ (x y : List Nat) (c : Nat), (minusL x y c).length = x.length := by
    intro x
    induction x with
    | nil => intro y c; simp [minusL]
    | cons a x ih => intro y c; rw [minusL_step, List.length_cons, ih, List.length_cons]
  have hmlim : ∀ (x y : List Nat) (c : Nat), Lim x → Lim y → c ≤ 1 → Lim (minusL x y c) := by
    intro x
    induction x with
    | nil => intro y c _ _ _; simp [minusL, Lim]
    | cons a x ih =>
      intro y c h1 h2 h3
      rw [minusL_step]
      have ha := h1 a List.mem_cons_self
      have hy : y.headD 0 < 1000000000 := by
        cases y with
        | nil => simp
        | cons b y => exact h2 b List.mem_cons_self
      have := ih y.tail (if a < c + y.headD 0 then 1 else 0) (fun u hu => h1 u (List.mem_cons_of_mem _ hu)) (fun u hu => h2 u (List.mem_of_mem_tail hu)) (by split <;> omega)
      intro u hu
      rcases List.mem_cons.1 hu with rfl | hu
      · split <;> omega
      · exact this u hu
  simp only [wsv, wsg, wsh, wsl, cond_true, cond_false, exists_eq_left', Option.some.injEq, Option.isSome_some, List.getElem?_toArray, List.getElem?_cons_zero, List.getElem?_cons_succ, List.length_cons, List.length_nil, List.set_cons_zero, List.set_cons_succ, List.getD_cons_zero, List.getD_cons_succ, Nat.zero_add, Nat.add_zero, Nat.reduceAdd, Nat.reduceLT, Nat.lt_add_one, Nat.zero_lt_succ, decide_true, decide_false, ne_eq, reduceCtorEq, wsh, hB.hb, hC.hb, eq_bb]
  rw [condW_b]
  unfold sumB at hfin
  refine ⟨fun he => ?_, fun hne => ?_⟩
  · have he : x.below = y.below := by simpa using he
    refine hBd.ld fun cs1 h1 => ?_
    refine hCd.ld fun cs2 h2 => ?_
    refine plus_ref h1 h2 fun v w4 hx4 hv => ?_
    have hB4 := hBd.ext hx4
    obtain ⟨p, c, rfl, _⟩ := hv.shape
    simp only [wsv, wsg, wsh, wsl, cond_true, cond_false, exists_eq_left', Option.some.injEq, Option.isSome_some, List.getElem?_toArray, List.getElem?_cons_zero, List.getElem?_cons_succ, List.length_cons, List.length_nil, List.set_cons_zero, List.set_cons_succ, List.getD_cons_zero, List.getD_cons_succ, Nat.zero_add, Nat.add_zero, Nat.reduceAdd, Nat.reduceLT, Nat.lt_add_one, Nat.zero_lt_succ, decide_true, decide_false, ne_eq, reduceCtorEq, wsh, hB4.hb]
    rw [if_pos he] at hfin
    refine hfin ⟨x.below, plusL x.l y.l 0⟩ w4 _ (hxd.trans hx4) hv ?_ (plusL_lim _ _ _ hB.lim hC.lim (by omega)) rfl
    have := hpl x.l y.l 0
    show (plusL x.l y.l 0).length ≤ 1000
    omega
  · have hne : x.below ≠ y.below := by simpa using hne
    rw [if_neg hne] at hfin
    refine hB.ld fun cs1 h1 => ?_
    refine hC.ld fun cs2 h2 => ?_
    refine size_num h1 h2 fun w4 hx4 => ?_
    have hB4 := hB.ext hx4
    have hC4 := hC.ext hx4
    have hxd4 : Ext w4 w4.drew := Chg.drew (Chg.refl (fun _ => False) w4)
    have hBd := hB4.ext hxd4
    have hCd := hC4.ext hxd4
    simp only [wsv, wsg, wsh, wsl, cond_true, cond_false, exists_eq_left', Option.some.injEq, Option.isSome_some, List.getElem?_toArray, List.getElem?_cons_zero, List.getElem?_cons_succ, List.length_cons, List.length_nil, List.set_cons_zero, List.set_cons_succ, List.getD_cons_zero, List.getD_cons_succ, Nat.zero_add, Nat.add_zero, Nat.reduceAdd, Nat.reduceLT, Nat.lt_add_one, Nat.zero_lt_succ, decide_true, decide_false, ne_eq, reduceCtorEq, condW_dec]
    refine ⟨fun hs => ?_, fun hs => ?_⟩
    · rw [if_pos hs] at hfin
      (try simp only [wsv, wsg, wsh, wsl, cond_true, cond_false, exists_eq_left', Option.some.injEq, Option.isSome_some, List.getElem?_toArray, List.getElem?_cons_zero, List.getElem?_cons_succ, List.length_cons, List.length_nil, List.set_cons_zero, List.set_cons_succ, List.getD_cons_zero, List.getD_cons_succ, Nat.zero_add, Nat.add_zero, Nat.reduceAdd, Nat.reduceLT, Nat.lt_add_one, Nat.zero_lt_succ, decide_true, decide_false, ne_eq, reduceCtorEq, wsh, hB4.hb])
      refine hBd.ld fun cs3 h3 => ?_
      refine hCd.ld fun cs4 h4 => ?_
      refine minus_ref h3 h4 fun v w5 hx5 hv => ?_
      have hB5 := hBd.ext hx5
      obtain ⟨p, c, rfl, _⟩ := hv.shape
      simp only [wsv, wsg, wsh, wsl, cond_true, cond_false, exists_eq_left', Option.some.injEq, Option.isSome_some, List.getElem?_toArray, List.getElem?_cons_zero, List.getElem?_cons_succ, List.length_cons, List.length_nil, List.set_cons_zero, List.set_cons_succ, List.getD_cons_zero, List.getD_cons_succ, Nat.zero_add, Nat.add_zero, Nat.reduceAdd, Nat.reduceLT, Nat.lt_add_one, Nat.zero_lt_succ, decide_true, decide_false, ne_eq, reduceCtorEq, wsh, hB5.hb]
      refine hfin ⟨x.below, minusL x.l y.l 0⟩ w5 _ (hx4.trans (hxd4.trans hx5)) hv ?_ (hmlim _ _ _ hB.lim hC.lim (by omega)) rfl
      show (minusL x.l y.l 0).length ≤ 1000
      rw [hml]; omega
    · rw [if_neg hs] at hfin
      (try simp only [wsv, wsg, wsh, wsl, cond_true, cond_false, exists_eq_left', Option.some.injEq, Option.isSome_some, List.getElem?_toArray, List.getElem?_cons_zero, List.getElem?_cons_succ, List.length_cons, List.length_nil, List.set_cons_zero, List.set_cons_succ, List.getD_cons_zero, List.getD_cons_succ, Nat.zero_add, Nat.add_zero, Nat.reduceAdd, Nat.reduceLT, Nat.lt_add_one, Nat.zero_lt_succ, decide_true, decide_false, ne_eq, reduceCtorEq, wsh, hC4.hb])
      refine hCd.ld fun cs3 h3 => ?_
      refine hBd.ld fun cs4 h4 => ?_
      refine minus_ref h3 h4 fun v w5 hx5 hv => ?_
      have hC5 := hCd.ext hx5
      obtain ⟨p, c, rfl, _⟩ := hv.shape
      simp only [wsv, wsg, wsh, wsl, cond_true, cond_false, exists_eq_left', Option.some.injEq, Option.isSome_some, List.getElem?_toArray, List.getElem?_cons_zero, List.getElem?_cons_succ, List.length_cons, List.length_nil, List.set_cons_zero, List.set_cons_succ, List.getD_cons_zero, List.getD_cons_succ, Nat.zero_add, Nat.add_zero, Nat.reduceAdd, Nat.reduceLT, Nat.lt_add_one, Nat.zero_lt_succ, decide_true, decide_false, ne_eq, reduceCtorEq, wsh, hC5.hb]
      refine hfin ⟨y.below, minusL y.l x.l 0⟩ w5 _ (hx4.trans (hxd4.trans hx5)) hv ?_ (hmlim _ _ _ hC.lim hB.lim (by omega)) rfl
      show (minusL y.l x.l 0).length ≤ 1000
      rw [hml]; omega
end
end Go.Proofs.YtdkikjcpgihjlaaGreatDoor
namespace Go.Proofs.YtdkikjcpgihjlaaGreatDoor
open Go Go.Eng Go.Num
set_option maxRecDepth 100000
theorem parse_dec : ∀ (l : Str) (acc : Nat), l.all Num.isDig = true → acc * 10 ^ l.length + dec l < 1000000000000000000 → Lib.parseUintM (2 ^ 64 - 1) acc l = .ok (acc * 10 ^ l.length + dec l)
  | [], acc, _, _ => by simp [Lib.parseUintM, dec]
  | c :: r, acc, h, hb => by
    simp only [List.all_cons, Bool.and_eq_true] at h
    have hc := h.1
    simp only [Num.isDig, Bool.and_eq_true, decide_eq_true_eq] at hc
    have e : acc * 10 ^ (c :: r).length + dec (c :: r) = (acc * 10 + (c.toNat - 48)) * 10 ^ r.length + dec r := by
      rw [dec_cons, List.length_cons, Nat.pow_succ, Nat.add_mul, ← Nat.add_assoc]
      congr 2
      rw [Nat.mul_comm (10 ^ r.length) 10, Nat.mul_assoc]
    rw [e] at hb ⊢
    have hp : 1 ≤ 10 ^ r.length := Nat.pow_pos (by omega)
    have h1 : acc * 10 + (c.toNat - 48) ≤ (acc * 10 + (c.toNat - 48)) * 10 ^ r.length := Nat.le_mul_of_pos_right _ hp
    simp only [Lib.parseUintM]
    rw [if_pos hc, if_neg (by omega), if_neg (by omega)]
    exact parse_dec r _ h.2 hb
section
variable [HX]
theorem puint_ref {l : Str} {w : World} {K : Value → World → Prop} (h0 : l ≠ []) (hl : l.length ≤ 9) (hd : l.all Num.isDig = true) (hK : ∀ w', Ext w w' → K (.tuple #[u64 (dec l), .nilIface]) w') : callF Tryz.prog 169 [str l, i64 10, i64 64] w K := by
  have hlt := dec9 hd hl
  have hp : Lib.parseUintB 64 l = .ok (dec l) := by
    unfold Lib.parseUintB
    rw [if_neg h0]
    have := parse_dec l 0 hd (by rw [Nat.zero_mul, Nat.zero_add]; omega)
    rw [Nat.zero_mul, Nat.zero_add] at this
    exact this
  refine of_calls (args := #[str l, i64 10, i64 64]) Tryz.call169 ((Tryz.strconv_ParseUint_10_at64_ok (ofL l) (by rw [ofL_size]; omega) (dec l) (by rw [ofL_data]; exact hp) w).mono ?_)
  rintro e w' ⟨rfl, rfl | rfl⟩
  · exact ⟨_, rfl, hK _ (Chg.refl _ _)⟩
  · exact ⟨_, rfl, hK _ (bytes_ext _ _ _)⟩
theorem limbs_len : ∀ (n : Nat) (d : Str), d.length ≤ n → (limbs d).length ≤ d.length
  | n, [], _ => by rw [limbs_nil]; simp
  | 0, _ :: _, h => by simp at h
  | n + 1, c :: d, hn => by
    rw [limbs_ne (by simp)]
    generalize hD : c :: d = D at *
    have hpos : 0 < D.length := by rw [← hD]; simp
    have := limbs_len n (D.take (D.length - 9)) (by rw [List.length_take]; omega)
    rw [List.length_take] at this
    simp only [List.length_cons]; omega
theorem read_ref {a : Str} {w : World} {K : Value → World → Prop} (hg : goodN a = true) (ha : a.length ≤ 9223372036854775807) (hK : ∀ cs' w', Ext w w' → BRep w' (readB a) cs' → K (.agg cs'.toArray) w') : callF Tryz.prog 135 [str a] w K := by
  refine W135_ok ?_
  unfold W135
  obtain ⟨g1, g2, _, g4⟩ := goodN_out hg
  refine alloc_new fun b w1 hb hz1 hbb hx1 => ?_
  refine cutpre_ref ha ?_
  simp only [wsv, wsg, wsh, wsl, cond_true, cond_false, exists_eq_left', Option.some.injEq, Option.isSome_some, List.getElem?_toArray, List.getElem?_cons_zero, List.getElem?_cons_succ, List.length_cons, List.length_nil, List.set_cons_zero, List.set_cons_succ, List.getD_cons_zero, List.getD_cons_succ, Nat.zero_add, Nat.add_zero, Nat.reduceAdd, Nat.reduceLT, Nat.lt_add_one, Nat.zero_lt_succ, decide_true, decide_false, ne_eq, reduceCtorEq]
  generalize hd : dig a = d at *
  refine alloc_new fun g w2 hgz hz2 hgg hx2 => ?_
  refine st_agg_at (l := [.bool (neg a), .slice none 0 0]) hgg rfl rfl rfl fun w3 hz3 hg3 hc3 => ?_
  have hx3 : Ext w w3 := (hx1.trans hx2).new hc3 (by omega)
  have hbb := hc3.at (hx2.at hbb id) (by omega)
  refine ⟨fun s w' => ∃ (z : Int) (v : Value) (l : List Nat), s = [i64 z] ∧ z ≤ d.length ∧ -9 ≤ z ∧ l ++ limbs (d.take z.toNat) = limbs d ∧ Own w' (g + 1) U64 1 v l.length (l.map u64) ∧ w'.heap[g]? = some (.cells [.bool (neg a), v].toArray BT (0, 0)) ∧ w'.heap[b]? = some (.cells [.bool false, .slice none 0 0].toArray BT (0, 0)) ∧ Chg (fun k => k = g ∨ g + 1 ≤ k) w3 w' ∧ l.length + z.toNat ≤ 100,
    fun s _ => match s with | [.int _ z] => z.toNat | _ => 0, ⟨d.length, _, [], rfl, by omega, by omega, by rw [Int.toNat_natCast, List.take_length]; rfl, ⟨rfl, .inl ⟨rfl, rfl⟩⟩, hg3, hbb, Chg.refl _ _, by simp; omega⟩, ?_⟩
  rintro s gg w4 ⟨z, v, l, rfl, hzl, hz9, hll, hO, hg4, hb4, hc4, hcnt⟩
  have hsz := hc4.size
  rcases Int.lt_or_le 0 z with hpos | hneg
  · obtain ⟨e, rfl⟩ : ∃ e : Nat, z = (e : Int) := ⟨z.toNat, by omega⟩
    rw [Int.toNat_natCast] at hll hcnt
    have hlo : (if (0 : Int) < IntKind.i64.wrap ((e : Int) - 9) then IntKind.i64.wrap ((e : Int) - 9) else 0) = ((e - 9 : Nat) : Int) := by
      rw [wrap_id (by omega) (by omega)]; split <;> omega
    have hlen : (d.take e).length = e := by rw [List.length_take]; omega
    simp only [wsv, wsg, wsh, wsl, cond_true, cond_false, exists_eq_left', Option.some.injEq, Option.isSome_some, List.getElem?_toArray, List.getElem?_cons_zero, List.getElem?_cons_succ, List.length_cons, List.length_nil, List.set_cons_zero, List.set_cons_succ, List.getD_cons_zero, List.getD_cons_succ, Nat.zero_add, Nat.add_zero, Nat.reduceAdd, Nat.reduceLT, Nat.lt_add_one, Nat.zero_lt_succ, decide_true, decide_false, ne_eq, reduceCtorEq, hpos, hlo, Int.toNat_natCast]
    refine ⟨by omega, by omega, by omega, by omega, ?_⟩
    have hne : d.take e ≠ [] := fun h => by rw [h] at hlen; simp at hlen; omega
    have hchunk := limbs_ne hne
    rw [hlen, List.take_take, Nat.min_eq_left (by omega)] at hchunk
    have hcl : ((d.take e).drop (e - 9)).length ≤ 9 := by rw [List.length_drop, hlen]; omega
    have hcn : (d.take e).drop (e - 9) ≠ [] := fun h => by have := List.drop_eq_nil_iff.1 h; omega
    refine puint_ref hcn hcl (all_drop _ (all_take _ g4)) fun w5 hx5 => ?_
    have hg5 := hx5.at hg4 id
    have hs5 := hx5.size
    simp only [wsv, wsg, wsh, wsl, cond_true, cond_false, exists_eq_left', Option.some.injEq, Option.isSome_some, List.getElem?_toArray, List.getElem?_cons_zero, List.getElem?_cons_succ, List.length_cons, List.length_nil, List.set_cons_zero, List.set_cons_succ, List.getD_cons_zero, List.getD_cons_succ, Nat.zero_add, Nat.add_zero, Nat.reduceAdd, Nat.reduceLT, Nat.lt_add_one, Nat.zero_lt_succ, decide_true, decide_false, ne_eq, reduceCtorEq, wsh, hg5]
    refine app_u (hO.ext hx5) (by have := at_lt hg3; omega) (by omega) fun v' w6 h6 hc6 => ?_
    have hg6 := hc6.at hg5 (by omega)
    have h1v : one1 v' = true := by obtain ⟨p, c, rfl, _⟩ := h6.sl.shape; rfl
    refine st_at hg6 h1v (by simp) fun w7 hz7 hg7 hc7 => ?_
    rw [wrap_id (by omega) (by omega)]
    have hg7 : w7.heap[g]? = some (.cells [.bool (neg a), v'].toArray BT (0, 0)) := by rw [hg7]; simp
    have ht : ((e : Int) - 9).toNat = e - 9 := by omega
    refine ⟨⟨_, v', l ++ [dec ((d.take e).drop (e - 9))], rfl, by omega, by omega, ?_, h6.chg hc7 fun k hk e => by have := hk.1; omega, hg7, hc7.at (hc6.at (hx5.at hb4 id) (by omega)) (by omega), ?_, ?_⟩, ?_⟩
    · rw [ht, ← hll, hchunk, List.append_assoc]; rfl
    · exact ((hc4.trans (Chg.of_ext hx5)).trans (hc6.mono fun k _ e => .inr e)).trans (hc7.mono fun k _ e => .inl e)
    · rw [ht]; simp; omega
    · simp only [ht]; omega
  · have h0 : ¬ (0 : Int) < z := by omega
    have hz0 : z.toNat = 0 := by omega
    rw [hz0, List.take_zero, limbs_nil, List.append_nil] at hll
    subst hll
    simp only [wsv, wsg, wsh, wsl, cond_true, cond_false, exists_eq_left', Option.some.injEq, Option.isSome_some, List.getElem?_toArray, List.getElem?_cons_zero, List.getElem?_cons_succ, List.length_cons, List.length_nil, List.set_cons_zero, List.set_cons_succ, List.getD_cons_zero, List.getD_cons_succ, Nat.zero_add, Nat.add_zero, Nat.reduceAdd, Nat.reduceLT, Nat.lt_add_one, Nat.zero_lt_succ, decide_true, decide_false, ne_eq, reduceCtorEq, h0]
    refine ld_all hg4 rfl ?_
    have hlim := (limbs_val _ d (Nat.le_refl _) g4).2
    refine trim_ref (x := ⟨neg a, limbs d⟩) ⟨v, U64, rfl, hO.sl, by simp at hcnt ⊢; omega, hlim⟩ fun cs' w5 hx5 hr => ?_
    have hb5 := hx5.at hb4 id
    refine ret_agg hb5 hr.len rfl hr.one fun w6 hc6 => ?_
    have e : readB a = (⟨neg a, limbs d⟩ : Big).trim := by unfold readB; rw [hd]
    rw [e] at hK
    have hx4 : Ext w w4 := hx3.then hc4 fun k hk h => by have := hx1.size; omega
    exact hK _ w6 ((hx4.trans hx5).new hc6 (by omega)) (hr.keep hb5 (by intro n e; cases e) hc6)
theorem numcmp_ref {a b : Str} {w : World} {K : Value → World → Prop} (ha : a.length ≤ 9223372036854775807) (hb : b.length ≤ 9223372036854775807) (hK : ∀ w', Ext w w' → K (i64 (cmpS a b)) w') : callF Tryz.prog 98 [str a, str b] w K := by
  refine W98_ok ?_
  unfold W98
  unfold cmpS at hK
  refine numgood_ref ha fun w1 hx1 => ?_
  simp only [wsv, wsg, wsh, wsl, cond_true, cond_false, exists_eq_left', Option.some.injEq, Option.isSome_some, List.getElem?_toArray, List.getElem?_cons_zero, List.getElem?_cons_succ, List.length_cons, List.length_nil, List.set_cons_zero, List.set_cons_succ, List.getD_cons_zero, List.getD_cons_succ, Nat.zero_add, Nat.add_zero, Nat.reduceAdd, Nat.reduceLT, Nat.lt_add_one, Nat.zero_lt_succ, decide_true, decide_false, ne_eq, reduceCtorEq]
  refine GdW.act (!goodN b) (fun w' => Ext w1 w') (fun _ => Chg.refl _ _) ?_ ?_
  · intro hc J hJ
    refine numgood_ref hb fun w2 hx2 => ?_
    simp only [wsv, wsg, wsh, wsl, cond_true, cond_false, exists_eq_left', Option.some.injEq, Option.isSome_some, List.getElem?_toArray, List.getElem?_cons_zero, List.getElem?_cons_succ, List.length_cons, List.length_nil, List.set_cons_zero, List.set_cons_succ, List.getD_cons_zero, List.getD_cons_succ, Nat.zero_add, Nat.add_zero, Nat.reduceAdd, Nat.reduceLT, Nat.lt_add_one, Nat.zero_lt_succ, decide_true, decide_false, ne_eq, reduceCtorEq]
    exact hJ w2 hx2
  intro g w2 hx2
  have hx := hx1.trans hx2
  simp only [wsv, wsg, wsh, wsl, cond_true, cond_false, exists_eq_left', Option.some.injEq, Option.isSome_some, List.getElem?_toArray, List.getElem?_cons_zero, List.getElem?_cons_succ, List.length_cons, List.length_nil, List.set_cons_zero, List.set_cons_succ, List.getD_cons_zero, List.getD_cons_succ, Nat.zero_add, Nat.add_zero, Nat.reduceAdd, Nat.reduceLT, Nat.lt_add_one, Nat.zero_lt_succ, decide_true, decide_false, ne_eq, reduceCtorEq]
  rw [condW_b]
  refine ⟨fun hn => ?_, fun hy => ?_⟩
  · have := hK w2 hx
    have e : (goodN a && goodN b) = false := by revert hn; cases goodN a <;> cases goodN b <;> simp
    rw [e] at this
    exact this
  · have hga : goodN a = true := by revert hy; cases goodN a <;> simp
    have hgb : goodN b = true := by revert hy; cases goodN b <;> simp
    rw [hga, hgb] at hK
    simp only [Bool.and_self, if_true] at hK
    have lenR : ∀ {a : Str}, goodN a = true → (readB a).l.length ≤ 100 := by
      intro a h
      obtain ⟨_, h2, _, _⟩ := goodN_out h
      have h3 := limbs_len _ (dig a) (Nat.le_refl _)
      show (trimL (limbs (dig a))).length ≤ 100
      have : ∀ l : List Nat, (trimL l).length ≤ l.length := fun l => by
        induction l using snoc_ind with
        | h0 => rw [trimL_nil]; simp
        | h1 l x ih =>
          by_cases h : x = 0
          · subst h; rw [trimL_zero]; simp; omega
          · rw [trimL_ne h]; simp
      have := this (limbs (dig a))
      omega
    refine read_ref hga ha fun cs1 w3 hx3 h1 => ?_
    refine read_ref hgb hb fun cs2 w4 hx4 h2 => ?_
    refine turned_ref h2 fun cs3 w5 hx5 h3 => ?_
    have hl3 : (turnB (readB b)).l.length ≤ 100 := by
      have := lenR hgb
      have : ∀ l : List Nat, (trimL l).length ≤ l.length := fun l => by
        induction l using snoc_ind with
        | h0 => rw [trimL_nil]; simp
        | h1 l x ih =>
          by_cases h : x = 0
          · subst h; rw [trimL_zero]; simp; omega
          · rw [trimL_ne h]; simp
      have := this (readB b).l
      show (trimL (readB b).l).length ≤ 100
      omega
    refine sum_ref (h1.ext (hx4.trans hx5)) h3 (by have := lenR hga; omega) fun cs4 w6 hx6 h4 => ?_
    generalize sumB (readB a) (turnB (readB b)) = D at *
    obtain ⟨sv, T, rfl, hs, hf, hlim⟩ := h4
    refine alloc_new fun c w7 hc hz7 hcc hx7 => ?_
    obtain ⟨p, cap, rfl, _⟩ := hs.shape
    refine st_agg_at (l := [.bool D.below, .slice p D.l.length cap]) hcc rfl rfl rfl fun w8 hz8 hb8 hc8 => ?_
    have hx8 : Ext w w8 := (hx.trans (hx3.trans (hx4.trans (hx5.trans (hx6.trans hx7))))).new hc8 (by
      have := (hx.trans (hx3.trans (hx4.trans (hx5.trans hx6)))).size; omega)
    have := hK w8 hx8
    simp only [wsv, wsg, wsh, wsl, cond_true, cond_false, exists_eq_left', Option.some.injEq, Option.isSome_some, List.getElem?_toArray, List.getElem?_cons_zero, List.getElem?_cons_succ, List.length_cons, List.length_nil, List.set_cons_zero, List.set_cons_succ, List.getD_cons_zero, List.getD_cons_succ, Nat.zero_add, Nat.add_zero, Nat.reduceAdd, Nat.reduceLT, Nat.lt_add_one, Nat.zero_lt_succ, decide_true, decide_false, ne_eq, reduceCtorEq, wsh, hb8]
    simp only [condW_dec]
    refine ⟨fun h0 => ?_, fun h0 => ?_⟩
    · have hl : D.l = [] := List.eq_nil_of_length_eq_zero (by omega)
      rw [if_pos hl] at this
      exact this
    · have hl : D.l ≠ [] := fun e => by rw [e] at h0; simp at h0
      rw [if_neg hl] at this
      rw [condW_b]
      refine ⟨fun hb => ?_, fun hb => ?_⟩
      · rw [if_pos hb] at this; exact this
      · rw [if_neg (by rw [hb]; simp)] at this; exact this
end
end Go.Proofs.YtdkikjcpgihjlaaGreatDoor
namespace Go.Proofs.YtdkikjcpgihjlaaGreatDoor
open Go Go.Eng Go.Num
set_option maxRecDepth 100000
section
variable [HX]
theorem callV_fn {P : Program} {g : FuncId} {args : List Value} {w : World} {K : Value → World → Prop} (h : callF P g args w K) : callV P (.func (.func g) #[] #[]) args w K := by
  unfold callV semN
  unfold callF at h
  have : (do let d ← (Deferred.ofValue (.func (.func g) #[] #[]) args.toArray); invoke d.target d.args : Sem Next) = callFunc g args.toArray := by
    show callFunc g (#[] ++ args.toArray ++ #[]) = _
    simp
  rw [this]
  exact h
structure ItemsAt (w : World) (sv : Value) (xs : List JV) : Prop where
  it : ∃ T L, SlAt w T sv xs.length L ∧ VReps w xs L
  few : xs.length ≤ 9223372036854775807
theorem ItemsAt.ext {w w' : World} {sv : Value} {xs : List JV} (h : ItemsAt w sv xs) (hx : Ext w w') : ItemsAt w' sv xs := ⟨let ⟨T, L, h1, h2⟩ := h.it; ⟨T, L, h1.ext hx, h2.ext hx⟩, h.few⟩
theorem ValB.itemsAt {w : World} {a : Nat} {v : JV} {sv kv : Value} (h : ValB w a v sv kv) : ItemsAt w sv v.xs := ⟨h.items, h.fits.1⟩
theorem ItemsAt.len {w : World} {sv : Value} {xs : List JV} (h : ItemsAt w sv xs) (K : Value → Prop) : lenlW sv K ↔ K (i64 xs.length) := by obtain ⟨T, L, h1, _⟩ := h.it; exact lenl_at h1 K
theorem ItemsAt.at {w : World} {sv : Value} {xs : List JV} {k : IntKind} {i : Nat} {x : JV} {K : Value → Prop} (h : ItemsAt w sv xs) (hi : xs[i]? = some x) (hK : ∀ cs, VRep w x cs → K (.agg cs.toArray)) : ixaW none 5 sv (.int k i) fun p => ldW true 5 p w K := by
  obtain ⟨T, L, h1, h2⟩ := h.it; exact item_ld h1 h2 hi hK
def findI {α : Type} (p : α → Bool) (xs : List α) : Int := match xs.findIdx? p with | some i => i | none => -1
theorem findI_ge {α : Type} (p : α → Bool) (xs : List α) : decide ((0 : Int) ≤ findI p xs) = xs.any p := by
  unfold findI
  cases h : xs.findIdx? p with
  | none =>
    have := List.findIdx?_eq_none_iff.1 h
    have : xs.any p = false := List.any_eq_false.2 fun x hx => by simp [this x hx]
    rw [this]; decide
  | some i =>
    obtain ⟨hi, hp, _⟩ := List.findIdx?_eq_some_iff_getElem.1 h
    rw [List.any_eq_true.2 ⟨_, List.getElem_mem hi, hp⟩]
    exact decide_eq_true (by simp)
theorem findIdx_hit {α : Type} {p : α → Bool} {xs : List α} {i : Nat} {x : α} (h : (xs.take i).any p = false) (hi : xs[i]? = some x) (hx : p x = true) : xs.findIdx? p = some i := by
  obtain ⟨hl, e⟩ := List.getElem?_eq_some_iff.1 hi
  rw [List.findIdx?_eq_some_iff_getElem]
  refine ⟨hl, by rw [e]; exact hx, fun j hj => ?_⟩
  have := List.any_eq_false.1 h xs[j] (List.mem_of_getElem? (i := j) (by rw [List.getElem?_take, if_pos hj]; exact List.getElem?_eq_getElem _))
  simpa using this
theorem index_v {sv f : Value} {xs : List JV} {p : JV → Bool} {w : World} {K : Value → World → Prop} (h : ItemsAt w sv xs)
    (hf : ∀ x ∈ xs, ∀ {cs : List Value} {w : World} {K : Value → World → Prop}, VRep w x cs → (∀ w', Ext w w' → K (.bool (p x)) w') → callV Tryz.prog f [.agg cs.toArray] w K)
    (hK : ∀ w', Ext w w' → K (i64 (findI p xs)) w') : callF Tryz.prog 44 [sv, f] w K := by
  refine W44_ok ?_
  unfold W44
  rw [h.len]
  refine loop_up xs.length (fun i w' => Ext w w' ∧ (xs.take i).any p = false) ⟨Chg.refl _ _, by simp⟩ ?_ ?_
  · rintro i w2 g L hi ⟨hx2, hno⟩ hL
    obtain ⟨x, hxi⟩ : ∃ x, xs[i]? = some x := ⟨_, List.getElem?_eq_getElem hi⟩
    have hlt : ((i : Int) < (xs.length : Int)) := by omega
    simp only [wsv, wsg, wsh, wsl, cond_true, cond_false, exists_eq_left', Option.some.injEq, Option.isSome_some, List.getElem?_toArray, List.getElem?_cons_zero, List.getElem?_cons_succ, List.length_cons, List.length_nil, List.set_cons_zero, List.set_cons_succ, List.getD_cons_zero, List.getD_cons_succ, Nat.zero_add, Nat.add_zero, Nat.reduceAdd, Nat.reduceLT, Nat.lt_add_one, Nat.zero_lt_succ, decide_true, decide_false, ne_eq, reduceCtorEq, hlt]
    refine (h.ext hx2).at hxi fun cs hcs => ?_
    refine hf x (List.mem_of_getElem? hxi) hcs fun w3 hx3 => ?_
    rw [condW_b]
    refine ⟨fun ht => ?_, fun hn => ?_⟩
    · have := hK w3 (hx2.trans hx3)
      unfold findI at this
      rw [findIdx_hit hno hxi ht] at this
      exact this
    · have := h.few
      rw [up1 (by omega)]
      exact hL w3 ⟨hx2.trans hx3, by rw [any_take hxi, hno, hn]; rfl⟩
  · rintro w2 g L ⟨hx2, hno⟩
    simp only [wsv, wsg, wsh, wsl, cond_true, cond_false, exists_eq_left', Option.some.injEq, Option.isSome_some, List.getElem?_toArray, List.getElem?_cons_zero, List.getElem?_cons_succ, List.length_cons, List.length_nil, List.set_cons_zero, List.set_cons_succ, List.getD_cons_zero, List.getD_cons_succ, Nat.zero_add, Nat.add_zero, Nat.reduceAdd, Nat.reduceLT, Nat.lt_add_one, Nat.zero_lt_succ, decide_true, decide_false, ne_eq, reduceCtorEq, Int.lt_irrefl]
    rw [List.take_length] at hno
    have := hK w2 hx2
    unfold findI at this
    rw [List.findIdx?_eq_none_iff.2 fun x hx => by simpa using List.any_eq_false.1 hno x hx] at this
    exact this
theorem contains_v {sv f : Value} {xs : List JV} {p : JV → Bool} {w : World} {K : Value → World → Prop} (h : ItemsAt w sv xs)
    (hf : ∀ x ∈ xs, ∀ {cs : List Value} {w : World} {K : Value → World → Prop}, VRep w x cs → (∀ w', Ext w w' → K (.bool (p x)) w') → callV Tryz.prog f [.agg cs.toArray] w K)
    (hK : ∀ w', Ext w w' → K (.bool (xs.any p)) w') : callF Tryz.prog 28 [sv, f] w K := by
  refine W28_ok ?_
  unfold W28
  refine index_v h hf fun w1 hx1 => ?_
  simp only [wsv, wsg, wsh, wsl, cond_true, cond_false, exists_eq_left', Option.some.injEq, Option.isSome_some, List.getElem?_toArray, List.getElem?_cons_zero, List.getElem?_cons_succ, List.length_cons, List.length_nil, List.set_cons_zero, List.set_cons_succ, List.getD_cons_zero, List.getD_cons_succ, Nat.zero_add, Nat.add_zero, Nat.reduceAdd, Nat.reduceLT, Nat.lt_add_one, Nat.zero_lt_succ, decide_true, decide_false, ne_eq, reduceCtorEq, findI_ge]
  exact hK w1 hx1
theorem index_x {sv f : Value} {xs : List JV} {p : JV → Bool} {w : World} {K : Value → World → Prop} (h : ItemsAt w sv xs)
    (hf : ∀ x ∈ xs, ∀ {cs : List Value} {w1 : World} {K : Value → World → Prop}, Ext w w1 → VRep w1 x cs → (∀ w', Ext w1 w' → K (.bool (p x)) w') → callV Tryz.prog f [.agg cs.toArray] w1 K)
    (hK : ∀ w', Ext w w' → K (i64 (findI p xs)) w') : callF Tryz.prog 44 [sv, f] w K := by
  refine W44_ok ?_
  unfold W44
  rw [h.len]
  refine loop_up xs.length (fun i w' => Ext w w' ∧ (xs.take i).any p = false) ⟨Chg.refl _ _, by simp⟩ ?_ ?_
  · rintro i w2 g L hi ⟨hx2, hno⟩ hL
    obtain ⟨x, hxi⟩ : ∃ x, xs[i]? = some x := ⟨_, List.getElem?_eq_getElem hi⟩
    have hlt : ((i : Int) < (xs.length : Int)) := by omega
    simp only [wsv, wsg, wsh, wsl, cond_true, cond_false, exists_eq_left', Option.some.injEq, Option.isSome_some, List.getElem?_toArray, List.getElem?_cons_zero, List.getElem?_cons_succ, List.length_cons, List.length_nil, List.set_cons_zero, List.set_cons_succ, List.getD_cons_zero, List.getD_cons_succ, Nat.zero_add, Nat.add_zero, Nat.reduceAdd, Nat.reduceLT, Nat.lt_add_one, Nat.zero_lt_succ, decide_true, decide_false, ne_eq, reduceCtorEq, hlt]
    refine (h.ext hx2).at hxi fun cs hcs => ?_
    refine hf x (List.mem_of_getElem? hxi) hx2 hcs fun w3 hx3 => ?_
    rw [condW_b]
    refine ⟨fun ht => ?_, fun hn => ?_⟩
    · have := hK w3 (hx2.trans hx3)
      unfold findI at this
      rw [findIdx_hit hno hxi ht] at this
      exact this
    · have := h.few
      rw [up1 (by omega)]
      exact hL w3 ⟨hx2.trans hx3, by rw [any_take hxi, hno, hn]; rfl⟩
  · rintro w2 g L ⟨hx2, hno⟩
    simp only [wsv, wsg, wsh, wsl, cond_true, cond_false, exists_eq_left', Option.some.injEq, Option.isSome_some, List.getElem?_toArray, List.getElem?_cons_zero, List.getElem?_cons_succ, List.length_cons, List.length_nil, List.set_cons_zero, List.set_cons_succ, List.getD_cons_zero, List.getD_cons_succ, Nat.zero_add, Nat.add_zero, Nat.reduceAdd, Nat.reduceLT, Nat.lt_add_one, Nat.zero_lt_succ, decide_true, decide_false, ne_eq, reduceCtorEq, Int.lt_irrefl]
    rw [List.take_length] at hno
    have := hK w2 hx2
    unfold findI at this
    rw [List.findIdx?_eq_none_iff.2 fun x hx => by simpa using List.any_eq_false.1 hno x hx] at this
    exact this
theorem contains_x {sv f : Value} {xs : List JV} {p : JV → Bool} {w : World} {K : Value → World → Prop} (h : ItemsAt w sv xs)
    (hf : ∀ x ∈ xs, ∀ {cs : List Value} {w1 : World} {K : Value → World → Prop}, Ext w w1 → VRep w1 x cs → (∀ w', Ext w1 w' → K (.bool (p x)) w') → callV Tryz.prog f [.agg cs.toArray] w1 K)
    (hK : ∀ w', Ext w w' → K (.bool (xs.any p)) w') : callF Tryz.prog 28 [sv, f] w K := by
  refine W28_ok ?_
  unfold W28
  refine index_x h hf fun w1 hx1 => ?_
  simp only [wsv, wsg, wsh, wsl, cond_true, cond_false, exists_eq_left', Option.some.injEq, Option.isSome_some, List.getElem?_toArray, List.getElem?_cons_zero, List.getElem?_cons_succ, List.length_cons, List.length_nil, List.set_cons_zero, List.set_cons_succ, List.getD_cons_zero, List.getD_cons_succ, Nat.zero_add, Nat.add_zero, Nat.reduceAdd, Nat.reduceLT, Nat.lt_add_one, Nat.zero_lt_succ, decide_true, decide_false, ne_eq, reduceCtorEq, findI_ge]
  exact hK w1 hx1
theorem any_not_known (xs : List JV) : (!xs.any fun x => !knownM x) = knownL xs := by
  rw [knownL_all]
  induction xs with
  | nil => rfl
  | cons x xs ih => simp only [List.any_cons, List.all_cons, Bool.not_or, Bool.not_not, ih]
theorem known_p (v : JV) : ∀ {cs : List Value} {w : World} {K : Value → World → Prop}, VRep w v cs → (∀ w', Ext w w' → K (.bool (knownM v)) w') → callF Tryz.prog 33 [.agg cs.toArray] w K := by
  induction v using JV.ind' with
  | h v ih =>
    intro cs w K h hK
    refine W33_ok ?_
    unfold W33
    refine box_val h fun a w1 sv kv hB hx _ => ?_
    rw [knownM_eq] at hK
    simp only [wsv, wsg, wsh, wsl, cond_true, cond_false, exists_eq_left', Option.some.injEq, Option.isSome_some, List.getElem?_toArray, List.getElem?_cons_zero, List.getElem?_cons_succ, List.length_cons, List.length_nil, List.set_cons_zero, List.set_cons_succ, List.getD_cons_zero, List.getD_cons_succ, Nat.zero_add, Nat.add_zero, Nat.reduceAdd, Nat.reduceLT, Nat.lt_add_one, Nat.zero_lt_succ, decide_true, decide_false, ne_eq, reduceCtorEq, wsh, hB.hb]
    refine GdW.act (knownL v.xs) (fun w' => Ext w1 w') (fun _ => Chg.refl _ _) ?_ ?_
    · intro hc J hJ
      refine contains_v (p := fun x => !knownM x) hB.itemsAt ?_ fun w2 hx2 => ?_
      · intro x hx cs w K hr hK
        refine callV_fn ?_
        refine W71_ok ?_
        unfold W71
        refine box_val hr fun b w1 sv kv hB hx1 _ => ?_
        refine hB.ld fun cs2 h2 => ?_
        refine ih x hx h2 fun w2 hx2 => ?_
        simp only [wsv, wsg, wsh, wsl, cond_true, cond_false, exists_eq_left', Option.some.injEq, Option.isSome_some, List.getElem?_toArray, List.getElem?_cons_zero, List.getElem?_cons_succ, List.length_cons, List.length_nil, List.set_cons_zero, List.set_cons_succ, List.getD_cons_zero, List.getD_cons_succ, Nat.zero_add, Nat.add_zero, Nat.reduceAdd, Nat.reduceLT, Nat.lt_add_one, Nat.zero_lt_succ, decide_true, decide_false, ne_eq, reduceCtorEq]
        exact hK w2 (hx1.trans hx2)
      · simp only [wsv, wsg, wsh, wsl, cond_true, cond_false, exists_eq_left', Option.some.injEq, Option.isSome_some, List.getElem?_toArray, List.getElem?_cons_zero, List.getElem?_cons_succ, List.length_cons, List.length_nil, List.set_cons_zero, List.set_cons_succ, List.getD_cons_zero, List.getD_cons_succ, Nat.zero_add, Nat.add_zero, Nat.reduceAdd, Nat.reduceLT, Nat.lt_add_one, Nat.zero_lt_succ, decide_true, decide_false, ne_eq, reduceCtorEq, any_not_known]
        exact hJ w2 hx2
    · intro g w2 hx2
      have := hK w2 (hx.trans hx2)
      simp only [wsv, wsg, wsh, wsl, cond_true, cond_false, exists_eq_left', Option.some.injEq, Option.isSome_some, List.getElem?_toArray, List.getElem?_cons_zero, List.getElem?_cons_succ, List.length_cons, List.length_nil, List.set_cons_zero, List.set_cons_succ, List.getD_cons_zero, List.getD_cons_succ, Nat.zero_add, Nat.add_zero, Nat.reduceAdd, Nat.reduceLT, Nat.lt_add_one, Nat.zero_lt_succ, decide_true, decide_false, ne_eq, reduceCtorEq]
      simpa only [decide_not] using this
theorem truth_p {b : Bool} {w : World} {K : Value → World → Prop} (hK : K (i64 (truthI b)) w) : callF Tryz.prog 157 [.bool b] w K := by
  refine W157_ok ?_
  unfold W157
  rw [condW_b]
  unfold truthI at hK
  exact ⟨fun h => by rw [if_pos h] at hK; exact hK, fun h => by rw [if_neg (by rw [h]; simp)] at hK; exact hK⟩
theorem cmpks_p {a b : List Str} {x y : Value} {T1 T2 : TypeId} {w : World} {K : Value → World → Prop} (h1 : SlAt w T1 x a.length (a.map str)) (h2 : SlAt w T2 y b.length (b.map str)) (ha : a.length ≤ 9223372036854775807)
    (hK : ∀ w', Ext w w' → K (i64 (cmpKs a b)) w') : callF Tryz.prog 160 [x, y] w K := by
  refine W160_ok ?_
  unfold W160
  rw [lenl_at h1]
  refine loop_up a.length (fun i w' => Ext w w' ∧ i ≤ b.length ∧ cmpKs (a.drop i) (b.drop i) = cmpKs a b) ⟨Chg.refl _ _, by omega, rfl⟩ ?_ ?_
  · rintro i w2 g L hi ⟨hx2, hib, he⟩ hL
    obtain ⟨u, hu⟩ : ∃ u, a[i]? = some u := ⟨_, List.getElem?_eq_getElem hi⟩
    have hlt : ((i : Int) < (a.length : Int)) := by omega
    have hda : a.drop i = u :: a.drop (i + 1) := by
      rw [List.drop_eq_getElem_cons hi]; congr 1
      exact Option.some.inj ((List.getElem?_eq_getElem hi).symm.trans hu)
    simp only [wsv, wsg, wsh, wsl, cond_true, cond_false, exists_eq_left', Option.some.injEq, Option.isSome_some, List.getElem?_toArray, List.getElem?_cons_zero, List.getElem?_cons_succ, List.length_cons, List.length_nil, List.set_cons_zero, List.set_cons_succ, List.getD_cons_zero, List.getD_cons_succ, Nat.zero_add, Nat.add_zero, Nat.reduceAdd, Nat.reduceLT, Nat.lt_add_one, Nat.zero_lt_succ, decide_true, decide_false, ne_eq, reduceCtorEq, hlt]
    refine text_ld (h1.ext hx2) hu ?_
    rw [lenl_at h2]
    simp only [wsv, wsg, wsh, wsl, cond_true, cond_false, exists_eq_left', Option.some.injEq, Option.isSome_some, List.getElem?_toArray, List.getElem?_cons_zero, List.getElem?_cons_succ, List.length_cons, List.length_nil, List.set_cons_zero, List.set_cons_succ, List.getD_cons_zero, List.getD_cons_succ, Nat.zero_add, Nat.add_zero, Nat.reduceAdd, Nat.reduceLT, Nat.lt_add_one, Nat.zero_lt_succ, decide_true, decide_false, ne_eq, reduceCtorEq, condW_dec]
    refine ⟨fun hge => ?_, fun hltb => ?_⟩
    · have hdb : b.drop i = [] := List.drop_eq_nil_iff.2 (by omega)
      rw [hda, hdb] at he
      have := hK w2 hx2
      rw [← he] at this
      exact this
    · have hib2 : i < b.length := by omega
      obtain ⟨v, hv⟩ : ∃ v, b[i]? = some v := ⟨_, List.getElem?_eq_getElem hib2⟩
      have hdb : b.drop i = v :: b.drop (i + 1) := by
        rw [List.drop_eq_getElem_cons hib2]; congr 1
        exact Option.some.inj ((List.getElem?_eq_getElem hib2).symm.trans hv)
      rw [hda, hdb] at he
      simp only [cmpKs, orI] at he
      refine text_ld (h2.ext hx2) hv ?_
      refine cmp_s ?_
      simp only [wsv, wsg, wsh, wsl, cond_true, cond_false, exists_eq_left', Option.some.injEq, Option.isSome_some, List.getElem?_toArray, List.getElem?_cons_zero, List.getElem?_cons_succ, List.length_cons, List.length_nil, List.set_cons_zero, List.set_cons_succ, List.getD_cons_zero, List.getD_cons_succ, Nat.zero_add, Nat.add_zero, Nat.reduceAdd, Nat.reduceLT, Nat.lt_add_one, Nat.zero_lt_succ, decide_true, decide_false, ne_eq, reduceCtorEq, condW_dec]
      refine ⟨fun hne => ?_, fun h0 => ?_⟩
      · rw [if_neg hne] at he
        have := hK w2 hx2
        rw [← he] at this
        exact this
      · rw [if_pos (Decidable.not_not.1 h0)] at he
        rw [up1 (by omega)]
        exact hL w2 ⟨hx2, hib2, he⟩
  · rintro w2 g L ⟨hx2, hib, he⟩
    simp only [wsv, wsg, wsh, wsl, cond_true, cond_false, exists_eq_left', Option.some.injEq, Option.isSome_some, List.getElem?_toArray, List.getElem?_cons_zero, List.getElem?_cons_succ, List.length_cons, List.length_nil, List.set_cons_zero, List.set_cons_succ, List.getD_cons_zero, List.getD_cons_succ, Nat.zero_add, Nat.add_zero, Nat.reduceAdd, Nat.reduceLT, Nat.lt_add_one, Nat.zero_lt_succ, decide_true, decide_false, ne_eq, reduceCtorEq, Int.lt_irrefl]
    rw [lenl_at h1, lenl_at h2]
    rw [List.drop_length] at he
    simp only [wsv, wsg, wsh, wsl, cond_true, cond_false, exists_eq_left', Option.some.injEq, Option.isSome_some, List.getElem?_toArray, List.getElem?_cons_zero, List.getElem?_cons_succ, List.length_cons, List.length_nil, List.set_cons_zero, List.set_cons_succ, List.getD_cons_zero, List.getD_cons_succ, Nat.zero_add, Nat.add_zero, Nat.reduceAdd, Nat.reduceLT, Nat.lt_add_one, Nat.zero_lt_succ, decide_true, decide_false, ne_eq, reduceCtorEq, condW_dec]
    have := hK w2 hx2
    rw [← he] at this
    refine ⟨fun hlt => ?_, fun hge => ?_⟩
    · obtain ⟨v, r, e⟩ : ∃ v r, b.drop a.length = v :: r := by
        cases hd : b.drop a.length with
        | nil => have := List.drop_eq_nil_iff.1 hd; omega
        | cons v r => exact ⟨v, r, rfl⟩
      rw [e] at this
      exact this
    · rw [List.drop_eq_nil_iff.2 (show b.length ≤ a.length by omega)] at this
      exact this
theorem or2_p {a b : Int} {v : Value} {w : World} {K : Value → World → Prop} (hv : SlAt w 3 v 2 [i64 a, i64 b]) (hK : ∀ w', Ext w w' → K (i64 (orI a b)) w') : callF Tryz.prog 159 [v] w K := by
  refine W159_ok ?_
  unfold W159
  rw [lenl_at hv]
  unfold orI at hK
  refine loop_up 2 (fun i w' => Ext w w' ∧ (1 ≤ i → a = 0) ∧ (2 ≤ i → b = 0)) ⟨Chg.refl _ _, by omega, by omega⟩ ?_ ?_
  · rintro i w2 g L hi ⟨hx2, h1, h2⟩ hL
    have hlt : ((i : Int) < ((2 : Nat) : Int)) := by omega
    simp only [wsv, wsg, wsh, wsl, cond_true, cond_false, exists_eq_left', Option.some.injEq, Option.isSome_some, List.getElem?_toArray, List.getElem?_cons_zero, List.getElem?_cons_succ, List.length_cons, List.length_nil, List.set_cons_zero, List.set_cons_succ, List.getD_cons_zero, List.getD_cons_succ, Nat.zero_add, Nat.add_zero, Nat.reduceAdd, Nat.reduceLT, Nat.lt_add_one, Nat.zero_lt_succ, decide_true, decide_false, ne_eq, reduceCtorEq, hlt]
    have hc : i = 0 ∨ i = 1 := by omega
    rcases hc with rfl | rfl
    · refine ixa_ld (hv.ext hx2) rfl (show [i64 a, i64 b][0]? = some (i64 a) from rfl) ?_
      simp only [wsv, wsg, wsh, wsl, cond_true, cond_false, exists_eq_left', Option.some.injEq, Option.isSome_some, List.getElem?_toArray, List.getElem?_cons_zero, List.getElem?_cons_succ, List.length_cons, List.length_nil, List.set_cons_zero, List.set_cons_succ, List.getD_cons_zero, List.getD_cons_succ, Nat.zero_add, Nat.add_zero, Nat.reduceAdd, Nat.reduceLT, Nat.lt_add_one, Nat.zero_lt_succ, decide_true, decide_false, ne_eq, reduceCtorEq, condW_dec]
      refine ⟨fun hne => ?_, fun h0 => ?_⟩
      · have := hK w2 hx2
        rw [if_neg hne] at this
        exact this
      · rw [up1 (by omega)]
        exact hL w2 ⟨hx2, fun _ => Decidable.not_not.1 h0, fun h => by omega⟩
    · have ha := h1 (Nat.le_refl _)
      refine ixa_ld (hv.ext hx2) rfl (show [i64 a, i64 b][1]? = some (i64 b) from rfl) ?_
      simp only [wsv, wsg, wsh, wsl, cond_true, cond_false, exists_eq_left', Option.some.injEq, Option.isSome_some, List.getElem?_toArray, List.getElem?_cons_zero, List.getElem?_cons_succ, List.length_cons, List.length_nil, List.set_cons_zero, List.set_cons_succ, List.getD_cons_zero, List.getD_cons_succ, Nat.zero_add, Nat.add_zero, Nat.reduceAdd, Nat.reduceLT, Nat.lt_add_one, Nat.zero_lt_succ, decide_true, decide_false, ne_eq, reduceCtorEq, condW_dec]
      refine ⟨fun hne => ?_, fun h0 => ?_⟩
      · have := hK w2 hx2
        rw [if_pos ha] at this
        exact this
      · rw [up1 (by omega)]
        exact hL w2 ⟨hx2, fun _ => ha, fun _ => Decidable.not_not.1 h0⟩
  · rintro w2 g L ⟨hx2, h1, h2⟩
    simp only [wsv, wsg, wsh, wsl, cond_true, cond_false, exists_eq_left', Option.some.injEq, Option.isSome_some, List.getElem?_toArray, List.getElem?_cons_zero, List.getElem?_cons_succ, List.length_cons, List.length_nil, List.set_cons_zero, List.set_cons_succ, List.getD_cons_zero, List.getD_cons_succ, Nat.zero_add, Nat.add_zero, Nat.reduceAdd, Nat.reduceLT, Nat.lt_add_one, Nat.zero_lt_succ, decide_true, decide_false, ne_eq, reduceCtorEq, Int.lt_irrefl]
    have := hK w2 hx2
    rw [if_pos (h1 (by omega)), h2 (Nat.le_refl _)] at this
    exact this
theorem cmpfunc_p {sv tv f : Value} {xs ys : List JV} {w : World} {K : Value → World → Prop} (h : ItemsAt w sv xs) (h' : ItemsAt w tv ys)
    (hf : ∀ x ∈ xs, ∀ y ∈ ys, ∀ {cs ds : List Value} {w : World} {K : Value → World → Prop}, VRep w x cs → VRep w y ds → (∀ w', Ext w w' → K (i64 (cmpM x y)) w') → callV Tryz.prog f [.agg cs.toArray, .agg ds.toArray] w K)
    (hK : ∀ w', Ext w w' → K (i64 (cmpL xs ys)) w') : callF Tryz.prog 161 [sv, tv, f] w K := by
  refine W161_ok ?_
  unfold W161
  rw [h.len]
  refine loop_up xs.length (fun i w' => Ext w w' ∧ i ≤ ys.length ∧ cmpL (xs.drop i) (ys.drop i) = cmpL xs ys) ⟨Chg.refl _ _, by omega, rfl⟩ ?_ ?_
  · rintro i w2 g L hi ⟨hx2, hib, he⟩ hL
    obtain ⟨u, hu⟩ : ∃ u, xs[i]? = some u := ⟨_, List.getElem?_eq_getElem hi⟩
    have hlt : ((i : Int) < (xs.length : Int)) := by omega
    have hda : xs.drop i = u :: xs.drop (i + 1) := by
      rw [List.drop_eq_getElem_cons hi]; congr 1
      exact Option.some.inj ((List.getElem?_eq_getElem hi).symm.trans hu)
    simp only [wsv, wsg, wsh, wsl, cond_true, cond_false, exists_eq_left', Option.some.injEq, Option.isSome_some, List.getElem?_toArray, List.getElem?_cons_zero, List.getElem?_cons_succ, List.length_cons, List.length_nil, List.set_cons_zero, List.set_cons_succ, List.getD_cons_zero, List.getD_cons_succ, Nat.zero_add, Nat.add_zero, Nat.reduceAdd, Nat.reduceLT, Nat.lt_add_one, Nat.zero_lt_succ, decide_true, decide_false, ne_eq, reduceCtorEq, hlt]
    refine (h.ext hx2).at hu fun cs hcs => ?_
    refine copy_new hcs fun p w3 sp kp hP hx3 => ?_
    rw [h'.len]
    simp only [wsv, wsg, wsh, wsl, cond_true, cond_false, exists_eq_left', Option.some.injEq, Option.isSome_some, List.getElem?_toArray, List.getElem?_cons_zero, List.getElem?_cons_succ, List.length_cons, List.length_nil, List.set_cons_zero, List.set_cons_succ, List.getD_cons_zero, List.getD_cons_succ, Nat.zero_add, Nat.add_zero, Nat.reduceAdd, Nat.reduceLT, Nat.lt_add_one, Nat.zero_lt_succ, decide_true, decide_false, ne_eq, reduceCtorEq, condW_dec]
    refine ⟨fun hge => ?_, fun hltb => ?_⟩
    · have hdb : ys.drop i = [] := List.drop_eq_nil_iff.2 (by omega)
      rw [hda, hdb] at he
      have := hK w3 (hx2.trans hx3)
      rw [← he] at this
      exact this
    · have hib2 : i < ys.length := by omega
      obtain ⟨v, hv⟩ : ∃ v, ys[i]? = some v := ⟨_, List.getElem?_eq_getElem hib2⟩
      have hdb : ys.drop i = v :: ys.drop (i + 1) := by
        rw [List.drop_eq_getElem_cons hib2]; congr 1
        exact Option.some.inj ((List.getElem?_eq_getElem hib2).symm.trans hv)
      rw [hda, hdb] at he
      simp only [cmpL, orI] at he
      refine (h'.ext (hx2.trans hx3)).at hv fun ds hds => ?_
      refine copy_new hds fun q w4 sq kq hQ hx4 => ?_
      refine (hP.ext hx4).ld fun cs2 hc2 => ?_
      refine hQ.ld fun ds2 hd2 => ?_
      refine hf u (List.mem_of_getElem? hu) v (List.mem_of_getElem? hv) hc2 hd2 fun w5 hx5 => ?_
      have hx := hx2.trans (hx3.trans (hx4.trans hx5))
      simp only [wsv, wsg, wsh, wsl, cond_true, cond_false, exists_eq_left', Option.some.injEq, Option.isSome_some, List.getElem?_toArray, List.getElem?_cons_zero, List.getElem?_cons_succ, List.length_cons, List.length_nil, List.set_cons_zero, List.set_cons_succ, List.getD_cons_zero, List.getD_cons_succ, Nat.zero_add, Nat.add_zero, Nat.reduceAdd, Nat.reduceLT, Nat.lt_add_one, Nat.zero_lt_succ, decide_true, decide_false, ne_eq, reduceCtorEq, condW_dec]
      refine ⟨fun hne => ?_, fun h0 => ?_⟩
      · rw [if_neg hne] at he
        have := hK w5 hx
        rw [← he] at this
        exact this
      · rw [if_pos (Decidable.not_not.1 h0)] at he
        have := h.few
        rw [up1 (by omega)]
        exact hL w5 ⟨hx, hib2, he⟩
  · rintro w2 g L ⟨hx2, hib, he⟩
    simp only [wsv, wsg, wsh, wsl, cond_true, cond_false, exists_eq_left', Option.some.injEq, Option.isSome_some, List.getElem?_toArray, List.getElem?_cons_zero, List.getElem?_cons_succ, List.length_cons, List.length_nil, List.set_cons_zero, List.set_cons_succ, List.getD_cons_zero, List.getD_cons_succ, Nat.zero_add, Nat.add_zero, Nat.reduceAdd, Nat.reduceLT, Nat.lt_add_one, Nat.zero_lt_succ, decide_true, decide_false, ne_eq, reduceCtorEq, Int.lt_irrefl]
    rw [h.len, h'.len]
    rw [List.drop_length] at he
    simp only [wsv, wsg, wsh, wsl, cond_true, cond_false, exists_eq_left', Option.some.injEq, Option.isSome_some, List.getElem?_toArray, List.getElem?_cons_zero, List.getElem?_cons_succ, List.length_cons, List.length_nil, List.set_cons_zero, List.set_cons_succ, List.getD_cons_zero, List.getD_cons_succ, Nat.zero_add, Nat.add_zero, Nat.reduceAdd, Nat.reduceLT, Nat.lt_add_one, Nat.zero_lt_succ, decide_true, decide_false, ne_eq, reduceCtorEq, condW_dec]
    have := hK w2 hx2
    rw [← he] at this
    refine ⟨fun hlt => ?_, fun hge => ?_⟩
    · obtain ⟨v, r, e⟩ : ∃ v r, ys.drop xs.length = v :: r := by
        cases hd : ys.drop xs.length with
        | nil => have := List.drop_eq_nil_iff.1 hd; omega
        | cons v r => exact ⟨v, r, rfl⟩
      rw [e] at this
      exact this
    · rw [List.drop_eq_nil_iff.2 (show ys.length ≤ xs.length by omega)] at this
      exact this
theorem cmp_p (v : JV) : ∀ {b : JV} {cs ds : List Value} {w : World} {K : Value → World → Prop}, VRep w v cs → VRep w b ds → (∀ w', Ext w w' → K (i64 (cmpM v b)) w') → callF Tryz.prog 131 [.agg cs.toArray, .agg ds.toArray] w K := by
  induction v using JV.ind' with
  | h v ih =>
    intro b cs ds w K h h' hK
    refine W131_ok ?_
    unfold W131
    refine box_val h fun x w1 sv kv hB hx _ => ?_
    refine box_val (h'.ext hx) fun y w2 sv' kv' hC hx2 _ => ?_
    have hB := hB.ext hx2
    have hx := hx.trans hx2
    clear hx2
    rw [cmpM_eq] at hK
    unfold orI at hK
    simp only [wsv, wsg, wsh, wsl, cond_true, cond_false, exists_eq_left', Option.some.injEq, Option.isSome_some, List.getElem?_toArray, List.getElem?_cons_zero, List.getElem?_cons_succ, List.length_cons, List.length_nil, List.set_cons_zero, List.set_cons_succ, List.getD_cons_zero, List.getD_cons_succ, Nat.zero_add, Nat.add_zero, Nat.reduceAdd, Nat.reduceLT, Nat.lt_add_one, Nat.zero_lt_succ, decide_true, decide_false, ne_eq, reduceCtorEq, wsh, hB.hb, hC.hb]
    refine cmp_k ?_
    simp only [wsv, wsg, wsh, wsl, cond_true, cond_false, exists_eq_left', Option.some.injEq, Option.isSome_some, List.getElem?_toArray, List.getElem?_cons_zero, List.getElem?_cons_succ, List.length_cons, List.length_nil, List.set_cons_zero, List.set_cons_succ, List.getD_cons_zero, List.getD_cons_succ, Nat.zero_add, Nat.add_zero, Nat.reduceAdd, Nat.reduceLT, Nat.lt_add_one, Nat.zero_lt_succ, decide_true, decide_false, ne_eq, reduceCtorEq, condW_dec]
    refine ⟨fun hne => ?_, fun h0 => ?_⟩
    · have := hK w2 hx
      rw [if_neg hne] at this
      exact this
    · rw [if_pos (Decidable.not_not.1 h0)] at hK
      have hxd : Ext w2 w2.drew := Chg.drew (Chg.refl (fun _ => False) w2)
      have hBd := hB.ext hxd
      have hCd := hC.ext hxd
      (try simp only [wsv, wsg, wsh, wsl, cond_true, cond_false, exists_eq_left', Option.some.injEq, Option.isSome_some, List.getElem?_toArray, List.getElem?_cons_zero, List.getElem?_cons_succ, List.length_cons, List.length_nil, List.set_cons_zero, List.set_cons_succ, List.getD_cons_zero, List.getD_cons_succ, Nat.zero_add, Nat.add_zero, Nat.reduceAdd, Nat.reduceLT, Nat.lt_add_one, Nat.zero_lt_succ, decide_true, decide_false, ne_eq, reduceCtorEq, wsh, hB.hb, hC.hb])
      refine ⟨fun h2 => ?_, fun h2 => ?_⟩
      · rw [if_pos (show v.k = 2 by simpa using h2)] at hK
        (try simp only [wsv, wsg, wsh, wsl, cond_true, cond_false, exists_eq_left', Option.some.injEq, Option.isSome_some, List.getElem?_toArray, List.getElem?_cons_zero, List.getElem?_cons_succ, List.length_cons, List.length_nil, List.set_cons_zero, List.set_cons_succ, List.getD_cons_zero, List.getD_cons_succ, Nat.zero_add, Nat.add_zero, Nat.reduceAdd, Nat.reduceLT, Nat.lt_add_one, Nat.zero_lt_succ, decide_true, decide_false, ne_eq, reduceCtorEq, wsh, hB.hb, hC.hb])
        refine truth_p ?_
        (try simp only [wsv, wsg, wsh, wsl, cond_true, cond_false, exists_eq_left', Option.some.injEq, Option.isSome_some, List.getElem?_toArray, List.getElem?_cons_zero, List.getElem?_cons_succ, List.length_cons, List.length_nil, List.set_cons_zero, List.set_cons_succ, List.getD_cons_zero, List.getD_cons_succ, Nat.zero_add, Nat.add_zero, Nat.reduceAdd, Nat.reduceLT, Nat.lt_add_one, Nat.zero_lt_succ, decide_true, decide_false, ne_eq, reduceCtorEq, wsh, hC.hb])
        refine truth_p (cmp_i ?_)
        exact hK _ (hx.trans hxd)
      · rw [if_neg (show ¬ v.k = 2 by simpa using h2)] at hK
        (try simp only [wsv, wsg, wsh, wsl, cond_true, cond_false, exists_eq_left', Option.some.injEq, Option.isSome_some, List.getElem?_toArray, List.getElem?_cons_zero, List.getElem?_cons_succ, List.length_cons, List.length_nil, List.set_cons_zero, List.set_cons_succ, List.getD_cons_zero, List.getD_cons_succ, Nat.zero_add, Nat.add_zero, Nat.reduceAdd, Nat.reduceLT, Nat.lt_add_one, Nat.zero_lt_succ, decide_true, decide_false, ne_eq, reduceCtorEq, condW_dec])
        refine ⟨fun h3 => ?_, fun h3 => ?_⟩
        · rw [if_pos (show v.k = 3 by simpa using h3)] at hK
          (try simp only [wsv, wsg, wsh, wsl, cond_true, cond_false, exists_eq_left', Option.some.injEq, Option.isSome_some, List.getElem?_toArray, List.getElem?_cons_zero, List.getElem?_cons_succ, List.length_cons, List.length_nil, List.set_cons_zero, List.set_cons_succ, List.getD_cons_zero, List.getD_cons_succ, Nat.zero_add, Nat.add_zero, Nat.reduceAdd, Nat.reduceLT, Nat.lt_add_one, Nat.zero_lt_succ, decide_true, decide_false, ne_eq, reduceCtorEq, wsh, hB.hb, hC.hb])
          exact numcmp_ref hB.fits.2.2.1 hC.fits.2.2.1 fun w3 hx3 => hK w3 (hx.trans hx3)
        · rw [if_neg (show ¬ v.k = 3 by simpa using h3)] at hK
          (try simp only [wsv, wsg, wsh, wsl, cond_true, cond_false, exists_eq_left', Option.some.injEq, Option.isSome_some, List.getElem?_toArray, List.getElem?_cons_zero, List.getElem?_cons_succ, List.length_cons, List.length_nil, List.set_cons_zero, List.set_cons_succ, List.getD_cons_zero, List.getD_cons_succ, Nat.zero_add, Nat.add_zero, Nat.reduceAdd, Nat.reduceLT, Nat.lt_add_one, Nat.zero_lt_succ, decide_true, decide_false, ne_eq, reduceCtorEq, condW_dec])
          refine ⟨fun h4 => ?_, fun h4 => ?_⟩
          · rw [if_pos (show v.k = 4 by simpa using h4)] at hK
            (try simp only [wsv, wsg, wsh, wsl, cond_true, cond_false, exists_eq_left', Option.some.injEq, Option.isSome_some, List.getElem?_toArray, List.getElem?_cons_zero, List.getElem?_cons_succ, List.length_cons, List.length_nil, List.set_cons_zero, List.set_cons_succ, List.getD_cons_zero, List.getD_cons_succ, Nat.zero_add, Nat.add_zero, Nat.reduceAdd, Nat.reduceLT, Nat.lt_add_one, Nat.zero_lt_succ, decide_true, decide_false, ne_eq, reduceCtorEq, wsh, hB.hb, hC.hb])
            exact strcmp (hK w2 hx)
          · rw [if_neg (show ¬ v.k = 4 by simpa using h4)] at hK
            (try simp only [wsv, wsg, wsh, wsl, cond_true, cond_false, exists_eq_left', Option.some.injEq, Option.isSome_some, List.getElem?_toArray, List.getElem?_cons_zero, List.getElem?_cons_succ, List.length_cons, List.length_nil, List.set_cons_zero, List.set_cons_succ, List.getD_cons_zero, List.getD_cons_succ, Nat.zero_add, Nat.add_zero, Nat.reduceAdd, Nat.reduceLT, Nat.lt_add_one, Nat.zero_lt_succ, decide_true, decide_false, ne_eq, reduceCtorEq, wsh, hB.hb, hC.hb])
            obtain ⟨T1, k1⟩ := hBd.keys
            obtain ⟨T2, k2⟩ := hCd.keys
            refine cmpks_p k1 k2 hB.fits.2.1 fun w3 hx3 => ?_
            have hB3 := hBd.ext hx3
            have hC3 := hCd.ext hx3
            simp only [wsv, wsg, wsh, wsl, cond_true, cond_false, exists_eq_left', Option.some.injEq, Option.isSome_some, List.getElem?_toArray, List.getElem?_cons_zero, List.getElem?_cons_succ, List.length_cons, List.length_nil, List.set_cons_zero, List.set_cons_succ, List.getD_cons_zero, List.getD_cons_succ, Nat.zero_add, Nat.add_zero, Nat.reduceAdd, Nat.reduceLT, Nat.lt_add_one, Nat.zero_lt_succ, decide_true, decide_false, ne_eq, reduceCtorEq, wsh, hB3.hb, hC3.hb]
            refine cmpfunc_p hB3.itemsAt hC3.itemsAt ?_ fun w4 hx4 => ?_
            · intro p hp q hq cs ds w K hc hd hK
              exact callV_fn (ih p hp hc hd hK)
            unfold bslW
            simp only [wsv, wsg, wsh, wsl, cond_true, cond_false, exists_eq_left', Option.some.injEq, Option.isSome_some, List.getElem?_toArray, List.getElem?_cons_zero, List.getElem?_cons_succ, List.length_cons, List.length_nil, List.set_cons_zero, List.set_cons_succ, List.getD_cons_zero, List.getD_cons_succ, Nat.zero_add, Nat.add_zero, Nat.reduceAdd, Nat.reduceLT, Nat.lt_add_one, Nat.zero_lt_succ, decide_true, decide_false, ne_eq, reduceCtorEq]
            have hs : SlAt (w4.alloc (.cells [i64 (cmpKs v.ks b.ks), i64 (cmpL v.xs b.xs)].toArray 3)) 3 (.slice (some ⟨w4.heap.size, 0, none⟩) 2 2) 2 [i64 (cmpKs v.ks b.ks), i64 (cmpL v.xs b.xs)] :=
              (own_new (w := w4) (base := w4.heap.size) (e := 3) (size := 1) (n := 2) (cs := [i64 (cmpKs v.ks b.ks), i64 (cmpL v.xs b.xs)]) (Nat.le_refl _) rfl (by omega)).sl
            refine or2_p hs fun w5 hx5 => ?_
            have hx' := hx.trans (hxd.trans (hx3.trans (hx4.trans ((Chg.alloc (Chg.refl _ _) _ : Ext w4 _).trans hx5))))
            exact hK w5 hx'
theorem equal_p {a b : JV} {cs ds : List Value} {w : World} {K : Value → World → Prop} (h : VRep w a cs) (h' : VRep w b ds) (hK : ∀ w', Ext w w' → K (.bool (decide (cmpM a b = 0))) w') : callF Tryz.prog 93 [.agg cs.toArray, .agg ds.toArray] w K := by
  refine W93_ok ?_
  unfold W93
  refine box_val h fun x w1 sv kv hB hx _ => ?_
  refine box_val (h'.ext hx) fun y w2 sv' kv' hC hx2 _ => ?_
  have hB := hB.ext hx2
  refine hB.ld fun cs1 h1 => ?_
  refine hC.ld fun cs2 h2 => ?_
  refine cmp_p a h1 h2 fun w3 hx3 => ?_
  simp only [wsv, wsg, wsh, wsl, cond_true, cond_false, exists_eq_left', Option.some.injEq, Option.isSome_some, List.getElem?_toArray, List.getElem?_cons_zero, List.getElem?_cons_succ, List.length_cons, List.length_nil, List.set_cons_zero, List.set_cons_succ, List.getD_cons_zero, List.getD_cons_succ, Nat.zero_add, Nat.add_zero, Nat.reduceAdd, Nat.reduceLT, Nat.lt_add_one, Nat.zero_lt_succ, decide_true, decide_false, ne_eq, reduceCtorEq]
  exact hK w3 (hx.trans (hx2.trans hx3))
end
end Go.Proofs.YtdkikjcpgihjlaaGreatDoor
namespace Go.Proofs.YtdkikjcpgihjlaaGreatDoor
open Go Go.Eng Go.Num
set_option maxRecDepth 100000
def inG (G : Nat → Prop) (v : Value) : Prop := ∀ k, v.ownBlock = some k → G k
def NfV (w : World) (v : Value) : Prop := ∀ k, v.ownBlock = some k → ∀ c T fr, w.heap[k]? = some (.cells c T fr) → fr = (0, 0)
theorem NfV.nil {w : World} : NfV w (.slice none 0 0) := by intro k hk; cases hk
mutual
/-- a value all whose lists lie in blocks of G -/
def VRepP (G : Nat → Prop) (w : World) : JV → List Value → Prop
  | .mk k b t xs ks, cs => ∃ sv kv T1 T2 L, cs = [i64 k, .bool b, str t, sv, kv] ∧ SlAt w T1 sv xs.length L ∧ VRepsP G w xs L ∧ SlAt w T2 kv ks.length (ks.map str) ∧ Fits xs.length ks t ∧ (L ≠ [] → inG G sv) ∧ (ks.map str ≠ [] → inG G kv) ∧ (L ≠ [] → NfV w sv) ∧ (ks.map str ≠ [] → NfV w kv)
def VRepsP (G : Nat → Prop) (w : World) : List JV → List Value → Prop
  | [], L => L = []
  | x :: xs, L => ∃ c r, L = c ++ r ∧ VRepP G w x c ∧ VRepsP G w xs r
end
theorem slat_chgG {S G : Nat → Prop} {w w' : World} {T : TypeId} {v : Value} {n : Nat} {cs : List Value} (h : SlAt w T v n cs) (hg : cs ≠ [] → inG G v) (hc : Chg S w w') (hS : ∀ k, G k → k < w.heap.size → ¬ S k) : SlAt w' T v n cs := by
  obtain ⟨p, cap, rfl, h1, h2, h3⟩ := h
  refine ⟨p, cap, rfl, h1, h2, fun hne => ?_⟩
  obtain ⟨b, off, c, fr, rfl, hb, hcs⟩ := h3 hne
  exact ⟨b, off, c, fr, rfl, hc.at hb (hS b (hg hne b rfl) (at_lt hb)), hcs⟩
theorem nfv_chg {S G : Nat → Prop} {w w' : World} {T : TypeId} {v : Value} {n : Nat} {cs : List Value} (h : SlAt w T v n cs) (hg : cs ≠ [] → inG G v) (hc : Chg S w w') (hS : ∀ k, G k → k < w.heap.size → ¬ S k) (hn : cs ≠ [] → NfV w v) : cs ≠ [] → NfV w' v := by
  intro hne
  obtain ⟨p, cap, rfl, h1, h2, h3⟩ := h
  obtain ⟨b, off, c, fr, rfl, hb, hcs⟩ := h3 hne
  intro k hk c' T' fr' hk'
  simp only [Value.ownBlock, Option.some.injEq] at hk
  subst hk
  rw [hc.at hb (hS b (hg hne b rfl) (at_lt hb))] at hk'
  cases hk'
  exact hn hne b rfl _ _ _ hb
theorem slat_lt {w : World} {T : TypeId} {v : Value} {n : Nat} {cs : List Value} (h : SlAt w T v n cs) (hne : cs ≠ []) : inG (fun k => k < w.heap.size) v := by
  obtain ⟨p, cap, rfl, h1, h2, h3⟩ := h
  obtain ⟨b, off, c, fr, rfl, hb, hcs⟩ := h3 hne
  intro k hk
  cases hk
  exact at_lt hb
mutual
theorem VRepP.chg {S G : Nat → Prop} {w w' : World} (hc : Chg S w w') (hS : ∀ k, G k → k < w.heap.size → ¬ S k) : ∀ {v : JV} {cs : List Value}, VRepP G w v cs → VRepP G w' v cs
  | .mk k b t xs ks, cs, h => by
    simp only [VRepP] at h ⊢
    obtain ⟨sv, kv, T1, T2, L, rfl, h1, h2, h3, h4, h5, h6, h7, h8⟩ := h
    exact ⟨sv, kv, T1, T2, L, rfl, slat_chgG h1 h5 hc hS, VRepsP.chg hc hS h2, slat_chgG h3 h6 hc hS, h4, h5, h6, nfv_chg h1 h5 hc hS h7, nfv_chg h3 h6 hc hS h8⟩
theorem VRepsP.chg {S G : Nat → Prop} {w w' : World} (hc : Chg S w w') (hS : ∀ k, G k → k < w.heap.size → ¬ S k) : ∀ {xs : List JV} {L : List Value}, VRepsP G w xs L → VRepsP G w' xs L
  | [], L, h => by simp only [VRepsP] at h ⊢; exact h
  | x :: xs, L, h => by
    simp only [VRepsP] at h ⊢
    obtain ⟨c, r, rfl, h1, h2⟩ := h
    exact ⟨c, r, rfl, VRepP.chg hc hS h1, VRepsP.chg hc hS h2⟩
end
mutual
theorem VRepP.mono {G G' : Nat → Prop} {w : World} (hG : ∀ k, k < w.heap.size → G k → G' k) : ∀ {v : JV} {cs : List Value}, VRepP G w v cs → VRepP G' w v cs
  | .mk k b t xs ks, cs, h => by
    simp only [VRepP] at h ⊢
    obtain ⟨sv, kv, T1, T2, L, rfl, h1, h2, h3, h4, h5, h6, h7, h8⟩ := h
    exact ⟨sv, kv, T1, T2, L, rfl, h1, VRepsP.mono hG h2, h3, h4, fun hne k hk => hG k (slat_lt h1 hne k hk) (h5 hne k hk), fun hne k hk => hG k (slat_lt h3 hne k hk) (h6 hne k hk), h7, h8⟩
theorem VRepsP.mono {G G' : Nat → Prop} {w : World} (hG : ∀ k, k < w.heap.size → G k → G' k) : ∀ {xs : List JV} {L : List Value}, VRepsP G w xs L → VRepsP G' w xs L
  | [], L, h => by simp only [VRepsP] at h ⊢; exact h
  | x :: xs, L, h => by
    simp only [VRepsP] at h ⊢
    obtain ⟨c, r, rfl, h1, h2⟩ := h
    exact ⟨c, r, rfl, VRepP.mono hG h1, VRepsP.mono hG h2⟩
end
mutual
theorem VRepP.rep {G : Nat → Prop} {w : World} : ∀ {v : JV} {cs : List Value}, VRepP G w v cs → VRep w v cs
  | .mk k b t xs ks, cs, h => by
    simp only [VRepP] at h
    simp only [VRep]
    obtain ⟨sv, kv, T1, T2, L, rfl, h1, h2, h3, h4, h5, h6⟩ := h
    exact ⟨sv, kv, T1, T2, L, rfl, h1, VRepsP.rep h2, h3, h4⟩
theorem VRepsP.rep {G : Nat → Prop} {w : World} : ∀ {xs : List JV} {L : List Value}, VRepsP G w xs L → VReps w xs L
  | [], L, h => by simp only [VRepsP] at h; simp only [VReps]; exact h
  | x :: xs, L, h => by
    simp only [VRepsP] at h
    simp only [VReps]
    obtain ⟨c, r, rfl, h1, h2⟩ := h
    exact ⟨c, r, rfl, VRepP.rep h1, VRepsP.rep h2⟩
end
theorem VRepsP.snoc {G : Nat → Prop} {w : World} : ∀ {xs : List JV} {x : JV} {L cs : List Value}, VRepsP G w xs L → VRepP G w x cs → VRepsP G w (xs ++ [x]) (L ++ cs)
  | [], x, L, cs, h, hx => by
    simp only [VRepsP] at h
    subst h
    simp only [List.nil_append, VRepsP]
    exact ⟨cs, [], by simp, hx, rfl⟩
  | y :: xs, x, L, cs, h, hx => by
    simp only [VRepsP] at h
    obtain ⟨c, r, rfl, h1, h2⟩ := h
    simp only [List.cons_append, VRepsP]
    exact ⟨c, r ++ cs, by simp, h1, VRepsP.snoc h2 hx⟩
theorem VRepP.mk {G : Nat → Prop} {w : World} {v : JV} {sv kv : Value} {T1 T2 : TypeId} {L : List Value} (h1 : SlAt w T1 sv v.xs.length L) (h2 : VRepsP G w v.xs L) (h3 : SlAt w T2 kv v.ks.length (v.ks.map str)) (h4 : Fits v.xs.length v.ks v.t) (h5 : L ≠ [] → inG G sv) (h6 : v.ks.map str ≠ [] → inG G kv) (h7 : L ≠ [] → NfV w sv) (h8 : v.ks.map str ≠ [] → NfV w kv) : VRepP G w v [i64 v.k, .bool v.b, str v.t, sv, kv] := by
  cases v with
  | mk k b t xs ks => simp only [VRepP]; exact ⟨sv, kv, T1, T2, L, rfl, h1, h2, h3, h4, h5, h6, h7, h8⟩
theorem own_nf {w : World} {B : Nat} {e : TypeId} {size : Nat} {v : Value} {n : Nat} {xs : List Value} (h : Own w B e size v n xs) : NfV w v := by
  obtain ⟨hl, ⟨rfl, _⟩ | ⟨g, cap, cur, rfl, h1, h2, h3⟩⟩ := h
  · exact NfV.nil
  · intro k hk c T fr hk'
    simp only [Value.ownBlock, Option.some.injEq] at hk
    subst hk
    rw [h2] at hk'
    cases hk'
    rfl
abbrev From (n : Nat) : Nat → Prop := fun k => n ≤ k
section
variable [HX]
theorem clone_s {v : Value} {T : TypeId} {l : List Str} {w : World} {K : Value → World → Prop} (h : SlAt w T v l.length (l.map str)) (hl : l.length ≤ 1000000)
    (hK : ∀ v' w', Ext w w' → SlAt w' ST v' l.length (l.map str) → inG (From w.heap.size) v' → NfV w' v' → K v' w') : callF Tryz.prog 130 [v] w K := by
  refine W130_ok ?_
  unfold W130
  obtain ⟨p, cap, rfl, hcap, hp, hc⟩ := h
  cases p with
  | none =>
    obtain ⟨h0, rfl⟩ := hp rfl
    have : l = [] := List.eq_nil_of_length_eq_zero h0
    subst this
    have e : ∀ K : Value → Prop, eqW .slice false (.slice none ([] : List Str).length 0) (.slice none 0 0) K ↔ K (.bool true) := fun K => Iff.rfl
    rw [e]
    simp only [wsv, wsg, wsh, wsl, cond_true, cond_false, exists_eq_left', Option.some.injEq, Option.isSome_some, List.getElem?_toArray, List.getElem?_cons_zero, List.getElem?_cons_succ, List.length_cons, List.length_nil, List.set_cons_zero, List.set_cons_succ, List.getD_cons_zero, List.getD_cons_succ, Nat.zero_add, Nat.add_zero, Nat.reduceAdd, Nat.reduceLT, Nat.lt_add_one, Nat.zero_lt_succ, decide_true, decide_false, ne_eq, reduceCtorEq]
    exact hK _ w (Chg.refl _ _) (SlAt.nil _ _) (by intro k hk; cases hk) NfV.nil
  | some a =>
    have e : ∀ K : Value → Prop, eqW .slice false (.slice (some a) l.length cap) (.slice none 0 0) K ↔ K (.bool false) := fun K => Iff.rfl
    rw [e]
    unfold bslW
    simp only [wsv, wsg, wsh, wsl, cond_true, cond_false, exists_eq_left', Option.some.injEq, Option.isSome_some, List.getElem?_toArray, List.getElem?_cons_zero, List.getElem?_cons_succ, List.length_cons, List.length_nil, List.set_cons_zero, List.set_cons_succ, List.getD_cons_zero, List.getD_cons_succ, Nat.zero_add, Nat.add_zero, Nat.reduceAdd, Nat.reduceLT, Nat.lt_add_one, Nat.zero_lt_succ, decide_true, decide_false, ne_eq, reduceCtorEq]
    refine append_own3 elem_s (base := w.heap.size) (own_new (w := w) (base := w.heap.size) (e := ST) (size := 1) (n := 0) (cs := []) (Nat.le_refl _) rfl (by omega)) (x := .slice (some a) l.length cap) (T := T) (m := l.length) (news := l.map str) ?_ (by simp) ?_ (by omega) (by omega) (by rw [size_alloc]; omega) fun v' w' h' hc' hb' => ?_
    · have hx : Ext w (w.alloc (.cells ([] : List Value).toArray ST)) := (by repeat (first | assumption | exact Chg.refl _ _ | refine Chg.drew ?_ | refine Chg.alloc ?_ _ | refine Chg.set ?_ (by first | exact .inl rfl | exact .inr (by omega) | exact .inr (by simp only [size_set, size_alloc, size_drew]; omega) | (left; simp; done)) _ | exact Chg.of_ext (by assumption)))
      exact SlAt.ext ⟨some a, cap, rfl, hcap, hp, hc⟩ hx
    · intro u hu
      obtain ⟨s, _, rfl⟩ := List.mem_map.1 hu
      rfl
    · have hx : Ext w (w.alloc (.cells ([] : List Value).toArray ST)) := (by repeat (first | assumption | exact Chg.refl _ _ | refine Chg.drew ?_ | refine Chg.alloc ?_ _ | refine Chg.set ?_ (by first | exact .inl rfl | exact .inr (by omega) | exact .inr (by simp only [size_set, size_alloc, size_drew]; omega) | (left; simp; done)) _ | exact Chg.of_ext (by assumption)))
      refine hK v' w' (hx.then hc' fun k hk e => ?_) (by simpa using h'.sl) (fun k hk => (h'.block k hk).1) (own_nf h')
      simp only [Value.ownBlock, Option.some.injEq] at e
      omega
theorem clones_p {xs : List JV} (hcl : ∀ x ∈ xs, ∀ {cs : List Value} {w : World} {K : Value → World → Prop}, VRep w x cs → (∀ cs' w', Ext w w' → VRepP (From w.heap.size) w' x cs' → K (.agg cs'.toArray) w') → callF Tryz.prog 90 [.agg cs.toArray] w K)
    {sv : Value} {w : World} {K : Value → World → Prop} (h : ItemsAt w sv xs) (hl : xs.length ≤ 1000000)
    (hK : ∀ sv' w', Ext w w' → (∃ L, SlAt w' VT sv' xs.length L ∧ VRepsP (From w.heap.size) w' xs L) → inG (From w.heap.size) sv' → NfV w' sv' → K sv' w') : callF Tryz.prog 104 [sv] w K := by
  refine W104_ok ?_
  unfold W104
  rw [h.len]
  refine ⟨fun s w' => ∃ i v L, i ≤ xs.length ∧ s = [v, i64 (i : Nat)] ∧ Ext w w' ∧ Own w' w.heap.size VT 5 v i L ∧ VRepsP (fun k => w.heap.size ≤ k ∧ v.ownBlock ≠ some k) w' (xs.take i) L,
    fun s _ => match s with | [_, .int _ i] => xs.length - i.toNat | _ => 0, ⟨0, _, [], by omega, rfl, Chg.refl _ _, ⟨by simp, .inl ⟨rfl, rfl⟩⟩, by simp [VRepsP]⟩, ?_⟩
  rintro s g w2 ⟨i, v, L, hi, rfl, hx2, hO, hr⟩
  rcases Nat.lt_or_ge i xs.length with hlt | hge
  · obtain ⟨x, hxi⟩ : ∃ x, xs[i]? = some x := ⟨_, List.getElem?_eq_getElem hlt⟩
    have hltI : (i : Int) < (xs.length : Int) := by omega
    simp only [wsv, wsg, wsh, wsl, cond_true, cond_false, exists_eq_left', Option.some.injEq, Option.isSome_some, List.getElem?_toArray, List.getElem?_cons_zero, List.getElem?_cons_succ, List.length_cons, List.length_nil, List.set_cons_zero, List.set_cons_succ, List.getD_cons_zero, List.getD_cons_succ, Nat.zero_add, Nat.add_zero, Nat.reduceAdd, Nat.reduceLT, Nat.lt_add_one, Nat.zero_lt_succ, decide_true, decide_false, ne_eq, reduceCtorEq, hltI]
    refine (h.ext hx2).at hxi fun cs hcs => ?_
    refine copy_new hcs fun p w3 sp kp hP hx3 => ?_
    refine hP.ld fun cs2 h2 => ?_
    refine hcl x (List.mem_of_getElem? hxi) h2 fun cs3 w4 hx4 h3 => ?_
    refine row_v h3.rep.len fun t w5 ht hx5 => ?_
    have hx25 := hx3.trans (hx4.trans hx5)
    have hO5 := hO.ext hx25
    have s0 := hx2.size
    have s3 := hx3.size
    have s25 := hx25.size
    have hglt : ∀ k, v.ownBlock = some k → k < w2.heap.size := fun k hk => (World.ownsRow.lt hO k hk).2
    refine append_own3 elem_v hO5 ht (m := 1) (by rw [h3.rep.len]) h3.rep.one (by omega) (by omega) (by omega) fun v' w6 h6 hc6 hb6 => ?_
    have hx6 : Ext w w6 := (hx2.trans hx25).then hc6 fun k hk e => by
      have := (own_ge hO5 e).1; omega
    rw [up1 (by omega)]
    refine ⟨⟨i + 1, v', L ++ cs3, hlt, rfl, hx6, h6, ?_⟩, by simp only [Int.toNat_natCast]; omega⟩
    have e : xs.take (i + 1) = xs.take i ++ [x] := by rw [List.take_add_one, hxi]; rfl
    rw [e]
    have hr5 := VRepsP.chg hx25 (fun _ _ _ e => e) hr
    have h35 := VRepP.chg hx5 (fun _ _ _ e => e) h3
    have hall : VRepsP (fun k => w.heap.size ≤ k ∧ v.ownBlock ≠ some k) w5 (xs.take i ++ [x]) (L ++ cs3) :=
      hr5.snoc (h35.mono fun k _ hk => ⟨by have : w3.heap.size ≤ k := hk; omega, fun e => by have := hglt k e; have : w3.heap.size ≤ k := hk; omega⟩)
    have hall2 : VRepsP (fun k => (w.heap.size ≤ k ∧ v.ownBlock ≠ some k) ∧ k < w5.heap.size) w5 (xs.take i ++ [x]) (L ++ cs3) := hall.mono fun k hlt hk => ⟨hk, hlt⟩
    have hall3 := VRepsP.chg hc6 (fun k hk _ e => hk.1.2 e) hall2
    exact hall3.mono fun k _ hk => ⟨hk.1.1, fun e => by
      rcases hb6 k e with h | h
      · exact hk.1.2 h
      · omega⟩
  · obtain rfl : i = xs.length := by omega
    simp only [wsv, wsg, wsh, wsl, cond_true, cond_false, exists_eq_left', Option.some.injEq, Option.isSome_some, List.getElem?_toArray, List.getElem?_cons_zero, List.getElem?_cons_succ, List.length_cons, List.length_nil, List.set_cons_zero, List.set_cons_succ, List.getD_cons_zero, List.getD_cons_succ, Nat.zero_add, Nat.add_zero, Nat.reduceAdd, Nat.reduceLT, Nat.lt_add_one, Nat.zero_lt_succ, decide_true, decide_false, ne_eq, reduceCtorEq, Int.lt_irrefl]
    rw [List.take_length] at hr
    exact hK v w2 hx2 ⟨L, hO.sl, hr.mono fun k _ hk => hk.1⟩ (fun k hk => (hO.block k hk).1) (own_nf hO)
end
end Go.Proofs.YtdkikjcpgihjlaaGreatDoor
namespace Go.Eng
open Go Go.Num
mutual
def fewM : JV → Bool
  | .mk _ _ _ xs ks => decide (xs.length ≤ 100000) && decide (ks.length ≤ 100000) && fewL xs
def fewL : List JV → Bool
  | [] => true
  | x :: xs => fewM x && fewL xs
end
theorem fewM_eq (v : JV) : fewM v = (decide (v.xs.length ≤ 100000) && decide (v.ks.length ≤ 100000) && fewL v.xs) := by cases v; rfl
theorem fewL_all (xs : List JV) : fewL xs = xs.all fewM := by
  induction xs with
  | nil => rfl
  | cons x xs ih => simp [fewL, ih]
theorem size_bound : ∀ (m : Nat), m ≤ 24 → ∀ (v : JV), deepM v m = true → 1 ≤ sizeM v ∧ sizeM v ≤ 2000 * m + 1
  | 0, _, v, h => by rw [deepM_zero] at h; cases h
  | m + 1, hm, v, h => by
    rw [deepM_succ, deepL_all] at h
    rw [sizeM_eq]
    have key : ∀ (xs : List JV) (n : Int), xs.all (deepM · m) = true → 1 ≤ n → n ≤ 2000 * (m + 1) + 1 → 1 ≤ sizeLM xs n ∧ sizeLM xs n ≤ 2000 * (m + 1) + 1 := by
      intro xs
      induction xs with
      | nil => intro n _ h1 h2; exact ⟨h1, h2⟩
      | cons x xs ih =>
        intro n ha h1 h2
        simp only [List.all_cons, Bool.and_eq_true] at ha
        obtain ⟨a1, a2⟩ := size_bound m (by omega) x ha.1
        simp only [sizeLM]
        split
        · rw [wrap_id (by omega) (by omega)]
          exact ih _ ha.2 (by omega) (by omega)
        · exact ⟨h1, h2⟩
    have := key v.xs 1 h (by omega) (by omega)
    exact ⟨this.1, by have := this.2; omega⟩
theorem sizeLM_all {m : Nat} (hm : m ≤ 24) : ∀ (xs : List JV) (n : Int), xs.all (deepM · m) = true → 1 ≤ n → sizeLM xs n ≤ 2000 → n + xs.length ≤ 2000 ∧ ∀ x ∈ xs, sizeM x ≤ 2000
  | [], n, _, _, h => by simp only [sizeLM] at h; exact ⟨by simp; exact h, by simp⟩
  | x :: xs, n, ha, h1, h => by
    simp only [List.all_cons, Bool.and_eq_true] at ha
    obtain ⟨a1, a2⟩ := size_bound m hm x ha.1
    simp only [sizeLM] at h
    split at h
    · rw [wrap_id (by omega) (by omega)] at h
      obtain ⟨i1, i2⟩ := sizeLM_all hm xs _ ha.2 (by omega) h
      refine ⟨by simp only [List.length_cons]; omega, fun y hy => ?_⟩
      rcases List.mem_cons.1 hy with rfl | hy
      · omega
      · exact i2 y hy
    · omega
theorem good_few (v : JV) : ∀ (m : Nat), m ≤ 24 → sizeM v ≤ 2000 → deepM v m = true → plainM v = true → fewM v = true := by
  induction v using JV.ind' with
  | h v ih =>
    intro m hm hs hd hp
    cases m with
    | zero => rw [deepM_zero] at hd; cases hd
    | succ m =>
      rw [deepM_succ, deepL_all] at hd
      rw [sizeM_eq] at hs
      obtain ⟨h1, h2⟩ := sizeLM_all (m := m) (by omega) v.xs 1 hd (by omega) hs
      rw [plainM_eq, Bool.and_eq_true, plainL_all] at hp
      obtain ⟨_, _, _, _, _, k6, _, _, k9, _⟩ := headOk_out hp.1
      rw [fewM_eq, fewL_all]
      have e1 : v.xs.length ≤ 100000 := by omega
      have e2 : v.ks.length ≤ 100000 := by
        by_cases hk : v.ks = []
        · rw [hk]; simp
        · have := k9 (k6 hk); omega
      rw [decide_eq_true e1, decide_eq_true e2]
      simp only [Bool.and_self, Bool.true_and, List.all_eq_true]
      intro x hx
      exact ih x hx m (by omega) (h2 x hx) (List.all_eq_true.1 hd x hx) (List.all_eq_true.1 hp.2 x hx)
structure GoodV (v : JV) : Prop where
  plain : plainM v = true
  few : fewM v = true
theorem good_v {v : JV} (h : goodM v = true) : GoodV v := by
  simp only [goodM, Bool.and_eq_true, decide_eq_true_eq] at h
  exact ⟨h.2, good_few v 24 (Nat.le_refl _) h.1.1 h.1.2 h.2⟩
theorem GoodV.item {v x : JV} (h : GoodV v) (hx : x ∈ v.xs) : GoodV x := by
  have h1 := h.plain
  have h2 := h.few
  rw [plainM_eq, Bool.and_eq_true, plainL_all, List.all_eq_true] at h1
  rw [fewM_eq, fewL_all] at h2
  simp only [Bool.and_eq_true, List.all_eq_true] at h2
  exact ⟨h1.2 x hx, h2.2 x hx⟩
theorem GoodV.lens {v : JV} (h : GoodV v) : v.xs.length ≤ 100000 ∧ v.ks.length ≤ 100000 ∧ (v.k = 6 → v.ks.length = v.xs.length) ∧ keysOk v.ks = true ∧ (v.ks ≠ [] → v.k = 6) := by
  have h1 := h.plain
  have h2 := h.few
  rw [plainM_eq, Bool.and_eq_true] at h1
  rw [fewM_eq] at h2
  simp only [Bool.and_eq_true, decide_eq_true_eq] at h2
  obtain ⟨_, _, _, _, _, k6, _, _, k9, k10⟩ := headOk_out h1.1
  exact ⟨h2.1.1, h2.1.2, k9, k10, k6⟩
theorem less_trans : ∀ {a b c : Str}, Op.bytesLess a b = true → Op.bytesLess b c = true → Op.bytesLess a c = true
  | [], [], _, h, _ => by simp [Op.bytesLess] at h
  | _ :: _, [], _, h, _ => by simp [Op.bytesLess] at h
  | _, _ :: _, [], _, h => by simp [Op.bytesLess] at h
  | [], _ :: _, _ :: _, _, _ => by simp [Op.bytesLess]
  | x :: a, y :: b, z :: c, h1, h2 => by
    simp only [Op.bytesLess, Bool.or_eq_true, Bool.and_eq_true, decide_eq_true_eq, beq_iff_eq] at h1 h2 ⊢
    rcases h1 with h1 | ⟨rfl, h1⟩
    · rcases h2 with h2 | ⟨rfl, h2⟩
      · exact .inl (UInt8.lt_trans h1 h2)
      · exact .inl h1
    · rcases h2 with h2 | ⟨rfl, h2⟩
      · exact .inl h2
      · exact .inr ⟨rfl, less_trans h1 h2⟩
theorem less_tri : ∀ (a b : Str), Op.bytesLess a b = true ∨ a = b ∨ Op.bytesLess b a = true
  | [], [] => .inr (.inl rfl)
  | [], _ :: _ => .inl rfl
  | _ :: _, [] => .inr (.inr rfl)
  | x :: a, y :: b => by
    simp only [Op.bytesLess, Bool.or_eq_true, Bool.and_eq_true, decide_eq_true_eq, beq_iff_eq, List.cons.injEq]
    by_cases h1 : x < y
    · exact .inl (.inl h1)
    · by_cases h2 : y < x
      · exact .inr (.inr (.inl h2))
      · have : x = y := UInt8.le_antisymm (UInt8.not_lt.1 h2) (UInt8.not_lt.1 h1)
        subst this
        rcases less_tri a b with h | h | h
        · exact .inl (.inr ⟨rfl, h⟩)
        · exact .inr (.inl ⟨rfl, h⟩)
        · exact .inr (.inr (.inr ⟨rfl, h⟩))
theorem less_anti {a b : Str} (h : Op.bytesLess a b = true) : Op.bytesLess b a = false := by
  cases hb : Op.bytesLess b a with
  | false => rfl
  | true => have := less_trans h hb; rw [less_irr] at this; cases this
def Rise (ks : List Str) : Prop := ks.Pairwise fun a b => Op.bytesLess a b = true
theorem keysOk_rise : ∀ {ks : List Str}, keysOk ks = true → Rise ks
  | [], _ => List.Pairwise.nil
  | [a], _ => List.pairwise_singleton _ _
  | a :: b :: r, h => by
    simp only [keysOk, Bool.and_eq_true] at h
    have ih := keysOk_rise (ks := b :: r) h.2
    refine List.Pairwise.cons (fun c hc => ?_) ih
    rcases List.mem_cons.1 hc with rfl | hc
    · exact h.1.2
    · exact less_trans h.1.2 ((List.pairwise_cons.1 ih).1 c hc)
theorem keysOk_len {ks : List Str} (h : keysOk ks = true) : ∀ k ∈ ks, k.length ≤ 16384 := by
  induction ks with
  | nil => intro k hk; cases hk
  | cons a r ih =>
    intro k hk
    cases r with
    | nil =>
      simp only [keysOk, decide_eq_true_eq] at h
      rw [List.mem_singleton.1 hk]; exact h
    | cons b r =>
      simp only [keysOk, Bool.and_eq_true, decide_eq_true_eq] at h
      rcases List.mem_cons.1 hk with rfl | hk
      · exact h.1.1
      · exact ih h.2 k hk
theorem rise_lt {ks : List Str} (h : Rise ks) {i j : Nat} {a b : Str} (ha : ks[i]? = some a) (hb : ks[j]? = some b) (hij : i < j) : Op.bytesLess a b = true := by
  obtain ⟨h1, e1⟩ := List.getElem?_eq_some_iff.1 ha
  obtain ⟨h2, e2⟩ := List.getElem?_eq_some_iff.1 hb
  have := List.pairwise_iff_getElem.1 h i j h1 h2 hij
  rw [e1, e2] at this
  exact this
end Go.Eng
namespace Go.Proofs.YtdkikjcpgihjlaaGreatDoor
open Go Go.Eng Go.Num
set_option maxRecDepth 100000
section
variable [HX]
theorem clone_p (v : JV) : ∀ {cs : List Value} {w : World} {K : Value → World → Prop}, fewM v = true → VRep w v cs → (∀ cs' w', Ext w w' → VRepP (From w.heap.size) w' v cs' → K (.agg cs'.toArray) w') → callF Tryz.prog 90 [.agg cs.toArray] w K := by
  induction v using JV.ind' with
  | h v ih =>
    intro cs w K hfew h hK
    rw [fewM_eq, fewL_all] at hfew
    simp only [Bool.and_eq_true, decide_eq_true_eq, List.all_eq_true] at hfew
    obtain ⟨⟨f1, f2⟩, f3⟩ := hfew
    refine W90_ok ?_
    unfold W90
    refine box_val h fun a w1 sv kv hB hx ha => ?_
    refine alloc_new fun b w2 hb hz2 hbb hx2 => ?_
    have hxd : Ext w2 w2.drew := Chg.drew (Chg.refl (fun _ => False) w2)
    have hB2 := hB.ext hx2
    have hBd := hB2.ext hxd
    have hbd := hxd.at hbb id
    have sd : w2.drew.heap.size = w2.heap.size := rfl
    simp only [wsv, wsg, wsh, wsl, cond_true, cond_false, exists_eq_left', Option.some.injEq, Option.isSome_some, List.getElem?_toArray, List.getElem?_cons_zero, List.getElem?_cons_succ, List.length_cons, List.length_nil, List.set_cons_zero, List.set_cons_succ, List.getD_cons_zero, List.getD_cons_succ, Nat.zero_add, Nat.add_zero, Nat.reduceAdd, Nat.reduceLT, Nat.lt_add_one, Nat.zero_lt_succ, decide_true, decide_false, ne_eq, reduceCtorEq, wsh, hB2.hb]
    obtain ⟨T1, k1⟩ := hBd.keys
    refine clone_s k1 (by omega) fun kv' w3 hx3 hk3 hg3 hn3 => ?_
    have hB3 := hBd.ext hx3
    have hb3 := hx3.at hbd id
    have s3 := hx3.size
    simp only [wsv, wsg, wsh, wsl, cond_true, cond_false, exists_eq_left', Option.some.injEq, Option.isSome_some, List.getElem?_toArray, List.getElem?_cons_zero, List.getElem?_cons_succ, List.length_cons, List.length_nil, List.set_cons_zero, List.set_cons_succ, List.getD_cons_zero, List.getD_cons_succ, Nat.zero_add, Nat.add_zero, Nat.reduceAdd, Nat.reduceLT, Nat.lt_add_one, Nat.zero_lt_succ, decide_true, decide_false, ne_eq, reduceCtorEq, wsh, hB3.hb]
    refine clones_p (fun x hx => ih x hx (f3 x hx)) hB3.itemsAt (by omega) fun sv' w4 hx4 hL hg4 hn4 => ?_
    obtain ⟨L, hL1, hL2⟩ := hL
    have hB4 := hB3.ext hx4
    have hb4 := hx4.at hb3 id
    have s1 := hx.size
    have hak := at_lt hB.hb
    have one1 : one1 sv' = true ∧ one1 kv' = true := by
      obtain ⟨p, c, rfl, _⟩ := hL1.shape
      obtain ⟨p', c', rfl, _⟩ := hk3.shape
      exact ⟨rfl, rfl⟩
    refine st_at hB4.hb one1.2 (by simp) fun w5 hz5 ha5 hc5 => ?_
    have ha5 : w5.heap[a]? = some (.cells [i64 v.k, .bool v.b, str v.t, sv, kv'].toArray VT (0, 0)) := by rw [ha5]; simp
    refine st_at ha5 one1.1 (by simp) fun w6 hz6 ha6 hc6 => ?_
    have ha6 : w6.heap[a]? = some (.cells [i64 v.k, .bool v.b, str v.t, sv', kv'].toArray VT (0, 0)) := by rw [ha6]; simp
    refine ld_all ha6 rfl ?_
    have hb6 := hc6.at (hc5.at hb4 (by omega)) (by omega)
    refine ret_agg hb6 rfl rfl (obj_one one1.1 one1.2) fun w7 hc7 => ?_
    have hx1 : Ext w w4 := hx.trans (hx2.trans (hxd.trans (hx3.trans hx4)))
    have hx5 : Ext w w7 := ((hx1.new hc5 (by omega)).new hc6 (by omega)).new hc7 (by omega)
    have hch : Chg (fun k => k = a ∨ k = b) w4 w7 := ((hc5.mono fun k _ e => .inl e).trans (hc6.mono fun k _ e => .inl e)).trans (hc7.mono fun k _ e => .inr e)
    refine hK _ w7 hx5 (VRepP.mk (T1 := VT) (T2 := ST) (L := L) ?_ ?_ ?_ hB.fits (fun _ k hk => ?_) (fun _ k hk => ?_) (nfv_chg hL1 (fun _ => hg4) hch (fun k hk _ e => by have : w3.heap.size ≤ k := hk; omega) fun _ => hn4) (nfv_chg (hk3.ext hx4) (fun _ => hg3) hch (fun k hk _ e => by have : w2.drew.heap.size ≤ k := hk; omega) (nfv_chg hk3 (fun _ => hg3) hx4 (fun _ _ _ e => e) fun _ => hn3)))
    · exact slat_chgG hL1 (fun _ => hg4) hch fun k hk _ e => by have : w3.heap.size ≤ k := hk; omega
    · refine VRepsP.mono (fun k _ hk => ?_) (VRepsP.chg (G := From w3.heap.size) hch (fun k hk _ e => by have : w3.heap.size ≤ k := hk; omega) hL2)
      have : w3.heap.size ≤ k := hk
      show w.heap.size ≤ k
      omega
    · exact slat_chgG (hk3.ext hx4) (fun _ => hg3) hch fun k hk _ e => by have : w2.drew.heap.size ≤ k := hk; omega
    · have : w3.heap.size ≤ k := hg4 k hk
      show w.heap.size ≤ k
      omega
    · have : w2.drew.heap.size ≤ k := hg3 k hk
      show w.heap.size ≤ k
      omega
theorem search_p {kv : Value} {T : TypeId} {ks : List Str} {k : Str} {w : World} {K : Value → World → Prop} (h : SlAt w T kv ks.length (ks.map str)) (hl : ks.length ≤ 100000) (hr : Rise ks)
    (hK : ∀ i : Nat, (idxK ks k = none ∨ idxK ks k = some i) → (∀ j a, j < i → ks[j]? = some a → Op.bytesLess a k = true) → (∀ j a, i ≤ j → ks[j]? = some a → Op.bytesLess a k = false) → i ≤ ks.length → K (.tuple #[i64 (i : Nat), .bool (idxK ks k).isSome]) w) :
    callF Tryz.prog 133 [kv, str k] w K := by
  refine W133_ok ?_
  unfold W133
  rw [lenl_at h]
  refine ⟨fun s w' => ∃ lo hi : Nat, lo ≤ hi ∧ hi ≤ ks.length ∧ s = [i64 (lo : Nat), i64 (hi : Nat)] ∧ w' = w ∧ (∀ j a, j < lo → ks[j]? = some a → Op.bytesLess a k = true) ∧ (∀ j a, hi ≤ j → ks[j]? = some a → Op.bytesLess a k = false),
    fun s _ => match s with | [.int _ lo, .int _ hi] => hi.toNat - lo.toNat | _ => 0, ⟨0, ks.length, by omega, by omega, rfl, rfl, fun j a h => by omega, fun j a hj ha => by have := (List.getElem?_eq_some_iff.1 ha).1; omega⟩, ?_⟩
  rintro s g w2 ⟨lo, hi, hle, hhi, rfl, rfl, h1, h2⟩
  rcases Nat.lt_or_ge lo hi with hlt | hge
  · have hltI : (lo : Int) < (hi : Int) := by omega
    have e1 : IntKind.i64.wrap ((lo : Int) + (hi : Int)) = ((lo + hi : Nat) : Int) := by rw [wrap_id (by omega) (by omega)]; omega
    have e2 : IntKind.u64.wrap ((lo + hi : Nat) : Int) = ((lo + hi : Nat) : Int) := u64_wrap (by omega) (by omega)
    have e3 : (((lo + hi : Nat) : Int).fdiv (2 ^ min (1 : Int).toNat IntKind.u64.bits)) = (((lo + hi) / 2 : Nat) : Int) := by
      have : (2 : Int) ^ min (1 : Int).toNat IntKind.u64.bits = 2 := by decide
      rw [this, Int.fdiv_eq_ediv_of_nonneg _ (by omega)]; omega
    have e4 : IntKind.i64.wrap (((lo + hi) / 2 : Nat) : Int) = (((lo + hi) / 2 : Nat) : Int) := wrap_id (by omega) (by omega)
    generalize hm : (lo + hi) / 2 = m at *
    obtain ⟨u, hu⟩ : ∃ u, ks[m]? = some u := ⟨_, List.getElem?_eq_getElem (by omega)⟩
    have h01 : (0 : Int) ≤ 1 := by decide
    simp only [wsv, wsg, wsh, wsl, cond_true, cond_false, exists_eq_left', Option.some.injEq, Option.isSome_some, List.getElem?_toArray, List.getElem?_cons_zero, List.getElem?_cons_succ, List.length_cons, List.length_nil, List.set_cons_zero, List.set_cons_succ, List.getD_cons_zero, List.getD_cons_succ, Nat.zero_add, Nat.add_zero, Nat.reduceAdd, Nat.reduceLT, Nat.lt_add_one, Nat.zero_lt_succ, decide_true, decide_false, ne_eq, reduceCtorEq, hltI, e1, e2, bin_shr, h01, e3, e4]
    refine text_ld h hu ?_
    refine cmp_less ?_
    rw [condW_b]
    refine ⟨fun hl => ?_, fun hn => ?_⟩
    · rw [up1 (by omega)]
      refine ⟨⟨m + 1, hi, by omega, hhi, rfl, rfl, fun j a hj ha => ?_, h2⟩, by simp only [Int.toNat_natCast]; omega⟩
      rcases Nat.lt_or_ge j m with hj2 | hj2
      · exact less_trans (rise_lt hr ha hu hj2) hl
      · obtain rfl : j = m := by omega
        rw [hu] at ha; cases ha; exact hl
    · refine ⟨⟨lo, m, by omega, by omega, rfl, rfl, h1, fun j a hj ha => ?_⟩, by simp only [Int.toNat_natCast]; omega⟩
      rcases Nat.lt_or_ge m j with hj2 | hj2
      · cases hb : Op.bytesLess a k with
        | false => rfl
        | true => have := less_trans (rise_lt hr hu ha hj2) hb; rw [hn] at this; cases this
      · obtain rfl : j = m := by omega
        rw [hu] at ha; cases ha; exact hn
  · obtain rfl : lo = hi := by omega
    have hi0 : idxK ks k = none ∨ idxK ks k = some lo := by
      cases hx : idxK ks k with
      | none => exact .inl rfl
      | some j =>
        right
        have hj := idxK_spec hx
        rcases Nat.lt_trichotomy j lo with h | h | h
        · have := h1 j k h hj; rw [less_irr] at this; cases this
        · rw [h]
        · obtain ⟨u, hu⟩ : ∃ u, ks[lo]? = some u := ⟨_, List.getElem?_eq_getElem (by have := (List.getElem?_eq_some_iff.1 hj).1; omega)⟩
          have a1 := h2 lo u (Nat.le_refl _) hu
          have a2 := rise_lt hr hu hj h
          rw [a1] at a2; cases a2
    have hK := hK lo hi0 h1 h2 hhi
    simp only [wsv, wsg, wsh, wsl, cond_true, cond_false, exists_eq_left', Option.some.injEq, Option.isSome_some, List.getElem?_toArray, List.getElem?_cons_zero, List.getElem?_cons_succ, List.length_cons, List.length_nil, List.set_cons_zero, List.set_cons_succ, List.getD_cons_zero, List.getD_cons_succ, Nat.zero_add, Nat.add_zero, Nat.reduceAdd, Nat.reduceLT, Nat.lt_add_one, Nat.zero_lt_succ, decide_true, decide_false, ne_eq, reduceCtorEq, Int.lt_irrefl]
    rcases Nat.lt_or_ge lo ks.length with hlt | hge2
    · obtain ⟨u, hu⟩ : ∃ u, ks[lo]? = some u := ⟨_, List.getElem?_eq_getElem hlt⟩
      have ed : decide ((lo : Int) < (ks.length : Int)) = true := decide_eq_true (by omega)
      have hsome : (idxK ks k).isSome = decide (u = k) := by
        by_cases e : u = k
        · subst e
          have hm : u ∈ ks := List.mem_of_getElem? hu
          rw [decide_eq_true rfl]
          cases hx : idxK ks u with
          | none => exact absurd hm (idxK_none.1 hx)
          | some _ => rfl
        · rw [decide_eq_false e]
          rcases hi0 with h | h
          · rw [h]; rfl
          · have := idxK_spec h; rw [hu] at this; exact absurd (Option.some.inj this) e
      rw [hsome] at hK
      simp only [wsv, wsg, wsh, wsl, cond_true, cond_false, exists_eq_left', Option.some.injEq, Option.isSome_some, List.getElem?_toArray, List.getElem?_cons_zero, List.getElem?_cons_succ, List.length_cons, List.length_nil, List.set_cons_zero, List.set_cons_succ, List.getD_cons_zero, List.getD_cons_succ, Nat.zero_add, Nat.add_zero, Nat.reduceAdd, Nat.reduceLT, Nat.lt_add_one, Nat.zero_lt_succ, decide_true, decide_false, ne_eq, reduceCtorEq, ed]
      refine GdW.t ?_
      refine text_ld h hu ?_
      intro gg
      simp only [ofL_data]
      simp only [wsv, wsg, wsh, wsl, cond_true, cond_false, exists_eq_left', Option.some.injEq, Option.isSome_some, List.getElem?_toArray, List.getElem?_cons_zero, List.getElem?_cons_succ, List.length_cons, List.length_nil, List.set_cons_zero, List.set_cons_succ, List.getD_cons_zero, List.getD_cons_succ, Nat.zero_add, Nat.add_zero, Nat.reduceAdd, Nat.reduceLT, Nat.lt_add_one, Nat.zero_lt_succ, decide_true, decide_false, ne_eq, reduceCtorEq]
      by_cases e : u = k
      · rw [decide_eq_true e] at hK ⊢
        (try simp only [wsv, wsg, wsh, wsl, cond_true, cond_false, exists_eq_left', Option.some.injEq, Option.isSome_some, List.getElem?_toArray, List.getElem?_cons_zero, List.getElem?_cons_succ, List.length_cons, List.length_nil, List.set_cons_zero, List.set_cons_succ, List.getD_cons_zero, List.getD_cons_succ, Nat.zero_add, Nat.add_zero, Nat.reduceAdd, Nat.reduceLT, Nat.lt_add_one, Nat.zero_lt_succ, decide_true, decide_false, ne_eq, reduceCtorEq])
        intros
        exact hK
      · rw [decide_eq_false e] at hK ⊢
        (try simp only [wsv, wsg, wsh, wsl, cond_true, cond_false, exists_eq_left', Option.some.injEq, Option.isSome_some, List.getElem?_toArray, List.getElem?_cons_zero, List.getElem?_cons_succ, List.length_cons, List.length_nil, List.set_cons_zero, List.set_cons_succ, List.getD_cons_zero, List.getD_cons_succ, Nat.zero_add, Nat.add_zero, Nat.reduceAdd, Nat.reduceLT, Nat.lt_add_one, Nat.zero_lt_succ, decide_true, decide_false, ne_eq, reduceCtorEq])
        refine GdW.t ?_
        refine text_ld h hu ?_
        refine isnan_s2 ?_
        intro gg
        (try simp only [wsv, wsg, wsh, wsl, cond_true, cond_false, exists_eq_left', Option.some.injEq, Option.isSome_some, List.getElem?_toArray, List.getElem?_cons_zero, List.getElem?_cons_succ, List.length_cons, List.length_nil, List.set_cons_zero, List.set_cons_succ, List.getD_cons_zero, List.getD_cons_succ, Nat.zero_add, Nat.add_zero, Nat.reduceAdd, Nat.reduceLT, Nat.lt_add_one, Nat.zero_lt_succ, decide_true, decide_false, ne_eq, reduceCtorEq])
        intros
        exact hK
    · have hsome : idxK ks k = none := by
        rcases hi0 with h | h
        · exact h
        · have := (List.getElem?_eq_some_iff.1 (idxK_spec h)).1; omega
      rw [hsome] at hK
      have ed : decide ((lo : Int) < (ks.length : Int)) = false := decide_eq_false (by omega)
      simp only [wsv, wsg, wsh, wsl, cond_true, cond_false, exists_eq_left', Option.some.injEq, Option.isSome_some, List.getElem?_toArray, List.getElem?_cons_zero, List.getElem?_cons_succ, List.length_cons, List.length_nil, List.set_cons_zero, List.set_cons_succ, List.getD_cons_zero, List.getD_cons_succ, Nat.zero_add, Nat.add_zero, Nat.reduceAdd, Nat.reduceLT, Nat.lt_add_one, Nat.zero_lt_succ, decide_true, decide_false, ne_eq, reduceCtorEq, ed]
      intros
      exact hK
end
end Go.Proofs.YtdkikjcpgihjlaaGreatDoor

