/- One plain sentence: weakest preconditions, contracts and plain laws that the claim rests on, text behind text. Conditions: those that each states. -/
import Derived.Test.YtcnjpcadejcenaaGreatDoorMS1
import Derived.Shelf.Strings.Builder1
import Derived.Shelf.Small.Utf8
import Derived.Shelf.Small.Strs
import Derived.Shelf.Small.Wraps
import Derived.Shelf.Strings.BuilderF
import Derived.Shelf.Strings.BuilderK
import Derived.Shelf.Strings.BuilderRune
import Derived.Shelf.Strconv.Itoa0
import Derived.Shelf.Strconv.Itoa1
import Derived.Shelf.LaysM
import Derived.Shelf.Strconv.Itoa2
import Derived.Shelf.Strconv.Itoa3
import Derived.Shelf.Strconv.Itoa4
import Derived.Shelf.Strconv.Clone
import Derived.Ground.MpProg
import Derived.Shelf.Pu.ParseUintPublic10
import Derived.Shelf.Strings.Search1
import Derived.Shelf.Strings.Search2
import Derived.Shelf.Strings.Search3
import Derived.Shelf.Strings.Cut
import Derived.Shelf.Strings.Count
import Derived.Shelf.Strings.Shaped
import Derived.Shelf.Sort.Plain
import Derived.Shelf.Strings.LastIndex
import Derived.Shelf.Strings.Prefix
import Derived.Shelf.Strings.Runes
import Derived.Shelf.Strings.IndexAny
import Derived.Shelf.Strings.AsciiSet
import Derived.Shelf.Strings.IndexAnyAll
import Derived.Shelf.Unicode.DecodeSlow
import Derived.Shelf.Unicode.DecodeAny
import Derived.Ground.Names2Prog
import Derived.Shelf.Slices.Clone
import Derived.Shelf.Slices.CompactS
import Derived.Shelf.Unicode.ValidAny
import Derived.Test.YtcnjpcadejcenaaGreatDoorProg
import Derived.Lib.ConvBytes
import Derived.Lib.ParseIntBCases
import Derived.Lib.Builder
import Derived.ProofKit
import Derived.WalkKit
import Derived.Lib.AppendStr
import Derived.Lib.RuneBytes
import Derived.Lib.DecodeN
set_option linter.all false
set_option linter.unusedSimpArgs false
set_option linter.unusedVariables false
set_option linter.unusedSectionVars false
namespace Go.Proofs.YtcnjpcadejcenaaGreatDoor
open Go Go.Eng Go.Num
set_option maxRecDepth 100000
section
variable [HX]
theorem isDig_out (c : UInt8) : (decide (((c.toNat : Nat) : Int) < 48) || decide ((57 : Int) < ((c.toNat : Nat) : Int))) = !Num.isDig c := by
  unfold Num.isDig
  rcases Nat.lt_or_ge c.toNat 48 with h | h
  · rw [decide_eq_true (by omega), decide_eq_false (show ¬ 48 ≤ c.toNat by omega)]; rfl
  · rw [decide_eq_false (show ¬ ((c.toNat : Nat) : Int) < 48 by omega), decide_eq_true (show 48 ≤ c.toNat by omega)]
    rcases Nat.lt_or_ge 57 c.toNat with h2 | h2
    · rw [decide_eq_true (by omega), decide_eq_false (show ¬ c.toNat ≤ 57 by omega)]; rfl
    · rw [decide_eq_false (by omega), decide_eq_true (show c.toNat ≤ 57 by omega)]; rfl
theorem u8_is (c : UInt8) (m : Int) (d : UInt8) (hm : m = (d.toNat : Nat)) : decide (((c.toNat : Nat) : Int) = m) = (c == d) := by
  rw [Bool.eq_iff_iff, decide_eq_true_eq, beq_iff_eq, hm]
  constructor
  · intro h; exact UInt8.toNat_inj.1 (by omega)
  · intro h; rw [h]
theorem goodN_def (a : Str) : goodN a = (!decide ((dig a).length = 0) && !decide (100 < (dig a).length) && !((dig a).head? == some 48 && (decide (1 < (dig a).length) || decide (1 < a.length))) && (dig a).all Num.isDig) := by
  unfold goodN
  have key : (dig a).head? = some 48 → (decide (a = [48]) = !(decide (1 < (dig a).length) || decide (1 < a.length))) := by
    intro h
    have h1 : a = [48] ↔ ¬ (1 < (dig a).length ∨ 1 < a.length) := by
      cases a with
      | nil => simp [dig] at h
      | cons c r =>
        by_cases hc : c = 45
        · have e : dig (c :: r) = r := by simp [dig, hc]
          rw [e] at h ⊢
          cases r with
          | nil => simp at h
          | cons e r => simp
        · have e : dig (c :: r) = c :: r := by simp [dig, hc]
          rw [e] at h ⊢
          simp only [List.head?_cons, Option.some.injEq] at h
          subst h
          cases r <;> simp
    rw [← Bool.decide_or, ← decide_not]
    exact decide_eq_decide.2 h1
  have e1 : decide (1 ≤ (dig a).length) = !decide ((dig a).length = 0) := by rw [← decide_not]; exact decide_eq_decide.2 (by omega)
  have e2 : decide ((dig a).length ≤ 100) = !decide (100 < (dig a).length) := by rw [← decide_not]; exact decide_eq_decide.2 (by omega)
  rw [e1, e2]
  cases hh : ((dig a).head? == some 48) with
  | false => simp
  | true => rw [key (by simpa using hh)]; simp
theorem good01_ref {a : Str} {w : World} {K : Value → World → Prop} (ha : a.length ≤ 9223372036854775807) (hK : ∀ w', Ext w w' → K (.bool (goodN a)) w') : callF Tryz.prog 122 [str a] w K := by
  refine W122_ok ?_
  unfold W122
  refine JoinW.cut (fun s w' => s = [str (dig a)] ∧ w' = w) ?_ ?_
  · cases a with
    | nil =>
      have h0 : ¬ (0 : Int) < ((0 : Nat) : Int) := by simp
      simp only [wsv, wsg, wsh, wsl, cond_true, cond_false, exists_eq_left', Option.some.injEq, Option.isSome_some, List.getElem?_toArray, List.getElem?_cons_zero, List.getElem?_cons_succ, List.length_cons, List.length_nil, List.set_cons_zero, List.set_cons_succ, List.getD_cons_zero, List.getD_cons_succ, Nat.zero_add, Nat.add_zero, Nat.reduceAdd, Nat.reduceLT, Nat.lt_add_one, Nat.zero_lt_succ, decide_true, decide_false, ne_eq, reduceCtorEq, h0]
      intros
      (try simp only [wsv, wsg, wsh, wsl, cond_true, cond_false, exists_eq_left', Option.some.injEq, Option.isSome_some, List.getElem?_toArray, List.getElem?_cons_zero, List.getElem?_cons_succ, List.length_cons, List.length_nil, List.set_cons_zero, List.set_cons_succ, List.getD_cons_zero, List.getD_cons_succ, Nat.zero_add, Nat.add_zero, Nat.reduceAdd, Nat.reduceLT, Nat.lt_add_one, Nat.zero_lt_succ, decide_true, decide_false, ne_eq, reduceCtorEq])
      first | exact ⟨rfl, rfl⟩ | rfl
    | cons c r =>
      have h0 : (0 : Int) < ((r.length + 1 : Nat) : Int) := by omega
      simp only [wsv, wsg, wsh, wsl, cond_true, cond_false, exists_eq_left', Option.some.injEq, Option.isSome_some, List.getElem?_toArray, List.getElem?_cons_zero, List.getElem?_cons_succ, List.length_cons, List.length_nil, List.set_cons_zero, List.set_cons_succ, List.getD_cons_zero, List.getD_cons_succ, Nat.zero_add, Nat.add_zero, Nat.reduceAdd, Nat.reduceLT, Nat.lt_add_one, Nat.zero_lt_succ, decide_true, decide_false, ne_eq, reduceCtorEq, h0, Int.le_refl, Int.toNat_zero]
      intro _
      rw [u8_is c 45 45 rfl]
      simp only [wsv, wsg, wsh, wsl, cond_true, cond_false, exists_eq_left', Option.some.injEq, Option.isSome_some, List.getElem?_toArray, List.getElem?_cons_zero, List.getElem?_cons_succ, List.length_cons, List.length_nil, List.set_cons_zero, List.set_cons_succ, List.getD_cons_zero, List.getD_cons_succ, Nat.zero_add, Nat.add_zero, Nat.reduceAdd, Nat.reduceLT, Nat.lt_add_one, Nat.zero_lt_succ, decide_true, decide_false, ne_eq, reduceCtorEq, condW_b]
      refine ⟨fun h => ?_, fun h => ?_⟩
      · have e : dig (c :: r) = r := by simp [dig, (beq_iff_eq.1 h)]
        rw [e, show (1 : Int).toNat = 1 from rfl, ← List.length_cons (a := c), List.take_length]
        exact ⟨by omega, by simp only [List.length_cons]; omega, rfl⟩
      · have : c ≠ 45 := by simpa using h
        have e : dig (c :: r) = c :: r := by simp [dig, this]
        rw [e]
  · rintro s g w' ⟨rfl, rfl⟩
    have hdl : (dig a).length ≤ a.length := by
      cases a with
      | nil => simp [dig]
      | cons c r => simp only [dig]; split <;> simp
    rw [goodN_def] at hK
    cases hd : dig a with
    | nil =>
      rw [hd] at hK
      have hz : decide (((0 : Nat) : Int) = 0) = true := by decide
      simp only [wsv, wsg, wsh, wsl, cond_true, cond_false, exists_eq_left', Option.some.injEq, Option.isSome_some, List.getElem?_toArray, List.getElem?_cons_zero, List.getElem?_cons_succ, List.length_cons, List.length_nil, List.set_cons_zero, List.set_cons_succ, List.getD_cons_zero, List.getD_cons_succ, Nat.zero_add, Nat.add_zero, Nat.reduceAdd, Nat.reduceLT, Nat.lt_add_one, Nat.zero_lt_succ, decide_true, decide_false, ne_eq, reduceCtorEq, hz]
      intros
      exact hK _ (Chg.refl _ _)
    | cons c r =>
      rw [hd] at hK hdl
      have hz : decide (((r.length + 1 : Nat) : Int) = 0) = false := decide_eq_false (by omega)
      simp only [wsv, wsg, wsh, wsl, cond_true, cond_false, exists_eq_left', Option.some.injEq, Option.isSome_some, List.getElem?_toArray, List.getElem?_cons_zero, List.getElem?_cons_succ, List.length_cons, List.length_nil, List.set_cons_zero, List.set_cons_succ, List.getD_cons_zero, List.getD_cons_succ, Nat.zero_add, Nat.add_zero, Nat.reduceAdd, Nat.reduceLT, Nat.lt_add_one, Nat.zero_lt_succ, decide_true, decide_false, ne_eq, reduceCtorEq, Int.le_refl, Int.toNat_zero, u8_is c 48 48 rfl, hz, condW_b]
      intros
      have e1 : decide ((100 : Int) < ((r.length + 1 : Nat) : Int)) = decide (100 < (c :: r).length) := decide_eq_decide.2 (by simp only [List.length_cons]; omega)
      have e2 : decide ((1 : Int) < ((r.length + 1 : Nat) : Int)) = decide (1 < (c :: r).length) := decide_eq_decide.2 (by simp only [List.length_cons]; omega)
      have e3 : decide ((1 : Int) < (a.length : Int)) = decide (1 < a.length) := decide_eq_decide.2 (by omega)
      rw [e1, e2, e3]
      have e4 : decide ((c :: r).length = 0) = false := decide_eq_false (by simp)
      have e5 : ((c :: r).head? == some 48) = (c == 48) := by simp
      rw [e4, e5] at hK
      generalize decide (100 < (c :: r).length) = b1 at *
      generalize ((c == 48) && (decide (1 < (c :: r).length) || decide (1 < a.length))) = b2 at *
      refine ⟨fun h => ?_, fun h => ?_⟩
      · have := hK _ (Chg.refl _ _)
        have e : (!false && !b1 && !b2 && (c :: r).all Num.isDig) = false := by
          cases b1 <;> cases b2 <;> simp at h ⊢
        rw [e] at this
        exact this
      · have hb : b1 = false ∧ b2 = false := by simpa using h
        rw [hb.1, hb.2] at hK
        have hn : ((r.length + 1 : Nat) : Int) = (((c :: r).length : Nat) : Int) := by simp
        rw [hn]
        generalize c :: r = D at *
        refine loop_up D.length (fun i w2 => Ext w' w2 ∧ (D.take i).all Num.isDig = true) ⟨Chg.refl _ _, rfl⟩ ?_ ?_
        · rintro i w2 g L hi ⟨hx2, hall⟩ hL
          obtain ⟨e, he⟩ : ∃ e, D[i]? = some e := ⟨_, List.getElem?_eq_getElem hi⟩
          have hlt : ((i : Int) < ((D.length : Nat) : Int)) := by omega
          simp only [wsv, wsg, wsh, wsl, cond_true, cond_false, exists_eq_left', Option.some.injEq, Option.isSome_some, List.getElem?_toArray, List.getElem?_cons_zero, List.getElem?_cons_succ, List.length_cons, List.length_nil, List.set_cons_zero, List.set_cons_succ, List.getD_cons_zero, List.getD_cons_succ, Nat.zero_add, Nat.add_zero, Nat.reduceAdd, Nat.reduceLT, Nat.lt_add_one, Nat.zero_lt_succ, decide_true, decide_false, ne_eq, reduceCtorEq, hlt, Int.toNat_natCast, Int.natCast_nonneg, he, isDig_out]
          intros
          rw [condW_b]
          refine ⟨fun hf => ?_, fun ht => ?_⟩
          · have hf : Num.isDig e = false := by simpa using hf
            have := hK _ hx2
            rw [all_no he hf] at this
            exact this
          · have ht : Num.isDig e = true := by simpa using ht
            rw [up1 (by omega)]
            exact hL _ ⟨hx2, by rw [all_take he, hall, ht]; rfl⟩
        · rintro w2 g L ⟨hx2, hall⟩
          simp only [wsv, wsg, wsh, wsl, cond_true, cond_false, exists_eq_left', Option.some.injEq, Option.isSome_some, List.getElem?_toArray, List.getElem?_cons_zero, List.getElem?_cons_succ, List.length_cons, List.length_nil, List.set_cons_zero, List.set_cons_succ, List.getD_cons_zero, List.getD_cons_succ, Nat.zero_add, Nat.add_zero, Nat.reduceAdd, Nat.reduceLT, Nat.lt_add_one, Nat.zero_lt_succ, decide_true, decide_false, ne_eq, reduceCtorEq, Int.lt_irrefl]
          rw [List.take_length] at hall
          have := hK w2 hx2
          rw [hall] at this
          exact this
theorem keysOk_two {ks : List Str} {i : Nat} {a b : Str} (ha : ks[i]? = some a) (hb : ks[i + 1]? = some b) (h : Op.bytesLess a b = false) : keysOk ks = false := by
  induction ks generalizing i with
  | nil => simp at ha
  | cons x r ih =>
    cases r with
    | nil => simp at hb
    | cons y r =>
      cases i with
      | zero => simp only [List.getElem?_cons_zero, Option.some.injEq, Nat.zero_add, List.getElem?_cons_succ] at ha hb; subst ha hb; simp [keysOk, h]
      | succ i =>
        simp only [List.getElem?_cons_succ] at ha hb
        rw [keysOk, ih (by simpa using ha) (by simpa using hb)]; simp
theorem keysOk_long {ks : List Str} {i : Nat} {a : Str} (ha : ks[i]? = some a) (h : 16384 < a.length) : keysOk ks = false := by
  induction ks generalizing i with
  | nil => simp at ha
  | cons x r ih =>
    cases i with
    | zero =>
      simp only [List.getElem?_cons_zero, Option.some.injEq] at ha
      subst ha
      cases r with
      | nil => simp only [keysOk, decide_eq_false_iff_not]; omega
      | cons y r => rw [keysOk, decide_eq_false (by omega)]; rfl
    | succ i =>
      simp only [List.getElem?_cons_succ] at ha
      cases r with
      | nil => simp at ha
      | cons y r => rw [keysOk, ih ha]; simp
theorem keysOk_mk {ks : List Str} (h1 : ∀ (i : Nat) (a : Str), ks[i]? = some a → a.length ≤ 16384) (h2 : ∀ (i : Nat) (a b : Str), ks[i]? = some a → ks[i + 1]? = some b → Op.bytesLess a b = true) : keysOk ks = true := by
  induction ks with
  | nil => rfl
  | cons x r ih =>
    have := ih (fun i a h => h1 (i + 1) a (by rw [List.getElem?_cons_succ]; exact h)) (fun i a b ha hb => h2 (i + 1) a b (by rw [List.getElem?_cons_succ]; exact ha) (by rw [List.getElem?_cons_succ]; exact hb))
    cases r with
    | nil => simp only [keysOk, decide_eq_true_eq]; exact h1 0 x rfl
    | cons y r => rw [keysOk, this, h2 0 x y rfl rfl, decide_eq_true (h1 0 x rfl)]; rfl
theorem plain_ref (v : JV) : ∀ {cs : List Value} {w : World} {K : Value → World → Prop}, VRep w v cs → (∀ w', Ext w w' → K (.bool (plainM v)) w') → callF Tryz.prog 61 [.agg cs.toArray] w K := by
  induction v using JV.ind' with
  | h v ih =>
    intro cs w K h hK
    refine W61_ok ?_
    unfold W61
    refine box_val h fun a w1 sv kv hB hx _ => ?_
    rw [plainM_eq] at hK
    simp only [wsv, wsg, wsh, wsl, cond_true, cond_false, exists_eq_left', Option.some.injEq, Option.isSome_some, List.getElem?_toArray, List.getElem?_cons_zero, List.getElem?_cons_succ, List.length_cons, List.length_nil, List.set_cons_zero, List.set_cons_succ, List.getD_cons_zero, List.getD_cons_succ, Nat.zero_add, Nat.add_zero, Nat.reduceAdd, Nat.reduceLT, Nat.lt_add_one, Nat.zero_lt_succ, decide_true, decide_false, ne_eq, reduceCtorEq, wsh, hB.hb, hB.lenx, hB.lenk]
    intros
    rw [condW_b]
    refine ⟨fun hbad => ?_, fun hok => ?_⟩
    · have := hK w1 hx
      have e : headOk v.k v.b v.t v.xs.length v.ks = false := by
        cases he : headOk v.k v.b v.t v.xs.length v.ks with
        | false => rfl
        | true =>
          obtain ⟨a1, a2, a3, a4, a5, a6, _⟩ := headOk_out he
          exfalso
          simp only [Bool.or_eq_true, Bool.and_eq_true, decide_eq_true_eq] at hbad
          rcases hbad with ((((h1 | h1) | ⟨h1, h2⟩) | ⟨⟨h1, h2⟩, h3⟩) | ⟨h1, h2⟩) | ⟨h1, h2⟩
          · omega
          · omega
          · exact h2 (a3 h1)
          · rcases a4 h1 with h | h
            · exact h2 h
            · exact h3 h
          · have := a5 (by omega); omega
          · exact h1 (a6 fun e => by rw [e] at h2; simp at h2)
      rw [e] at this
      exact this
    · refine GdW.act (!goodN v.t) (fun w' => Ext w1 w') (fun _ => Chg.refl _ _) ?_ ?_
      · intro hc J hJ
        refine good01_ref hB.fits.2.2.1 fun w2 hx2 => ?_
        simp only [wsv, wsg, wsh, wsl, cond_true, cond_false, exists_eq_left', Option.some.injEq, Option.isSome_some, List.getElem?_toArray, List.getElem?_cons_zero, List.getElem?_cons_succ, List.length_cons, List.length_nil, List.set_cons_zero, List.set_cons_succ, List.getD_cons_zero, List.getD_cons_succ, Nat.zero_add, Nat.add_zero, Nat.reduceAdd, Nat.reduceLT, Nat.lt_add_one, Nat.zero_lt_succ, decide_true, decide_false, ne_eq, reduceCtorEq]
        exact hJ w2 hx2
      · intro g w2 hx2
        have hB := hB.ext hx2
        have hx := hx.trans hx2
        clear hx2
        simp only [wsv, wsg, wsh, wsl, cond_true, cond_false, exists_eq_left', Option.some.injEq, Option.isSome_some, List.getElem?_toArray, List.getElem?_cons_zero, List.getElem?_cons_succ, List.length_cons, List.length_nil, List.set_cons_zero, List.set_cons_succ, List.getD_cons_zero, List.getD_cons_succ, Nat.zero_add, Nat.add_zero, Nat.reduceAdd, Nat.reduceLT, Nat.lt_add_one, Nat.zero_lt_succ, decide_true, decide_false, ne_eq, reduceCtorEq, wsh, hB.hb, hB.lenx, hB.lenk]
        intros
        rw [condW_b]
        have hhead : headOk v.k v.b v.t v.xs.length v.ks = (!(decide (v.k = 3) && !goodN v.t || decide (v.k = 4) && decide (16384 < v.t.length) || decide (v.k = 6) && !decide (v.ks.length = v.xs.length)) && keysOk v.ks) := by
          simp only [Bool.or_eq_false_iff, Bool.and_eq_false_iff, decide_eq_false_iff_not] at hok
          obtain ⟨⟨⟨⟨⟨h1, h2⟩, h3⟩, h4⟩, h5⟩, h6⟩ := hok
          unfold headOk
          have a1 : decide (0 ≤ v.k) = true := decide_eq_true (by omega)
          have a2 : decide (v.k ≤ 6) = true := decide_eq_true (by omega)
          have a3 : (!v.b || decide (v.k = 2)) = true := by
            rcases h3 with h3 | h3
            · rw [h3]; rfl
            · rw [decide_eq_true (Decidable.not_not.1 h3)]; simp
          have a4 : (decide (v.t = []) || decide (v.k = 3) || decide (v.k = 4)) = true := by
            simp only [Bool.or_eq_true, decide_eq_true_eq]
            rcases h4 with (h4 | h4) | h4
            · exact .inl (.inl (Decidable.not_not.1 h4))
            · exact .inl (.inr (Decidable.not_not.1 h4))
            · exact .inr (Decidable.not_not.1 h4)
          have a5 : (decide (v.xs.length = 0) || decide (5 ≤ v.k)) = true := by
            simp only [Bool.or_eq_true, decide_eq_true_eq]; omega
          have a6 : (decide (v.k = 6) || decide (v.ks = [])) = true := by
            simp only [Bool.or_eq_true, decide_eq_true_eq]
            rcases h6 with h6 | h6
            · exact .inl (Decidable.not_not.1 h6)
            · exact .inr (List.eq_nil_of_length_eq_zero (by omega))
          rw [a1, a2, a3, a4, a5, a6]
          have a8 : decide (v.t.length ≤ 16384) = !decide (16384 < v.t.length) := by rw [← decide_not]; exact decide_eq_decide.2 (by omega)
          rw [a8]
          cases decide (v.k = 3) <;> cases goodN v.t <;> cases decide (v.k = 4) <;> cases decide (16384 < v.t.length) <;> cases decide (v.k = 6) <;> cases decide (v.ks.length = v.xs.length) <;> rfl
        rw [hhead] at hK
        have e1 : decide ((16384 : Int) < (v.t.length : Int)) = decide (16384 < v.t.length) := decide_eq_decide.2 (by omega)
        have e2 : decide (¬ (v.ks.length : Int) = (v.xs.length : Int)) = !decide (v.ks.length = v.xs.length) := by rw [← decide_not]; exact decide_eq_decide.2 (by omega)
        rw [e1, e2]
        generalize (decide (v.k = 3) && !goodN v.t || decide (v.k = 4) && decide (16384 < v.t.length) || decide (v.k = 6) && !decide (v.ks.length = v.xs.length)) = bb at *
        refine ⟨fun hb => ?_, fun hb => ?_⟩
        · have := hK w2 hx
          rw [hb] at this
          exact this
        · rw [hb] at hK
          refine loop_up v.ks.length (fun i w' => Ext w2 w' ∧ (∀ (j : Nat) (a : Str), j < i → v.ks[j]? = some a → a.length ≤ 16384) ∧ (∀ (j : Nat) (a b : Str), j + 1 < i → v.ks[j]? = some a → v.ks[j + 1]? = some b → Op.bytesLess a b = true)) ⟨Chg.refl _ _, (fun j a h => by omega), fun j a b h => by omega⟩ ?_ ?_
          · rintro i w3 g L hi ⟨hx3, hl, hs⟩ hL
            have hxd := hx3.trans (Chg.drew (Chg.refl (fun _ => False) w3))
            have hB := hB.ext hx3
            have hBd : ValB w3.drew a v sv kv := hB.ext (Chg.drew (Chg.refl (fun _ => False) w3))
            obtain ⟨u, hu⟩ : ∃ u, v.ks[i]? = some u := ⟨_, List.getElem?_eq_getElem hi⟩
            have hlt : ((i : Int) < (v.ks.length : Int)) := by omega
            simp only [wsv, wsg, wsh, wsl, cond_true, cond_false, exists_eq_left', Option.some.injEq, Option.isSome_some, List.getElem?_toArray, List.getElem?_cons_zero, List.getElem?_cons_succ, List.length_cons, List.length_nil, List.set_cons_zero, List.set_cons_succ, List.getD_cons_zero, List.getD_cons_succ, Nat.zero_add, Nat.add_zero, Nat.reduceAdd, Nat.reduceLT, Nat.lt_add_one, Nat.zero_lt_succ, decide_true, decide_false, ne_eq, reduceCtorEq, wsh, hB.hb, hlt]
            refine hBd.key hu ?_
            have hfin : keysOk v.ks = false → K (.bool false) w3.drew := fun hf => by
              have := hK _ (hx.trans hxd)
              rw [hf] at this
              exact this
            have hnext : u.length ≤ 16384 → (∀ x, 0 < i → v.ks[i - 1]? = some x → Op.bytesLess x u = true) → L [i64 ((i + 1 : Nat) : Int)] w3.drew := fun h1 h2 => by
              refine hL _ ⟨hxd, fun j a hj ha => ?_, fun j a b hj ha hb => ?_⟩
              · rcases Nat.lt_or_ge j i with h | h
                · exact hl j a h ha
                · obtain rfl : j = i := by omega
                  rw [hu] at ha; cases ha; exact h1
              · rcases Nat.lt_or_ge (j + 1) i with h | h
                · exact hs j a b h ha hb
                · obtain rfl : i = j + 1 := by omega
                  rw [hu] at hb; cases hb
                  exact h2 a (by omega) (by simpa using ha)
            by_cases hlong : 16384 < u.length
            · have e : decide ((16384 : Int) < (u.length : Int)) = true := decide_eq_true (by omega)
              simp only [wsv, wsg, wsh, wsl, cond_true, cond_false, exists_eq_left', Option.some.injEq, Option.isSome_some, List.getElem?_toArray, List.getElem?_cons_zero, List.getElem?_cons_succ, List.length_cons, List.length_nil, List.set_cons_zero, List.set_cons_succ, List.getD_cons_zero, List.getD_cons_succ, Nat.zero_add, Nat.add_zero, Nat.reduceAdd, Nat.reduceLT, Nat.lt_add_one, Nat.zero_lt_succ, decide_true, decide_false, ne_eq, reduceCtorEq, e]
              exact hfin (keysOk_long hu hlong)
            · have e : decide ((16384 : Int) < (u.length : Int)) = false := decide_eq_false (by omega)
              by_cases h0 : i = 0
              · subst h0
                have e0 : decide ((0 : Int) < ((0 : Nat) : Int)) = false := by decide
                simp only [wsv, wsg, wsh, wsl, cond_true, cond_false, exists_eq_left', Option.some.injEq, Option.isSome_some, List.getElem?_toArray, List.getElem?_cons_zero, List.getElem?_cons_succ, List.length_cons, List.length_nil, List.set_cons_zero, List.set_cons_succ, List.getD_cons_zero, List.getD_cons_succ, Nat.zero_add, Nat.add_zero, Nat.reduceAdd, Nat.reduceLT, Nat.lt_add_one, Nat.zero_lt_succ, decide_true, decide_false, ne_eq, reduceCtorEq, e, e0]
                rw [up1 (by omega)]
                exact hnext (by omega) fun x h => by omega
              · obtain ⟨j, rfl⟩ : ∃ j, i = j + 1 := ⟨i - 1, by omega⟩
                obtain ⟨x, hxj⟩ : ∃ x, v.ks[j]? = some x := ⟨_, List.getElem?_eq_getElem (by omega)⟩
                have e0 : decide ((0 : Int) < ((j + 1 : Nat) : Int)) = true := decide_eq_true (by omega)
                have hw : IntKind.i64.wrap (((j + 1 : Nat) : Int) - 1) = ((j : Nat) : Int) := by rw [wrap_id (by have := hB.fits.2.1; omega) (by have := hB.fits.2.1; omega)]; omega
                obtain ⟨T, hks⟩ := hBd.keys
                obtain ⟨b, o, c, fr, p, hp, hb, hg⟩ : ∃ b o c fr p, kv = .slice (some ⟨b, o, none⟩) v.ks.length p ∧ w3.heap[b]? = some (.cells c T fr) ∧ ∀ m y, v.ks[m]? = some y → c[o + m]? = some (str y) := by
                  obtain ⟨p, cap, rfl, _, _, h3⟩ := hks
                  obtain ⟨b, off, c, fr, rfl, hb, hcs⟩ := h3 (fun e => by
                    have : v.ks = [] := by simpa using e
                    rw [this] at hi; simp at hi)
                  refine ⟨b, off, c, fr, cap, rfl, hb, fun m y hy => ?_⟩
                  rw [hcs m (by simpa using (List.getElem?_eq_some_iff.1 hy).1)]
                  simp [hy]
                subst hp
                have c1 := hg j x hxj
                have c2 := hg (j + 1) u hu
                have d1 : ((j : Nat) : Int) < (v.ks.length : Int) := by omega
                have d2 : ((j + 1 : Nat) : Int) < (v.ks.length : Int) := by omega
                simp only [wsv, wsg, wsh, wsl, cond_true, cond_false, exists_eq_left', Option.some.injEq, Option.isSome_some, List.getElem?_toArray, List.getElem?_cons_zero, List.getElem?_cons_succ, List.length_cons, List.length_nil, List.set_cons_zero, List.set_cons_succ, List.getD_cons_zero, List.getD_cons_succ, Nat.zero_add, Nat.add_zero, Nat.reduceAdd, Nat.reduceLT, Nat.lt_add_one, Nat.zero_lt_succ, decide_true, decide_false, ne_eq, reduceCtorEq, wsh, e, e0, hw, hB.hb, hb, Int.toNat_natCast, Int.natCast_nonneg, d1, d2, Nat.mul_one, c1, c2, condW_b]
                refine ⟨fun hge => ?_, fun hlt2 => ?_⟩
                · exact hfin (keysOk_two hxj hu (by simpa using hge))
                · rw [up1 (by have := hB.fits.2.1; omega)]
                  exact hnext (by omega) fun y _ hy => by
                    have : v.ks[j]? = some y := by simpa using hy
                    rw [hxj] at this; cases this
                    simpa using hlt2
          · rintro w3 g L ⟨hx3, hl, hs⟩
            have hB := hB.ext hx3
            have hkeys : keysOk v.ks = true := keysOk_mk (fun i a h => hl i a (List.getElem?_eq_some_iff.1 h).1 h) (fun i a b h1 h2 => hs i a b (List.getElem?_eq_some_iff.1 h2).1 h1 h2)
            rw [hkeys, plainL_all] at hK
            simp only [wsv, wsg, wsh, wsl, cond_true, cond_false, exists_eq_left', Option.some.injEq, Option.isSome_some, List.getElem?_toArray, List.getElem?_cons_zero, List.getElem?_cons_succ, List.length_cons, List.length_nil, List.set_cons_zero, List.set_cons_succ, List.getD_cons_zero, List.getD_cons_succ, Nat.zero_add, Nat.add_zero, Nat.reduceAdd, Nat.reduceLT, Nat.lt_add_one, Nat.zero_lt_succ, decide_true, decide_false, ne_eq, reduceCtorEq, Int.lt_irrefl, wsh, hB.hb]
            rw [hB.lenx]
            refine loop_up v.xs.length (fun i w' => Ext w3 w' ∧ (v.xs.take i).all plainM = true) ⟨Chg.refl _ _, rfl⟩ ?_ ?_
            · rintro i w4 g L hi ⟨hx4, hall⟩ hL
              have hB := hB.ext hx4
              obtain ⟨x, hxi⟩ : ∃ x, v.xs[i]? = some x := ⟨_, List.getElem?_eq_getElem hi⟩
              have hlt : ((i : Int) < (v.xs.length : Int)) := by omega
              simp only [wsv, wsg, wsh, wsl, cond_true, cond_false, exists_eq_left', Option.some.injEq, Option.isSome_some, List.getElem?_toArray, List.getElem?_cons_zero, List.getElem?_cons_succ, List.length_cons, List.length_nil, List.set_cons_zero, List.set_cons_succ, List.getD_cons_zero, List.getD_cons_succ, Nat.zero_add, Nat.add_zero, Nat.reduceAdd, Nat.reduceLT, Nat.lt_add_one, Nat.zero_lt_succ, decide_true, decide_false, ne_eq, reduceCtorEq, wsh, hB.hb, hlt]
              refine hB.item hxi fun cs hcs => ?_
              refine ih x (List.mem_of_getElem? hxi) hcs fun w5 hx5 => ?_
              simp only [wsv, wsg, wsh, wsl, cond_true, cond_false, exists_eq_left', Option.some.injEq, Option.isSome_some, List.getElem?_toArray, List.getElem?_cons_zero, List.getElem?_cons_succ, List.length_cons, List.length_nil, List.set_cons_zero, List.set_cons_succ, List.getD_cons_zero, List.getD_cons_succ, Nat.zero_add, Nat.add_zero, Nat.reduceAdd, Nat.reduceLT, Nat.lt_add_one, Nat.zero_lt_succ, decide_true, decide_false, ne_eq, reduceCtorEq, condW_b]
              refine ⟨fun hf => ?_, fun ht => ?_⟩
              · have hf : plainM x = false := by simpa using hf
                have := hK w5 (hx.trans (hx3.trans (hx4.trans hx5)))
                rw [all_no hxi hf] at this
                exact this
              · have ht : plainM x = true := by simpa using ht
                rw [up1 (by have := hB.fits.1; omega)]
                exact hL w5 ⟨hx4.trans hx5, by rw [all_take hxi, hall, ht]; rfl⟩
            · rintro w4 g L ⟨hx4, hall⟩
              simp only [wsv, wsg, wsh, wsl, cond_true, cond_false, exists_eq_left', Option.some.injEq, Option.isSome_some, List.getElem?_toArray, List.getElem?_cons_zero, List.getElem?_cons_succ, List.length_cons, List.length_nil, List.set_cons_zero, List.set_cons_succ, List.getD_cons_zero, List.getD_cons_succ, Nat.zero_add, Nat.add_zero, Nat.reduceAdd, Nat.reduceLT, Nat.lt_add_one, Nat.zero_lt_succ, decide_true, decide_false, ne_eq, reduceCtorEq, Int.lt_irrefl]
              rw [List.take_length] at hall
              have := hK w4 (hx.trans (hx3.trans hx4))
              rw [hall] at this
              exact this
theorem good_ref {v : JV} {cs : List Value} {w : World} {K : Value → World → Prop} (h : VRep w v cs) (hK : ∀ w', Ext w w' → K (.bool (goodM v)) w') : callF Tryz.prog 22 [.agg cs.toArray] w K := by
  refine W22_ok ?_
  unfold W22
  refine box_val h fun a w1 sv kv hB hx _ => ?_
  refine hB.ld fun cs1 h1 => ?_
  refine size_ref v h1 fun w2 hx2 => ?_
  have hB := hB.ext hx2
  have hx := hx.trans hx2
  simp only [wsv, wsg, wsh, wsl, cond_true, cond_false, exists_eq_left', Option.some.injEq, Option.isSome_some, List.getElem?_toArray, List.getElem?_cons_zero, List.getElem?_cons_succ, List.length_cons, List.length_nil, List.set_cons_zero, List.set_cons_succ, List.getD_cons_zero, List.getD_cons_succ, Nat.zero_add, Nat.add_zero, Nat.reduceAdd, Nat.reduceLT, Nat.lt_add_one, Nat.zero_lt_succ, decide_true, decide_false, ne_eq, reduceCtorEq]
  refine GdW.act (deepM v 24) (fun w' => Ext w2 w') (fun _ => Chg.refl _ _) ?_ ?_
  · intro hc J hJ
    refine hB.ld fun cs2 h2 => ?_
    exact deep_ref v (m := 24) (by omega) h2 hJ
  intro g w3 hx3
  have hB := hB.ext hx3
  have hx := hx.trans hx3
  simp only [wsv, wsg, wsh, wsl, cond_true, cond_false, exists_eq_left', Option.some.injEq, Option.isSome_some, List.getElem?_toArray, List.getElem?_cons_zero, List.getElem?_cons_succ, List.length_cons, List.length_nil, List.set_cons_zero, List.set_cons_succ, List.getD_cons_zero, List.getD_cons_succ, Nat.zero_add, Nat.add_zero, Nat.reduceAdd, Nat.reduceLT, Nat.lt_add_one, Nat.zero_lt_succ, decide_true, decide_false, ne_eq, reduceCtorEq]
  refine GdW.act (plainM v) (fun w' => Ext w3 w') (fun _ => Chg.refl _ _) ?_ ?_
  · intro hc J hJ
    refine hB.ld fun cs2 h2 => ?_
    exact plain_ref v h2 hJ
  intro g w4 hx4
  have := hK w4 (hx.trans hx4)
  simp only [wsv, wsg, wsh, wsl, cond_true, cond_false, exists_eq_left', Option.some.injEq, Option.isSome_some, List.getElem?_toArray, List.getElem?_cons_zero, List.getElem?_cons_succ, List.length_cons, List.length_nil, List.set_cons_zero, List.set_cons_succ, List.getD_cons_zero, List.getD_cons_succ, Nat.zero_add, Nat.add_zero, Nat.reduceAdd, Nat.reduceLT, Nat.lt_add_one, Nat.zero_lt_succ, decide_true, decide_false, ne_eq, reduceCtorEq]
  exact this
theorem same_ref (a : JV) : ∀ {b : JV} {cs ds : List Value} {w : World} {K : Value → World → Prop}, VRep w a cs → VRep w b ds → (∀ w', Ext w w' → K (.bool (sameM a b)) w') → callF Tryz.prog 21 [.agg cs.toArray, .agg ds.toArray] w K := by
  induction a using JV.ind' with
  | h v ih =>
    intro b cs ds w K h h' hK
    refine W21_ok ?_
    unfold W21
    refine box_val h fun x w1 sv kv hB hx _ => ?_
    refine box_val (h'.ext hx) fun y w2 sv' kv' hC hx2 _ => ?_
    have hB := hB.ext hx2
    have hx := hx.trans hx2
    clear hx2
    rw [sameM_eq] at hK
    simp only [wsv, wsg, wsh, wsl, cond_true, cond_false, exists_eq_left', Option.some.injEq, Option.isSome_some, List.getElem?_toArray, List.getElem?_cons_zero, List.getElem?_cons_succ, List.length_cons, List.length_nil, List.set_cons_zero, List.set_cons_succ, List.getD_cons_zero, List.getD_cons_succ, Nat.zero_add, Nat.add_zero, Nat.reduceAdd, Nat.reduceLT, Nat.lt_add_one, Nat.zero_lt_succ, decide_true, decide_false, ne_eq, reduceCtorEq, wsh, hB.hb, hC.hb, eq_bb, ne_bb]
    intros
    refine GdW.act (!decide (v.ks = b.ks)) (fun w' => Ext w2 w') (fun _ => Chg.refl _ _) ?_ ?_
    · intro hc J hJ
      obtain ⟨T1, k1⟩ := hB.keys
      obtain ⟨T2, k2⟩ := hC.keys
      refine texts_ref k1 k2 hB.fits.2.1 fun w3 hx3 => ?_
      simp only [wsv, wsg, wsh, wsl, cond_true, cond_false, exists_eq_left', Option.some.injEq, Option.isSome_some, List.getElem?_toArray, List.getElem?_cons_zero, List.getElem?_cons_succ, List.length_cons, List.length_nil, List.set_cons_zero, List.set_cons_succ, List.getD_cons_zero, List.getD_cons_succ, Nat.zero_add, Nat.add_zero, Nat.reduceAdd, Nat.reduceLT, Nat.lt_add_one, Nat.zero_lt_succ, decide_true, decide_false, ne_eq, reduceCtorEq]
      exact hJ w3 hx3
    intro g w3 hx3
    have hB := hB.ext hx3
    have hC := hC.ext hx3
    have hx := hx.trans hx3
    clear hx3
    simp only [wsv, wsg, wsh, wsl, cond_true, cond_false, exists_eq_left', Option.some.injEq, Option.isSome_some, List.getElem?_toArray, List.getElem?_cons_zero, List.getElem?_cons_succ, List.length_cons, List.length_nil, List.set_cons_zero, List.set_cons_succ, List.getD_cons_zero, List.getD_cons_succ, Nat.zero_add, Nat.add_zero, Nat.reduceAdd, Nat.reduceLT, Nat.lt_add_one, Nat.zero_lt_succ, decide_true, decide_false, ne_eq, reduceCtorEq, wsh, hB.hb, hC.hb, hB.lenx, hC.lenx]
    intros
    have e1 : (!v.b == b.b) = !decide (v.b = b.b) := by cases v.b <;> cases b.b <;> rfl
    have e2 : decide (¬ (v.xs.length : Int) = (b.xs.length : Int)) = !decide (v.xs.length = b.xs.length) := by rw [← decide_not]; exact decide_eq_decide.2 (by omega)
    rw [e2]
    simp only [decide_not]
    have hsl : v.xs.length ≠ b.xs.length → sameL v.xs b.xs = false := sameL_len
    by_cases hl : v.xs.length = b.xs.length
    · rw [decide_eq_true hl, condW_b]
      refine ⟨fun hne => ?_, fun heq => ?_⟩
      · have := hK w3 hx
        have e : (decide (v.k = b.k) && decide (v.b = b.b) && decide (v.t = b.t) && decide (v.ks = b.ks) && sameL v.xs b.xs) = false := by
          have e1 : (v.b == b.b) = decide (v.b = b.b) := by cases v.b <;> cases b.b <;> rfl
          rw [e1] at hne
          revert hne
          cases decide (v.k = b.k) <;> cases decide (v.b = b.b) <;> cases decide (v.t = b.t) <;> cases decide (v.ks = b.ks) <;> simp
        rw [e] at this
        exact this
      · have e : (decide (v.k = b.k) && decide (v.b = b.b) && decide (v.t = b.t) && decide (v.ks = b.ks)) = true := by
          have e1 : (v.b == b.b) = decide (v.b = b.b) := by cases v.b <;> cases b.b <;> rfl
          rw [e1] at heq
          revert heq
          cases decide (v.k = b.k) <;> cases decide (v.b = b.b) <;> cases decide (v.t = b.t) <;> cases decide (v.ks = b.ks) <;> simp
        rw [e] at hK
        refine loop_up v.xs.length (fun i w' => Ext w3 w' ∧ v.xs.take i = b.xs.take i) ⟨Chg.refl _ _, rfl⟩ ?_ ?_
        · rintro i w4 g L hi ⟨hx4, hall⟩ hL
          have hxd : Ext w3 w4.drew := hx4.trans (Chg.drew (Chg.refl (fun _ => False) w4))
          have hB4 := hB.ext hx4
          have hC4 := hC.ext hx4
          have hB := hB.ext hxd
          have hC := hC.ext hxd
          obtain ⟨p, hp⟩ : ∃ p, v.xs[i]? = some p := ⟨_, List.getElem?_eq_getElem hi⟩
          obtain ⟨q, hq⟩ : ∃ q, b.xs[i]? = some q := ⟨_, List.getElem?_eq_getElem (by omega)⟩
          have hlt : ((i : Int) < (v.xs.length : Int)) := by omega
          simp only [wsv, wsg, wsh, wsl, cond_true, cond_false, exists_eq_left', Option.some.injEq, Option.isSome_some, List.getElem?_toArray, List.getElem?_cons_zero, List.getElem?_cons_succ, List.length_cons, List.length_nil, List.set_cons_zero, List.set_cons_succ, List.getD_cons_zero, List.getD_cons_succ, Nat.zero_add, Nat.add_zero, Nat.reduceAdd, Nat.reduceLT, Nat.lt_add_one, Nat.zero_lt_succ, decide_true, decide_false, ne_eq, reduceCtorEq, wsh, hB4.hb, hC4.hb, hlt]
          refine hB.item hp fun cs1 h1 => ?_
          refine hC.item hq fun cs2 h2 => ?_
          refine ih p (List.mem_of_getElem? hp) h1 h2 fun w5 hx5 => ?_
          simp only [wsv, wsg, wsh, wsl, cond_true, cond_false, exists_eq_left', Option.some.injEq, Option.isSome_some, List.getElem?_toArray, List.getElem?_cons_zero, List.getElem?_cons_succ, List.length_cons, List.length_nil, List.set_cons_zero, List.set_cons_succ, List.getD_cons_zero, List.getD_cons_succ, Nat.zero_add, Nat.add_zero, Nat.reduceAdd, Nat.reduceLT, Nat.lt_add_one, Nat.zero_lt_succ, decide_true, decide_false, ne_eq, reduceCtorEq, condW_b]
          refine ⟨fun hf => ?_, fun ht => ?_⟩
          · have hf : sameM p q = false := by simpa using hf
            have := hK w5 (hx.trans (hxd.trans hx5))
            rw [sameL_take hl hp hq hf] at this
            exact this
          · have ht : sameM p q = true := by simpa using ht
            have := (same_iff p q).1 ht
            subst this
            rw [up1 (by have := hB.fits.1; omega)]
            exact hL w5 ⟨hxd.trans hx5, take_eq hall hp hq⟩
        · rintro w4 g L ⟨hx4, hall⟩
          simp only [wsv, wsg, wsh, wsl, cond_true, cond_false, exists_eq_left', Option.some.injEq, Option.isSome_some, List.getElem?_toArray, List.getElem?_cons_zero, List.getElem?_cons_succ, List.length_cons, List.length_nil, List.set_cons_zero, List.set_cons_succ, List.getD_cons_zero, List.getD_cons_succ, Nat.zero_add, Nat.add_zero, Nat.reduceAdd, Nat.reduceLT, Nat.lt_add_one, Nat.zero_lt_succ, decide_true, decide_false, ne_eq, reduceCtorEq, Int.lt_irrefl]
          rw [List.take_length, hl, List.take_length] at hall
          have := hK w4 (hx.trans hx4)
          rw [(sameL_iff _ _).2 hall] at this
          exact this
    · rw [decide_eq_false hl, Bool.not_false, Bool.or_true, condW_true]
      have := hK w3 hx
      rw [hsl hl, Bool.and_false] at this
      exact this
end
end Go.Proofs.YtcnjpcadejcenaaGreatDoor
namespace Go.Proofs.YtcnjpcadejcenaaGreatDoor
open Go Go.Eng Go.Num
set_option maxRecDepth 100000
abbrev ST : TypeId := 9
theorem elem_s : ElemT Tryz.prog 24 ST 1 16 := ⟨by kernel_rfl, by kernel_rfl, by decide⟩
theorem elem_v : ElemT Tryz.prog 23 VT 5 80 := ⟨by kernel_rfl, by kernel_rfl, by decide⟩
abbrev ptr (b : Nat) : Value := .pointer (some ⟨b, 0, none⟩)
structure Grow (w0 w : World) (b base : Nat) (sv0 kv0 sv kv : Value) (xs : List JV) (ks : List Str) : Prop where
  ext : Ext w0 w
  hb : w.heap[b]? = some (.cells [i64 6, .bool false, str [], sv0, kv0].toArray VT (0, 0))
  low : w0.heap.size ≤ b
  lt : b < base
  le : base ≤ w.heap.size
  items : ∃ L, Own w base VT 5 sv xs.length L ∧ VReps w0 xs L
  keys : Own w base ST 1 kv ks.length (ks.map str)
theorem Grow.chg {w0 w w' : World} {b b' base : Nat} {sv0 kv0 sv kv : Value} {xs : List JV} {ks : List Str} (h : Grow w0 w b base sv0 kv0 sv kv xs ks) (hc : Chg (fun k => k = b') w w') (h1 : b' ≠ b) (h2 : b' < base) (h3 : w0.heap.size ≤ b') : Grow w0 w' b base sv0 kv0 sv kv xs ks :=
  ⟨h.ext.new hc h3, hc.at h.hb (fun e => h1 e.symm), h.low, h.lt, Nat.le_trans h.le hc.size, let ⟨L, g1, g2⟩ := h.items; ⟨L, g1.chg hc fun k hk e => by have := hk.1; omega, g2⟩, h.keys.chg hc fun k hk e => by have := hk.1; omega⟩
theorem own_ge {w : World} {base : Nat} {e : TypeId} {size : Nat} {v : Value} {n : Nat} {xs : List Value} (h : Own w base e size v n xs) {k : Nat} (hk : v.ownBlock = some k) : base ≤ k ∧ ∃ c, w.heap[k]? = some (.cells c e (0, 0)) := h.block k hk
theorem Grow.set {w0 w : World} {b base off : Nat} {sv0 kv0 sv kv v sv1 kv1 : Value} {xs : List JV} {ks : List Str} {K : World → Prop} (h : Grow w0 w b base sv0 kv0 sv kv xs ks) (h1 : one1 v = true) (ho : off < 5)
    (he : ([i64 6, .bool false, str [], sv0, kv0] : List Value).set off v = [i64 6, .bool false, str [], sv1, kv1]) (hK : ∀ w', Grow w0 w' b base sv1 kv1 sv kv xs ks → Chg (fun k => k = b) w w' → K w') : stW 1 (.pointer (some ⟨b, off, none⟩)) v w K := by
  refine st_at h.hb h1 (by simpa using ho) fun w' hz hb' hc => ?_
  refine hK w' ⟨h.ext.new hc h.low, ?_, h.low, h.lt, by rw [hz]; exact h.le, ?_, h.keys.chg hc fun k hk e => ?_⟩ hc
  · rw [hb', ← he]; simp
  · obtain ⟨L, h1, h2⟩ := h.items
    exact ⟨L, h1.chg hc fun k hk e => by have := hk.1; have := h.lt; omega, h2⟩
  · have := hk.1; have := h.lt; omega
theorem Grow.one {w0 w : World} {b base : Nat} {sv0 kv0 sv kv : Value} {xs : List JV} {ks : List Str} (h : Grow w0 w b base sv0 kv0 sv kv xs ks) : one1 sv = true ∧ one1 kv = true := by
  obtain ⟨L, h1, _⟩ := h.items
  obtain ⟨p, c, rfl, _⟩ := h1.sl.shape
  obtain ⟨p', c', rfl, _⟩ := h.keys.sl.shape
  exact ⟨rfl, rfl⟩
structure OwnV (w0 w : World) (base : Nat) (v : JV) (sv kv : Value) : Prop where
  items : ∃ L, Own w base VT 5 sv v.xs.length L ∧ VReps w0 v.xs L
  keys : Own w base ST 1 kv v.ks.length (v.ks.map str)
  fits : Fits v.xs.length v.ks v.t
theorem OwnV.chg {w0 w w' : World} {base : Nat} {v : JV} {sv kv : Value} {S : Nat → Prop} (h : OwnV w0 w base v sv kv) (hc : Chg S w w') (hS : ∀ k, base ≤ k → k < w.heap.size → ¬ S k) : OwnV w0 w' base v sv kv :=
  ⟨let ⟨L, h1, h2⟩ := h.items; ⟨L, h1.chg hc fun k hk => hS k hk.1 (by obtain ⟨_, c, hk⟩ := hk; exact at_lt hk), h2⟩, h.keys.chg hc fun k hk => hS k hk.1 (by obtain ⟨_, c, hk⟩ := hk; exact at_lt hk), h.fits⟩
theorem OwnV.one {w0 w : World} {base : Nat} {v : JV} {sv kv : Value} (h : OwnV w0 w base v sv kv) : one1 sv = true ∧ one1 kv = true := by
  obtain ⟨L, h1, _⟩ := h.items
  obtain ⟨p, c, rfl, _⟩ := h1.sl.shape
  obtain ⟨p', c', rfl, _⟩ := h.keys.sl.shape
  exact ⟨rfl, rfl⟩
theorem OwnV.val {w0 w : World} {base : Nat} {v : JV} {sv kv : Value} (h : OwnV w0 w base v sv kv) : VRepS w0 w v [i64 v.k, .bool v.b, str v.t, sv, kv] := by
  obtain ⟨L, h1, h2⟩ := h.items
  exact ⟨sv, kv, VT, ST, L, rfl, h1.sl, h2, h.keys.sl, h.fits⟩
theorem Grow.own {w0 w : World} {b base : Nat} {sv kv : Value} {l : List (Str × JV)} (h : Grow w0 w b base sv kv sv kv (l.map (·.2)) (l.map (·.1))) (hl : l.length ≤ 1000000) (hk : ∀ p ∈ l, p.1.length ≤ 9223372036854775807) : OwnV w0 w base (mkO l) sv kv := by
  refine ⟨h.items, h.keys, ?_, ?_, ?_, ?_⟩
  · simp only [mkO, JV.xs, List.length_map]; omega
  · simp only [mkO, JV.ks, List.length_map]; omega
  · simp [mkO, JV.t]
  · intro s hs
    simp only [mkO, JV.ks, List.mem_map] at hs
    obtain ⟨p, hp, rfl⟩ := hs
    exact hk p hp
theorem row_v {w : World} {cs : List Value} {K : Value → World → Prop} (hc : cs.length = 5) (hK : ∀ t w', SlAt w' VT t 1 cs → Ext w w' → K t w') : bslW VT 1 [(.int .i64 0), (.bool false), (.string (ofL [])), (.slice none 0 0), (.slice none 0 0)] [(0, 5, .agg cs.toArray)] w K := by
  unfold bslW
  have hp : ∀ K : List Value → Prop, K cs → putW [(.int .i64 0), (.bool false), (.string (ofL [])), (.slice none 0 0), (.slice none 0 0)] [(0, 5, .agg cs.toArray)] K := by
    intro K hK
    refine ⟨by simp [Value.cells, hc], by simp, ?_⟩
    have : List.take 0 [(Value.int .i64 0), (.bool false), (.string (ofL [])), (.slice none 0 0), (.slice none 0 0)] ++ ((Value.agg cs.toArray).cells.toList ++ List.drop (0 + 5) [(Value.int .i64 0), (.bool false), (.string (ofL [])), (.slice none 0 0), (.slice none 0 0)]) = cs := by simp [Value.cells]
    rw [this]
    exact hK
  refine hp _ ?_
  exact hK _ _ (own_new (w := w) (base := w.heap.size) (e := VT) (size := 5) (n := 1) (cs := cs) (Nat.le_refl _) (by omega) (by omega)).sl (by repeat (first | assumption | exact Chg.refl _ _ | refine Chg.drew ?_ | refine Chg.alloc ?_ _ | refine Chg.set ?_ (by first | exact .inl rfl | exact .inr (by omega) | exact .inr (by simp only [size_set, size_alloc, size_drew]; omega) | (left; simp; done)) _ | exact Chg.of_ext (by assumption)))
theorem OwnV.item_old {w0 w : World} {base : Nat} {v : JV} {sv kv : Value} {k : IntKind} {i : Nat} {x : JV} {K : Value → Prop} (h : OwnV w0 w base v sv kv) (hi : v.xs[i]? = some x) (hK : ∀ cs, VRep w0 x cs → K (.agg cs.toArray)) : ixaW none 5 sv (.int k i) fun p => ldW true 5 p w K := by
  obtain ⟨L, h1, h2⟩ := h.items
  obtain ⟨cs, hc, hg⟩ := h2.get hi
  refine ixa_at (size := 5) h1.sl h2.len (by omega) (List.getElem?_eq_some_iff.1 hi).1 fun b o c fr hb hcc => ?_
  exact ld_cells hb hc.len (fun j hj => (hcc j hj).trans (hg j hj)) (hK cs hc)
end Go.Proofs.YtcnjpcadejcenaaGreatDoor
namespace Go.Proofs.YtcnjpcadejcenaaGreatDoor
open Go Go.Eng Go.Num
set_option maxRecDepth 100000
section
variable [HX]
theorem ret_val {w w0 : World} {b : Nat} {cs ds : List Value} {v : JV} {K : Value → World → Prop} (hb : w.heap[b]? = some (.cells ds.toArray VT (0, 0))) (hd : ds.length = 5) (hl : w0.heap.size ≤ b) (hx : Ext w0 w) (h : VRep w0 v cs)
    (hK : ∀ w', Ext w0 w' → Chg (fun k => k = b) w w' → VRep w' v cs → K (.agg cs.toArray) w') : stW 5 (ptr b) (.agg cs.toArray) w fun w5 => ldW true 5 (ptr b) w5 fun r6 => K r6 w5 :=
  ret_agg hb h.len hd h.all_one fun w' hc => by
    have hx' := hx.new hc hl
    exact hK w' hx' hc (h.ext hx')
theorem ValB.item_old {w0 w : World} {a : Nat} {v : JV} {sv kv : Value} {k : IntKind} {i : Nat} {x : JV} {K : Value → Prop} (h : ValB w0 a v sv kv) (hx : Ext w0 w) (hi : v.xs[i]? = some x) (hK : ∀ cs, VRep w0 x cs → K (.agg cs.toArray)) : ixaW none 5 sv (.int k i) fun p => ldW true 5 p w K := by
  obtain ⟨T, L, h1, h2⟩ := h.items
  obtain ⟨cs, hc, hg⟩ := h2.get hi
  refine ixa_at (size := 5) (h1.ext hx) h2.len (by omega) (List.getElem?_eq_some_iff.1 hi).1 fun b o c fr hb hcc => ?_
  exact ld_cells hb hc.len (fun j hj => (hcc j hj).trans (hg j hj)) (hK cs hc)
theorem obj_one {k : Int} {b : Bool} {t : Str} {sv kv : Value} (h1 : one1 sv = true) (h2 : one1 kv = true) : ([i64 k, .bool b, str t, sv, kv] : List Value).all one1 = true := by
  simp only [List.all_cons, List.all_nil, h1, h2, Bool.and_true]; rfl
end
end Go.Proofs.YtcnjpcadejcenaaGreatDoor

namespace Go.Proofs.YtcnjpcadejcenaaGreatDoor
open Go Go.Eng Go.Num
set_option maxRecDepth 100000
section
variable [HX]
theorem copy_new {w : World} {v : JV} {cs : List Value} {K : Value → World → Prop} (h : VRep w v cs) (hK : ∀ a w' sv kv, ValB w' a v sv kv → Ext w w' → K (ptr a) w') :
    allocW VT [(.int .i64 0), (.bool false), (.string (ofL [])), (.slice none 0 0), (.slice none 0 0)] w fun t w1 => stW 5 t (.agg cs.toArray) w1 fun w2 => K t w2 := by
  obtain ⟨sv, kv, T1, T2, L, rfl, h1, h2, h3, h4⟩ := h.out
  refine alloc_new fun a w1 ha hz hb hx => ?_
  refine st_agg_at hb rfl rfl h.all_one fun w2 hz2 hb2 hc2 => ?_
  have hx' := hx.new hc2 (by omega)
  exact hK a w2 sv kv ⟨hb2, ⟨T1, L, h1.ext hx', h2.ext hx'⟩, ⟨T2, h3.ext hx'⟩, h4⟩ hx'
theorem any_take {α : Type} {p : α → Bool} {xs : List α} {i : Nat} {x : α} (hi : xs[i]? = some x) : (xs.take (i + 1)).any p = ((xs.take i).any p || p x) := by
  rw [List.take_add_one, hi]; simp
end
end Go.Proofs.YtcnjpcadejcenaaGreatDoor
namespace Go.Proofs.YtcnjpcadejcenaaGreatDoor
open Go Go.Eng
set_option maxRecDepth 100000
variable [HX]
def plan76 : Plan := { js := [], ds := [] }
def W76 (v0 v1 : Value) (w : World) (K : Value → World → Prop) : Prop :=
  callF Tryz.prog 136 [v0, v1] w fun t7 w1 =>
  binW .geq t7 (.int .i64 0) fun t8 =>
  K t8 w1
theorem W76_eq (v0 v1 : Value) (w : World) (K : Value → World → Prop) : funW Tryz.prog Tryz.f76 plan76 [v0, v1] w K = W76 v0 v1 w K := by kernel_rfl
theorem W76_chk : chkFun Tryz.prog Tryz.f76 plan76 2 = true := by kernel_rfl
theorem W76_ok {v0 v1 : Value} {w : World} {K : Value → World → Prop} (h : W76 v0 v1 w K) : callF Tryz.prog 76 [v0, v1] w K :=
  tie Tryz.prog 76 Tryz.f76 plan76 [v0, v1] w K 2 (W76 v0 v1 w K) rfl mixed Tryz.func76 W76_chk (W76_eq v0 v1 w K) Tryz.call76 h
def plan162 : Plan := { js := [(6004, ⟨[19], [], 17⟩)], ds := [] }
def W162 (v0 v1 : Value) (w : World) (K : Value → World → Prop) : Prop :=
  boxW 26 v0 w fun t2 w1 =>
  allocW 26 [(.int .i64 0), (.bool false), (.string (ofL [])), (.slice none 0 0), (.slice none 0 0)] w1 fun t4 w2 =>
  fldW 4 t2 fun t9 =>
  ldW false 1 t9 w2 fun t10 =>
  callF Tryz.prog 188 [t10, v1] w2 fun t12 w3 =>
  extW 0 t12 fun t13 =>
  extW 1 t12 fun t14 =>
  GdW (isB t14 true) [undef] w3 (fun J4 =>
    fldW 0 t2 fun t17 =>
    ldW false 1 t17 w3 fun t18 =>
    binW .eql t18 (.int .i64 6) fun t19 =>
    J4 [t19] w3)
  fun s4 _ w5 =>
  pickW t14 (s4.getD 0 undef) (.bool false) fun t20 =>
  condW t20 (
    fldW 3 t2 fun t21 =>
    ldW false 1 t21 w5 fun t22 =>
    ixaW none 5 t22 t13 fun t24 =>
    ldW true 5 t24 w5 fun t25 =>
    callF Tryz.prog 189 [t25] w5 fun t26 w6 =>
    stW 5 t4 t26 w6 fun w7 =>
    ldW true 5 t4 w7 fun r8 =>
    K (.tuple #[r8, (.bool true)]) w7) (
    putW [(.int .i64 0), (.bool false), (.string (ofL [])), (.slice none 0 0), (.slice none 0 0)] [] fun c9 =>
    stW 5 t4 (.agg c9.toArray) w5 fun w10 =>
    ldW true 5 t4 w10 fun r11 =>
    K (.tuple #[r11, (.bool false)]) w10)
theorem W162_eq (v0 v1 : Value) (w : World) (K : Value → World → Prop) : funW Tryz.prog Tryz.f162 plan162 [v0, v1] w K = W162 v0 v1 w K := by kernel_rfl
theorem W162_chk : chkFun Tryz.prog Tryz.f162 plan162 2 = true := by kernel_rfl
theorem W162_ok {v0 v1 : Value} {w : World} {K : Value → World → Prop} (h : W162 v0 v1 w K) : callF Tryz.prog 162 [v0, v1] w K :=
  tie Tryz.prog 162 Tryz.f162 plan162 [v0, v1] w K 2 (W162 v0 v1 w K) rfl mixed Tryz.func162 W162_chk (W162_eq v0 v1 w K) Tryz.call162 h
def plan43 : Plan := { js := [(3006, ⟨[10], [], 7⟩)], ds := [] }
def W43 (v0 : Value) (w : World) (K : Value → World → Prop) : Prop :=
  boxW 26 v0 w fun t1 w1 =>
  fldW 0 t1 fun t3 =>
  ldW false 1 t3 w1 fun t4 =>
  binW .neq t4 (.int .i64 1) fun t5 =>
  GdW (isB t5 true) [undef] w1 (fun J2 =>
    fldW 3 t1 fun t7 =>
    ldW false 1 t7 w1 fun t8 =>
    callF Tryz.prog 99 [t8, (.func (.func 100) #[] #[])] w1 fun t9 w3 =>
    unW .not t9 fun t10 =>
    J2 [t10] w3)
  fun s2 _ w4 =>
  pickW t5 (s2.getD 0 undef) (.bool false) fun t11 =>
  K t11 w4
theorem W43_eq (v0 : Value) (w : World) (K : Value → World → Prop) : funW Tryz.prog Tryz.f43 plan43 [v0] w K = W43 v0 w K := by kernel_rfl
theorem W43_chk : chkFun Tryz.prog Tryz.f43 plan43 1 = true := by kernel_rfl
theorem W43_ok {v0 : Value} {w : World} {K : Value → World → Prop} (h : W43 v0 w K) : callF Tryz.prog 43 [v0] w K :=
  tie Tryz.prog 43 Tryz.f43 plan43 [v0] w K 1 (W43 v0 w K) rfl mixed Tryz.func43 W43_chk (W43_eq v0 w K) Tryz.call43 h
def plan136 : Plan := { js := [(6, ⟨[8], [4, 5], 8⟩)], ds := [] }
def W136 (v0 v1 : Value) (w : World) (K : Value → World → Prop) : Prop :=
  lenlW v0 fun t7 =>
  LoopW [(.int .i64 0)] w fun s1 _ w2 L1 =>
    binW .lss (s1.getD 0 undef) t7 fun t9 =>
    condW t9 (
      ixaW none 1 v0 (s1.getD 0 undef) fun t14 =>
      ldW false 1 t14 w2 fun t15 =>
      callV Tryz.prog v1 [t15] w2 fun t16 w3 =>
      condW t16 (
        K (s1.getD 0 undef) w3) (
        binW .add (s1.getD 0 undef) (.int .i64 1) fun t18 =>
        L1 [t18] w3)) (
      K (.int .i64 (-1)) w2)
theorem W136_eq (v0 v1 : Value) (w : World) (K : Value → World → Prop) : funW Tryz.prog Tryz.f136 plan136 [v0, v1] w K = W136 v0 v1 w K := by kernel_rfl
theorem W136_chk : chkFun Tryz.prog Tryz.f136 plan136 2 = true := by kernel_rfl
theorem W136_ok {v0 v1 : Value} {w : World} {K : Value → World → Prop} (h : W136 v0 v1 w K) : callF Tryz.prog 136 [v0, v1] w K :=
  tie Tryz.prog 136 Tryz.f136 plan136 [v0, v1] w K 2 (W136 v0 v1 w K) rfl mixed Tryz.func136 W136_chk (W136_eq v0 v1 w K) Tryz.call136 h
def plan188 : Plan := { js := [(24004, ⟨[52], [], 36⟩), (24005, ⟨[51], [], 43⟩), (24007, ⟨[50], [], 49⟩), (24013, ⟨[48], [], 43⟩), (24020, ⟨[42], [], 36⟩), (8, ⟨[7, 8], [], 7⟩)], ds := [] }
def W188 (v0 v1 : Value) (w : World) (K : Value → World → Prop) : Prop :=
  lenlW v0 fun t11 =>
  LoopW [(.int .i64 0), t11] w fun s1 _ w2 L1 =>
    binW .lss (s1.getD 0 undef) (s1.getD 1 undef) fun t15 =>
    condW t15 (
      binW .add (s1.getD 0 undef) (s1.getD 1 undef) fun t18 =>
      cvtW .u64 t18 fun t19 =>
      binW .shr t19 (.int .u64 1) fun t20 =>
      cvtW .i64 t20 fun t21 =>
      ixaW none 1 v0 t21 fun t24 =>
      ldW false 1 t24 w2 fun t25 =>
      callF Tryz.prog 226 [t25, v1] w2 fun t27 w3 =>
      condW t27 (
        binW .add t21 (.int .i64 1) fun t29 =>
        L1 [t29, (s1.getD 1 undef)] w3) (
        L1 [(s1.getD 0 undef), t21] w3)) (
      binW .lss (s1.getD 0 undef) t11 fun t34 =>
      GdW (isB t34 true) [undef] w2 (fun J4 =>
        ixaW none 1 v0 (s1.getD 0 undef) fun t38 =>
        ldW false 1 t38 w2 fun t39 =>
        binW .eql t39 v1 fun t41 =>
        J4 [t41] w2)
      fun s4 _ w5 =>
      GdW (isB (s4.getD 0 undef) false) [undef] w5 (fun J6 =>
        ixaW none 1 v0 (s1.getD 0 undef) fun t45 =>
        ldW false 1 t45 w5 fun t46 =>
        callF Tryz.prog 227 [t46] w5 fun t47 w7 =>
        J6 [t47] w7)
      fun s6 _ w8 =>
      GdW (isB (s6.getD 0 undef) true) [undef] w8 (fun J9 =>
        callF Tryz.prog 227 [v1] w8 fun t50 w10 =>
        J9 [t50] w10)
      fun s9 _ w11 =>
      GdW (isB (s4.getD 0 undef) false) [undef] w11 (fun J12 =>
        pickW (s6.getD 0 undef) (s9.getD 0 undef) (.bool false) fun t51 =>
        J12 [t51] w11)
      fun s12 _ w13 =>
      GdW (isB t34 true) [undef] w13 (fun J14 =>
        pickW (s4.getD 0 undef) (.bool true) (s12.getD 0 undef) fun t52 =>
        J14 [t52] w13)
      fun s14 _ w15 =>
      pickW t34 (s14.getD 0 undef) (.bool false) fun t53 =>
      K (.tuple #[(s1.getD 0 undef), t53]) w15)
theorem W188_eq (v0 v1 : Value) (w : World) (K : Value → World → Prop) : funW Tryz.prog Tryz.f188 plan188 [v0, v1] w K = W188 v0 v1 w K := by kernel_rfl
theorem W188_chk : chkFun Tryz.prog Tryz.f188 plan188 2 = true := by kernel_rfl
theorem W188_ok {v0 v1 : Value} {w : World} {K : Value → World → Prop} (h : W188 v0 v1 w K) : callF Tryz.prog 188 [v0, v1] w K :=
  tie Tryz.prog 188 Tryz.f188 plan188 [v0, v1] w K 2 (W188 v0 v1 w K) rfl mixed Tryz.func188 W188_chk (W188_eq v0 v1 w K) Tryz.call188 h
def plan189 : Plan := { js := [], ds := [(3, ⟨[0, 1, 3, 4, 6, 8], [[], [0], [0, 1], [], [3], [0, 1, 2, 3, 4], [0, 1, 2, 3, 4], [0, 1, 2, 3, 4, 5, 6], [0, 1, 2, 3, 4, 5, 6, 7], [0, 1, 2, 3, 4, 5, 6, 7, 8]]⟩)] }
def W189 (v0 : Value) (w : World) (K : Value → World → Prop) : Prop :=
  boxW 26 v0 w fun t1 w1 =>
  allocW 26 [(.int .i64 0), (.bool false), (.string (ofL [])), (.slice none 0 0), (.slice none 0 0)] w1 fun t2 w2 =>
  fldW 4 t1 fun t3 =>
  ldW false 1 t3 w2.drew fun t4 =>
  fldW 3 t1 fun t6 =>
  ldW false 1 t6 w2.drew fun t7 =>
  callF Tryz.prog 228 [t4] w2.drew fun t5 w3 =>
  (ldW false 1 t6 w3 fun x => x = t7) ∧
  fldW 4 t1 fun t9 =>
  callF Tryz.prog 229 [t7] w3 fun t8 w4 =>
  stW 1 t9 t5 w4 fun w5 =>
  fldW 3 t1 fun t10 =>
  stW 1 t10 t8 w5 fun w6 =>
  ldW true 5 t1 w6 fun t11 =>
  stW 5 t2 t11 w6 fun w7 =>
  ldW true 5 t2 w7 fun r8 =>
  K r8 w7
theorem W189_eq (v0 : Value) (w : World) (K : Value → World → Prop) : funW Tryz.prog Tryz.f189 plan189 [v0] w K = W189 v0 w K := by kernel_rfl
theorem W189_chk : chkFun Tryz.prog Tryz.f189 plan189 1 = true := by kernel_rfl
theorem W189_ok {v0 : Value} {w : World} {K : Value → World → Prop} (h : W189 v0 w K) : callF Tryz.prog 189 [v0] w K :=
  tie Tryz.prog 189 Tryz.f189 plan189 [v0] w K 1 (W189 v0 w K) rfl mixed Tryz.func189 W189_chk (W189_eq v0 w K) Tryz.call189 h
def plan99 : Plan := { js := [], ds := [] }
def W99 (v0 v1 : Value) (w : World) (K : Value → World → Prop) : Prop :=
  callF Tryz.prog 150 [v0, v1] w fun t7 w1 =>
  binW .geq t7 (.int .i64 0) fun t8 =>
  K t8 w1
theorem W99_eq (v0 v1 : Value) (w : World) (K : Value → World → Prop) : funW Tryz.prog Tryz.f99 plan99 [v0, v1] w K = W99 v0 v1 w K := by kernel_rfl
theorem W99_chk : chkFun Tryz.prog Tryz.f99 plan99 2 = true := by kernel_rfl
theorem W99_ok {v0 v1 : Value} {w : World} {K : Value → World → Prop} (h : W99 v0 v1 w K) : callF Tryz.prog 99 [v0, v1] w K :=
  tie Tryz.prog 99 Tryz.f99 plan99 [v0, v1] w K 2 (W99 v0 v1 w K) rfl mixed Tryz.func99 W99_chk (W99_eq v0 v1 w K) Tryz.call99 h
def plan100 : Plan := { js := [], ds := [] }
def W100 (v0 : Value) (w : World) (K : Value → World → Prop) : Prop :=
  boxW 26 v0 w fun t1 w1 =>
  ldW true 5 t1 w1 fun t3 =>
  callF Tryz.prog 43 [t3] w1 fun t4 w2 =>
  unW .not t4 fun t5 =>
  K t5 w2
theorem W100_eq (v0 : Value) (w : World) (K : Value → World → Prop) : funW Tryz.prog Tryz.f100 plan100 [v0] w K = W100 v0 w K := by kernel_rfl
theorem W100_chk : chkFun Tryz.prog Tryz.f100 plan100 1 = true := by kernel_rfl
theorem W100_ok {v0 : Value} {w : World} {K : Value → World → Prop} (h : W100 v0 w K) : callF Tryz.prog 100 [v0] w K :=
  tie Tryz.prog 100 Tryz.f100 plan100 [v0] w K 1 (W100 v0 w K) rfl mixed Tryz.func100 W100_chk (W100_eq v0 w K) Tryz.call100 h
def plan148 : Plan := { js := [(28003, ⟨[36], [], 35⟩), (16, ⟨[28], [2, 5], 28⟩), (6002, ⟨[23], [], 17⟩), (6004, ⟨[22], [], 21⟩), (6008, ⟨[20], [], 17⟩), (6013, ⟨[14], [], 12⟩)], ds := [] }
def W148 (v0 : Value) (w : World) (K : Value → World → Prop) : Prop :=
  callF Tryz.prog 184 [v0, (.string (ofL [45]))] w fun t7 w1 =>
  lensW t7 fun t9 =>
  binW .lss t9 (.int .i64 1) fun t10 =>
  GdW (isB t10 false) [undef] w1 (fun J2 =>
    lensW t7 fun t13 =>
    binW .gtr t13 (.int .i64 100) fun t14 =>
    J2 [t14] w1)
  fun s2 _ w3 =>
  pickW t10 (.bool true) (s2.getD 0 undef) fun t15 =>
  GdW (isB t15 false) [undef] w3 (fun J4 =>
    ixsW t7 (.int .i64 0) fun t18 =>
    binW .eql t18 (.int .u8 48) fun t19 =>
    J4 [t19] w3)
  fun s4 _ w5 =>
  GdW (isB (s4.getD 0 undef) true) [undef] w5 (fun J6 =>
    binW .neq v0 (.string (ofL [48])) fun t22 =>
    J6 [t22] w5)
  fun s6 _ w7 =>
  GdW (isB t15 false) [undef] w7 (fun J8 =>
    pickW (s4.getD 0 undef) (s6.getD 0 undef) (.bool false) fun t23 =>
    J8 [t23] w7)
  fun s8 _ w9 =>
  pickW t15 (.bool true) (s8.getD 0 undef) fun t24 =>
  condW t24 (
    K (.bool false) w9) (
    semE Tryz.prog (convert 9 44 t7) w9 fun t26 w10 =>
    lenlW t26 fun t27 =>
    LoopW [(.int .i64 0)] w10 fun s11 _ w12 L11 =>
      binW .lss (s11.getD 0 undef) t27 fun t29 =>
      condW t29 (
        ixaW none 1 t26 (s11.getD 0 undef) fun t30 =>
        ldW false 1 t30 w12 fun t31 =>
        binW .lss t31 (.int .u8 48) fun t33 =>
        GdW (isB t33 false) [undef] w12 (fun J13 =>
          binW .gtr t31 (.int .u8 57) fun t36 =>
          J13 [t36] w12)
        fun s13 _ w14 =>
        pickW t33 (.bool true) (s13.getD 0 undef) fun t37 =>
        condW t37 (
          K (.bool false) w14) (
          binW .add (s11.getD 0 undef) (.int .i64 1) fun t38 =>
          L11 [t38] w14)) (
        K (.bool true) w12))
theorem W148_eq (v0 : Value) (w : World) (K : Value → World → Prop) : funW Tryz.prog Tryz.f148 plan148 [v0] w K = W148 v0 w K := by kernel_rfl
theorem W148_chk : chkFun Tryz.prog Tryz.f148 plan148 1 = true := by kernel_rfl
theorem W148_ok {v0 : Value} {w : World} {K : Value → World → Prop} (h : W148 v0 w K) : callF Tryz.prog 148 [v0] w K :=
  tie Tryz.prog 148 Tryz.f148 plan148 [v0] w K 1 (W148 v0 w K) rfl mixed Tryz.func148 W148_chk (W148_eq v0 w K) Tryz.call148 h
def plan228 : Plan := { js := [], ds := [] }
def W228 (v0 : Value) (w : World) (K : Value → World → Prop) : Prop :=
  eqW .slice false v0 (.slice none 0 0) fun t4 =>
  condW t4 (
    K (.slice none 0 0) w) (
    bslW 9 0 [] [] w fun t5 w1 =>
    semE Tryz.prog (Builtin.append_ #[24, 24] 24 #[t5, v0]) w1 fun t7 w2 =>
    K t7 w2)
theorem W228_eq (v0 : Value) (w : World) (K : Value → World → Prop) : funW Tryz.prog Tryz.f228 plan228 [v0] w K = W228 v0 w K := by kernel_rfl
theorem W228_chk : chkFun Tryz.prog Tryz.f228 plan228 1 = true := by kernel_rfl
theorem W228_ok {v0 : Value} {w : World} {K : Value → World → Prop} (h : W228 v0 w K) : callF Tryz.prog 228 [v0] w K :=
  tie Tryz.prog 228 Tryz.f228 plan228 [v0] w K 1 (W228 v0 w K) rfl mixed Tryz.func228 W228_chk (W228_eq v0 w K) Tryz.call228 h
def plan229 : Plan := { js := [(8, ⟨[3, 8], [3, 5], 8⟩)], ds := [] }
def W229 (v0 : Value) (w : World) (K : Value → World → Prop) : Prop :=
  lenlW v0 fun t7 =>
  LoopW [(.slice none 0 0), (.int .i64 0)] w fun s1 _ w2 L1 =>
    binW .lss (s1.getD 1 undef) t7 fun t9 =>
    condW t9 (
      ixaW none 5 v0 (s1.getD 1 undef) fun t10 =>
      ldW true 5 t10 w2 fun t11 =>
      allocW 26 [(.int .i64 0), (.bool false), (.string (ofL [])), (.slice none 0 0), (.slice none 0 0)] w2 fun t5 w3 =>
      stW 5 t5 t11 w3 fun w4 =>
      ldW true 5 t5 w4 fun t13 =>
      callF Tryz.prog 189 [t13] w4 fun t14 w5 =>
      bslW 26 1 [(.int .i64 0), (.bool false), (.string (ofL [])), (.slice none 0 0), (.slice none 0 0)] [(0, 5, t14)] w5 fun t15 w6 =>
      semE Tryz.prog (Builtin.append_ #[23, 23] 23 #[(s1.getD 0 undef), t15]) w6 fun t16 w7 =>
      binW .add (s1.getD 1 undef) (.int .i64 1) fun t17 =>
      L1 [t16, t17] w7) (
      K (s1.getD 0 undef) w2)
theorem W229_eq (v0 : Value) (w : World) (K : Value → World → Prop) : funW Tryz.prog Tryz.f229 plan229 [v0] w K = W229 v0 w K := by kernel_rfl
theorem W229_chk : chkFun Tryz.prog Tryz.f229 plan229 1 = true := by kernel_rfl
theorem W229_ok {v0 : Value} {w : World} {K : Value → World → Prop} (h : W229 v0 w K) : callF Tryz.prog 229 [v0] w K :=
  tie Tryz.prog 229 Tryz.f229 plan229 [v0] w K 1 (W229 v0 w K) rfl mixed Tryz.func229 W229_chk (W229_eq v0 w K) Tryz.call229 h
def plan150 : Plan := { js := [(6, ⟨[8], [4, 5], 8⟩)], ds := [] }
def W150 (v0 v1 : Value) (w : World) (K : Value → World → Prop) : Prop :=
  lenlW v0 fun t7 =>
  LoopW [(.int .i64 0)] w fun s1 _ w2 L1 =>
    binW .lss (s1.getD 0 undef) t7 fun t9 =>
    condW t9 (
      ixaW none 5 v0 (s1.getD 0 undef) fun t14 =>
      ldW true 5 t14 w2 fun t15 =>
      callV Tryz.prog v1 [t15] w2 fun t16 w3 =>
      condW t16 (
        K (s1.getD 0 undef) w3) (
        binW .add (s1.getD 0 undef) (.int .i64 1) fun t18 =>
        L1 [t18] w3)) (
      K (.int .i64 (-1)) w2)
theorem W150_eq (v0 v1 : Value) (w : World) (K : Value → World → Prop) : funW Tryz.prog Tryz.f150 plan150 [v0, v1] w K = W150 v0 v1 w K := by kernel_rfl
theorem W150_chk : chkFun Tryz.prog Tryz.f150 plan150 2 = true := by kernel_rfl
theorem W150_ok {v0 v1 : Value} {w : World} {K : Value → World → Prop} (h : W150 v0 v1 w K) : callF Tryz.prog 150 [v0, v1] w K :=
  tie Tryz.prog 150 Tryz.f150 plan150 [v0, v1] w K 2 (W150 v0 v1 w K) rfl mixed Tryz.func150 W150_chk (W150_eq v0 v1 w K) Tryz.call150 h
def plan227 : Plan := { js := [], ds := [] }
def W227 (v0 : Value) (w : World) (K : Value → World → Prop) : Prop :=
  binW .neq v0 v0 fun t5 =>
  K t5 w
theorem W227_eq (v0 : Value) (w : World) (K : Value → World → Prop) : funW Tryz.prog Tryz.f227 plan227 [v0] w K = W227 v0 w K := by kernel_rfl
theorem W227_chk : chkFun Tryz.prog Tryz.f227 plan227 1 = true := by kernel_rfl
theorem W227_ok {v0 : Value} {w : World} {K : Value → World → Prop} (h : W227 v0 w K) : callF Tryz.prog 227 [v0] w K :=
  tie Tryz.prog 227 Tryz.f227 plan227 [v0] w K 1 (W227 v0 w K) rfl mixed Tryz.func227 W227_chk (W227_eq v0 w K) Tryz.call227 h
def plan184 : Plan := { js := [], ds := [] }
def W184 (v0 v1 : Value) (w : World) (K : Value → World → Prop) : Prop :=
  callF Tryz.prog 222 [v0, v1] w fun t7 w1 =>
  K t7 w1
theorem W184_eq (v0 v1 : Value) (w : World) (K : Value → World → Prop) : funW Tryz.prog Tryz.f184 plan184 [v0, v1] w K = W184 v0 v1 w K := by kernel_rfl
theorem W184_chk : chkFun Tryz.prog Tryz.f184 plan184 2 = true := by kernel_rfl
theorem W184_ok {v0 v1 : Value} {w : World} {K : Value → World → Prop} (h : W184 v0 v1 w K) : callF Tryz.prog 184 [v0, v1] w K :=
  tie Tryz.prog 184 Tryz.f184 plan184 [v0, v1] w K 2 (W184 v0 v1 w K) rfl mixed Tryz.func184 W184_chk (W184_eq v0 v1 w K) Tryz.call184 h
def plan222 : Plan := { js := [], ds := [] }
def W222 (v0 v1 : Value) (w : World) (K : Value → World → Prop) : Prop :=
  callF Tryz.prog 156 [v0, v1] w fun t7 w1 =>
  condW t7 (
    lensW v1 fun t10 =>
    slsW v0 (some t10) none fun t11 =>
    K t11 w1) (
    K v0 w1)
theorem W222_eq (v0 v1 : Value) (w : World) (K : Value → World → Prop) : funW Tryz.prog Tryz.f222 plan222 [v0, v1] w K = W222 v0 v1 w K := by kernel_rfl
theorem W222_chk : chkFun Tryz.prog Tryz.f222 plan222 2 = true := by kernel_rfl
theorem W222_ok {v0 v1 : Value} {w : World} {K : Value → World → Prop} (h : W222 v0 v1 w K) : callF Tryz.prog 222 [v0, v1] w K :=
  tie Tryz.prog 222 Tryz.f222 plan222 [v0, v1] w K 2 (W222 v0 v1 w K) rfl mixed Tryz.func222 W222_chk (W222_eq v0 v1 w K) Tryz.call222 h
def plan225 : Plan := { js := [], ds := [] }
def W225 (v0 v1 v2 : Value) (w : World) (K : Value → World → Prop) : Prop :=
  callF Tryz.prog 255 [v0, v1, v2] w fun t14 w1 =>
  extW 0 t14 fun t15 =>
  extW 1 t14 fun t16 =>
  eqQ Tryz.prog .neq 111 false true t16 .nilIface w1 fun t18 =>
  condW t18 (
    callF Tryz.prog 180 [(.string (ofL [80, 97, 114, 115, 101, 85, 105, 110, 116])), v0, v1, v2, t16] w1 fun t24 w2 =>
    K (.tuple #[t15, t24]) w2) (
    K (.tuple #[t15, .nilIface]) w1)
theorem W225_eq (v0 v1 v2 : Value) (w : World) (K : Value → World → Prop) : funW Tryz.prog Tryz.f225 plan225 [v0, v1, v2] w K = W225 v0 v1 v2 w K := by kernel_rfl
theorem W225_chk : chkFun Tryz.prog Tryz.f225 plan225 3 = true := by kernel_rfl
theorem W225_ok {v0 v1 v2 : Value} {w : World} {K : Value → World → Prop} (h : W225 v0 v1 v2 w K) : callF Tryz.prog 225 [v0, v1, v2] w K :=
  tie Tryz.prog 225 Tryz.f225 plan225 [v0, v1, v2] w K 3 (W225 v0 v1 v2 w K) rfl mixed Tryz.func225 W225_chk (W225_eq v0 v1 v2 w K) Tryz.call225 h
def plan226 : Plan := { js := [(3005, ⟨[15], [], 13⟩), (3010, ⟨[10], [], 8⟩)], ds := [] }
def W226 (v0 v1 : Value) (w : World) (K : Value → World → Prop) : Prop :=
  callF Tryz.prog 146 [v0] w fun t6 w1 =>
  GdW (isB t6 true) [undef] w1 (fun J2 =>
    callF Tryz.prog 146 [v1] w1 fun t9 w3 =>
    unW .not t9 fun t10 =>
    J2 [t10] w3)
  fun s2 _ w4 =>
  pickW t6 (s2.getD 0 undef) (.bool false) fun t11 =>
  GdW (isB t11 false) [undef] w4 (fun J5 =>
    binW .lss v0 v1 fun t15 =>
    J5 [t15] w4)
  fun s5 _ w6 =>
  pickW t11 (.bool true) (s5.getD 0 undef) fun t16 =>
  K t16 w6
theorem W226_eq (v0 v1 : Value) (w : World) (K : Value → World → Prop) : funW Tryz.prog Tryz.f226 plan226 [v0, v1] w K = W226 v0 v1 w K := by kernel_rfl
theorem W226_chk : chkFun Tryz.prog Tryz.f226 plan226 2 = true := by kernel_rfl
theorem W226_ok {v0 v1 : Value} {w : World} {K : Value → World → Prop} (h : W226 v0 v1 w K) : callF Tryz.prog 226 [v0, v1] w K :=
  tie Tryz.prog 226 Tryz.f226 plan226 [v0, v1] w K 2 (W226 v0 v1 w K) rfl mixed Tryz.func226 W226_chk (W226_eq v0 v1 w K) Tryz.call226 h
def plan146 : Plan := { js := [], ds := [] }
def W146 (v0 : Value) (w : World) (K : Value → World → Prop) : Prop :=
  binW .neq v0 v0 fun t5 =>
  K t5 w
theorem W146_eq (v0 : Value) (w : World) (K : Value → World → Prop) : funW Tryz.prog Tryz.f146 plan146 [v0] w K = W146 v0 w K := by kernel_rfl
theorem W146_chk : chkFun Tryz.prog Tryz.f146 plan146 1 = true := by kernel_rfl
theorem W146_ok {v0 : Value} {w : World} {K : Value → World → Prop} (h : W146 v0 w K) : callF Tryz.prog 146 [v0] w K :=
  tie Tryz.prog 146 Tryz.f146 plan146 [v0] w K 1 (W146 v0 w K) rfl mixed Tryz.func146 W146_chk (W146_eq v0 w K) Tryz.call146 h
end Go.Proofs.YtcnjpcadejcenaaGreatDoor
namespace Go.Proofs
open Go.Shelf
def Tryz.lays170_ren : Go.Shelf.Ren := ⟨fun | 170 => 46 | n => n, fun | 70 => 76 | 3 => 3 | 0 => 0 | 72 => 78 | 37 => 44 | 5 => 5 | n => n, fun | n => n⟩
theorem Tryz.lays170 : Go.Proofs.Lays.n170 Tryz.prog Tryz.lays170_ren := {
  mixed := by kernel_rfl
  f170 := Tryz.func46.trans (congrArg some (by kernel_rfl))
  t0 := Tryz.underlying0
  a0 := Tryz.isAgg0
  z0 := Tryz.sizeOf0
  v0 := Tryz.zeroValue0
  t3 := Tryz.underlying3
  a3 := Tryz.isAgg3
  z3 := Tryz.sizeOf3
  v3 := Tryz.zeroValue3
  t37 := Tryz.underlying44
  a37 := Tryz.isAgg44
  z37 := Tryz.sizeOf44
  v37 := Tryz.zeroValue44
  t70 := Tryz.underlying76
  a70 := Tryz.isAgg76
  z70 := Tryz.sizeOf76
  v70 := Tryz.zeroValue76
  t72 := Tryz.underlying78
  a72 := Tryz.isAgg78
  z72 := Tryz.sizeOf78
  v72 := Tryz.zeroValue78 }
def Tryz.lays169_ren : Go.Shelf.Ren := ⟨fun | 169 => 47 | n => n, fun | 70 => 76 | 9 => 9 | 0 => 0 | 72 => 78 | 37 => 44 | 127 => 136 | 3 => 3 | 5 => 5 | n => n, fun | n => n⟩
theorem Tryz.lays169 : Go.Proofs.Lays.n169 Tryz.prog Tryz.lays169_ren := {
  mixed := by kernel_rfl
  f169 := Tryz.func47.trans (congrArg some (by kernel_rfl))
  t0 := Tryz.underlying0
  a0 := Tryz.isAgg0
  z0 := Tryz.sizeOf0
  v0 := Tryz.zeroValue0
  t3 := Tryz.underlying3
  a3 := Tryz.isAgg3
  z3 := Tryz.sizeOf3
  v3 := Tryz.zeroValue3
  t9 := Tryz.underlying9
  a9 := Tryz.isAgg9
  z9 := Tryz.sizeOf9
  v9 := Tryz.zeroValue9
  t37 := Tryz.underlying44
  a37 := Tryz.isAgg44
  z37 := Tryz.sizeOf44
  v37 := Tryz.zeroValue44
  t70 := Tryz.underlying76
  a70 := Tryz.isAgg76
  z70 := Tryz.sizeOf76
  v70 := Tryz.zeroValue76
  t72 := Tryz.underlying78
  a72 := Tryz.isAgg78
  z72 := Tryz.sizeOf78
  v72 := Tryz.zeroValue78
  t127 := Tryz.underlying136
  a127 := Tryz.isAgg136
  z127 := Tryz.sizeOf136
  v127 := Tryz.zeroValue136 }
theorem Tryz.Builder_Extra_169 : Builder.Extra Tryz.prog Tryz.lays169_ren := {
  sizeBuilder := by kernel_rfl
  liesBuilder := by kernel_rfl
  t5 := Tryz.underlying5
  a5 := Tryz.isAgg5
  z5 := Tryz.sizeOf5
  v5 := Tryz.zeroValue5
  infoByte := by kernel_rfl
  cellsByte := by kernel_rfl
  sizeByte := by kernel_rfl
  neB5 := by decide }
def Tryz.lays137_ren : Go.Shelf.Ren := ⟨fun | 137 => 85 | 217 => 141 | 266 => 178 | n => n, fun | 9 => 9 | 5 => 5 | 3 => 3 | n => n, fun | n => n⟩
theorem Tryz.lays137 : Go.Proofs.Lays.n137 Tryz.prog Tryz.lays137_ren := {
  mixed := by kernel_rfl
  f137 := Tryz.func85.trans (congrArg some (by kernel_rfl))
  f217 := Tryz.func141.trans (congrArg some (by kernel_rfl))
  f266 := Tryz.func178.trans (congrArg some (by kernel_rfl))
  t3 := Tryz.underlying3
  a3 := Tryz.isAgg3
  z3 := Tryz.sizeOf3
  v3 := Tryz.zeroValue3
  t5 := Tryz.underlying5
  a5 := Tryz.isAgg5
  z5 := Tryz.sizeOf5
  v5 := Tryz.zeroValue5
  t9 := Tryz.underlying9
  a9 := Tryz.isAgg9
  z9 := Tryz.sizeOf9
  v9 := Tryz.zeroValue9 }
open Go.RowKit in
theorem Tryz.strings_IndexByte (s : ByteArray) (c : Int) (w : World) :
    Calls Tryz.prog 85 #[.string s, .int .u8 c] w fun e w' => e = .returned (.int .i64 (Lib.indexByte s.data.toList c.toNat.toUInt8)) ∧ w' = w := Any.strings_IndexByte Tryz.lays137 s c w
def Tryz.lays121_ren : Go.Shelf.Ren := ⟨fun | 121 => 104 | 214 => 152 | n => n, fun | 4 => 4 | 9 => 9 | n => n, fun | n => n⟩
theorem Tryz.lays121 : Go.Proofs.Lays.n121 Tryz.prog Tryz.lays121_ren := {
  mixed := by kernel_rfl
  f121 := Tryz.func104.trans (congrArg some (by kernel_rfl))
  f214 := Tryz.func152.trans (congrArg some (by kernel_rfl))
  t4 := Tryz.underlying4
  a4 := Tryz.isAgg4
  z4 := Tryz.sizeOf4
  v4 := Tryz.zeroValue4
  t9 := Tryz.underlying9
  a9 := Tryz.isAgg9
  z9 := Tryz.sizeOf9
  v9 := Tryz.zeroValue9 }
open Go.RowKit in
theorem Tryz.strconv_FormatBool (b : Bool) (w : World) :
    Calls Tryz.prog 104 #[.bool b] w fun e w' => e = .returned (.string ⟨(Lib.formatBool b).toArray⟩) ∧ w' = w := Any.strconv_FormatBool Tryz.lays121 b w
open Go.RowKit in
theorem Tryz.Builder_Len_f (B b : Nat) (bs : List Value) (w : World) (h : Lib.IsBuilderF 78 5 B b bs w) :
    Calls Tryz.prog 46 #[.pointer (some ⟨b, 0, none⟩)] w fun e w' => e = .returned (.int .i64 bs.length) ∧ w' = w := Any.Builder_Len_f Tryz.lays170 B b bs w h
open Go.RowKit in
theorem Tryz.Builder_String_any_k (B b : Nat) (l : List UInt8) (w : World) (h : Lib.IsBuilderF 78 5 B b (Lib.byteCells l) w) (hBw : B ≤ w.heap.size) :
    Calls Tryz.prog 47 #[.pointer (some ⟨b, 0, none⟩)] w fun e w' => e = .returned (.string ⟨l.toArray⟩) ∧ (Lib.IsBuilderF 78 5 B b (Lib.byteCells l) w' ∧ Below B w w' ∧ Lib.OthersKept 5 (some b) w w') := Any.Builder_String_any_k Tryz.lays169 Tryz.Builder_Extra_169 B b l w h hBw
def Tryz.laysM316_ren : Go.Shelf.Ren := ⟨fun | 316 => 134 | n => n, fun | 9 => 9 | 3 => 3 | 4 => 4 | 37 => 44 | 0 => 0 | 127 => 136 | 5 => 5 | n => n, fun | n => n⟩
theorem Tryz.laysM316 : Go.Proofs.LaysM.n316 Tryz.prog Tryz.laysM316_ren := {
  mixed := by kernel_rfl
  f316 := Tryz.func134.trans (congrArg some (by kernel_rfl))
  t0 := Tryz.underlying0
  a0 := Tryz.isAgg0
  z0 := Tryz.sizeOf0
  v0 := Tryz.zeroValue0
  t3 := Tryz.underlying3
  a3 := Tryz.isAgg3
  z3 := Tryz.sizeOf3
  v3 := Tryz.zeroValue3
  t4 := Tryz.underlying4
  a4 := Tryz.isAgg4
  z4 := Tryz.sizeOf4
  v4 := Tryz.zeroValue4
  t9 := Tryz.underlying9
  a9 := Tryz.isAgg9
  z9 := Tryz.sizeOf9
  v9 := Tryz.zeroValue9
  t37 := Tryz.underlying44
  a37 := Tryz.isAgg44
  z37 := Tryz.sizeOf44
  v37 := Tryz.zeroValue44
  t127 := Tryz.underlying136
  a127 := Tryz.isAgg136
  z127 := Tryz.sizeOf136
  v127 := Tryz.zeroValue136
  t5 := Tryz.underlying5
  a5 := Tryz.isAgg5
  z5 := Tryz.sizeOf5
  v5 := Tryz.zeroValue5
  i0 := by kernel_rfl
  i3 := by kernel_rfl
  i4 := by kernel_rfl
  i5 := by kernel_rfl
  i9 := by kernel_rfl
  i37 := by kernel_rfl
  i127 := by kernel_rfl }
open Go.RowKit in
theorem Tryz.stringslite_Clone (s : ByteArray) (w : World) (hlim : s.size ≤ 281474976710656) :
    Calls Tryz.prog 134 #[.string s] w fun e w' => e = .returned (.string s) ∧ Below w.heap.size w w' := Any.stringslite_Clone Tryz.laysM316 s w hlim
def Tryz.lays206_ren : Go.Shelf.Ren := ⟨fun | 206 => 156 | n => n, fun | 9 => 9 | 4 => 4 | 3 => 3 | n => n, fun | n => n⟩
theorem Tryz.lays206 : Go.Proofs.Lays.n206 Tryz.prog Tryz.lays206_ren := {
  mixed := by kernel_rfl
  f206 := Tryz.func156.trans (congrArg some (by kernel_rfl))
  t3 := Tryz.underlying3
  a3 := Tryz.isAgg3
  z3 := Tryz.sizeOf3
  v3 := Tryz.zeroValue3
  t4 := Tryz.underlying4
  a4 := Tryz.isAgg4
  z4 := Tryz.sizeOf4
  v4 := Tryz.zeroValue4
  t9 := Tryz.underlying9
  a9 := Tryz.isAgg9
  z9 := Tryz.sizeOf9
  v9 := Tryz.zeroValue9 }
open Go.RowKit Go.Lib in
theorem Tryz.stringslite_HasPrefix (s p : ByteArray) (w : World) :
    Calls Tryz.prog 156 #[.string s, .string p] w fun e w' => e = .returned (.bool (Lib.hasPrefix s.data.toList p.data.toList)) ∧ w' = w := Any.stringslite_HasPrefix Tryz.lays206 s p w
def Tryz.lays99_ren : Go.Shelf.Ren := ⟨fun | 99 => 107 | 206 => 156 | n => n, fun | 9 => 9 | 4 => 4 | 3 => 3 | n => n, fun | n => n⟩
theorem Tryz.lays99 : Go.Proofs.Lays.n99 Tryz.prog Tryz.lays99_ren := {
  mixed := by kernel_rfl
  f99 := Tryz.func107.trans (congrArg some (by kernel_rfl))
  f206 := Tryz.func156.trans (congrArg some (by kernel_rfl))
  t3 := Tryz.underlying3
  a3 := Tryz.isAgg3
  z3 := Tryz.sizeOf3
  v3 := Tryz.zeroValue3
  t4 := Tryz.underlying4
  a4 := Tryz.isAgg4
  z4 := Tryz.sizeOf4
  v4 := Tryz.zeroValue4
  t9 := Tryz.underlying9
  a9 := Tryz.isAgg9
  z9 := Tryz.sizeOf9
  v9 := Tryz.zeroValue9 }
open Go.RowKit Go.Lib in
theorem Tryz.strings_HasPrefix (s p : ByteArray) (w : World) :
    Calls Tryz.prog 107 #[.string s, .string p] w fun e w' => e = .returned (.bool (Lib.hasPrefix s.data.toList p.data.toList)) ∧ w' = w := Any.strings_HasPrefix Tryz.lays99 s p w
def Tryz.lays197_ren : Go.Shelf.Ren := ⟨fun | 197 => 159 | 260 => 186 | n => n, fun | 9 => 9 | 21 => 21 | 3 => 3 | 4 => 4 | 5 => 5 | 105 => 164 | 119 => 157 | 0 => 0 | 46 => 43 | 139 => 160 | 138 => 159 | n => n, fun | 3 => 0 | 4 => 1 | n => n⟩
theorem Tryz.lays197 : Go.Proofs.Lays.n197 Tryz.prog Tryz.lays197_ren := {
  mixed := by kernel_rfl
  f197 := Tryz.func159.trans (congrArg some (by kernel_rfl))
  f260 := Tryz.func186.trans (congrArg some (by kernel_rfl))
  t0 := Tryz.underlying0
  a0 := Tryz.isAgg0
  z0 := Tryz.sizeOf0
  v0 := Tryz.zeroValue0
  t3 := Tryz.underlying3
  a3 := Tryz.isAgg3
  z3 := Tryz.sizeOf3
  v3 := Tryz.zeroValue3
  t4 := Tryz.underlying4
  a4 := Tryz.isAgg4
  z4 := Tryz.sizeOf4
  v4 := Tryz.zeroValue4
  t5 := Tryz.underlying5
  a5 := Tryz.isAgg5
  z5 := Tryz.sizeOf5
  v5 := Tryz.zeroValue5
  t9 := Tryz.underlying9
  a9 := Tryz.isAgg9
  z9 := Tryz.sizeOf9
  v9 := Tryz.zeroValue9
  t21 := Tryz.underlying21
  a21 := Tryz.isAgg21
  z21 := Tryz.sizeOf21
  v21 := Tryz.zeroValue21
  t46 := Tryz.underlying43
  a46 := Tryz.isAgg43
  z46 := Tryz.sizeOf43
  v46 := Tryz.zeroValue43
  t105 := Tryz.underlying164
  a105 := Tryz.isAgg164
  z105 := Tryz.sizeOf164
  v105 := Tryz.zeroValue164
  t119 := Tryz.underlying157
  a119 := Tryz.isAgg157
  z119 := Tryz.sizeOf157
  t138 := Tryz.underlying159
  a138 := Tryz.isAgg159
  z138 := Tryz.sizeOf159
  v138 := Tryz.zeroValue159
  t139 := Tryz.underlying160
  a139 := Tryz.isAgg160
  z139 := Tryz.sizeOf160
  v139 := Tryz.zeroValue160
  g3 := by kernel_rfl
  g4 := by kernel_rfl }
open Go.RowKit Go.Lib in
theorem Tryz.utf8_DecodeRuneInString (s : ByteArray) (w : World) (hT : Lib.Utf8Tabs 0 1 w) :
    Calls Tryz.prog 159 #[.string s] w fun e w' => e = .returned (.tuple #[.int .i32 (Lib.decodeGo s).1, .int .i64 (Lib.decodeGo s).2]) ∧ Below w.heap.size w w' := Any.utf8_DecodeRuneInString Tryz.lays197 s w hT
def Tryz.laysValid_ren : Go.Shelf.Ren := ⟨fun | 196 => 102 | 259 => 151 | n => n, fun | 9 => 9 | 4 => 4 | 3 => 3 | 5 => 5 | 12 => 12 | 119 => 157 | 0 => 0 | 46 => 43 | 139 => 160 | 138 => 159 | 53 => 182 | n => n, fun | 3 => 0 | 4 => 1 | n => n⟩
theorem Tryz.laysValid : Go.Proofs.Lays.n196 Tryz.prog Tryz.laysValid_ren := {
  mixed := by kernel_rfl
  f196 := Tryz.func102.trans (congrArg some (by kernel_rfl))
  f259 := Tryz.func151.trans (congrArg some (by kernel_rfl))
  t0 := Tryz.underlying0
  a0 := Tryz.isAgg0
  z0 := Tryz.sizeOf0
  v0 := Tryz.zeroValue0
  t3 := Tryz.underlying3
  a3 := Tryz.isAgg3
  z3 := Tryz.sizeOf3
  v3 := Tryz.zeroValue3
  t4 := Tryz.underlying4
  a4 := Tryz.isAgg4
  z4 := Tryz.sizeOf4
  v4 := Tryz.zeroValue4
  t5 := Tryz.underlying5
  a5 := Tryz.isAgg5
  z5 := Tryz.sizeOf5
  v5 := Tryz.zeroValue5
  t9 := Tryz.underlying9
  a9 := Tryz.isAgg9
  z9 := Tryz.sizeOf9
  v9 := Tryz.zeroValue9
  t12 := Tryz.underlying12
  a12 := Tryz.isAgg12
  z12 := Tryz.sizeOf12
  v12 := Tryz.zeroValue12
  t46 := Tryz.underlying43
  a46 := Tryz.isAgg43
  z46 := Tryz.sizeOf43
  v46 := Tryz.zeroValue43
  t53 := Tryz.underlying182
  a53 := Tryz.isAgg182
  z53 := Tryz.sizeOf182
  v53 := Tryz.zeroValue182
  t119 := Tryz.underlying157
  a119 := Tryz.isAgg157
  z119 := Tryz.sizeOf157
  t138 := Tryz.underlying159
  a138 := Tryz.isAgg159
  z138 := Tryz.sizeOf159
  v138 := Tryz.zeroValue159
  t139 := Tryz.underlying160
  a139 := Tryz.isAgg160
  z139 := Tryz.sizeOf160
  v139 := Tryz.zeroValue160
  g3 := by kernel_rfl
  g4 := by kernel_rfl }
open Go.RowKit Go.Lib in
theorem Tryz.utf8_ValidString (s : ByteArray) (w : World) (hs : s.size ≤ 9223372036854775807) (hT : Lib.Utf8Tabs (Tryz.laysValid_ren.g 3) (Tryz.laysValid_ren.g 4) w) :
    Calls Tryz.prog 102 #[.string s] w fun e w' => e = .returned (.bool (Lib.validD s.data.toList)) ∧ Below w.heap.size w w' := Any.utf8_ValidString Tryz.laysValid s w hs hT
end Go.Proofs
namespace Go.Proofs.YtcnjpcadejcenaaGreatDoor
open Go Go.Eng Go.Num
set_option maxRecDepth 100000
abbrev u64 (n : Nat) : Value := .int .u64 (n : Int)
abbrev U8 : TypeId := 5
theorem bytes_ext (w : World) (e : TypeId) (s : ByteArray) : Ext w (Lib.bytesWorld w e s) :=
  ⟨rfl, rfl, rfl, by rw [Lib.bytesWorld_size]; omega, fun k hk _ => Lib.bytesWorld_at_old w e s k hk⟩
theorem to_bytes {l : Str} {w : World} {src dst : TypeId} {K : Value → World → Prop} (hs : Tryz.prog.underlying src = some .string) (hd : Tryz.prog.underlying dst = some (.slice U8)) (he : Tryz.prog.underlying U8 = some (.int .u8))
    (hK : ∀ v w', Byt w' U8 v l → Ext w w' → K v w') : semE Tryz.prog (convert src dst (str l)) w K := by
  unfold semE
  rw [Lib.run_convert_string_bytes w src dst U8 (ofL l) hs hd he]
  refine hK _ _ ?_ (bytes_ext _ _ _)
  have hle : (ofL l).size ≤ grownCap w (ofL l).size 0 U8 := by
    exact grownCap_ge w (ofL l).size 0 U8
  refine ⟨some ⟨w.heap.size, 0, none⟩, grownCap w (ofL l).size 0 U8, by rw [ofL_size], by rw [← ofL_size]; exact hle, (fun e => by cases e), fun _ => ⟨w.heap.size, 0, _, _, rfl, Lib.bytesWorld_at_new w U8 (ofL l), fun i hi => ?_⟩⟩
  have hi : i < (ofL l).size := by rw [ofL_size]; simpa [u8s_length] using hi
  have := Lib.bytesWorld_cell w U8 (ofL l) i hi
  rw [cell_eq, Lib.bytesWorld_at_new, cellO_some] at this
  rw [Nat.zero_add, this, u8s_get, ofL_data]
  have hi' : i < l.length := by rw [ofL_size] at hi; exact hi
  simp [List.getD_eq_getElem?_getD, List.getElem?_eq_getElem hi']
theorem of_calls [HX] {g : FuncId} {args : Array Value} {w : World} {K : Value → World → Prop} (hr : ∀ (ar : Array Value) (w : World), (callFunc g ar).run Tryz.prog w = .ok (.enter g ar) w)
    (h : Calls Tryz.prog g args w fun e w' => ∃ v, e = .returned v ∧ K v w') : callF Tryz.prog g args.toList w K := by
  unfold callF
  rw [show args.toList.toArray = args from by simp, hr]
  refine h.mono ?_
  rintro e w' ⟨v, rfl, hk⟩
  exact hk
section
variable [HX]
theorem nan_s (s : Str) (KK : Value → Prop) (h : KK (.bool false)) : binW .neq (str s) (str s) KK := by rw [bin_sne]; simpa using h
theorem isnan_s {s : Str} {w : World} {K : Value → World → Prop} (hK : K (.bool false) w) : callF Tryz.prog 146 [str s] w K := by
  refine W146_ok ?_
  exact nan_s s _ hK
theorem isnan_s2 {s : Str} {w : World} {K : Value → World → Prop} (hK : K (.bool false) w) : callF Tryz.prog 227 [str s] w K := by
  refine W227_ok ?_
  exact nan_s s _ hK
theorem cmp_less {a b : Str} {w : World} {K : Value → World → Prop} (hK : K (.bool (Op.bytesLess a b)) w) : callF Tryz.prog 226 [str a, str b] w K := by
  refine W226_ok ?_
  unfold W226
  refine isnan_s ?_
  simp only [wsv, wsg, wsh, wsl, cond_true, cond_false, exists_eq_left', Option.some.injEq, Option.isSome_some, List.getElem?_toArray, List.getElem?_cons_zero, List.getElem?_cons_succ, List.length_cons, List.length_nil, List.set_cons_zero, List.set_cons_succ, List.getD_cons_zero, List.getD_cons_succ, Nat.zero_add, Nat.add_zero, Nat.reduceAdd, Nat.reduceLT, Nat.lt_add_one, Nat.zero_lt_succ, decide_true, decide_false, ne_eq, reduceCtorEq]
  intros
  exact hK
theorem pre_ref {s p : Str} {w : World} {K : Value → World → Prop} (hs : s.length ≤ 9223372036854775807) (hK : K (.bool (p.isPrefixOf s)) w) : callF Tryz.prog 156 [str s, str p] w K := by
  refine of_calls (args := #[str s, str p]) Tryz.call156 ((Tryz.stringslite_HasPrefix (ofL s) (ofL p) w).mono ?_)
  rintro e w' ⟨rfl, rfl⟩
  refine ⟨_, rfl, ?_⟩
  rw [ofL_data, ofL_data]
  exact hK
theorem trimpre_ref {a : Str} {w : World} {K : Value → World → Prop} (hs : a.length ≤ 9223372036854775807) (hK : K (str (dig a)) w) : callF Tryz.prog 184 [str a, str [45]] w K := by
  refine W184_ok ?_
  unfold W184
  refine W222_ok ?_
  unfold W222
  refine pre_ref hs ?_
  cases a with
  | nil =>
    rw [show ([45] : Str).isPrefixOf [] = false from rfl]
    simp only [wsv, wsg, wsh, wsl, cond_true, cond_false, exists_eq_left', Option.some.injEq, Option.isSome_some, List.getElem?_toArray, List.getElem?_cons_zero, List.getElem?_cons_succ, List.length_cons, List.length_nil, List.set_cons_zero, List.set_cons_succ, List.getD_cons_zero, List.getD_cons_succ, Nat.zero_add, Nat.add_zero, Nat.reduceAdd, Nat.reduceLT, Nat.lt_add_one, Nat.zero_lt_succ, decide_true, decide_false, ne_eq, reduceCtorEq]
    exact hK
  | cons c r =>
    by_cases hc : c = 45
    · subst hc
      have e : ([45] : Str).isPrefixOf (45 :: r) = true := by simp [List.isPrefixOf]
      have ed : dig (45 :: r) = r := by simp [dig]
      rw [ed] at hK
      rw [e]
      have e1 : ((0 + 1 : Nat) : Int).toNat = 1 := rfl
      simp only [wsv, wsg, wsh, wsl, cond_true, cond_false, exists_eq_left', Option.some.injEq, Option.isSome_some, List.getElem?_toArray, List.getElem?_cons_zero, List.getElem?_cons_succ, List.length_cons, List.length_nil, List.set_cons_zero, List.set_cons_succ, List.getD_cons_zero, List.getD_cons_succ, Nat.zero_add, Nat.add_zero, Nat.reduceAdd, Nat.reduceLT, Nat.lt_add_one, Nat.zero_lt_succ, decide_true, decide_false, ne_eq, reduceCtorEq, e1]
      refine ⟨by omega, by omega, ?_⟩
      rw [← List.length_cons (a := (45 : UInt8)), List.take_length]
      exact hK
    · have e : ([45] : Str).isPrefixOf (c :: r) = false := by simp [List.isPrefixOf, Ne.symm hc]
      have ed : dig (c :: r) = c :: r := by simp [dig, hc]
      rw [ed] at hK
      rw [e]
      simp only [wsv, wsg, wsh, wsl, cond_true, cond_false, exists_eq_left', Option.some.injEq, Option.isSome_some, List.getElem?_toArray, List.getElem?_cons_zero, List.getElem?_cons_succ, List.length_cons, List.length_nil, List.set_cons_zero, List.set_cons_succ, List.getD_cons_zero, List.getD_cons_succ, Nat.zero_add, Nat.add_zero, Nat.reduceAdd, Nat.reduceLT, Nat.lt_add_one, Nat.zero_lt_succ, decide_true, decide_false, ne_eq, reduceCtorEq]
      exact hK
theorem numgood_ref {a : Str} {w : World} {K : Value → World → Prop} (ha : a.length ≤ 9223372036854775807) (hK : ∀ w', Ext w w' → K (.bool (goodN a)) w') : callF Tryz.prog 148 [str a] w K := by
  refine W148_ok ?_
  unfold W148
  refine trimpre_ref ha ?_
  have hg : goodN a = (!decide ((dig a).length < 1) && !decide (100 < (dig a).length) && !((dig a).head? == some 48 && !decide (a = [48])) && (dig a).all Num.isDig) := by
    unfold goodN
    have e1 : decide (1 ≤ (dig a).length) = !decide ((dig a).length < 1) := by rw [← decide_not]; exact decide_eq_decide.2 (by omega)
    have e2 : decide ((dig a).length ≤ 100) = !decide (100 < (dig a).length) := by rw [← decide_not]; exact decide_eq_decide.2 (by omega)
    rw [e1, e2]
    cases ((dig a).head? == some 48) <;> cases decide (a = [48]) <;> simp
  rw [hg] at hK
  have hdl : (dig a).length ≤ a.length := by
    cases a with
    | nil => simp [dig]
    | cons c r => simp only [dig]; split <;> simp
  cases hd : dig a with
  | nil =>
    rw [hd] at hK
    have hz : decide (((0 : Nat) : Int) < 1) = true := by decide
    simp only [wsv, wsg, wsh, wsl, cond_true, cond_false, exists_eq_left', Option.some.injEq, Option.isSome_some, List.getElem?_toArray, List.getElem?_cons_zero, List.getElem?_cons_succ, List.length_cons, List.length_nil, List.set_cons_zero, List.set_cons_succ, List.getD_cons_zero, List.getD_cons_succ, Nat.zero_add, Nat.add_zero, Nat.reduceAdd, Nat.reduceLT, Nat.lt_add_one, Nat.zero_lt_succ, decide_true, decide_false, ne_eq, reduceCtorEq, hz]
    intros
    exact hK _ (Chg.refl _ _)
  | cons c r =>
    rw [hd] at hK hdl
    have hz : decide (((r.length + 1 : Nat) : Int) < 1) = false := decide_eq_false (by omega)
    simp only [wsv, wsg, wsh, wsl, cond_true, cond_false, exists_eq_left', Option.some.injEq, Option.isSome_some, List.getElem?_toArray, List.getElem?_cons_zero, List.getElem?_cons_succ, List.length_cons, List.length_nil, List.set_cons_zero, List.set_cons_succ, List.getD_cons_zero, List.getD_cons_succ, Nat.zero_add, Nat.add_zero, Nat.reduceAdd, Nat.reduceLT, Nat.lt_add_one, Nat.zero_lt_succ, decide_true, decide_false, ne_eq, reduceCtorEq, Int.le_refl, Int.toNat_zero, u8_is c 48 48 rfl, hz]
    intros
    rw [condW_b]
    have e1 : decide ((100 : Int) < ((r.length + 1 : Nat) : Int)) = decide (100 < (c :: r).length) := decide_eq_decide.2 (by simp only [List.length_cons]; omega)
    have e4 : decide ((c :: r).length < 1) = false := decide_eq_false (by simp)
    have e5 : ((c :: r).head? == some 48) = (c == 48) := by simp
    rw [e1]
    rw [e4, e5] at hK
    simp only [decide_not]
    generalize decide (100 < (c :: r).length) = b1 at *
    generalize ((c == 48) && !decide (a = [48])) = b2 at *
    refine ⟨fun h => ?_, fun h => ?_⟩
    · have := hK _ (Chg.refl _ _)
      have e : (!false && !b1 && !b2 && (c :: r).all Num.isDig) = false := by
        cases b1 <;> cases b2 <;> simp at h ⊢
      rw [e] at this
      exact this
    · have hb : b1 = false ∧ b2 = false := by simpa using h
      rw [hb.1, hb.2] at hK
      refine to_bytes (l := c :: r) (by kernel_rfl) (by kernel_rfl) (by kernel_rfl) fun v w1 hv hx1 => ?_
      rw [lenl_at hv]
      generalize c :: r = D at *
      refine loop_up D.length (fun i w2 => Ext w1 w2 ∧ (D.take i).all Num.isDig = true) ⟨Chg.refl _ _, rfl⟩ ?_ ?_
      · rintro i w2 g L hi ⟨hx2, hall⟩ hL
        obtain ⟨e, he⟩ : ∃ e, D[i]? = some e := ⟨_, List.getElem?_eq_getElem hi⟩
        have hlt : ((i : Int) < ((D.length : Nat) : Int)) := by omega
        simp only [wsv, wsg, wsh, wsl, cond_true, cond_false, exists_eq_left', Option.some.injEq, Option.isSome_some, List.getElem?_toArray, List.getElem?_cons_zero, List.getElem?_cons_succ, List.length_cons, List.length_nil, List.set_cons_zero, List.set_cons_succ, List.getD_cons_zero, List.getD_cons_succ, Nat.zero_add, Nat.add_zero, Nat.reduceAdd, Nat.reduceLT, Nat.lt_add_one, Nat.zero_lt_succ, decide_true, decide_false, ne_eq, reduceCtorEq, hlt]
        refine ixa_ld (hv.ext hx2) (by rw [u8s_length]) (by rw [u8s_get, he]; rfl) ?_
        simp only [wsv, wsg, wsh, wsl, cond_true, cond_false, exists_eq_left', Option.some.injEq, Option.isSome_some, List.getElem?_toArray, List.getElem?_cons_zero, List.getElem?_cons_succ, List.length_cons, List.length_nil, List.set_cons_zero, List.set_cons_succ, List.getD_cons_zero, List.getD_cons_succ, Nat.zero_add, Nat.add_zero, Nat.reduceAdd, Nat.reduceLT, Nat.lt_add_one, Nat.zero_lt_succ, decide_true, decide_false, ne_eq, reduceCtorEq, isDig_out]
        intros
        rw [condW_b]
        refine ⟨fun hf => ?_, fun ht => ?_⟩
        · have hf : Num.isDig e = false := by simpa using hf
          have := hK _ (hx1.trans hx2)
          rw [all_no he hf] at this
          exact this
        · have ht : Num.isDig e = true := by simpa using ht
          rw [up1 (by omega)]
          exact hL _ ⟨hx2, by rw [all_take he, hall, ht]; rfl⟩
      · rintro w2 g L ⟨hx2, hall⟩
        simp only [wsv, wsg, wsh, wsl, cond_true, cond_false, exists_eq_left', Option.some.injEq, Option.isSome_some, List.getElem?_toArray, List.getElem?_cons_zero, List.getElem?_cons_succ, List.length_cons, List.length_nil, List.set_cons_zero, List.set_cons_succ, List.getD_cons_zero, List.getD_cons_succ, Nat.zero_add, Nat.add_zero, Nat.reduceAdd, Nat.reduceLT, Nat.lt_add_one, Nat.zero_lt_succ, decide_true, decide_false, ne_eq, reduceCtorEq, Int.lt_irrefl]
        rw [List.take_length] at hall
        have := hK w2 (hx1.trans hx2)
        rw [hall] at this
        exact this
end
end Go.Proofs.YtcnjpcadejcenaaGreatDoor
namespace Go.Proofs
open Go.RowKit Go.Lib Go.Shelf
abbrev BdT : TypeId := 78
set_option maxHeartbeats 1000000 in
set_option maxRecDepth 100000 in
theorem Tryz.check_used (b : Nat) (w : World) (h0 : w.cell? ⟨b, 0, none⟩ = some (.pointer (some ⟨b, 0, none⟩))) :
    Calls Tryz.prog 137 #[.pointer (some ⟨b, 0, none⟩)] w fun e w' => e = .returned (.tuple #[]) ∧ w' = w := by
  obtain ⟨j, hj, _⟩ := Option.map_eq_some_iff.1 (show (Tryz.prog.info? 78).map (·.size) = some 2 by kernel_rfl)
  go_enter Tryz.func137, Tryz.ntmps137
  go_wp2
  rw [Lib.run_neq_ptr_same w _ Tryz.underlying76 hj]
  go_wp2
  go_end0
  exact ⟨rfl, rfl⟩
set_option maxHeartbeats 1000000 in
set_option maxRecDepth 100000 in
theorem Tryz.check_fresh (b : Nat) (w : World) (h0 : w.cell? ⟨b, 0, none⟩ = some (.pointer none)) (hsh : w.shape? b = some (78, 2)) (hfz : w.frozen? ⟨b, 0, none⟩ = false) :
    Calls Tryz.prog 137 #[.pointer (some ⟨b, 0, none⟩)] w fun e w' => e = .returned (.tuple #[]) ∧ w' = w.setCell ⟨b, 0, none⟩ (.pointer (some ⟨b, 0, none⟩)) := by
  obtain ⟨j, hj, hjs⟩ := Option.map_eq_some_iff.1 (show (Tryz.prog.info? 78).map (·.size) = some 2 by kernel_rfl)
  go_enter Tryz.func137, Tryz.ntmps137
  go_wp2
  rw [Lib.run_to_unsafe w ⟨b, 0, none⟩ Tryz.underlying76 Tryz.underlying177 hj (by rw [hjs]; decide) hsh (Nat.zero_lt_succ 1)]
  simp only [Result.andThen]
  rw [Oper.upon_value]
  go_wp2
  rw [run_callFunc_extern Tryz.func176 (by kernel_rfl) (by kernel_rfl) (by kernel_rfl) (e := Extern.AbiNoEscape.same) (by kernel_rfl)]
  rw [Lib.run_noEscape]
  simp only [Result.andThen]
  rw [Oper.upon_value]
  go_wp2
  rw [Lib.run_from_unsafe w ⟨b, 0, none⟩ Tryz.underlying177 Tryz.underlying76 hj hsh (show liesAt Tryz.prog Tryz.prog.depth 78 (2 / Tryz.prog.cellsOf 78) 0 78 1 = true by kernel_rfl)]
  simp only [Result.andThen]
  rw [Oper.upon_value]
  go_wp2
  go_end0
  exact ⟨rfl, rfl⟩
end Go.Proofs
namespace Go.Proofs.YtcnjpcadejcenaaGreatDoor
open Go Go.Eng
set_option maxRecDepth 100000
variable [HX]
def plan78 : Plan := { js := [], ds := [] }
def W78 (v0 v1 : Value) (w : World) (K : Value → World → Prop) : Prop :=
  callF Tryz.prog 137 [v0] w fun t7 w1 =>
  nilW v0 fun t10 =>
  fldW 1 t10 fun t11 =>
  ldW false 1 t11 w1 fun t12 =>
  semE Tryz.prog (Builtin.append_ #[44, 9] 44 #[t12, v1]) w1 fun t14 w2 =>
  nilW v0 fun t15 =>
  fldW 1 t15 fun t16 =>
  stW 1 t16 t14 w2 fun w3 =>
  lensW v1 fun t18 =>
  K (.tuple #[t18, .nilIface]) w3
theorem W78_eq (v0 v1 : Value) (w : World) (K : Value → World → Prop) : funW Tryz.prog Tryz.f78 plan78 [v0, v1] w K = W78 v0 v1 w K := by kernel_rfl
theorem W78_chk : chkFun Tryz.prog Tryz.f78 plan78 2 = true := by kernel_rfl
theorem W78_ok {v0 v1 : Value} {w : World} {K : Value → World → Prop} (h : W78 v0 v1 w K) : callF Tryz.prog 78 [v0, v1] w K :=
  tie Tryz.prog 78 Tryz.f78 plan78 [v0, v1] w K 2 (W78 v0 v1 w K) rfl mixed Tryz.func78 W78_chk (W78_eq v0 v1 w K) Tryz.call78 h
def plan80 : Plan := { js := [], ds := [] }
def W80 (v0 v1 : Value) (w : World) (K : Value → World → Prop) : Prop :=
  callF Tryz.prog 137 [v0] w fun t6 w1 =>
  nilW v0 fun t9 =>
  fldW 1 t9 fun t10 =>
  ldW false 1 t10 w1 fun t11 =>
  bslW 5 1 [(.int .u8 0)] [(0, 1, v1)] w1 fun t13 w2 =>
  semE Tryz.prog (Builtin.append_ #[44, 44] 44 #[t11, t13]) w2 fun t14 w3 =>
  nilW v0 fun t15 =>
  fldW 1 t15 fun t16 =>
  stW 1 t16 t14 w3 fun w4 =>
  K .nilIface w4
theorem W80_eq (v0 v1 : Value) (w : World) (K : Value → World → Prop) : funW Tryz.prog Tryz.f80 plan80 [v0, v1] w K = W80 v0 v1 w K := by kernel_rfl
theorem W80_chk : chkFun Tryz.prog Tryz.f80 plan80 2 = true := by kernel_rfl
theorem W80_ok {v0 v1 : Value} {w : World} {K : Value → World → Prop} (h : W80 v0 v1 w K) : callF Tryz.prog 80 [v0, v1] w K :=
  tie Tryz.prog 80 Tryz.f80 plan80 [v0, v1] w K 2 (W80 v0 v1 w K) rfl mixed Tryz.func80 W80_chk (W80_eq v0 v1 w K) Tryz.call80 h
def plan155 : Plan := { js := [], ds := [] }
def W155 (v0 v1 : Value) (w : World) (K : Value → World → Prop) : Prop :=
  callF Tryz.prog 137 [v0] w fun t8 w1 =>
  nilW v0 fun t10 =>
  fldW 1 t10 fun t11 =>
  ldW false 1 t11 w1 fun t12 =>
  lenlW t12 fun t13 =>
  nilW v0 fun t16 =>
  fldW 1 t16 fun t17 =>
  ldW false 1 t17 w1 fun t18 =>
  callF Tryz.prog 185 [t18, v1] w1 fun t20 w2 =>
  nilW v0 fun t21 =>
  fldW 1 t21 fun t22 =>
  stW 1 t22 t20 w2 fun w3 =>
  nilW v0 fun t24 =>
  fldW 1 t24 fun t25 =>
  ldW false 1 t25 w3 fun t26 =>
  lenlW t26 fun t27 =>
  binW .sub t27 t13 fun t29 =>
  K (.tuple #[t29, .nilIface]) w3
theorem W155_eq (v0 v1 : Value) (w : World) (K : Value → World → Prop) : funW Tryz.prog Tryz.f155 plan155 [v0, v1] w K = W155 v0 v1 w K := by kernel_rfl
theorem W155_chk : chkFun Tryz.prog Tryz.f155 plan155 2 = true := by kernel_rfl
theorem W155_ok {v0 v1 : Value} {w : World} {K : Value → World → Prop} (h : W155 v0 v1 w K) : callF Tryz.prog 155 [v0, v1] w K :=
  tie Tryz.prog 155 Tryz.f155 plan155 [v0, v1] w K 2 (W155 v0 v1 w K) rfl mixed Tryz.func155 W155_chk (W155_eq v0 v1 w K) Tryz.call155 h
def plan185 : Plan := { js := [], ds := [] }
def W185 (v0 v1 : Value) (w : World) (K : Value → World → Prop) : Prop :=
  cvtW .u32 v1 fun t6 =>
  binW .leq t6 (.int .u32 127) fun t7 =>
  condW t7 (
    cvtW .u8 v1 fun t10 =>
    bslW 5 1 [(.int .u8 0)] [(0, 1, t10)] w fun t11 w1 =>
    semE Tryz.prog (Builtin.append_ #[44, 44] 44 #[v0, t11]) w1 fun t12 w2 =>
    K t12 w2) (
    callF Tryz.prog 223 [v0, v1] w fun t15 w3 =>
    K t15 w3)
theorem W185_eq (v0 v1 : Value) (w : World) (K : Value → World → Prop) : funW Tryz.prog Tryz.f185 plan185 [v0, v1] w K = W185 v0 v1 w K := by kernel_rfl
theorem W185_chk : chkFun Tryz.prog Tryz.f185 plan185 2 = true := by kernel_rfl
theorem W185_ok {v0 v1 : Value} {w : World} {K : Value → World → Prop} (h : W185 v0 v1 w K) : callF Tryz.prog 185 [v0, v1] w K :=
  tie Tryz.prog 185 Tryz.f185 plan185 [v0, v1] w K 2 (W185 v0 v1 w K) rfl mixed Tryz.func185 W185_chk (W185_eq v0 v1 w K) Tryz.call185 h
def plan223 : Plan := { js := [(22004, ⟨[55], [], 54⟩), (11, ⟨[25], [], 6⟩), (16004, ⟨[32], [], 31⟩)], ds := [] }
def W223 (v0 v1 : Value) (w : World) (K : Value → World → Prop) : Prop :=
  cvtW .u32 v1 fun t7 =>
  binW .leq t7 (.int .u32 2047) fun t13 =>
  condW t13 (
    binW .shr v1 (.int .u64 6) fun t16 =>
    cvtW .u8 t16 fun t17 =>
    binW .or (.int .u8 192) t17 fun t18 =>
    cvtW .u8 v1 fun t20 =>
    binW .and t20 (.int .u8 63) fun t21 =>
    binW .or (.int .u8 128) t21 fun t22 =>
    bslW 5 2 [(.int .u8 0), (.int .u8 0)] [(0, 1, t18), (1, 1, t22)] w fun t23 w1 =>
    semE Tryz.prog (Builtin.append_ #[44, 44] 44 #[v0, t23]) w1 fun t24 w2 =>
    K t24 w2) (
    JoinW (fun J3 =>
      binW .lss t7 (.int .u32 55296) fun t27 =>
      condW t27 (
        J3 [t27] w) (
        binW .lss (.int .u32 57343) t7 fun t29 =>
        GdW (isB t29 true) [undef] w (fun J4 =>
          binW .leq t7 (.int .u32 65535) fun t32 =>
          J4 [t32] w)
        fun s4 _ w5 =>
        pickW t29 (s4.getD 0 undef) (.bool false) fun t33 =>
        J3 [t33] w5))
    fun s3 _ w6 =>
    condW (s3.getD 0 undef) (
      binW .shr v1 (.int .u64 12) fun t36 =>
      cvtW .u8 t36 fun t37 =>
      binW .or (.int .u8 224) t37 fun t38 =>
      binW .shr v1 (.int .u64 6) fun t40 =>
      cvtW .u8 t40 fun t41 =>
      binW .and t41 (.int .u8 63) fun t42 =>
      binW .or (.int .u8 128) t42 fun t43 =>
      cvtW .u8 v1 fun t45 =>
      binW .and t45 (.int .u8 63) fun t46 =>
      binW .or (.int .u8 128) t46 fun t47 =>
      bslW 5 3 [(.int .u8 0), (.int .u8 0), (.int .u8 0)] [(0, 1, t38), (1, 1, t43), (2, 1, t47)] w6 fun t48 w7 =>
      semE Tryz.prog (Builtin.append_ #[44, 44] 44 #[v0, t48]) w7 fun t49 w8 =>
      K t49 w8) (
      binW .gtr t7 (.int .u32 65535) fun t52 =>
      GdW (isB t52 true) [undef] w6 (fun J9 =>
        binW .leq t7 (.int .u32 1114111) fun t55 =>
        J9 [t55] w6)
      fun s9 _ w10 =>
      pickW t52 (s9.getD 0 undef) (.bool false) fun t56 =>
      condW t56 (
        binW .shr v1 (.int .u64 18) fun t59 =>
        cvtW .u8 t59 fun t60 =>
        binW .or (.int .u8 240) t60 fun t61 =>
        binW .shr v1 (.int .u64 12) fun t63 =>
        cvtW .u8 t63 fun t64 =>
        binW .and t64 (.int .u8 63) fun t65 =>
        binW .or (.int .u8 128) t65 fun t66 =>
        binW .shr v1 (.int .u64 6) fun t68 =>
        cvtW .u8 t68 fun t69 =>
        binW .and t69 (.int .u8 63) fun t70 =>
        binW .or (.int .u8 128) t70 fun t71 =>
        cvtW .u8 v1 fun t73 =>
        binW .and t73 (.int .u8 63) fun t74 =>
        binW .or (.int .u8 128) t74 fun t75 =>
        bslW 5 4 [(.int .u8 0), (.int .u8 0), (.int .u8 0), (.int .u8 0)] [(0, 1, t61), (1, 1, t66), (2, 1, t71), (3, 1, t75)] w10 fun t76 w11 =>
        semE Tryz.prog (Builtin.append_ #[44, 44] 44 #[v0, t76]) w11 fun t77 w12 =>
        K t77 w12) (
        bslW 5 3 [(.int .u8 0), (.int .u8 0), (.int .u8 0)] [(0, 1, (.int .u8 239)), (1, 1, (.int .u8 191)), (2, 1, (.int .u8 189))] w10 fun t9 w13 =>
        semE Tryz.prog (Builtin.append_ #[44, 44] 44 #[v0, t9]) w13 fun t10 w14 =>
        K t10 w14)))
theorem W223_eq (v0 v1 : Value) (w : World) (K : Value → World → Prop) : funW Tryz.prog Tryz.f223 plan223 [v0, v1] w K = W223 v0 v1 w K := by kernel_rfl
theorem W223_chk : chkFun Tryz.prog Tryz.f223 plan223 2 = true := by kernel_rfl
theorem W223_ok {v0 v1 : Value} {w : World} {K : Value → World → Prop} (h : W223 v0 v1 w K) : callF Tryz.prog 223 [v0, v1] w K :=
  tie Tryz.prog 223 Tryz.f223 plan223 [v0, v1] w K 2 (W223 v0 v1 w K) rfl mixed Tryz.func223 W223_chk (W223_eq v0 v1 w K) Tryz.call223 h
def plan154 : Plan := { js := [], ds := [] }
def W154 (v0 v1 : Value) (w : World) (K : Value → World → Prop) : Prop :=
  callF Tryz.prog 172 [v0, v1] w fun t7 w1 =>
  K t7 w1
theorem W154_eq (v0 v1 : Value) (w : World) (K : Value → World → Prop) : funW Tryz.prog Tryz.f154 plan154 [v0, v1] w K = W154 v0 v1 w K := by kernel_rfl
theorem W154_chk : chkFun Tryz.prog Tryz.f154 plan154 2 = true := by kernel_rfl
theorem W154_ok {v0 v1 : Value} {w : World} {K : Value → World → Prop} (h : W154 v0 v1 w K) : callF Tryz.prog 154 [v0, v1] w K :=
  tie Tryz.prog 154 Tryz.f154 plan154 [v0, v1] w K 2 (W154 v0 v1 w K) rfl mixed Tryz.func154 W154_chk (W154_eq v0 v1 w K) Tryz.call154 h
def plan172 : Plan := { js := [(18, ⟨[6], [], 6⟩), (8003, ⟨[16], [], 15⟩)], ds := [] }
def W172 (v0 v1 : Value) (w : World) (K : Value → World → Prop) : Prop :=
  binW .eql v1 (.int .i64 10) fun t11 =>
  condW t11 (
    binW .leq (.int .i64 0) v0 fun t13 =>
    GdW (isB t13 true) [undef] w (fun J1 =>
      binW .lss v0 (.int .i64 100) fun t16 =>
      J1 [t16] w)
    fun s1 _ w2 =>
    pickW t13 (s1.getD 0 undef) (.bool false) fun t17 =>
    condW t17 (
      callF Tryz.prog 196 [v0] w2 fun t19 w3 =>
      K t19 w3) (
      allocW 191 (List.replicate 24 (.int .u8 0)) w2 fun t5 w4 =>
      cvtW .u64 v0 fun t21 =>
      JoinW (fun J5 =>
        binW .lss v0 (.int .i64 0) fun t23 =>
        condW t23 (
          unW .neg t21 fun t25 =>
          J5 [t25] w4) (
          J5 [t21] w4))
      fun s5 _ w6 =>
      callF Tryz.prog 197 [(s5.getD 0 undef)] w6 fun t27 w7 =>
      binW .add (.int .i64 1) t27 fun t29 =>
      slaW 24 1 t5 (some (.int .i64 1)) (some t29) none fun t30 =>
      callF Tryz.prog 198 [t30, (s5.getD 0 undef)] w7 fun t32 w8 =>
      binW .lss v0 (.int .i64 0) fun t34 =>
      condW t34 (
        ixaW (some 24) 1 t5 (.int .i64 0) fun t35 =>
        stW 1 t35 (.int .u8 45) w8 fun w9 =>
        binW .add (.int .i64 1) t27 fun t37 =>
        slaW 24 1 t5 none (some t37) none fun t38 =>
        semQ Tryz.prog (convert 44 9 t38) w9 fun t39 =>
        K t39 w9) (
        binW .add (.int .i64 1) t27 fun t41 =>
        slaW 24 1 t5 (some (.int .i64 1)) (some t41) none fun t42 =>
        semQ Tryz.prog (convert 44 9 t42) w8 fun t43 =>
        K t43 w8))) (
    cvtW .u64 v0 fun t46 =>
    binW .lss v0 (.int .i64 0) fun t49 =>
    callF Tryz.prog 199 [(.slice none 0 0), t46, v1, t49, (.bool false)] w fun t50 w10 =>
    extW 0 t50 fun t51 =>
    extW 1 t50 fun t52 =>
    K t52 w10)
theorem W172_eq (v0 v1 : Value) (w : World) (K : Value → World → Prop) : funW Tryz.prog Tryz.f172 plan172 [v0, v1] w K = W172 v0 v1 w K := by kernel_rfl
theorem W172_chk : chkFun Tryz.prog Tryz.f172 plan172 2 = true := by kernel_rfl
theorem W172_ok {v0 v1 : Value} {w : World} {K : Value → World → Prop} (h : W172 v0 v1 w K) : callF Tryz.prog 172 [v0, v1] w K :=
  tie Tryz.prog 172 Tryz.f172 plan172 [v0, v1] w K 2 (W172 v0 v1 w K) rfl mixed Tryz.func172 W172_chk (W172_eq v0 v1 w K) Tryz.call172 h
def plan199 : Plan := { js := [(68, ⟨[13], [], 13⟩), (18, ⟨[13], [1], 13⟩), (50, ⟨[1, 13], [1, 13], 18⟩), (30, ⟨[1, 13], [1, 13], 17⟩), (12, ⟨[1], [1], 14⟩), (2, ⟨[], [], 12⟩), (4003, ⟨[27], [], 26⟩), (4007, ⟨[23], [], 22⟩)], ds := [] }
def W199 (v0 v1 v2 v3 v4 : Value) (w : World) (K : Value → World → Prop) : Prop :=
  JoinW (fun J1 =>
    binW .lss v2 (.int .i64 2) fun t20 =>
    GdW (isB t20 false) [undef] w (fun J2 =>
      binW .eql v2 (.int .i64 10) fun t23 =>
      J2 [t23] w)
    fun s2 _ w3 =>
    pickW t20 (.bool true) (s2.getD 0 undef) fun t24 =>
    GdW (isB t24 false) [undef] w3 (fun J4 =>
      binW .gtr v2 (.int .i64 36) fun t27 =>
      J4 [t27] w3)
    fun s4 _ w5 =>
    pickW t24 (.bool true) (s4.getD 0 undef) fun t28 =>
    condW t28 (
      pncW (.iface 9 (.string (ofL [115, 116, 114, 99, 111, 110, 118, 58, 32, 105, 108, 108, 101, 103, 97, 108, 32, 65, 112, 112, 101, 110, 100, 73, 110, 116, 47, 70, 111, 114, 109, 97, 116, 73, 110, 116, 32, 98, 97, 115, 101]))) w5) (
      J1 [] w5))
  fun s1 _ w6 =>
  allocW 225 (List.replicate 65 (.int .u8 0)) w6 fun t12 w7 =>
  JoinW (fun J8 =>
    condW v3 (
      unW .neg v1 fun t32 =>
      J8 [t32] w7) (
      J8 [v1] w7))
  fun s8 _ w9 =>
  JoinW (fun J10 =>
    callF Tryz.prog 247 [v2] w9 fun t34 w11 =>
    condW t34 (
      cvtW .u64 v2 fun t36 =>
      callF Tryz.prog 248 [t36] w11 fun t37 w12 =>
      cvtW .u64 t37 fun t38 =>
      cvtW .u64 v2 fun t40 =>
      cvtW .u64 v2 fun t42 =>
      binW .sub t42 (.int .u64 1) fun t43 =>
      LoopW [(s8.getD 0 undef), (.int .i64 65)] w12 fun s13 _ w14 L13 =>
        binW .geq (s13.getD 0 undef) t40 fun t46 =>
        condW t46 (
          binW .sub (s13.getD 1 undef) (.int .i64 1) fun t48 =>
          binW .and (s13.getD 0 undef) t43 fun t52 =>
          ixsW (.string (ofL [48, 49, 50, 51, 52, 53, 54, 55, 56, 57, 97, 98, 99, 100, 101, 102, 103, 104, 105, 106, 107, 108, 109, 110, 111, 112, 113, 114, 115, 116, 117, 118, 119, 120, 121, 122])) t52 fun t53 =>
          ixaW (some 65) 1 t12 t48 fun t54 =>
          stW 1 t54 t53 w14 fun w15 =>
          binW .shr (s13.getD 0 undef) t38 fun t57 =>
          L13 [t57, t48] w15) (
          binW .sub (s13.getD 1 undef) (.int .i64 1) fun t59 =>
          ixsW (.string (ofL [48, 49, 50, 51, 52, 53, 54, 55, 56, 57, 97, 98, 99, 100, 101, 102, 103, 104, 105, 106, 107, 108, 109, 110, 111, 112, 113, 114, 115, 116, 117, 118, 119, 120, 121, 122])) (s13.getD 0 undef) fun t62 =>
          ixaW (some 65) 1 t12 t59 fun t63 =>
          stW 1 t63 t62 w14 fun w16 =>
          J10 [t59] w16)) (
      cvtW .u64 v2 fun t65 =>
      LoopW [(s8.getD 0 undef), (.int .i64 65)] w11 fun s17 _ w18 L17 =>
        binW .geq (s17.getD 0 undef) t65 fun t68 =>
        condW t68 (
          binW .sub (s17.getD 1 undef) (.int .i64 1) fun t70 =>
          binW .quo (s17.getD 0 undef) t65 fun t73 =>
          binW .mul t73 t65 fun t78 =>
          binW .sub (s17.getD 0 undef) t78 fun t79 =>
          ixsW (.string (ofL [48, 49, 50, 51, 52, 53, 54, 55, 56, 57, 97, 98, 99, 100, 101, 102, 103, 104, 105, 106, 107, 108, 109, 110, 111, 112, 113, 114, 115, 116, 117, 118, 119, 120, 121, 122])) t79 fun t80 =>
          ixaW (some 65) 1 t12 t70 fun t81 =>
          stW 1 t81 t80 w18 fun w19 =>
          L17 [t73, t70] w19) (
          binW .sub (s17.getD 1 undef) (.int .i64 1) fun t84 =>
          ixsW (.string (ofL [48, 49, 50, 51, 52, 53, 54, 55, 56, 57, 97, 98, 99, 100, 101, 102, 103, 104, 105, 106, 107, 108, 109, 110, 111, 112, 113, 114, 115, 116, 117, 118, 119, 120, 121, 122])) (s17.getD 0 undef) fun t87 =>
          ixaW (some 65) 1 t12 t84 fun t88 =>
          stW 1 t88 t87 w18 fun w20 =>
          J10 [t84] w20)))
  fun s10 _ w21 =>
  JoinW (fun J22 =>
    condW v3 (
      binW .sub (s10.getD 0 undef) (.int .i64 1) fun t91 =>
      ixaW (some 65) 1 t12 t91 fun t93 =>
      stW 1 t93 (.int .u8 45) w21 fun w23 =>
      J22 [t91] w23) (
      J22 [(s10.getD 0 undef)] w21))
  fun s22 _ w24 =>
  condW v4 (
    slaW 65 1 t12 (some (s22.getD 0 undef)) none none fun t97 =>
    semE Tryz.prog (Builtin.append_ #[44, 44] 44 #[v0, t97]) w24 fun t98 w25 =>
    K (.tuple #[t98, (.string (ofL []))]) w25) (
    slaW 65 1 t12 (some (s22.getD 0 undef)) none none fun t100 =>
    semQ Tryz.prog (convert 44 9 t100) w24 fun t101 =>
    K (.tuple #[(.slice none 0 0), t101]) w24)
theorem W199_eq (v0 v1 v2 v3 v4 : Value) (w : World) (K : Value → World → Prop) : funW Tryz.prog Tryz.f199 plan199 [v0, v1, v2, v3, v4] w K = W199 v0 v1 v2 v3 v4 w K := by kernel_rfl
theorem W199_chk : chkFun Tryz.prog Tryz.f199 plan199 5 = true := by kernel_rfl
theorem W199_ok {v0 v1 v2 v3 v4 : Value} {w : World} {K : Value → World → Prop} (h : W199 v0 v1 v2 v3 v4 w K) : callF Tryz.prog 199 [v0, v1, v2, v3, v4] w K :=
  tie Tryz.prog 199 Tryz.f199 plan199 [v0, v1, v2, v3, v4] w K 5 (W199 v0 v1 v2 v3 v4 w K) rfl mixed Tryz.func199 W199_chk (W199_eq v0 v1 v2 v3 v4 w K) Tryz.call199 h
def plan247 : Plan := { js := [], ds := [] }
def W247 (v0 : Value) (w : World) (K : Value → World → Prop) : Prop :=
  binW .sub v0 (.int .i64 1) fun t5 =>
  binW .and v0 t5 fun t6 =>
  binW .eql t6 (.int .i64 0) fun t7 =>
  K t7 w
theorem W247_eq (v0 : Value) (w : World) (K : Value → World → Prop) : funW Tryz.prog Tryz.f247 plan247 [v0] w K = W247 v0 w K := by kernel_rfl
theorem W247_chk : chkFun Tryz.prog Tryz.f247 plan247 1 = true := by kernel_rfl
theorem W247_ok {v0 : Value} {w : World} {K : Value → World → Prop} (h : W247 v0 w K) : callF Tryz.prog 247 [v0] w K :=
  tie Tryz.prog 247 Tryz.f247 plan247 [v0] w K 1 (W247 v0 w K) rfl mixed Tryz.func247 W247_chk (W247_eq v0 w K) Tryz.call247 h
end Go.Proofs.YtcnjpcadejcenaaGreatDoor
namespace Go.Proofs.YtcnjpcadejcenaaGreatDoor
open Go Go.Eng Go.RowKit
set_option maxRecDepth 100000
abbrev BdT : TypeId := 78
theorem elem_u8 : ElemT Tryz.prog 44 U8 1 1 := ⟨by kernel_rfl, by kernel_rfl, by decide⟩
def Bld (w : World) (B b : Nat) (l : Str) : Prop :=
  ∃ p v, w.heap[b]? = some (.cells [p, v].toArray BdT (0, 0)) ∧ (p = .pointer none ∨ p = .pointer (some ⟨b, 0, none⟩)) ∧ Own w B U8 1 v l.length (u8s l) ∧ B ≤ b
def BCh (w : World) (B b : Nat) (k : Nat) : Prop := k = b ∨ OwnS w B U8 k
theorem Bld.chg {S : Nat → Prop} {w w' : World} {B b : Nat} {l : Str} (h : Bld w B b l) (hc : Chg S w w') (hb : ¬ S b) (hS : ∀ k, OwnS w B U8 k → ¬ S k) : Bld w' B b l := by
  obtain ⟨p, v, h1, h2, h3, h4⟩ := h
  exact ⟨p, v, hc.at h1 hb, h2, h3.chg hc hS, h4⟩
theorem Bld.ext {w w' : World} {B b : Nat} {l : Str} (h : Bld w B b l) (hc : Ext w w') : Bld w' B b l := h.chg hc (fun e => e) fun _ _ e => e
theorem Bld.lt {w : World} {B b : Nat} {l : Str} (h : Bld w B b l) : b < w.heap.size := by
  obtain ⟨p, v, h1, _⟩ := h
  exact at_lt h1
theorem Bld.base {w : World} {B b : Nat} {l : Str} (h : Bld w B b l) : B ≤ b := by obtain ⟨p, v, _, _, _, h4⟩ := h; exact h4
theorem bd_ne {w : World} {B b : Nat} {p v : Value} (h1 : w.heap[b]? = some (.cells [p, v].toArray BdT (0, 0))) : ¬ OwnS w B U8 b := by
  rintro ⟨_, c, hc⟩
  rw [h1] at hc
  simp only [Option.some.injEq, Obj.cells.injEq] at hc
  exact absurd hc.2.1 (by decide)
theorem BCh.trans {w w1 w2 : World} {B b : Nat} (h1 : Chg (BCh w B b) w w1) (h2 : Chg (BCh w1 B b) w1 w2) : Chg (BCh w B b) w w2 := by
  refine ⟨h2.os.trans h1.os, h2.tape.trans h1.tape, h2.output.trans h1.output, Nat.le_trans h1.size h2.size, fun k hk hn => ?_⟩
  have e1 := h1.heap k hk hn
  rw [← e1]
  refine h2.heap k (Nat.lt_of_lt_of_le hk h1.size) fun e => hn ?_
  rcases e with e | ⟨e2, c, e3⟩
  · exact .inl e
  · exact .inr ⟨e2, c, by rw [← e1]; exact e3⟩
theorem BCh.ext {w w1 w2 : World} {B b : Nat} (h1 : Chg (BCh w B b) w w1) (h2 : Ext w1 w2) : Chg (BCh w B b) w w2 := h1.then h2 fun _ _ e => e.elim
theorem BCh.from {w w1 w2 : World} {B b : Nat} (h1 : Ext w w1) (h2 : Chg (BCh w1 B b) w1 w2) : Chg (BCh w B b) w w2 := BCh.trans (Chg.of_ext h1) h2
theorem BCh.new {w0 w w' : World} {B b : Nat} (h0 : Ext w0 w) (hB : w0.heap.size ≤ B) (hb : B ≤ b) (h : Chg (BCh w B b) w w') : Ext w0 w' :=
  h0.then h fun k hk e => by
    rcases e with rfl | ⟨e, _⟩
    · omega
    · omega
theorem BCh.keep {w w' : World} {B b k : Nat} {c : Array Value} {T : TypeId} {fr : Nat × Nat} (h : Chg (BCh w B b) w w') (hk : w.heap[k]? = some (.cells c T fr)) (hb : k ≠ b) (hT : T ≠ U8) : w'.heap[k]? = some (.cells c T fr) :=
  h.at hk fun e => by
    rcases e with e | ⟨_, c', e⟩
    · exact hb e
    · rw [hk] at e
      simp only [Option.some.injEq, Obj.cells.injEq] at e
      exact hT e.2.1
theorem BCh.iter {w w' : World} {B b k p : Nat} {s : ByteArray} (h : Chg (BCh w B b) w w') (hk : w.heap[k]? = some (.stringIter s p)) (hb : k ≠ b) : w'.heap[k]? = some (.stringIter s p) :=
  h.at hk fun e => by
    rcases e with e | ⟨_, c', e⟩
    · exact hb e
    · rw [hk] at e; cases e
section
variable [HX]
theorem bnew {w : World} {B : Nat} {K : Value → World → Prop} (hB : B ≤ w.heap.size) (hK : ∀ b w', b = w.heap.size → Bld w' B b [] → Ext w w' → K (.pointer (some ⟨b, 0, none⟩)) w') : allocW BdT [.pointer none, .slice none 0 0] w K :=
  alloc_new fun a w' ha hz hb hx => hK a w' ha ⟨_, _, hb, .inl rfl, ⟨by simp [u8s], .inl ⟨rfl, rfl⟩⟩, by omega⟩ hx
theorem check_p {w : World} {B b : Nat} {l : Str} {K : Value → World → Prop} (h : Bld w B b l)
    (hK : ∀ v w', w'.heap[b]? = some (.cells [.pointer (some ⟨b, 0, none⟩), v].toArray BdT (0, 0)) → Own w' B U8 1 v l.length (u8s l) → w'.heap.size = w.heap.size → Chg (BCh w B b) w w' → K (.tuple #[]) w') :
    callF Tryz.prog 137 [.pointer (some ⟨b, 0, none⟩)] w K := by
  obtain ⟨p, v, h1, h2, h3, h4⟩ := h
  have c0 : w.cell? ⟨b, 0, none⟩ = some p := by rw [cell_eq, h1]; rfl
  rcases h2 with rfl | rfl
  · refine of_calls (args := #[.pointer (some ⟨b, 0, none⟩)]) Tryz.call137 ((Tryz.check_fresh b w c0 (by simp [World.shape?, h1]) (by rw [frozen_eq, h1]; rfl)).mono ?_)
    rintro e w' ⟨rfl, rfl⟩
    refine ⟨_, rfl, hK v _ ?_ ?_ (size_set _ _ _) (Chg.set (Chg.refl _ _) (.inl (.inl rfl)) _)⟩
    · rw [heap_set_same, h1]; rfl
    · refine h3.chg (Chg.set (S := fun k => k = b) (Chg.refl _ _) (.inl rfl) _) fun k hk e => ?_
      subst e
      exact bd_ne h1 hk
  · refine of_calls (args := #[.pointer (some ⟨b, 0, none⟩)]) Tryz.call137 ((Tryz.check_used b w c0).mono ?_)
    rintro e w' ⟨rfl, rfl⟩
    exact ⟨_, rfl, hK v _ h1 h3 rfl (Chg.refl _ _)⟩
theorem bstore {w w3 : World} {B b n : Nat} {l l' : Str} {v v' : Value} {K : World → Prop} (h1 : w.heap[b]? = some (.cells [.pointer (some ⟨b, 0, none⟩), v].toArray BdT (0, 0))) (hO : Own w B U8 1 v l.length (u8s l)) (hb : B ≤ b)
    (hc : Chg (fun k => v.ownBlock = some k) w w3) (hO' : Own w3 B U8 1 v' l'.length (u8s l')) (hK : ∀ w', Bld w' B b l' → Chg (BCh w B b) w w' → w'.heap.size = w3.heap.size → K w') :
    stW 1 (.pointer (some ⟨b, 1, none⟩)) v' w3 K := by
  have hne : ¬ v.ownBlock = some b := fun e => bd_ne h1 (hO.block b e)
  have h3 := hc.at h1 hne
  have hsh : one1 v' = true := by obtain ⟨p, c, rfl, _⟩ := hO'.sl.shape; rfl
  refine st_at h3 hsh (by simp) fun w4 hz hb4 hc4 => ?_
  refine hK w4 ⟨.pointer (some ⟨b, 0, none⟩), v', by rw [hb4]; simp, .inr rfl, hO'.chg hc4 fun k hk e => by subst e; exact bd_ne h3 hk, hb⟩ ?_ hz
  have s1 : Chg (BCh w B b) w w3 := hc.mono fun k _ e => .inr (hO.block k e)
  exact s1.then hc4 fun k _ e => .inl e
theorem wstr_p {w : World} {B b : Nat} {l s : Str} {K : Value → World → Prop} (h : Bld w B b l) (hB : B ≤ w.heap.size) (hl : l.length + s.length ≤ 140737488355328)
    (hK : ∀ v w', Bld w' B b (l ++ s) → Chg (BCh w B b) w w' → K v w') : callF Tryz.prog 78 [.pointer (some ⟨b, 0, none⟩), str s] w K := by
  have hb := h.base
  refine W78_ok ?_
  unfold W78
  refine check_p h fun v w1 h1 hO hz hc => ?_
  rw [nil_ptr, fld_ptr, ld_one]
  refine ⟨v, by rw [add_mk, cell_eq, h1]; rfl, ?_⟩
  obtain ⟨i, z, hi, hzr, h2, h3, h4⟩ := elem_u8.get
  have hz0 : i.zero = some (.int .u8 0) := by
    have : (Tryz.prog.info? U8).map (·.zero) = some (some (.int .u8 0)) := by kernel_rfl
    rw [hi] at this; simpa using this
  obtain ⟨v', w3, hr, hO', hg, _⟩ := Lib.run_append_own_string (P := Tryz.prog) w1 B 44 9 44 U8 i elem_u8.und (by kernel_rfl) hi hz0 h2 h3 v l.length (u8s l) hO (ofL s) (by rw [ofL_size]; unfold maxLen; omega) (by rw [ofL_size]; omega) (by omega)
  unfold semE
  rw [hr]
  dsimp only
  rw [nil_ptr, fld_ptr]
  have hO2 : Own w3 B U8 1 v' (l ++ s).length (u8s (l ++ s)) := by
    rw [u8s_app, List.length_append]
    have e1 : Lib.strCells (ofL s) = u8s s := by unfold Lib.strCells u8s; rw [ofL_data]
    rw [ofL_size, e1] at hO'
    exact hO'
  refine bstore (n := 0) h1 hO hb (Chg.of_grown hg fun k e => e) hO2 fun w4 hb4 hc4 _ => ?_
  rw [lens_str]
  exact hK _ w4 hb4 (BCh.trans hc hc4)
theorem row_u8 {w : World} {n : Nat} {K : Value → World → Prop} (hK : ∀ t w', SlAt w' U8 t 1 [.int .u8 (n : Int)] → Ext w w' → K t w') : bslW U8 1 [(.int .u8 0)] [(0, 1, .int .u8 (n : Int))] w K := by
  rw [bslW]
  simp only [put_int, put_nil, List.length_cons, List.length_nil, List.set_cons_zero]
  refine ⟨by omega, ?_⟩
  refine hK _ _ ⟨_, _, rfl, Nat.le_refl _, fun e => (by cases e), fun _ => ⟨_, _, _, _, rfl, heap_anew _ _ _ rfl, fun i _ => by rw [Nat.zero_add]; simp⟩⟩ (Chg.alloc (Chg.refl _ _) _)
theorem wbyte_p {w : World} {B b n : Nat} {l : Str} {K : Value → World → Prop} (h : Bld w B b l) (hB : B ≤ w.heap.size) (hl : l.length + 1 ≤ 140737488355328) (hn : n < 256)
    (hK : ∀ w', Bld w' B b (l ++ [UInt8.ofNat n]) → Chg (BCh w B b) w w' → K .nilIface w') : callF Tryz.prog 80 [.pointer (some ⟨b, 0, none⟩), .int .u8 (n : Int)] w K := by
  have hb := h.base
  refine W80_ok ?_
  unfold W80
  refine check_p h fun v w1 h1 hO hz hc => ?_
  rw [nil_ptr, fld_ptr, ld_one]
  refine ⟨v, by rw [add_mk, cell_eq, h1]; rfl, ?_⟩
  refine row_u8 fun t w2 ht hx2 => ?_
  refine append_own2 elem_u8 (hO.ext hx2) ht (m := 1) rfl (fun u hu => by simp only [List.mem_singleton] at hu; subst hu; rfl) (by omega) (by omega) (by have := hx2.size; omega) fun v' w3 hO3 hc3 _ => ?_
  rw [nil_ptr, fld_ptr]
  have hO2 : Own w3 B U8 1 v' (l ++ [UInt8.ofNat n]).length (u8s (l ++ [UInt8.ofNat n])) := by
    rw [u8s_app, List.length_append]
    have e1 : u8s [UInt8.ofNat n] = [.int .u8 (n : Int)] := by
      simp only [u8s, List.map_cons, List.map_nil, UInt8.toNat_ofNat']
      rw [Nat.mod_eq_of_lt (by omega)]
    rw [e1]
    exact hO3
  refine bstore (n := 0) (hx2.at h1 id) (hO.ext hx2) hb hc3 hO2 fun w4 hb4 hc4 _ => ?_
  exact hK w4 hb4 (BCh.trans hc (BCh.from hx2 hc4))
end
end Go.Proofs.YtcnjpcadejcenaaGreatDoor
namespace Go.Eng
open Go
def byteM (s : Str) (i : Nat) : Int := match s[i]? with | some b => (b.toNat : Int) | none => -1
def moreM (s : Str) (i : Nat) : Bool := decide (128 ≤ byteM s i) && decide (byteM s i < 192)
def runeM (s : Str) (i : Nat) : Nat :=
  let c := byteM s i
  if c < 0 then 0 else if c < 128 then 1
  else if 194 ≤ c ∧ c < 224 ∧ moreM s (i + 1) = true then 2
  else if 224 ≤ c ∧ c < 240 ∧ moreM s (i + 1) = true ∧ moreM s (i + 2) = true ∧
    2048 ≤ (c - 224) * 4096 + (byteM s (i + 1) - 128) * 64 + byteM s (i + 2) - 128 ∧ ((c - 224) * 4096 + (byteM s (i + 1) - 128) * 64 + byteM s (i + 2) - 128 < 55296 ∨ 57343 < (c - 224) * 4096 + (byteM s (i + 1) - 128) * 64 + byteM s (i + 2) - 128) then 3
  else if 240 ≤ c ∧ c < 245 ∧ moreM s (i + 1) = true ∧ moreM s (i + 2) = true ∧ moreM s (i + 3) = true ∧
    65536 ≤ (c - 240) * 262144 + (byteM s (i + 1) - 128) * 4096 + (byteM s (i + 2) - 128) * 64 + byteM s (i + 3) - 128 ∧ (c - 240) * 262144 + (byteM s (i + 1) - 128) * 4096 + (byteM s (i + 2) - 128) * 64 + byteM s (i + 3) - 128 ≤ 1114111 then 4
  else 0
def utfGo (s : Str) : Nat → Nat → Bool
  | 0, i => decide (s.length ≤ i)
  | n + 1, i => if s.length ≤ i then true else if runeM s i = 0 then false else utfGo s n (i + runeM s i)
def utfM (s : Str) : Bool := utfGo s s.length 0
def b8 (n : Nat) : UInt8 := UInt8.ofNat n
def wrM (n : Nat) : Str :=
  if n < 128 then [b8 n] else if n < 2048 then [b8 (192 + n / 64), b8 (128 + n % 64)]
  else if n < 65536 then [b8 (224 + n / 4096), b8 (128 + n / 64 % 64), b8 (128 + n % 64)]
  else [b8 (240 + n / 262144), b8 (128 + n / 4096 % 64), b8 (128 + n / 64 % 64), b8 (128 + n % 64)]
def hexD (n : Nat) : UInt8 := if n < 10 then b8 (48 + n) else b8 (87 + n)
def escB (c : UInt8) : Str :=
  if c = 34 ∨ c = 92 then [92, c] else if c = 8 then [92, 98] else if c = 12 then [92, 102] else if c = 10 then [92, 110] else if c = 13 then [92, 114] else if c = 9 then [92, 116]
  else if c < 32 then [92, 117, 48, 48, b8 (48 + c.toNat / 16), hexD (c.toNat % 16)] else [c]
def quoteM (s : Str) : Str := [34] ++ s.flatMap escB ++ [34]
def joinM : List Str → Str
  | [] => []
  | [x] => x
  | x :: y :: r => x ++ [44] ++ joinM (y :: r)
mutual
def showM : JV → Str
  | .mk k b t xs ks =>
    if k = 0 then [110, 117, 108, 108] else if k = 2 then (if b then [116, 114, 117, 101] else [102, 97, 108, 115, 101]) else if k = 3 then t else if k = 4 then quoteM t
    else if k = 6 then [123] ++ joinM (List.zipWith (fun a b => quoteM a ++ [58] ++ b) ks (showL xs)) ++ [125] else [91] ++ joinM (showL xs) ++ [93]
def showL : List JV → List Str
  | [] => []
  | x :: xs => showM x :: showL xs
end
mutual
def textsM : JV → Bool
  | .mk _ _ t xs ks => utfM t && ks.all utfM && textsL xs
def textsL : List JV → Bool
  | [] => true
  | x :: xs => textsM x && textsL xs
end
def encM (eRange eUnknown eText eLong : Int) (v : JV) : Str × Int :=
  if goodM v = false then ([], eRange) else if knownM v = false then ([], eUnknown) else if textsM v = false then ([], eText) else if 65536 < (showM v).length then ([], eLong) else (showM v, 0)
inductive RR (α : Type) where
  | ok (v : α) (i : Nat) (count : Nat)
  | bad (code : Int) (i : Nat)
def isBlank (c : Int) : Bool := decide (c = 32) || decide (c = 9) || decide (c = 10) || decide (c = 13)
def blankGo (s : Str) : Nat → Nat → Nat
  | 0, i => i
  | n + 1, i => if isBlank (byteM s i) then blankGo s n (i + 1) else i
def blankM (s : Str) (i : Nat) : Nat := blankGo s (s.length - i) i
def isDig (c : Int) : Bool := decide (48 ≤ c) && decide (c ≤ 57)
def digGo (s : Str) : Nat → Nat → Nat
  | 0, i => i
  | n + 1, i => if isDig (byteM s i) then digGo s n (i + 1) else i
def digM (s : Str) (i : Nat) : Nat := digGo s (s.length - i) i
def hexV (c : Int) : Int := if 48 ≤ c ∧ c ≤ 57 then c - 48 else if 97 ≤ c ∧ c ≤ 102 then c - 87 else if 65 ≤ c ∧ c ≤ 70 then c - 55 else -1
def hexM (s : Str) (i : Nat) : Int :=
  if i + 6 ≤ s.length ∧ byteM s i = 92 ∧ byteM s (i + 1) = 117 ∧ 0 ≤ hexV (byteM s (i + 2)) ∧ 0 ≤ hexV (byteM s (i + 3)) ∧ 0 ≤ hexV (byteM s (i + 4)) ∧ 0 ≤ hexV (byteM s (i + 5)) then
    ((hexV (byteM s (i + 2)) * 16 + hexV (byteM s (i + 3))) * 16 + hexV (byteM s (i + 4))) * 16 + hexV (byteM s (i + 5)) else -1
def escM (s : Str) (i : Nat) : Option (Str × Nat) :=
  let c := byteM s (i + 1)
  if c = 34 then some ([34], 2) else if c = 92 then some ([92], 2) else if c = 47 then some ([47], 2) else if c = 98 then some ([8], 2) else if c = 102 then some ([12], 2)
  else if c = 110 then some ([10], 2) else if c = 114 then some ([13], 2) else if c = 116 then some ([9], 2)
  else
    let a := hexM s i
    let b := hexM s (i + 6)
    if a < 0 ∨ 56320 ≤ a ∧ a ≤ 57343 then none
    else if 55296 ≤ a ∧ a ≤ 56319 then (if b < 56320 ∨ 57343 < b then none else some (wrM (65536 + (a - 55296) * 1024 + b - 56320).toNat, 12))
    else some (wrM a.toNat, 6)
structure ErrNo where
  json : Int
  long : Int
  deep : Int
  text : Int
  twice : Int
def quotGo (E : ErrNo) (s : Str) (start : Nat) : Nat → Nat → Str → Nat → RR Str
  | 0, i, _, _ => .bad E.json i
  | n + 1, i, out, cnt =>
    if byteM s i = 34 then (if 16384 < out.length then .bad E.long start else .ok out (i + 1) cnt)
    else if byteM s i < 0 then .bad E.json s.length
    else if byteM s i = 92 then (match escM s i with | none => .bad E.json i | some (t, k) => quotGo E s start n (i + k) (out ++ t) cnt)
    else if byteM s i < 32 then .bad E.json i
    else if runeM s i = 0 then .bad E.text i
    else quotGo E s start n (i + runeM s i) (out ++ (s.drop i).take (runeM s i)) cnt
def quotM (E : ErrNo) (s : Str) (i cnt : Nat) : RR Str := quotGo E s i (s.length + 1) (i + 1) [] cnt
def numM (E : ErrNo) (s : Str) (i cnt : Nat) : RR JV :=
  let first := if byteM s i = 45 then i + 1 else i
  let stop := if byteM s first = 48 then first + 1 else digM s first
  if stop = first then .bad E.json stop
  else if 100 < stop - first then .bad E.long i
  else if isDig (byteM s stop) || decide (byteM s stop = 46) || decide (byteM s stop = 101) || decide (byteM s stop = 69) then .bad E.json stop
  else
    let t := (s.drop i).take (stop - i)
    .ok (.mk 3 false (if t = [45, 48] then [48] else t) [] []) stop cnt
def wordM (s : Str) (i : Nat) (w : Str) : Bool := decide ((s.drop i).take w.length = w)
mutual
/-- a value at a place, so deep, so many values ahead of it (first: steps left) -/
def valM (E : ErrNo) (s : Str) : Nat → Nat → Nat → Nat → RR JV
  | 0, _, i, _ => .bad E.json i
  | n + 1, deep, i0, cnt0 =>
    let i := blankM s i0
    if 24 < deep then .bad E.deep i
    else if 2000 ≤ cnt0 then .bad E.long i
    else if wordM s i [110, 117, 108, 108] then .ok JV.null (i + 4) (cnt0 + 1)
    else if wordM s i [116, 114, 117, 101] then .ok (.mk 2 true [] [] []) (i + 4) (cnt0 + 1)
    else if wordM s i [102, 97, 108, 115, 101] then .ok (.mk 2 false [] [] []) (i + 5) (cnt0 + 1)
    else if byteM s i = 45 ∨ isDig (byteM s i) = true then numM E s i (cnt0 + 1)
    else if byteM s i = 34 then (match quotM E s i (cnt0 + 1) with | .ok t j c => .ok (.mk 4 false t [] []) j c | .bad e j => .bad e j)
    else if byteM s i = 91 then (if byteM s (blankM s (i + 1)) = 93 then .ok (.mk 5 false [] [] []) (blankM s (i + 1) + 1) (cnt0 + 1) else listM E s n deep (blankM s (i + 1)) (cnt0 + 1) [])
    else if byteM s i = 123 then (if byteM s (blankM s (i + 1)) = 125 then .ok (.mk 6 false [] [] []) (blankM s (i + 1) + 1) (cnt0 + 1) else objM E s n deep (blankM s (i + 1)) (cnt0 + 1) (.mk 6 false [] [] []))
    else .bad E.json i
def listM (E : ErrNo) (s : Str) : Nat → Nat → Nat → Nat → List JV → RR JV
  | 0, _, i, _, _ => .bad E.json i
  | n + 1, deep, i, cnt, acc =>
    match valM E s n (deep + 1) i cnt with
    | .bad e j => .bad e j
    | .ok x j c =>
      if byteM s (blankM s j) = 93 then .ok (.mk 5 false [] (acc ++ [x]) []) (blankM s j + 1) c
      else if byteM s (blankM s j) = 44 then listM E s n deep (blankM s j + 1) c (acc ++ [x])
      else .bad E.json (blankM s j)
def objM (E : ErrNo) (s : Str) : Nat → Nat → Nat → Nat → JV → RR JV
  | 0, _, i, _, _ => .bad E.json i
  | n + 1, deep, i0, cnt, acc =>
    let i := blankM s i0
    if byteM s i ≠ 34 then .bad E.json i
    else match quotM E s i cnt with
    | .bad e j => .bad e j
    | .ok key j c =>
      if (getM acc key).isSome then .bad E.twice i
      else if byteM s (blankM s j) ≠ 58 then .bad E.json (blankM s j)
      else match valM E s n (deep + 1) (blankM s j + 1) c with
      | .bad e j2 => .bad e j2
      | .ok x j2 c2 =>
        if byteM s (blankM s j2) = 125 then .ok (putM acc key x) (blankM s j2 + 1) c2
        else if byteM s (blankM s j2) = 44 then objM E s n deep (blankM s j2 + 1) c2 (putM acc key x)
        else .bad E.json (blankM s j2)
end
def decM (E : ErrNo) (s : Str) : RR JV :=
  if 65536 < s.length then .bad E.long 0
  else match valM E s 5000 1 0 0 with
  | .bad e i => .bad e i
  | .ok v i c => if blankM s i < s.length then .bad E.json (blankM s i) else .ok v i c
end Go.Eng
namespace Go.Eng
open Go
def bt (s : Str) (i : Nat) : Nat := (s.getD i 0).toNat
theorem bt_lt (s : Str) (i : Nat) : bt s i < 256 := UInt8.toNat_lt _
theorem byteM_in {s : Str} {i : Nat} (h : i < s.length) : byteM s i = (bt s i : Int) := by
  unfold byteM bt
  rw [List.getElem?_eq_getElem h, List.getD_eq_getElem?_getD, List.getElem?_eq_getElem h]; rfl
theorem byteM_out {s : Str} {i : Nat} (h : s.length ≤ i) : byteM s i = -1 := by
  unfold byteM
  rw [List.getElem?_eq_none h]
theorem byteM_neg {s : Str} {i : Nat} : byteM s i < 0 ↔ s.length ≤ i := by
  rcases Nat.lt_or_ge i s.length with h | h
  · rw [byteM_in h]; omega
  · rw [byteM_out h]; omega
theorem get_bt (s : Str) (i : Nat) : ((ofL s).get! i).toNat = bt s i := by
  unfold bt
  congr 1
  show (s.toArray)[i]! = s.getD i 0
  rw [List.getElem!_toArray, List.getElem!_eq_getElem?_getD, List.getD_eq_getElem?_getD]; rfl
theorem dec_ofL (s : Str) (i : Nat) : Utf8.decode (ofL s) i = Lib.decodeN (s.length - i) (bt s i) (bt s (i + 1)) (bt s (i + 2)) (bt s (i + 3)) := by
  rw [Lib.decode_at, get_bt, get_bt, get_bt, get_bt, ofL_size]
abbrev mor (L k b : Nat) : Prop := k < L ∧ 128 ≤ b ∧ b < 192
abbrev c3 (b0 b1 b2 : Nat) : Nat := (b0 - 224) * 4096 + (b1 - 128) * 64 + (b2 - 128)
abbrev c4 (b0 b1 b2 b3 : Nat) : Nat := (b0 - 240) * 262144 + (b1 - 128) * 4096 + (b2 - 128) * 64 + (b3 - 128)
def decR (L b0 b1 b2 b3 : Nat) : Nat × Nat :=
  if b0 < 128 then (b0, 1)
  else if 194 ≤ b0 ∧ b0 < 224 ∧ mor L 1 b1 then ((b0 - 192) * 64 + (b1 - 128), 2)
  else if 224 ≤ b0 ∧ b0 < 240 ∧ mor L 1 b1 ∧ mor L 2 b2 ∧ 2048 ≤ c3 b0 b1 b2 ∧ (c3 b0 b1 b2 < 55296 ∨ 57343 < c3 b0 b1 b2) then (c3 b0 b1 b2, 3)
  else if 240 ≤ b0 ∧ b0 < 245 ∧ mor L 1 b1 ∧ mor L 2 b2 ∧ mor L 3 b3 ∧ 65536 ≤ c4 b0 b1 b2 b3 ∧ c4 b0 b1 b2 b3 ≤ 1114111 then (c4 b0 b1 b2 b3, 4)
  else (65533, 1)
theorem dec_decR {L b0 b1 b2 b3 : Nat} (h0 : b0 < 256) (h1 : b1 < 256) (h2 : b2 < 256) (h3 : b3 < 256) : Lib.decodeN L b0 b1 b2 b3 = decR L b0 b1 b2 b3 := by
  have m1 : (1 < L ∧ b1 / 64 = 2) ↔ mor L 1 b1 := by unfold mor; omega
  have m2 : (2 < L ∧ b2 / 64 = 2) ↔ mor L 2 b2 := by unfold mor; omega
  have m3 : (3 < L ∧ b3 / 64 = 2) ↔ mor L 3 b3 := by unfold mor; omega
  unfold Lib.decodeN decR
  simp only [m1, m2, m3]
  by_cases a0 : b0 < 128
  · rw [if_pos a0, if_pos a0]
  rw [if_neg a0, if_neg a0]
  by_cases a1 : b0 < 194
  · rw [if_neg (show ¬ (194 ≤ b0 ∧ b0 < 224 ∧ mor L 1 b1) from fun h => by omega), if_neg (show ¬ (224 ≤ b0 ∧ b0 < 240 ∧ _) from fun h => by omega), if_neg (show ¬ (240 ≤ b0 ∧ b0 < 245 ∧ _) from fun h => by omega)]
    rw [if_neg (show ¬ (b0 / 16 = 14 ∧ _) from fun h => by omega), if_neg (show ¬ (b0 / 8 = 30 ∧ _) from fun h => by omega)]
    by_cases a2 : b0 / 32 = 6 ∧ mor L 1 b1
    · rw [if_pos a2, if_neg (by omega)]
    · rw [if_neg a2]
  by_cases a2 : b0 < 224
  · rw [if_neg (show ¬ (224 ≤ b0 ∧ b0 < 240 ∧ _) from fun h => by omega), if_neg (show ¬ (240 ≤ b0 ∧ b0 < 245 ∧ _) from fun h => by omega)]
    rw [if_neg (show ¬ (b0 / 16 = 14 ∧ _) from fun h => by omega), if_neg (show ¬ (b0 / 8 = 30 ∧ _) from fun h => by omega)]
    by_cases q : mor L 1 b1
    · have q' := q
      unfold mor at q'
      rw [if_pos ⟨by omega, q⟩, if_pos (by omega), if_pos ⟨by omega, a2, q⟩]
      apply Prod.ext
      · show b0 % 32 * 64 + b1 % 64 = (b0 - 192) * 64 + (b1 - 128); omega
      · rfl
    · rw [if_neg (fun h => q h.2), if_neg (fun h => q h.2.2)]
  by_cases a3 : b0 < 240
  · rw [if_neg (show ¬ (194 ≤ b0 ∧ b0 < 224 ∧ mor L 1 b1) from fun h => by omega), if_neg (show ¬ (240 ≤ b0 ∧ b0 < 245 ∧ _) from fun h => by omega)]
    rw [if_neg (show ¬ (b0 / 32 = 6 ∧ _) from fun h => by omega), if_neg (show ¬ (b0 / 8 = 30 ∧ _) from fun h => by omega)]
    by_cases q : mor L 1 b1 ∧ mor L 2 b2
    · have q' := q
      unfold mor at q'
      have e : b0 % 16 * 4096 + b1 % 64 * 64 + b2 % 64 = c3 b0 b1 b2 := by unfold c3; omega
      have e2 : c3 b0 b1 b2 ≤ 65535 := by unfold c3; omega
      rw [if_pos ⟨by omega, q.1, q.2⟩]
      simp only [e]
      by_cases r : 2048 ≤ c3 b0 b1 b2 ∧ (c3 b0 b1 b2 < 55296 ∨ 57343 < c3 b0 b1 b2)
      · rw [if_pos ⟨r.1, by omega⟩, if_pos ⟨by omega, a3, q.1, q.2, r.1, r.2⟩]
      · rw [if_neg (by omega), if_neg (fun h => r ⟨h.2.2.2.2.1, h.2.2.2.2.2⟩)]
    · rw [if_neg (fun h => q ⟨h.2.1, h.2.2⟩), if_neg (fun h => q ⟨h.2.2.1, h.2.2.2.1⟩)]
  · rw [if_neg (show ¬ (194 ≤ b0 ∧ b0 < 224 ∧ mor L 1 b1) from fun h => by omega), if_neg (show ¬ (224 ≤ b0 ∧ b0 < 240 ∧ _) from fun h => by omega)]
    rw [if_neg (show ¬ (b0 / 32 = 6 ∧ _) from fun h => by omega), if_neg (show ¬ (b0 / 16 = 14 ∧ _) from fun h => by omega)]
    by_cases q : mor L 1 b1 ∧ mor L 2 b2 ∧ mor L 3 b3
    · have q' := q
      unfold mor at q'
      by_cases a4 : b0 < 248
      · have e : b0 % 8 * 262144 + b1 % 64 * 4096 + b2 % 64 * 64 + b3 % 64 = c4 b0 b1 b2 b3 := by unfold c4; omega
        rw [if_pos ⟨by omega, q.1, q.2.1, q.2.2⟩]
        simp only [e]
        by_cases r : 65536 ≤ c4 b0 b1 b2 b3 ∧ c4 b0 b1 b2 b3 ≤ 1114111
        · rw [if_pos ⟨r.1, by omega⟩, if_pos ⟨by omega, by have := r.2; unfold c4 at this; omega, q.1, q.2.1, q.2.2, r.1, r.2⟩]
        · rw [if_neg (by omega), if_neg (fun h => r ⟨h.2.2.2.2.2.1, h.2.2.2.2.2.2⟩)]
      · rw [if_neg (show ¬ (b0 / 8 = 30 ∧ _) from fun h => by omega), if_neg (show ¬ (240 ≤ b0 ∧ b0 < 245 ∧ _) from fun h => by omega)]
    · rw [if_neg (fun h => q ⟨h.2.1, h.2.2.1, h.2.2.2⟩), if_neg (fun h => q ⟨h.2.2.1, h.2.2.2.1, h.2.2.2.2.1⟩)]
theorem moreM_iff {s : Str} {i k : Nat} : moreM s (i + k) = true ↔ mor (s.length - i) k (bt s (i + k)) := by
  unfold moreM mor
  rw [Bool.and_eq_true, decide_eq_true_iff, decide_eq_true_iff]
  rcases Nat.lt_or_ge (i + k) s.length with h | h
  · rw [byteM_in h]; omega
  · rw [byteM_out h]; omega
def runR (L b0 b1 b2 b3 : Nat) : Nat :=
  if b0 < 128 then 1
  else if 194 ≤ b0 ∧ b0 < 224 ∧ mor L 1 b1 then 2
  else if 224 ≤ b0 ∧ b0 < 240 ∧ mor L 1 b1 ∧ mor L 2 b2 ∧ 2048 ≤ c3 b0 b1 b2 ∧ (c3 b0 b1 b2 < 55296 ∨ 57343 < c3 b0 b1 b2) then 3
  else if 240 ≤ b0 ∧ b0 < 245 ∧ mor L 1 b1 ∧ mor L 2 b2 ∧ mor L 3 b3 ∧ 65536 ≤ c4 b0 b1 b2 b3 ∧ c4 b0 b1 b2 b3 ≤ 1114111 then 4
  else 0
set_option maxHeartbeats 4000000 in
theorem runeM_runR {s : Str} {i : Nat} (h : i < s.length) : runeM s i = runR (s.length - i) (bt s i) (bt s (i + 1)) (bt s (i + 2)) (bt s (i + 3)) := by
  unfold runeM runR
  simp only [moreM_iff, byteM_in h]
  by_cases h1 : i + 1 < s.length
  · by_cases h2 : i + 2 < s.length
    · by_cases h3 : i + 3 < s.length
      · simp only [byteM_in h1, byteM_in h2, byteM_in h3, mor, c3, c4]
        repeat' split
        all_goals first | rfl | (exfalso; omega)
      · simp only [byteM_in h1, byteM_in h2, mor, c3, c4]
        repeat' split
        all_goals first | rfl | (exfalso; omega)
    · simp only [byteM_in h1, mor, c3, c4]
      repeat' split
      all_goals first | rfl | (exfalso; omega)
  · simp only [mor, c3, c4]
    repeat' split
    all_goals first | rfl | (exfalso; omega)
theorem b8_bt (s : Str) (i : Nat) (h : i < s.length) : UInt8.ofNat (bt s i) = s[i] := by
  unfold bt
  rw [List.getD_eq_getElem?_getD, List.getElem?_eq_getElem h]; simp
theorem take_one {s : Str} {i : Nat} (h : i < s.length) : (s.drop i).take 1 = [UInt8.ofNat (bt s i)] := by
  rw [b8_bt s i h, List.drop_eq_getElem_cons h]; rfl
theorem take_step {s : Str} {i n : Nat} (h : i < s.length) : (s.drop i).take (n + 1) = UInt8.ofNat (bt s i) :: (s.drop (i + 1)).take n := by
  rw [b8_bt s i h, List.drop_eq_getElem_cons h]; rfl
set_option maxHeartbeats 4000000 in
theorem rune_bad {s : Str} {i : Nat} (h : i < s.length) (h0 : runeM s i = 0) : Utf8.decode (ofL s) i = (65533, 1) := by
  rw [dec_ofL, dec_decR (bt_lt _ _) (bt_lt _ _) (bt_lt _ _) (bt_lt _ _)]
  rw [runeM_runR h] at h0
  unfold runR at h0
  unfold decR
  repeat' split at h0
  all_goals first | (exfalso; omega) | skip
  all_goals (repeat rw [if_neg (by assumption)])
structure RuneAt (s : Str) (i n c : Nat) : Prop where
  dec : Utf8.decode (ofL s) i = (c, n)
  fits : i + n ≤ s.length
  small : n ≤ 4
  bytes : Lib.encodeRune c = (s.drop i).take n
  low : n = 1 → c = bt s i ∧ c < 128
  high : 2 ≤ n → 128 ≤ c ∧ 128 ≤ bt s i
  top : c ≤ 1114111
  val : c < 55296 ∨ 57343 < c
theorem enc_map (l : List Int) : (l.map fun x => x.toNat.toUInt8) = l.map fun x => UInt8.ofNat x.toNat := rfl
set_option maxHeartbeats 8000000 in
theorem rune_good {s : Str} {i : Nat} (h : i < s.length) (h0 : runeM s i ≠ 0) : ∃ c, RuneAt s i (runeM s i) c := by
  have e := dec_ofL s i
  rw [dec_decR (bt_lt _ _) (bt_lt _ _) (bt_lt _ _) (bt_lt _ _)] at e
  have hr := runeM_runR h
  have l0 := bt_lt s i
  generalize hn : runeM s i = n at *
  unfold runR at hr
  unfold decR at e
  by_cases a1 : bt s i < 128
  · rw [if_pos a1] at hr e
    subst hr
    refine ⟨_, e, by omega, by omega, ?_, fun _ => ⟨rfl, a1⟩, fun h => by omega, by omega, by omega⟩
    rw [take_one h, Lib.encodeRune, Lib.encodeRuneZ_one (by omega) (by omega)]
    simp
  rw [if_neg a1] at hr e
  by_cases a2 : 194 ≤ bt s i ∧ bt s i < 224 ∧ mor (s.length - i) 1 (bt s (i + 1))
  · rw [if_pos a2] at hr e
    subst hr
    obtain ⟨a2, a3, a4, a5, a6⟩ := a2
    refine ⟨_, e, by omega, by omega, ?_, fun h => by omega, fun h => by omega, by omega, by omega⟩
    rw [take_step h, take_one (by omega), Lib.encodeRune, Lib.encodeRuneZ_two (by omega) (by omega)]
    simp only [List.map_cons, List.map_nil, enc_map]
    rw [show ((192 : Int) + (((bt s i - 192) * 64 + (bt s (i + 1) - 128) : Nat) : Int) / 64).toNat = bt s i by omega, show ((128 : Int) + (((bt s i - 192) * 64 + (bt s (i + 1) - 128) : Nat) : Int) % 64).toNat = bt s (i + 1) by omega]
  rw [if_neg a2] at hr e
  by_cases a3 : 224 ≤ bt s i ∧ bt s i < 240 ∧ mor (s.length - i) 1 (bt s (i + 1)) ∧ mor (s.length - i) 2 (bt s (i + 2)) ∧ 2048 ≤ c3 (bt s i) (bt s (i + 1)) (bt s (i + 2)) ∧ (c3 (bt s i) (bt s (i + 1)) (bt s (i + 2)) < 55296 ∨ 57343 < c3 (bt s i) (bt s (i + 1)) (bt s (i + 2)))
  · rw [if_pos a3] at hr e
    subst hr
    obtain ⟨p1, p2, ⟨p3, p4, p5⟩, ⟨p6, p7, p8⟩, p9, p10⟩ := a3
    have q3 : c3 (bt s i) (bt s (i + 1)) (bt s (i + 2)) = (bt s i - 224) * 4096 + (bt s (i + 1) - 128) * 64 + (bt s (i + 2) - 128) := rfl
    refine ⟨_, e, by omega, by omega, ?_, fun h => by omega, fun h => by omega, by omega, by omega⟩
    rw [take_step h, take_step (by omega), take_one (by omega), Lib.encodeRune, Lib.encodeRuneZ_three (by omega)]
    simp only [List.map_cons, List.map_nil, enc_map]
    rw [show ((224 : Int) + ((c3 (bt s i) (bt s (i + 1)) (bt s (i + 2)) : Nat) : Int) / 4096).toNat = bt s i by unfold c3; omega, show ((128 : Int) + ((c3 (bt s i) (bt s (i + 1)) (bt s (i + 2)) : Nat) : Int) / 64 % 64).toNat = bt s (i + 1) by unfold c3; omega, show ((128 : Int) + ((c3 (bt s i) (bt s (i + 1)) (bt s (i + 2)) : Nat) : Int) % 64).toNat = bt s (i + 2) by unfold c3; omega]
  rw [if_neg a3] at hr e
  by_cases a4 : 240 ≤ bt s i ∧ bt s i < 245 ∧ mor (s.length - i) 1 (bt s (i + 1)) ∧ mor (s.length - i) 2 (bt s (i + 2)) ∧ mor (s.length - i) 3 (bt s (i + 3)) ∧ 65536 ≤ c4 (bt s i) (bt s (i + 1)) (bt s (i + 2)) (bt s (i + 3)) ∧ c4 (bt s i) (bt s (i + 1)) (bt s (i + 2)) (bt s (i + 3)) ≤ 1114111
  · rw [if_pos a4] at hr e
    subst hr
    obtain ⟨p1, p2, ⟨p3, p4, p5⟩, ⟨p6, p7, p8⟩, ⟨p9, p10, p11⟩, p12, p13⟩ := a4
    refine ⟨_, e, by omega, by omega, ?_, fun h => by omega, fun h => by omega, by omega, by omega⟩
    rw [take_step h, take_step (by omega), take_step (by omega), take_one (by omega), Lib.encodeRune, Lib.encodeRuneZ_four (by omega) (by omega)]
    simp only [List.map_cons, List.map_nil, enc_map]
    rw [show ((240 : Int) + ((c4 (bt s i) (bt s (i + 1)) (bt s (i + 2)) (bt s (i + 3)) : Nat) : Int) / 262144).toNat = bt s i by unfold c4; omega, show ((128 : Int) + ((c4 (bt s i) (bt s (i + 1)) (bt s (i + 2)) (bt s (i + 3)) : Nat) : Int) / 4096 % 64).toNat = bt s (i + 1) by unfold c4; omega, show ((128 : Int) + ((c4 (bt s i) (bt s (i + 1)) (bt s (i + 2)) (bt s (i + 3)) : Nat) : Int) / 64 % 64).toNat = bt s (i + 2) by unfold c4; omega, show ((128 : Int) + ((c4 (bt s i) (bt s (i + 1)) (bt s (i + 2)) (bt s (i + 3)) : Nat) : Int) % 64).toNat = bt s (i + 3) by unfold c4; omega]
  rw [if_neg a4] at hr
  exact absurd hr h0
theorem rune_end {s : Str} {i : Nat} (h : s.length ≤ i) : runeM s i = 0 := by
  unfold runeM
  simp only [byteM_out h]
  rfl
theorem wr_enc {n : Nat} (h : n < 55296 ∨ 57343 < n ∧ n ≤ 1114111) : Lib.encodeRune n = wrM n := by
  unfold Lib.encodeRune wrM b8
  by_cases h1 : n < 128
  · rw [Lib.encodeRuneZ_one (by omega) (by omega), if_pos h1]; simp
  rw [if_neg h1]
  by_cases h2 : n < 2048
  · rw [Lib.encodeRuneZ_two (by omega) (by omega), if_pos h2]
    simp only [List.map_cons, List.map_nil, enc_map]
    rw [show ((192 : Int) + (n : Int) / 64).toNat = 192 + n / 64 by omega, show ((128 : Int) + (n : Int) % 64).toNat = 128 + n % 64 by omega]
  rw [if_neg h2]
  by_cases h3 : n < 65536
  · rw [Lib.encodeRuneZ_three (by omega), if_pos h3]
    simp only [List.map_cons, List.map_nil, enc_map]
    rw [show ((224 : Int) + (n : Int) / 4096).toNat = 224 + n / 4096 by omega, show ((128 : Int) + (n : Int) / 64 % 64).toNat = 128 + n / 64 % 64 by omega, show ((128 : Int) + (n : Int) % 64).toNat = 128 + n % 64 by omega]
  · rw [Lib.encodeRuneZ_four (by omega) (by omega), if_neg h3]
    simp only [List.map_cons, List.map_nil, enc_map]
    rw [show ((240 : Int) + (n : Int) / 262144).toNat = 240 + n / 262144 by omega, show ((128 : Int) + (n : Int) / 4096 % 64).toNat = 128 + n / 4096 % 64 by omega, show ((128 : Int) + (n : Int) / 64 % 64).toNat = 128 + n / 64 % 64 by omega, show ((128 : Int) + (n : Int) % 64).toNat = 128 + n % 64 by omega]
end Go.Eng
namespace Go.Proofs.YtcnjpcadejcenaaGreatDoor
open Go Go.Eng Go.RowKit
set_option maxRecDepth 100000
abbrev u8 (n : Nat) : Value := .int .u8 (n : Int)
theorem or192 : ∀ x : Fin 32, IntKind.u8.wrap (BitVec.ofInt IntKind.u8.bits 192 ||| BitVec.ofInt IntKind.u8.bits ((x.val : Nat) : Int)).toNat = ((192 + x.val : Nat) : Int) := by decide +kernel
theorem or224 : ∀ x : Fin 16, IntKind.u8.wrap (BitVec.ofInt IntKind.u8.bits 224 ||| BitVec.ofInt IntKind.u8.bits ((x.val : Nat) : Int)).toNat = ((224 + x.val : Nat) : Int) := by decide +kernel
theorem or240 : ∀ x : Fin 8, IntKind.u8.wrap (BitVec.ofInt IntKind.u8.bits 240 ||| BitVec.ofInt IntKind.u8.bits ((x.val : Nat) : Int)).toNat = ((240 + x.val : Nat) : Int) := by decide +kernel
theorem or128 : ∀ x : Fin 64, IntKind.u8.wrap (BitVec.ofInt IntKind.u8.bits 128 ||| BitVec.ofInt IntKind.u8.bits ((x.val : Nat) : Int)).toNat = ((128 + x.val : Nat) : Int) := by decide +kernel
theorem and63 : ∀ x : Fin 256, IntKind.u8.wrap (BitVec.ofInt IntKind.u8.bits ((x.val : Nat) : Int) &&& BitVec.ofInt IntKind.u8.bits 63).toNat = ((x.val % 64 : Nat) : Int) := by decide +kernel
theorem u8_wrap (n : Nat) : IntKind.u8.wrap (n : Int) = ((n % 256 : Nat) : Int) := by
  simp only [IntKind.wrap, IntKind.bits, IntKind.signed, Bool.false_and]
  rw [show (2 : Int) ^ 8 = 256 by decide]
  simp
theorem u32_wrap {n : Nat} (h : n < 4294967296) : IntKind.u32.wrap (n : Int) = (n : Int) := by
  simp only [IntKind.wrap, IntKind.bits, IntKind.signed, Bool.false_and]
  rw [show (2 : Int) ^ 32 = 4294967296 by decide]
  simp only [Bool.false_eq_true, if_false]
  omega
theorem shr_n (r k : Nat) (hk : k ≤ 32) (K : Value → Prop) : binW .shr (.int .i32 (r : Int)) (.int .u64 (k : Int)) K ↔ K (.int .i32 ((r / 2 ^ k : Nat) : Int)) := by
  have e : (r : Int).fdiv (2 ^ min (k : Int).toNat IntKind.i32.bits) = ((r / 2 ^ k : Nat) : Int) := by
    rw [Int.toNat_natCast, show min k IntKind.i32.bits = k from Nat.min_eq_left hk, Int.fdiv_eq_ediv_of_nonneg _ (by exact Int.le_of_lt (Int.pow_pos (by decide)))]
    rw [Int.natCast_ediv, Int.natCast_pow]; rfl
  simp only [binW]
  rw [e]
  constructor
  · exact fun h => h.2
  · exact fun h => ⟨by omega, h⟩
theorem tail_n (x : Nat) (K : Value → Prop) : (cvtW .u8 (.int .i32 (x : Int)) fun t => binW .and t (.int .u8 63) fun t => binW .or (.int .u8 128) t K) ↔ K (u8 (128 + x % 64)) := by
  rw [cvt_int, u8_wrap, bin_and, and63 ⟨x % 256, by omega⟩, bin_or, or128 ⟨x % 256 % 64, by omega⟩]
  simp only
  rw [show x % 256 % 64 = x % 64 by omega]
theorem row2 {w : World} {a b : Nat} {K : Value → World → Prop} (hK : ∀ t w', SlAt w' U8 t 2 [u8 a, u8 b] → Ext w w' → K t w') : bslW U8 2 [(.int .u8 0), (.int .u8 0)] [(0, 1, u8 a), (1, 1, u8 b)] w K := by
  rw [bslW]
  simp only [put_int, put_nil, List.length_cons, List.length_nil, List.set_cons_zero, List.set_cons_succ]
  refine ⟨by omega, by omega, ?_⟩
  refine hK _ _ ⟨_, _, rfl, Nat.le_refl _, fun e => (by cases e), fun _ => ⟨_, _, _, _, rfl, heap_anew _ _ _ rfl, fun i _ => by rw [Nat.zero_add]; simp⟩⟩ (Chg.alloc (Chg.refl _ _) _)
theorem row3 {w : World} {a b c : Nat} {K : Value → World → Prop} (hK : ∀ t w', SlAt w' U8 t 3 [u8 a, u8 b, u8 c] → Ext w w' → K t w') : bslW U8 3 [(.int .u8 0), (.int .u8 0), (.int .u8 0)] [(0, 1, u8 a), (1, 1, u8 b), (2, 1, u8 c)] w K := by
  rw [bslW]
  simp only [put_int, put_nil, List.length_cons, List.length_nil, List.set_cons_zero, List.set_cons_succ]
  refine ⟨by omega, by omega, by omega, ?_⟩
  refine hK _ _ ⟨_, _, rfl, Nat.le_refl _, fun e => (by cases e), fun _ => ⟨_, _, _, _, rfl, heap_anew _ _ _ rfl, fun i _ => by rw [Nat.zero_add]; simp⟩⟩ (Chg.alloc (Chg.refl _ _) _)
theorem row4 {w : World} {a b c d : Nat} {K : Value → World → Prop} (hK : ∀ t w', SlAt w' U8 t 4 [u8 a, u8 b, u8 c, u8 d] → Ext w w' → K t w') : bslW U8 4 [(.int .u8 0), (.int .u8 0), (.int .u8 0), (.int .u8 0)] [(0, 1, u8 a), (1, 1, u8 b), (2, 1, u8 c), (3, 1, u8 d)] w K := by
  rw [bslW]
  simp only [put_int, put_nil, List.length_cons, List.length_nil, List.set_cons_zero, List.set_cons_succ]
  refine ⟨by omega, by omega, by omega, by omega, ?_⟩
  refine hK _ _ ⟨_, _, rfl, Nat.le_refl _, fun e => (by cases e), fun _ => ⟨_, _, _, _, rfl, heap_anew _ _ _ rfl, fun i _ => by rw [Nat.zero_add]; simp⟩⟩ (Chg.alloc (Chg.refl _ _) _)
theorem u8s_nat (l : List Nat) (h : ∀ x ∈ l, x < 256) : u8s (l.map b8) = l.map u8 := by
  unfold u8s
  rw [List.map_map]
  apply List.map_congr_left
  intro x hx
  have := h x hx
  simp only [Function.comp, b8, UInt8.toNat_ofNat', u8]
  rw [Nat.mod_eq_of_lt (by omega)]
section
variable [HX]
theorem arune_p {w : World} {B r : Nat} {l : Str} {v : Value} {K : Value → World → Prop} (hO : Own w B U8 1 v l.length (u8s l)) (hB : B ≤ w.heap.size) (hl : l.length + 4 ≤ 140737488355328) (hr : r < 55296 ∨ 57343 < r ∧ r ≤ 1114111)
    (hK : ∀ v' w', Own w' B U8 1 v' (l ++ wrM r).length (u8s (l ++ wrM r)) → (∀ k, ¬ OwnS w B U8 k → k < w.heap.size → w'.heap[k]? = w.heap[k]?) → Chg (fun k => v.ownBlock = some k) w w' → K v' w') :
    callF Tryz.prog 185 [v, .int .i32 (r : Int)] w K := by
  have fin : ∀ (bs : List Nat) (t : Value) (w1 : World), wrM r = bs.map b8 → (∀ x ∈ bs, x < 256) → bs.length ≤ 4 → SlAt w1 U8 t bs.length (bs.map u8) → Ext w w1 → semE Tryz.prog (Builtin.append_ #[44, 44] 44 #[v, t]) w1 K := by
    intro bs t w1 he hlt hlen ht hx
    refine append_own2 elem_u8 (hO.ext hx) ht (m := bs.length) (by simp) (fun u hu => by simp only [List.mem_map] at hu; obtain ⟨x, _, rfl⟩ := hu; rfl) (by omega) (by omega) (by have := hx.size; omega) fun v' w3 hO3 hc3 _ => ?_
    have hc : Chg (fun k => v.ownBlock = some k) w w3 := (Chg.of_ext hx).trans hc3
    refine hK v' w3 ?_ (fun k hk hlt => hc.heap k hlt fun e => hk (hO.block k e)) hc
    rw [u8s_app, he, u8s_nat bs hlt, List.length_append, List.length_map]
    exact hO3
  refine W185_ok ?_
  unfold W185
  rw [cvt_int, u32_wrap (by omega), bin_leq, condW_dec]
  refine ⟨fun h => ?_, fun h => ?_⟩
  · rw [cvt_int, u8_wrap, Nat.mod_eq_of_lt (by omega)]
    refine row_u8 fun t w1 ht hx => ?_
    refine fin [r] t w1 ?_ (fun x hx => by simp only [List.mem_singleton] at hx; omega) (by simp) ht hx
    unfold wrM; rw [if_pos (by omega)]; rfl
  refine W223_ok ?_
  unfold W223
  rw [cvt_int, u32_wrap (by omega), bin_leq, condW_dec]
  refine ⟨fun h2 => ?_, fun h2 => ?_⟩
  · rw [show (6 : Int) = ((6 : Nat) : Int) from rfl, shr_n r 6 (by omega), cvt_int, u8_wrap, show r / 2 ^ 6 % 256 = r / 64 by omega, bin_or, or192 ⟨r / 64, by omega⟩, tail_n]
    refine row2 fun t w1 ht hx => ?_
    refine fin [192 + r / 64, 128 + r % 64] t w1 ?_ (fun x hx => by simp only [List.mem_cons, List.not_mem_nil, or_false] at hx; omega) (by simp) ht hx
    unfold wrM; rw [if_neg (by omega), if_pos (by omega)]; rfl
  refine JoinW.cut (fun s' w' => s' = [.bool (decide (r ≤ 65535))] ∧ w' = w) ?_ ?_
  · rw [bin_lss, condW_dec]
    refine ⟨fun h3 => ?_, fun h3 => ?_⟩
    · rw [decide_eq_true h3, decide_eq_true (by omega)]; exact ⟨rfl, rfl⟩
    · rw [bin_lss, decide_eq_true (show (57343 : Int) < (r : Int) by omega)]
      refine GdW.look (decide (r ≤ 65535)) (fun _ J hJ => ?_) fun g => ?_
      · rw [bin_leq]
        rw [show decide ((r : Int) ≤ 65535) = decide (r ≤ 65535) by rw [decide_eq_decide]; omega]
        exact hJ
      · exact ⟨rfl, rfl⟩
  rintro s' g w' ⟨rfl, rfl⟩
  simp only [List.getD_cons_zero]
  rw [condW_dec]
  refine ⟨fun h3 => ?_, fun h3 => ?_⟩
  · rw [show (12 : Int) = ((12 : Nat) : Int) from rfl, shr_n r 12 (by omega), cvt_int, u8_wrap, show r / 2 ^ 12 % 256 = r / 4096 by omega, bin_or, or224 ⟨r / 4096, by omega⟩, show (6 : Int) = ((6 : Nat) : Int) from rfl, shr_n r 6 (by omega), tail_n, tail_n]
    refine row3 fun t w1 ht hx => ?_
    refine fin [224 + r / 4096, 128 + r / 64 % 64, 128 + r % 64] t w1 ?_ (fun x hx => by simp only [List.mem_cons, List.not_mem_nil, or_false] at hx; omega) (by simp) ht hx
    unfold wrM; rw [if_neg (by omega), if_neg (by omega), if_pos (by omega)]; rfl
  rw [bin_gtr, decide_eq_true (show (65535 : Int) < (r : Int) by omega)]
  refine GdW.look true (fun _ J hJ => ?_) fun g => ?_
  · rw [bin_leq, decide_eq_true (show (r : Int) ≤ 1114111 by omega)]; exact hJ
  show condW (.bool true) _ _
  rw [condW_true]
  rw [show (18 : Int) = ((18 : Nat) : Int) from rfl, shr_n r 18 (by omega), cvt_int, u8_wrap, show r / 2 ^ 18 % 256 = r / 262144 by omega, bin_or, or240 ⟨r / 262144, by omega⟩, show (12 : Int) = ((12 : Nat) : Int) from rfl, shr_n r 12 (by omega), tail_n, show (6 : Int) = ((6 : Nat) : Int) from rfl, shr_n r 6 (by omega), tail_n, tail_n]
  refine row4 fun t w1 ht hx => ?_
  refine fin [240 + r / 262144, 128 + r / 4096 % 64, 128 + r / 64 % 64, 128 + r % 64] t w1 ?_ (fun x hx => by simp only [List.mem_cons, List.not_mem_nil, or_false] at hx; omega) (by simp) ht hx
  unfold wrM; rw [if_neg (by omega), if_neg (by omega), if_neg (by omega)]; rfl
theorem wrune_p {w : World} {B b r : Nat} {l : Str} {K : Value → World → Prop} (h : Bld w B b l) (hB : B ≤ w.heap.size) (hl : l.length + 4 ≤ 140737488355328) (hr : r < 55296 ∨ 57343 < r ∧ r ≤ 1114111)
    (hK : ∀ v w', Bld w' B b (l ++ wrM r) → Chg (BCh w B b) w w' → K v w') : callF Tryz.prog 155 [.pointer (some ⟨b, 0, none⟩), .int .i32 (r : Int)] w K := by
  have hb := h.base
  refine W155_ok ?_
  unfold W155
  refine check_p h fun v w1 h1 hO hz hc => ?_
  have hc1 : w1.cell? (⟨b, 0, none⟩ : Addr) |>.isSome := by rw [cell_eq, h1]; rfl
  rw [nil_ptr, fld_ptr, ld_one]
  refine ⟨v, by rw [add_mk, cell_eq, h1]; rfl, ?_⟩
  rw [lenl_at hO.sl, nil_ptr, fld_ptr, ld_one]
  refine ⟨v, by rw [add_mk, cell_eq, h1]; rfl, ?_⟩
  refine arune_p hO (by omega) hl hr fun v' w2 hO2 _ hc2 => ?_
  rw [nil_ptr, fld_ptr]
  refine bstore (n := 0) h1 hO hb hc2 hO2 fun w4 hb4 hc4 _ => ?_
  obtain ⟨p, v4, h4, _, hO4, _⟩ := id hb4
  rw [nil_ptr, fld_ptr, ld_one]
  refine ⟨v4, by rw [add_mk, cell_eq, h4]; rfl, ?_⟩
  rw [lenl_at hO4.sl, bin_sub]
  exact hK _ w4 hb4 (BCh.trans hc hc4)
end
end Go.Proofs.YtcnjpcadejcenaaGreatDoor
namespace Go.Eng
open Go
mutual
/-- how many values it has -/
def cntM : JV → Nat
  | .mk _ _ _ xs _ => 1 + cntL xs
def cntL : List JV → Nat
  | [] => 0
  | x :: xs => cntM x + cntL xs
end
theorem cnt_pos (v : JV) : 1 ≤ cntM v := by cases v; simp only [cntM]; omega
theorem showM_eq (k : Int) (b : Bool) (t : Str) (xs : List JV) (ks : List Str) : showM (.mk k b t xs ks) = (if k = 0 then [110, 117, 108, 108] else if k = 2 then (if b then [116, 114, 117, 101] else [102, 97, 108, 115, 101]) else if k = 3 then t else if k = 4 then quoteM t
    else if k = 6 then [123] ++ joinM (List.zipWith (fun a b => quoteM a ++ [58] ++ b) ks (showL xs)) ++ [125] else [91] ++ joinM (showL xs) ++ [93]) := by rw [showM]
theorem byte_at {s r : Str} {i : Nat} {c : UInt8} (h : s.drop i = c :: r) : byteM s i = c.toNat := by
  unfold byteM
  have : s[i]? = some c := by
    have := List.getElem?_drop (xs := s) (i := i) (j := 0)
    rw [h] at this
    simpa using this.symm
  rw [this]
theorem byte_end {s : Str} {i : Nat} (h : s.drop i = []) : byteM s i = -1 := by
  unfold byteM
  rw [List.getElem?_eq_none (List.drop_eq_nil_iff.1 h)]
theorem drop_app {s l r : Str} {i : Nat} (h : s.drop i = l ++ r) : s.drop (i + l.length) = r := by
  rw [← List.drop_drop, h, List.drop_left]
theorem drop_cons {s r : Str} {i : Nat} {c : UInt8} (h : s.drop i = c :: r) : s.drop (i + 1) = r := drop_app (l := [c]) h
theorem drop_lt {s r : Str} {i : Nat} {c : UInt8} (h : s.drop i = c :: r) : i < s.length := by
  apply Nat.lt_of_not_le
  intro hle
  rw [List.drop_eq_nil_iff.2 hle] at h
  cases h
theorem blank_stop {s : Str} {i : Nat} (h : isBlank (byteM s i) = false) : blankM s i = i := by
  unfold blankM
  cases s.length - i with
  | zero => rfl
  | succ n => rw [blankGo, h]; rfl
theorem blank_step {s r : Str} {i : Nat} {c : UInt8} (h : s.drop i = c :: r) (hc : isBlank c.toNat = true) : blankM s i = blankM s (i + 1) := by
  have hlt := drop_lt h
  unfold blankM
  rw [show s.length - i = (s.length - (i + 1)) + 1 by omega, blankGo, byte_at h, hc]
  rfl
theorem blank_over {s r : Str} {l : Str} : ∀ {i : Nat}, s.drop i = l ++ r → (∀ c ∈ l, isBlank (c.toNat : Int) = true) → blankM s i = blankM s (i + l.length) := by
  induction l with
  | nil => intro i _ _; rfl
  | cons c l ih =>
    intro i h hb
    rw [blank_step h (hb c List.mem_cons_self), ih (i := i + 1) (drop_cons h) fun x hx => hb x (List.mem_cons_of_mem _ hx), List.length_cons]
    congr 1
    omega
theorem word_at {s w r : Str} {i : Nat} (h : s.drop i = w ++ r) : wordM s i w = true := by
  unfold wordM
  rw [h, List.take_left]
  simp
theorem word_not {s w r : Str} {i : Nat} {c d : UInt8} {w' : Str} (h : s.drop i = c :: r) (hw : w = d :: w') (hne : c ≠ d) : wordM s i w = false := by
  unfold wordM
  rw [h, hw]
  refine decide_eq_false fun e => hne ?_
  simp at e
  exact e.1
end Go.Eng
namespace Go.Eng
open Go
theorem byte_pref {s u r : Str} {i j : Nat} (h : s.drop i = u ++ r) (hj : j < u.length) : byteM s (i + j) = u[j].toNat := by
  have : s.drop (i + j) = u[j] :: (u.drop (j + 1) ++ r) := by
    rw [← List.drop_drop, h, List.drop_append_of_le_length (by omega), List.drop_eq_getElem_cons hj]; rfl
  exact byte_at this
theorem rune_same {s t : Str} {i k m : Nat} (hm : 0 < m) (h : runeM s i = m) (hb : ∀ j, j < m → byteM t (k + j) = byteM s (i + j)) : runeM t k = m := by
  have e0 : byteM t k = byteM s i := hb 0 hm
  unfold runeM at h ⊢
  dsimp only at h
  simp only [e0]
  by_cases h1 : m = 1
  · subst h1
    split at h
    · omega
    rename_i a
    split at h
    · rename_i b; rw [if_neg a, if_pos b]
    split at h
    · omega
    split at h
    · omega
    split at h <;> omega
  by_cases h2 : m = 2
  · subst h2
    have e1 := hb 1 (by omega)
    have m1 : moreM t (k + 1) = moreM s (i + 1) := by unfold moreM; rw [e1]
    simp only [m1]
    split at h
    · omega
    rename_i a
    split at h
    · omega
    rename_i b
    split at h
    · rename_i c; rw [if_neg a, if_neg b, if_pos c]
    split at h
    · omega
    split at h <;> omega
  by_cases h3 : m = 3
  · subst h3
    have e1 := hb 1 (by omega)
    have e2 := hb 2 (by omega)
    have m1 : moreM t (k + 1) = moreM s (i + 1) := by unfold moreM; rw [e1]
    have m2 : moreM t (k + 2) = moreM s (i + 2) := by unfold moreM; rw [e2]
    simp only [m1, m2, e1, e2]
    split at h
    · omega
    rename_i a
    split at h
    · omega
    rename_i b
    split at h
    · omega
    rename_i c
    split at h
    · rename_i d; rw [if_neg a, if_neg b, if_neg c, if_pos d]
    split at h <;> omega
  by_cases h4 : m = 4
  · subst h4
    have e1 := hb 1 (by omega)
    have e2 := hb 2 (by omega)
    have e3 := hb 3 (by omega)
    simp only [moreM, e1, e2, e3] at h ⊢
    exact h
  · exfalso
    split at h
    · omega
    split at h
    · omega
    split at h
    · omega
    split at h
    · omega
    split at h <;> omega
theorem rune_lt {s : Str} {i : Nat} (h : runeM s i ≠ 0) : i < s.length := by
  apply Nat.lt_of_not_le
  intro hle
  exact h (rune_end hle)
theorem rune_fits {s : Str} {i : Nat} (h : runeM s i ≠ 0) : i + runeM s i ≤ s.length := by
  obtain ⟨c, hc⟩ := rune_good (rune_lt h) h
  exact hc.fits
def Rn (u : Str) : Prop := u ≠ [] ∧ runeM u 0 = u.length
theorem Rn.pos {u : Str} (h : Rn u) : 0 < u.length := List.length_pos_iff.2 h.1
theorem Rn.at {u s r : Str} {i : Nat} (h : Rn u) (hs : s.drop i = u ++ r) : runeM s i = u.length := by
  refine rune_same (s := u) (i := 0) h.pos h.2 fun j hj => ?_
  rw [byte_pref hs hj, byte_pref (s := u) (i := 0) (u := u) (r := []) (by simp) hj]
theorem Rn.of {s : Str} {i : Nat} (h : runeM s i ≠ 0) : Rn ((s.drop i).take (runeM s i)) := by
  have hf := rune_fits h
  have hl : ((s.drop i).take (runeM s i)).length = runeM s i := by rw [List.length_take, List.length_drop]; omega
  refine ⟨fun e => by rw [e] at hl; simp at hl; omega, ?_⟩
  rw [hl]
  refine rune_same (s := s) (i := i) (by omega) rfl fun j hj => ?_
  rw [byte_pref (s := s) (i := i) (u := (s.drop i).take (runeM s i)) (r := (s.drop i).drop (runeM s i)) (List.take_append_drop _ _).symm (by omega), byte_pref (s := (s.drop i).take (runeM s i)) (i := 0) (u := (s.drop i).take (runeM s i)) (r := []) (by simp) (by omega)]
inductive Utf : Str → Prop where
  | nil : Utf []
  | cons {u r : Str} : Rn u → Utf r → Utf (u ++ r)
theorem Utf.app {a b : Str} (h : Utf a) (h' : Utf b) : Utf (a ++ b) := by
  induction h with
  | nil => exact h'
  | cons hu _ ih => rw [List.append_assoc]; exact .cons hu ih
theorem Utf.one {u : Str} (h : Rn u) : Utf u := by have := Utf.cons h .nil; rwa [List.append_nil] at this
theorem utf_of {s : Str} : ∀ {n i : Nat}, utfGo s n i = true → Utf (s.drop i) := by
  intro n
  induction n with
  | zero =>
    intro i h
    rw [utfGo, decide_eq_true_eq] at h
    rw [List.drop_of_length_le h]
    exact .nil
  | succ n ih =>
    intro i h
    rw [utfGo] at h
    split at h
    · rename_i hl; rw [List.drop_of_length_le hl]; exact .nil
    · split at h
      · cases h
      · rename_i h0
        have := Utf.cons (Rn.of h0) (ih h)
        rwa [← List.drop_drop, List.take_append_drop] at this
theorem of_utf {t : Str} (h : Utf t) : ∀ {s : Str} {n i : Nat}, s.drop i = t → t.length ≤ n → utfGo s n i = true := by
  induction h with
  | nil =>
    intro s n i hs _
    have hl := List.drop_eq_nil_iff.1 hs
    cases n with
    | zero => rw [utfGo, decide_eq_true_eq]; exact hl
    | succ n => rw [utfGo, if_pos hl]
  | @cons u r hu _ ih =>
    intro s n i hs hn
    have hp := hu.pos
    rw [List.length_append] at hn
    have hr := hu.at hs
    cases n with
    | zero => omega
    | succ n =>
      rw [utfGo]
      split
      · rfl
      · rw [if_neg (by omega), hr]
        exact ih (drop_app hs) (by omega)
theorem utf_iff (s : Str) : utfM s = true ↔ Utf s := by
  unfold utfM
  constructor
  · intro h; have := utf_of h; rwa [List.drop_zero] at this
  · intro h; exact of_utf h (List.drop_zero ..) (Nat.le_refl _)
theorem Rn.cases {u : Str} (h : Rn u) : (∃ c : UInt8, u = [c] ∧ c.toNat < 128) ∨ (∀ c ∈ u, 128 ≤ c.toNat) := by
  have hr := h.2
  have hp := h.pos
  have hb : ∀ j, (hj : j < u.length) → byteM u j = u[j].toNat := fun j hj => by
    have := byte_pref (s := u) (i := 0) (u := u) (r := []) (by simp) hj
    rwa [Nat.zero_add] at this
  have hm : ∀ j, (hj : j < u.length) → moreM u j = true → 128 ≤ u[j].toNat := fun j hj hm => by
    unfold moreM at hm
    rw [hb j hj, Bool.and_eq_true, decide_eq_true_iff, decide_eq_true_iff] at hm
    omega
  unfold runeM at hr
  rw [hb 0 hp] at hr
  simp only [Nat.zero_add] at hr
  have hall : (∀ j, (hj : j < u.length) → 128 ≤ u[j].toNat) → ∀ c ∈ u, 128 ≤ c.toNat := fun hj c hc => by
    obtain ⟨j, h1, rfl⟩ := List.getElem_of_mem hc
    exact hj j h1
  split at hr
  · omega
  split at hr
  · rename_i hlt
    left
    obtain ⟨c, rfl⟩ := List.length_eq_one_iff.1 hr.symm
    refine ⟨c, rfl, ?_⟩
    have e : ([c] : Str)[0].toNat = c.toNat := rfl
    omega
  right
  refine hall fun j hj => ?_
  split at hr
  · rename_i c
    obtain ⟨c1, _, c2⟩ := c
    obtain rfl | rfl : j = 0 ∨ j = 1 := by omega
    · omega
    · exact hm 1 hj c2
  split at hr
  · rename_i c
    obtain ⟨c1, _, c2, c3, _⟩ := c
    obtain rfl | rfl | rfl : j = 0 ∨ j = 1 ∨ j = 2 := by omega
    · omega
    · exact hm 1 hj c2
    · exact hm 2 hj c3
  split at hr
  · rename_i c
    obtain ⟨c1, _, c2, c3, c4, _⟩ := c
    obtain rfl | rfl | rfl | rfl : j = 0 ∨ j = 1 ∨ j = 2 ∨ j = 3 := by omega
    · omega
    · exact hm 1 hj c2
    · exact hm 2 hj c3
    · exact hm 3 hj c4
  · omega
theorem esc_high {u : Str} (h : ∀ c ∈ u, 128 ≤ c.toNat) : u.flatMap escB = u := by
  induction u with
  | nil => rfl
  | cons c u ih =>
    have hc := h c List.mem_cons_self
    have hne : ∀ d : UInt8, d.toNat < 128 → c ≠ d := fun d hd e => by subst e; omega
    rw [List.flatMap_cons, ih fun x hx => h x (List.mem_cons_of_mem _ hx)]
    unfold escB
    rw [if_neg (by rintro (e | e) <;> exact hne _ (by decide) e), if_neg (hne _ (by decide)), if_neg (hne _ (by decide)), if_neg (hne _ (by decide)), if_neg (hne _ (by decide)), if_neg (hne _ (by decide)), if_neg (by
      intro e
      have : c.toNat < 32 := e
      omega)]
    rfl
def escOk (c : UInt8) : Bool :=
  match escB c with
  | [d] => decide (d = c) && decide (c ≠ 34) && decide (c ≠ 92) && decide (32 ≤ c.toNat)
  | [a, b] => decide (a = 92) && decide (escM [a, b] 0 = some ([c], 2))
  | [a, b, d, e, f, g] => decide (a = 92) && decide (b = 117) && decide (hexM [a, b, d, e, f, g] 0 = c.toNat)
  | _ => false
theorem esc_ok : ∀ n : Fin 128, escOk (UInt8.ofNat n) = true := by decide +kernel
theorem escM_two {s r : Str} {i : Nat} {b : UInt8} {c : Str} (h : s.drop i = 92 :: b :: r) (he : escM [92, b] 0 = some (c, 2)) : escM s i = some (c, 2) := by
  have e1 : byteM s (i + 1) = b.toNat := byte_at (drop_cons h)
  have e2 : byteM [92, b] (0 + 1) = b.toNat := rfl
  unfold escM at he ⊢
  dsimp only at he ⊢
  simp only [e1, e2] at he ⊢
  have hx : hexM [92, b] 0 = -1 := by
    unfold hexM
    rw [if_neg]
    rintro ⟨h, _⟩
    simp at h
  rw [hx] at he
  by_cases q1 : (b.toNat : Int) = 34
  · rw [if_pos q1] at he ⊢; exact he
  rw [if_neg q1] at he ⊢
  by_cases q2 : (b.toNat : Int) = 92
  · rw [if_pos q2] at he ⊢; exact he
  rw [if_neg q2] at he ⊢
  by_cases q3 : (b.toNat : Int) = 47
  · rw [if_pos q3] at he ⊢; exact he
  rw [if_neg q3] at he ⊢
  by_cases q4 : (b.toNat : Int) = 98
  · rw [if_pos q4] at he ⊢; exact he
  rw [if_neg q4] at he ⊢
  by_cases q5 : (b.toNat : Int) = 102
  · rw [if_pos q5] at he ⊢; exact he
  rw [if_neg q5] at he ⊢
  by_cases q6 : (b.toNat : Int) = 110
  · rw [if_pos q6] at he ⊢; exact he
  rw [if_neg q6] at he ⊢
  by_cases q7 : (b.toNat : Int) = 114
  · rw [if_pos q7] at he ⊢; exact he
  rw [if_neg q7] at he ⊢
  by_cases q8 : (b.toNat : Int) = 116
  · rw [if_pos q8] at he ⊢; exact he
  rw [if_neg q8] at he
  rw [if_pos (.inl (by decide))] at he
  cases he
end Go.Eng
namespace Go.Eng
open Go
theorem escM_u {s r : Str} {i : Nat} (h : s.drop i = 92 :: 117 :: r) : escM s i = (if hexM s i < 0 ∨ 56320 ≤ hexM s i ∧ hexM s i ≤ 57343 then none
    else if 55296 ≤ hexM s i ∧ hexM s i ≤ 56319 then (if hexM s (i + 6) < 56320 ∨ 57343 < hexM s (i + 6) then none else some (wrM (65536 + (hexM s i - 55296) * 1024 + hexM s (i + 6) - 56320).toNat, 12))
    else some (wrM (hexM s i).toNat, 6)) := by
  have e1 : byteM s (i + 1) = 117 := byte_at (drop_cons h)
  unfold escM
  simp only [e1]
  rfl
theorem hexM_at {s r : Str} {i : Nat} {a b c d e f : UInt8} (h : s.drop i = a :: b :: c :: d :: e :: f :: r) : hexM s i = hexM [a, b, c, d, e, f] 0 := by
  have hl : i + 6 ≤ s.length := by
    have : (s.drop i).length = 6 + r.length := by rw [h]; simp; omega
    rw [List.length_drop] at this
    omega
  have h1 := drop_cons h
  have h2 := drop_cons h1
  have h3 := drop_cons h2
  have h4 := drop_cons h3
  have h5 := drop_cons h4
  have e0 := byte_at h
  have e1 := byte_at h1
  have e2 := byte_at h2
  have e3 := byte_at h3
  have e4 := byte_at h4
  have e5 := byte_at h5
  unfold hexM
  simp only [Nat.add_assoc, Nat.reduceAdd] at e2 e3 e4 e5 ⊢
  rw [e0, e1, e2, e3, e4, e5]
  simp only [Nat.zero_add, List.length_cons, List.length_nil]
  rw [show byteM [a, b, c, d, e, f] 0 = a.toNat from rfl, show byteM [a, b, c, d, e, f] 1 = b.toNat from rfl, show byteM [a, b, c, d, e, f] 2 = c.toNat from rfl, show byteM [a, b, c, d, e, f] 3 = d.toNat from rfl, show byteM [a, b, c, d, e, f] 4 = e.toNat from rfl, show byteM [a, b, c, d, e, f] 5 = f.toNat from rfl]
  have : (0 + 6 ≤ 0 + 1 + 1 + 1 + 1 + 1 + 1) = True := by simp
  simp only [hl, true_and, this]
theorem b8_of (c : UInt8) : UInt8.ofNat c.toNat = c := UInt8.ofNat_toNat
theorem wr_low {c : UInt8} (h : c.toNat < 128) : wrM c.toNat = [c] := by
  unfold wrM b8
  rw [if_pos h, b8_of]
theorem esc_step {E : ErrNo} {s r : Str} {start i cnt n : Nat} {out : Str} {c : UInt8} (hc : c.toNat < 128) (h : s.drop i = escB c ++ r) :
    quotGo E s start (n + 1) i out cnt = quotGo E s start n (i + (escB c).length) (out ++ [c]) cnt := by
  have hok : escOk c = true := by have := esc_ok ⟨c.toNat, hc⟩; rwa [show (UInt8.ofNat (⟨c.toNat, hc⟩ : Fin 128)) = c from b8_of c] at this
  unfold escOk at hok
  split at hok
  · rename_i d he
    simp only [Bool.and_eq_true, decide_eq_true_eq] at hok
    obtain ⟨⟨⟨rfl, h34⟩, h92⟩, h32⟩ := hok
    rw [he] at h ⊢
    have hb : byteM s i = d.toNat := byte_at h
    have hrn : Rn [d] := by
      refine ⟨by simp, ?_⟩
      unfold runeM
      rw [show byteM [d] 0 = d.toNat from rfl, if_neg (by omega), if_pos (by omega)]; rfl
    have hr : runeM s i = 1 := hrn.at h
    have n34 : ¬ ((d.toNat : Int) = 34) := fun e => h34 (UInt8.toNat_inj.1 (by show d.toNat = 34; omega))
    have n92 : ¬ ((d.toNat : Int) = 92) := fun e => h92 (UInt8.toNat_inj.1 (by show d.toNat = 92; omega))
    rw [quotGo, hb, if_neg n34, if_neg (by omega), if_neg n92, if_neg (by omega), hr, if_neg (by omega), h]
    rfl
  · rename_i a b he
    simp only [Bool.and_eq_true, decide_eq_true_eq] at hok
    obtain ⟨rfl, he2⟩ := hok
    rw [he] at h ⊢
    have hb : byteM s i = 92 := byte_at h
    rw [quotGo, hb, if_neg (by decide), if_neg (by decide), if_pos rfl, escM_two h he2]
    rfl
  · rename_i a b d e f g he
    simp only [Bool.and_eq_true, decide_eq_true_eq] at hok
    obtain ⟨⟨rfl, rfl⟩, he2⟩ := hok
    rw [he] at h ⊢
    have hb : byteM s i = 92 := byte_at h
    have hx := hexM_at h
    rw [he2] at hx
    rw [quotGo, hb, if_neg (by decide), if_neg (by decide), if_pos rfl, escM_u h, hx, if_neg (by omega), if_neg (by omega), Int.toNat_natCast, wr_low hc]
    rfl
  · cases hok
theorem high_step {E : ErrNo} {s r : Str} {start i cnt n : Nat} {out u : Str} (hu : Rn u) (hh : ∀ c ∈ u, 128 ≤ c.toNat) (h : s.drop i = u ++ r) :
    quotGo E s start (n + 1) i out cnt = quotGo E s start n (i + u.length) (out ++ u) cnt := by
  have hp := hu.pos
  have hb : 128 ≤ byteM s i := by
    have := byte_pref (j := 0) h hp
    rw [Nat.add_zero] at this
    rw [this]
    have := hh u[0] (List.getElem_mem ..)
    omega
  have hr := hu.at h
  rw [quotGo, if_neg (by omega), if_neg (by omega), if_neg (by omega), if_neg (by omega), hr, if_neg (by omega), h, List.take_left]
theorem quot_go {E : ErrNo} {s : Str} {start cnt : Nat} {t : Str} (ht : Utf t) : ∀ {r out : Str} {i n : Nat}, s.drop i = t.flatMap escB ++ 34 :: r → t.length < n → (out ++ t).length ≤ 16384 →
    quotGo E s start n i out cnt = .ok (out ++ t) (i + (t.flatMap escB).length + 1) cnt := by
  induction ht with
  | nil =>
    intro r out i n h hn hl
    cases n with
    | zero => simp at hn
    | succ n =>
      simp only [List.flatMap_nil, List.nil_append, List.append_nil] at h hl ⊢
      rw [quotGo, byte_at h, if_pos (by decide), if_neg (by omega)]
      rfl
  | @cons u t' hu ht' ih =>
    intro r out i n h hn hl
    have hp := hu.pos
    rw [List.length_append] at hn
    rw [List.flatMap_append, List.append_assoc] at h
    cases n with
    | zero => omega
    | succ n =>
      rcases hu.cases with ⟨c, rfl, hc⟩ | hh
      · have e : [c].flatMap escB = escB c := by simp
        rw [e] at h
        rw [esc_step hc h, ih (drop_app h) (by simp at hn; omega) (by simpa using hl), List.flatMap_append, e]
        simp only [List.length_append, List.append_assoc, List.singleton_append]
        congr 1; omega
      · rw [esc_high hh] at h
        rw [high_step hu hh h, ih (drop_app h) (by omega) (by simpa using hl), List.flatMap_append, esc_high hh]
        simp only [List.length_append, List.append_assoc]
        congr 1; omega
theorem quot_read {E : ErrNo} {s r t : Str} {i cnt : Nat} (h : s.drop i = quoteM t ++ r) (hu : utfM t = true) (hl : t.length ≤ 16384) : quotM E s i cnt = .ok t (i + (quoteM t).length) cnt := by
  have ht := (utf_iff t).1 hu
  have h1 : s.drop (i + 1) = t.flatMap escB ++ 34 :: r := by
    refine drop_cons (c := 34) ?_
    rw [h]; simp [quoteM]
  have hlen : t.length < s.length + 1 := by
    have e : (s.drop (i + 1)).length = (t.flatMap escB).length + (r.length + 1) := by rw [h1]; simp
    have : t.length ≤ (t.flatMap escB).length := by
      clear h h1 hu hl ht e
      induction t with
      | nil => simp
      | cons c t ih =>
        rw [List.flatMap_cons, List.length_append, List.length_cons]
        have : 1 ≤ (escB c).length := by unfold escB; repeat' split
                                         all_goals simp
        omega
    rw [List.length_drop] at e
    omega
  unfold quotM
  rw [quot_go ht h1 hlen (by simpa using hl)]
  simp only [List.nil_append, quoteM, List.length_append, List.length_cons, List.length_nil]
  congr 1; omega
theorem rn_wr {n : Nat} (h : n < 55296 ∨ 57343 < n ∧ n ≤ 1114111) : Rn (wrM n) := by
  have e : ∀ x : Nat, x < 256 → ((b8 x).toNat : Int) = x := fun x hx => by unfold b8; rw [UInt8.toNat_ofNat']; omega
  unfold wrM
  split
  · refine ⟨by simp, ?_⟩
    unfold runeM
    rw [show byteM [b8 n] 0 = (b8 n).toNat from rfl, e n (by omega), if_neg (by omega), if_pos (by omega)]; rfl
  split
  · refine ⟨by simp, ?_⟩
    unfold runeM moreM
    simp only [Nat.zero_add]
    rw [show byteM [b8 (192 + n / 64), b8 (128 + n % 64)] 0 = (b8 (192 + n / 64)).toNat from rfl, show byteM [b8 (192 + n / 64), b8 (128 + n % 64)] 1 = (b8 (128 + n % 64)).toNat from rfl, e _ (by omega), e _ (by omega),
      if_neg (by omega), if_neg (by omega), if_pos ⟨by omega, by omega, by rw [Bool.and_eq_true, decide_eq_true_iff, decide_eq_true_iff]; omega⟩]; rfl
  split
  · refine ⟨by simp, ?_⟩
    unfold runeM moreM
    simp only [Nat.zero_add]
    rw [show byteM [b8 (224 + n / 4096), b8 (128 + n / 64 % 64), b8 (128 + n % 64)] 0 = (b8 (224 + n / 4096)).toNat from rfl, show byteM [b8 (224 + n / 4096), b8 (128 + n / 64 % 64), b8 (128 + n % 64)] 1 = (b8 (128 + n / 64 % 64)).toNat from rfl, show byteM [b8 (224 + n / 4096), b8 (128 + n / 64 % 64), b8 (128 + n % 64)] 2 = (b8 (128 + n % 64)).toNat from rfl, e _ (by omega), e _ (by omega), e _ (by omega),
      if_neg (by omega), if_neg (by omega), if_neg (by omega), if_pos ⟨by omega, by omega, by rw [Bool.and_eq_true, decide_eq_true_iff, decide_eq_true_iff]; omega, by rw [Bool.and_eq_true, decide_eq_true_iff, decide_eq_true_iff]; omega, by omega, by omega⟩]; rfl
  · refine ⟨by simp, ?_⟩
    unfold runeM moreM
    simp only [Nat.zero_add]
    rw [show byteM [b8 (240 + n / 262144), b8 (128 + n / 4096 % 64), b8 (128 + n / 64 % 64), b8 (128 + n % 64)] 0 = (b8 (240 + n / 262144)).toNat from rfl, show byteM [b8 (240 + n / 262144), b8 (128 + n / 4096 % 64), b8 (128 + n / 64 % 64), b8 (128 + n % 64)] 1 = (b8 (128 + n / 4096 % 64)).toNat from rfl, show byteM [b8 (240 + n / 262144), b8 (128 + n / 4096 % 64), b8 (128 + n / 64 % 64), b8 (128 + n % 64)] 2 = (b8 (128 + n / 64 % 64)).toNat from rfl, show byteM [b8 (240 + n / 262144), b8 (128 + n / 4096 % 64), b8 (128 + n / 64 % 64), b8 (128 + n % 64)] 3 = (b8 (128 + n % 64)).toNat from rfl, e _ (by omega), e _ (by omega), e _ (by omega), e _ (by omega),
      if_neg (by omega), if_neg (by omega), if_neg (by omega), if_neg (by omega), if_pos ⟨by omega, by omega, by rw [Bool.and_eq_true, decide_eq_true_iff, decide_eq_true_iff]; omega, by rw [Bool.and_eq_true, decide_eq_true_iff, decide_eq_true_iff]; omega, by rw [Bool.and_eq_true, decide_eq_true_iff, decide_eq_true_iff]; omega, by omega, by omega⟩]; rfl
theorem hexV_le (c : Int) : hexV c ≤ 15 := by unfold hexV; split; omega; split; omega; split <;> omega
theorem hexM_range (s : Str) (i : Nat) : hexM s i = -1 ∨ 0 ≤ hexM s i ∧ hexM s i ≤ 65535 := by
  unfold hexM
  split
  · rename_i h
    have h2 := hexV_le (byteM s (i + 2))
    have h3 := hexV_le (byteM s (i + 3))
    have h4 := hexV_le (byteM s (i + 4))
    have h5 := hexV_le (byteM s (i + 5))
    omega
  · omega
theorem escB_le (c : UInt8) : (escB c).length ≤ 6 := by unfold escB; repeat' split
                                                        all_goals simp
theorem rn_one {c : UInt8} (h : c.toNat < 128) : Rn [c] := by
  refine ⟨by simp, ?_⟩
  unfold runeM
  rw [show byteM [c] 0 = c.toNat from rfl, if_neg (by omega), if_pos (by omega)]; rfl
theorem rn_len {u : Str} (h : Rn u) : u.length ≤ 4 := by
  obtain ⟨c, hc⟩ := rune_good (i := 0) h.pos (by rw [h.2]; have := h.pos; omega)
  have := hc.small
  rw [h.2] at this; exact this
theorem escM_def (s : Str) (i : Nat) : escM s i = if byteM s (i + 1) = 34 then some ([34], 2) else if byteM s (i + 1) = 92 then some ([92], 2) else if byteM s (i + 1) = 47 then some ([47], 2) else if byteM s (i + 1) = 98 then some ([8], 2) else if byteM s (i + 1) = 102 then some ([12], 2)
  else if byteM s (i + 1) = 110 then some ([10], 2) else if byteM s (i + 1) = 114 then some ([13], 2) else if byteM s (i + 1) = 116 then some ([9], 2)
  else if hexM s i < 0 ∨ 56320 ≤ hexM s i ∧ hexM s i ≤ 57343 then none
    else if 55296 ≤ hexM s i ∧ hexM s i ≤ 56319 then (if hexM s (i + 6) < 56320 ∨ 57343 < hexM s (i + 6) then none else some (wrM (65536 + (hexM s i - 55296) * 1024 + hexM s (i + 6) - 56320).toNat, 12))
    else some (wrM (hexM s i).toNat, 6) := rfl
theorem escM_rune {s : Str} {i k : Nat} {t : Str} (h : escM s i = some (t, k)) : Rn t ∧ (t.flatMap escB).length ≤ k ∧ 2 ≤ k := by
  have long : ∀ {u : Str}, Rn u → (u.flatMap escB).length ≤ 6 := fun {u} hu => by
    rcases hu.cases with ⟨c, rfl, _⟩ | hh
    · simpa using escB_le c
    · rw [esc_high hh]; have := rn_len hu; omega
  have hr := hexM_range s i
  have hr2 := hexM_range s (i + 6)
  have one : ∀ (d : UInt8), d.toNat < 128 → (escB d).length ≤ 2 → some ([d], 2) = some (t, k) → Rn t ∧ (t.flatMap escB).length ≤ k ∧ 2 ≤ k := fun d hd hl he => by
    cases he
    exact ⟨rn_one hd, by simpa using hl, by omega⟩
  rw [escM_def] at h
  by_cases q0 : byteM s (i + 1) = 34
  · rw [if_pos q0] at h; exact one _ (by decide) (by decide) h
  rw [if_neg q0] at h
  by_cases q1 : byteM s (i + 1) = 92
  · rw [if_pos q1] at h; exact one _ (by decide) (by decide) h
  rw [if_neg q1] at h
  by_cases q2 : byteM s (i + 1) = 47
  · rw [if_pos q2] at h; exact one _ (by decide) (by decide) h
  rw [if_neg q2] at h
  by_cases q3 : byteM s (i + 1) = 98
  · rw [if_pos q3] at h; exact one _ (by decide) (by decide) h
  rw [if_neg q3] at h
  by_cases q4 : byteM s (i + 1) = 102
  · rw [if_pos q4] at h; exact one _ (by decide) (by decide) h
  rw [if_neg q4] at h
  by_cases q5 : byteM s (i + 1) = 110
  · rw [if_pos q5] at h; exact one _ (by decide) (by decide) h
  rw [if_neg q5] at h
  by_cases q6 : byteM s (i + 1) = 114
  · rw [if_pos q6] at h; exact one _ (by decide) (by decide) h
  rw [if_neg q6] at h
  by_cases q7 : byteM s (i + 1) = 116
  · rw [if_pos q7] at h; exact one _ (by decide) (by decide) h
  rw [if_neg q7] at h
  by_cases a1 : hexM s i < 0 ∨ 56320 ≤ hexM s i ∧ hexM s i ≤ 57343
  · rw [if_pos a1] at h; cases h
  rw [if_neg a1] at h
  by_cases a2 : 55296 ≤ hexM s i ∧ hexM s i ≤ 56319
  · rw [if_pos a2] at h
    by_cases a3 : hexM s (i + 6) < 56320 ∨ 57343 < hexM s (i + 6)
    · rw [if_pos a3] at h; cases h
    rw [if_neg a3] at h
    have hn := rn_wr (n := (65536 + (hexM s i - 55296) * 1024 + hexM s (i + 6) - 56320).toNat) (by omega)
    generalize wrM (65536 + (hexM s i - 55296) * 1024 + hexM s (i + 6) - 56320).toNat = z at *
    simp only [Option.some.injEq, Prod.mk.injEq] at h
    obtain ⟨rfl, rfl⟩ := h
    exact ⟨hn, by have := long hn; omega, by omega⟩
  · rw [if_neg a2] at h
    have hn := rn_wr (n := (hexM s i).toNat) (by omega)
    generalize wrM (hexM s i).toNat = z at *
    simp only [Option.some.injEq, Prod.mk.injEq] at h
    obtain ⟨rfl, rfl⟩ := h
    exact ⟨hn, long hn, by omega⟩
theorem quot_back {E : ErrNo} {s : Str} {start cnt : Nat} : ∀ {n i : Nat} {out t : Str} {j c : Nat}, quotGo E s start n i out cnt = .ok t j c → Utf out →
    c = cnt ∧ Utf t ∧ t.length ≤ 16384 ∧ i < j ∧ j ≤ s.length ∧ (t.flatMap escB).length + 1 + i ≤ (out.flatMap escB).length + j := by
  intro n
  induction n with
  | zero => intro i out t j c h _; rw [quotGo] at h; cases h
  | succ n ih =>
    intro i out t j c h hu
    rw [quotGo] at h
    split at h
    · rename_i h34
      split at h
      · cases h
      · cases h
        have hlt : i < s.length := by
          apply Nat.lt_of_not_le; intro hle
          rw [byteM_out hle] at h34; omega
        refine ⟨rfl, hu, by omega, by omega, by omega, by omega⟩
    split at h
    · cases h
    split at h
    · split at h
      · cases h
      · rename_i u k he
        obtain ⟨h1, h2, h3⟩ := escM_rune he
        obtain ⟨a1, a2, a3, a4, a5, a6⟩ := ih h (hu.app (.one h1))
        rw [List.flatMap_append, List.length_append] at a6
        refine ⟨a1, a2, a3, by omega, a5, by omega⟩
    split at h
    · cases h
    split at h
    · cases h
    · rename_i n34 nneg n92 n32 hr
      have hn := Rn.of hr
      have hl : ((s.drop i).take (runeM s i)).length = runeM s i := by rw [List.length_take, List.length_drop]; have := rune_fits hr; omega
      obtain ⟨a1, a2, a3, a4, a5, a6⟩ := ih h (hu.app (.one hn))
      rw [List.flatMap_append, List.length_append] at a6
      have hw : (((s.drop i).take (runeM s i)).flatMap escB).length ≤ runeM s i := by
        have hb0 : byteM s i = ((((s.drop i).take (runeM s i))[0]'(by omega)).toNat : Int) := by
          have := byte_pref (s := s) (i := i) (j := 0) (u := (s.drop i).take (runeM s i)) (r := (s.drop i).drop (runeM s i)) (List.take_append_drop _ _).symm (by omega)
          rwa [Nat.add_zero] at this
        rcases hn.cases with ⟨d, hd, hd2⟩ | hh
        · rw [hd] at hl ⊢
          simp only [hd, List.getElem_cons_zero] at hb0
          simp only [List.flatMap_cons, List.flatMap_nil, List.append_nil]
          rw [← hl]
          have q : ∀ x : UInt8, d = x → byteM s i = x.toNat := fun x e => by rw [hb0, e]
          unfold escB
          rw [if_neg (by rintro (e | e); exact n34 (q _ e); exact n92 (q _ e)), if_neg (fun e => n32 (by rw [q _ e]; decide)), if_neg (fun e => n32 (by rw [q _ e]; decide)), if_neg (fun e => n32 (by rw [q _ e]; decide)), if_neg (fun e => n32 (by rw [q _ e]; decide)), if_neg (fun e => n32 (by rw [q _ e]; decide)), if_neg (by
            intro e
            have e2 : d.toNat < 32 := e
            exact n32 (by rw [hb0]; omega))]
          exact Nat.le_refl _
        · rw [esc_high hh]; omega
      refine ⟨a1, a2, a3, by omega, a5, by omega⟩
end Go.Eng

namespace Go.Proofs.YtcnjpcadejcenaaGreatDoor
open Go Go.Eng
set_option maxRecDepth 100000
variable [HX]
def plan127 : Plan := { js := [(49003, ⟨[122], [], 121⟩), (44005, ⟨[93], [], 90⟩), (44011, ⟨[87], [], 84⟩), (44017, ⟨[81], [], 78⟩), (44021, ⟨[75], [], 74⟩), (28, ⟨[], [4], 6⟩), (35002, ⟨[69], [], 64⟩), (35004, ⟨[68], [], 67⟩), (35007, ⟨[66], [], 64⟩), (30005, ⟨[43], [], 40⟩), (30011, ⟨[37], [], 34⟩), (30015, ⟨[31], [], 30⟩), (22005, ⟨[25], [], 22⟩), (22009, ⟨[19], [], 18⟩)], ds := [] }
def W127 (v0 v1 : Value) (w : World) (K : Value → World → Prop) : Prop :=
  callF Tryz.prog 170 [v0, v1] w fun t10 w1 =>
  binW .lss t10 (.int .i64 0) fun t12 =>
  condW t12 (
    K (.int .i64 0) w1) (
    binW .lss t10 (.int .i64 128) fun t14 =>
    condW t14 (
      K (.int .i64 1) w1) (
      binW .geq t10 (.int .i64 194) fun t16 =>
      GdW (isB t16 true) [undef] w1 (fun J2 =>
        binW .lss t10 (.int .i64 224) fun t19 =>
        J2 [t19] w1)
      fun s2 _ w3 =>
      pickW t16 (s2.getD 0 undef) (.bool false) fun t20 =>
      GdW (isB t20 true) [undef] w3 (fun J4 =>
        binW .add v1 (.int .i64 1) fun t24 =>
        callF Tryz.prog 171 [v0, t24] w3 fun t25 w5 =>
        J4 [t25] w5)
      fun s4 _ w6 =>
      pickW t20 (s4.getD 0 undef) (.bool false) fun t26 =>
      condW t26 (
        K (.int .i64 2) w6) (
        JoinW (fun J7 =>
          binW .geq t10 (.int .i64 224) fun t28 =>
          GdW (isB t28 true) [undef] w6 (fun J8 =>
            binW .lss t10 (.int .i64 240) fun t31 =>
            J8 [t31] w6)
          fun s8 _ w9 =>
          pickW t28 (s8.getD 0 undef) (.bool false) fun t32 =>
          GdW (isB t32 true) [undef] w9 (fun J10 =>
            binW .add v1 (.int .i64 1) fun t36 =>
            callF Tryz.prog 171 [v0, t36] w9 fun t37 w11 =>
            J10 [t37] w11)
          fun s10 _ w12 =>
          pickW t32 (s10.getD 0 undef) (.bool false) fun t38 =>
          GdW (isB t38 true) [undef] w12 (fun J13 =>
            binW .add v1 (.int .i64 2) fun t42 =>
            callF Tryz.prog 171 [v0, t42] w12 fun t43 w14 =>
            J13 [t43] w14)
          fun s13 _ w15 =>
          pickW t38 (s13.getD 0 undef) (.bool false) fun t44 =>
          condW t44 (
            binW .sub t10 (.int .i64 224) fun t46 =>
            binW .mul t46 (.int .i64 4096) fun t47 =>
            binW .add v1 (.int .i64 1) fun t50 =>
            callF Tryz.prog 170 [v0, t50] w15 fun t51 w16 =>
            binW .sub t51 (.int .i64 128) fun t52 =>
            binW .mul t52 (.int .i64 64) fun t53 =>
            binW .add t47 t53 fun t54 =>
            binW .add v1 (.int .i64 2) fun t57 =>
            callF Tryz.prog 170 [v0, t57] w16 fun t58 w17 =>
            binW .add t54 t58 fun t59 =>
            binW .sub t59 (.int .i64 128) fun t60 =>
            binW .geq t60 (.int .i64 2048) fun t62 =>
            GdW (isB t62 true) [undef] w17 (fun J18 =>
              binW .lss t60 (.int .i64 55296) fun t65 =>
              J18 [t65] w17)
            fun s18 _ w19 =>
            GdW (isB (s18.getD 0 undef) false) [undef] w19 (fun J20 =>
              binW .gtr t60 (.int .i64 57343) fun t68 =>
              J20 [t68] w19)
            fun s20 _ w21 =>
            GdW (isB t62 true) [undef] w21 (fun J22 =>
              pickW (s18.getD 0 undef) (.bool true) (s20.getD 0 undef) fun t69 =>
              J22 [t69] w21)
            fun s22 _ w23 =>
            pickW t62 (s22.getD 0 undef) (.bool false) fun t70 =>
            condW t70 (
              K (.int .i64 3) w23) (
              J7 [] w23)) (
            J7 [] w15))
        fun s7 _ w24 =>
        binW .geq t10 (.int .i64 240) fun t72 =>
        GdW (isB t72 true) [undef] w24 (fun J25 =>
          binW .lss t10 (.int .i64 245) fun t75 =>
          J25 [t75] w24)
        fun s25 _ w26 =>
        pickW t72 (s25.getD 0 undef) (.bool false) fun t76 =>
        GdW (isB t76 true) [undef] w26 (fun J27 =>
          binW .add v1 (.int .i64 1) fun t80 =>
          callF Tryz.prog 171 [v0, t80] w26 fun t81 w28 =>
          J27 [t81] w28)
        fun s27 _ w29 =>
        pickW t76 (s27.getD 0 undef) (.bool false) fun t82 =>
        GdW (isB t82 true) [undef] w29 (fun J30 =>
          binW .add v1 (.int .i64 2) fun t86 =>
          callF Tryz.prog 171 [v0, t86] w29 fun t87 w31 =>
          J30 [t87] w31)
        fun s30 _ w32 =>
        pickW t82 (s30.getD 0 undef) (.bool false) fun t88 =>
        GdW (isB t88 true) [undef] w32 (fun J33 =>
          binW .add v1 (.int .i64 3) fun t92 =>
          callF Tryz.prog 171 [v0, t92] w32 fun t93 w34 =>
          J33 [t93] w34)
        fun s33 _ w35 =>
        pickW t88 (s33.getD 0 undef) (.bool false) fun t94 =>
        condW t94 (
          binW .sub t10 (.int .i64 240) fun t96 =>
          binW .mul t96 (.int .i64 262144) fun t97 =>
          binW .add v1 (.int .i64 1) fun t100 =>
          callF Tryz.prog 170 [v0, t100] w35 fun t101 w36 =>
          binW .sub t101 (.int .i64 128) fun t102 =>
          binW .mul t102 (.int .i64 4096) fun t103 =>
          binW .add t97 t103 fun t104 =>
          binW .add v1 (.int .i64 2) fun t107 =>
          callF Tryz.prog 170 [v0, t107] w36 fun t108 w37 =>
          binW .sub t108 (.int .i64 128) fun t109 =>
          binW .mul t109 (.int .i64 64) fun t110 =>
          binW .add t104 t110 fun t111 =>
          binW .add v1 (.int .i64 3) fun t114 =>
          callF Tryz.prog 170 [v0, t114] w37 fun t115 w38 =>
          binW .add t111 t115 fun t116 =>
          binW .sub t116 (.int .i64 128) fun t117 =>
          binW .geq t117 (.int .i64 65536) fun t119 =>
          GdW (isB t119 true) [undef] w38 (fun J39 =>
            binW .leq t117 (.int .i64 1114111) fun t122 =>
            J39 [t122] w38)
          fun s39 _ w40 =>
          pickW t119 (s39.getD 0 undef) (.bool false) fun t123 =>
          condW t123 (
            K (.int .i64 4) w40) (
            K (.int .i64 0) w40)) (
          K (.int .i64 0) w35))))
theorem W127_eq (v0 v1 : Value) (w : World) (K : Value → World → Prop) : funW Tryz.prog Tryz.f127 plan127 [v0, v1] w K = W127 v0 v1 w K := by kernel_rfl
theorem W127_chk : chkFun Tryz.prog Tryz.f127 plan127 2 = true := by kernel_rfl
theorem W127_ok {v0 v1 : Value} {w : World} {K : Value → World → Prop} (h : W127 v0 v1 w K) : callF Tryz.prog 127 [v0, v1] w K :=
  tie Tryz.prog 127 Tryz.f127 plan127 [v0, v1] w K 2 (W127 v0 v1 w K) rfl mixed Tryz.func127 W127_chk (W127_eq v0 v1 w K) Tryz.call127 h
def plan170 : Plan := { js := [], ds := [] }
def W170 (v0 v1 : Value) (w : World) (K : Value → World → Prop) : Prop :=
  lensW v0 fun t7 =>
  binW .geq v1 t7 fun t8 =>
  condW t8 (
    K (.int .i64 (-1)) w) (
    ixsW v0 v1 fun t11 =>
    cvtW .i64 t11 fun t12 =>
    K t12 w)
theorem W170_eq (v0 v1 : Value) (w : World) (K : Value → World → Prop) : funW Tryz.prog Tryz.f170 plan170 [v0, v1] w K = W170 v0 v1 w K := by kernel_rfl
theorem W170_chk : chkFun Tryz.prog Tryz.f170 plan170 2 = true := by kernel_rfl
theorem W170_ok {v0 v1 : Value} {w : World} {K : Value → World → Prop} (h : W170 v0 v1 w K) : callF Tryz.prog 170 [v0, v1] w K :=
  tie Tryz.prog 170 Tryz.f170 plan170 [v0, v1] w K 2 (W170 v0 v1 w K) rfl mixed Tryz.func170 W170_chk (W170_eq v0 v1 w K) Tryz.call170 h
def plan171 : Plan := { js := [(3006, ⟨[13], [], 10⟩)], ds := [] }
def W171 (v0 v1 : Value) (w : World) (K : Value → World → Prop) : Prop :=
  callF Tryz.prog 170 [v0, v1] w fun t7 w1 =>
  binW .geq t7 (.int .i64 128) fun t8 =>
  GdW (isB t8 true) [undef] w1 (fun J2 =>
    callF Tryz.prog 170 [v0, v1] w1 fun t12 w3 =>
    binW .lss t12 (.int .i64 192) fun t13 =>
    J2 [t13] w3)
  fun s2 _ w4 =>
  pickW t8 (s2.getD 0 undef) (.bool false) fun t14 =>
  K t14 w4
theorem W171_eq (v0 v1 : Value) (w : World) (K : Value → World → Prop) : funW Tryz.prog Tryz.f171 plan171 [v0, v1] w K = W171 v0 v1 w K := by kernel_rfl
theorem W171_chk : chkFun Tryz.prog Tryz.f171 plan171 2 = true := by kernel_rfl
theorem W171_ok {v0 v1 : Value} {w : World} {K : Value → World → Prop} (h : W171 v0 v1 w K) : callF Tryz.prog 171 [v0, v1] w K :=
  tie Tryz.prog 171 Tryz.f171 plan171 [v0, v1] w K 2 (W171 v0 v1 w K) rfl mixed Tryz.func171 W171_chk (W171_eq v0 v1 w K) Tryz.call171 h
end Go.Proofs.YtcnjpcadejcenaaGreatDoor
namespace Go.Proofs.YtcnjpcadejcenaaGreatDoor
open Go Go.Eng
set_option maxRecDepth 100000
section
variable [HX]
theorem byteM_lo (s : Str) (i : Nat) : -1 ≤ byteM s i ∧ byteM s i ≤ 255 := by
  rcases Nat.lt_or_ge i s.length with h | h
  · rw [byteM_in h]; have := bt_lt s i; omega
  · rw [byteM_out h]; omega
theorem one_ref {s : Str} {i : Nat} {w : World} {K : Value → World → Prop} (hl : s.length ≤ 4611686018427387904) (hK : K (i64 (byteM s i)) w) : callF Tryz.prog 170 [str s, i64 (i : Int)] w K := by
  refine W170_ok ?_
  unfold W170
  rw [lens_str, bin_geq]
  rcases Nat.lt_or_ge i s.length with h | h
  · rw [decide_eq_false (by omega), condW_false, ixs_str]
    refine ⟨by omega, s[i], by simp [h], ?_⟩
    rw [cvt_int]
    have e : byteM s i = (s[i].toNat : Int) := by
      rw [byteM_in h]; unfold bt
      rw [List.getD_eq_getElem?_getD, List.getElem?_eq_getElem h]; rfl
    rw [e] at hK
    have := UInt8.toNat_lt s[i]
    rw [wrap_id (by omega) (by omega)]
    exact hK
  · rw [decide_eq_true (by omega), condW_true]
    rw [byteM_out h] at hK
    exact hK
theorem more_ref {s : Str} {i : Nat} {w : World} {K : Value → World → Prop} (hl : s.length ≤ 4611686018427387904) (hK : K (.bool (moreM s i)) w) : callF Tryz.prog 171 [str s, i64 (i : Int)] w K := by
  refine W171_ok ?_
  unfold W171
  refine one_ref hl ?_
  rw [bin_geq]
  refine GdW.look (decide (byteM s i < 192)) (fun _ J hJ => ?_) fun g => ?_
  · refine one_ref hl ?_
    rw [bin_lss]
    exact hJ
  · simp only [wsv, wsg, wsh, wsl, cond_true, cond_false, exists_eq_left', Option.some.injEq, Option.isSome_some, List.getElem?_toArray, List.getElem?_cons_zero, List.getElem?_cons_succ, List.length_cons, List.length_nil, List.set_cons_zero, List.set_cons_succ, List.getD_cons_zero, List.getD_cons_succ, Nat.zero_add, Nat.add_zero, Nat.reduceAdd, Nat.reduceLT, Nat.lt_add_one, Nat.zero_lt_succ, decide_true, decide_false, ne_eq, reduceCtorEq]
    exact hK
theorem add1 {i k : Nat} (h : i ≤ 4611686018427387904) (hk : k ≤ 10) : IntKind.i64.wrap ((i : Int) + (k : Nat)) = ((i + k : Nat) : Int) := by rw [wrap_id (by omega) (by omega)]; omega
theorem rune_ref {s : Str} {i : Nat} {w : World} {K : Value → World → Prop} (hl : s.length ≤ 4611686018427387904) (hi : i ≤ 4611686018427387904) (hK : K (i64 (runeM s i)) w) : callF Tryz.prog 127 [str s, i64 (i : Int)] w K := by
  have b0 := byteM_lo s i
  have b1 := byteM_lo s (i + 1)
  have b2 := byteM_lo s (i + 2)
  have b3 := byteM_lo s (i + 3)
  have a1 : IntKind.i64.wrap ((i : Int) + 1) = ((i + 1 : Nat) : Int) := add1 (k := 1) hi (by omega)
  have a2 : IntKind.i64.wrap ((i : Int) + 2) = ((i + 2 : Nat) : Int) := add1 (k := 2) hi (by omega)
  have a3 : IntKind.i64.wrap ((i : Int) + 3) = ((i + 3 : Nat) : Int) := add1 (k := 3) hi (by omega)
  refine W127_ok ?_
  unfold W127
  refine one_ref hl ?_
  unfold runeM at hK
  dsimp only at hK
  rw [bin_lss, condW_dec]
  refine ⟨fun c0 => by rw [if_pos c0] at hK; exact hK, fun c0 => ?_⟩
  rw [if_neg c0] at hK
  rw [bin_lss, condW_dec]
  refine ⟨fun c1 => by rw [if_pos c1] at hK; exact hK, fun c1 => ?_⟩
  rw [if_neg c1] at hK
  simp only [wsv, wsg, wsh, wsl, cond_true, cond_false, exists_eq_left', Option.some.injEq, Option.isSome_some, List.getElem?_toArray, List.getElem?_cons_zero, List.getElem?_cons_succ, List.length_cons, List.length_nil, List.set_cons_zero, List.set_cons_succ, List.getD_cons_zero, List.getD_cons_succ, Nat.zero_add, Nat.add_zero, Nat.reduceAdd, Nat.reduceLT, Nat.lt_add_one, Nat.zero_lt_succ, decide_true, decide_false, ne_eq, reduceCtorEq]
  intros
  refine GdW.look (moreM s (i + 1)) (fun _ J hJ => ?_) fun g => ?_
  · rw [a1]; exact more_ref hl hJ
  simp only [wsv, wsg, wsh, wsl, cond_true, cond_false, exists_eq_left', Option.some.injEq, Option.isSome_some, List.getElem?_toArray, List.getElem?_cons_zero, List.getElem?_cons_succ, List.length_cons, List.length_nil, List.set_cons_zero, List.set_cons_succ, List.getD_cons_zero, List.getD_cons_succ, Nat.zero_add, Nat.add_zero, Nat.reduceAdd, Nat.reduceLT, Nat.lt_add_one, Nat.zero_lt_succ, decide_true, decide_false, ne_eq, reduceCtorEq]
  rw [condW_b]
  refine ⟨fun c2 => ?_, fun c2 => ?_⟩
  · simp only [Bool.and_eq_true, decide_eq_true_eq] at c2
    rw [if_pos ⟨c2.1.1, c2.1.2, c2.2⟩] at hK
    exact hK
  have c2' : ¬ (194 ≤ byteM s i ∧ byteM s i < 224 ∧ moreM s (i + 1) = true) := fun h => by
    rw [decide_eq_true h.1, decide_eq_true h.2.1, h.2.2] at c2; cases c2
  rw [if_neg c2'] at hK
  have four : (¬ (224 ≤ byteM s i ∧ byteM s i < 240 ∧ moreM s (i + 1) = true ∧ moreM s (i + 2) = true ∧
    2048 ≤ (byteM s i - 224) * 4096 + (byteM s (i + 1) - 128) * 64 + byteM s (i + 2) - 128 ∧ ((byteM s i - 224) * 4096 + (byteM s (i + 1) - 128) * 64 + byteM s (i + 2) - 128 < 55296 ∨ 57343 < (byteM s i - 224) * 4096 + (byteM s (i + 1) - 128) * 64 + byteM s (i + 2) - 128))) → K (.int .i64 (if 240 ≤ byteM s i ∧ byteM s i < 245 ∧ moreM s (i + 1) = true ∧ moreM s (i + 2) = true ∧ moreM s (i + 3) = true ∧
    65536 ≤ (byteM s i - 240) * 262144 + (byteM s (i + 1) - 128) * 4096 + (byteM s (i + 2) - 128) * 64 + byteM s (i + 3) - 128 ∧ (byteM s i - 240) * 262144 + (byteM s (i + 1) - 128) * 4096 + (byteM s (i + 2) - 128) * 64 + byteM s (i + 3) - 128 ≤ 1114111 then 4 else 0 : Nat)) w := fun h => by
    rw [if_neg h] at hK; exact hK
  refine JoinW.cut (fun s' w' => s' = [] ∧ w' = w ∧ (¬ (224 ≤ byteM s i ∧ byteM s i < 240 ∧ moreM s (i + 1) = true ∧ moreM s (i + 2) = true ∧
    2048 ≤ (byteM s i - 224) * 4096 + (byteM s (i + 1) - 128) * 64 + byteM s (i + 2) - 128 ∧ ((byteM s i - 224) * 4096 + (byteM s (i + 1) - 128) * 64 + byteM s (i + 2) - 128 < 55296 ∨ 57343 < (byteM s i - 224) * 4096 + (byteM s (i + 1) - 128) * 64 + byteM s (i + 2) - 128)))) ?_ ?_
  · simp only [wsv, wsg, wsh, wsl, cond_true, cond_false, exists_eq_left', Option.some.injEq, Option.isSome_some, List.getElem?_toArray, List.getElem?_cons_zero, List.getElem?_cons_succ, List.length_cons, List.length_nil, List.set_cons_zero, List.set_cons_succ, List.getD_cons_zero, List.getD_cons_succ, Nat.zero_add, Nat.add_zero, Nat.reduceAdd, Nat.reduceLT, Nat.lt_add_one, Nat.zero_lt_succ, decide_true, decide_false, ne_eq, reduceCtorEq]
    intros
    refine GdW.look (moreM s (i + 1)) (fun _ J hJ => ?_) fun g => ?_
    · rw [a1]; exact more_ref hl hJ
    simp only [wsv, wsg, wsh, wsl, cond_true, cond_false, exists_eq_left', Option.some.injEq, Option.isSome_some, List.getElem?_toArray, List.getElem?_cons_zero, List.getElem?_cons_succ, List.length_cons, List.length_nil, List.set_cons_zero, List.set_cons_succ, List.getD_cons_zero, List.getD_cons_succ, Nat.zero_add, Nat.add_zero, Nat.reduceAdd, Nat.reduceLT, Nat.lt_add_one, Nat.zero_lt_succ, decide_true, decide_false, ne_eq, reduceCtorEq]
    refine GdW.look (moreM s (i + 2)) (fun _ J hJ => ?_) fun g => ?_
    · rw [a2]; exact more_ref hl hJ
    simp only [wsv, wsg, wsh, wsl, cond_true, cond_false, exists_eq_left', Option.some.injEq, Option.isSome_some, List.getElem?_toArray, List.getElem?_cons_zero, List.getElem?_cons_succ, List.length_cons, List.length_nil, List.set_cons_zero, List.set_cons_succ, List.getD_cons_zero, List.getD_cons_succ, Nat.zero_add, Nat.add_zero, Nat.reduceAdd, Nat.reduceLT, Nat.lt_add_one, Nat.zero_lt_succ, decide_true, decide_false, ne_eq, reduceCtorEq]
    rw [condW_b]
    refine ⟨fun c3 => ?_, fun c3 h => ?_⟩
    · simp only [Bool.and_eq_true, decide_eq_true_eq] at c3
      obtain ⟨⟨⟨d1, d2⟩, d3⟩, d4⟩ := c3
      rw [a1]
      refine one_ref hl ?_
      simp only [wsv, wsg, wsh, wsl, cond_true, cond_false, exists_eq_left', Option.some.injEq, Option.isSome_some, List.getElem?_toArray, List.getElem?_cons_zero, List.getElem?_cons_succ, List.length_cons, List.length_nil, List.set_cons_zero, List.set_cons_succ, List.getD_cons_zero, List.getD_cons_succ, Nat.zero_add, Nat.add_zero, Nat.reduceAdd, Nat.reduceLT, Nat.lt_add_one, Nat.zero_lt_succ, decide_true, decide_false, ne_eq, reduceCtorEq]
      rw [a2]
      refine one_ref hl ?_
      simp only [wsv, wsg, wsh, wsl, cond_true, cond_false, exists_eq_left', Option.some.injEq, Option.isSome_some, List.getElem?_toArray, List.getElem?_cons_zero, List.getElem?_cons_succ, List.length_cons, List.length_nil, List.set_cons_zero, List.set_cons_succ, List.getD_cons_zero, List.getD_cons_succ, Nat.zero_add, Nat.add_zero, Nat.reduceAdd, Nat.reduceLT, Nat.lt_add_one, Nat.zero_lt_succ, decide_true, decide_false, ne_eq, reduceCtorEq]
      have e1 : IntKind.i64.wrap (byteM s i - 224) = byteM s i - 224 := wrap_id (by omega) (by omega)
      have e2 : IntKind.i64.wrap ((byteM s i - 224) * 4096) = (byteM s i - 224) * 4096 := wrap_id (by omega) (by omega)
      have e3 : IntKind.i64.wrap (byteM s (i + 1) - 128) = byteM s (i + 1) - 128 := wrap_id (by omega) (by omega)
      have e4 : IntKind.i64.wrap ((byteM s (i + 1) - 128) * 64) = (byteM s (i + 1) - 128) * 64 := wrap_id (by omega) (by omega)
      have e5 : IntKind.i64.wrap ((byteM s i - 224) * 4096 + (byteM s (i + 1) - 128) * 64) = (byteM s i - 224) * 4096 + (byteM s (i + 1) - 128) * 64 := wrap_id (by omega) (by omega)
      have e6 : IntKind.i64.wrap ((byteM s i - 224) * 4096 + (byteM s (i + 1) - 128) * 64 + byteM s (i + 2)) = (byteM s i - 224) * 4096 + (byteM s (i + 1) - 128) * 64 + byteM s (i + 2) := wrap_id (by omega) (by omega)
      have e7 : IntKind.i64.wrap ((byteM s i - 224) * 4096 + (byteM s (i + 1) - 128) * 64 + byteM s (i + 2) - 128) = (byteM s i - 224) * 4096 + (byteM s (i + 1) - 128) * 64 + byteM s (i + 2) - 128 := wrap_id (by omega) (by omega)
      simp only [e1, e2, e3, e4, e5, e6, e7]
      intro _ _ _
      rw [condW_b]
      refine ⟨fun c4 => ?_, fun c4 h => ?_⟩
      · simp only [Bool.and_eq_true, Bool.or_eq_true, decide_eq_true_eq] at c4
        rw [if_pos ⟨d1, d2, d3, d4, c4.1, c4.2⟩] at hK
        exact hK
      · have : (decide (2048 ≤ (byteM s i - 224) * 4096 + (byteM s (i + 1) - 128) * 64 + byteM s (i + 2) - 128) && (decide ((byteM s i - 224) * 4096 + (byteM s (i + 1) - 128) * 64 + byteM s (i + 2) - 128 < 55296) || decide (57343 < (byteM s i - 224) * 4096 + (byteM s (i + 1) - 128) * 64 + byteM s (i + 2) - 128))) = true := by
          simp only [Bool.and_eq_true, Bool.or_eq_true, decide_eq_true_eq]
          exact h.2.2.2.2
        rw [c4] at this; cases this
    · rw [decide_eq_true h.1, decide_eq_true h.2.1, h.2.2.1, h.2.2.2.1] at c3; cases c3
  · rintro s' g w' ⟨rfl, rfl, hno⟩
    have hK := four hno
    intro g2
    refine GdW.look (moreM s (i + 1)) (fun _ J hJ => ?_) fun g => ?_
    · rw [a1]; exact more_ref hl hJ
    simp only [wsv, wsg, wsh, wsl, cond_true, cond_false, exists_eq_left', Option.some.injEq, Option.isSome_some, List.getElem?_toArray, List.getElem?_cons_zero, List.getElem?_cons_succ, List.length_cons, List.length_nil, List.set_cons_zero, List.set_cons_succ, List.getD_cons_zero, List.getD_cons_succ, Nat.zero_add, Nat.add_zero, Nat.reduceAdd, Nat.reduceLT, Nat.lt_add_one, Nat.zero_lt_succ, decide_true, decide_false, ne_eq, reduceCtorEq]
    refine GdW.look (moreM s (i + 2)) (fun _ J hJ => ?_) fun g => ?_
    · rw [a2]; exact more_ref hl hJ
    simp only [wsv, wsg, wsh, wsl, cond_true, cond_false, exists_eq_left', Option.some.injEq, Option.isSome_some, List.getElem?_toArray, List.getElem?_cons_zero, List.getElem?_cons_succ, List.length_cons, List.length_nil, List.set_cons_zero, List.set_cons_succ, List.getD_cons_zero, List.getD_cons_succ, Nat.zero_add, Nat.add_zero, Nat.reduceAdd, Nat.reduceLT, Nat.lt_add_one, Nat.zero_lt_succ, decide_true, decide_false, ne_eq, reduceCtorEq]
    refine GdW.look (moreM s (i + 3)) (fun _ J hJ => ?_) fun g => ?_
    · rw [a3]; exact more_ref hl hJ
    simp only [wsv, wsg, wsh, wsl, cond_true, cond_false, exists_eq_left', Option.some.injEq, Option.isSome_some, List.getElem?_toArray, List.getElem?_cons_zero, List.getElem?_cons_succ, List.length_cons, List.length_nil, List.set_cons_zero, List.set_cons_succ, List.getD_cons_zero, List.getD_cons_succ, Nat.zero_add, Nat.add_zero, Nat.reduceAdd, Nat.reduceLT, Nat.lt_add_one, Nat.zero_lt_succ, decide_true, decide_false, ne_eq, reduceCtorEq]
    rw [condW_b]
    refine ⟨fun c3 => ?_, fun c3 => ?_⟩
    · simp only [Bool.and_eq_true, decide_eq_true_eq] at c3
      obtain ⟨⟨⟨⟨d1, d2⟩, d3⟩, d4⟩, d5⟩ := c3
      rw [a1]
      refine one_ref hl ?_
      simp only [wsv, wsg, wsh, wsl, cond_true, cond_false, exists_eq_left', Option.some.injEq, Option.isSome_some, List.getElem?_toArray, List.getElem?_cons_zero, List.getElem?_cons_succ, List.length_cons, List.length_nil, List.set_cons_zero, List.set_cons_succ, List.getD_cons_zero, List.getD_cons_succ, Nat.zero_add, Nat.add_zero, Nat.reduceAdd, Nat.reduceLT, Nat.lt_add_one, Nat.zero_lt_succ, decide_true, decide_false, ne_eq, reduceCtorEq]
      rw [a2]
      refine one_ref hl ?_
      simp only [wsv, wsg, wsh, wsl, cond_true, cond_false, exists_eq_left', Option.some.injEq, Option.isSome_some, List.getElem?_toArray, List.getElem?_cons_zero, List.getElem?_cons_succ, List.length_cons, List.length_nil, List.set_cons_zero, List.set_cons_succ, List.getD_cons_zero, List.getD_cons_succ, Nat.zero_add, Nat.add_zero, Nat.reduceAdd, Nat.reduceLT, Nat.lt_add_one, Nat.zero_lt_succ, decide_true, decide_false, ne_eq, reduceCtorEq]
      rw [a3]
      refine one_ref hl ?_
      simp only [wsv, wsg, wsh, wsl, cond_true, cond_false, exists_eq_left', Option.some.injEq, Option.isSome_some, List.getElem?_toArray, List.getElem?_cons_zero, List.getElem?_cons_succ, List.length_cons, List.length_nil, List.set_cons_zero, List.set_cons_succ, List.getD_cons_zero, List.getD_cons_succ, Nat.zero_add, Nat.add_zero, Nat.reduceAdd, Nat.reduceLT, Nat.lt_add_one, Nat.zero_lt_succ, decide_true, decide_false, ne_eq, reduceCtorEq]
      have e1 : IntKind.i64.wrap (byteM s i - 240) = byteM s i - 240 := wrap_id (by omega) (by omega)
      have e2 : IntKind.i64.wrap ((byteM s i - 240) * 262144) = (byteM s i - 240) * 262144 := wrap_id (by omega) (by omega)
      have e3 : IntKind.i64.wrap (byteM s (i + 1) - 128) = byteM s (i + 1) - 128 := wrap_id (by omega) (by omega)
      have e4 : IntKind.i64.wrap ((byteM s (i + 1) - 128) * 4096) = (byteM s (i + 1) - 128) * 4096 := wrap_id (by omega) (by omega)
      have e5 : IntKind.i64.wrap ((byteM s i - 240) * 262144 + (byteM s (i + 1) - 128) * 4096) = (byteM s i - 240) * 262144 + (byteM s (i + 1) - 128) * 4096 := wrap_id (by omega) (by omega)
      have e6 : IntKind.i64.wrap (byteM s (i + 2) - 128) = byteM s (i + 2) - 128 := wrap_id (by omega) (by omega)
      have e7 : IntKind.i64.wrap ((byteM s (i + 2) - 128) * 64) = (byteM s (i + 2) - 128) * 64 := wrap_id (by omega) (by omega)
      have e8 : IntKind.i64.wrap ((byteM s i - 240) * 262144 + (byteM s (i + 1) - 128) * 4096 + (byteM s (i + 2) - 128) * 64) = (byteM s i - 240) * 262144 + (byteM s (i + 1) - 128) * 4096 + (byteM s (i + 2) - 128) * 64 := wrap_id (by omega) (by omega)
      have e9 : IntKind.i64.wrap ((byteM s i - 240) * 262144 + (byteM s (i + 1) - 128) * 4096 + (byteM s (i + 2) - 128) * 64 + byteM s (i + 3)) = (byteM s i - 240) * 262144 + (byteM s (i + 1) - 128) * 4096 + (byteM s (i + 2) - 128) * 64 + byteM s (i + 3) := wrap_id (by omega) (by omega)
      have e10 : IntKind.i64.wrap ((byteM s i - 240) * 262144 + (byteM s (i + 1) - 128) * 4096 + (byteM s (i + 2) - 128) * 64 + byteM s (i + 3) - 128) = (byteM s i - 240) * 262144 + (byteM s (i + 1) - 128) * 4096 + (byteM s (i + 2) - 128) * 64 + byteM s (i + 3) - 128 := wrap_id (by omega) (by omega)
      simp only [e1, e2, e3, e4, e5, e6, e7, e8, e9, e10]
      intro _
      rw [condW_b]
      refine ⟨fun c4 => ?_, fun c4 => ?_⟩
      · simp only [Bool.and_eq_true, decide_eq_true_eq] at c4
        rw [if_pos ⟨d1, d2, d3, d4, d5, c4.1, c4.2⟩] at hK
        exact hK
      · rw [if_neg (fun h => by rw [decide_eq_true h.2.2.2.2.2.1, decide_eq_true h.2.2.2.2.2.2] at c4; cases c4)] at hK
        exact hK
    · rw [if_neg (fun h => by rw [decide_eq_true h.1, decide_eq_true h.2.1, h.2.2.1, h.2.2.2.1, h.2.2.2.2.1] at c3; cases c3)] at hK
      exact hK
end
end Go.Proofs.YtcnjpcadejcenaaGreatDoor

namespace Go.Proofs.YtcnjpcadejcenaaGreatDoor
open Go Go.Eng Go.RowKit
set_option maxRecDepth 100000
section
variable [HX]
theorem range_str {l : Str} {w : World} {K : Value → World → Prop} (hK : K (.pointer (some ⟨w.heap.size, 0, none⟩)) (w.alloc (.stringIter (ofL l) 0))) : semE Tryz.prog (Instr.range 9 (str l)) w K := by
  have hT : Tryz.prog.underlying 9 = some .string := by kernel_rfl
  have hr : (Instr.range 9 (str l)).run Tryz.prog w = .ok (.pointer (some ⟨w.heap.size, 0, none⟩)) (w.alloc (.stringIter (ofL l) 0)) := by
    simp [Instr.range, run_bind, run_underlying' hT, run_pure, newObj, Sem.run]
  unfold semE
  rw [hr]
  exact hK
theorem setObj_chg' {w : World} {r : Nat} {o : Obj} (h : r < w.heap.size) : Chg (· = r) w { w with heap := w.heap.setIfInBounds r o } :=
  ⟨rfl, rfl, rfl, by simp, fun k _ hk => by
    show (w.heap.setIfInBounds r o)[k]? = _
    rw [Array.getElem?_setIfInBounds_ne (by omega)]⟩
theorem next_str {r pos : Nat} {l : Str} {T : TypeId} {w : World} {K : Value → World → Prop} (hw : w.heap[r]? = some (.stringIter (ofL l) pos))
    (h0 : l.length ≤ pos → K (.tuple #[.bool false]) w)
    (h1 : pos < l.length → ∀ w', w'.heap[r]? = some (.stringIter (ofL l) (pos + (Utf8.decode (ofL l) pos).2)) → Chg (· = r) w w' → w'.heap.size = w.heap.size → K (.tuple #[.bool true, i64 pos, .int .i32 (Utf8.decode (ofL l) pos).1]) w') :
    semE Tryz.prog (Instr.next (.pointer (some ⟨r, 0, none⟩)) true T) w K := by
  have hg : (getObj r).run Tryz.prog w = .ok (.stringIter (ofL l) pos) w := by simp [getObj, Sem.run, hw]
  have hlt : r < w.heap.size := (Array.getElem?_eq_some_iff.1 hw).1
  unfold semE
  simp only [Instr.next, run_bind, hg, ofL_size]
  by_cases hp : pos < l.length
  · have hset : (setObj r (.stringIter (ofL l) (pos + (Utf8.decode (ofL l) pos).2))).run Tryz.prog w = .ok () { w with heap := w.heap.setIfInBounds r (.stringIter (ofL l) (pos + (Utf8.decode (ofL l) pos).2)) } := by simp [setObj, Sem.run, hw]
    rw [if_pos hp]
    simp only [run_bind, hset, run_pure]
    exact h1 hp _ (by simp [hlt]) (setObj_chg' hlt) (by simp)
  · rw [if_neg hp]
    simp only [run_pure]
    exact h0 (by omega)
end
end Go.Proofs.YtcnjpcadejcenaaGreatDoor
namespace Go.Proofs.YtcnjpcadejcenaaGreatDoor
open Go Go.Eng
set_option maxRecDepth 100000
variable [HX]
def plan16 : Plan := { js := [], ds := [] }
def W16 (v0 : Value) (w : World) (K : Value → World → Prop) : Prop :=
  boxW 26 v0 w fun t1 w1 =>
  ldW true 5 t1 w1 fun t6 =>
  callF Tryz.prog 42 [t6] w1 fun t7 w2 =>
  unW .not t7 fun t8 =>
  condW t8 (
    K (.tuple #[(.string (ofL [])), (.int .i64 1)]) w2) (
    ldW true 5 t1 w2 fun t10 =>
    callF Tryz.prog 43 [t10] w2 fun t11 w3 =>
    unW .not t11 fun t12 =>
    condW t12 (
      K (.tuple #[(.string (ofL [])), (.int .i64 20)]) w3) (
      ldW true 5 t1 w3 fun t14 =>
      callF Tryz.prog 44 [t14] w3 fun t15 w4 =>
      unW .not t15 fun t16 =>
      condW t16 (
        K (.tuple #[(.string (ofL [])), (.int .i64 31)]) w4) (
        allocW 78 [(.pointer none), (.slice none 0 0)] w4 fun t4 w5 =>
        ldW true 5 t1 w5 fun t17 =>
        callF Tryz.prog 45 [t4, t17] w5 fun t18 w6 =>
        callF Tryz.prog 46 [t4] w6 fun t19 w7 =>
        binW .gtr t19 (.int .i64 65536) fun t20 =>
        condW t20 (
          K (.tuple #[(.string (ofL [])), (.int .i64 3)]) w7) (
          callF Tryz.prog 47 [t4] w7 fun t21 w8 =>
          K (.tuple #[t21, (.int .i64 0)]) w8))))
theorem W16_eq (v0 : Value) (w : World) (K : Value → World → Prop) : funW Tryz.prog Tryz.f16 plan16 [v0] w K = W16 v0 w K := by kernel_rfl
theorem W16_chk : chkFun Tryz.prog Tryz.f16 plan16 1 = true := by kernel_rfl
theorem W16_ok {v0 : Value} {w : World} {K : Value → World → Prop} (h : W16 v0 w K) : callF Tryz.prog 16 [v0] w K :=
  tie Tryz.prog 16 Tryz.f16 plan16 [v0] w K 1 (W16 v0 w K) rfl mixed Tryz.func16 W16_chk (W16_eq v0 w K) Tryz.call16 h
def plan44 : Plan := { js := [(5006, ⟨[20], [], 17⟩), (5013, ⟨[14], [], 10⟩)], ds := [] }
def W44 (v0 : Value) (w : World) (K : Value → World → Prop) : Prop :=
  boxW 26 v0 w fun t1 w1 =>
  fldW 2 t1 fun t5 =>
  ldW false 1 t5 w1 fun t6 =>
  callV Tryz.prog (.func (.func 101) #[] #[]) [t6] w1 fun t7 w2 =>
  unW .not t7 fun t8 =>
  GdW (isB t8 true) [undef] w2 (fun J3 =>
    fldW 4 t1 fun t10 =>
    ldW false 1 t10 w2 fun t11 =>
    callF Tryz.prog 76 [t11, (.func (.func 101) #[] #[])] w2 fun t13 w4 =>
    unW .not t13 fun t14 =>
    J3 [t14] w4)
  fun s3 _ w5 =>
  pickW t8 (s3.getD 0 undef) (.bool false) fun t15 =>
  GdW (isB t15 true) [undef] w5 (fun J6 =>
    fldW 3 t1 fun t17 =>
    ldW false 1 t17 w5 fun t18 =>
    callF Tryz.prog 99 [t18, (.func (.func 103) #[] #[])] w5 fun t19 w7 =>
    unW .not t19 fun t20 =>
    J6 [t20] w7)
  fun s6 _ w8 =>
  pickW t15 (s6.getD 0 undef) (.bool false) fun t21 =>
  K t21 w8
theorem W44_eq (v0 : Value) (w : World) (K : Value → World → Prop) : funW Tryz.prog Tryz.f44 plan44 [v0] w K = W44 v0 w K := by kernel_rfl
theorem W44_chk : chkFun Tryz.prog Tryz.f44 plan44 1 = true := by kernel_rfl
theorem W44_ok {v0 : Value} {w : World} {K : Value → World → Prop} (h : W44 v0 w K) : callF Tryz.prog 44 [v0] w K :=
  tie Tryz.prog 44 Tryz.f44 plan44 [v0] w K 1 (W44 v0 w K) rfl mixed Tryz.func44 W44_chk (W44_eq v0 w K) Tryz.call44 h
def plan45 : Plan := { js := [(70, ⟨[], [], 63⟩), (59, ⟨[62], [6, 7], 62⟩), (41, ⟨[], [], 41⟩), (30, ⟨[40], [4, 5], 40⟩)], ds := [] }
def W45 (v0 v1 : Value) (w : World) (K : Value → World → Prop) : Prop :=
  boxW 26 v1 w fun t3 w1 =>
  fldW 0 t3 fun t8 =>
  ldW false 1 t8 w1 fun t9 =>
  binW .eql t9 (.int .i64 0) fun t11 =>
  condW t11 (
    callF Tryz.prog 78 [v0, (.string (ofL [110, 117, 108, 108]))] w1 fun t13 w2 =>
    K (.tuple #[]) w2) (
    binW .eql t9 (.int .i64 2) fun t15 =>
    condW t15 (
      fldW 1 t3 fun t17 =>
      ldW false 1 t17 w1 fun t18 =>
      callF Tryz.prog 104 [t18] w1 fun t19 w3 =>
      callF Tryz.prog 78 [v0, t19] w3 fun t20 w4 =>
      K (.tuple #[]) w4) (
      binW .eql t9 (.int .i64 3) fun t22 =>
      condW t22 (
        fldW 2 t3 fun t24 =>
        ldW false 1 t24 w1 fun t25 =>
        callF Tryz.prog 78 [v0, t25] w1 fun t26 w5 =>
        K (.tuple #[]) w5) (
        binW .eql t9 (.int .i64 4) fun t28 =>
        condW t28 (
          fldW 2 t3 fun t30 =>
          ldW false 1 t30 w1 fun t31 =>
          callF Tryz.prog 105 [v0, t31] w1 fun t32 w6 =>
          K (.tuple #[]) w6) (
          binW .eql t9 (.int .i64 5) fun t34 =>
          condW t34 (
            callF Tryz.prog 80 [v0, (.int .u8 91)] w1 fun t36 w7 =>
            fldW 3 t3 fun t37 =>
            ldW false 1 t37 w7 fun t38 =>
            lenlW t38 fun t39 =>
            LoopW [(.int .i64 0)] w7 fun s8 _ w9 L8 =>
              binW .lss (s8.getD 0 undef) t39 fun t41 =>
              condW t41 (
                ixaW none 5 t38 (s8.getD 0 undef) fun t43 =>
                ldW true 5 t43 w9 fun t44 =>
                allocW 26 [(.int .i64 0), (.bool false), (.string (ofL [])), (.slice none 0 0), (.slice none 0 0)] w9 fun t5 w10 =>
                stW 5 t5 t44 w10 fun w11 =>
                JoinW (fun J12 =>
                  binW .gtr (s8.getD 0 undef) (.int .i64 0) fun t46 =>
                  condW t46 (
                    callF Tryz.prog 80 [v0, (.int .u8 44)] w11 fun t48 w13 =>
                    J12 [] w13) (
                    J12 [] w11))
                fun s12 _ w14 =>
                ldW true 5 t5 w14 fun t50 =>
                callF Tryz.prog 45 [v0, t50] w14 fun t51 w15 =>
                binW .add (s8.getD 0 undef) (.int .i64 1) fun t52 =>
                L8 [t52] w15) (
                callF Tryz.prog 80 [v0, (.int .u8 93)] w9 fun t54 w16 =>
                K (.tuple #[]) w16)) (
            binW .eql t9 (.int .i64 6) fun t56 =>
            condW t56 (
              callF Tryz.prog 80 [v0, (.int .u8 123)] w1 fun t58 w17 =>
              fldW 3 t3 fun t59 =>
              ldW false 1 t59 w17 fun t60 =>
              lenlW t60 fun t61 =>
              LoopW [(.int .i64 0)] w17 fun s18 _ w19 L18 =>
                binW .lss (s18.getD 0 undef) t61 fun t63 =>
                condW t63 (
                  ixaW none 5 t60 (s18.getD 0 undef) fun t65 =>
                  ldW true 5 t65 w19 fun t66 =>
                  allocW 26 [(.int .i64 0), (.bool false), (.string (ofL [])), (.slice none 0 0), (.slice none 0 0)] w19 fun t7 w20 =>
                  stW 5 t7 t66 w20 fun w21 =>
                  JoinW (fun J22 =>
                    binW .gtr (s18.getD 0 undef) (.int .i64 0) fun t68 =>
                    condW t68 (
                      callF Tryz.prog 80 [v0, (.int .u8 44)] w21 fun t70 w23 =>
                      J22 [] w23) (
                      J22 [] w21))
                  fun s22 _ w24 =>
                  fldW 4 t3 fun t72 =>
                  ldW false 1 t72 w24 fun t73 =>
                  ixaW none 1 t73 (s18.getD 0 undef) fun t75 =>
                  ldW false 1 t75 w24 fun t76 =>
                  callF Tryz.prog 105 [v0, t76] w24 fun t77 w25 =>
                  callF Tryz.prog 80 [v0, (.int .u8 58)] w25 fun t79 w26 =>
                  ldW true 5 t7 w26 fun t81 =>
                  callF Tryz.prog 45 [v0, t81] w26 fun t82 w27 =>
                  binW .add (s18.getD 0 undef) (.int .i64 1) fun t83 =>
                  L18 [t83] w27) (
                  callF Tryz.prog 80 [v0, (.int .u8 125)] w19 fun t85 w28 =>
                  K (.tuple #[]) w28)) (
              K (.tuple #[]) w1))))))
theorem W45_eq (v0 v1 : Value) (w : World) (K : Value → World → Prop) : funW Tryz.prog Tryz.f45 plan45 [v0, v1] w K = W45 v0 v1 w K := by kernel_rfl
theorem W45_chk : chkFun Tryz.prog Tryz.f45 plan45 2 = true := by kernel_rfl
theorem W45_ok {v0 v1 : Value} {w : World} {K : Value → World → Prop} (h : W45 v0 v1 w K) : callF Tryz.prog 45 [v0, v1] w K :=
  tie Tryz.prog 45 Tryz.f45 plan45 [v0, v1] w K 2 (W45 v0 v1 w K) rfl mixed Tryz.func45 W45_chk (W45_eq v0 v1 w K) Tryz.call45 h
def plan49 : Plan := { js := [(37, ⟨[26], [2, 4], 26⟩), (14, ⟨[12], [2, 3], 12⟩)], ds := [] }
def W49 (v0 : Value) (w : World) (K : Value → World → Prop) : Prop :=
  boxW 26 v0 w fun t1 w1 =>
  fldW 2 t1 fun t5 =>
  ldW false 1 t5 w1 fun t6 =>
  callF Tryz.prog 82 [t6] w1 fun t7 w2 =>
  binW .geq t7 (.int .i64 0) fun t8 =>
  condW t8 (
    K (.bool false) w2) (
    fldW 4 t1 fun t9 =>
    ldW false 1 t9 w2 fun t10 =>
    lenlW t10 fun t11 =>
    LoopW [(.int .i64 0)] w2 fun s3 _ w4 L3 =>
      binW .lss (s3.getD 0 undef) t11 fun t13 =>
      condW t13 (
        fldW 4 t1 fun t15 =>
        ldW false 1 t15 w4 fun t16 =>
        ixaW none 1 t16 (s3.getD 0 undef) fun t18 =>
        ldW false 1 t18 w4 fun t19 =>
        callF Tryz.prog 82 [t19] w4 fun t20 w5 =>
        binW .geq t20 (.int .i64 0) fun t21 =>
        condW t21 (
          K (.bool false) w5) (
          binW .add (s3.getD 0 undef) (.int .i64 1) fun t22 =>
          L3 [t22] w5)) (
        fldW 3 t1 fun t23 =>
        ldW false 1 t23 w4 fun t24 =>
        lenlW t24 fun t25 =>
        LoopW [(.int .i64 0)] w4 fun s6 _ w7 L6 =>
          binW .lss (s6.getD 0 undef) t25 fun t27 =>
          condW t27 (
            fldW 3 t1 fun t29 =>
            ldW false 1 t29 w7 fun t30 =>
            ixaW none 5 t30 (s6.getD 0 undef) fun t32 =>
            ldW true 5 t32 w7 fun t33 =>
            callF Tryz.prog 49 [t33] w7 fun t34 w8 =>
            unW .not t34 fun t35 =>
            condW t35 (
              K (.bool false) w8) (
              binW .add (s6.getD 0 undef) (.int .i64 1) fun t36 =>
              L6 [t36] w8)) (
            K (.bool true) w7)))
theorem W49_eq (v0 : Value) (w : World) (K : Value → World → Prop) : funW Tryz.prog Tryz.f49 plan49 [v0] w K = W49 v0 w K := by kernel_rfl
theorem W49_chk : chkFun Tryz.prog Tryz.f49 plan49 1 = true := by kernel_rfl
theorem W49_ok {v0 : Value} {w : World} {K : Value → World → Prop} (h : W49 v0 w K) : callF Tryz.prog 49 [v0] w K :=
  tie Tryz.prog 49 Tryz.f49 plan49 [v0] w K 1 (W49 v0 w K) rfl mixed Tryz.func49 W49_chk (W49_eq v0 w K) Tryz.call49 h
def plan50 : Plan := { js := [(62, ⟨[3], [3], 26⟩), (56, ⟨[3], [3], 26⟩), (45, ⟨[3, 25], [3, 4], 25⟩)], ds := [] }
def W50 (v0 : Value) (w : World) (K : Value → World → Prop) : Prop :=
  boxW 26 v0 w fun t1 w1 =>
  fldW 0 t1 fun t5 =>
  ldW false 1 t5 w1 fun t6 =>
  binW .eql t6 (.int .i64 0) fun t8 =>
  condW t8 (
    K (.string (ofL [110, 117, 108, 108])) w1) (
    binW .eql t6 (.int .i64 2) fun t10 =>
    condW t10 (
      fldW 1 t1 fun t11 =>
      ldW false 1 t11 w1 fun t12 =>
      condW t12 (
        K (.string (ofL [116, 114, 117, 101])) w1) (
        K (.string (ofL [102, 97, 108, 115, 101])) w1)) (
      binW .eql t6 (.int .i64 3) fun t14 =>
      condW t14 (
        fldW 2 t1 fun t15 =>
        ldW false 1 t15 w1 fun t16 =>
        K t16 w1) (
        binW .eql t6 (.int .i64 4) fun t18 =>
        condW t18 (
          fldW 2 t1 fun t19 =>
          ldW false 1 t19 w1 fun t20 =>
          callF Tryz.prog 83 [t20] w1 fun t21 w2 =>
          K t21 w2) (
          fldW 3 t1 fun t22 =>
          ldW false 1 t22 w1 fun t23 =>
          lenlW t23 fun t24 =>
          LoopW [(.string (ofL [])), (.int .i64 0)] w1 fun s3 _ w4 L3 =>
            binW .lss (s3.getD 1 undef) t24 fun t26 =>
            condW t26 (
              JoinW (fun J5 =>
                binW .gtr (s3.getD 1 undef) (.int .i64 0) fun t29 =>
                condW t29 (
                  binW .add (s3.getD 0 undef) (.string (ofL [44])) fun t31 =>
                  J5 [t31] w4) (
                  J5 [(s3.getD 0 undef)] w4))
              fun s5 _ w6 =>
              JoinW (fun J7 =>
                fldW 0 t1 fun t32 =>
                ldW false 1 t32 w6 fun t33 =>
                binW .eql t33 (.int .i64 6) fun t34 =>
                condW t34 (
                  fldW 4 t1 fun t36 =>
                  ldW false 1 t36 w6 fun t37 =>
                  ixaW none 1 t37 (s3.getD 1 undef) fun t39 =>
                  ldW false 1 t39 w6 fun t40 =>
                  callF Tryz.prog 83 [t40] w6 fun t41 w8 =>
                  binW .add (s5.getD 0 undef) t41 fun t42 =>
                  binW .add t42 (.string (ofL [58])) fun t43 =>
                  J7 [t43] w8) (
                  J7 [(s5.getD 0 undef)] w6))
              fun s7 _ w9 =>
              fldW 3 t1 fun t45 =>
              ldW false 1 t45 w9 fun t46 =>
              ixaW none 5 t46 (s3.getD 1 undef) fun t48 =>
              ldW true 5 t48 w9 fun t49 =>
              callF Tryz.prog 50 [t49] w9 fun t50 w10 =>
              binW .add (s7.getD 0 undef) t50 fun t51 =>
              binW .add (s3.getD 1 undef) (.int .i64 1) fun t52 =>
              L3 [t51, t52] w10) (
              fldW 0 t1 fun t53 =>
              ldW false 1 t53 w4 fun t54 =>
              binW .eql t54 (.int .i64 6) fun t55 =>
              condW t55 (
                binW .add (.string (ofL [123])) (s3.getD 0 undef) fun t57 =>
                binW .add t57 (.string (ofL [125])) fun t58 =>
                K t58 w4) (
                binW .add (.string (ofL [91])) (s3.getD 0 undef) fun t60 =>
                binW .add t60 (.string (ofL [93])) fun t61 =>
                K t61 w4))))))
theorem W50_eq (v0 : Value) (w : World) (K : Value → World → Prop) : funW Tryz.prog Tryz.f50 plan50 [v0] w K = W50 v0 w K := by kernel_rfl
theorem W50_chk : chkFun Tryz.prog Tryz.f50 plan50 1 = true := by kernel_rfl
theorem W50_ok {v0 : Value} {w : World} {K : Value → World → Prop} (h : W50 v0 w K) : callF Tryz.prog 50 [v0] w K :=
  tie Tryz.prog 50 Tryz.f50 plan50 [v0] w K 1 (W50 v0 w K) rfl mixed Tryz.func50 W50_chk (W50_eq v0 w K) Tryz.call50 h
def plan17 : Plan := { js := [], ds := [] }
def W17 (v0 : Value) (w : World) (K : Value → World → Prop) : Prop :=
  boxW 26 v0 w fun t1 w1 =>
  ldW true 5 t1 w1 fun t5 =>
  callF Tryz.prog 22 [t5] w1 fun t6 w2 =>
  unW .not t6 fun t7 =>
  condW t7 (
    K (.tuple #[(.string (ofL [])), (.int .i64 1)]) w2) (
    ldW true 5 t1 w2 fun t8 =>
    callF Tryz.prog 48 [t8] w2 fun t9 w3 =>
    unW .not t9 fun t10 =>
    condW t10 (
      K (.tuple #[(.string (ofL [])), (.int .i64 20)]) w3) (
      ldW true 5 t1 w3 fun t11 =>
      callF Tryz.prog 49 [t11] w3 fun t12 w4 =>
      unW .not t12 fun t13 =>
      condW t13 (
        K (.tuple #[(.string (ofL [])), (.int .i64 31)]) w4) (
        ldW true 5 t1 w4 fun t14 =>
        callF Tryz.prog 50 [t14] w4 fun t15 w5 =>
        lensW t15 fun t17 =>
        binW .gtr t17 (.int .i64 65536) fun t18 =>
        condW t18 (
          K (.tuple #[(.string (ofL [])), (.int .i64 3)]) w5) (
          K (.tuple #[t15, (.int .i64 0)]) w5))))
theorem W17_eq (v0 : Value) (w : World) (K : Value → World → Prop) : funW Tryz.prog Tryz.f17 plan17 [v0] w K = W17 v0 w K := by kernel_rfl
theorem W17_chk : chkFun Tryz.prog Tryz.f17 plan17 1 = true := by kernel_rfl
theorem W17_ok {v0 : Value} {w : World} {K : Value → World → Prop} (h : W17 v0 w K) : callF Tryz.prog 17 [v0] w K :=
  tie Tryz.prog 17 Tryz.f17 plan17 [v0] w K 1 (W17 v0 w K) rfl mixed Tryz.func17 W17_chk (W17_eq v0 w K) Tryz.call17 h
def plan82 : Plan := { js := [(6, ⟨[3], [], 1⟩)], ds := [] }
def W82 (v0 : Value) (w : World) (K : Value → World → Prop) : Prop :=
  LoopW [(.int .i64 0)] w fun s1 _ w2 L1 =>
    lensW v0 fun t7 =>
    binW .lss (s1.getD 0 undef) t7 fun t8 =>
    condW t8 (
      callF Tryz.prog 127 [v0, (s1.getD 0 undef)] w2 fun t11 w3 =>
      binW .eql t11 (.int .i64 0) fun t13 =>
      condW t13 (
        K (s1.getD 0 undef) w3) (
        binW .add (s1.getD 0 undef) t11 fun t17 =>
        L1 [t17] w3)) (
      K (.int .i64 (-1)) w2)
theorem W82_eq (v0 : Value) (w : World) (K : Value → World → Prop) : funW Tryz.prog Tryz.f82 plan82 [v0] w K = W82 v0 w K := by kernel_rfl
theorem W82_chk : chkFun Tryz.prog Tryz.f82 plan82 1 = true := by kernel_rfl
theorem W82_ok {v0 : Value} {w : World} {K : Value → World → Prop} (h : W82 v0 w K) : callF Tryz.prog 82 [v0] w K :=
  tie Tryz.prog 82 Tryz.f82 plan82 [v0] w K 1 (W82 v0 w K) rfl mixed Tryz.func82 W82_chk (W82_eq v0 w K) Tryz.call82 h
def plan83 : Plan := { js := [(15, ⟨[3], [3], 5⟩), (22, ⟨[32], [], 17⟩), (8, ⟨[3, 4], [], 1⟩)], ds := [] }
def W83 (v0 : Value) (w : World) (K : Value → World → Prop) : Prop :=
  bslW 5 1 [(.int .u8 0)] [(0, 1, (.int .u8 34))] w fun t6 w1 =>
  LoopW [t6, (.int .i64 0)] w1 fun s2 _ w3 L2 =>
    lensW v0 fun t9 =>
    binW .lss (s2.getD 1 undef) t9 fun t10 =>
    condW t10 (
      JoinW (fun J4 =>
        ixsW v0 (s2.getD 1 undef) fun t15 =>
        JoinW (fun J5 =>
          binW .eql t15 (.int .u8 34) fun t33 =>
          condW t33 (
            J5 [t33] w3) (
            binW .eql t15 (.int .u8 92) fun t34 =>
            J5 [t34] w3))
        fun s5 _ w6 =>
        condW (s5.getD 0 undef) (
          bslW 5 2 [(.int .u8 0), (.int .u8 0)] [(0, 1, (.int .u8 92)), (1, 1, t15)] w6 fun t37 w7 =>
          semE Tryz.prog (Builtin.append_ #[44, 44] 44 #[(s2.getD 0 undef), t37]) w7 fun t38 w8 =>
          J4 [t38] w8) (
          binW .eql t15 (.int .u8 8) fun t40 =>
          condW t40 (
            bslW 5 2 [(.int .u8 0), (.int .u8 0)] [(0, 1, (.int .u8 92)), (1, 1, (.int .u8 98))] w6 fun t42 w9 =>
            semE Tryz.prog (Builtin.append_ #[44, 44] 44 #[(s2.getD 0 undef), t42]) w9 fun t43 w10 =>
            J4 [t43] w10) (
            binW .eql t15 (.int .u8 12) fun t45 =>
            condW t45 (
              bslW 5 2 [(.int .u8 0), (.int .u8 0)] [(0, 1, (.int .u8 92)), (1, 1, (.int .u8 102))] w6 fun t47 w11 =>
              semE Tryz.prog (Builtin.append_ #[44, 44] 44 #[(s2.getD 0 undef), t47]) w11 fun t48 w12 =>
              J4 [t48] w12) (
              binW .eql t15 (.int .u8 10) fun t50 =>
              condW t50 (
                bslW 5 2 [(.int .u8 0), (.int .u8 0)] [(0, 1, (.int .u8 92)), (1, 1, (.int .u8 110))] w6 fun t52 w13 =>
                semE Tryz.prog (Builtin.append_ #[44, 44] 44 #[(s2.getD 0 undef), t52]) w13 fun t53 w14 =>
                J4 [t53] w14) (
                binW .eql t15 (.int .u8 13) fun t55 =>
                condW t55 (
                  bslW 5 2 [(.int .u8 0), (.int .u8 0)] [(0, 1, (.int .u8 92)), (1, 1, (.int .u8 114))] w6 fun t57 w15 =>
                  semE Tryz.prog (Builtin.append_ #[44, 44] 44 #[(s2.getD 0 undef), t57]) w15 fun t58 w16 =>
                  J4 [t58] w16) (
                  binW .eql t15 (.int .u8 9) fun t60 =>
                  condW t60 (
                    bslW 5 2 [(.int .u8 0), (.int .u8 0)] [(0, 1, (.int .u8 92)), (1, 1, (.int .u8 116))] w6 fun t62 w17 =>
                    semE Tryz.prog (Builtin.append_ #[44, 44] 44 #[(s2.getD 0 undef), t62]) w17 fun t63 w18 =>
                    J4 [t63] w18) (
                    binW .lss t15 (.int .u8 32) fun t18 =>
                    condW t18 (
                      binW .quo t15 (.int .u8 16) fun t21 =>
                      binW .add (.int .u8 48) t21 fun t22 =>
                      binW .rem t15 (.int .u8 16) fun t24 =>
                      ixsW (.string (ofL [48, 49, 50, 51, 52, 53, 54, 55, 56, 57, 97, 98, 99, 100, 101, 102])) t24 fun t25 =>
                      bslW 5 6 [(.int .u8 0), (.int .u8 0), (.int .u8 0), (.int .u8 0), (.int .u8 0), (.int .u8 0)] [(0, 1, (.int .u8 92)), (1, 1, (.int .u8 117)), (2, 1, (.int .u8 48)), (3, 1, (.int .u8 48)), (4, 1, t22), (5, 1, t25)] w6 fun t26 w19 =>
                      semE Tryz.prog (Builtin.append_ #[44, 44] 44 #[(s2.getD 0 undef), t26]) w19 fun t27 w20 =>
                      J4 [t27] w20) (
                      bslW 5 1 [(.int .u8 0)] [(0, 1, t15)] w6 fun t30 w21 =>
                      semE Tryz.prog (Builtin.append_ #[44, 44] 44 #[(s2.getD 0 undef), t30]) w21 fun t31 w22 =>
                      J4 [t31] w22))))))))
      fun s4 _ w23 =>
      binW .add (s2.getD 1 undef) (.int .i64 1) fun t12 =>
      L2 [(s4.getD 0 undef), t12] w23) (
      bslW 5 1 [(.int .u8 0)] [(0, 1, (.int .u8 34))] w3 fun t65 w24 =>
      semE Tryz.prog (Builtin.append_ #[44, 44] 44 #[(s2.getD 0 undef), t65]) w24 fun t66 w25 =>
      semQ Tryz.prog (convert 44 9 t66) w25 fun t67 =>
      K t67 w25)
theorem W83_eq (v0 : Value) (w : World) (K : Value → World → Prop) : funW Tryz.prog Tryz.f83 plan83 [v0] w K = W83 v0 w K := by kernel_rfl
theorem W83_chk : chkFun Tryz.prog Tryz.f83 plan83 1 = true := by kernel_rfl
theorem W83_ok {v0 : Value} {w : World} {K : Value → World → Prop} (h : W83 v0 w K) : callF Tryz.prog 83 [v0] w K :=
  tie Tryz.prog 83 Tryz.f83 plan83 [v0] w K 1 (W83 v0 w K) rfl mixed Tryz.func83 W83_chk (W83_eq v0 w K) Tryz.call83 h
def plan101 : Plan := { js := [], ds := [] }
def W101 (v0 : Value) (w : World) (K : Value → World → Prop) : Prop :=
  callF Tryz.prog 102 [v0] w fun t4 w1 =>
  unW .not t4 fun t5 =>
  K t5 w1
theorem W101_eq (v0 : Value) (w : World) (K : Value → World → Prop) : funW Tryz.prog Tryz.f101 plan101 [v0] w K = W101 v0 w K := by kernel_rfl
theorem W101_chk : chkFun Tryz.prog Tryz.f101 plan101 1 = true := by kernel_rfl
theorem W101_ok {v0 : Value} {w : World} {K : Value → World → Prop} (h : W101 v0 w K) : callF Tryz.prog 101 [v0] w K :=
  tie Tryz.prog 101 Tryz.f101 plan101 [v0] w K 1 (W101 v0 w K) rfl mixed Tryz.func101 W101_chk (W101_eq v0 w K) Tryz.call101 h
def plan103 : Plan := { js := [], ds := [] }
def W103 (v0 : Value) (w : World) (K : Value → World → Prop) : Prop :=
  boxW 26 v0 w fun t1 w1 =>
  ldW true 5 t1 w1 fun t3 =>
  callF Tryz.prog 44 [t3] w1 fun t4 w2 =>
  unW .not t4 fun t5 =>
  K t5 w2
theorem W103_eq (v0 : Value) (w : World) (K : Value → World → Prop) : funW Tryz.prog Tryz.f103 plan103 [v0] w K = W103 v0 w K := by kernel_rfl
theorem W103_chk : chkFun Tryz.prog Tryz.f103 plan103 1 = true := by kernel_rfl
theorem W103_ok {v0 : Value} {w : World} {K : Value → World → Prop} (h : W103 v0 w K) : callF Tryz.prog 103 [v0] w K :=
  tie Tryz.prog 103 Tryz.f103 plan103 [v0] w K 1 (W103 v0 w K) rfl mixed Tryz.func103 W103_chk (W103_eq v0 w K) Tryz.call103 h
def plan105 : Plan := { js := [(6, ⟨[], [5, 6], 11⟩)], ds := [] }
def W105 (v0 v1 : Value) (w : World) (K : Value → World → Prop) : Prop :=
  callF Tryz.prog 80 [v0, (.int .u8 34)] w fun t8 w1 =>
  semE Tryz.prog (Instr.range 9 v1) w1 fun t10 w2 =>
  LoopW [] w2 fun s3 _ w4 L3 =>
    semE Tryz.prog (Instr.next t10 true 0) w4 fun t11 w5 =>
    extW 0 t11 fun t12 =>
    condW t12 (
      extW 2 t11 fun t13 =>
      callF Tryz.prog 153 [t13] w5 fun t15 w6 =>
      binW .neq t15 (.int .u8 0) fun t21 =>
      condW t21 (
        cvtW .i32 t15 fun t24 =>
        cvsW t24 fun t25 =>
        binW .add (.string (ofL [92])) t25 fun t26 =>
        callF Tryz.prog 78 [v0, t26] w6 fun t27 w7 =>
        L3 [] w7) (
        binW .lss t13 (.int .i32 32) fun t30 =>
        condW t30 (
          cvtW .i64 t13 fun t33 =>
          binW .add t33 (.int .i64 256) fun t34 =>
          callF Tryz.prog 154 [t34, (.int .i64 16)] w6 fun t35 w8 =>
          slsW t35 (some (.int .i64 1)) none fun t36 =>
          binW .add (.string (ofL [92, 117, 48, 48])) t36 fun t37 =>
          callF Tryz.prog 78 [v0, t37] w8 fun t38 w9 =>
          L3 [] w9) (
          callF Tryz.prog 155 [v0, t13] w6 fun t18 w10 =>
          L3 [] w10))) (
      callF Tryz.prog 80 [v0, (.int .u8 34)] w5 fun t40 w11 =>
      K (.tuple #[]) w11)
theorem W105_eq (v0 v1 : Value) (w : World) (K : Value → World → Prop) : funW Tryz.prog Tryz.f105 plan105 [v0, v1] w K = W105 v0 v1 w K := by kernel_rfl
theorem W105_chk : chkFun Tryz.prog Tryz.f105 plan105 2 = true := by kernel_rfl
theorem W105_ok {v0 v1 : Value} {w : World} {K : Value → World → Prop} (h : W105 v0 v1 w K) : callF Tryz.prog 105 [v0, v1] w K :=
  tie Tryz.prog 105 Tryz.f105 plan105 [v0, v1] w K 2 (W105 v0 v1 w K) rfl mixed Tryz.func105 W105_chk (W105_eq v0 v1 w K) Tryz.call105 h
def plan153 : Plan := { js := [(6, ⟨[4], [], 4⟩)], ds := [] }
def W153 (v0 : Value) (w : World) (K : Value → World → Prop) : Prop :=
  JoinW (fun J1 =>
    binW .eql v0 (.int .i32 34) fun t5 =>
    condW t5 (
      J1 [t5] w) (
      binW .eql v0 (.int .i32 92) fun t6 =>
      J1 [t6] w))
  fun s1 _ w2 =>
  condW (s1.getD 0 undef) (
    cvtW .u8 v0 fun t8 =>
    K t8 w2) (
    binW .eql v0 (.int .i32 8) fun t10 =>
    condW t10 (
      K (.int .u8 98) w2) (
      binW .eql v0 (.int .i32 12) fun t12 =>
      condW t12 (
        K (.int .u8 102) w2) (
        binW .eql v0 (.int .i32 10) fun t14 =>
        condW t14 (
          K (.int .u8 110) w2) (
          binW .eql v0 (.int .i32 13) fun t16 =>
          condW t16 (
            K (.int .u8 114) w2) (
            binW .eql v0 (.int .i32 9) fun t18 =>
            condW t18 (
              K (.int .u8 116) w2) (
              K (.int .u8 0) w2))))))
theorem W153_eq (v0 : Value) (w : World) (K : Value → World → Prop) : funW Tryz.prog Tryz.f153 plan153 [v0] w K = W153 v0 w K := by kernel_rfl
theorem W153_chk : chkFun Tryz.prog Tryz.f153 plan153 1 = true := by kernel_rfl
theorem W153_ok {v0 : Value} {w : World} {K : Value → World → Prop} (h : W153 v0 w K) : callF Tryz.prog 153 [v0] w K :=
  tie Tryz.prog 153 Tryz.f153 plan153 [v0] w K 1 (W153 v0 w K) rfl mixed Tryz.func153 W153_chk (W153_eq v0 w K) Tryz.call153 h
def plan42 : Plan := { js := [], ds := [] }
def W42 (v0 : Value) (w : World) (K : Value → World → Prop) : Prop :=
  boxW 26 v0 w fun t1 w1 =>
  allocW 3 [(.int .i64 0)] w1 fun t3 w2 =>
  stW 1 t3 (.int .i64 2000) w2 fun w3 =>
  ldW true 5 t1 w3 fun t4 =>
  callF Tryz.prog 98 [t4, (.int .i64 24), t3] w3 fun t5 w4 =>
  K t5 w4
theorem W42_eq (v0 : Value) (w : World) (K : Value → World → Prop) : funW Tryz.prog Tryz.f42 plan42 [v0] w K = W42 v0 w K := by kernel_rfl
theorem W42_chk : chkFun Tryz.prog Tryz.f42 plan42 1 = true := by kernel_rfl
theorem W42_ok {v0 : Value} {w : World} {K : Value → World → Prop} (h : W42 v0 w K) : callF Tryz.prog 42 [v0] w K :=
  tie Tryz.prog 42 Tryz.f42 plan42 [v0] w K 1 (W42 v0 w K) rfl mixed Tryz.func42 W42_chk (W42_eq v0 w K) Tryz.call42 h
def plan98 : Plan := { js := [(89007, ⟨[130], [], 126⟩), (12, ⟨[], [], 6⟩), (78002, ⟨[119], [], 108⟩), (78010, ⟨[118], [], 111⟩), (78013, ⟨[110], [], 108⟩), (66, ⟨[99], [6, 7, 8], 99⟩), (40010, ⟨[79], [], 72⟩), (34010, ⟨[63], [], 56⟩), (28010, ⟨[48], [], 41⟩), (16, ⟨[33], [], 33⟩), (6002, ⟨[29], [], 23⟩), (6005, ⟨[28], [], 26⟩), (6008, ⟨[25], [], 23⟩), (6014, ⟨[20], [], 17⟩)], ds := [] }
def W98 (v0 v1 v2 : Value) (w : World) (K : Value → World → Prop) : Prop :=
  boxW 26 v0 w fun t3 w1 =>
  boxW 3 v1 w1 fun t4 w2 =>
  boxW 132 v2 w2 fun t5 w3 =>
  ldW false 1 t5 w3 fun t9 =>
  nilW t9 fun t10 =>
  ldW false 1 t10 w3 fun t11 =>
  binW .sub t11 (.int .i64 1) fun t12 =>
  nilW t9 fun t13 =>
  stW 1 t13 t12 w3 fun w4 =>
  ldW false 1 t4 w4 fun t14 =>
  binW .eql t14 (.int .i64 0) fun t15 =>
  GdW (isB t15 false) [undef] w4 (fun J5 =>
    ldW false 1 t5 w4 fun t17 =>
    nilW t17 fun t18 =>
    ldW false 1 t18 w4 fun t19 =>
    binW .lss t19 (.int .i64 0) fun t20 =>
    J5 [t20] w4)
  fun s5 _ w6 =>
  pickW t15 (.bool true) (s5.getD 0 undef) fun t21 =>
  GdW (isB t21 false) [undef] w6 (fun J7 =>
    fldW 1 t3 fun t23 =>
    ldW false 1 t23 w6 fun t24 =>
    J7 [t24] w6)
  fun s7 _ w8 =>
  GdW (isB (s7.getD 0 undef) true) [undef] w8 (fun J9 =>
    fldW 0 t3 fun t26 =>
    ldW false 1 t26 w8 fun t27 =>
    binW .neq t27 (.int .i64 2) fun t28 =>
    J9 [t28] w8)
  fun s9 _ w10 =>
  GdW (isB t21 false) [undef] w10 (fun J11 =>
    pickW (s7.getD 0 undef) (s9.getD 0 undef) (.bool false) fun t29 =>
    J11 [t29] w10)
  fun s11 _ w12 =>
  pickW t21 (.bool true) (s11.getD 0 undef) fun t30 =>
  condW t30 (
    K (.bool false) w12) (
    JoinW (fun J13 =>
      fldW 0 t3 fun t31 =>
      ldW false 1 t31 w12 fun t32 =>
      JoinW (fun J14 =>
        binW .eql t32 (.int .i64 0) fun t34 =>
        condW t34 (
          J14 [t34] w12) (
          binW .eql t32 (.int .i64 1) fun t35 =>
          condW t35 (
            J14 [t35] w12) (
            binW .eql t32 (.int .i64 2) fun t36 =>
            J14 [t36] w12)))
      fun s14 _ w15 =>
      condW (s14.getD 0 undef) (
        fldW 2 t3 fun t37 =>
        ldW false 1 t37 w15 fun t38 =>
        binW .eql t38 (.string (ofL [])) fun t39 =>
        GdW (isB t39 true) [undef] w15 (fun J16 =>
          fldW 3 t3 fun t41 =>
          ldW false 1 t41 w15 fun t42 =>
          lenlW t42 fun t43 =>
          fldW 4 t3 fun t44 =>
          ldW false 1 t44 w15 fun t45 =>
          lenlW t45 fun t46 =>
          binW .add t43 t46 fun t47 =>
          binW .eql t47 (.int .i64 0) fun t48 =>
          J16 [t48] w15)
        fun s16 _ w17 =>
        pickW t39 (s16.getD 0 undef) (.bool false) fun t49 =>
        K t49 w17) (
        binW .eql t32 (.int .i64 3) fun t51 =>
        condW t51 (
          fldW 2 t3 fun t52 =>
          ldW false 1 t52 w15 fun t53 =>
          callF Tryz.prog 148 [t53] w15 fun t54 w18 =>
          GdW (isB t54 true) [undef] w18 (fun J19 =>
            fldW 3 t3 fun t56 =>
            ldW false 1 t56 w18 fun t57 =>
            lenlW t57 fun t58 =>
            fldW 4 t3 fun t59 =>
            ldW false 1 t59 w18 fun t60 =>
            lenlW t60 fun t61 =>
            binW .add t58 t61 fun t62 =>
            binW .eql t62 (.int .i64 0) fun t63 =>
            J19 [t63] w18)
          fun s19 _ w20 =>
          pickW t54 (s19.getD 0 undef) (.bool false) fun t64 =>
          K t64 w20) (
          binW .eql t32 (.int .i64 4) fun t66 =>
          condW t66 (
            fldW 2 t3 fun t67 =>
            ldW false 1 t67 w15 fun t68 =>
            lensW t68 fun t69 =>
            binW .leq t69 (.int .i64 16384) fun t70 =>
            GdW (isB t70 true) [undef] w15 (fun J21 =>
              fldW 3 t3 fun t72 =>
              ldW false 1 t72 w15 fun t73 =>
              lenlW t73 fun t74 =>
              fldW 4 t3 fun t75 =>
              ldW false 1 t75 w15 fun t76 =>
              lenlW t76 fun t77 =>
              binW .add t74 t77 fun t78 =>
              binW .eql t78 (.int .i64 0) fun t79 =>
              J21 [t79] w15)
            fun s21 _ w22 =>
            pickW t70 (s21.getD 0 undef) (.bool false) fun t80 =>
            K t80 w22) (
            binW .eql t32 (.int .i64 5) fun t82 =>
            condW t82 (
              fldW 4 t3 fun t83 =>
              ldW false 1 t83 w15 fun t84 =>
              lenlW t84 fun t85 =>
              binW .gtr t85 (.int .i64 0) fun t86 =>
              condW t86 (
                K (.bool false) w15) (
                J13 [] w15)) (
              binW .eql t32 (.int .i64 6) fun t88 =>
              condW t88 (
                fldW 4 t3 fun t89 =>
                ldW false 1 t89 w15 fun t90 =>
                lenlW t90 fun t91 =>
                fldW 3 t3 fun t92 =>
                ldW false 1 t92 w15 fun t93 =>
                lenlW t93 fun t94 =>
                binW .neq t91 t94 fun t95 =>
                condW t95 (
                  K (.bool false) w15) (
                  fldW 4 t3 fun t96 =>
                  ldW false 1 t96 w15 fun t97 =>
                  lenlW t97 fun t98 =>
                  LoopW [(.int .i64 0)] w15 fun s23 _ w24 L23 =>
                    binW .lss (s23.getD 0 undef) t98 fun t100 =>
                    condW t100 (
                      ixaW none 1 t97 (s23.getD 0 undef) fun t102 =>
                      ldW false 1 t102 w24 fun t103 =>
                      lensW t103 fun t105 =>
                      binW .gtr t105 (.int .i64 16384) fun t106 =>
                      GdW (isB t106 false) [undef] w24 (fun J25 =>
                        binW .gtr (s23.getD 0 undef) (.int .i64 0) fun t109 =>
                        J25 [t109] w24)
                      fun s25 _ w26 =>
                      GdW (isB (s25.getD 0 undef) true) [undef] w26 (fun J27 =>
                        fldW 4 t3 fun t111 =>
                        ldW false 1 t111 w26 fun t112 =>
                        binW .sub (s23.getD 0 undef) (.int .i64 1) fun t114 =>
                        ixaW none 1 t112 t114 fun t115 =>
                        ldW false 1 t115 w26 fun t116 =>
                        binW .geq t116 t103 fun t118 =>
                        J27 [t118] w26)
                      fun s27 _ w28 =>
                      GdW (isB t106 false) [undef] w28 (fun J29 =>
                        pickW (s25.getD 0 undef) (s27.getD 0 undef) (.bool false) fun t119 =>
                        J29 [t119] w28)
                      fun s29 _ w30 =>
                      pickW t106 (.bool true) (s29.getD 0 undef) fun t120 =>
                      condW t120 (
                        K (.bool false) w30) (
                        binW .add (s23.getD 0 undef) (.int .i64 1) fun t121 =>
                        L23 [t121] w30)) (
                      J13 [] w24))) (
                K (.bool false) w15))))))
    fun s13 _ w31 =>
    fldW 2 t3 fun t122 =>
    ldW false 1 t122 w31 fun t123 =>
    binW .eql t123 (.string (ofL [])) fun t124 =>
    GdW (isB t124 true) [undef] w31 (fun J32 =>
      fldW 3 t3 fun t126 =>
      ldW false 1 t126 w31 fun t127 =>
      callF Tryz.prog 99 [t127, (.func (.func 149) #[] #[t4, t5])] w31 fun t129 w33 =>
      unW .not t129 fun t130 =>
      J32 [t130] w33)
    fun s32 _ w34 =>
    pickW t124 (s32.getD 0 undef) (.bool false) fun t131 =>
    K t131 w34)
theorem W98_eq (v0 v1 v2 : Value) (w : World) (K : Value → World → Prop) : funW Tryz.prog Tryz.f98 plan98 [v0, v1, v2] w K = W98 v0 v1 v2 w K := by kernel_rfl
theorem W98_chk : chkFun Tryz.prog Tryz.f98 plan98 3 = true := by kernel_rfl
theorem W98_ok {v0 v1 v2 : Value} {w : World} {K : Value → World → Prop} (h : W98 v0 v1 v2 w K) : callF Tryz.prog 98 [v0, v1, v2] w K :=
  tie Tryz.prog 98 Tryz.f98 plan98 [v0, v1, v2] w K 3 (W98 v0 v1 v2 w K) rfl mixed Tryz.func98 W98_chk (W98_eq v0 v1 v2 w K) Tryz.call98 h
def plan149 : Plan := { js := [], ds := [] }
def W149 (v0 v1 v2 : Value) (w : World) (K : Value → World → Prop) : Prop :=
  boxW 26 v0 w fun t3 w1 =>
  ldW true 5 t3 w1 fun t5 =>
  ldW false 1 v1 w1 fun t6 =>
  binW .sub t6 (.int .i64 1) fun t7 =>
  ldW false 1 v2 w1 fun t8 =>
  callF Tryz.prog 98 [t5, t7, t8] w1 fun t9 w2 =>
  unW .not t9 fun t10 =>
  K t10 w2
theorem W149_eq (v0 v1 v2 : Value) (w : World) (K : Value → World → Prop) : funW Tryz.prog Tryz.f149 plan149 [v0, v1, v2] w K = W149 v0 v1 v2 w K := by kernel_rfl
theorem W149_chk : chkFun Tryz.prog Tryz.f149 plan149 3 = true := by kernel_rfl
theorem W149_ok {v0 v1 v2 : Value} {w : World} {K : Value → World → Prop} (h : W149 v0 v1 v2 w K) : callF Tryz.prog 149 [v0, v1, v2] w K :=
  tie Tryz.prog 149 Tryz.f149 plan149 [v0, v1, v2] w K 3 (W149 v0 v1 v2 w K) rfl mixed Tryz.func149 W149_chk (W149_eq v0 v1 v2 w K) Tryz.call149 h
def plan3 : Plan := { js := [(15005, ⟨[25], [], 23⟩)], ds := [] }
def W3 (v0 : Value) (w : World) (K : Value → World → Prop) : Prop :=
  boxW 26 v0 w fun t1 w1 =>
  callF Tryz.prog 15 [] w1 fun t7 w2 =>
  unW .not t7 fun t8 =>
  condW t8 (
    K (.bool false) w2) (
    ldW true 5 t1 w2 fun t10 =>
    callF Tryz.prog 16 [t10] w2 fun t11 w3 =>
    extW 0 t11 fun t12 =>
    extW 1 t11 fun t13 =>
    ldW true 5 t1 w3 fun t15 =>
    callF Tryz.prog 17 [t15] w3 fun t16 w4 =>
    extW 0 t16 fun t17 =>
    extW 1 t16 fun t18 =>
    binW .eql t12 t17 fun t21 =>
    GdW (isB t21 true) [undef] w4 (fun J5 =>
      binW .eql t13 t18 fun t25 =>
      J5 [t25] w4)
    fun s5 _ w6 =>
    pickW t21 (s5.getD 0 undef) (.bool false) fun t26 =>
    K t26 w6)
theorem W3_eq (v0 : Value) (w : World) (K : Value → World → Prop) : funW Tryz.prog Tryz.f3 plan3 [v0] w K = W3 v0 w K := by kernel_rfl
theorem W3_chk : chkFun Tryz.prog Tryz.f3 plan3 1 = true := by kernel_rfl
theorem W3_ok {v0 : Value} {w : World} {K : Value → World → Prop} (h : W3 v0 w K) : callF Tryz.prog 3 [v0] w K :=
  tie Tryz.prog 3 Tryz.f3 plan3 [v0] w K 1 (W3 v0 w K) rfl mixed Tryz.func3 W3_chk (W3_eq v0 w K) Tryz.call3 h
def plan15 : Plan := { js := [(9007, ⟨[46], [], 42⟩), (9014, ⟨[39], [], 35⟩), (9018, ⟨[32], [], 31⟩), (9022, ⟨[28], [], 27⟩), (9026, ⟨[24], [], 23⟩)], ds := [] }
def W15 (w : World) (K : Value → World → Prop) : Prop :=
  callF Tryz.prog 18 [(.string (ofL [32, 123, 34, 98, 34, 32, 58, 32, 91, 49, 44, 32, 110, 117, 108, 108, 93, 44, 32, 34, 97, 34, 58, 34, 120, 92, 110, 34, 125]))] w fun t8 w1 =>
  extW 0 t8 fun t9 =>
  extW 1 t8 fun t10 =>
  allocW 26 [(.int .i64 0), (.bool false), (.string (ofL [])), (.slice none 0 0), (.slice none 0 0)] w1 fun t1 w2 =>
  stW 5 t1 t9 w2 fun w3 =>
  ldW true 5 t1 w3 fun t12 =>
  callF Tryz.prog 16 [t12] w3 fun t13 w4 =>
  extW 0 t13 fun t14 =>
  extW 1 t13 fun t15 =>
  callF Tryz.prog 18 [(.string (ofL [91, 49, 44, 93]))] w4 fun t17 w5 =>
  extW 0 t17 fun t18 =>
  extW 1 t17 fun t19 =>
  allocW 26 [(.int .i64 0), (.bool false), (.string (ofL [])), (.slice none 0 0), (.slice none 0 0)] w5 fun t5 w6 =>
  stW 5 t5 t18 w6 fun w7 =>
  eqW .ptr false t10 (.pointer none) fun t21 =>
  GdW (isB t21 true) [undef] w7 (fun J8 =>
    binW .eql t15 (.int .i64 0) fun t24 =>
    J8 [t24] w7)
  fun s8 _ w9 =>
  pickW t21 (s8.getD 0 undef) (.bool false) fun t25 =>
  GdW (isB t25 true) [undef] w9 (fun J10 =>
    binW .eql t14 (.string (ofL [123, 34, 97, 34, 58, 34, 120, 92, 110, 34, 44, 34, 98, 34, 58, 91, 49, 44, 110, 117, 108, 108, 93, 125])) fun t28 =>
    J10 [t28] w9)
  fun s10 _ w11 =>
  pickW t25 (s10.getD 0 undef) (.bool false) fun t29 =>
  GdW (isB t29 true) [undef] w11 (fun J12 =>
    eqW .ptr true t19 (.pointer none) fun t32 =>
    J12 [t32] w11)
  fun s12 _ w13 =>
  pickW t29 (s12.getD 0 undef) (.bool false) fun t33 =>
  GdW (isB t33 true) [undef] w13 (fun J14 =>
    nilW t19 fun t36 =>
    fldW 0 t36 fun t37 =>
    ldW false 1 t37 w13 fun t38 =>
    binW .eql t38 (.int .i64 30) fun t39 =>
    J14 [t39] w13)
  fun s14 _ w15 =>
  pickW t33 (s14.getD 0 undef) (.bool false) fun t40 =>
  GdW (isB t40 true) [undef] w15 (fun J16 =>
    nilW t19 fun t43 =>
    fldW 2 t43 fun t44 =>
    ldW false 1 t44 w15 fun t45 =>
    binW .eql t45 (.int .i64 3) fun t46 =>
    J16 [t46] w15)
  fun s16 _ w17 =>
  pickW t40 (s16.getD 0 undef) (.bool false) fun t47 =>
  K t47 w17
theorem W15_eq (w : World) (K : Value → World → Prop) : funW Tryz.prog Tryz.f15 plan15 [] w K = W15 w K := by kernel_rfl
theorem W15_chk : chkFun Tryz.prog Tryz.f15 plan15 0 = true := by kernel_rfl
theorem W15_ok {w : World} {K : Value → World → Prop} (h : W15 w K) : callF Tryz.prog 15 [] w K :=
  tie Tryz.prog 15 Tryz.f15 plan15 [] w K 0 (W15 w K) rfl mixed Tryz.func15 W15_chk (W15_eq w K) Tryz.call15 h
end Go.Proofs.YtcnjpcadejcenaaGreatDoor
namespace Go.Proofs.YtcnjpcadejcenaaGreatDoor
open Go Go.Eng Go.RowKit
set_option maxRecDepth 100000
def shortM (r : Nat) : Nat := if r = 34 ∨ r = 92 then r else if r = 8 then 98 else if r = 12 then 102 else if r = 10 then 110 else if r = 13 then 114 else if r = 9 then 116 else 0
def hexS (r : Nat) : Str := [b8 (48 + r / 16), hexD (r % 16)]
theorem esc_short {c : UInt8} (h : shortM c.toNat ≠ 0) : escB c = [92, b8 (shortM c.toNat)] ∧ shortM c.toNat < 128 := by
  have e : ∀ n : Nat, n < 256 → (c = UInt8.ofNat n ↔ c.toNat = n) := fun n hn => by
    constructor
    · rintro rfl; simp only [UInt8.toNat_ofNat']; omega
    · intro h; rw [← h]; simp
  unfold shortM at h ⊢
  unfold escB
  by_cases a1 : c.toNat = 34 ∨ c.toNat = 92
  · rw [if_pos a1, if_pos (by rcases a1 with a | a; exact .inl ((e 34 (by omega)).2 a); exact .inr ((e 92 (by omega)).2 a))]
    refine ⟨?_, by omega⟩
    unfold b8; simp
  rw [if_neg a1] at h ⊢
  rw [if_neg (by rintro (a | a); exact a1 (.inl ((e 34 (by omega)).1 a)); exact a1 (.inr ((e 92 (by omega)).1 a)))]
  by_cases a2 : c.toNat = 8
  · rw [if_pos a2, if_pos (show c = (8 : UInt8) from (e 8 (by omega)).2 a2)]; exact ⟨rfl, by omega⟩
  rw [if_neg a2] at h ⊢
  rw [if_neg fun (a : c = (8 : UInt8)) => a2 ((e 8 (by omega)).1 a)]
  by_cases a3 : c.toNat = 12
  · rw [if_pos a3, if_pos (show c = (12 : UInt8) from (e 12 (by omega)).2 a3)]; exact ⟨rfl, by omega⟩
  rw [if_neg a3] at h ⊢
  rw [if_neg fun (a : c = (12 : UInt8)) => a3 ((e 12 (by omega)).1 a)]
  by_cases a4 : c.toNat = 10
  · rw [if_pos a4, if_pos (show c = (10 : UInt8) from (e 10 (by omega)).2 a4)]; exact ⟨rfl, by omega⟩
  rw [if_neg a4] at h ⊢
  rw [if_neg fun (a : c = (10 : UInt8)) => a4 ((e 10 (by omega)).1 a)]
  by_cases a5 : c.toNat = 13
  · rw [if_pos a5, if_pos (show c = (13 : UInt8) from (e 13 (by omega)).2 a5)]; exact ⟨rfl, by omega⟩
  rw [if_neg a5] at h ⊢
  rw [if_neg fun (a : c = (13 : UInt8)) => a5 ((e 13 (by omega)).1 a)]
  by_cases a6 : c.toNat = 9
  · rw [if_pos a6, if_pos (show c = (9 : UInt8) from (e 9 (by omega)).2 a6)]; exact ⟨rfl, by omega⟩
  rw [if_neg a6] at h
  exact absurd rfl h
theorem esc_long {c : UInt8} (h : shortM c.toNat = 0) : escB c = if c.toNat < 32 then [92, 117, 48, 48] ++ hexS c.toNat else [c] := by
  have e : ∀ n : Nat, n < 256 → c = UInt8.ofNat n → c.toNat = n := fun n hn a => by subst a; simp only [UInt8.toNat_ofNat']; omega
  have hn : ¬ (c.toNat = 34 ∨ c.toNat = 92) ∧ c.toNat ≠ 8 ∧ c.toNat ≠ 12 ∧ c.toNat ≠ 10 ∧ c.toNat ≠ 13 ∧ c.toNat ≠ 9 := by
    unfold shortM at h
    split at h
    · omega
    · repeat' split at h
      all_goals omega
  obtain ⟨n1, n2, n3, n4, n5, n6⟩ := hn
  unfold escB
  rw [if_neg (by rintro (a | a); exact n1 (.inl (e 34 (by omega) a)); exact n1 (.inr (e 92 (by omega) a))), if_neg fun (a : c = (8 : UInt8)) => n2 (e 8 (by omega) a), if_neg fun (a : c = (12 : UInt8)) => n3 (e 12 (by omega) a), if_neg fun (a : c = (10 : UInt8)) => n4 (e 10 (by omega) a), if_neg fun (a : c = (13 : UInt8)) => n5 (e 13 (by omega) a), if_neg fun (a : c = (9 : UInt8)) => n6 (e 9 (by omega) a)]
  by_cases a : c.toNat < 32
  · rw [if_pos a, if_pos (show c < 32 from a)]; rfl
  · rw [if_neg a, if_neg (show ¬ c < 32 from a)]
theorem enc_low {n : Nat} (h : n < 128) : Utf8.encode (n : Int) = ofL [b8 n] := by
  unfold Utf8.encode
  have : Utf8.valid (n : Int) = true := by unfold Utf8.valid; simp only [Bool.or_eq_true, Bool.and_eq_true, decide_eq_true_eq]; omega
  simp only [this, if_true, Int.toNat_natCast]
  rw [if_pos h]; rfl
section
variable [HX]
def FmtOk (w0 : World) : Prop := ∀ r : Nat, r < 32 → ∀ (w : World) (K : Value → World → Prop), Ext w0 w → (∀ w', Ext w w' → K (str ([49] ++ hexS r)) w') → callF Tryz.prog 154 [i64 ((r + 256 : Nat) : Int), i64 16] w K
theorem short_p {r : Nat} {w : World} {K : Value → World → Prop} (hr : r ≤ 1114111) (hK : K (u8 (shortM r)) w) : callF Tryz.prog 153 [.int .i32 (r : Int)] w K := by
  refine W153_ok ?_
  unfold W153
  unfold shortM at hK
  refine JoinW.cut (fun s' w' => s' = [.bool (decide (r = 34 ∨ r = 92))] ∧ w' = w) ?_ ?_
  · rw [bin_eql, condW_dec]
    refine ⟨fun h => ?_, fun h => ?_⟩
    · rw [decide_eq_true h, decide_eq_true (.inl (by omega))]; exact ⟨rfl, rfl⟩
    · rw [bin_eql]
      rw [show decide (((r : Nat) : Int) = 92) = decide (r = 34 ∨ r = 92) by rw [decide_eq_decide]; omega]
      exact ⟨rfl, rfl⟩
  rintro s' g w' ⟨rfl, rfl⟩
  simp only [List.getD_cons_zero]
  rw [condW_dec]
  refine ⟨fun h => ?_, fun h => ?_⟩
  · rw [cvt_int, u8_wrap, Nat.mod_eq_of_lt (by omega)]
    rw [if_pos h] at hK; exact hK
  rw [if_neg h] at hK
  rw [bin_eql, condW_dec]
  refine ⟨fun h => by rw [if_pos (by omega)] at hK; exact hK, fun h => ?_⟩
  rw [if_neg (by omega)] at hK
  rw [bin_eql, condW_dec]
  refine ⟨fun h => by rw [if_pos (by omega)] at hK; exact hK, fun h => ?_⟩
  rw [if_neg (by omega)] at hK
  rw [bin_eql, condW_dec]
  refine ⟨fun h => by rw [if_pos (by omega)] at hK; exact hK, fun h => ?_⟩
  rw [if_neg (by omega)] at hK
  rw [bin_eql, condW_dec]
  refine ⟨fun h => by rw [if_pos (by omega)] at hK; exact hK, fun h => ?_⟩
  rw [if_neg (by omega)] at hK
  rw [bin_eql, condW_dec]
  refine ⟨fun h => by rw [if_pos (by omega)] at hK; exact hK, fun h => ?_⟩
  rw [if_neg (by omega)] at hK
  exact hK
theorem i32_wrap {n : Nat} (h : n < 2147483648) : IntKind.i32.wrap (n : Int) = (n : Int) := by
  have e1 : (2 : Int) ^ 32 = 4294967296 := by decide
  have e2 : (2 : Int) ^ (32 - 1) = 2147483648 := by decide
  simp only [IntKind.wrap, IntKind.bits, IntKind.signed, Bool.true_and, e1, e2]
  rw [if_neg (by simp; omega)]
  omega
theorem flat_len (s : Str) : (s.flatMap escB).length ≤ 6 * s.length := by
  induction s with
  | nil => simp
  | cons c s ih => rw [List.flatMap_cons, List.length_append, List.length_cons]; have := escB_le c; omega
theorem short_high {r : Nat} (h : 128 ≤ r) : shortM r = 0 := by unfold shortM; repeat' split
                                                                all_goals omega
theorem quote_p {w0 w : World} {B b : Nat} {l s : Str} {K : Value → World → Prop} (h0 : Ext w0 w) (hB0 : w0.heap.size ≤ B) (h : Bld w B b l) (hB : B ≤ w.heap.size) (hs : Utf s) (hl : l.length + 6 * s.length + 2 ≤ 1000000000) (hF : ∀ c ∈ s, c.toNat < 32 → FmtOk w0)
    (hK : ∀ w', Bld w' B b (l ++ quoteM s) → Chg (BCh w B b) w w' → K (.tuple #[]) w') : callF Tryz.prog 105 [.pointer (some ⟨b, 0, none⟩), str s] w K := by
  have hb := h.base
  have hbl := h.lt
  refine W105_ok ?_
  unfold W105
  refine wbyte_p (n := 34) h hB (by omega) (by omega) fun w1 h1 hc1 => ?_
  refine range_str ?_
  have hz1 := hc1.size
  have hc2 : Chg (BCh w B b) w (w1.alloc (.stringIter (ofL s) 0)) := BCh.ext hc1 (Chg.alloc (Chg.refl _ _) _)
  refine ⟨fun s' w4 => ∃ p, p ≤ s.length ∧ s' = [] ∧ Utf (s.drop p) ∧ w4.heap[w1.heap.size]? = some (.stringIter (ofL s) p) ∧ Bld w4 B b (l ++ [34] ++ (s.take p).flatMap escB) ∧ Chg (BCh w B b) w w4,
    fun _ w4 => match w4.heap[w1.heap.size]? with | some (.stringIter _ p) => s.length - p | _ => 0,
    ⟨0, Nat.zero_le _, rfl, by rw [List.drop_zero]; exact hs, heap_anew _ _ _ rfl, by rw [List.take_zero, List.flatMap_nil, List.append_nil]; exact h1.ext (Chg.alloc (Chg.refl _ _) _), hc2⟩, ?_⟩
  rintro s' g w4 ⟨p, hp, rfl, hu, hit, h4, hc4⟩
  have hz4 := hc4.size
  have hfl := flat_len (s.take p)
  have htl : (s.take p).length = p := by rw [List.length_take]; omega
  have hll : (l ++ [34] ++ (s.take p).flatMap escB).length = l.length + 1 + ((s.take p).flatMap escB).length := by simp only [List.length_append, List.length_cons, List.length_nil]
  refine next_str hit (fun hpe => ?_) (fun hpl w5 hit5 hc5 hz5 => ?_)
  · rw [ext_tuple]
    refine ⟨.bool false, rfl, ?_⟩
    rw [condW_false]
    obtain rfl : p = s.length := by omega
    rw [List.take_length] at h4 hll hfl
    refine wbyte_p (n := 34) h4 (by omega) (by omega) (by omega) fun w6 h6 hc6 => ?_
    refine hK w6 ?_ (BCh.trans hc4 hc6)
    rw [List.append_assoc, List.append_assoc] at h6
    unfold quoteM
    rw [List.append_assoc]
    exact h6
  · have hne : s.drop p ≠ [] := fun e => by have := List.drop_eq_nil_iff.1 e; omega
    -- the rune that comes next
    obtain ⟨u, r, hru, hur, hdr⟩ : ∃ u r, Rn u ∧ Utf r ∧ s.drop p = u ++ r := by
      cases hd : s.drop p with
      | nil => exact absurd hd hne
      | cons x y =>
        rw [hd] at hu
        generalize he : x :: y = z at hu
        cases hu with
        | nil => cases he
        | cons h1 h2 => exact ⟨_, _, h1, h2, rfl⟩
    have hrm : runeM s p = u.length := hru.at hdr
    have hup := hru.pos
    obtain ⟨c, hc⟩ := rune_good hpl (by omega)
    rw [hrm] at hc
    have htk : (s.drop p).take u.length = u := by rw [hdr, List.take_left]
    have hnext : s.take (p + u.length) = s.take p ++ u := by rw [List.take_add, htk]
    have hdr2 : s.drop (p + u.length) = r := drop_app hdr
    have hdec := hc.dec
    have hct := hc.top
    have hcv := hc.val
    have hcu : wrM c = u := by rw [← wr_enc (by omega), hc.bytes, htk]
    rw [hdec] at hit5
    have h5 : Bld w5 B b (l ++ [34] ++ (s.take p).flatMap escB) := h4.chg hc5 (fun e => by have := h1.lt; have := e; omega) fun k hk e => by
      obtain ⟨_, c', hc'⟩ := hk
      have e : k = w1.heap.size := e
      rw [e, hit] at hc'; cases hc'
    have hc5' : Chg (BCh w B b) w w5 := hc4.then hc5 fun k hk e => by omega
    have hx0 : Ext w0 w5 := BCh.new h0 hB0 hb hc5'
    have hfit := hc.fits
    -- once the rune's text is written
    have fin : ∀ w6, Bld w6 B b (l ++ [34] ++ (s.take p).flatMap escB ++ u.flatMap escB) → Chg (BCh w5 B b) w5 w6 → (fun (s' : List Value) w4 => ∃ p, p ≤ s.length ∧ s' = [] ∧ Utf (s.drop p) ∧ w4.heap[w1.heap.size]? = some (.stringIter (ofL s) p) ∧ Bld w4 B b (l ++ [34] ++ (s.take p).flatMap escB) ∧ Chg (BCh w B b) w w4) [] w6 ∧
        (match w6.heap[w1.heap.size]? with | some (.stringIter _ p) => s.length - p | _ => 0) < (match w4.heap[w1.heap.size]? with | some (.stringIter _ p) => s.length - p | _ => 0) := by
      intro w6 h6 hc6
      have hit6 := BCh.iter hc6 hit5 (by have := h1.lt; omega)
      refine ⟨⟨p + u.length, hfit, rfl, by rw [hdr2]; exact hur, hit6, ?_, BCh.trans hc5' hc6⟩, ?_⟩
      · rw [hnext, List.flatMap_append, ← List.append_assoc]; exact h6
      · rw [hit6, hit]
        show s.length - (p + u.length) < s.length - p
        omega
    rw [ext_tuple]
    refine ⟨.bool true, rfl, ?_⟩
    rw [condW_true, ext_tuple]
    refine ⟨.int .i32 (c : Int), by rw [hdec]; rfl, ?_⟩
    refine short_p hct ?_
    rw [bin_neq, condW_dec]
    rcases hru.cases with ⟨x, hx, hxl⟩ | hh
    · -- one byte
      subst hx
      have hcx : c = x.toNat := by
        have := (hc.low rfl).1
        rw [this]
        have e := byteM_in hpl
        rw [Go.Eng.byte_at (show s.drop p = x :: r from hdr)] at e
        omega
      subst hcx
      have e1 : [x].flatMap escB = escB x := by simp
      rw [e1] at fin
      refine ⟨fun hne => ?_, fun he => ?_⟩
      · obtain ⟨f1, f2⟩ := esc_short (c := x) (by omega)
        rw [cvt_int, i32_wrap (by omega)]
        show cvsW _ _
        unfold cvsW
        dsimp only
        rw [enc_low f2, bin_sadd]
        refine ⟨by simp only [List.length_cons, List.length_nil]; decide, ?_⟩
        refine wstr_p h5 (by omega) (by rw [hll]; simp only [List.length_append, List.length_cons, List.length_nil]; omega) fun v w6 h6 hc6 => ?_
        refine fin w6 ?_ hc6
        rw [f1]; exact h6
      · have f := esc_long (c := x) (by omega)
        rw [bin_lss, condW_dec]
        refine ⟨fun hlt => ?_, fun hge => ?_⟩
        · rw [if_pos (by omega)] at f
          have hmem : x ∈ s := List.mem_of_mem_drop (i := p) (by rw [hdr]; simp)
          rw [cvt_int, wrap_id (by omega) (by omega), bin_add, wrap_id (by omega) (by omega)]
          have hfm := hF x hmem (by omega) x.toNat (by omega) w5
          rw [show ((x.toNat + 256 : Nat) : Int) = (x.toNat : Int) + 256 by omega] at hfm
          refine hfm _ hx0 fun w6 hx6 => ?_
          rw [sls_str, bd_none, bd_some]
          refine ⟨by decide, by simp [hexS], ?_⟩
          rw [bin_sadd]
          refine ⟨by simp [hexS], ?_⟩
          refine wstr_p (h5.ext hx6) (by have := hx6.size; omega) (by rw [hll]; clear fin h4 h5 hll; generalize ((s.take p).flatMap escB).length = q at *; simp [hexS]; omega) fun v w7 h7 hc7 => ?_
          refine fin w7 ?_ (BCh.from hx6 hc7)
          rw [f]
          simpa [hexS] using h7
        · rw [if_neg (by omega)] at f
          refine wrune_p h5 (by omega) (by omega) (by omega) fun v w6 h6 hc6 => ?_
          refine fin w6 ?_ hc6
          rw [f, ← hcu]; exact h6
    · -- more than one
      have hc128 : 128 ≤ c := by
        have hb0 := byte_pref (j := 0) hdr hup
        have h128 := hh u[0] (List.getElem_mem ..)
        rw [Nat.add_zero, byteM_in hpl] at hb0
        by_cases h1 : u.length = 1
        · have := hc.low h1; omega
        · exact (hc.high (by omega)).1
      rw [esc_high hh] at fin
      refine ⟨fun hne => absurd (short_high hc128) (by omega), fun he => ?_⟩
      rw [bin_lss, condW_dec]
      refine ⟨fun hlt => by omega, fun hge => ?_⟩
      refine wrune_p h5 (by omega) (by omega) (by omega) fun v w6 h6 hc6 => ?_
      refine fin w6 ?_ hc6
      rw [← hcu]; exact h6
end
end Go.Proofs.YtcnjpcadejcenaaGreatDoor
