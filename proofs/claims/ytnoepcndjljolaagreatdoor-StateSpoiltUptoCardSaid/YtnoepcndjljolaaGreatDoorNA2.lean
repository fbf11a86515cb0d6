/- One plain sentence: weakest preconditions, contracts and plain laws that the claim rests on, text behind text. Conditions: those that each states. -/
import Derived.Test.YtnoepcndjljolaaGreatDoorNA1
import Derived.Shelf.Strings.Builder1
import Derived.Shelf.Small.Utf8
import Derived.Shelf.Strings.BuilderRune
import Derived.Shelf.Strconv.Itoa0
import Derived.Shelf.Strconv.Itoa1
import Derived.Shelf.Strconv.Itoa2
import Derived.Shelf.Strconv.Itoa4
import Derived.Shelf.Strings.Search2
import Derived.Shelf.Strings.Search3
import Derived.Shelf.Strings.Cut
import Derived.Shelf.Strings.Shaped
import Derived.Shelf.Sort.Plain
import Derived.Shelf.Strings.LastIndex
import Derived.Shelf.Strings.Runes
import Derived.Shelf.Strings.IndexAny
import Derived.Shelf.Strings.AsciiSet
import Derived.Shelf.Strings.IndexAnyAll
import Derived.Shelf.Unicode.DecodeSlow
import Derived.Shelf.Slices.Clone
import Derived.Shelf.Slices.CompactS
import Derived.Shelf.Strings.BuilderF
import Derived.Shelf.Strings.BuilderK
import Derived.Shelf.Small.Bits
import Derived.Shelf.Strconv.Atoi
import Derived.Shelf.Strconv.AtoiFail
import Derived.Shelf.Strconv.ParseInt10
import Derived.Shelf.Small.Wraps
import Derived.Shelf.Strconv.Itoa3
import Derived.Shelf.Pu.ParseUintPublic10
import Derived.Shelf.Strconv.ToErrorRange
import Derived.Shelf.Strconv.ToError
import Derived.Shelf.Strings.Count
import Derived.Shelf.Strings.Prefix
import Derived.Shelf.Small.Strs
import Derived.Shelf.Strconv.Clone
import Derived.Shelf.Strings.Search1
import Derived.Shelf.Unicode.DecodeAny
import Derived.Shelf.Unicode.ValidAny
import Derived.Shelf.Strings.BuilderX
import Derived.Shelf.Lays
import Derived.Shelf.LaysC
import Derived.Shelf.LaysM
import Derived.Shelf.Pu.Lays
import Derived.Ground.MpProg
import Derived.Ground.Names2Prog
import Derived.Ground.SlgnProg
import Derived.Test.YtnoepcndjljolaaGreatDoorProg
import Derived.Lib.ConvBytes
import Derived.Lib.ParseIntBCases
import Derived.Sort.OwnSorted
import Derived.Lib.AppendZerosOnto
import Derived.Lib.DecodeN
import Derived.Lib.RuneBytes
import Derived.Laws.Externs
set_option linter.all false
set_option linter.unusedSimpArgs false
set_option linter.unusedVariables false
set_option linter.unusedSectionVars false
namespace Go.Proofs.YtnoepcndjljolaaGreatDoor
open Go Go.Eng Go.Num
set_option maxRecDepth 100000
section
variable [HX]
theorem isDig_out (c : UInt8) : (decide (((c.toNat : Nat) : Int) < 48) || decide ((57 : Int) < ((c.toNat : Nat) : Int))) = !Num.isDig c := by
  unfold Num.isDig
  rcases Nat.lt_or_ge c.toNat 48 with h | h
  · rw [decide_eq_true (by omega), decide_eq_false (show ¬ 48 ≤ c.toNat by omega)]; rfl
  · rw [decide_eq_false (show ¬ ((c.toNat : Nat) : Int) < 48 by omega), decide_eq_true (show 48 ≤ c.toNat by omega)]
    rcases Nat.lt_or_ge 57 c.toNat with h2 | h2
    · rw [decide_eq_true (by omega), decide_eq_false (show ¬ c.toNat ≤ 57 by omega)]; rfl
    · rw [decide_eq_false (by omega), decide_eq_true (show c.toNat ≤ 57 by omega)]; rfl
theorem u8_is (c : UInt8) (m : Int) (d : UInt8) (hm : m = (d.toNat : Nat)) : decide (((c.toNat : Nat) : Int) = m) = (c == d) := by
  rw [Bool.eq_iff_iff, decide_eq_true_eq, beq_iff_eq, hm]
  constructor
  · intro h; exact UInt8.toNat_inj.1 (by omega)
  · intro h; rw [h]
theorem goodN_def (a : Str) : goodN a = (!decide ((dig a).length = 0) && !decide (100 < (dig a).length) && !((dig a).head? == some 48 && (decide (1 < (dig a).length) || decide (1 < a.length))) && (dig a).all Num.isDig) := by
  unfold goodN
  have key : (dig a).head? = some 48 → (decide (a = [48]) = !(decide (1 < (dig a).length) || decide (1 < a.length))) := by
    intro h
    have h1 : a = [48] ↔ ¬ (1 < (dig a).length ∨ 1 < a.length) := by
      cases a with
      | nil => simp [dig] at h
      | cons c r =>
        by_cases hc : c = 45
        · have e : dig (c :: r) = r := by simp [dig, hc]
          rw [e] at h ⊢
          cases r with
          | nil => simp at h
          | cons e r => simp
        · have e : dig (c :: r) = c :: r := by simp [dig, hc]
          rw [e] at h ⊢
          simp only [List.head?_cons, Option.some.injEq] at h
          subst h
          cases r <;> simp
    rw [← Bool.decide_or, ← decide_not]
    exact decide_eq_decide.2 h1
  have e1 : decide (1 ≤ (dig a).length) = !decide ((dig a).length = 0) := by rw [← decide_not]; exact decide_eq_decide.2 (by omega)
  have e2 : decide ((dig a).length ≤ 100) = !decide (100 < (dig a).length) := by rw [← decide_not]; exact decide_eq_decide.2 (by omega)
  rw [e1, e2]
  cases hh : ((dig a).head? == some 48) with
  | false => simp
  | true => rw [key (by simpa using hh)]; simp
theorem good01_ref {a : Str} {w : World} {K : Value → World → Prop} (ha : a.length ≤ 9223372036854775807) (hK : ∀ w', Ext w w' → K (.bool (goodN a)) w') : callF Tryz.prog 153 [str a] w K := by
  refine W153_ok ?_
  unfold W153
  refine JoinW.cut (fun s w' => s = [str (dig a)] ∧ w' = w) ?_ ?_
  · cases a with
    | nil =>
      have h0 : ¬ (0 : Int) < ((0 : Nat) : Int) := by simp
      simp only [wsv, wsg, wsh, wsl, cond_true, cond_false, exists_eq_left', Option.some.injEq, Option.isSome_some, List.getElem?_toArray, List.getElem?_cons_zero, List.getElem?_cons_succ, List.length_cons, List.length_nil, List.set_cons_zero, List.set_cons_succ, List.getD_cons_zero, List.getD_cons_succ, Nat.zero_add, Nat.add_zero, Nat.reduceAdd, Nat.reduceLT, Nat.lt_add_one, Nat.zero_lt_succ, decide_true, decide_false, ne_eq, reduceCtorEq, h0]
      intros
      (try simp only [wsv, wsg, wsh, wsl, cond_true, cond_false, exists_eq_left', Option.some.injEq, Option.isSome_some, List.getElem?_toArray, List.getElem?_cons_zero, List.getElem?_cons_succ, List.length_cons, List.length_nil, List.set_cons_zero, List.set_cons_succ, List.getD_cons_zero, List.getD_cons_succ, Nat.zero_add, Nat.add_zero, Nat.reduceAdd, Nat.reduceLT, Nat.lt_add_one, Nat.zero_lt_succ, decide_true, decide_false, ne_eq, reduceCtorEq])
      first | exact ⟨rfl, rfl⟩ | rfl
    | cons c r =>
      have h0 : (0 : Int) < ((r.length + 1 : Nat) : Int) := by omega
      simp only [wsv, wsg, wsh, wsl, cond_true, cond_false, exists_eq_left', Option.some.injEq, Option.isSome_some, List.getElem?_toArray, List.getElem?_cons_zero, List.getElem?_cons_succ, List.length_cons, List.length_nil, List.set_cons_zero, List.set_cons_succ, List.getD_cons_zero, List.getD_cons_succ, Nat.zero_add, Nat.add_zero, Nat.reduceAdd, Nat.reduceLT, Nat.lt_add_one, Nat.zero_lt_succ, decide_true, decide_false, ne_eq, reduceCtorEq, h0, Int.le_refl, Int.toNat_zero]
      intro _
      rw [u8_is c 45 45 rfl]
      simp only [wsv, wsg, wsh, wsl, cond_true, cond_false, exists_eq_left', Option.some.injEq, Option.isSome_some, List.getElem?_toArray, List.getElem?_cons_zero, List.getElem?_cons_succ, List.length_cons, List.length_nil, List.set_cons_zero, List.set_cons_succ, List.getD_cons_zero, List.getD_cons_succ, Nat.zero_add, Nat.add_zero, Nat.reduceAdd, Nat.reduceLT, Nat.lt_add_one, Nat.zero_lt_succ, decide_true, decide_false, ne_eq, reduceCtorEq, condW_b]
      refine ⟨fun h => ?_, fun h => ?_⟩
      · have e : dig (c :: r) = r := by simp [dig, (beq_iff_eq.1 h)]
        rw [e, show (1 : Int).toNat = 1 from rfl, ← List.length_cons (a := c), List.take_length]
        exact ⟨by omega, by simp only [List.length_cons]; omega, rfl⟩
      · have : c ≠ 45 := by simpa using h
        have e : dig (c :: r) = c :: r := by simp [dig, this]
        rw [e]
  · rintro s g w' ⟨rfl, rfl⟩
    have hdl : (dig a).length ≤ a.length := by
      cases a with
      | nil => simp [dig]
      | cons c r => simp only [dig]; split <;> simp
    rw [goodN_def] at hK
    cases hd : dig a with
    | nil =>
      rw [hd] at hK
      have hz : decide (((0 : Nat) : Int) = 0) = true := by decide
      simp only [wsv, wsg, wsh, wsl, cond_true, cond_false, exists_eq_left', Option.some.injEq, Option.isSome_some, List.getElem?_toArray, List.getElem?_cons_zero, List.getElem?_cons_succ, List.length_cons, List.length_nil, List.set_cons_zero, List.set_cons_succ, List.getD_cons_zero, List.getD_cons_succ, Nat.zero_add, Nat.add_zero, Nat.reduceAdd, Nat.reduceLT, Nat.lt_add_one, Nat.zero_lt_succ, decide_true, decide_false, ne_eq, reduceCtorEq, hz]
      intros
      exact hK _ (Chg.refl _ _)
    | cons c r =>
      rw [hd] at hK hdl
      have hz : decide (((r.length + 1 : Nat) : Int) = 0) = false := decide_eq_false (by omega)
      simp only [wsv, wsg, wsh, wsl, cond_true, cond_false, exists_eq_left', Option.some.injEq, Option.isSome_some, List.getElem?_toArray, List.getElem?_cons_zero, List.getElem?_cons_succ, List.length_cons, List.length_nil, List.set_cons_zero, List.set_cons_succ, List.getD_cons_zero, List.getD_cons_succ, Nat.zero_add, Nat.add_zero, Nat.reduceAdd, Nat.reduceLT, Nat.lt_add_one, Nat.zero_lt_succ, decide_true, decide_false, ne_eq, reduceCtorEq, Int.le_refl, Int.toNat_zero, u8_is c 48 48 rfl, hz, condW_b]
      intros
      have e1 : decide ((100 : Int) < ((r.length + 1 : Nat) : Int)) = decide (100 < (c :: r).length) := decide_eq_decide.2 (by simp only [List.length_cons]; omega)
      have e2 : decide ((1 : Int) < ((r.length + 1 : Nat) : Int)) = decide (1 < (c :: r).length) := decide_eq_decide.2 (by simp only [List.length_cons]; omega)
      have e3 : decide ((1 : Int) < (a.length : Int)) = decide (1 < a.length) := decide_eq_decide.2 (by omega)
      rw [e1, e2, e3]
      have e4 : decide ((c :: r).length = 0) = false := decide_eq_false (by simp)
      have e5 : ((c :: r).head? == some 48) = (c == 48) := by simp
      rw [e4, e5] at hK
      generalize decide (100 < (c :: r).length) = b1 at *
      generalize ((c == 48) && (decide (1 < (c :: r).length) || decide (1 < a.length))) = b2 at *
      refine ⟨fun h => ?_, fun h => ?_⟩
      · have := hK _ (Chg.refl _ _)
        have e : (!false && !b1 && !b2 && (c :: r).all Num.isDig) = false := by
          cases b1 <;> cases b2 <;> simp at h ⊢
        rw [e] at this
        exact this
      · have hb : b1 = false ∧ b2 = false := by simpa using h
        rw [hb.1, hb.2] at hK
        have hn : ((r.length + 1 : Nat) : Int) = (((c :: r).length : Nat) : Int) := by simp
        rw [hn]
        generalize c :: r = D at *
        refine loop_up D.length (fun i w2 => Ext w' w2 ∧ (D.take i).all Num.isDig = true) ⟨Chg.refl _ _, rfl⟩ ?_ ?_
        · rintro i w2 g L hi ⟨hx2, hall⟩ hL
          obtain ⟨e, he⟩ : ∃ e, D[i]? = some e := ⟨_, List.getElem?_eq_getElem hi⟩
          have hlt : ((i : Int) < ((D.length : Nat) : Int)) := by omega
          simp only [wsv, wsg, wsh, wsl, cond_true, cond_false, exists_eq_left', Option.some.injEq, Option.isSome_some, List.getElem?_toArray, List.getElem?_cons_zero, List.getElem?_cons_succ, List.length_cons, List.length_nil, List.set_cons_zero, List.set_cons_succ, List.getD_cons_zero, List.getD_cons_succ, Nat.zero_add, Nat.add_zero, Nat.reduceAdd, Nat.reduceLT, Nat.lt_add_one, Nat.zero_lt_succ, decide_true, decide_false, ne_eq, reduceCtorEq, hlt, Int.toNat_natCast, Int.natCast_nonneg, he, isDig_out]
          intros
          rw [condW_b]
          refine ⟨fun hf => ?_, fun ht => ?_⟩
          · have hf : Num.isDig e = false := by simpa using hf
            have := hK _ hx2
            rw [all_no he hf] at this
            exact this
          · have ht : Num.isDig e = true := by simpa using ht
            rw [up1 (by omega)]
            exact hL _ ⟨hx2, by rw [all_take he, hall, ht]; rfl⟩
        · rintro w2 g L ⟨hx2, hall⟩
          simp only [wsv, wsg, wsh, wsl, cond_true, cond_false, exists_eq_left', Option.some.injEq, Option.isSome_some, List.getElem?_toArray, List.getElem?_cons_zero, List.getElem?_cons_succ, List.length_cons, List.length_nil, List.set_cons_zero, List.set_cons_succ, List.getD_cons_zero, List.getD_cons_succ, Nat.zero_add, Nat.add_zero, Nat.reduceAdd, Nat.reduceLT, Nat.lt_add_one, Nat.zero_lt_succ, decide_true, decide_false, ne_eq, reduceCtorEq, Int.lt_irrefl]
          rw [List.take_length] at hall
          have := hK w2 hx2
          rw [hall] at this
          exact this
theorem keysOk_two {ks : List Str} {i : Nat} {a b : Str} (ha : ks[i]? = some a) (hb : ks[i + 1]? = some b) (h : Op.bytesLess a b = false) : keysOk ks = false := by
  induction ks generalizing i with
  | nil => simp at ha
  | cons x r ih =>
    cases r with
    | nil => simp at hb
    | cons y r =>
      cases i with
      | zero => simp only [List.getElem?_cons_zero, Option.some.injEq, Nat.zero_add, List.getElem?_cons_succ] at ha hb; subst ha hb; simp [keysOk, h]
      | succ i =>
        simp only [List.getElem?_cons_succ] at ha hb
        rw [keysOk, ih (by simpa using ha) (by simpa using hb)]; simp
theorem keysOk_long {ks : List Str} {i : Nat} {a : Str} (ha : ks[i]? = some a) (h : 16384 < a.length) : keysOk ks = false := by
  induction ks generalizing i with
  | nil => simp at ha
  | cons x r ih =>
    cases i with
    | zero =>
      simp only [List.getElem?_cons_zero, Option.some.injEq] at ha
      subst ha
      cases r with
      | nil => simp only [keysOk, decide_eq_false_iff_not]; omega
      | cons y r => rw [keysOk, decide_eq_false (by omega)]; rfl
    | succ i =>
      simp only [List.getElem?_cons_succ] at ha
      cases r with
      | nil => simp at ha
      | cons y r => rw [keysOk, ih ha]; simp
theorem keysOk_mk {ks : List Str} (h1 : ∀ (i : Nat) (a : Str), ks[i]? = some a → a.length ≤ 16384) (h2 : ∀ (i : Nat) (a b : Str), ks[i]? = some a → ks[i + 1]? = some b → Op.bytesLess a b = true) : keysOk ks = true := by
  induction ks with
  | nil => rfl
  | cons x r ih =>
    have := ih (fun i a h => h1 (i + 1) a (by rw [List.getElem?_cons_succ]; exact h)) (fun i a b ha hb => h2 (i + 1) a b (by rw [List.getElem?_cons_succ]; exact ha) (by rw [List.getElem?_cons_succ]; exact hb))
    cases r with
    | nil => simp only [keysOk, decide_eq_true_eq]; exact h1 0 x rfl
    | cons y r => rw [keysOk, this, h2 0 x y rfl rfl, decide_eq_true (h1 0 x rfl)]; rfl
theorem plain_ref (v : JV) : ∀ {cs : List Value} {w : World} {K : Value → World → Prop}, VRep w v cs → (∀ w', Ext w w' → K (.bool (plainM v)) w') → callF Tryz.prog 128 [.agg cs.toArray] w K := by
  induction v using JV.ind' with
  | h v ih =>
    intro cs w K h hK
    refine W128_ok ?_
    unfold W128
    refine box_val h fun a w1 sv kv hB hx _ => ?_
    rw [plainM_eq] at hK
    simp only [wsv, wsg, wsh, wsl, cond_true, cond_false, exists_eq_left', Option.some.injEq, Option.isSome_some, List.getElem?_toArray, List.getElem?_cons_zero, List.getElem?_cons_succ, List.length_cons, List.length_nil, List.set_cons_zero, List.set_cons_succ, List.getD_cons_zero, List.getD_cons_succ, Nat.zero_add, Nat.add_zero, Nat.reduceAdd, Nat.reduceLT, Nat.lt_add_one, Nat.zero_lt_succ, decide_true, decide_false, ne_eq, reduceCtorEq, wsh, hB.hb, hB.lenx, hB.lenk]
    intros
    rw [condW_b]
    refine ⟨fun hbad => ?_, fun hok => ?_⟩
    · have := hK w1 hx
      have e : headOk v.k v.b v.t v.xs.length v.ks = false := by
        cases he : headOk v.k v.b v.t v.xs.length v.ks with
        | false => rfl
        | true =>
          obtain ⟨a1, a2, a3, a4, a5, a6, _⟩ := headOk_out he
          exfalso
          simp only [Bool.or_eq_true, Bool.and_eq_true, decide_eq_true_eq] at hbad
          rcases hbad with ((((h1 | h1) | ⟨h1, h2⟩) | ⟨⟨h1, h2⟩, h3⟩) | ⟨h1, h2⟩) | ⟨h1, h2⟩
          · omega
          · omega
          · exact h2 (a3 h1)
          · rcases a4 h1 with h | h
            · exact h2 h
            · exact h3 h
          · have := a5 (by omega); omega
          · exact h1 (a6 fun e => by rw [e] at h2; simp at h2)
      rw [e] at this
      exact this
    · refine GdW.act (!goodN v.t) (fun w' => Ext w1 w') (fun _ => Chg.refl _ _) ?_ ?_
      · intro hc J hJ
        refine good01_ref hB.fits.2.2.1 fun w2 hx2 => ?_
        simp only [wsv, wsg, wsh, wsl, cond_true, cond_false, exists_eq_left', Option.some.injEq, Option.isSome_some, List.getElem?_toArray, List.getElem?_cons_zero, List.getElem?_cons_succ, List.length_cons, List.length_nil, List.set_cons_zero, List.set_cons_succ, List.getD_cons_zero, List.getD_cons_succ, Nat.zero_add, Nat.add_zero, Nat.reduceAdd, Nat.reduceLT, Nat.lt_add_one, Nat.zero_lt_succ, decide_true, decide_false, ne_eq, reduceCtorEq]
        exact hJ w2 hx2
      · intro g w2 hx2
        have hB := hB.ext hx2
        have hx := hx.trans hx2
        clear hx2
        simp only [wsv, wsg, wsh, wsl, cond_true, cond_false, exists_eq_left', Option.some.injEq, Option.isSome_some, List.getElem?_toArray, List.getElem?_cons_zero, List.getElem?_cons_succ, List.length_cons, List.length_nil, List.set_cons_zero, List.set_cons_succ, List.getD_cons_zero, List.getD_cons_succ, Nat.zero_add, Nat.add_zero, Nat.reduceAdd, Nat.reduceLT, Nat.lt_add_one, Nat.zero_lt_succ, decide_true, decide_false, ne_eq, reduceCtorEq, wsh, hB.hb, hB.lenx, hB.lenk]
        intros
        rw [condW_b]
        have hhead : headOk v.k v.b v.t v.xs.length v.ks = (!(decide (v.k = 3) && !goodN v.t || decide (v.k = 4) && decide (16384 < v.t.length) || decide (v.k = 6) && !decide (v.ks.length = v.xs.length)) && keysOk v.ks) := by
          simp only [Bool.or_eq_false_iff, Bool.and_eq_false_iff, decide_eq_false_iff_not] at hok
          obtain ⟨⟨⟨⟨⟨h1, h2⟩, h3⟩, h4⟩, h5⟩, h6⟩ := hok
          unfold headOk
          have a1 : decide (0 ≤ v.k) = true := decide_eq_true (by omega)
          have a2 : decide (v.k ≤ 6) = true := decide_eq_true (by omega)
          have a3 : (!v.b || decide (v.k = 2)) = true := by
            rcases h3 with h3 | h3
            · rw [h3]; rfl
            · rw [decide_eq_true (Decidable.not_not.1 h3)]; simp
          have a4 : (decide (v.t = []) || decide (v.k = 3) || decide (v.k = 4)) = true := by
            simp only [Bool.or_eq_true, decide_eq_true_eq]
            rcases h4 with (h4 | h4) | h4
            · exact .inl (.inl (Decidable.not_not.1 h4))
            · exact .inl (.inr (Decidable.not_not.1 h4))
            · exact .inr (Decidable.not_not.1 h4)
          have a5 : (decide (v.xs.length = 0) || decide (5 ≤ v.k)) = true := by
            simp only [Bool.or_eq_true, decide_eq_true_eq]; omega
          have a6 : (decide (v.k = 6) || decide (v.ks = [])) = true := by
            simp only [Bool.or_eq_true, decide_eq_true_eq]
            rcases h6 with h6 | h6
            · exact .inl (Decidable.not_not.1 h6)
            · exact .inr (List.eq_nil_of_length_eq_zero (by omega))
          rw [a1, a2, a3, a4, a5, a6]
          have a8 : decide (v.t.length ≤ 16384) = !decide (16384 < v.t.length) := by rw [← decide_not]; exact decide_eq_decide.2 (by omega)
          rw [a8]
          cases decide (v.k = 3) <;> cases goodN v.t <;> cases decide (v.k = 4) <;> cases decide (16384 < v.t.length) <;> cases decide (v.k = 6) <;> cases decide (v.ks.length = v.xs.length) <;> rfl
        rw [hhead] at hK
        have e1 : decide ((16384 : Int) < (v.t.length : Int)) = decide (16384 < v.t.length) := decide_eq_decide.2 (by omega)
        have e2 : decide (¬ (v.ks.length : Int) = (v.xs.length : Int)) = !decide (v.ks.length = v.xs.length) := by rw [← decide_not]; exact decide_eq_decide.2 (by omega)
        rw [e1, e2]
        generalize (decide (v.k = 3) && !goodN v.t || decide (v.k = 4) && decide (16384 < v.t.length) || decide (v.k = 6) && !decide (v.ks.length = v.xs.length)) = bb at *
        refine ⟨fun hb => ?_, fun hb => ?_⟩
        · have := hK w2 hx
          rw [hb] at this
          exact this
        · rw [hb] at hK
          refine loop_up v.ks.length (fun i w' => Ext w2 w' ∧ (∀ (j : Nat) (a : Str), j < i → v.ks[j]? = some a → a.length ≤ 16384) ∧ (∀ (j : Nat) (a b : Str), j + 1 < i → v.ks[j]? = some a → v.ks[j + 1]? = some b → Op.bytesLess a b = true)) ⟨Chg.refl _ _, (fun j a h => by omega), fun j a b h => by omega⟩ ?_ ?_
          · rintro i w3 g L hi ⟨hx3, hl, hs⟩ hL
            have hxd := hx3.trans (Chg.drew (Chg.refl (fun _ => False) w3))
            have hB := hB.ext hx3
            have hBd : ValB w3.drew a v sv kv := hB.ext (Chg.drew (Chg.refl (fun _ => False) w3))
            obtain ⟨u, hu⟩ : ∃ u, v.ks[i]? = some u := ⟨_, List.getElem?_eq_getElem hi⟩
            have hlt : ((i : Int) < (v.ks.length : Int)) := by omega
            simp only [wsv, wsg, wsh, wsl, cond_true, cond_false, exists_eq_left', Option.some.injEq, Option.isSome_some, List.getElem?_toArray, List.getElem?_cons_zero, List.getElem?_cons_succ, List.length_cons, List.length_nil, List.set_cons_zero, List.set_cons_succ, List.getD_cons_zero, List.getD_cons_succ, Nat.zero_add, Nat.add_zero, Nat.reduceAdd, Nat.reduceLT, Nat.lt_add_one, Nat.zero_lt_succ, decide_true, decide_false, ne_eq, reduceCtorEq, wsh, hB.hb, hlt]
            refine hBd.key hu ?_
            have hfin : keysOk v.ks = false → K (.bool false) w3.drew := fun hf => by
              have := hK _ (hx.trans hxd)
              rw [hf] at this
              exact this
            have hnext : u.length ≤ 16384 → (∀ x, 0 < i → v.ks[i - 1]? = some x → Op.bytesLess x u = true) → L [i64 ((i + 1 : Nat) : Int)] w3.drew := fun h1 h2 => by
              refine hL _ ⟨hxd, fun j a hj ha => ?_, fun j a b hj ha hb => ?_⟩
              · rcases Nat.lt_or_ge j i with h | h
                · exact hl j a h ha
                · obtain rfl : j = i := by omega
                  rw [hu] at ha; cases ha; exact h1
              · rcases Nat.lt_or_ge (j + 1) i with h | h
                · exact hs j a b h ha hb
                · obtain rfl : i = j + 1 := by omega
                  rw [hu] at hb; cases hb
                  exact h2 a (by omega) (by simpa using ha)
            by_cases hlong : 16384 < u.length
            · have e : decide ((16384 : Int) < (u.length : Int)) = true := decide_eq_true (by omega)
              simp only [wsv, wsg, wsh, wsl, cond_true, cond_false, exists_eq_left', Option.some.injEq, Option.isSome_some, List.getElem?_toArray, List.getElem?_cons_zero, List.getElem?_cons_succ, List.length_cons, List.length_nil, List.set_cons_zero, List.set_cons_succ, List.getD_cons_zero, List.getD_cons_succ, Nat.zero_add, Nat.add_zero, Nat.reduceAdd, Nat.reduceLT, Nat.lt_add_one, Nat.zero_lt_succ, decide_true, decide_false, ne_eq, reduceCtorEq, e]
              exact hfin (keysOk_long hu hlong)
            · have e : decide ((16384 : Int) < (u.length : Int)) = false := decide_eq_false (by omega)
              by_cases h0 : i = 0
              · subst h0
                have e0 : decide ((0 : Int) < ((0 : Nat) : Int)) = false := by decide
                simp only [wsv, wsg, wsh, wsl, cond_true, cond_false, exists_eq_left', Option.some.injEq, Option.isSome_some, List.getElem?_toArray, List.getElem?_cons_zero, List.getElem?_cons_succ, List.length_cons, List.length_nil, List.set_cons_zero, List.set_cons_succ, List.getD_cons_zero, List.getD_cons_succ, Nat.zero_add, Nat.add_zero, Nat.reduceAdd, Nat.reduceLT, Nat.lt_add_one, Nat.zero_lt_succ, decide_true, decide_false, ne_eq, reduceCtorEq, e, e0]
                rw [up1 (by omega)]
                exact hnext (by omega) fun x h => by omega
              · obtain ⟨j, rfl⟩ : ∃ j, i = j + 1 := ⟨i - 1, by omega⟩
                obtain ⟨x, hxj⟩ : ∃ x, v.ks[j]? = some x := ⟨_, List.getElem?_eq_getElem (by omega)⟩
                have e0 : decide ((0 : Int) < ((j + 1 : Nat) : Int)) = true := decide_eq_true (by omega)
                have hw : IntKind.i64.wrap (((j + 1 : Nat) : Int) - 1) = ((j : Nat) : Int) := by rw [wrap_id (by have := hB.fits.2.1; omega) (by have := hB.fits.2.1; omega)]; omega
                obtain ⟨T, hks⟩ := hBd.keys
                obtain ⟨b, o, c, fr, p, hp, hb, hg⟩ : ∃ b o c fr p, kv = .slice (some ⟨b, o, none⟩) v.ks.length p ∧ w3.heap[b]? = some (.cells c T fr) ∧ ∀ m y, v.ks[m]? = some y → c[o + m]? = some (str y) := by
                  obtain ⟨p, cap, rfl, _, _, h3⟩ := hks
                  obtain ⟨b, off, c, fr, rfl, hb, hcs⟩ := h3 (fun e => by
                    have : v.ks = [] := by simpa using e
                    rw [this] at hi; simp at hi)
                  refine ⟨b, off, c, fr, cap, rfl, hb, fun m y hy => ?_⟩
                  rw [hcs m (by simpa using (List.getElem?_eq_some_iff.1 hy).1)]
                  simp [hy]
                subst hp
                have c1 := hg j x hxj
                have c2 := hg (j + 1) u hu
                have d1 : ((j : Nat) : Int) < (v.ks.length : Int) := by omega
                have d2 : ((j + 1 : Nat) : Int) < (v.ks.length : Int) := by omega
                simp only [wsv, wsg, wsh, wsl, cond_true, cond_false, exists_eq_left', Option.some.injEq, Option.isSome_some, List.getElem?_toArray, List.getElem?_cons_zero, List.getElem?_cons_succ, List.length_cons, List.length_nil, List.set_cons_zero, List.set_cons_succ, List.getD_cons_zero, List.getD_cons_succ, Nat.zero_add, Nat.add_zero, Nat.reduceAdd, Nat.reduceLT, Nat.lt_add_one, Nat.zero_lt_succ, decide_true, decide_false, ne_eq, reduceCtorEq, wsh, e, e0, hw, hB.hb, hb, Int.toNat_natCast, Int.natCast_nonneg, d1, d2, Nat.mul_one, c1, c2, condW_b]
                refine ⟨fun hge => ?_, fun hlt2 => ?_⟩
                · exact hfin (keysOk_two hxj hu (by simpa using hge))
                · rw [up1 (by have := hB.fits.2.1; omega)]
                  exact hnext (by omega) fun y _ hy => by
                    have : v.ks[j]? = some y := by simpa using hy
                    rw [hxj] at this; cases this
                    simpa using hlt2
          · rintro w3 g L ⟨hx3, hl, hs⟩
            have hB := hB.ext hx3
            have hkeys : keysOk v.ks = true := keysOk_mk (fun i a h => hl i a (List.getElem?_eq_some_iff.1 h).1 h) (fun i a b h1 h2 => hs i a b (List.getElem?_eq_some_iff.1 h2).1 h1 h2)
            rw [hkeys, plainL_all] at hK
            simp only [wsv, wsg, wsh, wsl, cond_true, cond_false, exists_eq_left', Option.some.injEq, Option.isSome_some, List.getElem?_toArray, List.getElem?_cons_zero, List.getElem?_cons_succ, List.length_cons, List.length_nil, List.set_cons_zero, List.set_cons_succ, List.getD_cons_zero, List.getD_cons_succ, Nat.zero_add, Nat.add_zero, Nat.reduceAdd, Nat.reduceLT, Nat.lt_add_one, Nat.zero_lt_succ, decide_true, decide_false, ne_eq, reduceCtorEq, Int.lt_irrefl, wsh, hB.hb]
            rw [hB.lenx]
            refine loop_up v.xs.length (fun i w' => Ext w3 w' ∧ (v.xs.take i).all plainM = true) ⟨Chg.refl _ _, rfl⟩ ?_ ?_
            · rintro i w4 g L hi ⟨hx4, hall⟩ hL
              have hB := hB.ext hx4
              obtain ⟨x, hxi⟩ : ∃ x, v.xs[i]? = some x := ⟨_, List.getElem?_eq_getElem hi⟩
              have hlt : ((i : Int) < (v.xs.length : Int)) := by omega
              simp only [wsv, wsg, wsh, wsl, cond_true, cond_false, exists_eq_left', Option.some.injEq, Option.isSome_some, List.getElem?_toArray, List.getElem?_cons_zero, List.getElem?_cons_succ, List.length_cons, List.length_nil, List.set_cons_zero, List.set_cons_succ, List.getD_cons_zero, List.getD_cons_succ, Nat.zero_add, Nat.add_zero, Nat.reduceAdd, Nat.reduceLT, Nat.lt_add_one, Nat.zero_lt_succ, decide_true, decide_false, ne_eq, reduceCtorEq, wsh, hB.hb, hlt]
              refine hB.item hxi fun cs hcs => ?_
              refine ih x (List.mem_of_getElem? hxi) hcs fun w5 hx5 => ?_
              simp only [wsv, wsg, wsh, wsl, cond_true, cond_false, exists_eq_left', Option.some.injEq, Option.isSome_some, List.getElem?_toArray, List.getElem?_cons_zero, List.getElem?_cons_succ, List.length_cons, List.length_nil, List.set_cons_zero, List.set_cons_succ, List.getD_cons_zero, List.getD_cons_succ, Nat.zero_add, Nat.add_zero, Nat.reduceAdd, Nat.reduceLT, Nat.lt_add_one, Nat.zero_lt_succ, decide_true, decide_false, ne_eq, reduceCtorEq, condW_b]
              refine ⟨fun hf => ?_, fun ht => ?_⟩
              · have hf : plainM x = false := by simpa using hf
                have := hK w5 (hx.trans (hx3.trans (hx4.trans hx5)))
                rw [all_no hxi hf] at this
                exact this
              · have ht : plainM x = true := by simpa using ht
                rw [up1 (by have := hB.fits.1; omega)]
                exact hL w5 ⟨hx4.trans hx5, by rw [all_take hxi, hall, ht]; rfl⟩
            · rintro w4 g L ⟨hx4, hall⟩
              simp only [wsv, wsg, wsh, wsl, cond_true, cond_false, exists_eq_left', Option.some.injEq, Option.isSome_some, List.getElem?_toArray, List.getElem?_cons_zero, List.getElem?_cons_succ, List.length_cons, List.length_nil, List.set_cons_zero, List.set_cons_succ, List.getD_cons_zero, List.getD_cons_succ, Nat.zero_add, Nat.add_zero, Nat.reduceAdd, Nat.reduceLT, Nat.lt_add_one, Nat.zero_lt_succ, decide_true, decide_false, ne_eq, reduceCtorEq, Int.lt_irrefl]
              rw [List.take_length] at hall
              have := hK w4 (hx.trans (hx3.trans hx4))
              rw [hall] at this
              exact this
theorem good_ref {v : JV} {cs : List Value} {w : World} {K : Value → World → Prop} (h : VRep w v cs) (hK : ∀ w', Ext w w' → K (.bool (goodM v)) w') : callF Tryz.prog 66 [.agg cs.toArray] w K := by
  refine W66_ok ?_
  unfold W66
  refine box_val h fun a w1 sv kv hB hx _ => ?_
  refine hB.ld fun cs1 h1 => ?_
  refine size_ref v h1 fun w2 hx2 => ?_
  have hB := hB.ext hx2
  have hx := hx.trans hx2
  simp only [wsv, wsg, wsh, wsl, cond_true, cond_false, exists_eq_left', Option.some.injEq, Option.isSome_some, List.getElem?_toArray, List.getElem?_cons_zero, List.getElem?_cons_succ, List.length_cons, List.length_nil, List.set_cons_zero, List.set_cons_succ, List.getD_cons_zero, List.getD_cons_succ, Nat.zero_add, Nat.add_zero, Nat.reduceAdd, Nat.reduceLT, Nat.lt_add_one, Nat.zero_lt_succ, decide_true, decide_false, ne_eq, reduceCtorEq]
  refine GdW.act (deepM v 24) (fun w' => Ext w2 w') (fun _ => Chg.refl _ _) ?_ ?_
  · intro hc J hJ
    refine hB.ld fun cs2 h2 => ?_
    exact deep_ref v (m := 24) (by omega) h2 hJ
  intro g w3 hx3
  have hB := hB.ext hx3
  have hx := hx.trans hx3
  simp only [wsv, wsg, wsh, wsl, cond_true, cond_false, exists_eq_left', Option.some.injEq, Option.isSome_some, List.getElem?_toArray, List.getElem?_cons_zero, List.getElem?_cons_succ, List.length_cons, List.length_nil, List.set_cons_zero, List.set_cons_succ, List.getD_cons_zero, List.getD_cons_succ, Nat.zero_add, Nat.add_zero, Nat.reduceAdd, Nat.reduceLT, Nat.lt_add_one, Nat.zero_lt_succ, decide_true, decide_false, ne_eq, reduceCtorEq]
  refine GdW.act (plainM v) (fun w' => Ext w3 w') (fun _ => Chg.refl _ _) ?_ ?_
  · intro hc J hJ
    refine hB.ld fun cs2 h2 => ?_
    exact plain_ref v h2 hJ
  intro g w4 hx4
  have := hK w4 (hx.trans hx4)
  simp only [wsv, wsg, wsh, wsl, cond_true, cond_false, exists_eq_left', Option.some.injEq, Option.isSome_some, List.getElem?_toArray, List.getElem?_cons_zero, List.getElem?_cons_succ, List.length_cons, List.length_nil, List.set_cons_zero, List.set_cons_succ, List.getD_cons_zero, List.getD_cons_succ, Nat.zero_add, Nat.add_zero, Nat.reduceAdd, Nat.reduceLT, Nat.lt_add_one, Nat.zero_lt_succ, decide_true, decide_false, ne_eq, reduceCtorEq]
  exact this
theorem same_ref (a : JV) : ∀ {b : JV} {cs ds : List Value} {w : World} {K : Value → World → Prop}, VRep w a cs → VRep w b ds → (∀ w', Ext w w' → K (.bool (sameM a b)) w') → callF Tryz.prog 63 [.agg cs.toArray, .agg ds.toArray] w K := by
  induction a using JV.ind' with
  | h v ih =>
    intro b cs ds w K h h' hK
    refine W63_ok ?_
    unfold W63
    refine box_val h fun x w1 sv kv hB hx _ => ?_
    refine box_val (h'.ext hx) fun y w2 sv' kv' hC hx2 _ => ?_
    have hB := hB.ext hx2
    have hx := hx.trans hx2
    clear hx2
    rw [sameM_eq] at hK
    simp only [wsv, wsg, wsh, wsl, cond_true, cond_false, exists_eq_left', Option.some.injEq, Option.isSome_some, List.getElem?_toArray, List.getElem?_cons_zero, List.getElem?_cons_succ, List.length_cons, List.length_nil, List.set_cons_zero, List.set_cons_succ, List.getD_cons_zero, List.getD_cons_succ, Nat.zero_add, Nat.add_zero, Nat.reduceAdd, Nat.reduceLT, Nat.lt_add_one, Nat.zero_lt_succ, decide_true, decide_false, ne_eq, reduceCtorEq, wsh, hB.hb, hC.hb, eq_bb, ne_bb]
    intros
    refine GdW.act (!decide (v.ks = b.ks)) (fun w' => Ext w2 w') (fun _ => Chg.refl _ _) ?_ ?_
    · intro hc J hJ
      obtain ⟨T1, k1⟩ := hB.keys
      obtain ⟨T2, k2⟩ := hC.keys
      refine texts_ref k1 k2 hB.fits.2.1 fun w3 hx3 => ?_
      simp only [wsv, wsg, wsh, wsl, cond_true, cond_false, exists_eq_left', Option.some.injEq, Option.isSome_some, List.getElem?_toArray, List.getElem?_cons_zero, List.getElem?_cons_succ, List.length_cons, List.length_nil, List.set_cons_zero, List.set_cons_succ, List.getD_cons_zero, List.getD_cons_succ, Nat.zero_add, Nat.add_zero, Nat.reduceAdd, Nat.reduceLT, Nat.lt_add_one, Nat.zero_lt_succ, decide_true, decide_false, ne_eq, reduceCtorEq]
      exact hJ w3 hx3
    intro g w3 hx3
    have hB := hB.ext hx3
    have hC := hC.ext hx3
    have hx := hx.trans hx3
    clear hx3
    simp only [wsv, wsg, wsh, wsl, cond_true, cond_false, exists_eq_left', Option.some.injEq, Option.isSome_some, List.getElem?_toArray, List.getElem?_cons_zero, List.getElem?_cons_succ, List.length_cons, List.length_nil, List.set_cons_zero, List.set_cons_succ, List.getD_cons_zero, List.getD_cons_succ, Nat.zero_add, Nat.add_zero, Nat.reduceAdd, Nat.reduceLT, Nat.lt_add_one, Nat.zero_lt_succ, decide_true, decide_false, ne_eq, reduceCtorEq, wsh, hB.hb, hC.hb, hB.lenx, hC.lenx]
    intros
    have e1 : (!v.b == b.b) = !decide (v.b = b.b) := by cases v.b <;> cases b.b <;> rfl
    have e2 : decide (¬ (v.xs.length : Int) = (b.xs.length : Int)) = !decide (v.xs.length = b.xs.length) := by rw [← decide_not]; exact decide_eq_decide.2 (by omega)
    rw [e2]
    simp only [decide_not]
    have hsl : v.xs.length ≠ b.xs.length → sameL v.xs b.xs = false := sameL_len
    by_cases hl : v.xs.length = b.xs.length
    · rw [decide_eq_true hl, condW_b]
      refine ⟨fun hne => ?_, fun heq => ?_⟩
      · have := hK w3 hx
        have e : (decide (v.k = b.k) && decide (v.b = b.b) && decide (v.t = b.t) && decide (v.ks = b.ks) && sameL v.xs b.xs) = false := by
          have e1 : (v.b == b.b) = decide (v.b = b.b) := by cases v.b <;> cases b.b <;> rfl
          rw [e1] at hne
          revert hne
          cases decide (v.k = b.k) <;> cases decide (v.b = b.b) <;> cases decide (v.t = b.t) <;> cases decide (v.ks = b.ks) <;> simp
        rw [e] at this
        exact this
      · have e : (decide (v.k = b.k) && decide (v.b = b.b) && decide (v.t = b.t) && decide (v.ks = b.ks)) = true := by
          have e1 : (v.b == b.b) = decide (v.b = b.b) := by cases v.b <;> cases b.b <;> rfl
          rw [e1] at heq
          revert heq
          cases decide (v.k = b.k) <;> cases decide (v.b = b.b) <;> cases decide (v.t = b.t) <;> cases decide (v.ks = b.ks) <;> simp
        rw [e] at hK
        refine loop_up v.xs.length (fun i w' => Ext w3 w' ∧ v.xs.take i = b.xs.take i) ⟨Chg.refl _ _, rfl⟩ ?_ ?_
        · rintro i w4 g L hi ⟨hx4, hall⟩ hL
          have hxd : Ext w3 w4.drew := hx4.trans (Chg.drew (Chg.refl (fun _ => False) w4))
          have hB4 := hB.ext hx4
          have hC4 := hC.ext hx4
          have hB := hB.ext hxd
          have hC := hC.ext hxd
          obtain ⟨p, hp⟩ : ∃ p, v.xs[i]? = some p := ⟨_, List.getElem?_eq_getElem hi⟩
          obtain ⟨q, hq⟩ : ∃ q, b.xs[i]? = some q := ⟨_, List.getElem?_eq_getElem (by omega)⟩
          have hlt : ((i : Int) < (v.xs.length : Int)) := by omega
          simp only [wsv, wsg, wsh, wsl, cond_true, cond_false, exists_eq_left', Option.some.injEq, Option.isSome_some, List.getElem?_toArray, List.getElem?_cons_zero, List.getElem?_cons_succ, List.length_cons, List.length_nil, List.set_cons_zero, List.set_cons_succ, List.getD_cons_zero, List.getD_cons_succ, Nat.zero_add, Nat.add_zero, Nat.reduceAdd, Nat.reduceLT, Nat.lt_add_one, Nat.zero_lt_succ, decide_true, decide_false, ne_eq, reduceCtorEq, wsh, hB4.hb, hC4.hb, hlt]
          refine hB.item hp fun cs1 h1 => ?_
          refine hC.item hq fun cs2 h2 => ?_
          refine ih p (List.mem_of_getElem? hp) h1 h2 fun w5 hx5 => ?_
          simp only [wsv, wsg, wsh, wsl, cond_true, cond_false, exists_eq_left', Option.some.injEq, Option.isSome_some, List.getElem?_toArray, List.getElem?_cons_zero, List.getElem?_cons_succ, List.length_cons, List.length_nil, List.set_cons_zero, List.set_cons_succ, List.getD_cons_zero, List.getD_cons_succ, Nat.zero_add, Nat.add_zero, Nat.reduceAdd, Nat.reduceLT, Nat.lt_add_one, Nat.zero_lt_succ, decide_true, decide_false, ne_eq, reduceCtorEq, condW_b]
          refine ⟨fun hf => ?_, fun ht => ?_⟩
          · have hf : sameM p q = false := by simpa using hf
            have := hK w5 (hx.trans (hxd.trans hx5))
            rw [sameL_take hl hp hq hf] at this
            exact this
          · have ht : sameM p q = true := by simpa using ht
            have := (same_iff p q).1 ht
            subst this
            rw [up1 (by have := hB.fits.1; omega)]
            exact hL w5 ⟨hxd.trans hx5, take_eq hall hp hq⟩
        · rintro w4 g L ⟨hx4, hall⟩
          simp only [wsv, wsg, wsh, wsl, cond_true, cond_false, exists_eq_left', Option.some.injEq, Option.isSome_some, List.getElem?_toArray, List.getElem?_cons_zero, List.getElem?_cons_succ, List.length_cons, List.length_nil, List.set_cons_zero, List.set_cons_succ, List.getD_cons_zero, List.getD_cons_succ, Nat.zero_add, Nat.add_zero, Nat.reduceAdd, Nat.reduceLT, Nat.lt_add_one, Nat.zero_lt_succ, decide_true, decide_false, ne_eq, reduceCtorEq, Int.lt_irrefl]
          rw [List.take_length, hl, List.take_length] at hall
          have := hK w4 (hx.trans hx4)
          rw [(sameL_iff _ _).2 hall] at this
          exact this
    · rw [decide_eq_false hl, Bool.not_false, Bool.or_true, condW_true]
      have := hK w3 hx
      rw [hsl hl, Bool.and_false] at this
      exact this
end
end Go.Proofs.YtnoepcndjljolaaGreatDoor
namespace Go.Proofs.YtnoepcndjljolaaGreatDoor
open Go Go.Eng Go.Num
set_option maxRecDepth 100000
abbrev ST : TypeId := 9
theorem elem_s : ElemT Tryz.prog 38 ST 1 16 := ⟨by kernel_rfl, by kernel_rfl, by decide⟩
theorem elem_v : ElemT Tryz.prog 37 VT 5 80 := ⟨by kernel_rfl, by kernel_rfl, by decide⟩
abbrev ptr (b : Nat) : Value := .pointer (some ⟨b, 0, none⟩)
structure Grow (w0 w : World) (b base : Nat) (sv0 kv0 sv kv : Value) (xs : List JV) (ks : List Str) : Prop where
  ext : Ext w0 w
  hb : w.heap[b]? = some (.cells [i64 6, .bool false, str [], sv0, kv0].toArray VT (0, 0))
  low : w0.heap.size ≤ b
  lt : b < base
  le : base ≤ w.heap.size
  items : ∃ L, Own w base VT 5 sv xs.length L ∧ VReps w0 xs L
  keys : Own w base ST 1 kv ks.length (ks.map str)
theorem Grow.more {w0 w w' : World} {b base : Nat} {sv0 kv0 sv kv : Value} {xs : List JV} {ks : List Str} (h : Grow w0 w b base sv0 kv0 sv kv xs ks) (hx : Ext w w') : Grow w0 w' b base sv0 kv0 sv kv xs ks :=
  ⟨h.ext.trans hx, hx.at h.hb id, h.low, h.lt, Nat.le_trans h.le hx.size, let ⟨L, h1, h2⟩ := h.items; ⟨L, h1.ext hx, h2⟩, h.keys.ext hx⟩
theorem Grow.chg {w0 w w' : World} {b b' base : Nat} {sv0 kv0 sv kv : Value} {xs : List JV} {ks : List Str} (h : Grow w0 w b base sv0 kv0 sv kv xs ks) (hc : Chg (fun k => k = b') w w') (h1 : b' ≠ b) (h2 : b' < base) (h3 : w0.heap.size ≤ b') : Grow w0 w' b base sv0 kv0 sv kv xs ks :=
  ⟨h.ext.new hc h3, hc.at h.hb (fun e => h1 e.symm), h.low, h.lt, Nat.le_trans h.le hc.size, let ⟨L, g1, g2⟩ := h.items; ⟨L, g1.chg hc fun k hk e => by have := hk.1; omega, g2⟩, h.keys.chg hc fun k hk e => by have := hk.1; omega⟩
theorem own_ge {w : World} {base : Nat} {e : TypeId} {size : Nat} {v : Value} {n : Nat} {xs : List Value} (h : Own w base e size v n xs) {k : Nat} (hk : v.ownBlock = some k) : base ≤ k ∧ ∃ c, w.heap[k]? = some (.cells c e (0, 0)) := h.block k hk
theorem Grow.set {w0 w : World} {b base off : Nat} {sv0 kv0 sv kv v sv1 kv1 : Value} {xs : List JV} {ks : List Str} {K : World → Prop} (h : Grow w0 w b base sv0 kv0 sv kv xs ks) (h1 : one1 v = true) (ho : off < 5)
    (he : ([i64 6, .bool false, str [], sv0, kv0] : List Value).set off v = [i64 6, .bool false, str [], sv1, kv1]) (hK : ∀ w', Grow w0 w' b base sv1 kv1 sv kv xs ks → Chg (fun k => k = b) w w' → K w') : stW 1 (.pointer (some ⟨b, off, none⟩)) v w K := by
  refine st_at h.hb h1 (by simpa using ho) fun w' hz hb' hc => ?_
  refine hK w' ⟨h.ext.new hc h.low, ?_, h.low, h.lt, by rw [hz]; exact h.le, ?_, h.keys.chg hc fun k hk e => ?_⟩ hc
  · rw [hb', ← he]; simp
  · obtain ⟨L, h1, h2⟩ := h.items
    exact ⟨L, h1.chg hc fun k hk e => by have := hk.1; have := h.lt; omega, h2⟩
  · have := hk.1; have := h.lt; omega
theorem Grow.one {w0 w : World} {b base : Nat} {sv0 kv0 sv kv : Value} {xs : List JV} {ks : List Str} (h : Grow w0 w b base sv0 kv0 sv kv xs ks) : one1 sv = true ∧ one1 kv = true := by
  obtain ⟨L, h1, _⟩ := h.items
  obtain ⟨p, c, rfl, _⟩ := h1.sl.shape
  obtain ⟨p', c', rfl, _⟩ := h.keys.sl.shape
  exact ⟨rfl, rfl⟩
structure OwnV (w0 w : World) (base : Nat) (v : JV) (sv kv : Value) : Prop where
  items : ∃ L, Own w base VT 5 sv v.xs.length L ∧ VReps w0 v.xs L
  keys : Own w base ST 1 kv v.ks.length (v.ks.map str)
  fits : Fits v.xs.length v.ks v.t
theorem OwnV.chg {w0 w w' : World} {base : Nat} {v : JV} {sv kv : Value} {S : Nat → Prop} (h : OwnV w0 w base v sv kv) (hc : Chg S w w') (hS : ∀ k, base ≤ k → k < w.heap.size → ¬ S k) : OwnV w0 w' base v sv kv :=
  ⟨let ⟨L, h1, h2⟩ := h.items; ⟨L, h1.chg hc fun k hk => hS k hk.1 (by obtain ⟨_, c, hk⟩ := hk; exact at_lt hk), h2⟩, h.keys.chg hc fun k hk => hS k hk.1 (by obtain ⟨_, c, hk⟩ := hk; exact at_lt hk), h.fits⟩
theorem OwnV.one {w0 w : World} {base : Nat} {v : JV} {sv kv : Value} (h : OwnV w0 w base v sv kv) : one1 sv = true ∧ one1 kv = true := by
  obtain ⟨L, h1, _⟩ := h.items
  obtain ⟨p, c, rfl, _⟩ := h1.sl.shape
  obtain ⟨p', c', rfl, _⟩ := h.keys.sl.shape
  exact ⟨rfl, rfl⟩
theorem OwnV.val {w0 w : World} {base : Nat} {v : JV} {sv kv : Value} (h : OwnV w0 w base v sv kv) : VRepS w0 w v [i64 v.k, .bool v.b, str v.t, sv, kv] := by
  obtain ⟨L, h1, h2⟩ := h.items
  exact ⟨sv, kv, VT, ST, L, rfl, h1.sl, h2, h.keys.sl, h.fits⟩
theorem Grow.own {w0 w : World} {b base : Nat} {sv kv : Value} {l : List (Str × JV)} (h : Grow w0 w b base sv kv sv kv (l.map (·.2)) (l.map (·.1))) (hl : l.length ≤ 1000000) (hk : ∀ p ∈ l, p.1.length ≤ 9223372036854775807) : OwnV w0 w base (mkO l) sv kv := by
  refine ⟨h.items, h.keys, ?_, ?_, ?_, ?_⟩
  · simp only [mkO, JV.xs, List.length_map]; omega
  · simp only [mkO, JV.ks, List.length_map]; omega
  · simp [mkO, JV.t]
  · intro s hs
    simp only [mkO, JV.ks, List.mem_map] at hs
    obtain ⟨p, hp, rfl⟩ := hs
    exact hk p hp
theorem row_v {w : World} {cs : List Value} {K : Value → World → Prop} (hc : cs.length = 5) (hK : ∀ t w', SlAt w' VT t 1 cs → Ext w w' → K t w') : bslW VT 1 [(.int .i64 0), (.bool false), (.string (ofL [])), (.slice none 0 0), (.slice none 0 0)] [(0, 5, .agg cs.toArray)] w K := by
  unfold bslW
  have hp : ∀ K : List Value → Prop, K cs → putW [(.int .i64 0), (.bool false), (.string (ofL [])), (.slice none 0 0), (.slice none 0 0)] [(0, 5, .agg cs.toArray)] K := by
    intro K hK
    refine ⟨by simp [Value.cells, hc], by simp, ?_⟩
    have : List.take 0 [(Value.int .i64 0), (.bool false), (.string (ofL [])), (.slice none 0 0), (.slice none 0 0)] ++ ((Value.agg cs.toArray).cells.toList ++ List.drop (0 + 5) [(Value.int .i64 0), (.bool false), (.string (ofL [])), (.slice none 0 0), (.slice none 0 0)]) = cs := by simp [Value.cells]
    rw [this]
    exact hK
  refine hp _ ?_
  exact hK _ _ (own_new (w := w) (base := w.heap.size) (e := VT) (size := 5) (n := 1) (cs := cs) (Nat.le_refl _) (by omega) (by omega)).sl (by repeat (first | assumption | exact Chg.refl _ _ | refine Chg.drew ?_ | refine Chg.alloc ?_ _ | refine Chg.set ?_ (by first | exact .inl rfl | exact .inr (by omega) | exact .inr (by simp only [size_set, size_alloc, size_drew]; omega) | (left; simp; done)) _ | exact Chg.of_ext (by assumption)))
theorem OwnV.item_old {w0 w : World} {base : Nat} {v : JV} {sv kv : Value} {k : IntKind} {i : Nat} {x : JV} {K : Value → Prop} (h : OwnV w0 w base v sv kv) (hi : v.xs[i]? = some x) (hK : ∀ cs, VRep w0 x cs → K (.agg cs.toArray)) : ixaW none 5 sv (.int k i) fun p => ldW true 5 p w K := by
  obtain ⟨L, h1, h2⟩ := h.items
  obtain ⟨cs, hc, hg⟩ := h2.get hi
  refine ixa_at (size := 5) h1.sl h2.len (by omega) (List.getElem?_eq_some_iff.1 hi).1 fun b o c fr hb hcc => ?_
  exact ld_cells hb hc.len (fun j hj => (hcc j hj).trans (hg j hj)) (hK cs hc)
end Go.Proofs.YtnoepcndjljolaaGreatDoor
namespace Go.Proofs.YtnoepcndjljolaaGreatDoor
open Go Go.Eng Go.Num
set_option maxRecDepth 100000
section
variable [HX]
theorem ret_val {w w0 : World} {b : Nat} {cs ds : List Value} {v : JV} {K : Value → World → Prop} (hb : w.heap[b]? = some (.cells ds.toArray VT (0, 0))) (hd : ds.length = 5) (hl : w0.heap.size ≤ b) (hx : Ext w0 w) (h : VRep w0 v cs)
    (hK : ∀ w', Ext w0 w' → Chg (fun k => k = b) w w' → VRep w' v cs → K (.agg cs.toArray) w') : stW 5 (ptr b) (.agg cs.toArray) w fun w5 => ldW true 5 (ptr b) w5 fun r6 => K r6 w5 :=
  ret_agg hb h.len hd h.all_one fun w' hc => by
    have hx' := hx.new hc hl
    exact hK w' hx' hc (h.ext hx')
theorem ValB.item_old {w0 w : World} {a : Nat} {v : JV} {sv kv : Value} {k : IntKind} {i : Nat} {x : JV} {K : Value → Prop} (h : ValB w0 a v sv kv) (hx : Ext w0 w) (hi : v.xs[i]? = some x) (hK : ∀ cs, VRep w0 x cs → K (.agg cs.toArray)) : ixaW none 5 sv (.int k i) fun p => ldW true 5 p w K := by
  obtain ⟨T, L, h1, h2⟩ := h.items
  obtain ⟨cs, hc, hg⟩ := h2.get hi
  refine ixa_at (size := 5) (h1.ext hx) h2.len (by omega) (List.getElem?_eq_some_iff.1 hi).1 fun b o c fr hb hcc => ?_
  exact ld_cells hb hc.len (fun j hj => (hcc j hj).trans (hg j hj)) (hK cs hc)
theorem obj_one {k : Int} {b : Bool} {t : Str} {sv kv : Value} (h1 : one1 sv = true) (h2 : one1 kv = true) : ([i64 k, .bool b, str t, sv, kv] : List Value).all one1 = true := by
  simp only [List.all_cons, List.all_nil, h1, h2, Bool.and_true]; rfl
end
end Go.Proofs.YtnoepcndjljolaaGreatDoor

namespace Go.Proofs.YtnoepcndjljolaaGreatDoor
open Go Go.Eng Go.Num
set_option maxRecDepth 100000
section
variable [HX]
theorem copy_new {w : World} {v : JV} {cs : List Value} {K : Value → World → Prop} (h : VRep w v cs) (hK : ∀ a w' sv kv, ValB w' a v sv kv → Ext w w' → K (ptr a) w') :
    allocW VT [(.int .i64 0), (.bool false), (.string (ofL [])), (.slice none 0 0), (.slice none 0 0)] w fun t w1 => stW 5 t (.agg cs.toArray) w1 fun w2 => K t w2 := by
  obtain ⟨sv, kv, T1, T2, L, rfl, h1, h2, h3, h4⟩ := h.out
  refine alloc_new fun a w1 ha hz hb hx => ?_
  refine st_agg_at hb rfl rfl h.all_one fun w2 hz2 hb2 hc2 => ?_
  have hx' := hx.new hc2 (by omega)
  exact hK a w2 sv kv ⟨hb2, ⟨T1, L, h1.ext hx', h2.ext hx'⟩, ⟨T2, h3.ext hx'⟩, h4⟩ hx'
theorem any_take {α : Type} {p : α → Bool} {xs : List α} {i : Nat} {x : α} (hi : xs[i]? = some x) : (xs.take (i + 1)).any p = ((xs.take i).any p || p x) := by
  rw [List.take_add_one, hi]; simp
end
end Go.Proofs.YtnoepcndjljolaaGreatDoor
namespace Go.Proofs.YtnoepcndjljolaaGreatDoor
open Go Go.Eng
set_option maxRecDepth 100000
variable [HX]
def plan87 : Plan := { js := [], ds := [] }
def W87 (v0 v1 : Value) (w : World) (K : Value → World → Prop) : Prop :=
  callF Tryz.prog 147 [v0, v1] w fun t7 w1 =>
  binW .geq t7 (.int .i64 0) fun t8 =>
  K t8 w1
theorem W87_eq (v0 v1 : Value) (w : World) (K : Value → World → Prop) : funW Tryz.prog Tryz.f87 plan87 [v0, v1] w K = W87 v0 v1 w K := by kernel_rfl
theorem W87_chk : chkFun Tryz.prog Tryz.f87 plan87 2 = true := by kernel_rfl
theorem W87_ok {v0 v1 : Value} {w : World} {K : Value → World → Prop} (h : W87 v0 v1 w K) : callF Tryz.prog 87 [v0, v1] w K :=
  tie Tryz.prog 87 Tryz.f87 plan87 [v0, v1] w K 2 (W87 v0 v1 w K) rfl mixed Tryz.func87 W87_chk (W87_eq v0 v1 w K) Tryz.call87 h
def plan106 : Plan := { js := [(6004, ⟨[19], [], 17⟩)], ds := [] }
def W106 (v0 v1 : Value) (w : World) (K : Value → World → Prop) : Prop :=
  boxW 40 v0 w fun t2 w1 =>
  allocW 40 [(.int .i64 0), (.bool false), (.string (ofL [])), (.slice none 0 0), (.slice none 0 0)] w1 fun t4 w2 =>
  fldW 4 t2 fun t9 =>
  ldW false 1 t9 w2 fun t10 =>
  callF Tryz.prog 161 [t10, v1] w2 fun t12 w3 =>
  extW 0 t12 fun t13 =>
  extW 1 t12 fun t14 =>
  GdW (isB t14 true) [undef] w3 (fun J4 =>
    fldW 0 t2 fun t17 =>
    ldW false 1 t17 w3 fun t18 =>
    binW .eql t18 (.int .i64 6) fun t19 =>
    J4 [t19] w3)
  fun s4 _ w5 =>
  pickW t14 (s4.getD 0 undef) (.bool false) fun t20 =>
  condW t20 (
    fldW 3 t2 fun t21 =>
    ldW false 1 t21 w5 fun t22 =>
    ixaW none 5 t22 t13 fun t24 =>
    ldW true 5 t24 w5 fun t25 =>
    callF Tryz.prog 71 [t25] w5 fun t26 w6 =>
    stW 5 t4 t26 w6 fun w7 =>
    ldW true 5 t4 w7 fun r8 =>
    K (.tuple #[r8, (.bool true)]) w7) (
    putW [(.int .i64 0), (.bool false), (.string (ofL [])), (.slice none 0 0), (.slice none 0 0)] [] fun c9 =>
    stW 5 t4 (.agg c9.toArray) w5 fun w10 =>
    ldW true 5 t4 w10 fun r11 =>
    K (.tuple #[r11, (.bool false)]) w10)
theorem W106_eq (v0 v1 : Value) (w : World) (K : Value → World → Prop) : funW Tryz.prog Tryz.f106 plan106 [v0, v1] w K = W106 v0 v1 w K := by kernel_rfl
theorem W106_chk : chkFun Tryz.prog Tryz.f106 plan106 2 = true := by kernel_rfl
theorem W106_ok {v0 v1 : Value} {w : World} {K : Value → World → Prop} (h : W106 v0 v1 w K) : callF Tryz.prog 106 [v0, v1] w K :=
  tie Tryz.prog 106 Tryz.f106 plan106 [v0, v1] w K 2 (W106 v0 v1 w K) rfl mixed Tryz.func106 W106_chk (W106_eq v0 v1 w K) Tryz.call106 h
def plan48 : Plan := { js := [(3006, ⟨[10], [], 7⟩)], ds := [] }
def W48 (v0 : Value) (w : World) (K : Value → World → Prop) : Prop :=
  boxW 40 v0 w fun t1 w1 =>
  fldW 0 t1 fun t3 =>
  ldW false 1 t3 w1 fun t4 =>
  binW .neq t4 (.int .i64 1) fun t5 =>
  GdW (isB t5 true) [undef] w1 (fun J2 =>
    fldW 3 t1 fun t7 =>
    ldW false 1 t7 w1 fun t8 =>
    callF Tryz.prog 102 [t8, (.func (.func 103) #[] #[])] w1 fun t9 w3 =>
    unW .not t9 fun t10 =>
    J2 [t10] w3)
  fun s2 _ w4 =>
  pickW t5 (s2.getD 0 undef) (.bool false) fun t11 =>
  K t11 w4
theorem W48_eq (v0 : Value) (w : World) (K : Value → World → Prop) : funW Tryz.prog Tryz.f48 plan48 [v0] w K = W48 v0 w K := by kernel_rfl
theorem W48_chk : chkFun Tryz.prog Tryz.f48 plan48 1 = true := by kernel_rfl
theorem W48_ok {v0 : Value} {w : World} {K : Value → World → Prop} (h : W48 v0 w K) : callF Tryz.prog 48 [v0] w K :=
  tie Tryz.prog 48 Tryz.f48 plan48 [v0] w K 1 (W48 v0 w K) rfl mixed Tryz.func48 W48_chk (W48_eq v0 w K) Tryz.call48 h
def plan147 : Plan := { js := [(6, ⟨[8], [4, 5], 8⟩)], ds := [] }
def W147 (v0 v1 : Value) (w : World) (K : Value → World → Prop) : Prop :=
  lenlW v0 fun t7 =>
  LoopW [(.int .i64 0)] w fun s1 _ w2 L1 =>
    binW .lss (s1.getD 0 undef) t7 fun t9 =>
    condW t9 (
      ixaW none 1 v0 (s1.getD 0 undef) fun t14 =>
      ldW false 1 t14 w2 fun t15 =>
      callV Tryz.prog v1 [t15] w2 fun t16 w3 =>
      condW t16 (
        K (s1.getD 0 undef) w3) (
        binW .add (s1.getD 0 undef) (.int .i64 1) fun t18 =>
        L1 [t18] w3)) (
      K (.int .i64 (-1)) w2)
theorem W147_eq (v0 v1 : Value) (w : World) (K : Value → World → Prop) : funW Tryz.prog Tryz.f147 plan147 [v0, v1] w K = W147 v0 v1 w K := by kernel_rfl
theorem W147_chk : chkFun Tryz.prog Tryz.f147 plan147 2 = true := by kernel_rfl
theorem W147_ok {v0 v1 : Value} {w : World} {K : Value → World → Prop} (h : W147 v0 v1 w K) : callF Tryz.prog 147 [v0, v1] w K :=
  tie Tryz.prog 147 Tryz.f147 plan147 [v0, v1] w K 2 (W147 v0 v1 w K) rfl mixed Tryz.func147 W147_chk (W147_eq v0 v1 w K) Tryz.call147 h
def plan161 : Plan := { js := [(24004, ⟨[52], [], 36⟩), (24005, ⟨[51], [], 43⟩), (24007, ⟨[50], [], 49⟩), (24013, ⟨[48], [], 43⟩), (24020, ⟨[42], [], 36⟩), (8, ⟨[7, 8], [], 7⟩)], ds := [] }
def W161 (v0 v1 : Value) (w : World) (K : Value → World → Prop) : Prop :=
  lenlW v0 fun t11 =>
  LoopW [(.int .i64 0), t11] w fun s1 _ w2 L1 =>
    binW .lss (s1.getD 0 undef) (s1.getD 1 undef) fun t15 =>
    condW t15 (
      binW .add (s1.getD 0 undef) (s1.getD 1 undef) fun t18 =>
      cvtW .u64 t18 fun t19 =>
      binW .shr t19 (.int .u64 1) fun t20 =>
      cvtW .i64 t20 fun t21 =>
      ixaW none 1 v0 t21 fun t24 =>
      ldW false 1 t24 w2 fun t25 =>
      callF Tryz.prog 209 [t25, v1] w2 fun t27 w3 =>
      condW t27 (
        binW .add t21 (.int .i64 1) fun t29 =>
        L1 [t29, (s1.getD 1 undef)] w3) (
        L1 [(s1.getD 0 undef), t21] w3)) (
      binW .lss (s1.getD 0 undef) t11 fun t34 =>
      GdW (isB t34 true) [undef] w2 (fun J4 =>
        ixaW none 1 v0 (s1.getD 0 undef) fun t38 =>
        ldW false 1 t38 w2 fun t39 =>
        binW .eql t39 v1 fun t41 =>
        J4 [t41] w2)
      fun s4 _ w5 =>
      GdW (isB (s4.getD 0 undef) false) [undef] w5 (fun J6 =>
        ixaW none 1 v0 (s1.getD 0 undef) fun t45 =>
        ldW false 1 t45 w5 fun t46 =>
        callF Tryz.prog 210 [t46] w5 fun t47 w7 =>
        J6 [t47] w7)
      fun s6 _ w8 =>
      GdW (isB (s6.getD 0 undef) true) [undef] w8 (fun J9 =>
        callF Tryz.prog 210 [v1] w8 fun t50 w10 =>
        J9 [t50] w10)
      fun s9 _ w11 =>
      GdW (isB (s4.getD 0 undef) false) [undef] w11 (fun J12 =>
        pickW (s6.getD 0 undef) (s9.getD 0 undef) (.bool false) fun t51 =>
        J12 [t51] w11)
      fun s12 _ w13 =>
      GdW (isB t34 true) [undef] w13 (fun J14 =>
        pickW (s4.getD 0 undef) (.bool true) (s12.getD 0 undef) fun t52 =>
        J14 [t52] w13)
      fun s14 _ w15 =>
      pickW t34 (s14.getD 0 undef) (.bool false) fun t53 =>
      K (.tuple #[(s1.getD 0 undef), t53]) w15)
theorem W161_eq (v0 v1 : Value) (w : World) (K : Value → World → Prop) : funW Tryz.prog Tryz.f161 plan161 [v0, v1] w K = W161 v0 v1 w K := by kernel_rfl
theorem W161_chk : chkFun Tryz.prog Tryz.f161 plan161 2 = true := by kernel_rfl
theorem W161_ok {v0 v1 : Value} {w : World} {K : Value → World → Prop} (h : W161 v0 v1 w K) : callF Tryz.prog 161 [v0, v1] w K :=
  tie Tryz.prog 161 Tryz.f161 plan161 [v0, v1] w K 2 (W161 v0 v1 w K) rfl mixed Tryz.func161 W161_chk (W161_eq v0 v1 w K) Tryz.call161 h
def plan71 : Plan := { js := [], ds := [(3, ⟨[0, 1, 3, 4, 6, 8], [[], [0], [0, 1], [], [3], [0, 1, 2, 3, 4], [0, 1, 2, 3, 4], [0, 1, 2, 3, 4, 5, 6], [0, 1, 2, 3, 4, 5, 6, 7], [0, 1, 2, 3, 4, 5, 6, 7, 8]]⟩)] }
def W71 (v0 : Value) (w : World) (K : Value → World → Prop) : Prop :=
  boxW 40 v0 w fun t1 w1 =>
  allocW 40 [(.int .i64 0), (.bool false), (.string (ofL [])), (.slice none 0 0), (.slice none 0 0)] w1 fun t2 w2 =>
  fldW 4 t1 fun t3 =>
  ldW false 1 t3 w2.drew fun t4 =>
  fldW 3 t1 fun t6 =>
  ldW false 1 t6 w2.drew fun t7 =>
  callF Tryz.prog 72 [t4] w2.drew fun t5 w3 =>
  (ldW false 1 t6 w3 fun x => x = t7) ∧
  fldW 4 t1 fun t9 =>
  callF Tryz.prog 130 [t7] w3 fun t8 w4 =>
  stW 1 t9 t5 w4 fun w5 =>
  fldW 3 t1 fun t10 =>
  stW 1 t10 t8 w5 fun w6 =>
  ldW true 5 t1 w6 fun t11 =>
  stW 5 t2 t11 w6 fun w7 =>
  ldW true 5 t2 w7 fun r8 =>
  K r8 w7
theorem W71_eq (v0 : Value) (w : World) (K : Value → World → Prop) : funW Tryz.prog Tryz.f71 plan71 [v0] w K = W71 v0 w K := by kernel_rfl
theorem W71_chk : chkFun Tryz.prog Tryz.f71 plan71 1 = true := by kernel_rfl
theorem W71_ok {v0 : Value} {w : World} {K : Value → World → Prop} (h : W71 v0 w K) : callF Tryz.prog 71 [v0] w K :=
  tie Tryz.prog 71 Tryz.f71 plan71 [v0] w K 1 (W71 v0 w K) rfl mixed Tryz.func71 W71_chk (W71_eq v0 w K) Tryz.call71 h
def plan102 : Plan := { js := [], ds := [] }
def W102 (v0 v1 : Value) (w : World) (K : Value → World → Prop) : Prop :=
  callF Tryz.prog 160 [v0, v1] w fun t7 w1 =>
  binW .geq t7 (.int .i64 0) fun t8 =>
  K t8 w1
theorem W102_eq (v0 v1 : Value) (w : World) (K : Value → World → Prop) : funW Tryz.prog Tryz.f102 plan102 [v0, v1] w K = W102 v0 v1 w K := by kernel_rfl
theorem W102_chk : chkFun Tryz.prog Tryz.f102 plan102 2 = true := by kernel_rfl
theorem W102_ok {v0 v1 : Value} {w : World} {K : Value → World → Prop} (h : W102 v0 v1 w K) : callF Tryz.prog 102 [v0, v1] w K :=
  tie Tryz.prog 102 Tryz.f102 plan102 [v0, v1] w K 2 (W102 v0 v1 w K) rfl mixed Tryz.func102 W102_chk (W102_eq v0 v1 w K) Tryz.call102 h
def plan103 : Plan := { js := [], ds := [] }
def W103 (v0 : Value) (w : World) (K : Value → World → Prop) : Prop :=
  boxW 40 v0 w fun t1 w1 =>
  ldW true 5 t1 w1 fun t3 =>
  callF Tryz.prog 48 [t3] w1 fun t4 w2 =>
  unW .not t4 fun t5 =>
  K t5 w2
theorem W103_eq (v0 : Value) (w : World) (K : Value → World → Prop) : funW Tryz.prog Tryz.f103 plan103 [v0] w K = W103 v0 w K := by kernel_rfl
theorem W103_chk : chkFun Tryz.prog Tryz.f103 plan103 1 = true := by kernel_rfl
theorem W103_ok {v0 : Value} {w : World} {K : Value → World → Prop} (h : W103 v0 w K) : callF Tryz.prog 103 [v0] w K :=
  tie Tryz.prog 103 Tryz.f103 plan103 [v0] w K 1 (W103 v0 w K) rfl mixed Tryz.func103 W103_chk (W103_eq v0 w K) Tryz.call103 h
def plan62 : Plan := { js := [(28003, ⟨[36], [], 35⟩), (16, ⟨[28], [2, 5], 28⟩), (6002, ⟨[23], [], 17⟩), (6004, ⟨[22], [], 21⟩), (6008, ⟨[20], [], 17⟩), (6013, ⟨[14], [], 12⟩)], ds := [] }
def W62 (v0 : Value) (w : World) (K : Value → World → Prop) : Prop :=
  callF Tryz.prog 122 [v0, (.string (ofL [45]))] w fun t7 w1 =>
  lensW t7 fun t9 =>
  binW .lss t9 (.int .i64 1) fun t10 =>
  GdW (isB t10 false) [undef] w1 (fun J2 =>
    lensW t7 fun t13 =>
    binW .gtr t13 (.int .i64 100) fun t14 =>
    J2 [t14] w1)
  fun s2 _ w3 =>
  pickW t10 (.bool true) (s2.getD 0 undef) fun t15 =>
  GdW (isB t15 false) [undef] w3 (fun J4 =>
    ixsW t7 (.int .i64 0) fun t18 =>
    binW .eql t18 (.int .u8 48) fun t19 =>
    J4 [t19] w3)
  fun s4 _ w5 =>
  GdW (isB (s4.getD 0 undef) true) [undef] w5 (fun J6 =>
    binW .neq v0 (.string (ofL [48])) fun t22 =>
    J6 [t22] w5)
  fun s6 _ w7 =>
  GdW (isB t15 false) [undef] w7 (fun J8 =>
    pickW (s4.getD 0 undef) (s6.getD 0 undef) (.bool false) fun t23 =>
    J8 [t23] w7)
  fun s8 _ w9 =>
  pickW t15 (.bool true) (s8.getD 0 undef) fun t24 =>
  condW t24 (
    K (.bool false) w9) (
    semE Tryz.prog (convert 9 27 t7) w9 fun t26 w10 =>
    lenlW t26 fun t27 =>
    LoopW [(.int .i64 0)] w10 fun s11 _ w12 L11 =>
      binW .lss (s11.getD 0 undef) t27 fun t29 =>
      condW t29 (
        ixaW none 1 t26 (s11.getD 0 undef) fun t30 =>
        ldW false 1 t30 w12 fun t31 =>
        binW .lss t31 (.int .u8 48) fun t33 =>
        GdW (isB t33 false) [undef] w12 (fun J13 =>
          binW .gtr t31 (.int .u8 57) fun t36 =>
          J13 [t36] w12)
        fun s13 _ w14 =>
        pickW t33 (.bool true) (s13.getD 0 undef) fun t37 =>
        condW t37 (
          K (.bool false) w14) (
          binW .add (s11.getD 0 undef) (.int .i64 1) fun t38 =>
          L11 [t38] w14)) (
        K (.bool true) w12))
theorem W62_eq (v0 : Value) (w : World) (K : Value → World → Prop) : funW Tryz.prog Tryz.f62 plan62 [v0] w K = W62 v0 w K := by kernel_rfl
theorem W62_chk : chkFun Tryz.prog Tryz.f62 plan62 1 = true := by kernel_rfl
theorem W62_ok {v0 : Value} {w : World} {K : Value → World → Prop} (h : W62 v0 w K) : callF Tryz.prog 62 [v0] w K :=
  tie Tryz.prog 62 Tryz.f62 plan62 [v0] w K 1 (W62 v0 w K) rfl mixed Tryz.func62 W62_chk (W62_eq v0 w K) Tryz.call62 h
def plan72 : Plan := { js := [], ds := [] }
def W72 (v0 : Value) (w : World) (K : Value → World → Prop) : Prop :=
  eqW .slice false v0 (.slice none 0 0) fun t4 =>
  condW t4 (
    K (.slice none 0 0) w) (
    bslW 9 0 [] [] w fun t5 w1 =>
    semE Tryz.prog (Builtin.append_ #[38, 38] 38 #[t5, v0]) w1 fun t7 w2 =>
    K t7 w2)
theorem W72_eq (v0 : Value) (w : World) (K : Value → World → Prop) : funW Tryz.prog Tryz.f72 plan72 [v0] w K = W72 v0 w K := by kernel_rfl
theorem W72_chk : chkFun Tryz.prog Tryz.f72 plan72 1 = true := by kernel_rfl
theorem W72_ok {v0 : Value} {w : World} {K : Value → World → Prop} (h : W72 v0 w K) : callF Tryz.prog 72 [v0] w K :=
  tie Tryz.prog 72 Tryz.f72 plan72 [v0] w K 1 (W72 v0 w K) rfl mixed Tryz.func72 W72_chk (W72_eq v0 w K) Tryz.call72 h
def plan130 : Plan := { js := [(8, ⟨[3, 8], [3, 5], 8⟩)], ds := [] }
def W130 (v0 : Value) (w : World) (K : Value → World → Prop) : Prop :=
  lenlW v0 fun t7 =>
  LoopW [(.slice none 0 0), (.int .i64 0)] w fun s1 _ w2 L1 =>
    binW .lss (s1.getD 1 undef) t7 fun t9 =>
    condW t9 (
      ixaW none 5 v0 (s1.getD 1 undef) fun t10 =>
      ldW true 5 t10 w2 fun t11 =>
      allocW 40 [(.int .i64 0), (.bool false), (.string (ofL [])), (.slice none 0 0), (.slice none 0 0)] w2 fun t5 w3 =>
      stW 5 t5 t11 w3 fun w4 =>
      ldW true 5 t5 w4 fun t13 =>
      callF Tryz.prog 71 [t13] w4 fun t14 w5 =>
      bslW 40 1 [(.int .i64 0), (.bool false), (.string (ofL [])), (.slice none 0 0), (.slice none 0 0)] [(0, 5, t14)] w5 fun t15 w6 =>
      semE Tryz.prog (Builtin.append_ #[37, 37] 37 #[(s1.getD 0 undef), t15]) w6 fun t16 w7 =>
      binW .add (s1.getD 1 undef) (.int .i64 1) fun t17 =>
      L1 [t16, t17] w7) (
      K (s1.getD 0 undef) w2)
theorem W130_eq (v0 : Value) (w : World) (K : Value → World → Prop) : funW Tryz.prog Tryz.f130 plan130 [v0] w K = W130 v0 w K := by kernel_rfl
theorem W130_chk : chkFun Tryz.prog Tryz.f130 plan130 1 = true := by kernel_rfl
theorem W130_ok {v0 : Value} {w : World} {K : Value → World → Prop} (h : W130 v0 w K) : callF Tryz.prog 130 [v0] w K :=
  tie Tryz.prog 130 Tryz.f130 plan130 [v0] w K 1 (W130 v0 w K) rfl mixed Tryz.func130 W130_chk (W130_eq v0 w K) Tryz.call130 h
def plan160 : Plan := { js := [(6, ⟨[8], [4, 5], 8⟩)], ds := [] }
def W160 (v0 v1 : Value) (w : World) (K : Value → World → Prop) : Prop :=
  lenlW v0 fun t7 =>
  LoopW [(.int .i64 0)] w fun s1 _ w2 L1 =>
    binW .lss (s1.getD 0 undef) t7 fun t9 =>
    condW t9 (
      ixaW none 5 v0 (s1.getD 0 undef) fun t14 =>
      ldW true 5 t14 w2 fun t15 =>
      callV Tryz.prog v1 [t15] w2 fun t16 w3 =>
      condW t16 (
        K (s1.getD 0 undef) w3) (
        binW .add (s1.getD 0 undef) (.int .i64 1) fun t18 =>
        L1 [t18] w3)) (
      K (.int .i64 (-1)) w2)
theorem W160_eq (v0 v1 : Value) (w : World) (K : Value → World → Prop) : funW Tryz.prog Tryz.f160 plan160 [v0, v1] w K = W160 v0 v1 w K := by kernel_rfl
theorem W160_chk : chkFun Tryz.prog Tryz.f160 plan160 2 = true := by kernel_rfl
theorem W160_ok {v0 v1 : Value} {w : World} {K : Value → World → Prop} (h : W160 v0 v1 w K) : callF Tryz.prog 160 [v0, v1] w K :=
  tie Tryz.prog 160 Tryz.f160 plan160 [v0, v1] w K 2 (W160 v0 v1 w K) rfl mixed Tryz.func160 W160_chk (W160_eq v0 v1 w K) Tryz.call160 h
def plan210 : Plan := { js := [], ds := [] }
def W210 (v0 : Value) (w : World) (K : Value → World → Prop) : Prop :=
  binW .neq v0 v0 fun t5 =>
  K t5 w
theorem W210_eq (v0 : Value) (w : World) (K : Value → World → Prop) : funW Tryz.prog Tryz.f210 plan210 [v0] w K = W210 v0 w K := by kernel_rfl
theorem W210_chk : chkFun Tryz.prog Tryz.f210 plan210 1 = true := by kernel_rfl
theorem W210_ok {v0 : Value} {w : World} {K : Value → World → Prop} (h : W210 v0 w K) : callF Tryz.prog 210 [v0] w K :=
  tie Tryz.prog 210 Tryz.f210 plan210 [v0] w K 1 (W210 v0 w K) rfl mixed Tryz.func210 W210_chk (W210_eq v0 w K) Tryz.call210 h
def plan122 : Plan := { js := [], ds := [] }
def W122 (v0 v1 : Value) (w : World) (K : Value → World → Prop) : Prop :=
  callF Tryz.prog 180 [v0, v1] w fun t7 w1 =>
  K t7 w1
theorem W122_eq (v0 v1 : Value) (w : World) (K : Value → World → Prop) : funW Tryz.prog Tryz.f122 plan122 [v0, v1] w K = W122 v0 v1 w K := by kernel_rfl
theorem W122_chk : chkFun Tryz.prog Tryz.f122 plan122 2 = true := by kernel_rfl
theorem W122_ok {v0 v1 : Value} {w : World} {K : Value → World → Prop} (h : W122 v0 v1 w K) : callF Tryz.prog 122 [v0, v1] w K :=
  tie Tryz.prog 122 Tryz.f122 plan122 [v0, v1] w K 2 (W122 v0 v1 w K) rfl mixed Tryz.func122 W122_chk (W122_eq v0 v1 w K) Tryz.call122 h
def plan180 : Plan := { js := [], ds := [] }
def W180 (v0 v1 : Value) (w : World) (K : Value → World → Prop) : Prop :=
  callF Tryz.prog 168 [v0, v1] w fun t7 w1 =>
  condW t7 (
    lensW v1 fun t10 =>
    slsW v0 (some t10) none fun t11 =>
    K t11 w1) (
    K v0 w1)
theorem W180_eq (v0 v1 : Value) (w : World) (K : Value → World → Prop) : funW Tryz.prog Tryz.f180 plan180 [v0, v1] w K = W180 v0 v1 w K := by kernel_rfl
theorem W180_chk : chkFun Tryz.prog Tryz.f180 plan180 2 = true := by kernel_rfl
theorem W180_ok {v0 v1 : Value} {w : World} {K : Value → World → Prop} (h : W180 v0 v1 w K) : callF Tryz.prog 180 [v0, v1] w K :=
  tie Tryz.prog 180 Tryz.f180 plan180 [v0, v1] w K 2 (W180 v0 v1 w K) rfl mixed Tryz.func180 W180_chk (W180_eq v0 v1 w K) Tryz.call180 h
def plan242 : Plan := { js := [], ds := [] }
def W242 (v0 v1 v2 : Value) (w : World) (K : Value → World → Prop) : Prop :=
  callF Tryz.prog 218 [v0, v1, v2] w fun t14 w1 =>
  extW 0 t14 fun t15 =>
  extW 1 t14 fun t16 =>
  eqQ Tryz.prog .neq 103 false true t16 .nilIface w1 fun t18 =>
  condW t18 (
    callF Tryz.prog 121 [(.string (ofL [80, 97, 114, 115, 101, 85, 105, 110, 116])), v0, v1, v2, t16] w1 fun t24 w2 =>
    K (.tuple #[t15, t24]) w2) (
    K (.tuple #[t15, .nilIface]) w1)
theorem W242_eq (v0 v1 v2 : Value) (w : World) (K : Value → World → Prop) : funW Tryz.prog Tryz.f242 plan242 [v0, v1, v2] w K = W242 v0 v1 v2 w K := by kernel_rfl
theorem W242_chk : chkFun Tryz.prog Tryz.f242 plan242 3 = true := by kernel_rfl
theorem W242_ok {v0 v1 v2 : Value} {w : World} {K : Value → World → Prop} (h : W242 v0 v1 v2 w K) : callF Tryz.prog 242 [v0, v1, v2] w K :=
  tie Tryz.prog 242 Tryz.f242 plan242 [v0, v1, v2] w K 3 (W242 v0 v1 v2 w K) rfl mixed Tryz.func242 W242_chk (W242_eq v0 v1 v2 w K) Tryz.call242 h
def plan209 : Plan := { js := [(3005, ⟨[15], [], 13⟩), (3010, ⟨[10], [], 8⟩)], ds := [] }
def W209 (v0 v1 : Value) (w : World) (K : Value → World → Prop) : Prop :=
  callF Tryz.prog 129 [v0] w fun t6 w1 =>
  GdW (isB t6 true) [undef] w1 (fun J2 =>
    callF Tryz.prog 129 [v1] w1 fun t9 w3 =>
    unW .not t9 fun t10 =>
    J2 [t10] w3)
  fun s2 _ w4 =>
  pickW t6 (s2.getD 0 undef) (.bool false) fun t11 =>
  GdW (isB t11 false) [undef] w4 (fun J5 =>
    binW .lss v0 v1 fun t15 =>
    J5 [t15] w4)
  fun s5 _ w6 =>
  pickW t11 (.bool true) (s5.getD 0 undef) fun t16 =>
  K t16 w6
theorem W209_eq (v0 v1 : Value) (w : World) (K : Value → World → Prop) : funW Tryz.prog Tryz.f209 plan209 [v0, v1] w K = W209 v0 v1 w K := by kernel_rfl
theorem W209_chk : chkFun Tryz.prog Tryz.f209 plan209 2 = true := by kernel_rfl
theorem W209_ok {v0 v1 : Value} {w : World} {K : Value → World → Prop} (h : W209 v0 v1 w K) : callF Tryz.prog 209 [v0, v1] w K :=
  tie Tryz.prog 209 Tryz.f209 plan209 [v0, v1] w K 2 (W209 v0 v1 w K) rfl mixed Tryz.func209 W209_chk (W209_eq v0 v1 w K) Tryz.call209 h
def plan129 : Plan := { js := [], ds := [] }
def W129 (v0 : Value) (w : World) (K : Value → World → Prop) : Prop :=
  binW .neq v0 v0 fun t5 =>
  K t5 w
theorem W129_eq (v0 : Value) (w : World) (K : Value → World → Prop) : funW Tryz.prog Tryz.f129 plan129 [v0] w K = W129 v0 w K := by kernel_rfl
theorem W129_chk : chkFun Tryz.prog Tryz.f129 plan129 1 = true := by kernel_rfl
theorem W129_ok {v0 : Value} {w : World} {K : Value → World → Prop} (h : W129 v0 w K) : callF Tryz.prog 129 [v0] w K :=
  tie Tryz.prog 129 Tryz.f129 plan129 [v0] w K 1 (W129 v0 w K) rfl mixed Tryz.func129 W129_chk (W129_eq v0 w K) Tryz.call129 h
end Go.Proofs.YtnoepcndjljolaaGreatDoor
namespace Go.Proofs
open Go.Shelf
def Tryz.lays170_ren : Go.Shelf.Ren := ⟨fun | 170 => 53 | n => n, fun | 70 => 91 | 3 => 3 | 0 => 0 | 72 => 93 | 37 => 27 | 5 => 5 | n => n, fun | n => n⟩
theorem Tryz.lays170 : Go.Proofs.Lays.n170 Tryz.prog Tryz.lays170_ren := {
  mixed := by kernel_rfl
  f170 := Tryz.func53.trans (congrArg some (by kernel_rfl))
  t0 := Tryz.underlying0
  a0 := Tryz.isAgg0
  z0 := Tryz.sizeOf0
  v0 := Tryz.zeroValue0
  t3 := Tryz.underlying3
  a3 := Tryz.isAgg3
  z3 := Tryz.sizeOf3
  v3 := Tryz.zeroValue3
  t37 := Tryz.underlying27
  a37 := Tryz.isAgg27
  z37 := Tryz.sizeOf27
  v37 := Tryz.zeroValue27
  t70 := Tryz.underlying91
  a70 := Tryz.isAgg91
  z70 := Tryz.sizeOf91
  v70 := Tryz.zeroValue91
  t72 := Tryz.underlying93
  a72 := Tryz.isAgg93
  z72 := Tryz.sizeOf93
  v72 := Tryz.zeroValue93 }
def Tryz.lays169_ren : Go.Shelf.Ren := ⟨fun | 169 => 54 | n => n, fun | 70 => 91 | 9 => 9 | 0 => 0 | 72 => 93 | 37 => 27 | 127 => 148 | 3 => 3 | 5 => 5 | n => n, fun | n => n⟩
theorem Tryz.lays169 : Go.Proofs.Lays.n169 Tryz.prog Tryz.lays169_ren := {
  mixed := by kernel_rfl
  f169 := Tryz.func54.trans (congrArg some (by kernel_rfl))
  t0 := Tryz.underlying0
  a0 := Tryz.isAgg0
  z0 := Tryz.sizeOf0
  v0 := Tryz.zeroValue0
  t3 := Tryz.underlying3
  a3 := Tryz.isAgg3
  z3 := Tryz.sizeOf3
  v3 := Tryz.zeroValue3
  t9 := Tryz.underlying9
  a9 := Tryz.isAgg9
  z9 := Tryz.sizeOf9
  v9 := Tryz.zeroValue9
  t37 := Tryz.underlying27
  a37 := Tryz.isAgg27
  z37 := Tryz.sizeOf27
  v37 := Tryz.zeroValue27
  t70 := Tryz.underlying91
  a70 := Tryz.isAgg91
  z70 := Tryz.sizeOf91
  v70 := Tryz.zeroValue91
  t72 := Tryz.underlying93
  a72 := Tryz.isAgg93
  z72 := Tryz.sizeOf93
  v72 := Tryz.zeroValue93
  t127 := Tryz.underlying148
  a127 := Tryz.isAgg148
  z127 := Tryz.sizeOf148
  v127 := Tryz.zeroValue148 }
theorem Tryz.Builder_Extra_169 : Builder.Extra Tryz.prog Tryz.lays169_ren := {
  sizeBuilder := by kernel_rfl
  liesBuilder := by kernel_rfl
  t5 := Tryz.underlying5
  a5 := Tryz.isAgg5
  z5 := Tryz.sizeOf5
  v5 := Tryz.zeroValue5
  infoByte := by kernel_rfl
  cellsByte := by kernel_rfl
  sizeByte := by kernel_rfl
  neB5 := by decide }
def Tryz.lays137_ren : Go.Shelf.Ren := ⟨fun | 137 => 76 | 217 => 133 | 266 => 185 | n => n, fun | 9 => 9 | 5 => 5 | 3 => 3 | n => n, fun | n => n⟩
theorem Tryz.lays137 : Go.Proofs.Lays.n137 Tryz.prog Tryz.lays137_ren := {
  mixed := by kernel_rfl
  f137 := Tryz.func76.trans (congrArg some (by kernel_rfl))
  f217 := Tryz.func133.trans (congrArg some (by kernel_rfl))
  f266 := Tryz.func185.trans (congrArg some (by kernel_rfl))
  t3 := Tryz.underlying3
  a3 := Tryz.isAgg3
  z3 := Tryz.sizeOf3
  v3 := Tryz.zeroValue3
  t5 := Tryz.underlying5
  a5 := Tryz.isAgg5
  z5 := Tryz.sizeOf5
  v5 := Tryz.zeroValue5
  t9 := Tryz.underlying9
  a9 := Tryz.isAgg9
  z9 := Tryz.sizeOf9
  v9 := Tryz.zeroValue9 }
open Go.RowKit in
theorem Tryz.strings_IndexByte (s : ByteArray) (c : Int) (w : World) :
    Calls Tryz.prog 76 #[.string s, .int .u8 c] w fun e w' => e = .returned (.int .i64 (Lib.indexByte s.data.toList c.toNat.toUInt8)) ∧ w' = w := Any.strings_IndexByte Tryz.lays137 s c w
def Tryz.lays121_ren : Go.Shelf.Ren := ⟨fun | 121 => 110 | 214 => 164 | n => n, fun | 4 => 4 | 9 => 9 | n => n, fun | n => n⟩
theorem Tryz.lays121 : Go.Proofs.Lays.n121 Tryz.prog Tryz.lays121_ren := {
  mixed := by kernel_rfl
  f121 := Tryz.func110.trans (congrArg some (by kernel_rfl))
  f214 := Tryz.func164.trans (congrArg some (by kernel_rfl))
  t4 := Tryz.underlying4
  a4 := Tryz.isAgg4
  z4 := Tryz.sizeOf4
  v4 := Tryz.zeroValue4
  t9 := Tryz.underlying9
  a9 := Tryz.isAgg9
  z9 := Tryz.sizeOf9
  v9 := Tryz.zeroValue9 }
open Go.RowKit in
theorem Tryz.strconv_FormatBool (b : Bool) (w : World) :
    Calls Tryz.prog 110 #[.bool b] w fun e w' => e = .returned (.string ⟨(Lib.formatBool b).toArray⟩) ∧ w' = w := Any.strconv_FormatBool Tryz.lays121 b w
open Go.RowKit in
theorem Tryz.Builder_Len_f (B b : Nat) (bs : List Value) (w : World) (h : Lib.IsBuilderF 93 5 B b bs w) :
    Calls Tryz.prog 53 #[.pointer (some ⟨b, 0, none⟩)] w fun e w' => e = .returned (.int .i64 bs.length) ∧ w' = w := Any.Builder_Len_f Tryz.lays170 B b bs w h
open Go.RowKit in
theorem Tryz.Builder_String_any_k (B b : Nat) (l : List UInt8) (w : World) (h : Lib.IsBuilderF 93 5 B b (Lib.byteCells l) w) (hBw : B ≤ w.heap.size) :
    Calls Tryz.prog 54 #[.pointer (some ⟨b, 0, none⟩)] w fun e w' => e = .returned (.string ⟨l.toArray⟩) ∧ (Lib.IsBuilderF 93 5 B b (Lib.byteCells l) w' ∧ Below B w w' ∧ Lib.OthersKept 5 (some b) w w') := Any.Builder_String_any_k Tryz.lays169 Tryz.Builder_Extra_169 B b l w h hBw
def Tryz.lays244_ren : Go.Shelf.Ren := ⟨fun | 244 => 120 | 247 => 175 | 287 => 218 | 321 => 243 | 322 => 244 | n => n, fun | 9 => 9 | 3 => 3 | 75 => 103 | 4 => 4 | 5 => 5 | 167 => 201 | 37 => 27 | 0 => 0 | 85 => 202 | 2 => 2 | 53 => 173 | 175 => 229 | 46 => 31 | 21 => 21 | 80 => 96 | n => n, fun | n => n⟩
theorem Tryz.lays244 : Go.Proofs.Lays.n244 Tryz.prog Tryz.lays244_ren := {
  mixed := by kernel_rfl
  f244 := Tryz.func120.trans (congrArg some (by kernel_rfl))
  f247 := Tryz.func175.trans (congrArg some (by kernel_rfl))
  f287 := Tryz.func218.trans (congrArg some (by kernel_rfl))
  f321 := Tryz.func243.trans (congrArg some (by kernel_rfl))
  f322 := Tryz.func244.trans (congrArg some (by kernel_rfl))
  t0 := Tryz.underlying0
  a0 := Tryz.isAgg0
  z0 := Tryz.sizeOf0
  v0 := Tryz.zeroValue0
  t2 := Tryz.underlying2
  a2 := Tryz.isAgg2
  z2 := Tryz.sizeOf2
  v2 := Tryz.zeroValue2
  t3 := Tryz.underlying3
  a3 := Tryz.isAgg3
  z3 := Tryz.sizeOf3
  v3 := Tryz.zeroValue3
  t4 := Tryz.underlying4
  a4 := Tryz.isAgg4
  z4 := Tryz.sizeOf4
  v4 := Tryz.zeroValue4
  t5 := Tryz.underlying5
  a5 := Tryz.isAgg5
  z5 := Tryz.sizeOf5
  v5 := Tryz.zeroValue5
  t9 := Tryz.underlying9
  a9 := Tryz.isAgg9
  z9 := Tryz.sizeOf9
  v9 := Tryz.zeroValue9
  t21 := Tryz.underlying21
  a21 := Tryz.isAgg21
  z21 := Tryz.sizeOf21
  v21 := Tryz.zeroValue21
  t37 := Tryz.underlying27
  a37 := Tryz.isAgg27
  z37 := Tryz.sizeOf27
  v37 := Tryz.zeroValue27
  t46 := Tryz.underlying31
  a46 := Tryz.isAgg31
  z46 := Tryz.sizeOf31
  v46 := Tryz.zeroValue31
  t53 := Tryz.underlying173
  a53 := Tryz.isAgg173
  z53 := Tryz.sizeOf173
  v53 := Tryz.zeroValue173
  t75 := Tryz.underlying103
  a75 := Tryz.isAgg103
  z75 := Tryz.sizeOf103
  v75 := Tryz.zeroValue103
  t85 := Tryz.underlying202
  a85 := Tryz.isAgg202
  z85 := Tryz.sizeOf202
  v85 := Tryz.zeroValue202
  t167 := Tryz.underlying201
  a167 := Tryz.isAgg201
  z167 := Tryz.sizeOf201
  v167 := Tryz.zeroValue201
  t175 := Tryz.underlying229
  a175 := Tryz.isAgg229
  z175 := Tryz.sizeOf229
  v175 := Tryz.zeroValue229 }
open Go.RowKit in
theorem Tryz.internal_strconv_Atoi (s : ByteArray) (n : Int) (hl : s.size ≤ 18) (h : Lib.atoi s.data.toList = some n) (w : World) :
    Calls Tryz.prog 120 #[.string s] w fun e w' => e = .returned (.tuple #[.int .i64 n, .nilIface]) ∧ ∃ t, w' = Lib.bytesWorld w 5 t := Any.internal_strconv_Atoi Tryz.lays244 s n hl h w
def Tryz.laysM171_ren : Go.Shelf.Ren := ⟨fun | 171 => 90 | 243 => 149 | 246 => 196 | 283 => 227 | 284 => 228 | 285 => 229 | 286 => 230 | 129 => 145 | 317 => 246 | 318 => 247 | 319 => 248 | 320 => 249 | 337 => 258 | 338 => 259 | n => n, fun | 3 => 3 | 9 => 9 | 2 => 2 | 4 => 4 | 171 => 238 | 0 => 0 | 53 => 173 | 37 => 27 | 5 => 5 | 173 => 240 | 212 => 250 | 51 => 171 | 20 => 20 | 213 => 251 | 46 => 31 | 232 => 260 | 233 => 261 | n => n, fun | 17 => 5 | 18 => 6 | 19 => 7 | n => n⟩
theorem Tryz.laysM171 : Go.Proofs.LaysM.n171 Tryz.prog Tryz.laysM171_ren := {
  mixed := by kernel_rfl
  f129 := Tryz.func145.trans (congrArg some (by kernel_rfl))
  f171 := Tryz.func90.trans (congrArg some (by kernel_rfl))
  f243 := Tryz.func149.trans (congrArg some (by kernel_rfl))
  f246 := Tryz.func196.trans (congrArg some (by kernel_rfl))
  f283 := Tryz.func227.trans (congrArg some (by kernel_rfl))
  f284 := Tryz.func228.trans (congrArg some (by kernel_rfl))
  f285 := Tryz.func229.trans (congrArg some (by kernel_rfl))
  f286 := Tryz.func230.trans (congrArg some (by kernel_rfl))
  f317 := Tryz.func246.trans (congrArg some (by kernel_rfl))
  f318 := Tryz.func247.trans (congrArg some (by kernel_rfl))
  f319 := Tryz.func248.trans (congrArg some (by kernel_rfl))
  f320 := Tryz.func249.trans (congrArg some (by kernel_rfl))
  f337 := Tryz.func258.trans (congrArg some (by kernel_rfl))
  f338 := Tryz.func259.trans (congrArg some (by kernel_rfl))
  t0 := Tryz.underlying0
  a0 := Tryz.isAgg0
  z0 := Tryz.sizeOf0
  v0 := Tryz.zeroValue0
  t2 := Tryz.underlying2
  a2 := Tryz.isAgg2
  z2 := Tryz.sizeOf2
  v2 := Tryz.zeroValue2
  t3 := Tryz.underlying3
  a3 := Tryz.isAgg3
  z3 := Tryz.sizeOf3
  v3 := Tryz.zeroValue3
  t4 := Tryz.underlying4
  a4 := Tryz.isAgg4
  z4 := Tryz.sizeOf4
  v4 := Tryz.zeroValue4
  t5 := Tryz.underlying5
  a5 := Tryz.isAgg5
  z5 := Tryz.sizeOf5
  v5 := Tryz.zeroValue5
  t9 := Tryz.underlying9
  a9 := Tryz.isAgg9
  z9 := Tryz.sizeOf9
  v9 := Tryz.zeroValue9
  t20 := Tryz.underlying20
  a20 := Tryz.isAgg20
  z20 := Tryz.sizeOf20
  v20 := Tryz.zeroValue20
  t37 := Tryz.underlying27
  a37 := Tryz.isAgg27
  z37 := Tryz.sizeOf27
  v37 := Tryz.zeroValue27
  t46 := Tryz.underlying31
  a46 := Tryz.isAgg31
  z46 := Tryz.sizeOf31
  v46 := Tryz.zeroValue31
  t51 := Tryz.underlying171
  a51 := Tryz.isAgg171
  z51 := Tryz.sizeOf171
  v51 := Tryz.zeroValue171
  t53 := Tryz.underlying173
  a53 := Tryz.isAgg173
  z53 := Tryz.sizeOf173
  v53 := Tryz.zeroValue173
  t171 := Tryz.underlying238
  a171 := Tryz.isAgg238
  z171 := Tryz.sizeOf238
  v171 := Tryz.zeroValue238
  t173 := Tryz.underlying240
  a173 := Tryz.isAgg240
  z173 := Tryz.sizeOf240
  v173 := Tryz.zeroValue240
  t212 := Tryz.underlying250
  a212 := Tryz.isAgg250
  z212 := Tryz.sizeOf250
  v212 := Tryz.zeroValue250
  t213 := Tryz.underlying251
  a213 := Tryz.isAgg251
  z213 := Tryz.sizeOf251
  t232 := Tryz.underlying260
  a232 := Tryz.isAgg260
  z232 := Tryz.sizeOf260
  v232 := Tryz.zeroValue260
  t233 := Tryz.underlying261
  a233 := Tryz.isAgg261
  z233 := Tryz.sizeOf261
  v233 := Tryz.zeroValue261
  g17 := by kernel_rfl
  g18 := by kernel_rfl
  g19 := by kernel_rfl
  i0 := by kernel_rfl
  i2 := by kernel_rfl
  i3 := by kernel_rfl
  i4 := by kernel_rfl
  i5 := by kernel_rfl
  i9 := by kernel_rfl
  i20 := by kernel_rfl
  i37 := by kernel_rfl
  i46 := by kernel_rfl
  i51 := by kernel_rfl
  i53 := by kernel_rfl
  i171 := by kernel_rfl
  i173 := by kernel_rfl
  i212 := by kernel_rfl
  i232 := by kernel_rfl
  i233 := by kernel_rfl
  m17 := by kernel_rfl
  m18 := by kernel_rfl
  m19 := by kernel_rfl }
open Go.RowKit Go.Sort Go.Lib in
theorem Tryz.strconv_Itoa (n : Int) (h0 : -9223372036854775808 ≤ n) (h1 : n ≤ 9223372036854775807) (w : World) (htab : Lib.TabIs Tryz.prog w "internal/strconv.uint64pow10" .u64 Lib.pow10Tab) :
    Calls Tryz.prog 90 #[.int .i64 n] w fun e w' => e = .returned (.string ⟨(Lib.itoa n).toArray⟩) ∧ ∃ k os, w' = grow (w.drewN k) os := Any.strconv_Itoa Tryz.laysM171 n h0 h1 w htab
open Go.RowKit in
theorem Tryz.internal_strconv_Atoi_fail (s : ByteArray) (hl : s.size ≤ 18) (h : Lib.atoi s.data.toList = none) (w : World) :
    Calls Tryz.prog 120 #[.string s] w fun e w' => e = .returned (.tuple #[.int .i64 0, (.iface 201 (.int .i64 2))]) ∧ (w' = w ∨ ∃ t, w' = Lib.bytesWorld w 5 t) := Any.internal_strconv_Atoi_fail Tryz.lays244 s hl h w
def Tryz.laysM316_ren : Go.Shelf.Ren := ⟨fun | 316 => 219 | n => n, fun | 9 => 9 | 3 => 3 | 4 => 4 | 37 => 27 | 0 => 0 | 127 => 148 | 5 => 5 | n => n, fun | n => n⟩
theorem Tryz.laysM316 : Go.Proofs.LaysM.n316 Tryz.prog Tryz.laysM316_ren := {
  mixed := by kernel_rfl
  f316 := Tryz.func219.trans (congrArg some (by kernel_rfl))
  t0 := Tryz.underlying0
  a0 := Tryz.isAgg0
  z0 := Tryz.sizeOf0
  v0 := Tryz.zeroValue0
  t3 := Tryz.underlying3
  a3 := Tryz.isAgg3
  z3 := Tryz.sizeOf3
  v3 := Tryz.zeroValue3
  t4 := Tryz.underlying4
  a4 := Tryz.isAgg4
  z4 := Tryz.sizeOf4
  v4 := Tryz.zeroValue4
  t9 := Tryz.underlying9
  a9 := Tryz.isAgg9
  z9 := Tryz.sizeOf9
  v9 := Tryz.zeroValue9
  t37 := Tryz.underlying27
  a37 := Tryz.isAgg27
  z37 := Tryz.sizeOf27
  v37 := Tryz.zeroValue27
  t127 := Tryz.underlying148
  a127 := Tryz.isAgg148
  z127 := Tryz.sizeOf148
  v127 := Tryz.zeroValue148
  t5 := Tryz.underlying5
  a5 := Tryz.isAgg5
  z5 := Tryz.sizeOf5
  v5 := Tryz.zeroValue5
  i0 := by kernel_rfl
  i3 := by kernel_rfl
  i4 := by kernel_rfl
  i5 := by kernel_rfl
  i9 := by kernel_rfl
  i37 := by kernel_rfl
  i127 := by kernel_rfl }
open Go.RowKit in
theorem Tryz.stringslite_Clone (s : ByteArray) (w : World) (hlim : s.size ≤ 281474976710656) :
    Calls Tryz.prog 219 #[.string s] w fun e w' => e = .returned (.string s) ∧ Below w.heap.size w w' := Any.stringslite_Clone Tryz.laysM316 s w hlim
def Tryz.laysC245_ren : Go.Shelf.Ren := ⟨fun | 245 => 121 | 279 => 176 | 280 => 177 | 281 => 178 | 282 => 179 | 316 => 219 | 171 => 90 | 205 => 220 | 243 => 149 | 246 => 196 | 283 => 227 | 284 => 228 | 285 => 229 | 286 => 230 | 129 => 145 | 317 => 246 | 318 => 247 | 319 => 248 | 320 => 249 | 337 => 258 | 338 => 259 | n => n, fun | 9 => 9 | 3 => 3 | 75 => 103 | 167 => 201 | 4 => 4 | 168 => 204 | 210 => 232 | 37 => 27 | 0 => 0 | 127 => 148 | 145 => 247 | 143 => 245 | 2 => 2 | 171 => 238 | 53 => 173 | 5 => 5 | 173 => 240 | 212 => 250 | 51 => 171 | 20 => 20 | 213 => 251 | 46 => 31 | 232 => 260 | 233 => 261 | 80 => 96 | n => n, fun | 15 => 2 | 16 => 3 | 17 => 5 | 18 => 6 | 19 => 7 | n => n⟩
theorem Tryz.laysC245 : Go.Proofs.LaysC.n245 Tryz.prog Tryz.laysC245_ren := {
  mixed := by kernel_rfl
  f129 := Tryz.func145.trans (congrArg some (by kernel_rfl))
  f171 := Tryz.func90.trans (congrArg some (by kernel_rfl))
  f205 := Tryz.func220.trans (congrArg some (by kernel_rfl))
  f243 := Tryz.func149.trans (congrArg some (by kernel_rfl))
  f245 := Tryz.func121.trans (congrArg some (by kernel_rfl))
  f246 := Tryz.func196.trans (congrArg some (by kernel_rfl))
  f279 := Tryz.func176.trans (congrArg some (by kernel_rfl))
  f280 := Tryz.func177.trans (congrArg some (by kernel_rfl))
  f281 := Tryz.func178.trans (congrArg some (by kernel_rfl))
  f282 := Tryz.func179.trans (congrArg some (by kernel_rfl))
  f283 := Tryz.func227.trans (congrArg some (by kernel_rfl))
  f284 := Tryz.func228.trans (congrArg some (by kernel_rfl))
  f285 := Tryz.func229.trans (congrArg some (by kernel_rfl))
  f286 := Tryz.func230.trans (congrArg some (by kernel_rfl))
  f316 := Tryz.func219.trans (congrArg some (by kernel_rfl))
  f317 := Tryz.func246.trans (congrArg some (by kernel_rfl))
  f318 := Tryz.func247.trans (congrArg some (by kernel_rfl))
  f319 := Tryz.func248.trans (congrArg some (by kernel_rfl))
  f320 := Tryz.func249.trans (congrArg some (by kernel_rfl))
  f337 := Tryz.func258.trans (congrArg some (by kernel_rfl))
  f338 := Tryz.func259.trans (congrArg some (by kernel_rfl))
  t0 := Tryz.underlying0
  a0 := Tryz.isAgg0
  z0 := Tryz.sizeOf0
  v0 := Tryz.zeroValue0
  t2 := Tryz.underlying2
  a2 := Tryz.isAgg2
  z2 := Tryz.sizeOf2
  v2 := Tryz.zeroValue2
  t3 := Tryz.underlying3
  a3 := Tryz.isAgg3
  z3 := Tryz.sizeOf3
  v3 := Tryz.zeroValue3
  t4 := Tryz.underlying4
  a4 := Tryz.isAgg4
  z4 := Tryz.sizeOf4
  v4 := Tryz.zeroValue4
  t5 := Tryz.underlying5
  a5 := Tryz.isAgg5
  z5 := Tryz.sizeOf5
  v5 := Tryz.zeroValue5
  t9 := Tryz.underlying9
  a9 := Tryz.isAgg9
  z9 := Tryz.sizeOf9
  v9 := Tryz.zeroValue9
  t20 := Tryz.underlying20
  a20 := Tryz.isAgg20
  z20 := Tryz.sizeOf20
  v20 := Tryz.zeroValue20
  t37 := Tryz.underlying27
  a37 := Tryz.isAgg27
  z37 := Tryz.sizeOf27
  v37 := Tryz.zeroValue27
  t46 := Tryz.underlying31
  a46 := Tryz.isAgg31
  z46 := Tryz.sizeOf31
  v46 := Tryz.zeroValue31
  t51 := Tryz.underlying171
  a51 := Tryz.isAgg171
  z51 := Tryz.sizeOf171
  v51 := Tryz.zeroValue171
  t53 := Tryz.underlying173
  a53 := Tryz.isAgg173
  z53 := Tryz.sizeOf173
  v53 := Tryz.zeroValue173
  t75 := Tryz.underlying103
  a75 := Tryz.isAgg103
  z75 := Tryz.sizeOf103
  v75 := Tryz.zeroValue103
  t127 := Tryz.underlying148
  a127 := Tryz.isAgg148
  z127 := Tryz.sizeOf148
  v127 := Tryz.zeroValue148
  t143 := Tryz.underlying245
  a143 := Tryz.isAgg245
  z143 := Tryz.sizeOf245
  v143 := Tryz.zeroValue245
  t145 := Tryz.underlying247
  a145 := Tryz.isAgg247
  z145 := Tryz.sizeOf247
  v145 := Tryz.zeroValue247
  t167 := Tryz.underlying201
  a167 := Tryz.isAgg201
  z167 := Tryz.sizeOf201
  v167 := Tryz.zeroValue201
  t168 := Tryz.underlying204
  a168 := Tryz.isAgg204
  z168 := Tryz.sizeOf204
  v168 := Tryz.zeroValue204
  t171 := Tryz.underlying238
  a171 := Tryz.isAgg238
  z171 := Tryz.sizeOf238
  v171 := Tryz.zeroValue238
  t173 := Tryz.underlying240
  a173 := Tryz.isAgg240
  z173 := Tryz.sizeOf240
  v173 := Tryz.zeroValue240
  t210 := Tryz.underlying232
  a210 := Tryz.isAgg232
  z210 := Tryz.sizeOf232
  v210 := Tryz.zeroValue232
  t212 := Tryz.underlying250
  a212 := Tryz.isAgg250
  z212 := Tryz.sizeOf250
  v212 := Tryz.zeroValue250
  t213 := Tryz.underlying251
  a213 := Tryz.isAgg251
  z213 := Tryz.sizeOf251
  t232 := Tryz.underlying260
  a232 := Tryz.isAgg260
  z232 := Tryz.sizeOf260
  v232 := Tryz.zeroValue260
  t233 := Tryz.underlying261
  a233 := Tryz.isAgg261
  z233 := Tryz.sizeOf261
  v233 := Tryz.zeroValue261
  g15 := by kernel_rfl
  g16 := by kernel_rfl
  g17 := by kernel_rfl
  g18 := by kernel_rfl
  g19 := by kernel_rfl
  t80 := Tryz.underlying96
  a80 := Tryz.isAgg96
  z80 := Tryz.sizeOf96
  v80 := Tryz.zeroValue96
  i0 := by kernel_rfl
  i2 := by kernel_rfl
  i3 := by kernel_rfl
  i4 := by kernel_rfl
  i5 := by kernel_rfl
  i9 := by kernel_rfl
  i20 := by kernel_rfl
  i37 := by kernel_rfl
  i46 := by kernel_rfl
  i51 := by kernel_rfl
  i53 := by kernel_rfl
  i75 := by kernel_rfl
  i80 := by kernel_rfl
  i127 := by kernel_rfl
  i143 := by kernel_rfl
  i145 := by kernel_rfl
  i167 := by kernel_rfl
  i168 := by kernel_rfl
  i171 := by kernel_rfl
  i173 := by kernel_rfl
  i210 := by kernel_rfl
  i212 := by kernel_rfl
  i232 := by kernel_rfl
  i233 := by kernel_rfl
  m15 := by kernel_rfl
  m16 := by kernel_rfl
  m17 := by kernel_rfl
  m18 := by kernel_rfl
  m19 := by kernel_rfl
  c0 := by kernel_rfl
  c2 := by kernel_rfl
  c3 := by kernel_rfl
  c4 := by kernel_rfl
  c5 := by kernel_rfl
  c9 := by kernel_rfl
  c20 := by kernel_rfl
  c37 := by kernel_rfl
  c46 := by kernel_rfl
  c51 := by kernel_rfl
  c53 := by kernel_rfl
  c75 := by kernel_rfl
  c80 := by kernel_rfl
  c127 := by kernel_rfl
  c143 := by kernel_rfl
  c145 := by kernel_rfl
  c167 := by kernel_rfl
  c168 := by kernel_rfl
  c171 := by kernel_rfl
  c173 := by kernel_rfl
  c210 := by kernel_rfl
  c212 := by kernel_rfl
  c213 := by kernel_rfl
  c232 := by kernel_rfl
  c233 := by kernel_rfl }
open Go.RowKit in
theorem Tryz.strconv_toError_syntax (fn s : ByteArray) (base bits : Int) (ev : Value) (w : World) (hlim : s.size ≤ 281474976710656) (hv : w.cell? ⟨2, 0, none⟩ = some ev) (hev : ev = .nilIface ∨ ∃ te pe, ev = .iface te pe) :
    Calls Tryz.prog 121 #[.string fn, .string s, .int .i64 base, .int .i64 bits, .iface 201 (.int .i64 2)] w fun e w' => ∃ N, e = .returned (.iface 204 (.pointer (some ⟨N, 0, none⟩))) ∧ w.heap.size ≤ N ∧ w'.heap[N]? = some (.cells #[.string fn, .string s, ev] 232 (0, 0)) ∧ Below w.heap.size w w' := Any.strconv_toError_syntax Tryz.laysC245 fn s base bits ev w hlim hv hev
def Tryz.laysC247_ren : Go.Shelf.Ren := ⟨fun | 247 => 175 | 287 => 218 | 321 => 243 | 322 => 244 | n => n, fun | 9 => 9 | 3 => 3 | 2 => 2 | 75 => 103 | 4 => 4 | 167 => 201 | 5 => 5 | 53 => 173 | 175 => 229 | 46 => 31 | 37 => 27 | 0 => 0 | 21 => 21 | 80 => 96 | n => n, fun | n => n⟩
theorem Tryz.laysC247 : Go.Proofs.LaysC.n247 Tryz.prog Tryz.laysC247_ren := {
  mixed := by kernel_rfl
  f247 := Tryz.func175.trans (congrArg some (by kernel_rfl))
  f287 := Tryz.func218.trans (congrArg some (by kernel_rfl))
  f321 := Tryz.func243.trans (congrArg some (by kernel_rfl))
  f322 := Tryz.func244.trans (congrArg some (by kernel_rfl))
  t0 := Tryz.underlying0
  a0 := Tryz.isAgg0
  z0 := Tryz.sizeOf0
  v0 := Tryz.zeroValue0
  t2 := Tryz.underlying2
  a2 := Tryz.isAgg2
  z2 := Tryz.sizeOf2
  v2 := Tryz.zeroValue2
  t3 := Tryz.underlying3
  a3 := Tryz.isAgg3
  z3 := Tryz.sizeOf3
  v3 := Tryz.zeroValue3
  t4 := Tryz.underlying4
  a4 := Tryz.isAgg4
  z4 := Tryz.sizeOf4
  v4 := Tryz.zeroValue4
  t5 := Tryz.underlying5
  a5 := Tryz.isAgg5
  z5 := Tryz.sizeOf5
  v5 := Tryz.zeroValue5
  t9 := Tryz.underlying9
  a9 := Tryz.isAgg9
  z9 := Tryz.sizeOf9
  v9 := Tryz.zeroValue9
  t21 := Tryz.underlying21
  a21 := Tryz.isAgg21
  z21 := Tryz.sizeOf21
  v21 := Tryz.zeroValue21
  t37 := Tryz.underlying27
  a37 := Tryz.isAgg27
  z37 := Tryz.sizeOf27
  v37 := Tryz.zeroValue27
  t46 := Tryz.underlying31
  a46 := Tryz.isAgg31
  z46 := Tryz.sizeOf31
  v46 := Tryz.zeroValue31
  t53 := Tryz.underlying173
  a53 := Tryz.isAgg173
  z53 := Tryz.sizeOf173
  v53 := Tryz.zeroValue173
  t75 := Tryz.underlying103
  a75 := Tryz.isAgg103
  z75 := Tryz.sizeOf103
  v75 := Tryz.zeroValue103
  t167 := Tryz.underlying201
  a167 := Tryz.isAgg201
  z167 := Tryz.sizeOf201
  v167 := Tryz.zeroValue201
  t175 := Tryz.underlying229
  a175 := Tryz.isAgg229
  z175 := Tryz.sizeOf229
  v175 := Tryz.zeroValue229
  t80 := Tryz.underlying96
  a80 := Tryz.isAgg96
  z80 := Tryz.sizeOf96
  v80 := Tryz.zeroValue96
  i0 := by kernel_rfl
  i2 := by kernel_rfl
  i3 := by kernel_rfl
  i4 := by kernel_rfl
  i5 := by kernel_rfl
  i9 := by kernel_rfl
  i21 := by kernel_rfl
  i37 := by kernel_rfl
  i46 := by kernel_rfl
  i53 := by kernel_rfl
  i75 := by kernel_rfl
  i80 := by kernel_rfl
  i167 := by kernel_rfl
  i175 := by kernel_rfl
  c0 := by kernel_rfl
  c2 := by kernel_rfl
  c3 := by kernel_rfl
  c4 := by kernel_rfl
  c5 := by kernel_rfl
  c9 := by kernel_rfl
  c21 := by kernel_rfl
  c37 := by kernel_rfl
  c46 := by kernel_rfl
  c53 := by kernel_rfl
  c75 := by kernel_rfl
  c80 := by kernel_rfl
  c167 := by kernel_rfl
  c175 := by kernel_rfl }
open Go.RowKit in
theorem Tryz.internal_strconv_ParseInt_10 (s : ByteArray) (hne : s.size ≠ 0) (hmax : s.size ≤ 9223372036854775806) (w : World) :
    Calls Tryz.prog 175 #[.string s, .int .i64 10, .int .i64 0] w fun e w' => e = .returned (Lib.intTuple 201 (Lib.atoiSat s.data.toList) (Lib.atoiAll s.data.toList)) ∧ (w' = w ∨ ∃ t, w' = Lib.bytesWorld w 5 t) := Any.internal_strconv_ParseInt_10 Tryz.laysC247 s hne hmax w
open Go.RowKit in
theorem Tryz.strconv_toError_range (fn s : ByteArray) (base bits : Int) (ev : Value) (w : World) (hlim : s.size ≤ 281474976710656) (hv : w.cell? ⟨3, 0, none⟩ = some ev) (hev : ev = .nilIface ∨ ∃ te pe, ev = .iface te pe) :
    Calls Tryz.prog 121 #[.string fn, .string s, .int .i64 base, .int .i64 bits, .iface 201 (.int .i64 1)] w fun e w' => ∃ N, e = .returned (.iface 204 (.pointer (some ⟨N, 0, none⟩))) ∧ w.heap.size ≤ N ∧ w'.heap[N]? = some (.cells #[.string fn, .string s, ev] 232 (0, 0)) ∧ Below w.heap.size w w' := Any.strconv_toError_range Tryz.laysC245 fn s base bits ev w hlim hv hev
def Tryz.lays206_ren : Go.Shelf.Ren := ⟨fun | 206 => 168 | n => n, fun | 9 => 9 | 4 => 4 | 3 => 3 | n => n, fun | n => n⟩
theorem Tryz.lays206 : Go.Proofs.Lays.n206 Tryz.prog Tryz.lays206_ren := {
  mixed := by kernel_rfl
  f206 := Tryz.func168.trans (congrArg some (by kernel_rfl))
  t3 := Tryz.underlying3
  a3 := Tryz.isAgg3
  z3 := Tryz.sizeOf3
  v3 := Tryz.zeroValue3
  t4 := Tryz.underlying4
  a4 := Tryz.isAgg4
  z4 := Tryz.sizeOf4
  v4 := Tryz.zeroValue4
  t9 := Tryz.underlying9
  a9 := Tryz.isAgg9
  z9 := Tryz.sizeOf9
  v9 := Tryz.zeroValue9 }
open Go.RowKit Go.Lib in
theorem Tryz.stringslite_HasPrefix (s p : ByteArray) (w : World) :
    Calls Tryz.prog 168 #[.string s, .string p] w fun e w' => e = .returned (.bool (Lib.hasPrefix s.data.toList p.data.toList)) ∧ w' = w := Any.stringslite_HasPrefix Tryz.lays206 s p w
def Tryz.lays99_ren : Go.Shelf.Ren := ⟨fun | 99 => 113 | 206 => 168 | n => n, fun | 9 => 9 | 4 => 4 | 3 => 3 | n => n, fun | n => n⟩
theorem Tryz.lays99 : Go.Proofs.Lays.n99 Tryz.prog Tryz.lays99_ren := {
  mixed := by kernel_rfl
  f99 := Tryz.func113.trans (congrArg some (by kernel_rfl))
  f206 := Tryz.func168.trans (congrArg some (by kernel_rfl))
  t3 := Tryz.underlying3
  a3 := Tryz.isAgg3
  z3 := Tryz.sizeOf3
  v3 := Tryz.zeroValue3
  t4 := Tryz.underlying4
  a4 := Tryz.isAgg4
  z4 := Tryz.sizeOf4
  v4 := Tryz.zeroValue4
  t9 := Tryz.underlying9
  a9 := Tryz.isAgg9
  z9 := Tryz.sizeOf9
  v9 := Tryz.zeroValue9 }
open Go.RowKit Go.Lib in
theorem Tryz.strings_HasPrefix (s p : ByteArray) (w : World) :
    Calls Tryz.prog 113 #[.string s, .string p] w fun e w' => e = .returned (.bool (Lib.hasPrefix s.data.toList p.data.toList)) ∧ w' = w := Any.strings_HasPrefix Tryz.lays99 s p w
def Tryz.lays197_ren : Go.Shelf.Ren := ⟨fun | 197 => 171 | 260 => 216 | n => n, fun | 9 => 9 | 21 => 21 | 3 => 3 | 4 => 4 | 5 => 5 | 105 => 197 | 119 => 185 | 0 => 0 | 46 => 31 | 139 => 188 | 138 => 187 | n => n, fun | 3 => 0 | 4 => 1 | n => n⟩
theorem Tryz.lays197 : Go.Proofs.Lays.n197 Tryz.prog Tryz.lays197_ren := {
  mixed := by kernel_rfl
  f197 := Tryz.func171.trans (congrArg some (by kernel_rfl))
  f260 := Tryz.func216.trans (congrArg some (by kernel_rfl))
  t0 := Tryz.underlying0
  a0 := Tryz.isAgg0
  z0 := Tryz.sizeOf0
  v0 := Tryz.zeroValue0
  t3 := Tryz.underlying3
  a3 := Tryz.isAgg3
  z3 := Tryz.sizeOf3
  v3 := Tryz.zeroValue3
  t4 := Tryz.underlying4
  a4 := Tryz.isAgg4
  z4 := Tryz.sizeOf4
  v4 := Tryz.zeroValue4
  t5 := Tryz.underlying5
  a5 := Tryz.isAgg5
  z5 := Tryz.sizeOf5
  v5 := Tryz.zeroValue5
  t9 := Tryz.underlying9
  a9 := Tryz.isAgg9
  z9 := Tryz.sizeOf9
  v9 := Tryz.zeroValue9
  t21 := Tryz.underlying21
  a21 := Tryz.isAgg21
  z21 := Tryz.sizeOf21
  v21 := Tryz.zeroValue21
  t46 := Tryz.underlying31
  a46 := Tryz.isAgg31
  z46 := Tryz.sizeOf31
  v46 := Tryz.zeroValue31
  t105 := Tryz.underlying197
  a105 := Tryz.isAgg197
  z105 := Tryz.sizeOf197
  v105 := Tryz.zeroValue197
  t119 := Tryz.underlying185
  a119 := Tryz.isAgg185
  z119 := Tryz.sizeOf185
  t138 := Tryz.underlying187
  a138 := Tryz.isAgg187
  z138 := Tryz.sizeOf187
  v138 := Tryz.zeroValue187
  t139 := Tryz.underlying188
  a139 := Tryz.isAgg188
  z139 := Tryz.sizeOf188
  v139 := Tryz.zeroValue188
  g3 := by kernel_rfl
  g4 := by kernel_rfl }
open Go.RowKit Go.Lib in
theorem Tryz.utf8_DecodeRuneInString (s : ByteArray) (w : World) (hT : Lib.Utf8Tabs 0 1 w) :
    Calls Tryz.prog 171 #[.string s] w fun e w' => e = .returned (.tuple #[.int .i32 (Lib.decodeGo s).1, .int .i64 (Lib.decodeGo s).2]) ∧ Below w.heap.size w w' := Any.utf8_DecodeRuneInString Tryz.lays197 s w hT
def Tryz.laysValid_ren : Go.Shelf.Ren := ⟨fun | 196 => 100 | 259 => 158 | n => n, fun | 9 => 9 | 4 => 4 | 3 => 3 | 5 => 5 | 12 => 12 | 119 => 185 | 0 => 0 | 46 => 31 | 139 => 188 | 138 => 187 | 53 => 173 | n => n, fun | 3 => 0 | 4 => 1 | n => n⟩
theorem Tryz.laysValid : Go.Proofs.Lays.n196 Tryz.prog Tryz.laysValid_ren := {
  mixed := by kernel_rfl
  f196 := Tryz.func100.trans (congrArg some (by kernel_rfl))
  f259 := Tryz.func158.trans (congrArg some (by kernel_rfl))
  t0 := Tryz.underlying0
  a0 := Tryz.isAgg0
  z0 := Tryz.sizeOf0
  v0 := Tryz.zeroValue0
  t3 := Tryz.underlying3
  a3 := Tryz.isAgg3
  z3 := Tryz.sizeOf3
  v3 := Tryz.zeroValue3
  t4 := Tryz.underlying4
  a4 := Tryz.isAgg4
  z4 := Tryz.sizeOf4
  v4 := Tryz.zeroValue4
  t5 := Tryz.underlying5
  a5 := Tryz.isAgg5
  z5 := Tryz.sizeOf5
  v5 := Tryz.zeroValue5
  t9 := Tryz.underlying9
  a9 := Tryz.isAgg9
  z9 := Tryz.sizeOf9
  v9 := Tryz.zeroValue9
  t12 := Tryz.underlying12
  a12 := Tryz.isAgg12
  z12 := Tryz.sizeOf12
  v12 := Tryz.zeroValue12
  t46 := Tryz.underlying31
  a46 := Tryz.isAgg31
  z46 := Tryz.sizeOf31
  v46 := Tryz.zeroValue31
  t53 := Tryz.underlying173
  a53 := Tryz.isAgg173
  z53 := Tryz.sizeOf173
  v53 := Tryz.zeroValue173
  t119 := Tryz.underlying185
  a119 := Tryz.isAgg185
  z119 := Tryz.sizeOf185
  t138 := Tryz.underlying187
  a138 := Tryz.isAgg187
  z138 := Tryz.sizeOf187
  v138 := Tryz.zeroValue187
  t139 := Tryz.underlying188
  a139 := Tryz.isAgg188
  z139 := Tryz.sizeOf188
  v139 := Tryz.zeroValue188
  g3 := by kernel_rfl
  g4 := by kernel_rfl }
open Go.RowKit Go.Lib in
theorem Tryz.utf8_ValidString (s : ByteArray) (w : World) (hs : s.size ≤ 9223372036854775807) (hT : Lib.Utf8Tabs (Tryz.laysValid_ren.g 3) (Tryz.laysValid_ren.g 4) w) :
    Calls Tryz.prog 100 #[.string s] w fun e w' => e = .returned (.bool (Lib.validD s.data.toList)) ∧ Below w.heap.size w w' := Any.utf8_ValidString Tryz.laysValid s w hs hT
end Go.Proofs
namespace Go.Proofs.YtnoepcndjljolaaGreatDoor
open Go Go.Eng Go.Num
set_option maxRecDepth 100000
abbrev u64 (n : Nat) : Value := .int .u64 (n : Int)
abbrev U8 : TypeId := 5
theorem bytes_ext (w : World) (e : TypeId) (s : ByteArray) : Ext w (Lib.bytesWorld w e s) :=
  ⟨rfl, rfl, rfl, by rw [Lib.bytesWorld_size]; omega, fun k hk _ => Lib.bytesWorld_at_old w e s k hk⟩
theorem to_bytes {l : Str} {w : World} {src dst : TypeId} {K : Value → World → Prop} (hs : Tryz.prog.underlying src = some .string) (hd : Tryz.prog.underlying dst = some (.slice U8)) (he : Tryz.prog.underlying U8 = some (.int .u8))
    (hK : ∀ v w', Byt w' U8 v l → Ext w w' → K v w') : semE Tryz.prog (convert src dst (str l)) w K := by
  unfold semE
  rw [Lib.run_convert_string_bytes w src dst U8 (ofL l) hs hd he]
  refine hK _ _ ?_ (bytes_ext _ _ _)
  have hle : (ofL l).size ≤ grownCap w (ofL l).size 0 U8 := by
    exact grownCap_ge w (ofL l).size 0 U8
  refine ⟨some ⟨w.heap.size, 0, none⟩, grownCap w (ofL l).size 0 U8, by rw [ofL_size], by rw [← ofL_size]; exact hle, (fun e => by cases e), fun _ => ⟨w.heap.size, 0, _, _, rfl, Lib.bytesWorld_at_new w U8 (ofL l), fun i hi => ?_⟩⟩
  have hi : i < (ofL l).size := by rw [ofL_size]; simpa [u8s_length] using hi
  have := Lib.bytesWorld_cell w U8 (ofL l) i hi
  rw [cell_eq, Lib.bytesWorld_at_new, cellO_some] at this
  rw [Nat.zero_add, this, u8s_get, ofL_data]
  have hi' : i < l.length := by rw [ofL_size] at hi; exact hi
  simp [List.getD_eq_getElem?_getD, List.getElem?_eq_getElem hi']
theorem of_calls [HX] {g : FuncId} {args : Array Value} {w : World} {K : Value → World → Prop} (hr : ∀ (ar : Array Value) (w : World), (callFunc g ar).run Tryz.prog w = .ok (.enter g ar) w)
    (h : Calls Tryz.prog g args w fun e w' => ∃ v, e = .returned v ∧ K v w') : callF Tryz.prog g args.toList w K := by
  unfold callF
  rw [show args.toList.toArray = args from by simp, hr]
  refine h.mono ?_
  rintro e w' ⟨v, rfl, hk⟩
  exact hk
section
variable [HX]
theorem nan_s (s : Str) (KK : Value → Prop) (h : KK (.bool false)) : binW .neq (str s) (str s) KK := by rw [bin_sne]; simpa using h
theorem isnan_s {s : Str} {w : World} {K : Value → World → Prop} (hK : K (.bool false) w) : callF Tryz.prog 129 [str s] w K := by
  refine W129_ok ?_
  exact nan_s s _ hK
theorem isnan_s2 {s : Str} {w : World} {K : Value → World → Prop} (hK : K (.bool false) w) : callF Tryz.prog 210 [str s] w K := by
  refine W210_ok ?_
  exact nan_s s _ hK
theorem cmp_less {a b : Str} {w : World} {K : Value → World → Prop} (hK : K (.bool (Op.bytesLess a b)) w) : callF Tryz.prog 209 [str a, str b] w K := by
  refine W209_ok ?_
  unfold W209
  refine isnan_s ?_
  simp only [wsv, wsg, wsh, wsl, cond_true, cond_false, exists_eq_left', Option.some.injEq, Option.isSome_some, List.getElem?_toArray, List.getElem?_cons_zero, List.getElem?_cons_succ, List.length_cons, List.length_nil, List.set_cons_zero, List.set_cons_succ, List.getD_cons_zero, List.getD_cons_succ, Nat.zero_add, Nat.add_zero, Nat.reduceAdd, Nat.reduceLT, Nat.lt_add_one, Nat.zero_lt_succ, decide_true, decide_false, ne_eq, reduceCtorEq]
  intros
  exact hK
theorem pre_ref {s p : Str} {w : World} {K : Value → World → Prop} (hs : s.length ≤ 9223372036854775807) (hK : K (.bool (p.isPrefixOf s)) w) : callF Tryz.prog 168 [str s, str p] w K := by
  refine of_calls (args := #[str s, str p]) Tryz.call168 ((Tryz.stringslite_HasPrefix (ofL s) (ofL p) w).mono ?_)
  rintro e w' ⟨rfl, rfl⟩
  refine ⟨_, rfl, ?_⟩
  rw [ofL_data, ofL_data]
  exact hK
theorem trimpre_ref {a : Str} {w : World} {K : Value → World → Prop} (hs : a.length ≤ 9223372036854775807) (hK : K (str (dig a)) w) : callF Tryz.prog 122 [str a, str [45]] w K := by
  refine W122_ok ?_
  unfold W122
  refine W180_ok ?_
  unfold W180
  refine pre_ref hs ?_
  cases a with
  | nil =>
    rw [show ([45] : Str).isPrefixOf [] = false from rfl]
    simp only [wsv, wsg, wsh, wsl, cond_true, cond_false, exists_eq_left', Option.some.injEq, Option.isSome_some, List.getElem?_toArray, List.getElem?_cons_zero, List.getElem?_cons_succ, List.length_cons, List.length_nil, List.set_cons_zero, List.set_cons_succ, List.getD_cons_zero, List.getD_cons_succ, Nat.zero_add, Nat.add_zero, Nat.reduceAdd, Nat.reduceLT, Nat.lt_add_one, Nat.zero_lt_succ, decide_true, decide_false, ne_eq, reduceCtorEq]
    exact hK
  | cons c r =>
    by_cases hc : c = 45
    · subst hc
      have e : ([45] : Str).isPrefixOf (45 :: r) = true := by simp [List.isPrefixOf]
      have ed : dig (45 :: r) = r := by simp [dig]
      rw [ed] at hK
      rw [e]
      have e1 : ((0 + 1 : Nat) : Int).toNat = 1 := rfl
      simp only [wsv, wsg, wsh, wsl, cond_true, cond_false, exists_eq_left', Option.some.injEq, Option.isSome_some, List.getElem?_toArray, List.getElem?_cons_zero, List.getElem?_cons_succ, List.length_cons, List.length_nil, List.set_cons_zero, List.set_cons_succ, List.getD_cons_zero, List.getD_cons_succ, Nat.zero_add, Nat.add_zero, Nat.reduceAdd, Nat.reduceLT, Nat.lt_add_one, Nat.zero_lt_succ, decide_true, decide_false, ne_eq, reduceCtorEq, e1]
      refine ⟨by omega, by omega, ?_⟩
      rw [← List.length_cons (a := (45 : UInt8)), List.take_length]
      exact hK
    · have e : ([45] : Str).isPrefixOf (c :: r) = false := by simp [List.isPrefixOf, Ne.symm hc]
      have ed : dig (c :: r) = c :: r := by simp [dig, hc]
      rw [ed] at hK
      rw [e]
      simp only [wsv, wsg, wsh, wsl, cond_true, cond_false, exists_eq_left', Option.some.injEq, Option.isSome_some, List.getElem?_toArray, List.getElem?_cons_zero, List.getElem?_cons_succ, List.length_cons, List.length_nil, List.set_cons_zero, List.set_cons_succ, List.getD_cons_zero, List.getD_cons_succ, Nat.zero_add, Nat.add_zero, Nat.reduceAdd, Nat.reduceLT, Nat.lt_add_one, Nat.zero_lt_succ, decide_true, decide_false, ne_eq, reduceCtorEq]
      exact hK
theorem numgood_ref {a : Str} {w : World} {K : Value → World → Prop} (ha : a.length ≤ 9223372036854775807) (hK : ∀ w', Ext w w' → K (.bool (goodN a)) w') : callF Tryz.prog 62 [str a] w K := by
  refine W62_ok ?_
  unfold W62
  refine trimpre_ref ha ?_
  have hg : goodN a = (!decide ((dig a).length < 1) && !decide (100 < (dig a).length) && !((dig a).head? == some 48 && !decide (a = [48])) && (dig a).all Num.isDig) := by
    unfold goodN
    have e1 : decide (1 ≤ (dig a).length) = !decide ((dig a).length < 1) := by rw [← decide_not]; exact decide_eq_decide.2 (by omega)
    have e2 : decide ((dig a).length ≤ 100) = !decide (100 < (dig a).length) := by rw [← decide_not]; exact decide_eq_decide.2 (by omega)
    rw [e1, e2]
    cases ((dig a).head? == some 48) <;> cases decide (a = [48]) <;> simp
  rw [hg] at hK
  have hdl : (dig a).length ≤ a.length := by
    cases a with
    | nil => simp [dig]
    | cons c r => simp only [dig]; split <;> simp
  cases hd : dig a with
  | nil =>
    rw [hd] at hK
    have hz : decide (((0 : Nat) : Int) < 1) = true := by decide
    simp only [wsv, wsg, wsh, wsl, cond_true, cond_false, exists_eq_left', Option.some.injEq, Option.isSome_some, List.getElem?_toArray, List.getElem?_cons_zero, List.getElem?_cons_succ, List.length_cons, List.length_nil, List.set_cons_zero, List.set_cons_succ, List.getD_cons_zero, List.getD_cons_succ, Nat.zero_add, Nat.add_zero, Nat.reduceAdd, Nat.reduceLT, Nat.lt_add_one, Nat.zero_lt_succ, decide_true, decide_false, ne_eq, reduceCtorEq, hz]
    intros
    exact hK _ (Chg.refl _ _)
  | cons c r =>
    rw [hd] at hK hdl
    have hz : decide (((r.length + 1 : Nat) : Int) < 1) = false := decide_eq_false (by omega)
    simp only [wsv, wsg, wsh, wsl, cond_true, cond_false, exists_eq_left', Option.some.injEq, Option.isSome_some, List.getElem?_toArray, List.getElem?_cons_zero, List.getElem?_cons_succ, List.length_cons, List.length_nil, List.set_cons_zero, List.set_cons_succ, List.getD_cons_zero, List.getD_cons_succ, Nat.zero_add, Nat.add_zero, Nat.reduceAdd, Nat.reduceLT, Nat.lt_add_one, Nat.zero_lt_succ, decide_true, decide_false, ne_eq, reduceCtorEq, Int.le_refl, Int.toNat_zero, u8_is c 48 48 rfl, hz]
    intros
    rw [condW_b]
    have e1 : decide ((100 : Int) < ((r.length + 1 : Nat) : Int)) = decide (100 < (c :: r).length) := decide_eq_decide.2 (by simp only [List.length_cons]; omega)
    have e4 : decide ((c :: r).length < 1) = false := decide_eq_false (by simp)
    have e5 : ((c :: r).head? == some 48) = (c == 48) := by simp
    rw [e1]
    rw [e4, e5] at hK
    simp only [decide_not]
    generalize decide (100 < (c :: r).length) = b1 at *
    generalize ((c == 48) && !decide (a = [48])) = b2 at *
    refine ⟨fun h => ?_, fun h => ?_⟩
    · have := hK _ (Chg.refl _ _)
      have e : (!false && !b1 && !b2 && (c :: r).all Num.isDig) = false := by
        cases b1 <;> cases b2 <;> simp at h ⊢
      rw [e] at this
      exact this
    · have hb : b1 = false ∧ b2 = false := by simpa using h
      rw [hb.1, hb.2] at hK
      refine to_bytes (l := c :: r) (by kernel_rfl) (by kernel_rfl) (by kernel_rfl) fun v w1 hv hx1 => ?_
      rw [lenl_at hv]
      generalize c :: r = D at *
      refine loop_up D.length (fun i w2 => Ext w1 w2 ∧ (D.take i).all Num.isDig = true) ⟨Chg.refl _ _, rfl⟩ ?_ ?_
      · rintro i w2 g L hi ⟨hx2, hall⟩ hL
        obtain ⟨e, he⟩ : ∃ e, D[i]? = some e := ⟨_, List.getElem?_eq_getElem hi⟩
        have hlt : ((i : Int) < ((D.length : Nat) : Int)) := by omega
        simp only [wsv, wsg, wsh, wsl, cond_true, cond_false, exists_eq_left', Option.some.injEq, Option.isSome_some, List.getElem?_toArray, List.getElem?_cons_zero, List.getElem?_cons_succ, List.length_cons, List.length_nil, List.set_cons_zero, List.set_cons_succ, List.getD_cons_zero, List.getD_cons_succ, Nat.zero_add, Nat.add_zero, Nat.reduceAdd, Nat.reduceLT, Nat.lt_add_one, Nat.zero_lt_succ, decide_true, decide_false, ne_eq, reduceCtorEq, hlt]
        refine ixa_ld (hv.ext hx2) (by rw [u8s_length]) (by rw [u8s_get, he]; rfl) ?_
        simp only [wsv, wsg, wsh, wsl, cond_true, cond_false, exists_eq_left', Option.some.injEq, Option.isSome_some, List.getElem?_toArray, List.getElem?_cons_zero, List.getElem?_cons_succ, List.length_cons, List.length_nil, List.set_cons_zero, List.set_cons_succ, List.getD_cons_zero, List.getD_cons_succ, Nat.zero_add, Nat.add_zero, Nat.reduceAdd, Nat.reduceLT, Nat.lt_add_one, Nat.zero_lt_succ, decide_true, decide_false, ne_eq, reduceCtorEq, isDig_out]
        intros
        rw [condW_b]
        refine ⟨fun hf => ?_, fun ht => ?_⟩
        · have hf : Num.isDig e = false := by simpa using hf
          have := hK _ (hx1.trans hx2)
          rw [all_no he hf] at this
          exact this
        · have ht : Num.isDig e = true := by simpa using ht
          rw [up1 (by omega)]
          exact hL _ ⟨hx2, by rw [all_take he, hall, ht]; rfl⟩
      · rintro w2 g L ⟨hx2, hall⟩
        simp only [wsv, wsg, wsh, wsl, cond_true, cond_false, exists_eq_left', Option.some.injEq, Option.isSome_some, List.getElem?_toArray, List.getElem?_cons_zero, List.getElem?_cons_succ, List.length_cons, List.length_nil, List.set_cons_zero, List.set_cons_succ, List.getD_cons_zero, List.getD_cons_succ, Nat.zero_add, Nat.add_zero, Nat.reduceAdd, Nat.reduceLT, Nat.lt_add_one, Nat.zero_lt_succ, decide_true, decide_false, ne_eq, reduceCtorEq, Int.lt_irrefl]
        rw [List.take_length] at hall
        have := hK w2 (hx1.trans hx2)
        rw [hall] at this
        exact this
end
end Go.Proofs.YtnoepcndjljolaaGreatDoor
namespace Go.Proofs.YtnoepcndjljolaaGreatDoor
open Go Go.Eng Go.Num
set_option maxRecDepth 100000
abbrev U64 : TypeId := 173
def BRep (w : World) (x : Big) (cs : List Value) : Prop := ∃ sv T, cs = [.bool x.below, sv] ∧ SlAt w T sv x.l.length (x.l.map u64) ∧ x.l.length ≤ 1000 ∧ Lim x.l
theorem BRep.ext {w w' : World} {x : Big} {cs : List Value} (h : BRep w x cs) (hx : Ext w w') : BRep w' x cs := by
  obtain ⟨sv, T, rfl, h1, h2, h3⟩ := h; exact ⟨sv, T, rfl, h1.ext hx, h2, h3⟩
theorem BRep.one {w : World} {x : Big} {cs : List Value} (h : BRep w x cs) : cs.all one1 = true := by
  obtain ⟨sv, T, rfl, h1, _⟩ := h
  obtain ⟨p, c, rfl, _⟩ := h1.shape; rfl
theorem BRep.len {w : World} {x : Big} {cs : List Value} (h : BRep w x cs) : cs.length = 2 := by obtain ⟨sv, T, rfl, _⟩ := h; rfl
theorem BRep.keep {w w' : World} {b : Nat} {x : Big} {cs : List Value} {p : Bool} {q : Value} {T0 : TypeId} (h : BRep w x cs) (hb : w.heap[b]? = some (.cells [.bool p, q].toArray T0 (0, 0))) (hq : ∀ n, q ≠ u64 n) (hc : Chg (fun k => k = b) w w') : BRep w' x cs := by
  obtain ⟨sv, T, rfl, ⟨p', cap, hv, h1, h2, h3⟩, h4, h5⟩ := h
  refine ⟨sv, T, rfl, ⟨p', cap, hv, h1, h2, fun hne => ?_⟩, h4, h5⟩
  obtain ⟨k, off, c, fr, hp, hk, hcs⟩ := h3 hne
  have hkb : k ≠ b := by
    rintro rfl
    rw [hb] at hk
    cases hk
    obtain ⟨n, r, e⟩ : ∃ n r, x.l = n :: r := by
      cases hx : x.l with
      | nil => rw [hx] at hne; simp at hne
      | cons n r => exact ⟨n, r, rfl⟩
    have := hcs 0 (by rw [e]; simp)
    rw [e] at this
    simp only [Nat.add_zero, List.map_cons, List.getElem?_cons_zero, List.getElem?_toArray] at this
    rcases off with _ | _ | off
    · simp at this
    · simp only [Nat.zero_add, List.getElem?_cons_succ, List.getElem?_cons_zero, Option.some.injEq] at this; exact hq n this
    · simp at this
  exact ⟨k, off, c, fr, hp, hc.at hk hkb, hcs⟩
theorem u64_wrap {n : Int} (h1 : 0 ≤ n) (h2 : n < 18446744073709551616) : IntKind.u64.wrap n = n := by
  simp only [IntKind.wrap, IntKind.signed, IntKind.bits, IntKind.max, IntKind.min]
  simp
  omega
section
variable [HX]
end
end Go.Proofs.YtnoepcndjljolaaGreatDoor

namespace Go.Proofs.YtnoepcndjljolaaGreatDoor
open Go Go.Eng Go.Num
set_option maxRecDepth 100000
section
variable [HX]
theorem callV_fn {P : Program} {g : FuncId} {args : List Value} {w : World} {K : Value → World → Prop} (h : callF P g args w K) : callV P (.func (.func g) #[] #[]) args w K := by
  unfold callV semN
  unfold callF at h
  have : (do let d ← (Deferred.ofValue (.func (.func g) #[] #[]) args.toArray); invoke d.target d.args : Sem Next) = callFunc g args.toArray := by
    show callFunc g (#[] ++ args.toArray ++ #[]) = _
    simp
  rw [this]
  exact h
structure ItemsAt (w : World) (sv : Value) (xs : List JV) : Prop where
  it : ∃ T L, SlAt w T sv xs.length L ∧ VReps w xs L
  few : xs.length ≤ 9223372036854775807
theorem ItemsAt.ext {w w' : World} {sv : Value} {xs : List JV} (h : ItemsAt w sv xs) (hx : Ext w w') : ItemsAt w' sv xs := ⟨let ⟨T, L, h1, h2⟩ := h.it; ⟨T, L, h1.ext hx, h2.ext hx⟩, h.few⟩
theorem ValB.itemsAt {w : World} {a : Nat} {v : JV} {sv kv : Value} (h : ValB w a v sv kv) : ItemsAt w sv v.xs := ⟨h.items, h.fits.1⟩
theorem ItemsAt.len {w : World} {sv : Value} {xs : List JV} (h : ItemsAt w sv xs) (K : Value → Prop) : lenlW sv K ↔ K (i64 xs.length) := by obtain ⟨T, L, h1, _⟩ := h.it; exact lenl_at h1 K
theorem ItemsAt.at {w : World} {sv : Value} {xs : List JV} {k : IntKind} {i : Nat} {x : JV} {K : Value → Prop} (h : ItemsAt w sv xs) (hi : xs[i]? = some x) (hK : ∀ cs, VRep w x cs → K (.agg cs.toArray)) : ixaW none 5 sv (.int k i) fun p => ldW true 5 p w K := by
  obtain ⟨T, L, h1, h2⟩ := h.it; exact item_ld h1 h2 hi hK
def findI {α : Type} (p : α → Bool) (xs : List α) : Int := match xs.findIdx? p with | some i => i | none => -1
theorem findI_ge {α : Type} (p : α → Bool) (xs : List α) : decide ((0 : Int) ≤ findI p xs) = xs.any p := by
  unfold findI
  cases h : xs.findIdx? p with
  | none =>
    have := List.findIdx?_eq_none_iff.1 h
    have : xs.any p = false := List.any_eq_false.2 fun x hx => by simp [this x hx]
    rw [this]; decide
  | some i =>
    obtain ⟨hi, hp, _⟩ := List.findIdx?_eq_some_iff_getElem.1 h
    rw [List.any_eq_true.2 ⟨_, List.getElem_mem hi, hp⟩]
    exact decide_eq_true (by simp)
theorem findIdx_hit {α : Type} {p : α → Bool} {xs : List α} {i : Nat} {x : α} (h : (xs.take i).any p = false) (hi : xs[i]? = some x) (hx : p x = true) : xs.findIdx? p = some i := by
  obtain ⟨hl, e⟩ := List.getElem?_eq_some_iff.1 hi
  rw [List.findIdx?_eq_some_iff_getElem]
  refine ⟨hl, by rw [e]; exact hx, fun j hj => ?_⟩
  have := List.any_eq_false.1 h xs[j] (List.mem_of_getElem? (i := j) (by rw [List.getElem?_take, if_pos hj]; exact List.getElem?_eq_getElem _))
  simpa using this
theorem index_v {sv f : Value} {xs : List JV} {p : JV → Bool} {w : World} {K : Value → World → Prop} (h : ItemsAt w sv xs)
    (hf : ∀ x ∈ xs, ∀ {cs : List Value} {w : World} {K : Value → World → Prop}, VRep w x cs → (∀ w', Ext w w' → K (.bool (p x)) w') → callV Tryz.prog f [.agg cs.toArray] w K)
    (hK : ∀ w', Ext w w' → K (i64 (findI p xs)) w') : callF Tryz.prog 160 [sv, f] w K := by
  refine W160_ok ?_
  unfold W160
  rw [h.len]
  refine loop_up xs.length (fun i w' => Ext w w' ∧ (xs.take i).any p = false) ⟨Chg.refl _ _, by simp⟩ ?_ ?_
  · rintro i w2 g L hi ⟨hx2, hno⟩ hL
    obtain ⟨x, hxi⟩ : ∃ x, xs[i]? = some x := ⟨_, List.getElem?_eq_getElem hi⟩
    have hlt : ((i : Int) < (xs.length : Int)) := by omega
    simp only [wsv, wsg, wsh, wsl, cond_true, cond_false, exists_eq_left', Option.some.injEq, Option.isSome_some, List.getElem?_toArray, List.getElem?_cons_zero, List.getElem?_cons_succ, List.length_cons, List.length_nil, List.set_cons_zero, List.set_cons_succ, List.getD_cons_zero, List.getD_cons_succ, Nat.zero_add, Nat.add_zero, Nat.reduceAdd, Nat.reduceLT, Nat.lt_add_one, Nat.zero_lt_succ, decide_true, decide_false, ne_eq, reduceCtorEq, hlt]
    refine (h.ext hx2).at hxi fun cs hcs => ?_
    refine hf x (List.mem_of_getElem? hxi) hcs fun w3 hx3 => ?_
    rw [condW_b]
    refine ⟨fun ht => ?_, fun hn => ?_⟩
    · have := hK w3 (hx2.trans hx3)
      unfold findI at this
      rw [findIdx_hit hno hxi ht] at this
      exact this
    · have := h.few
      rw [up1 (by omega)]
      exact hL w3 ⟨hx2.trans hx3, by rw [any_take hxi, hno, hn]; rfl⟩
  · rintro w2 g L ⟨hx2, hno⟩
    simp only [wsv, wsg, wsh, wsl, cond_true, cond_false, exists_eq_left', Option.some.injEq, Option.isSome_some, List.getElem?_toArray, List.getElem?_cons_zero, List.getElem?_cons_succ, List.length_cons, List.length_nil, List.set_cons_zero, List.set_cons_succ, List.getD_cons_zero, List.getD_cons_succ, Nat.zero_add, Nat.add_zero, Nat.reduceAdd, Nat.reduceLT, Nat.lt_add_one, Nat.zero_lt_succ, decide_true, decide_false, ne_eq, reduceCtorEq, Int.lt_irrefl]
    rw [List.take_length] at hno
    have := hK w2 hx2
    unfold findI at this
    rw [List.findIdx?_eq_none_iff.2 fun x hx => by simpa using List.any_eq_false.1 hno x hx] at this
    exact this
theorem contains_v {sv f : Value} {xs : List JV} {p : JV → Bool} {w : World} {K : Value → World → Prop} (h : ItemsAt w sv xs)
    (hf : ∀ x ∈ xs, ∀ {cs : List Value} {w : World} {K : Value → World → Prop}, VRep w x cs → (∀ w', Ext w w' → K (.bool (p x)) w') → callV Tryz.prog f [.agg cs.toArray] w K)
    (hK : ∀ w', Ext w w' → K (.bool (xs.any p)) w') : callF Tryz.prog 102 [sv, f] w K := by
  refine W102_ok ?_
  unfold W102
  refine index_v h hf fun w1 hx1 => ?_
  simp only [wsv, wsg, wsh, wsl, cond_true, cond_false, exists_eq_left', Option.some.injEq, Option.isSome_some, List.getElem?_toArray, List.getElem?_cons_zero, List.getElem?_cons_succ, List.length_cons, List.length_nil, List.set_cons_zero, List.set_cons_succ, List.getD_cons_zero, List.getD_cons_succ, Nat.zero_add, Nat.add_zero, Nat.reduceAdd, Nat.reduceLT, Nat.lt_add_one, Nat.zero_lt_succ, decide_true, decide_false, ne_eq, reduceCtorEq, findI_ge]
  exact hK w1 hx1
theorem index_x {sv f : Value} {xs : List JV} {p : JV → Bool} {w : World} {K : Value → World → Prop} (h : ItemsAt w sv xs)
    (hf : ∀ x ∈ xs, ∀ {cs : List Value} {w1 : World} {K : Value → World → Prop}, Ext w w1 → VRep w1 x cs → (∀ w', Ext w1 w' → K (.bool (p x)) w') → callV Tryz.prog f [.agg cs.toArray] w1 K)
    (hK : ∀ w', Ext w w' → K (i64 (findI p xs)) w') : callF Tryz.prog 160 [sv, f] w K := by
  refine W160_ok ?_
  unfold W160
  rw [h.len]
  refine loop_up xs.length (fun i w' => Ext w w' ∧ (xs.take i).any p = false) ⟨Chg.refl _ _, by simp⟩ ?_ ?_
  · rintro i w2 g L hi ⟨hx2, hno⟩ hL
    obtain ⟨x, hxi⟩ : ∃ x, xs[i]? = some x := ⟨_, List.getElem?_eq_getElem hi⟩
    have hlt : ((i : Int) < (xs.length : Int)) := by omega
    simp only [wsv, wsg, wsh, wsl, cond_true, cond_false, exists_eq_left', Option.some.injEq, Option.isSome_some, List.getElem?_toArray, List.getElem?_cons_zero, List.getElem?_cons_succ, List.length_cons, List.length_nil, List.set_cons_zero, List.set_cons_succ, List.getD_cons_zero, List.getD_cons_succ, Nat.zero_add, Nat.add_zero, Nat.reduceAdd, Nat.reduceLT, Nat.lt_add_one, Nat.zero_lt_succ, decide_true, decide_false, ne_eq, reduceCtorEq, hlt]
    refine (h.ext hx2).at hxi fun cs hcs => ?_
    refine hf x (List.mem_of_getElem? hxi) hx2 hcs fun w3 hx3 => ?_
    rw [condW_b]
    refine ⟨fun ht => ?_, fun hn => ?_⟩
    · have := hK w3 (hx2.trans hx3)
      unfold findI at this
      rw [findIdx_hit hno hxi ht] at this
      exact this
    · have := h.few
      rw [up1 (by omega)]
      exact hL w3 ⟨hx2.trans hx3, by rw [any_take hxi, hno, hn]; rfl⟩
  · rintro w2 g L ⟨hx2, hno⟩
    simp only [wsv, wsg, wsh, wsl, cond_true, cond_false, exists_eq_left', Option.some.injEq, Option.isSome_some, List.getElem?_toArray, List.getElem?_cons_zero, List.getElem?_cons_succ, List.length_cons, List.length_nil, List.set_cons_zero, List.set_cons_succ, List.getD_cons_zero, List.getD_cons_succ, Nat.zero_add, Nat.add_zero, Nat.reduceAdd, Nat.reduceLT, Nat.lt_add_one, Nat.zero_lt_succ, decide_true, decide_false, ne_eq, reduceCtorEq, Int.lt_irrefl]
    rw [List.take_length] at hno
    have := hK w2 hx2
    unfold findI at this
    rw [List.findIdx?_eq_none_iff.2 fun x hx => by simpa using List.any_eq_false.1 hno x hx] at this
    exact this
theorem contains_x {sv f : Value} {xs : List JV} {p : JV → Bool} {w : World} {K : Value → World → Prop} (h : ItemsAt w sv xs)
    (hf : ∀ x ∈ xs, ∀ {cs : List Value} {w1 : World} {K : Value → World → Prop}, Ext w w1 → VRep w1 x cs → (∀ w', Ext w1 w' → K (.bool (p x)) w') → callV Tryz.prog f [.agg cs.toArray] w1 K)
    (hK : ∀ w', Ext w w' → K (.bool (xs.any p)) w') : callF Tryz.prog 102 [sv, f] w K := by
  refine W102_ok ?_
  unfold W102
  refine index_x h hf fun w1 hx1 => ?_
  simp only [wsv, wsg, wsh, wsl, cond_true, cond_false, exists_eq_left', Option.some.injEq, Option.isSome_some, List.getElem?_toArray, List.getElem?_cons_zero, List.getElem?_cons_succ, List.length_cons, List.length_nil, List.set_cons_zero, List.set_cons_succ, List.getD_cons_zero, List.getD_cons_succ, Nat.zero_add, Nat.add_zero, Nat.reduceAdd, Nat.reduceLT, Nat.lt_add_one, Nat.zero_lt_succ, decide_true, decide_false, ne_eq, reduceCtorEq, findI_ge]
  exact hK w1 hx1
theorem any_not_known (xs : List JV) : (!xs.any fun x => !knownM x) = knownL xs := by
  rw [knownL_all]
  induction xs with
  | nil => rfl
  | cons x xs ih => simp only [List.any_cons, List.all_cons, Bool.not_or, Bool.not_not, ih]
theorem known_p (v : JV) : ∀ {cs : List Value} {w : World} {K : Value → World → Prop}, VRep w v cs → (∀ w', Ext w w' → K (.bool (knownM v)) w') → callF Tryz.prog 48 [.agg cs.toArray] w K := by
  induction v using JV.ind' with
  | h v ih =>
    intro cs w K h hK
    refine W48_ok ?_
    unfold W48
    refine box_val h fun a w1 sv kv hB hx _ => ?_
    rw [knownM_eq] at hK
    simp only [wsv, wsg, wsh, wsl, cond_true, cond_false, exists_eq_left', Option.some.injEq, Option.isSome_some, List.getElem?_toArray, List.getElem?_cons_zero, List.getElem?_cons_succ, List.length_cons, List.length_nil, List.set_cons_zero, List.set_cons_succ, List.getD_cons_zero, List.getD_cons_succ, Nat.zero_add, Nat.add_zero, Nat.reduceAdd, Nat.reduceLT, Nat.lt_add_one, Nat.zero_lt_succ, decide_true, decide_false, ne_eq, reduceCtorEq, wsh, hB.hb]
    refine GdW.act (knownL v.xs) (fun w' => Ext w1 w') (fun _ => Chg.refl _ _) ?_ ?_
    · intro hc J hJ
      refine contains_v (p := fun x => !knownM x) hB.itemsAt ?_ fun w2 hx2 => ?_
      · intro x hx cs w K hr hK
        refine callV_fn ?_
        refine W103_ok ?_
        unfold W103
        refine box_val hr fun b w1 sv kv hB hx1 _ => ?_
        refine hB.ld fun cs2 h2 => ?_
        refine ih x hx h2 fun w2 hx2 => ?_
        simp only [wsv, wsg, wsh, wsl, cond_true, cond_false, exists_eq_left', Option.some.injEq, Option.isSome_some, List.getElem?_toArray, List.getElem?_cons_zero, List.getElem?_cons_succ, List.length_cons, List.length_nil, List.set_cons_zero, List.set_cons_succ, List.getD_cons_zero, List.getD_cons_succ, Nat.zero_add, Nat.add_zero, Nat.reduceAdd, Nat.reduceLT, Nat.lt_add_one, Nat.zero_lt_succ, decide_true, decide_false, ne_eq, reduceCtorEq]
        exact hK w2 (hx1.trans hx2)
      · simp only [wsv, wsg, wsh, wsl, cond_true, cond_false, exists_eq_left', Option.some.injEq, Option.isSome_some, List.getElem?_toArray, List.getElem?_cons_zero, List.getElem?_cons_succ, List.length_cons, List.length_nil, List.set_cons_zero, List.set_cons_succ, List.getD_cons_zero, List.getD_cons_succ, Nat.zero_add, Nat.add_zero, Nat.reduceAdd, Nat.reduceLT, Nat.lt_add_one, Nat.zero_lt_succ, decide_true, decide_false, ne_eq, reduceCtorEq, any_not_known]
        exact hJ w2 hx2
    · intro g w2 hx2
      have := hK w2 (hx.trans hx2)
      simp only [wsv, wsg, wsh, wsl, cond_true, cond_false, exists_eq_left', Option.some.injEq, Option.isSome_some, List.getElem?_toArray, List.getElem?_cons_zero, List.getElem?_cons_succ, List.length_cons, List.length_nil, List.set_cons_zero, List.set_cons_succ, List.getD_cons_zero, List.getD_cons_succ, Nat.zero_add, Nat.add_zero, Nat.reduceAdd, Nat.reduceLT, Nat.lt_add_one, Nat.zero_lt_succ, decide_true, decide_false, ne_eq, reduceCtorEq]
      simpa only [decide_not] using this
end
end Go.Proofs.YtnoepcndjljolaaGreatDoor
namespace Go.Proofs.YtnoepcndjljolaaGreatDoor
open Go Go.Eng Go.Num
set_option maxRecDepth 100000
def inG (G : Nat → Prop) (v : Value) : Prop := ∀ k, v.ownBlock = some k → G k
mutual
/-- a value all whose lists lie in blocks of G -/
def VRepP (G : Nat → Prop) (w : World) : JV → List Value → Prop
  | .mk k b t xs ks, cs => ∃ sv kv T1 T2 L, cs = [i64 k, .bool b, str t, sv, kv] ∧ SlAt w T1 sv xs.length L ∧ VRepsP G w xs L ∧ SlAt w T2 kv ks.length (ks.map str) ∧ Fits xs.length ks t ∧ (L ≠ [] → inG G sv) ∧ (ks.map str ≠ [] → inG G kv)
def VRepsP (G : Nat → Prop) (w : World) : List JV → List Value → Prop
  | [], L => L = []
  | x :: xs, L => ∃ c r, L = c ++ r ∧ VRepP G w x c ∧ VRepsP G w xs r
end
theorem slat_chgG {S G : Nat → Prop} {w w' : World} {T : TypeId} {v : Value} {n : Nat} {cs : List Value} (h : SlAt w T v n cs) (hg : cs ≠ [] → inG G v) (hc : Chg S w w') (hS : ∀ k, G k → k < w.heap.size → ¬ S k) : SlAt w' T v n cs := by
  obtain ⟨p, cap, rfl, h1, h2, h3⟩ := h
  refine ⟨p, cap, rfl, h1, h2, fun hne => ?_⟩
  obtain ⟨b, off, c, fr, rfl, hb, hcs⟩ := h3 hne
  exact ⟨b, off, c, fr, rfl, hc.at hb (hS b (hg hne b rfl) (at_lt hb)), hcs⟩
theorem slat_lt {w : World} {T : TypeId} {v : Value} {n : Nat} {cs : List Value} (h : SlAt w T v n cs) (hne : cs ≠ []) : inG (fun k => k < w.heap.size) v := by
  obtain ⟨p, cap, rfl, h1, h2, h3⟩ := h
  obtain ⟨b, off, c, fr, rfl, hb, hcs⟩ := h3 hne
  intro k hk
  cases hk
  exact at_lt hb
mutual
theorem VRepP.chg {S G : Nat → Prop} {w w' : World} (hc : Chg S w w') (hS : ∀ k, G k → k < w.heap.size → ¬ S k) : ∀ {v : JV} {cs : List Value}, VRepP G w v cs → VRepP G w' v cs
  | .mk k b t xs ks, cs, h => by
    simp only [VRepP] at h ⊢
    obtain ⟨sv, kv, T1, T2, L, rfl, h1, h2, h3, h4, h5, h6⟩ := h
    exact ⟨sv, kv, T1, T2, L, rfl, slat_chgG h1 h5 hc hS, VRepsP.chg hc hS h2, slat_chgG h3 h6 hc hS, h4, h5, h6⟩
theorem VRepsP.chg {S G : Nat → Prop} {w w' : World} (hc : Chg S w w') (hS : ∀ k, G k → k < w.heap.size → ¬ S k) : ∀ {xs : List JV} {L : List Value}, VRepsP G w xs L → VRepsP G w' xs L
  | [], L, h => by simp only [VRepsP] at h ⊢; exact h
  | x :: xs, L, h => by
    simp only [VRepsP] at h ⊢
    obtain ⟨c, r, rfl, h1, h2⟩ := h
    exact ⟨c, r, rfl, VRepP.chg hc hS h1, VRepsP.chg hc hS h2⟩
end
mutual
theorem VRepP.mono {G G' : Nat → Prop} {w : World} (hG : ∀ k, k < w.heap.size → G k → G' k) : ∀ {v : JV} {cs : List Value}, VRepP G w v cs → VRepP G' w v cs
  | .mk k b t xs ks, cs, h => by
    simp only [VRepP] at h ⊢
    obtain ⟨sv, kv, T1, T2, L, rfl, h1, h2, h3, h4, h5, h6⟩ := h
    exact ⟨sv, kv, T1, T2, L, rfl, h1, VRepsP.mono hG h2, h3, h4, fun hne k hk => hG k (slat_lt h1 hne k hk) (h5 hne k hk), fun hne k hk => hG k (slat_lt h3 hne k hk) (h6 hne k hk)⟩
theorem VRepsP.mono {G G' : Nat → Prop} {w : World} (hG : ∀ k, k < w.heap.size → G k → G' k) : ∀ {xs : List JV} {L : List Value}, VRepsP G w xs L → VRepsP G' w xs L
  | [], L, h => by simp only [VRepsP] at h ⊢; exact h
  | x :: xs, L, h => by
    simp only [VRepsP] at h ⊢
    obtain ⟨c, r, rfl, h1, h2⟩ := h
    exact ⟨c, r, rfl, VRepP.mono hG h1, VRepsP.mono hG h2⟩
end
mutual
theorem VRepP.rep {G : Nat → Prop} {w : World} : ∀ {v : JV} {cs : List Value}, VRepP G w v cs → VRep w v cs
  | .mk k b t xs ks, cs, h => by
    simp only [VRepP] at h
    simp only [VRep]
    obtain ⟨sv, kv, T1, T2, L, rfl, h1, h2, h3, h4, h5, h6⟩ := h
    exact ⟨sv, kv, T1, T2, L, rfl, h1, VRepsP.rep h2, h3, h4⟩
theorem VRepsP.rep {G : Nat → Prop} {w : World} : ∀ {xs : List JV} {L : List Value}, VRepsP G w xs L → VReps w xs L
  | [], L, h => by simp only [VRepsP] at h; simp only [VReps]; exact h
  | x :: xs, L, h => by
    simp only [VRepsP] at h
    simp only [VReps]
    obtain ⟨c, r, rfl, h1, h2⟩ := h
    exact ⟨c, r, rfl, VRepP.rep h1, VRepsP.rep h2⟩
end
theorem VRepsP.snoc {G : Nat → Prop} {w : World} : ∀ {xs : List JV} {x : JV} {L cs : List Value}, VRepsP G w xs L → VRepP G w x cs → VRepsP G w (xs ++ [x]) (L ++ cs)
  | [], x, L, cs, h, hx => by
    simp only [VRepsP] at h
    subst h
    simp only [List.nil_append, VRepsP]
    exact ⟨cs, [], by simp, hx, rfl⟩
  | y :: xs, x, L, cs, h, hx => by
    simp only [VRepsP] at h
    obtain ⟨c, r, rfl, h1, h2⟩ := h
    simp only [List.cons_append, VRepsP]
    exact ⟨c, r ++ cs, by simp, h1, VRepsP.snoc h2 hx⟩
theorem VRepP.mk {G : Nat → Prop} {w : World} {v : JV} {sv kv : Value} {T1 T2 : TypeId} {L : List Value} (h1 : SlAt w T1 sv v.xs.length L) (h2 : VRepsP G w v.xs L) (h3 : SlAt w T2 kv v.ks.length (v.ks.map str)) (h4 : Fits v.xs.length v.ks v.t) (h5 : L ≠ [] → inG G sv) (h6 : v.ks.map str ≠ [] → inG G kv) : VRepP G w v [i64 v.k, .bool v.b, str v.t, sv, kv] := by
  cases v with
  | mk k b t xs ks => simp only [VRepP]; exact ⟨sv, kv, T1, T2, L, rfl, h1, h2, h3, h4, h5, h6⟩
abbrev From (n : Nat) : Nat → Prop := fun k => n ≤ k
section
variable [HX]
theorem clone_s {v : Value} {T : TypeId} {l : List Str} {w : World} {K : Value → World → Prop} (h : SlAt w T v l.length (l.map str)) (hl : l.length ≤ 1000000)
    (hK : ∀ v' w', Ext w w' → SlAt w' ST v' l.length (l.map str) → inG (From w.heap.size) v' → K v' w') : callF Tryz.prog 72 [v] w K := by
  refine W72_ok ?_
  unfold W72
  obtain ⟨p, cap, rfl, hcap, hp, hc⟩ := h
  cases p with
  | none =>
    obtain ⟨h0, rfl⟩ := hp rfl
    have : l = [] := List.eq_nil_of_length_eq_zero h0
    subst this
    have e : ∀ K : Value → Prop, eqW .slice false (.slice none ([] : List Str).length 0) (.slice none 0 0) K ↔ K (.bool true) := fun K => Iff.rfl
    rw [e]
    simp only [wsv, wsg, wsh, wsl, cond_true, cond_false, exists_eq_left', Option.some.injEq, Option.isSome_some, List.getElem?_toArray, List.getElem?_cons_zero, List.getElem?_cons_succ, List.length_cons, List.length_nil, List.set_cons_zero, List.set_cons_succ, List.getD_cons_zero, List.getD_cons_succ, Nat.zero_add, Nat.add_zero, Nat.reduceAdd, Nat.reduceLT, Nat.lt_add_one, Nat.zero_lt_succ, decide_true, decide_false, ne_eq, reduceCtorEq]
    exact hK _ w (Chg.refl _ _) (SlAt.nil _ _) (by intro k hk; cases hk)
  | some a =>
    have e : ∀ K : Value → Prop, eqW .slice false (.slice (some a) l.length cap) (.slice none 0 0) K ↔ K (.bool false) := fun K => Iff.rfl
    rw [e]
    unfold bslW
    simp only [wsv, wsg, wsh, wsl, cond_true, cond_false, exists_eq_left', Option.some.injEq, Option.isSome_some, List.getElem?_toArray, List.getElem?_cons_zero, List.getElem?_cons_succ, List.length_cons, List.length_nil, List.set_cons_zero, List.set_cons_succ, List.getD_cons_zero, List.getD_cons_succ, Nat.zero_add, Nat.add_zero, Nat.reduceAdd, Nat.reduceLT, Nat.lt_add_one, Nat.zero_lt_succ, decide_true, decide_false, ne_eq, reduceCtorEq]
    refine append_own3 elem_s (base := w.heap.size) (own_new (w := w) (base := w.heap.size) (e := ST) (size := 1) (n := 0) (cs := []) (Nat.le_refl _) rfl (by omega)) (x := .slice (some a) l.length cap) (T := T) (m := l.length) (news := l.map str) ?_ (by simp) ?_ (by omega) (by omega) (by rw [size_alloc]; omega) fun v' w' h' hc' hb' => ?_
    · have hx : Ext w (w.alloc (.cells ([] : List Value).toArray ST)) := (by repeat (first | assumption | exact Chg.refl _ _ | refine Chg.drew ?_ | refine Chg.alloc ?_ _ | refine Chg.set ?_ (by first | exact .inl rfl | exact .inr (by omega) | exact .inr (by simp only [size_set, size_alloc, size_drew]; omega) | (left; simp; done)) _ | exact Chg.of_ext (by assumption)))
      exact SlAt.ext ⟨some a, cap, rfl, hcap, hp, hc⟩ hx
    · intro u hu
      obtain ⟨s, _, rfl⟩ := List.mem_map.1 hu
      rfl
    · have hx : Ext w (w.alloc (.cells ([] : List Value).toArray ST)) := (by repeat (first | assumption | exact Chg.refl _ _ | refine Chg.drew ?_ | refine Chg.alloc ?_ _ | refine Chg.set ?_ (by first | exact .inl rfl | exact .inr (by omega) | exact .inr (by simp only [size_set, size_alloc, size_drew]; omega) | (left; simp; done)) _ | exact Chg.of_ext (by assumption)))
      refine hK v' w' (hx.then hc' fun k hk e => ?_) (by simpa using h'.sl) fun k hk => (h'.block k hk).1
      simp only [Value.ownBlock, Option.some.injEq] at e
      omega
theorem clones_p {xs : List JV} (hcl : ∀ x ∈ xs, ∀ {cs : List Value} {w : World} {K : Value → World → Prop}, VRep w x cs → (∀ cs' w', Ext w w' → VRepP (From w.heap.size) w' x cs' → K (.agg cs'.toArray) w') → callF Tryz.prog 71 [.agg cs.toArray] w K)
    {sv : Value} {w : World} {K : Value → World → Prop} (h : ItemsAt w sv xs) (hl : xs.length ≤ 1000000)
    (hK : ∀ sv' w', Ext w w' → (∃ L, SlAt w' VT sv' xs.length L ∧ VRepsP (From w.heap.size) w' xs L) → inG (From w.heap.size) sv' → K sv' w') : callF Tryz.prog 130 [sv] w K := by
  refine W130_ok ?_
  unfold W130
  rw [h.len]
  refine ⟨fun s w' => ∃ i v L, i ≤ xs.length ∧ s = [v, i64 (i : Nat)] ∧ Ext w w' ∧ Own w' w.heap.size VT 5 v i L ∧ VRepsP (fun k => w.heap.size ≤ k ∧ v.ownBlock ≠ some k) w' (xs.take i) L,
    fun s _ => match s with | [_, .int _ i] => xs.length - i.toNat | _ => 0, ⟨0, _, [], by omega, rfl, Chg.refl _ _, ⟨by simp, .inl ⟨rfl, rfl⟩⟩, by simp [VRepsP]⟩, ?_⟩
  rintro s g w2 ⟨i, v, L, hi, rfl, hx2, hO, hr⟩
  rcases Nat.lt_or_ge i xs.length with hlt | hge
  · obtain ⟨x, hxi⟩ : ∃ x, xs[i]? = some x := ⟨_, List.getElem?_eq_getElem hlt⟩
    have hltI : (i : Int) < (xs.length : Int) := by omega
    simp only [wsv, wsg, wsh, wsl, cond_true, cond_false, exists_eq_left', Option.some.injEq, Option.isSome_some, List.getElem?_toArray, List.getElem?_cons_zero, List.getElem?_cons_succ, List.length_cons, List.length_nil, List.set_cons_zero, List.set_cons_succ, List.getD_cons_zero, List.getD_cons_succ, Nat.zero_add, Nat.add_zero, Nat.reduceAdd, Nat.reduceLT, Nat.lt_add_one, Nat.zero_lt_succ, decide_true, decide_false, ne_eq, reduceCtorEq, hltI]
    refine (h.ext hx2).at hxi fun cs hcs => ?_
    refine copy_new hcs fun p w3 sp kp hP hx3 => ?_
    refine hP.ld fun cs2 h2 => ?_
    refine hcl x (List.mem_of_getElem? hxi) h2 fun cs3 w4 hx4 h3 => ?_
    refine row_v h3.rep.len fun t w5 ht hx5 => ?_
    have hx25 := hx3.trans (hx4.trans hx5)
    have hO5 := hO.ext hx25
    have s0 := hx2.size
    have s3 := hx3.size
    have s25 := hx25.size
    have hglt : ∀ k, v.ownBlock = some k → k < w2.heap.size := fun k hk => (World.ownsRow.lt hO k hk).2
    refine append_own3 elem_v hO5 ht (m := 1) (by rw [h3.rep.len]) h3.rep.one (by omega) (by omega) (by omega) fun v' w6 h6 hc6 hb6 => ?_
    have hx6 : Ext w w6 := (hx2.trans hx25).then hc6 fun k hk e => by
      have := (own_ge hO5 e).1; omega
    rw [up1 (by omega)]
    refine ⟨⟨i + 1, v', L ++ cs3, hlt, rfl, hx6, h6, ?_⟩, by simp only [Int.toNat_natCast]; omega⟩
    have e : xs.take (i + 1) = xs.take i ++ [x] := by rw [List.take_add_one, hxi]; rfl
    rw [e]
    have hr5 := VRepsP.chg hx25 (fun _ _ _ e => e) hr
    have h35 := VRepP.chg hx5 (fun _ _ _ e => e) h3
    have hall : VRepsP (fun k => w.heap.size ≤ k ∧ v.ownBlock ≠ some k) w5 (xs.take i ++ [x]) (L ++ cs3) :=
      hr5.snoc (h35.mono fun k _ hk => ⟨by have : w3.heap.size ≤ k := hk; omega, fun e => by have := hglt k e; have : w3.heap.size ≤ k := hk; omega⟩)
    have hall2 : VRepsP (fun k => (w.heap.size ≤ k ∧ v.ownBlock ≠ some k) ∧ k < w5.heap.size) w5 (xs.take i ++ [x]) (L ++ cs3) := hall.mono fun k hlt hk => ⟨hk, hlt⟩
    have hall3 := VRepsP.chg hc6 (fun k hk _ e => hk.1.2 e) hall2
    exact hall3.mono fun k _ hk => ⟨hk.1.1, fun e => by
      rcases hb6 k e with h | h
      · exact hk.1.2 h
      · omega⟩
  · obtain rfl : i = xs.length := by omega
    simp only [wsv, wsg, wsh, wsl, cond_true, cond_false, exists_eq_left', Option.some.injEq, Option.isSome_some, List.getElem?_toArray, List.getElem?_cons_zero, List.getElem?_cons_succ, List.length_cons, List.length_nil, List.set_cons_zero, List.set_cons_succ, List.getD_cons_zero, List.getD_cons_succ, Nat.zero_add, Nat.add_zero, Nat.reduceAdd, Nat.reduceLT, Nat.lt_add_one, Nat.zero_lt_succ, decide_true, decide_false, ne_eq, reduceCtorEq, Int.lt_irrefl]
    rw [List.take_length] at hr
    exact hK v w2 hx2 ⟨L, hO.sl, hr.mono fun k _ hk => hk.1⟩ fun k hk => (hO.block k hk).1
end
end Go.Proofs.YtnoepcndjljolaaGreatDoor
namespace Go.Eng
open Go Go.Num
mutual
def fewM : JV → Bool
  | .mk _ _ _ xs ks => decide (xs.length ≤ 100000) && decide (ks.length ≤ 100000) && fewL xs
def fewL : List JV → Bool
  | [] => true
  | x :: xs => fewM x && fewL xs
end
theorem fewM_eq (v : JV) : fewM v = (decide (v.xs.length ≤ 100000) && decide (v.ks.length ≤ 100000) && fewL v.xs) := by cases v; rfl
theorem fewL_all (xs : List JV) : fewL xs = xs.all fewM := by
  induction xs with
  | nil => rfl
  | cons x xs ih => simp [fewL, ih]
theorem size_bound : ∀ (m : Nat), m ≤ 24 → ∀ (v : JV), deepM v m = true → 1 ≤ sizeM v ∧ sizeM v ≤ 2000 * m + 1
  | 0, _, v, h => by rw [deepM_zero] at h; cases h
  | m + 1, hm, v, h => by
    rw [deepM_succ, deepL_all] at h
    rw [sizeM_eq]
    have key : ∀ (xs : List JV) (n : Int), xs.all (deepM · m) = true → 1 ≤ n → n ≤ 2000 * (m + 1) + 1 → 1 ≤ sizeLM xs n ∧ sizeLM xs n ≤ 2000 * (m + 1) + 1 := by
      intro xs
      induction xs with
      | nil => intro n _ h1 h2; exact ⟨h1, h2⟩
      | cons x xs ih =>
        intro n ha h1 h2
        simp only [List.all_cons, Bool.and_eq_true] at ha
        obtain ⟨a1, a2⟩ := size_bound m (by omega) x ha.1
        simp only [sizeLM]
        split
        · rw [wrap_id (by omega) (by omega)]
          exact ih _ ha.2 (by omega) (by omega)
        · exact ⟨h1, h2⟩
    have := key v.xs 1 h (by omega) (by omega)
    exact ⟨this.1, by have := this.2; omega⟩
theorem sizeLM_all {m : Nat} (hm : m ≤ 24) : ∀ (xs : List JV) (n : Int), xs.all (deepM · m) = true → 1 ≤ n → sizeLM xs n ≤ 2000 → n + xs.length ≤ 2000 ∧ ∀ x ∈ xs, sizeM x ≤ 2000
  | [], n, _, _, h => by simp only [sizeLM] at h; exact ⟨by simp; exact h, by simp⟩
  | x :: xs, n, ha, h1, h => by
    simp only [List.all_cons, Bool.and_eq_true] at ha
    obtain ⟨a1, a2⟩ := size_bound m hm x ha.1
    simp only [sizeLM] at h
    split at h
    · rw [wrap_id (by omega) (by omega)] at h
      obtain ⟨i1, i2⟩ := sizeLM_all hm xs _ ha.2 (by omega) h
      refine ⟨by simp only [List.length_cons]; omega, fun y hy => ?_⟩
      rcases List.mem_cons.1 hy with rfl | hy
      · omega
      · exact i2 y hy
    · omega
theorem good_few (v : JV) : ∀ (m : Nat), m ≤ 24 → sizeM v ≤ 2000 → deepM v m = true → plainM v = true → fewM v = true := by
  induction v using JV.ind' with
  | h v ih =>
    intro m hm hs hd hp
    cases m with
    | zero => rw [deepM_zero] at hd; cases hd
    | succ m =>
      rw [deepM_succ, deepL_all] at hd
      rw [sizeM_eq] at hs
      obtain ⟨h1, h2⟩ := sizeLM_all (m := m) (by omega) v.xs 1 hd (by omega) hs
      rw [plainM_eq, Bool.and_eq_true, plainL_all] at hp
      obtain ⟨_, _, _, _, _, k6, _, _, k9, _⟩ := headOk_out hp.1
      rw [fewM_eq, fewL_all]
      have e1 : v.xs.length ≤ 100000 := by omega
      have e2 : v.ks.length ≤ 100000 := by
        by_cases hk : v.ks = []
        · rw [hk]; simp
        · have := k9 (k6 hk); omega
      rw [decide_eq_true e1, decide_eq_true e2]
      simp only [Bool.and_self, Bool.true_and, List.all_eq_true]
      intro x hx
      exact ih x hx m (by omega) (h2 x hx) (List.all_eq_true.1 hd x hx) (List.all_eq_true.1 hp.2 x hx)
structure GoodV (v : JV) : Prop where
  plain : plainM v = true
  few : fewM v = true
theorem good_v {v : JV} (h : goodM v = true) : GoodV v := by
  simp only [goodM, Bool.and_eq_true, decide_eq_true_eq] at h
  exact ⟨h.2, good_few v 24 (Nat.le_refl _) h.1.1 h.1.2 h.2⟩
theorem GoodV.item {v x : JV} (h : GoodV v) (hx : x ∈ v.xs) : GoodV x := by
  have h1 := h.plain
  have h2 := h.few
  rw [plainM_eq, Bool.and_eq_true, plainL_all, List.all_eq_true] at h1
  rw [fewM_eq, fewL_all] at h2
  simp only [Bool.and_eq_true, List.all_eq_true] at h2
  exact ⟨h1.2 x hx, h2.2 x hx⟩
theorem GoodV.lens {v : JV} (h : GoodV v) : v.xs.length ≤ 100000 ∧ v.ks.length ≤ 100000 ∧ (v.k = 6 → v.ks.length = v.xs.length) ∧ keysOk v.ks = true ∧ (v.ks ≠ [] → v.k = 6) := by
  have h1 := h.plain
  have h2 := h.few
  rw [plainM_eq, Bool.and_eq_true] at h1
  rw [fewM_eq] at h2
  simp only [Bool.and_eq_true, decide_eq_true_eq] at h2
  obtain ⟨_, _, _, _, _, k6, _, _, k9, k10⟩ := headOk_out h1.1
  exact ⟨h2.1.1, h2.1.2, k9, k10, k6⟩
theorem less_trans : ∀ {a b c : Str}, Op.bytesLess a b = true → Op.bytesLess b c = true → Op.bytesLess a c = true
  | [], [], _, h, _ => by simp [Op.bytesLess] at h
  | _ :: _, [], _, h, _ => by simp [Op.bytesLess] at h
  | _, _ :: _, [], _, h => by simp [Op.bytesLess] at h
  | [], _ :: _, _ :: _, _, _ => by simp [Op.bytesLess]
  | x :: a, y :: b, z :: c, h1, h2 => by
    simp only [Op.bytesLess, Bool.or_eq_true, Bool.and_eq_true, decide_eq_true_eq, beq_iff_eq] at h1 h2 ⊢
    rcases h1 with h1 | ⟨rfl, h1⟩
    · rcases h2 with h2 | ⟨rfl, h2⟩
      · exact .inl (UInt8.lt_trans h1 h2)
      · exact .inl h1
    · rcases h2 with h2 | ⟨rfl, h2⟩
      · exact .inl h2
      · exact .inr ⟨rfl, less_trans h1 h2⟩
theorem less_tri : ∀ (a b : Str), Op.bytesLess a b = true ∨ a = b ∨ Op.bytesLess b a = true
  | [], [] => .inr (.inl rfl)
  | [], _ :: _ => .inl rfl
  | _ :: _, [] => .inr (.inr rfl)
  | x :: a, y :: b => by
    simp only [Op.bytesLess, Bool.or_eq_true, Bool.and_eq_true, decide_eq_true_eq, beq_iff_eq, List.cons.injEq]
    by_cases h1 : x < y
    · exact .inl (.inl h1)
    · by_cases h2 : y < x
      · exact .inr (.inr (.inl h2))
      · have : x = y := UInt8.le_antisymm (UInt8.not_lt.1 h2) (UInt8.not_lt.1 h1)
        subst this
        rcases less_tri a b with h | h | h
        · exact .inl (.inr ⟨rfl, h⟩)
        · exact .inr (.inl ⟨rfl, h⟩)
        · exact .inr (.inr (.inr ⟨rfl, h⟩))
theorem less_anti {a b : Str} (h : Op.bytesLess a b = true) : Op.bytesLess b a = false := by
  cases hb : Op.bytesLess b a with
  | false => rfl
  | true => have := less_trans h hb; rw [less_irr] at this; cases this
def Rise (ks : List Str) : Prop := ks.Pairwise fun a b => Op.bytesLess a b = true
theorem keysOk_len {ks : List Str} (h : keysOk ks = true) : ∀ k ∈ ks, k.length ≤ 16384 := by
  induction ks with
  | nil => intro k hk; cases hk
  | cons a r ih =>
    intro k hk
    cases r with
    | nil =>
      simp only [keysOk, decide_eq_true_eq] at h
      rw [List.mem_singleton.1 hk]; exact h
    | cons b r =>
      simp only [keysOk, Bool.and_eq_true, decide_eq_true_eq] at h
      rcases List.mem_cons.1 hk with rfl | hk
      · exact h.1.1
      · exact ih h.2 k hk
theorem rise_lt {ks : List Str} (h : Rise ks) {i j : Nat} {a b : Str} (ha : ks[i]? = some a) (hb : ks[j]? = some b) (hij : i < j) : Op.bytesLess a b = true := by
  obtain ⟨h1, e1⟩ := List.getElem?_eq_some_iff.1 ha
  obtain ⟨h2, e2⟩ := List.getElem?_eq_some_iff.1 hb
  have := List.pairwise_iff_getElem.1 h i j h1 h2 hij
  rw [e1, e2] at this
  exact this
end Go.Eng
namespace Go.Proofs.YtnoepcndjljolaaGreatDoor
open Go Go.Eng Go.Num
set_option maxRecDepth 100000
section
variable [HX]
theorem clone_p (v : JV) : ∀ {cs : List Value} {w : World} {K : Value → World → Prop}, fewM v = true → VRep w v cs → (∀ cs' w', Ext w w' → VRepP (From w.heap.size) w' v cs' → K (.agg cs'.toArray) w') → callF Tryz.prog 71 [.agg cs.toArray] w K := by
  induction v using JV.ind' with
  | h v ih =>
    intro cs w K hfew h hK
    rw [fewM_eq, fewL_all] at hfew
    simp only [Bool.and_eq_true, decide_eq_true_eq, List.all_eq_true] at hfew
    obtain ⟨⟨f1, f2⟩, f3⟩ := hfew
    refine W71_ok ?_
    unfold W71
    refine box_val h fun a w1 sv kv hB hx ha => ?_
    refine alloc_new fun b w2 hb hz2 hbb hx2 => ?_
    have hxd : Ext w2 w2.drew := Chg.drew (Chg.refl (fun _ => False) w2)
    have hB2 := hB.ext hx2
    have hBd := hB2.ext hxd
    have hbd := hxd.at hbb id
    have sd : w2.drew.heap.size = w2.heap.size := rfl
    simp only [wsv, wsg, wsh, wsl, cond_true, cond_false, exists_eq_left', Option.some.injEq, Option.isSome_some, List.getElem?_toArray, List.getElem?_cons_zero, List.getElem?_cons_succ, List.length_cons, List.length_nil, List.set_cons_zero, List.set_cons_succ, List.getD_cons_zero, List.getD_cons_succ, Nat.zero_add, Nat.add_zero, Nat.reduceAdd, Nat.reduceLT, Nat.lt_add_one, Nat.zero_lt_succ, decide_true, decide_false, ne_eq, reduceCtorEq, wsh, hB2.hb]
    obtain ⟨T1, k1⟩ := hBd.keys
    refine clone_s k1 (by omega) fun kv' w3 hx3 hk3 hg3 => ?_
    have hB3 := hBd.ext hx3
    have hb3 := hx3.at hbd id
    have s3 := hx3.size
    simp only [wsv, wsg, wsh, wsl, cond_true, cond_false, exists_eq_left', Option.some.injEq, Option.isSome_some, List.getElem?_toArray, List.getElem?_cons_zero, List.getElem?_cons_succ, List.length_cons, List.length_nil, List.set_cons_zero, List.set_cons_succ, List.getD_cons_zero, List.getD_cons_succ, Nat.zero_add, Nat.add_zero, Nat.reduceAdd, Nat.reduceLT, Nat.lt_add_one, Nat.zero_lt_succ, decide_true, decide_false, ne_eq, reduceCtorEq, wsh, hB3.hb]
    refine clones_p (fun x hx => ih x hx (f3 x hx)) hB3.itemsAt (by omega) fun sv' w4 hx4 hL hg4 => ?_
    obtain ⟨L, hL1, hL2⟩ := hL
    have hB4 := hB3.ext hx4
    have hb4 := hx4.at hb3 id
    have s1 := hx.size
    have hak := at_lt hB.hb
    have one1 : one1 sv' = true ∧ one1 kv' = true := by
      obtain ⟨p, c, rfl, _⟩ := hL1.shape
      obtain ⟨p', c', rfl, _⟩ := hk3.shape
      exact ⟨rfl, rfl⟩
    refine st_at hB4.hb one1.2 (by simp) fun w5 hz5 ha5 hc5 => ?_
    have ha5 : w5.heap[a]? = some (.cells [i64 v.k, .bool v.b, str v.t, sv, kv'].toArray VT (0, 0)) := by rw [ha5]; simp
    refine st_at ha5 one1.1 (by simp) fun w6 hz6 ha6 hc6 => ?_
    have ha6 : w6.heap[a]? = some (.cells [i64 v.k, .bool v.b, str v.t, sv', kv'].toArray VT (0, 0)) := by rw [ha6]; simp
    refine ld_all ha6 rfl ?_
    have hb6 := hc6.at (hc5.at hb4 (by omega)) (by omega)
    refine ret_agg hb6 rfl rfl (obj_one one1.1 one1.2) fun w7 hc7 => ?_
    have hx1 : Ext w w4 := hx.trans (hx2.trans (hxd.trans (hx3.trans hx4)))
    have hx5 : Ext w w7 := ((hx1.new hc5 (by omega)).new hc6 (by omega)).new hc7 (by omega)
    have hch : Chg (fun k => k = a ∨ k = b) w4 w7 := ((hc5.mono fun k _ e => .inl e).trans (hc6.mono fun k _ e => .inl e)).trans (hc7.mono fun k _ e => .inr e)
    refine hK _ w7 hx5 (VRepP.mk (T1 := VT) (T2 := ST) (L := L) ?_ ?_ ?_ hB.fits (fun _ k hk => ?_) (fun _ k hk => ?_))
    · exact slat_chgG hL1 (fun _ => hg4) hch fun k hk _ e => by have : w3.heap.size ≤ k := hk; omega
    · refine VRepsP.mono (fun k _ hk => ?_) (VRepsP.chg (G := From w3.heap.size) hch (fun k hk _ e => by have : w3.heap.size ≤ k := hk; omega) hL2)
      have : w3.heap.size ≤ k := hk
      show w.heap.size ≤ k
      omega
    · exact slat_chgG (hk3.ext hx4) (fun _ => hg3) hch fun k hk _ e => by have : w2.drew.heap.size ≤ k := hk; omega
    · have : w3.heap.size ≤ k := hg4 k hk
      show w.heap.size ≤ k
      omega
    · have : w2.drew.heap.size ≤ k := hg3 k hk
      show w.heap.size ≤ k
      omega
theorem search_p {kv : Value} {T : TypeId} {ks : List Str} {k : Str} {w : World} {K : Value → World → Prop} (h : SlAt w T kv ks.length (ks.map str)) (hl : ks.length ≤ 100000) (hr : Rise ks)
    (hK : ∀ i : Nat, (idxK ks k = none ∨ idxK ks k = some i) → (∀ j a, j < i → ks[j]? = some a → Op.bytesLess a k = true) → (∀ j a, i ≤ j → ks[j]? = some a → Op.bytesLess a k = false) → i ≤ ks.length → K (.tuple #[i64 (i : Nat), .bool (idxK ks k).isSome]) w) :
    callF Tryz.prog 161 [kv, str k] w K := by
  refine W161_ok ?_
  unfold W161
  rw [lenl_at h]
  refine ⟨fun s w' => ∃ lo hi : Nat, lo ≤ hi ∧ hi ≤ ks.length ∧ s = [i64 (lo : Nat), i64 (hi : Nat)] ∧ w' = w ∧ (∀ j a, j < lo → ks[j]? = some a → Op.bytesLess a k = true) ∧ (∀ j a, hi ≤ j → ks[j]? = some a → Op.bytesLess a k = false),
    fun s _ => match s with | [.int _ lo, .int _ hi] => hi.toNat - lo.toNat | _ => 0, ⟨0, ks.length, by omega, by omega, rfl, rfl, fun j a h => by omega, fun j a hj ha => by have := (List.getElem?_eq_some_iff.1 ha).1; omega⟩, ?_⟩
  rintro s g w2 ⟨lo, hi, hle, hhi, rfl, rfl, h1, h2⟩
  rcases Nat.lt_or_ge lo hi with hlt | hge
  · have hltI : (lo : Int) < (hi : Int) := by omega
    have e1 : IntKind.i64.wrap ((lo : Int) + (hi : Int)) = ((lo + hi : Nat) : Int) := by rw [wrap_id (by omega) (by omega)]; omega
    have e2 : IntKind.u64.wrap ((lo + hi : Nat) : Int) = ((lo + hi : Nat) : Int) := u64_wrap (by omega) (by omega)
    have e3 : (((lo + hi : Nat) : Int).fdiv (2 ^ min (1 : Int).toNat IntKind.u64.bits)) = (((lo + hi) / 2 : Nat) : Int) := by
      have : (2 : Int) ^ min (1 : Int).toNat IntKind.u64.bits = 2 := by decide
      rw [this, Int.fdiv_eq_ediv_of_nonneg _ (by omega)]; omega
    have e4 : IntKind.i64.wrap (((lo + hi) / 2 : Nat) : Int) = (((lo + hi) / 2 : Nat) : Int) := wrap_id (by omega) (by omega)
    generalize hm : (lo + hi) / 2 = m at *
    obtain ⟨u, hu⟩ : ∃ u, ks[m]? = some u := ⟨_, List.getElem?_eq_getElem (by omega)⟩
    have h01 : (0 : Int) ≤ 1 := by decide
    simp only [wsv, wsg, wsh, wsl, cond_true, cond_false, exists_eq_left', Option.some.injEq, Option.isSome_some, List.getElem?_toArray, List.getElem?_cons_zero, List.getElem?_cons_succ, List.length_cons, List.length_nil, List.set_cons_zero, List.set_cons_succ, List.getD_cons_zero, List.getD_cons_succ, Nat.zero_add, Nat.add_zero, Nat.reduceAdd, Nat.reduceLT, Nat.lt_add_one, Nat.zero_lt_succ, decide_true, decide_false, ne_eq, reduceCtorEq, hltI, e1, e2, bin_shr, h01, e3, e4]
    refine text_ld h hu ?_
    refine cmp_less ?_
    rw [condW_b]
    refine ⟨fun hl => ?_, fun hn => ?_⟩
    · rw [up1 (by omega)]
      refine ⟨⟨m + 1, hi, by omega, hhi, rfl, rfl, fun j a hj ha => ?_, h2⟩, by simp only [Int.toNat_natCast]; omega⟩
      rcases Nat.lt_or_ge j m with hj2 | hj2
      · exact less_trans (rise_lt hr ha hu hj2) hl
      · obtain rfl : j = m := by omega
        rw [hu] at ha; cases ha; exact hl
    · refine ⟨⟨lo, m, by omega, by omega, rfl, rfl, h1, fun j a hj ha => ?_⟩, by simp only [Int.toNat_natCast]; omega⟩
      rcases Nat.lt_or_ge m j with hj2 | hj2
      · cases hb : Op.bytesLess a k with
        | false => rfl
        | true => have := less_trans (rise_lt hr hu ha hj2) hb; rw [hn] at this; cases this
      · obtain rfl : j = m := by omega
        rw [hu] at ha; cases ha; exact hn
  · obtain rfl : lo = hi := by omega
    have hi0 : idxK ks k = none ∨ idxK ks k = some lo := by
      cases hx : idxK ks k with
      | none => exact .inl rfl
      | some j =>
        right
        have hj := idxK_spec hx
        rcases Nat.lt_trichotomy j lo with h | h | h
        · have := h1 j k h hj; rw [less_irr] at this; cases this
        · rw [h]
        · obtain ⟨u, hu⟩ : ∃ u, ks[lo]? = some u := ⟨_, List.getElem?_eq_getElem (by have := (List.getElem?_eq_some_iff.1 hj).1; omega)⟩
          have a1 := h2 lo u (Nat.le_refl _) hu
          have a2 := rise_lt hr hu hj h
          rw [a1] at a2; cases a2
    have hK := hK lo hi0 h1 h2 hhi
    simp only [wsv, wsg, wsh, wsl, cond_true, cond_false, exists_eq_left', Option.some.injEq, Option.isSome_some, List.getElem?_toArray, List.getElem?_cons_zero, List.getElem?_cons_succ, List.length_cons, List.length_nil, List.set_cons_zero, List.set_cons_succ, List.getD_cons_zero, List.getD_cons_succ, Nat.zero_add, Nat.add_zero, Nat.reduceAdd, Nat.reduceLT, Nat.lt_add_one, Nat.zero_lt_succ, decide_true, decide_false, ne_eq, reduceCtorEq, Int.lt_irrefl]
    rcases Nat.lt_or_ge lo ks.length with hlt | hge2
    · obtain ⟨u, hu⟩ : ∃ u, ks[lo]? = some u := ⟨_, List.getElem?_eq_getElem hlt⟩
      have ed : decide ((lo : Int) < (ks.length : Int)) = true := decide_eq_true (by omega)
      have hsome : (idxK ks k).isSome = decide (u = k) := by
        by_cases e : u = k
        · subst e
          have hm : u ∈ ks := List.mem_of_getElem? hu
          rw [decide_eq_true rfl]
          cases hx : idxK ks u with
          | none => exact absurd hm (idxK_none.1 hx)
          | some _ => rfl
        · rw [decide_eq_false e]
          rcases hi0 with h | h
          · rw [h]; rfl
          · have := idxK_spec h; rw [hu] at this; exact absurd (Option.some.inj this) e
      rw [hsome] at hK
      simp only [wsv, wsg, wsh, wsl, cond_true, cond_false, exists_eq_left', Option.some.injEq, Option.isSome_some, List.getElem?_toArray, List.getElem?_cons_zero, List.getElem?_cons_succ, List.length_cons, List.length_nil, List.set_cons_zero, List.set_cons_succ, List.getD_cons_zero, List.getD_cons_succ, Nat.zero_add, Nat.add_zero, Nat.reduceAdd, Nat.reduceLT, Nat.lt_add_one, Nat.zero_lt_succ, decide_true, decide_false, ne_eq, reduceCtorEq, ed]
      refine GdW.t ?_
      refine text_ld h hu ?_
      intro gg
      simp only [ofL_data]
      simp only [wsv, wsg, wsh, wsl, cond_true, cond_false, exists_eq_left', Option.some.injEq, Option.isSome_some, List.getElem?_toArray, List.getElem?_cons_zero, List.getElem?_cons_succ, List.length_cons, List.length_nil, List.set_cons_zero, List.set_cons_succ, List.getD_cons_zero, List.getD_cons_succ, Nat.zero_add, Nat.add_zero, Nat.reduceAdd, Nat.reduceLT, Nat.lt_add_one, Nat.zero_lt_succ, decide_true, decide_false, ne_eq, reduceCtorEq]
      by_cases e : u = k
      · rw [decide_eq_true e] at hK ⊢
        (try simp only [wsv, wsg, wsh, wsl, cond_true, cond_false, exists_eq_left', Option.some.injEq, Option.isSome_some, List.getElem?_toArray, List.getElem?_cons_zero, List.getElem?_cons_succ, List.length_cons, List.length_nil, List.set_cons_zero, List.set_cons_succ, List.getD_cons_zero, List.getD_cons_succ, Nat.zero_add, Nat.add_zero, Nat.reduceAdd, Nat.reduceLT, Nat.lt_add_one, Nat.zero_lt_succ, decide_true, decide_false, ne_eq, reduceCtorEq])
        intros
        exact hK
      · rw [decide_eq_false e] at hK ⊢
        (try simp only [wsv, wsg, wsh, wsl, cond_true, cond_false, exists_eq_left', Option.some.injEq, Option.isSome_some, List.getElem?_toArray, List.getElem?_cons_zero, List.getElem?_cons_succ, List.length_cons, List.length_nil, List.set_cons_zero, List.set_cons_succ, List.getD_cons_zero, List.getD_cons_succ, Nat.zero_add, Nat.add_zero, Nat.reduceAdd, Nat.reduceLT, Nat.lt_add_one, Nat.zero_lt_succ, decide_true, decide_false, ne_eq, reduceCtorEq])
        refine GdW.t ?_
        refine text_ld h hu ?_
        refine isnan_s2 ?_
        intro gg
        (try simp only [wsv, wsg, wsh, wsl, cond_true, cond_false, exists_eq_left', Option.some.injEq, Option.isSome_some, List.getElem?_toArray, List.getElem?_cons_zero, List.getElem?_cons_succ, List.length_cons, List.length_nil, List.set_cons_zero, List.set_cons_succ, List.getD_cons_zero, List.getD_cons_succ, Nat.zero_add, Nat.add_zero, Nat.reduceAdd, Nat.reduceLT, Nat.lt_add_one, Nat.zero_lt_succ, decide_true, decide_false, ne_eq, reduceCtorEq])
        intros
        exact hK
    · have hsome : idxK ks k = none := by
        rcases hi0 with h | h
        · exact h
        · have := (List.getElem?_eq_some_iff.1 (idxK_spec h)).1; omega
      rw [hsome] at hK
      have ed : decide ((lo : Int) < (ks.length : Int)) = false := decide_eq_false (by omega)
      simp only [wsv, wsg, wsh, wsl, cond_true, cond_false, exists_eq_left', Option.some.injEq, Option.isSome_some, List.getElem?_toArray, List.getElem?_cons_zero, List.getElem?_cons_succ, List.length_cons, List.length_nil, List.set_cons_zero, List.set_cons_succ, List.getD_cons_zero, List.getD_cons_succ, Nat.zero_add, Nat.add_zero, Nat.reduceAdd, Nat.reduceLT, Nat.lt_add_one, Nat.zero_lt_succ, decide_true, decide_false, ne_eq, reduceCtorEq, ed]
      intros
      exact hK
end
end Go.Proofs.YtnoepcndjljolaaGreatDoor
namespace Go.Proofs.YtnoepcndjljolaaGreatDoor
open Go Go.Eng Go.Num
set_option maxRecDepth 100000
section
variable [HX]
theorem get_p {v : JV} {cs : List Value} {k : Str} {w : World} {K : Value → World → Prop} (h : VRep w v cs) (k6 : v.k = 6) (hl : v.ks.length = v.xs.length) (hfew : fewM v = true) (hr : Rise v.ks)
    (hK : ∀ cs' w', Ext w w' → VRep w' ((getM v k).getD JV.null) cs' → K (.tuple #[.agg cs'.toArray, .bool (getM v k).isSome]) w') : callF Tryz.prog 106 [.agg cs.toArray, str k] w K := by
  have hfew2 := hfew
  rw [fewM_eq, fewL_all] at hfew2
  simp only [Bool.and_eq_true, decide_eq_true_eq, List.all_eq_true] at hfew2
  obtain ⟨⟨f1, f2⟩, f3⟩ := hfew2
  refine W106_ok ?_
  unfold W106
  refine box_val h fun a w1 sv kv hB hx _ => ?_
  refine alloc_new fun b w2 hb hz2 hbb hx2 => ?_
  have hB0 := hB
  have hB := hB.ext hx2
  have hgb : w1.heap.size ≤ b := by omega
  simp only [wsv, wsg, wsh, wsl, cond_true, cond_false, exists_eq_left', Option.some.injEq, Option.isSome_some, List.getElem?_toArray, List.getElem?_cons_zero, List.getElem?_cons_succ, List.length_cons, List.length_nil, List.set_cons_zero, List.set_cons_succ, List.getD_cons_zero, List.getD_cons_succ, Nat.zero_add, Nat.add_zero, Nat.reduceAdd, Nat.reduceLT, Nat.lt_add_one, Nat.zero_lt_succ, decide_true, decide_false, ne_eq, reduceCtorEq, wsh, hB.hb]
  obtain ⟨T2, hk2⟩ := hB.keys
  refine search_p hk2 f2 hr fun i hi0 _ _ hile => ?_
  have e6 : decide (v.k = 6) = true := decide_eq_true k6
  cases hx0 : idxK v.ks k with
  | none =>
    have hg : getM v k = none := by unfold getM; rw [if_pos k6, hx0]
    rw [hg] at hK
    simp only [Option.isSome_none]
    simp only [wsv, wsg, wsh, wsl, cond_true, cond_false, exists_eq_left', Option.some.injEq, Option.isSome_some, List.getElem?_toArray, List.getElem?_cons_zero, List.getElem?_cons_succ, List.length_cons, List.length_nil, List.set_cons_zero, List.set_cons_succ, List.getD_cons_zero, List.getD_cons_succ, Nat.zero_add, Nat.add_zero, Nat.reduceAdd, Nat.reduceLT, Nat.lt_add_one, Nat.zero_lt_succ, decide_true, decide_false, ne_eq, reduceCtorEq, wsh, hB.hb, e6]
    intros
    (try simp only [wsv, wsg, wsh, wsl, cond_true, cond_false, exists_eq_left', Option.some.injEq, Option.isSome_some, List.getElem?_toArray, List.getElem?_cons_zero, List.getElem?_cons_succ, List.length_cons, List.length_nil, List.set_cons_zero, List.set_cons_succ, List.getD_cons_zero, List.getD_cons_succ, Nat.zero_add, Nat.add_zero, Nat.reduceAdd, Nat.reduceLT, Nat.lt_add_one, Nat.zero_lt_succ, decide_true, decide_false, ne_eq, reduceCtorEq, wsh, hB.hb, e6])
    refine ret_val (K := fun r w => K (.tuple #[r, .bool false]) w) hbb rfl hgb hx2 (vrep_null w1) fun w4 hx4 _ h4 => ?_
    exact hK _ w4 (hx.trans hx4) h4
  | some j =>
    obtain rfl : j = i := by
      rcases hi0 with h | h
      · rw [h] at hx0; cases hx0
      · rw [h] at hx0; exact (Option.some.inj hx0).symm
    obtain ⟨x, hxi⟩ : ∃ x, v.xs[j]? = some x := ⟨_, List.getElem?_eq_getElem (by
      have := (List.getElem?_eq_some_iff.1 (idxK_spec hx0)).1
      omega)⟩
    have hg : getM v k = some x := by unfold getM; rw [if_pos k6, hx0]; exact hxi
    rw [hg] at hK
    simp only [Option.isSome_some]
    simp only [wsv, wsg, wsh, wsl, cond_true, cond_false, exists_eq_left', Option.some.injEq, Option.isSome_some, List.getElem?_toArray, List.getElem?_cons_zero, List.getElem?_cons_succ, List.length_cons, List.length_nil, List.set_cons_zero, List.set_cons_succ, List.getD_cons_zero, List.getD_cons_succ, Nat.zero_add, Nat.add_zero, Nat.reduceAdd, Nat.reduceLT, Nat.lt_add_one, Nat.zero_lt_succ, decide_true, decide_false, ne_eq, reduceCtorEq, wsh, hB.hb, e6]
    intros
    (try simp only [wsv, wsg, wsh, wsl, cond_true, cond_false, exists_eq_left', Option.some.injEq, Option.isSome_some, List.getElem?_toArray, List.getElem?_cons_zero, List.getElem?_cons_succ, List.length_cons, List.length_nil, List.set_cons_zero, List.set_cons_succ, List.getD_cons_zero, List.getD_cons_succ, Nat.zero_add, Nat.add_zero, Nat.reduceAdd, Nat.reduceLT, Nat.lt_add_one, Nat.zero_lt_succ, decide_true, decide_false, ne_eq, reduceCtorEq, wsh, hB.hb, e6])
    refine hB0.item_old hx2 hxi fun cs2 h2 => ?_
    refine clone_p x (f3 x (List.mem_of_getElem? hxi)) (h2.ext hx2) fun cs3 w3 hx3 h3 => ?_
    have hb3 := hx3.at hbb id
    refine ret_agg (K := fun r w => K (.tuple #[r, .bool true]) w) hb3 h3.rep.len rfl h3.rep.all_one fun w4 hc4 => ?_
    have hx4 : Ext w1 w4 := (hx2.trans hx3).new hc4 hgb
    refine hK _ w4 (hx.trans hx4) (VRepP.rep (VRepP.chg hc4 (fun q hq _ e => ?_) h3))
    have : w2.heap.size ≤ q := hq
    omega
end
end Go.Proofs.YtnoepcndjljolaaGreatDoor





namespace Go.Proofs.YtnoepcndjljolaaGreatDoor
open Go Go.Eng Go.Num
set_option maxRecDepth 100000
section
variable [HX]
theorem OwnV.rep {w0 w : World} {base : Nat} {v : JV} {sv kv : Value} (h : OwnV w0 w base v sv kv) (hx : Ext w0 w) : VRep w v [i64 v.k, .bool v.b, str v.t, sv, kv] := by
  obtain ⟨sv', kv', T1, T2, L, he, h1, h2, h3, h4⟩ := h.val
  simp only [List.cons.injEq, and_true, true_and] at he
  obtain ⟨rfl, rfl⟩ := he
  exact VRep.mk h1 (h2.ext hx) h3 h4
end
end Go.Proofs.YtnoepcndjljolaaGreatDoor
namespace Go.Proofs.YtnoepcndjljolaaGreatDoor
open Go Go.Eng
set_option maxRecDepth 100000
variable [HX]
def plan114 : Plan := { js := [], ds := [] }
def W114 (w : World) (K : Value → World → Prop) : Prop :=
  allocW 40 [(.int .i64 0), (.bool false), (.string (ofL [])), (.slice none 0 0), (.slice none 0 0)] w fun t0 w1 =>
  putW [(.int .i64 0), (.bool false), (.string (ofL [])), (.slice none 0 0), (.slice none 0 0)] [] fun c2 =>
  stW 5 t0 (.agg c2.toArray) w1 fun w3 =>
  ldW true 5 t0 w3 fun r4 =>
  K r4 w3
theorem W114_eq (w : World) (K : Value → World → Prop) : funW Tryz.prog Tryz.f114 plan114 [] w K = W114 w K := by kernel_rfl
theorem W114_chk : chkFun Tryz.prog Tryz.f114 plan114 0 = true := by kernel_rfl
theorem W114_ok {w : World} {K : Value → World → Prop} (h : W114 w K) : callF Tryz.prog 114 [] w K :=
  tie Tryz.prog 114 Tryz.f114 plan114 [] w K 0 (W114 w K) rfl mixed Tryz.func114 W114_chk (W114_eq w K) Tryz.call114 h
def plan115 : Plan := { js := [], ds := [] }
def W115 (v0 : Value) (w : World) (K : Value → World → Prop) : Prop :=
  allocW 40 [(.int .i64 0), (.bool false), (.string (ofL [])), (.slice none 0 0), (.slice none 0 0)] w fun t2 w1 =>
  putW [(.int .i64 0), (.bool false), (.string (ofL [])), (.slice none 0 0), (.slice none 0 0)] [(0, 1, (.int .i64 2)), (1, 1, v0)] fun c2 =>
  stW 5 t2 (.agg c2.toArray) w1 fun w3 =>
  ldW true 5 t2 w3 fun r4 =>
  K r4 w3
theorem W115_eq (v0 : Value) (w : World) (K : Value → World → Prop) : funW Tryz.prog Tryz.f115 plan115 [v0] w K = W115 v0 w K := by kernel_rfl
theorem W115_chk : chkFun Tryz.prog Tryz.f115 plan115 1 = true := by kernel_rfl
theorem W115_ok {v0 : Value} {w : World} {K : Value → World → Prop} (h : W115 v0 w K) : callF Tryz.prog 115 [v0] w K :=
  tie Tryz.prog 115 Tryz.f115 plan115 [v0] w K 1 (W115 v0 w K) rfl mixed Tryz.func115 W115_chk (W115_eq v0 w K) Tryz.call115 h
def plan174 : Plan := { js := [(2, ⟨[], [], 7⟩)], ds := [(9, ⟨[0, 2, 3], [[], [0], [], [], [0, 1, 3], [0, 1, 2, 3, 4], [0, 1, 2, 3, 4, 5]]⟩)] }
def W174 (v0 v1 v2 : Value) (w : World) (K : Value → World → Prop) : Prop :=
  boxW 40 v0 w fun t3 w1 =>
  boxW 40 v2 w1 fun t5 w2 =>
  allocW 40 [(.int .i64 0), (.bool false), (.string (ofL [])), (.slice none 0 0), (.slice none 0 0)] w2 fun t6 w3 =>
  JoinW (fun J4 =>
    fldW 0 t3 fun t7 =>
    ldW false 1 t7 w3 fun t8 =>
    binW .neq t8 (.int .i64 6) fun t9 =>
    condW t9 (
      putW [(.int .i64 0), (.bool false), (.string (ofL [])), (.slice none 0 0), (.slice none 0 0)] [(0, 1, (.int .i64 6))] fun c5 =>
      stW 5 t3 (.agg c5.toArray) w3 fun w6 =>
      J4 [] w6) (
      J4 [] w3))
  fun s4 _ w7 =>
  ldW true 5 t3 w7.drew fun t11 =>
  ldW true 5 t5 w7.drew fun t14 =>
  callF Tryz.prog 71 [t11] w7.drew fun t12 w8 =>
  (ldW true 5 t5 w8 fun x => x = t14) ∧
  callF Tryz.prog 71 [t14] w8 fun t15 w9 =>
  callF Tryz.prog 107 [t12, v1, t15] w9 fun t16 w10 =>
  stW 5 t6 t16 w10 fun w11 =>
  ldW true 5 t6 w11 fun r12 =>
  K r12 w11
theorem W174_eq (v0 v1 v2 : Value) (w : World) (K : Value → World → Prop) : funW Tryz.prog Tryz.f174 plan174 [v0, v1, v2] w K = W174 v0 v1 v2 w K := by kernel_rfl
theorem W174_chk : chkFun Tryz.prog Tryz.f174 plan174 3 = true := by kernel_rfl
theorem W174_ok {v0 v1 v2 : Value} {w : World} {K : Value → World → Prop} (h : W174 v0 v1 v2 w K) : callF Tryz.prog 174 [v0, v1, v2] w K :=
  tie Tryz.prog 174 Tryz.f174 plan174 [v0, v1, v2] w K 3 (W174 v0 v1 v2 w K) rfl mixed Tryz.func174 W174_chk (W174_eq v0 v1 v2 w K) Tryz.call174 h
def plan107 : Plan := { js := [(14, ⟨[], [], 7⟩)], ds := [(15, ⟨[0, 1, 2, 3, 6, 7, 8, 9, 12, 14], [[], [0], [], [], [3], [0, 1, 2, 3, 4], [], [6], [], [], [9], [0, 1, 2, 3, 4, 5, 6, 7, 8, 9, 10], [0, 1, 2, 3, 4, 5, 6, 7], [0, 1, 2, 3, 4, 5, 6, 7, 8, 9, 10, 11, 12], [0, 1, 2, 3, 4, 5, 6, 7, 8, 9, 10, 11, 12, 13], [0, 1, 2, 3, 4, 5, 6, 7, 8, 9, 10, 11, 12, 13, 14]]⟩)] }
def W107 (v0 v1 v2 : Value) (w : World) (K : Value → World → Prop) : Prop :=
  boxW 40 v0 w fun t3 w1 =>
  boxW 40 v2 w1 fun t5 w2 =>
  allocW 40 [(.int .i64 0), (.bool false), (.string (ofL [])), (.slice none 0 0), (.slice none 0 0)] w2 fun t6 w3 =>
  fldW 4 t3 fun t10 =>
  ldW false 1 t10 w3 fun t11 =>
  callF Tryz.prog 161 [t11, v1] w3 fun t13 w4 =>
  extW 0 t13 fun t14 =>
  extW 1 t13 fun t15 =>
  condW t15 (
    fldW 3 t3 fun t17 =>
    ldW false 1 t17 w4 fun t18 =>
    ldW true 5 t5 w4 fun t20 =>
    ixaW none 5 t18 t14 fun t21 =>
    stW 5 t21 t20 w4 fun w5 =>
    ldW true 5 t3 w5 fun t22 =>
    stW 5 t6 t22 w5 fun w6 =>
    ldW true 5 t6 w6 fun r7 =>
    K r7 w6) (
    JoinW (fun J8 =>
      fldW 4 t3 fun t23 =>
      ldW false 1 t23 w4.drew fun t24 =>
      fldW 3 t3 fun t29 =>
      ldW false 1 t29 w4.drew fun t30 =>
      ldW true 5 t5 w4.drew fun t32 =>
      (
       bslW 9 1 [(.string (ofL []))] [(0, 1, v1)] w4.drew fun t27 w9 =>
       (ldW true 5 t5 w9 fun x => x = t32) ∧
       (ldW false 1 t29 w9 fun x => x = t30) ∧
       (ldW false 1 t23 w9 fun x => x = t24) ∧
       (
        callF Tryz.prog 162 [t24, t14, t27] w9 fun t28 w10 =>
        (ldW true 5 t5 w10 fun x => x = t32) ∧
        (ldW false 1 t29 w10 fun x => x = t30) ∧
        fldW 4 t3 fun t35 =>
        bslW 40 1 [(.int .i64 0), (.bool false), (.string (ofL [])), (.slice none 0 0), (.slice none 0 0)] [(0, 5, t32)] w10 fun t33 w11 =>
        (ldW false 1 t29 w11 fun x => x = t30) ∧
        callF Tryz.prog 163 [t30, t14, t33] w11 fun t34 w12 =>
        stW 1 t35 t28 w12 fun w13 =>
        fldW 3 t3 fun t36 =>
        stW 1 t36 t34 w13 fun w14 =>
      J8 [] w14) ∧
       (
        bslW 40 1 [(.int .i64 0), (.bool false), (.string (ofL [])), (.slice none 0 0), (.slice none 0 0)] [(0, 5, t32)] w9 fun t33 w15 =>
        (ldW false 1 t29 w15 fun x => x = t30) ∧
        (ldW false 1 t23 w15 fun x => x = t24) ∧
        callF Tryz.prog 162 [t24, t14, t27] w15 fun t28 w16 =>
        (ldW false 1 t29 w16 fun x => x = t30) ∧
        fldW 4 t3 fun t35 =>
        callF Tryz.prog 163 [t30, t14, t33] w16 fun t34 w17 =>
        stW 1 t35 t28 w17 fun w18 =>
        fldW 3 t3 fun t36 =>
        stW 1 t36 t34 w18 fun w19 =>
      J8 [] w19)) ∧
      (
       bslW 40 1 [(.int .i64 0), (.bool false), (.string (ofL [])), (.slice none 0 0), (.slice none 0 0)] [(0, 5, t32)] w4.drew fun t33 w20 =>
       (ldW false 1 t29 w20 fun x => x = t30) ∧
       (ldW false 1 t23 w20 fun x => x = t24) ∧
       bslW 9 1 [(.string (ofL []))] [(0, 1, v1)] w20 fun t27 w21 =>
       (ldW false 1 t29 w21 fun x => x = t30) ∧
       (ldW false 1 t23 w21 fun x => x = t24) ∧
       callF Tryz.prog 162 [t24, t14, t27] w21 fun t28 w22 =>
       (ldW false 1 t29 w22 fun x => x = t30) ∧
       fldW 4 t3 fun t35 =>
       callF Tryz.prog 163 [t30, t14, t33] w22 fun t34 w23 =>
       stW 1 t35 t28 w23 fun w24 =>
       fldW 3 t3 fun t36 =>
       stW 1 t36 t34 w24 fun w25 =>
      J8 [] w25))
    fun s8 _ w26 =>
    ldW true 5 t3 w26 fun t37 =>
    stW 5 t6 t37 w26 fun w27 =>
    ldW true 5 t6 w27 fun r28 =>
    K r28 w27)
theorem W107_eq (v0 v1 v2 : Value) (w : World) (K : Value → World → Prop) : funW Tryz.prog Tryz.f107 plan107 [v0, v1, v2] w K = W107 v0 v1 v2 w K := by kernel_rfl
theorem W107_chk : chkFun Tryz.prog Tryz.f107 plan107 3 = true := by kernel_rfl
theorem W107_ok {v0 v1 v2 : Value} {w : World} {K : Value → World → Prop} (h : W107 v0 v1 v2 w K) : callF Tryz.prog 107 [v0, v1, v2] w K :=
  tie Tryz.prog 107 Tryz.f107 plan107 [v0, v1, v2] w K 3 (W107 v0 v1 v2 w K) rfl mixed Tryz.func107 W107_chk (W107_eq v0 v1 v2 w K) Tryz.call107 h
def plan162 : Plan := { js := [], ds := [(45, ⟨[0, 1, 2, 3, 4, 5, 6, 7], [[], [], [], [1, 2], [0, 1, 2, 3], [], [], [5, 6], [0, 1, 2, 3, 4, 5, 6, 7]]⟩), (33, ⟨[0, 1, 2, 3, 4, 5, 6, 7], [[], [], [], [1, 2], [0, 1, 2, 3], [], [], [5, 6], [0, 1, 2, 3, 4, 5, 6, 7]]⟩)] }
def W162 (v0 v1 v2 : Value) (w : World) (K : Value → World → Prop) : Prop :=
  sllW 1 v0 (some v1) none none fun t12 =>
  lenlW v2 fun t14 =>
  binW .eql t14 (.int .i64 0) fun t16 =>
  condW t16 (
    K v0 w) (
    lenlW v0 fun t19 =>
    binW .eql v1 t19 fun t22 =>
    condW t22 (
      semE Tryz.prog (Builtin.append_ #[38, 38] 38 #[v0, v2]) w fun t25 w1 =>
      K t25 w1) (
      binW .add t19 t14 fun t28 =>
      capW v0 fun t30 =>
      binW .gtr t28 t30 fun t31 =>
      condW t31 (
        sllW 1 v0 none (some v1) none fun t34 =>
        binW .add t19 t14 fun t37 =>
        binW .sub t37 v1 fun t39 =>
        semE Tryz.prog (Builtin.append_ #[38, 3] 38 #[t34, t39]) w fun t40 w2 =>
        sllW 1 t40 (some v1) none none fun t43 =>
        semE Tryz.prog (Builtin.copy_ #[38, 38] 3 #[t43, v2]) w2 fun t45 w3 =>
        binW .add v1 t14 fun t49 =>
        sllW 1 t40 (some t49) none none fun t50 =>
        sllW 1 v0 (some v1) none none fun t53 =>
        semE Tryz.prog (Builtin.copy_ #[38, 38] 3 #[t50, t53]) w3.drew fun t54 w4 =>
        K t40 w4) (
        binW .add t19 t14 fun t59 =>
        sllW 1 v0 none (some t59) none fun t60 =>
        binW .add v1 t14 fun t65 =>
        sllW 1 t60 (some t65) none none fun t66 =>
        callF Tryz.prog 211 [v2, t66] w fun t67 w5 =>
        unW .not t67 fun t68 =>
        condW t68 (
          binW .add v1 t14 fun t72 =>
          sllW 1 t60 (some t72) none none fun t73 =>
          sllW 1 t60 (some v1) none none fun t76 =>
          semE Tryz.prog (Builtin.copy_ #[38, 38] 3 #[t73, t76]) w5.drew fun t77 w6 =>
          sllW 1 t60 (some v1) none none fun t80 =>
          semE Tryz.prog (Builtin.copy_ #[38, 38] 3 #[t80, v2]) w6 fun t82 w7 =>
          K t60 w7) (
          sllW 1 t60 (some t19) none none fun t86 =>
          semE Tryz.prog (Builtin.copy_ #[38, 38] 3 #[t86, v2]) w5 fun t88 w8 =>
          sllW 1 t60 (some v1) none none fun t91 =>
          callF Tryz.prog 212 [t91, t14] w8 fun t93 w9 =>
          K t60 w9))))
theorem W162_eq (v0 v1 v2 : Value) (w : World) (K : Value → World → Prop) : funW Tryz.prog Tryz.f162 plan162 [v0, v1, v2] w K = W162 v0 v1 v2 w K := by kernel_rfl
theorem W162_chk : chkFun Tryz.prog Tryz.f162 plan162 3 = true := by kernel_rfl
theorem W162_ok {v0 v1 v2 : Value} {w : World} {K : Value → World → Prop} (h : W162 v0 v1 v2 w K) : callF Tryz.prog 162 [v0, v1, v2] w K :=
  tie Tryz.prog 162 Tryz.f162 plan162 [v0, v1, v2] w K 3 (W162 v0 v1 v2 w K) rfl mixed Tryz.func162 W162_chk (W162_eq v0 v1 v2 w K) Tryz.call162 h
def plan163 : Plan := { js := [], ds := [(45, ⟨[0, 1, 2, 3, 4, 5, 6, 7], [[], [], [], [1, 2], [0, 1, 2, 3], [], [], [5, 6], [0, 1, 2, 3, 4, 5, 6, 7]]⟩), (33, ⟨[0, 1, 2, 3, 4, 5, 6, 7], [[], [], [], [1, 2], [0, 1, 2, 3], [], [], [5, 6], [0, 1, 2, 3, 4, 5, 6, 7]]⟩)] }
def W163 (v0 v1 v2 : Value) (w : World) (K : Value → World → Prop) : Prop :=
  sllW 5 v0 (some v1) none none fun t12 =>
  lenlW v2 fun t14 =>
  binW .eql t14 (.int .i64 0) fun t16 =>
  condW t16 (
    K v0 w) (
    lenlW v0 fun t19 =>
    binW .eql v1 t19 fun t22 =>
    condW t22 (
      semE Tryz.prog (Builtin.append_ #[37, 37] 37 #[v0, v2]) w fun t25 w1 =>
      K t25 w1) (
      binW .add t19 t14 fun t28 =>
      capW v0 fun t30 =>
      binW .gtr t28 t30 fun t31 =>
      condW t31 (
        sllW 5 v0 none (some v1) none fun t34 =>
        binW .add t19 t14 fun t37 =>
        binW .sub t37 v1 fun t39 =>
        semE Tryz.prog (Builtin.append_ #[37, 3] 37 #[t34, t39]) w fun t40 w2 =>
        sllW 5 t40 (some v1) none none fun t43 =>
        semE Tryz.prog (Builtin.copy_ #[37, 37] 3 #[t43, v2]) w2 fun t45 w3 =>
        binW .add v1 t14 fun t49 =>
        sllW 5 t40 (some t49) none none fun t50 =>
        sllW 5 v0 (some v1) none none fun t53 =>
        semE Tryz.prog (Builtin.copy_ #[37, 37] 3 #[t50, t53]) w3.drew fun t54 w4 =>
        K t40 w4) (
        binW .add t19 t14 fun t59 =>
        sllW 5 v0 none (some t59) none fun t60 =>
        binW .add v1 t14 fun t65 =>
        sllW 5 t60 (some t65) none none fun t66 =>
        callF Tryz.prog 213 [v2, t66] w fun t67 w5 =>
        unW .not t67 fun t68 =>
        condW t68 (
          binW .add v1 t14 fun t72 =>
          sllW 5 t60 (some t72) none none fun t73 =>
          sllW 5 t60 (some v1) none none fun t76 =>
          semE Tryz.prog (Builtin.copy_ #[37, 37] 3 #[t73, t76]) w5.drew fun t77 w6 =>
          sllW 5 t60 (some v1) none none fun t80 =>
          semE Tryz.prog (Builtin.copy_ #[37, 37] 3 #[t80, v2]) w6 fun t82 w7 =>
          K t60 w7) (
          sllW 5 t60 (some t19) none none fun t86 =>
          semE Tryz.prog (Builtin.copy_ #[37, 37] 3 #[t86, v2]) w5 fun t88 w8 =>
          sllW 5 t60 (some v1) none none fun t91 =>
          callF Tryz.prog 214 [t91, t14] w8 fun t93 w9 =>
          K t60 w9))))
theorem W163_eq (v0 v1 v2 : Value) (w : World) (K : Value → World → Prop) : funW Tryz.prog Tryz.f163 plan163 [v0, v1, v2] w K = W163 v0 v1 v2 w K := by kernel_rfl
theorem W163_chk : chkFun Tryz.prog Tryz.f163 plan163 3 = true := by kernel_rfl
theorem W163_ok {v0 v1 v2 : Value} {w : World} {K : Value → World → Prop} (h : W163 v0 v1 v2 w K) : callF Tryz.prog 163 [v0, v1, v2] w K :=
  tie Tryz.prog 163 Tryz.f163 plan163 [v0, v1, v2] w K 3 (W163 v0 v1 v2 w K) rfl mixed Tryz.func163 W163_chk (W163_eq v0 v1 v2 w K) Tryz.call163 h
def plan241 : Plan := { js := [], ds := [] }
def W241 (v0 v1 : Value) (w : World) (K : Value → World → Prop) : Prop :=
  callF Tryz.prog 257 [v0, v1] w fun t7 w1 =>
  binW .geq t7 (.int .i64 0) fun t8 =>
  K t8 w1
theorem W241_eq (v0 v1 : Value) (w : World) (K : Value → World → Prop) : funW Tryz.prog Tryz.f241 plan241 [v0, v1] w K = W241 v0 v1 w K := by kernel_rfl
theorem W241_chk : chkFun Tryz.prog Tryz.f241 plan241 2 = true := by kernel_rfl
theorem W241_ok {v0 v1 : Value} {w : World} {K : Value → World → Prop} (h : W241 v0 v1 w K) : callF Tryz.prog 241 [v0, v1] w K :=
  tie Tryz.prog 241 Tryz.f241 plan241 [v0, v1] w K 2 (W241 v0 v1 w K) rfl mixed Tryz.func241 W241_chk (W241_eq v0 v1 w K) Tryz.call241 h
def plan218 : Plan := { js := [(155004, ⟨[168], [], 166⟩), (98, ⟨[12, 13], [6, 7, 12, 13, 15, 16, 17], 102⟩), (145004, ⟨[158], [], 156⟩), (104, ⟨[12, 16], [6, 7, 12, 16], 102⟩), (117005, ⟨[128], [], 126⟩), (113004, ⟨[117], [], 116⟩), (107003, ⟨[110], [], 110⟩), (91, ⟨[12, 13, 101], [6, 7, 12, 13, 15, 16, 17], 101⟩), (68, ⟨[10], [], 10⟩), (54, ⟨[2], [2, 6, 7], 10⟩), (60003, ⟨[82], [], 81⟩), (14, ⟨[0, 1], [0, 1, 6, 7], 10⟩), (42006, ⟨[72], [], 69⟩), (36006, ⟨[60], [], 57⟩), (30006, ⟨[48], [], 45⟩), (17004, ⟨[30], [], 29⟩)], ds := [] }
def W218 (v0 v1 v2 : Value) (w : World) (K : Value → World → Prop) : Prop :=
  binW .eql v0 (.string (ofL [])) fun t19 =>
  condW t19 (
    K (.tuple #[(.int .u64 0), (.iface 201 (.int .i64 2))]) w) (
    binW .eql v1 (.int .i64 0) fun t22 =>
    JoinW (fun J1 =>
      binW .leq (.int .i64 2) v1 fun t27 =>
      GdW (isB t27 true) [undef] w (fun J2 =>
        binW .leq v1 (.int .i64 36) fun t30 =>
        J2 [t30] w)
      fun s2 _ w3 =>
      pickW t27 (s2.getD 0 undef) (.bool false) fun t31 =>
      condW t31 (
        J1 [v0, v1] w3) (
        binW .eql v1 (.int .i64 0) fun t34 =>
        condW t34 (
          ixsW v0 (.int .i64 0) fun t36 =>
          binW .eql t36 (.int .u8 48) fun t37 =>
          condW t37 (
            lensW v0 fun t42 =>
            binW .geq t42 (.int .i64 3) fun t43 =>
            GdW (isB t43 true) [undef] w3 (fun J4 =>
              ixsW v0 (.int .i64 1) fun t46 =>
              callF Tryz.prog 243 [t46] w3 fun t47 w5 =>
              binW .eql t47 (.int .u8 98) fun t48 =>
              J4 [t48] w5)
            fun s4 _ w6 =>
            pickW t43 (s4.getD 0 undef) (.bool false) fun t49 =>
            condW t49 (
              slsW v0 (some (.int .i64 2)) none fun t51 =>
              J1 [t51, (.int .i64 2)] w6) (
              lensW v0 fun t54 =>
              binW .geq t54 (.int .i64 3) fun t55 =>
              GdW (isB t55 true) [undef] w6 (fun J7 =>
                ixsW v0 (.int .i64 1) fun t58 =>
                callF Tryz.prog 243 [t58] w6 fun t59 w8 =>
                binW .eql t59 (.int .u8 111) fun t60 =>
                J7 [t60] w8)
              fun s7 _ w9 =>
              pickW t55 (s7.getD 0 undef) (.bool false) fun t61 =>
              condW t61 (
                slsW v0 (some (.int .i64 2)) none fun t63 =>
                J1 [t63, (.int .i64 8)] w9) (
                lensW v0 fun t66 =>
                binW .geq t66 (.int .i64 3) fun t67 =>
                GdW (isB t67 true) [undef] w9 (fun J10 =>
                  ixsW v0 (.int .i64 1) fun t70 =>
                  callF Tryz.prog 243 [t70] w9 fun t71 w11 =>
                  binW .eql t71 (.int .u8 120) fun t72 =>
                  J10 [t72] w11)
                fun s10 _ w12 =>
                pickW t67 (s10.getD 0 undef) (.bool false) fun t73 =>
                condW t73 (
                  slsW v0 (some (.int .i64 2)) none fun t75 =>
                  J1 [t75, (.int .i64 16)] w12) (
                  slsW v0 (some (.int .i64 1)) none fun t39 =>
                  J1 [t39, (.int .i64 8)] w12)))) (
            J1 [v0, (.int .i64 10)] w3)) (
          K (.tuple #[(.int .u64 0), (.iface 201 (.int .i64 3))]) w3)))
    fun s1 _ w13 =>
    JoinW (fun J14 =>
      binW .eql v2 (.int .i64 0) fun t77 =>
      condW t77 (
        J14 [(.int .i64 64)] w13) (
        binW .lss v2 (.int .i64 0) fun t79 =>
        GdW (isB t79 false) [undef] w13 (fun J15 =>
          binW .gtr v2 (.int .i64 64) fun t82 =>
          J15 [t82] w13)
        fun s15 _ w16 =>
        pickW t79 (.bool true) (s15.getD 0 undef) fun t83 =>
        condW t83 (
          K (.tuple #[(.int .u64 0), (.iface 201 (.int .i64 4))]) w16) (
          J14 [v2] w16)))
    fun s14 _ w17 =>
    JoinW (fun J18 =>
      binW .eql (s1.getD 1 undef) (.int .i64 10) fun t91 =>
      condW t91 (
        J18 [(.int .u64 1844674407370955162)] w17) (
        binW .eql (s1.getD 1 undef) (.int .i64 16) fun t93 =>
        condW t93 (
          J18 [(.int .u64 1152921504606846976)] w17) (
          cvtW .u64 (s1.getD 1 undef) fun t87 =>
          binW .quo (.int .u64 18446744073709551615) t87 fun t88 =>
          binW .add t88 (.int .u64 1) fun t89 =>
          J18 [t89] w17)))
    fun s18 _ w19 =>
    cvtW .u64 (s14.getD 0 undef) fun t95 =>
    binW .shl (.int .u64 1) t95 fun t96 =>
    binW .sub t96 (.int .u64 1) fun t97 =>
    semE Tryz.prog (convert 9 27 (s1.getD 0 undef)) w19 fun t99 w20 =>
    lenlW t99 fun t100 =>
    LoopW [(.bool false), (.int .u64 0), (.int .i64 0)] w20 fun s21 _ w22 L21 =>
      binW .lss (s21.getD 2 undef) t100 fun t102 =>
      condW t102 (
        JoinW (fun J23 =>
          ixaW none 1 t99 (s21.getD 2 undef) fun t103 =>
          ldW false 1 t103 w22 fun t104 =>
          JoinW (fun J24 =>
            binW .eql t104 (.int .u8 95) fun t108 =>
            GdW (isB t108 true) [undef] w22 (fun J25 =>
              J25 [t22] w22)
            fun s25 _ w26 =>
            pickW t108 (s25.getD 0 undef) (.bool false) fun t111 =>
            condW t111 (
              J23 [(.bool true), (s21.getD 1 undef)] w26) (
              binW .leq (.int .u8 48) t104 fun t114 =>
              GdW (isB t114 true) [undef] w26 (fun J27 =>
                binW .leq t104 (.int .u8 57) fun t117 =>
                J27 [t117] w26)
              fun s27 _ w28 =>
              pickW t114 (s27.getD 0 undef) (.bool false) fun t118 =>
              condW t118 (
                binW .sub t104 (.int .u8 48) fun t120 =>
                J24 [(s21.getD 0 undef), t120] w28) (
                callF Tryz.prog 243 [t104] w28 fun t123 w29 =>
                binW .leq (.int .u8 97) t123 fun t124 =>
                GdW (isB t124 true) [undef] w29 (fun J30 =>
                  callF Tryz.prog 243 [t104] w29 fun t127 w31 =>
                  binW .leq t127 (.int .u8 122) fun t128 =>
                  J30 [t128] w31)
                fun s30 _ w32 =>
                pickW t124 (s30.getD 0 undef) (.bool false) fun t129 =>
                condW t129 (
                  callF Tryz.prog 243 [t104] w32 fun t131 w33 =>
                  binW .sub t131 (.int .u8 97) fun t132 =>
                  binW .add t132 (.int .u8 10) fun t133 =>
                  J24 [(s21.getD 0 undef), t133] w33) (
                  K (.tuple #[(.int .u64 0), (.iface 201 (.int .i64 2))]) w32))))
          fun s24 _ w34 =>
          cvtW .u8 (s1.getD 1 undef) fun t136 =>
          binW .geq (s24.getD 1 undef) t136 fun t137 =>
          condW t137 (
            K (.tuple #[(.int .u64 0), (.iface 201 (.int .i64 2))]) w34) (
            binW .geq (s21.getD 1 undef) (s18.getD 0 undef) fun t141 =>
            condW t141 (
              K (.tuple #[t97, (.iface 201 (.int .i64 1))]) w34) (
              cvtW .u64 (s1.getD 1 undef) fun t146 =>
              binW .mul (s21.getD 1 undef) t146 fun t147 =>
              cvtW .u64 (s24.getD 1 undef) fun t150 =>
              binW .add t147 t150 fun t151 =>
              binW .lss t151 t147 fun t154 =>
              GdW (isB t154 false) [undef] w34 (fun J35 =>
                binW .gtr t151 t97 fun t158 =>
                J35 [t158] w34)
              fun s35 _ w36 =>
              pickW t154 (.bool true) (s35.getD 0 undef) fun t159 =>
              condW t159 (
                K (.tuple #[t97, (.iface 201 (.int .i64 1))]) w36) (
                J23 [(s24.getD 0 undef), t151] w36))))
        fun s23 _ w37 =>
        binW .add (s21.getD 2 undef) (.int .i64 1) fun t163 =>
        L21 [(s23.getD 0 undef), (s23.getD 1 undef), t163] w37) (
        GdW (isB (s21.getD 0 undef) true) [undef] w22 (fun J38 =>
          callF Tryz.prog 244 [v0] w22 fun t167 w39 =>
          unW .not t167 fun t168 =>
          J38 [t168] w39)
        fun s38 _ w40 =>
        pickW (s21.getD 0 undef) (s38.getD 0 undef) (.bool false) fun t169 =>
        condW t169 (
          K (.tuple #[(.int .u64 0), (.iface 201 (.int .i64 2))]) w40) (
          K (.tuple #[(s21.getD 1 undef), .nilIface]) w40)))
theorem W218_eq (v0 v1 v2 : Value) (w : World) (K : Value → World → Prop) : funW Tryz.prog Tryz.f218 plan218 [v0, v1, v2] w K = W218 v0 v1 v2 w K := by kernel_rfl
theorem W218_chk : chkFun Tryz.prog Tryz.f218 plan218 3 = true := by kernel_rfl
theorem W218_ok {v0 v1 v2 : Value} {w : World} {K : Value → World → Prop} (h : W218 v0 v1 v2 w K) : callF Tryz.prog 218 [v0, v1, v2] w K :=
  tie Tryz.prog 218 Tryz.f218 plan218 [v0, v1, v2] w K 3 (W218 v0 v1 v2 w K) rfl mixed Tryz.func218 W218_chk (W218_eq v0 v1 v2 w K) Tryz.call218 h
def plan257 : Plan := { js := [(65, ⟨[], [4, 9, 10], 46⟩), (26, ⟨[], [], 2⟩), (39, ⟨[8], [4], 7⟩), (16, ⟨[5], [], 1⟩)], ds := [] }
def W257 (v0 v1 : Value) (w : World) (K : Value → World → Prop) : Prop :=
  binW .eql v1 (.string (ofL [])) fun t12 =>
  condW t12 (
    K (.int .i64 (-1)) w) (
    lensW v1 fun t14 =>
    binW .eql t14 (.int .i64 1) fun t15 =>
    condW t15 (
      ixsW v1 (.int .i64 0) fun t17 =>
      cvtW .i32 t17 fun t18 =>
      JoinW (fun J1 =>
        binW .geq t18 (.int .i32 128) fun t20 =>
        condW t20 (
          J1 [(.int .i32 65533)] w) (
          J1 [t18] w))
      fun s1 _ w2 =>
      callF Tryz.prog 260 [v0, (s1.getD 0 undef)] w2 fun t23 w3 =>
      K t23 w3) (
      JoinW (fun J4 =>
        lensW v0 fun t25 =>
        callF Tryz.prog 261 [t25] w fun t26 w5 =>
        condW t26 (
          callF Tryz.prog 262 [v1] w5 fun t29 w6 =>
          extW 0 t29 fun t30 =>
          extW 1 t29 fun t31 =>
          allocW 257 (List.replicate 256 (.bool false)) w6 fun t6 w7 =>
          stW 256 t6 t30 w7 fun w8 =>
          condW t31 (
            LoopW [(.int .i64 0)] w8 fun s9 _ w10 L9 =>
              lensW v0 fun t35 =>
              binW .lss (s9.getD 0 undef) t35 fun t36 =>
              condW t36 (
                ixsW v0 (s9.getD 0 undef) fun t41 =>
                callF Tryz.prog 263 [t6, t41] w10 fun t42 w11 =>
                condW t42 (
                  K (s9.getD 0 undef) w11) (
                  binW .add (s9.getD 0 undef) (.int .i64 1) fun t38 =>
                  L9 [t38] w11)) (
                K (.int .i64 (-1)) w10)) (
            J4 [] w8)) (
          J4 [] w5))
      fun s4 _ w12 =>
      semE Tryz.prog (Instr.range 9 v0) w12 fun t45 w13 =>
      LoopW [] w13 fun s14 _ w15 L14 =>
        semE Tryz.prog (Instr.next t45 true 0) w15 fun t46 w16 =>
        extW 0 t46 fun t47 =>
        condW t47 (
          extW 1 t46 fun t48 =>
          extW 2 t46 fun t49 =>
          callF Tryz.prog 260 [v1, t49] w16 fun t52 w17 =>
          binW .geq t52 (.int .i64 0) fun t53 =>
          condW t53 (
            K t48 w17) (
            L14 [] w17)) (
          K (.int .i64 (-1)) w16)))
theorem W257_eq (v0 v1 : Value) (w : World) (K : Value → World → Prop) : funW Tryz.prog Tryz.f257 plan257 [v0, v1] w K = W257 v0 v1 w K := by kernel_rfl
theorem W257_chk : chkFun Tryz.prog Tryz.f257 plan257 2 = true := by kernel_rfl
theorem W257_ok {v0 v1 : Value} {w : World} {K : Value → World → Prop} (h : W257 v0 v1 w K) : callF Tryz.prog 257 [v0, v1] w K :=
  tie Tryz.prog 257 Tryz.f257 plan257 [v0, v1] w K 2 (W257 v0 v1 w K) rfl mixed Tryz.func257 W257_chk (W257_eq v0 v1 w K) Tryz.call257 h
def plan260 : Plan := { js := [(144, ⟨[], [4], 16⟩), (153, ⟨[16], [], 16⟩), (147007, ⟨[138], [], 133⟩), (137, ⟨[9], [4, 9], 16⟩), (108002, ⟨[97], [], 85⟩), (108006, ⟨[96], [], 93⟩), (108008, ⟨[92], [], 85⟩), (108013, ⟨[90], [], 86⟩), (108014, ⟨[85], [], 85⟩), (108020, ⟨[82], [], 79⟩), (108026, ⟨[76], [], 73⟩), (82, ⟨[12], [], 10⟩), (62, ⟨[9], [4], 9⟩), (53, ⟨[9], [4], 9⟩), (16, ⟨[], [4, 5, 6], 176⟩), (4004, ⟨[165], [], 164⟩)], ds := [(163, ⟨[0, 1, 2, 3, 4, 5, 6, 7, 8, 9, 10], [[], [], [], [1, 2], [0, 1, 2, 3], [], [], [], [6, 7], [5, 6, 7, 8], [0, 1, 2, 3, 4, 5, 6, 7, 8, 9]]⟩), (92, ⟨[0, 1, 2, 3, 4, 5, 6, 7, 8, 9, 10], [[], [], [], [1, 2], [0, 1, 2, 3], [], [], [], [6, 7], [5, 6, 7, 8], [0, 1, 2, 3, 4, 5, 6, 7, 8, 9]]⟩), (67, ⟨[0, 1, 2, 3, 4, 5, 6, 8], [[], [], [1], [0, 1, 2], [], [], [4, 5], [0, 1, 2, 3, 4, 5, 6], [0, 1, 2, 3, 4, 5, 6, 7]]⟩), (64, ⟨[0, 1, 2, 3, 4, 5, 6], [[], [], [0, 1], [], [], [3, 4], [0, 1, 2, 3, 4, 5]]⟩)] }
def W260 (v0 v1 : Value) (w : World) (K : Value → World → Prop) : Prop :=
  binW .leq (.int .i32 0) v1 fun t162 =>
  GdW (isB t162 true) [undef] w (fun J1 =>
    binW .lss v1 (.int .i32 128) fun t165 =>
    J1 [t165] w)
  fun s1 _ w2 =>
  pickW t162 (s1.getD 0 undef) (.bool false) fun t166 =>
  condW t166 (
    cvtW .u8 v1 fun t169 =>
    callF Tryz.prog 76 [v0, t169] w2 fun t170 w3 =>
    K t170 w3) (
    binW .eql v1 (.int .i32 65533) fun t173 =>
    condW t173 (
      semE Tryz.prog (Instr.range 9 v0) w2 fun t175 w4 =>
      LoopW [] w4 fun s5 _ w6 L5 =>
        semE Tryz.prog (Instr.next t175 true 0) w6 fun t176 w7 =>
        extW 0 t176 fun t177 =>
        condW t177 (
          extW 1 t176 fun t178 =>
          extW 2 t176 fun t179 =>
          binW .eql t179 (.int .i32 65533) fun t181 =>
          condW t181 (
            K t178 w7) (
            L5 [] w7)) (
          K (.int .i64 (-1)) w7)) (
      callF Tryz.prog 264 [v1] w2 fun t185 w8 =>
      unW .not t185 fun t186 =>
      condW t186 (
        K (.int .i64 (-1)) w8) (
        cvsW v1 fun t18 =>
        lensW t18 fun t20 =>
        binW .sub t20 (.int .i64 1) fun t21 =>
        LoopW [t21] w8 fun s9 _ w10 L9 =>
          lensW v0 fun t25 =>
          binW .lss (s9.getD 0 undef) t25 fun t26 =>
          condW t26 (
            JoinW (fun J11 =>
              ixsW v0 (s9.getD 0 undef) fun t29 =>
              ixsW t18 t21 fun t32 =>
              binW .neq t29 t32 fun t33 =>
              condW t33 (
                binW .add (s9.getD 0 undef) (.int .i64 1) fun t36 =>
                slsW v0 (some t36) none fun t37 =>
                ixsW t18 t21 fun t40 =>
                callF Tryz.prog 76 [t37, t40] w10.drew.drew fun t41 w12 =>
                binW .lss t41 (.int .i64 0) fun t43 =>
                condW t43 (
                  K (.int .i64 (-1)) w12) (
                  binW .add t41 (.int .i64 1) fun t46 =>
                  binW .add (s9.getD 0 undef) t46 fun t47 =>
                  J11 [t47] w12)) (
                J11 [(s9.getD 0 undef)] w10.drew))
            fun s11 _ w13 =>
            LoopW [(.int .i64 1)] w13 fun s14 _ w15 L14 =>
              lensW t18 fun t50 =>
              binW .lss (s14.getD 0 undef) t50 fun t51 =>
              condW t51 (
                binW .sub (s11.getD 0 undef) (s14.getD 0 undef) fun t57 =>
                ixsW v0 t57 fun t58 =>
                binW .sub t21 (s14.getD 0 undef) fun t62 =>
                ixsW t18 t62 fun t63 =>
                binW .neq t58 t63 fun t64 =>
                condW t64 (
                  False) (
                  binW .add (s14.getD 0 undef) (.int .i64 1) fun t53 =>
                  L14 [t53] w15.drew)) (
                binW .sub (s11.getD 0 undef) t21 fun t67 =>
                K t67 w15)) (
            K (.int .i64 (-1)) w10))))
theorem W260_eq (v0 v1 : Value) (w : World) (K : Value → World → Prop) : funW Tryz.prog Tryz.f260 plan260 [v0, v1] w K = W260 v0 v1 w K := by kernel_rfl
theorem W260_chk : chkFun Tryz.prog Tryz.f260 plan260 2 = true := by kernel_rfl
theorem W260_ok {v0 v1 : Value} {w : World} {K : Value → World → Prop} (h : W260 v0 v1 w K) : callF Tryz.prog 260 [v0, v1] w K :=
  tie Tryz.prog 260 Tryz.f260 plan260 [v0, v1] w K 2 (W260 v0 v1 w K) rfl mixed Tryz.func260 W260_chk (W260_eq v0 v1 w K) Tryz.call260 h
def plan121 : Plan := { js := [], ds := [] }
def W121 (v0 v1 v2 v3 v4 : Value) (w : World) (K : Value → World → Prop) : Prop :=
  eqQ Tryz.prog .eql 103 false false v4 (.iface 201 (.int .i64 2)) w fun t14 =>
  condW t14 (
    callF Tryz.prog 176 [v0, v1] w fun t17 w1 =>
    K (.iface 204 t17) w1) (
    eqQ Tryz.prog .eql 103 false false v4 (.iface 201 (.int .i64 1)) w fun t21 =>
    condW t21 (
      callF Tryz.prog 177 [v0, v1] w fun t24 w2 =>
      K (.iface 204 t24) w2) (
      eqQ Tryz.prog .eql 103 false false v4 (.iface 201 (.int .i64 3)) w fun t28 =>
      condW t28 (
        callF Tryz.prog 178 [v0, v1, v2] w fun t32 w3 =>
        K (.iface 204 t32) w3) (
        eqQ Tryz.prog .eql 103 false false v4 (.iface 201 (.int .i64 4)) w fun t36 =>
        condW t36 (
          callF Tryz.prog 179 [v0, v1, v3] w fun t40 w4 =>
          K (.iface 204 t40) w4) (
          K v4 w))))
theorem W121_eq (v0 v1 v2 v3 v4 : Value) (w : World) (K : Value → World → Prop) : funW Tryz.prog Tryz.f121 plan121 [v0, v1, v2, v3, v4] w K = W121 v0 v1 v2 v3 v4 w K := by kernel_rfl
theorem W121_chk : chkFun Tryz.prog Tryz.f121 plan121 5 = true := by kernel_rfl
theorem W121_ok {v0 v1 v2 v3 v4 : Value} {w : World} {K : Value → World → Prop} (h : W121 v0 v1 v2 v3 v4 w K) : callF Tryz.prog 121 [v0, v1, v2, v3, v4] w K :=
  tie Tryz.prog 121 Tryz.f121 plan121 [v0, v1, v2, v3, v4] w K 5 (W121 v0 v1 v2 v3 v4 w K) rfl mixed Tryz.func121 W121_chk (W121_eq v0 v1 v2 v3 v4 w K) Tryz.call121 h
def plan176 : Plan := { js := [], ds := [(3, ⟨[0, 1, 3, 4, 6], [[], [], [1], [], [0, 1, 2, 3], [0, 1, 2, 3, 4], [0, 1, 2, 3, 4, 5]]⟩)] }
def W176 (v0 v1 : Value) (w : World) (K : Value → World → Prop) : Prop :=
  ldW false 1 (.pointer (some ⟨2, 0, none⟩)) w.drew fun t8 =>
  callF Tryz.prog 219 [v1] w.drew fun t7 w1 =>
  (ldW false 1 (.pointer (some ⟨2, 0, none⟩)) w1 fun x => x = t8) ∧
  putW [(.string (ofL [])), (.string (ofL [])), .nilIface] [(0, 1, v0), (1, 1, t7), (2, 1, t8)] fun c2 =>
  boxW 232 (.agg c2.toArray) w1 fun t10 w3 =>
  K t10 w3
theorem W176_eq (v0 v1 : Value) (w : World) (K : Value → World → Prop) : funW Tryz.prog Tryz.f176 plan176 [v0, v1] w K = W176 v0 v1 w K := by kernel_rfl
theorem W176_chk : chkFun Tryz.prog Tryz.f176 plan176 2 = true := by kernel_rfl
theorem W176_ok {v0 v1 : Value} {w : World} {K : Value → World → Prop} (h : W176 v0 v1 w K) : callF Tryz.prog 176 [v0, v1] w K :=
  tie Tryz.prog 176 Tryz.f176 plan176 [v0, v1] w K 2 (W176 v0 v1 w K) rfl mixed Tryz.func176 W176_chk (W176_eq v0 v1 w K) Tryz.call176 h
def plan243 : Plan := { js := [], ds := [] }
def W243 (v0 : Value) (w : World) (K : Value → World → Prop) : Prop :=
  binW .or v0 (.int .u8 32) fun t4 =>
  K t4 w
theorem W243_eq (v0 : Value) (w : World) (K : Value → World → Prop) : funW Tryz.prog Tryz.f243 plan243 [v0] w K = W243 v0 w K := by kernel_rfl
theorem W243_chk : chkFun Tryz.prog Tryz.f243 plan243 1 = true := by kernel_rfl
theorem W243_ok {v0 : Value} {w : World} {K : Value → World → Prop} (h : W243 v0 w K) : callF Tryz.prog 243 [v0] w K :=
  tie Tryz.prog 243 Tryz.f243 plan243 [v0] w K 1 (W243 v0 w K) rfl mixed Tryz.func243 W243_chk (W243_eq v0 w K) Tryz.call243 h
end Go.Proofs.YtnoepcndjljolaaGreatDoor
namespace Go.Eng
open Go
def byteM (s : Str) (i : Nat) : Int := match s[i]? with | some b => (b.toNat : Int) | none => -1
def moreM (s : Str) (i : Nat) : Bool := decide (128 ≤ byteM s i) && decide (byteM s i < 192)
def runeM (s : Str) (i : Nat) : Nat :=
  let c := byteM s i
  if c < 0 then 0 else if c < 128 then 1
  else if 194 ≤ c ∧ c < 224 ∧ moreM s (i + 1) = true then 2
  else if 224 ≤ c ∧ c < 240 ∧ moreM s (i + 1) = true ∧ moreM s (i + 2) = true ∧
    2048 ≤ (c - 224) * 4096 + (byteM s (i + 1) - 128) * 64 + byteM s (i + 2) - 128 ∧ ((c - 224) * 4096 + (byteM s (i + 1) - 128) * 64 + byteM s (i + 2) - 128 < 55296 ∨ 57343 < (c - 224) * 4096 + (byteM s (i + 1) - 128) * 64 + byteM s (i + 2) - 128) then 3
  else if 240 ≤ c ∧ c < 245 ∧ moreM s (i + 1) = true ∧ moreM s (i + 2) = true ∧ moreM s (i + 3) = true ∧
    65536 ≤ (c - 240) * 262144 + (byteM s (i + 1) - 128) * 4096 + (byteM s (i + 2) - 128) * 64 + byteM s (i + 3) - 128 ∧ (c - 240) * 262144 + (byteM s (i + 1) - 128) * 4096 + (byteM s (i + 2) - 128) * 64 + byteM s (i + 3) - 128 ≤ 1114111 then 4
  else 0
def utfGo (s : Str) : Nat → Nat → Bool
  | 0, i => decide (s.length ≤ i)
  | n + 1, i => if s.length ≤ i then true else if runeM s i = 0 then false else utfGo s n (i + runeM s i)
def utfM (s : Str) : Bool := utfGo s s.length 0
def b8 (n : Nat) : UInt8 := UInt8.ofNat n
def wrM (n : Nat) : Str :=
  if n < 128 then [b8 n] else if n < 2048 then [b8 (192 + n / 64), b8 (128 + n % 64)]
  else if n < 65536 then [b8 (224 + n / 4096), b8 (128 + n / 64 % 64), b8 (128 + n % 64)]
  else [b8 (240 + n / 262144), b8 (128 + n / 4096 % 64), b8 (128 + n / 64 % 64), b8 (128 + n % 64)]
def hexD (n : Nat) : UInt8 := if n < 10 then b8 (48 + n) else b8 (87 + n)
def escB (c : UInt8) : Str :=
  if c = 34 ∨ c = 92 then [92, c] else if c = 8 then [92, 98] else if c = 12 then [92, 102] else if c = 10 then [92, 110] else if c = 13 then [92, 114] else if c = 9 then [92, 116]
  else if c < 32 then [92, 117, 48, 48, b8 (48 + c.toNat / 16), hexD (c.toNat % 16)] else [c]
def quoteM (s : Str) : Str := [34] ++ s.flatMap escB ++ [34]
def joinM : List Str → Str
  | [] => []
  | [x] => x
  | x :: y :: r => x ++ [44] ++ joinM (y :: r)
mutual
def showM : JV → Str
  | .mk k b t xs ks =>
    if k = 0 then [110, 117, 108, 108] else if k = 2 then (if b then [116, 114, 117, 101] else [102, 97, 108, 115, 101]) else if k = 3 then t else if k = 4 then quoteM t
    else if k = 6 then [123] ++ joinM (List.zipWith (fun a b => quoteM a ++ [58] ++ b) ks (showL xs)) ++ [125] else [91] ++ joinM (showL xs) ++ [93]
def showL : List JV → List Str
  | [] => []
  | x :: xs => showM x :: showL xs
end
mutual
def textsM : JV → Bool
  | .mk _ _ t xs ks => utfM t && ks.all utfM && textsL xs
def textsL : List JV → Bool
  | [] => true
  | x :: xs => textsM x && textsL xs
end
def encM (eRange eUnknown eText eLong : Int) (v : JV) : Str × Int :=
  if goodM v = false then ([], eRange) else if knownM v = false then ([], eUnknown) else if textsM v = false then ([], eText) else if 65536 < (showM v).length then ([], eLong) else (showM v, 0)
inductive RR (α : Type) where
  | ok (v : α) (i : Nat) (count : Nat)
  | bad (code : Int) (i : Nat)
def isBlank (c : Int) : Bool := decide (c = 32) || decide (c = 9) || decide (c = 10) || decide (c = 13)
def blankGo (s : Str) : Nat → Nat → Nat
  | 0, i => i
  | n + 1, i => if isBlank (byteM s i) then blankGo s n (i + 1) else i
def blankM (s : Str) (i : Nat) : Nat := blankGo s (s.length - i) i
def isDig (c : Int) : Bool := decide (48 ≤ c) && decide (c ≤ 57)
def digGo (s : Str) : Nat → Nat → Nat
  | 0, i => i
  | n + 1, i => if isDig (byteM s i) then digGo s n (i + 1) else i
def digM (s : Str) (i : Nat) : Nat := digGo s (s.length - i) i
def hexV (c : Int) : Int := if 48 ≤ c ∧ c ≤ 57 then c - 48 else if 97 ≤ c ∧ c ≤ 102 then c - 87 else if 65 ≤ c ∧ c ≤ 70 then c - 55 else -1
def hexM (s : Str) (i : Nat) : Int :=
  if i + 6 ≤ s.length ∧ byteM s i = 92 ∧ byteM s (i + 1) = 117 ∧ 0 ≤ hexV (byteM s (i + 2)) ∧ 0 ≤ hexV (byteM s (i + 3)) ∧ 0 ≤ hexV (byteM s (i + 4)) ∧ 0 ≤ hexV (byteM s (i + 5)) then
    ((hexV (byteM s (i + 2)) * 16 + hexV (byteM s (i + 3))) * 16 + hexV (byteM s (i + 4))) * 16 + hexV (byteM s (i + 5)) else -1
def escM (s : Str) (i : Nat) : Option (Str × Nat) :=
  let c := byteM s (i + 1)
  if c = 34 then some ([34], 2) else if c = 92 then some ([92], 2) else if c = 47 then some ([47], 2) else if c = 98 then some ([8], 2) else if c = 102 then some ([12], 2)
  else if c = 110 then some ([10], 2) else if c = 114 then some ([13], 2) else if c = 116 then some ([9], 2)
  else
    let a := hexM s i
    let b := hexM s (i + 6)
    if a < 0 ∨ 56320 ≤ a ∧ a ≤ 57343 then none
    else if 55296 ≤ a ∧ a ≤ 56319 then (if b < 56320 ∨ 57343 < b then none else some (wrM (65536 + (a - 55296) * 1024 + b - 56320).toNat, 12))
    else some (wrM a.toNat, 6)
structure ErrNo where
  json : Int
  long : Int
  deep : Int
  text : Int
  twice : Int
def quotGo (E : ErrNo) (s : Str) (start : Nat) : Nat → Nat → Str → Nat → RR Str
  | 0, i, _, _ => .bad E.json i
  | n + 1, i, out, cnt =>
    if byteM s i = 34 then (if 16384 < out.length then .bad E.long start else .ok out (i + 1) cnt)
    else if byteM s i < 0 then .bad E.json s.length
    else if byteM s i = 92 then (match escM s i with | none => .bad E.json i | some (t, k) => quotGo E s start n (i + k) (out ++ t) cnt)
    else if byteM s i < 32 then .bad E.json i
    else if runeM s i = 0 then .bad E.text i
    else quotGo E s start n (i + runeM s i) (out ++ (s.drop i).take (runeM s i)) cnt
def quotM (E : ErrNo) (s : Str) (i cnt : Nat) : RR Str := quotGo E s i (s.length + 1) (i + 1) [] cnt
def numM (E : ErrNo) (s : Str) (i cnt : Nat) : RR JV :=
  let first := if byteM s i = 45 then i + 1 else i
  let stop := if byteM s first = 48 then first + 1 else digM s first
  if stop = first then .bad E.json stop
  else if 100 < stop - first then .bad E.long i
  else if isDig (byteM s stop) || decide (byteM s stop = 46) || decide (byteM s stop = 101) || decide (byteM s stop = 69) then .bad E.json stop
  else
    let t := (s.drop i).take (stop - i)
    .ok (.mk 3 false (if t = [45, 48] then [48] else t) [] []) stop cnt
def wordM (s : Str) (i : Nat) (w : Str) : Bool := decide ((s.drop i).take w.length = w)
mutual
/-- a value at a place, so deep, so many values ahead of it (first: steps left) -/
def valM (E : ErrNo) (s : Str) : Nat → Nat → Nat → Nat → RR JV
  | 0, _, i, _ => .bad E.json i
  | n + 1, deep, i0, cnt0 =>
    let i := blankM s i0
    if 24 < deep then .bad E.deep i
    else if 2000 ≤ cnt0 then .bad E.long i
    else if wordM s i [110, 117, 108, 108] then .ok JV.null (i + 4) (cnt0 + 1)
    else if wordM s i [116, 114, 117, 101] then .ok (.mk 2 true [] [] []) (i + 4) (cnt0 + 1)
    else if wordM s i [102, 97, 108, 115, 101] then .ok (.mk 2 false [] [] []) (i + 5) (cnt0 + 1)
    else if byteM s i = 45 ∨ isDig (byteM s i) = true then numM E s i (cnt0 + 1)
    else if byteM s i = 34 then (match quotM E s i (cnt0 + 1) with | .ok t j c => .ok (.mk 4 false t [] []) j c | .bad e j => .bad e j)
    else if byteM s i = 91 then (if byteM s (blankM s (i + 1)) = 93 then .ok (.mk 5 false [] [] []) (blankM s (i + 1) + 1) (cnt0 + 1) else listM E s n deep (blankM s (i + 1)) (cnt0 + 1) [])
    else if byteM s i = 123 then (if byteM s (blankM s (i + 1)) = 125 then .ok (.mk 6 false [] [] []) (blankM s (i + 1) + 1) (cnt0 + 1) else objM E s n deep (blankM s (i + 1)) (cnt0 + 1) (.mk 6 false [] [] []))
    else .bad E.json i
def listM (E : ErrNo) (s : Str) : Nat → Nat → Nat → Nat → List JV → RR JV
  | 0, _, i, _, _ => .bad E.json i
  | n + 1, deep, i, cnt, acc =>
    match valM E s n (deep + 1) i cnt with
    | .bad e j => .bad e j
    | .ok x j c =>
      if byteM s (blankM s j) = 93 then .ok (.mk 5 false [] (acc ++ [x]) []) (blankM s j + 1) c
      else if byteM s (blankM s j) = 44 then listM E s n deep (blankM s j + 1) c (acc ++ [x])
      else .bad E.json (blankM s j)
def objM (E : ErrNo) (s : Str) : Nat → Nat → Nat → Nat → JV → RR JV
  | 0, _, i, _, _ => .bad E.json i
  | n + 1, deep, i0, cnt, acc =>
    let i := blankM s i0
    if byteM s i ≠ 34 then .bad E.json i
    else match quotM E s i cnt with
    | .bad e j => .bad e j
    | .ok key j c =>
      if (getM acc key).isSome then .bad E.twice i
      else if byteM s (blankM s j) ≠ 58 then .bad E.json (blankM s j)
      else match valM E s n (deep + 1) (blankM s j + 1) c with
      | .bad e j2 => .bad e j2
      | .ok x j2 c2 =>
        if byteM s (blankM s j2) = 125 then .ok (putM acc key x) (blankM s j2 + 1) c2
        else if byteM s (blankM s j2) = 44 then objM E s n deep (blankM s j2 + 1) c2 (putM acc key x)
        else .bad E.json (blankM s j2)
end
def decM (E : ErrNo) (s : Str) : RR JV :=
  if 65536 < s.length then .bad E.long 0
  else match valM E s 5000 1 0 0 with
  | .bad e i => .bad e i
  | .ok v i c => if blankM s i < s.length then .bad E.json (blankM s i) else .ok v i c
end Go.Eng
namespace Go.Eng
open Go
mutual
/-- how many values it has -/
def cntM : JV → Nat
  | .mk _ _ _ xs _ => 1 + cntL xs
def cntL : List JV → Nat
  | [] => 0
  | x :: xs => cntM x + cntL xs
end
theorem cnt_pos (v : JV) : 1 ≤ cntM v := by cases v; simp only [cntM]; omega
theorem showM_eq (k : Int) (b : Bool) (t : Str) (xs : List JV) (ks : List Str) : showM (.mk k b t xs ks) = (if k = 0 then [110, 117, 108, 108] else if k = 2 then (if b then [116, 114, 117, 101] else [102, 97, 108, 115, 101]) else if k = 3 then t else if k = 4 then quoteM t
    else if k = 6 then [123] ++ joinM (List.zipWith (fun a b => quoteM a ++ [58] ++ b) ks (showL xs)) ++ [125] else [91] ++ joinM (showL xs) ++ [93]) := by rw [showM]
theorem byte_at {s r : Str} {i : Nat} {c : UInt8} (h : s.drop i = c :: r) : byteM s i = c.toNat := by
  unfold byteM
  have : s[i]? = some c := by
    have := List.getElem?_drop (xs := s) (i := i) (j := 0)
    rw [h] at this
    simpa using this.symm
  rw [this]
theorem drop_app {s l r : Str} {i : Nat} (h : s.drop i = l ++ r) : s.drop (i + l.length) = r := by
  rw [← List.drop_drop, h, List.drop_left]
theorem drop_cons {s r : Str} {i : Nat} {c : UInt8} (h : s.drop i = c :: r) : s.drop (i + 1) = r := drop_app (l := [c]) h
theorem drop_lt {s r : Str} {i : Nat} {c : UInt8} (h : s.drop i = c :: r) : i < s.length := by
  apply Nat.lt_of_not_le
  intro hle
  rw [List.drop_eq_nil_iff.2 hle] at h
  cases h
theorem blank_stop {s : Str} {i : Nat} (h : isBlank (byteM s i) = false) : blankM s i = i := by
  unfold blankM
  cases s.length - i with
  | zero => rfl
  | succ n => rw [blankGo, h]; rfl
theorem blank_step {s r : Str} {i : Nat} {c : UInt8} (h : s.drop i = c :: r) (hc : isBlank c.toNat = true) : blankM s i = blankM s (i + 1) := by
  have hlt := drop_lt h
  unfold blankM
  rw [show s.length - i = (s.length - (i + 1)) + 1 by omega, blankGo, byte_at h, hc]
  rfl
end Go.Eng
namespace Go.Eng
open Go
def bt (s : Str) (i : Nat) : Nat := (s.getD i 0).toNat
theorem bt_lt (s : Str) (i : Nat) : bt s i < 256 := UInt8.toNat_lt _
theorem byteM_in {s : Str} {i : Nat} (h : i < s.length) : byteM s i = (bt s i : Int) := by
  unfold byteM bt
  rw [List.getElem?_eq_getElem h, List.getD_eq_getElem?_getD, List.getElem?_eq_getElem h]; rfl
theorem byteM_out {s : Str} {i : Nat} (h : s.length ≤ i) : byteM s i = -1 := by
  unfold byteM
  rw [List.getElem?_eq_none h]
theorem byteM_neg {s : Str} {i : Nat} : byteM s i < 0 ↔ s.length ≤ i := by
  rcases Nat.lt_or_ge i s.length with h | h
  · rw [byteM_in h]; omega
  · rw [byteM_out h]; omega
theorem get_bt (s : Str) (i : Nat) : ((ofL s).get! i).toNat = bt s i := by
  unfold bt
  congr 1
  show (s.toArray)[i]! = s.getD i 0
  rw [List.getElem!_toArray, List.getElem!_eq_getElem?_getD, List.getD_eq_getElem?_getD]; rfl
theorem dec_ofL (s : Str) (i : Nat) : Utf8.decode (ofL s) i = Lib.decodeN (s.length - i) (bt s i) (bt s (i + 1)) (bt s (i + 2)) (bt s (i + 3)) := by
  rw [Lib.decode_at, get_bt, get_bt, get_bt, get_bt, ofL_size]
abbrev mor (L k b : Nat) : Prop := k < L ∧ 128 ≤ b ∧ b < 192
abbrev c3 (b0 b1 b2 : Nat) : Nat := (b0 - 224) * 4096 + (b1 - 128) * 64 + (b2 - 128)
abbrev c4 (b0 b1 b2 b3 : Nat) : Nat := (b0 - 240) * 262144 + (b1 - 128) * 4096 + (b2 - 128) * 64 + (b3 - 128)
def decR (L b0 b1 b2 b3 : Nat) : Nat × Nat :=
  if b0 < 128 then (b0, 1)
  else if 194 ≤ b0 ∧ b0 < 224 ∧ mor L 1 b1 then ((b0 - 192) * 64 + (b1 - 128), 2)
  else if 224 ≤ b0 ∧ b0 < 240 ∧ mor L 1 b1 ∧ mor L 2 b2 ∧ 2048 ≤ c3 b0 b1 b2 ∧ (c3 b0 b1 b2 < 55296 ∨ 57343 < c3 b0 b1 b2) then (c3 b0 b1 b2, 3)
  else if 240 ≤ b0 ∧ b0 < 245 ∧ mor L 1 b1 ∧ mor L 2 b2 ∧ mor L 3 b3 ∧ 65536 ≤ c4 b0 b1 b2 b3 ∧ c4 b0 b1 b2 b3 ≤ 1114111 then (c4 b0 b1 b2 b3, 4)
  else (65533, 1)
theorem dec_decR {L b0 b1 b2 b3 : Nat} (h0 : b0 < 256) (h1 : b1 < 256) (h2 : b2 < 256) (h3 : b3 < 256) : Lib.decodeN L b0 b1 b2 b3 = decR L b0 b1 b2 b3 := by
  have m1 : (1 < L ∧ b1 / 64 = 2) ↔ mor L 1 b1 := by unfold mor; omega
  have m2 : (2 < L ∧ b2 / 64 = 2) ↔ mor L 2 b2 := by unfold mor; omega
  have m3 : (3 < L ∧ b3 / 64 = 2) ↔ mor L 3 b3 := by unfold mor; omega
  unfold Lib.decodeN decR
  simp only [m1, m2, m3]
  by_cases a0 : b0 < 128
  · rw [if_pos a0, if_pos a0]
  rw [if_neg a0, if_neg a0]
  by_cases a1 : b0 < 194
  · rw [if_neg (show ¬ (194 ≤ b0 ∧ b0 < 224 ∧ mor L 1 b1) from fun h => by omega), if_neg (show ¬ (224 ≤ b0 ∧ b0 < 240 ∧ _) from fun h => by omega), if_neg (show ¬ (240 ≤ b0 ∧ b0 < 245 ∧ _) from fun h => by omega)]
    rw [if_neg (show ¬ (b0 / 16 = 14 ∧ _) from fun h => by omega), if_neg (show ¬ (b0 / 8 = 30 ∧ _) from fun h => by omega)]
    by_cases a2 : b0 / 32 = 6 ∧ mor L 1 b1
    · rw [if_pos a2, if_neg (by omega)]
    · rw [if_neg a2]
  by_cases a2 : b0 < 224
  · rw [if_neg (show ¬ (224 ≤ b0 ∧ b0 < 240 ∧ _) from fun h => by omega), if_neg (show ¬ (240 ≤ b0 ∧ b0 < 245 ∧ _) from fun h => by omega)]
    rw [if_neg (show ¬ (b0 / 16 = 14 ∧ _) from fun h => by omega), if_neg (show ¬ (b0 / 8 = 30 ∧ _) from fun h => by omega)]
    by_cases q : mor L 1 b1
    · have q' := q
      unfold mor at q'
      rw [if_pos ⟨by omega, q⟩, if_pos (by omega), if_pos ⟨by omega, a2, q⟩]
      apply Prod.ext
      · show b0 % 32 * 64 + b1 % 64 = (b0 - 192) * 64 + (b1 - 128); omega
      · rfl
    · rw [if_neg (fun h => q h.2), if_neg (fun h => q h.2.2)]
  by_cases a3 : b0 < 240
  · rw [if_neg (show ¬ (194 ≤ b0 ∧ b0 < 224 ∧ mor L 1 b1) from fun h => by omega), if_neg (show ¬ (240 ≤ b0 ∧ b0 < 245 ∧ _) from fun h => by omega)]
    rw [if_neg (show ¬ (b0 / 32 = 6 ∧ _) from fun h => by omega), if_neg (show ¬ (b0 / 8 = 30 ∧ _) from fun h => by omega)]
    by_cases q : mor L 1 b1 ∧ mor L 2 b2
    · have q' := q
      unfold mor at q'
      have e : b0 % 16 * 4096 + b1 % 64 * 64 + b2 % 64 = c3 b0 b1 b2 := by unfold c3; omega
      have e2 : c3 b0 b1 b2 ≤ 65535 := by unfold c3; omega
      rw [if_pos ⟨by omega, q.1, q.2⟩]
      simp only [e]
      by_cases r : 2048 ≤ c3 b0 b1 b2 ∧ (c3 b0 b1 b2 < 55296 ∨ 57343 < c3 b0 b1 b2)
      · rw [if_pos ⟨r.1, by omega⟩, if_pos ⟨by omega, a3, q.1, q.2, r.1, r.2⟩]
      · rw [if_neg (by omega), if_neg (fun h => r ⟨h.2.2.2.2.1, h.2.2.2.2.2⟩)]
    · rw [if_neg (fun h => q ⟨h.2.1, h.2.2⟩), if_neg (fun h => q ⟨h.2.2.1, h.2.2.2.1⟩)]
  · rw [if_neg (show ¬ (194 ≤ b0 ∧ b0 < 224 ∧ mor L 1 b1) from fun h => by omega), if_neg (show ¬ (224 ≤ b0 ∧ b0 < 240 ∧ _) from fun h => by omega)]
    rw [if_neg (show ¬ (b0 / 32 = 6 ∧ _) from fun h => by omega), if_neg (show ¬ (b0 / 16 = 14 ∧ _) from fun h => by omega)]
    by_cases q : mor L 1 b1 ∧ mor L 2 b2 ∧ mor L 3 b3
    · have q' := q
      unfold mor at q'
      by_cases a4 : b0 < 248
      · have e : b0 % 8 * 262144 + b1 % 64 * 4096 + b2 % 64 * 64 + b3 % 64 = c4 b0 b1 b2 b3 := by unfold c4; omega
        rw [if_pos ⟨by omega, q.1, q.2.1, q.2.2⟩]
        simp only [e]
        by_cases r : 65536 ≤ c4 b0 b1 b2 b3 ∧ c4 b0 b1 b2 b3 ≤ 1114111
        · rw [if_pos ⟨r.1, by omega⟩, if_pos ⟨by omega, by have := r.2; unfold c4 at this; omega, q.1, q.2.1, q.2.2, r.1, r.2⟩]
        · rw [if_neg (by omega), if_neg (fun h => r ⟨h.2.2.2.2.2.1, h.2.2.2.2.2.2⟩)]
      · rw [if_neg (show ¬ (b0 / 8 = 30 ∧ _) from fun h => by omega), if_neg (show ¬ (240 ≤ b0 ∧ b0 < 245 ∧ _) from fun h => by omega)]
    · rw [if_neg (fun h => q ⟨h.2.1, h.2.2.1, h.2.2.2⟩), if_neg (fun h => q ⟨h.2.2.1, h.2.2.2.1, h.2.2.2.2.1⟩)]
theorem moreM_iff {s : Str} {i k : Nat} : moreM s (i + k) = true ↔ mor (s.length - i) k (bt s (i + k)) := by
  unfold moreM mor
  rw [Bool.and_eq_true, decide_eq_true_iff, decide_eq_true_iff]
  rcases Nat.lt_or_ge (i + k) s.length with h | h
  · rw [byteM_in h]; omega
  · rw [byteM_out h]; omega
def runR (L b0 b1 b2 b3 : Nat) : Nat :=
  if b0 < 128 then 1
  else if 194 ≤ b0 ∧ b0 < 224 ∧ mor L 1 b1 then 2
  else if 224 ≤ b0 ∧ b0 < 240 ∧ mor L 1 b1 ∧ mor L 2 b2 ∧ 2048 ≤ c3 b0 b1 b2 ∧ (c3 b0 b1 b2 < 55296 ∨ 57343 < c3 b0 b1 b2) then 3
  else if 240 ≤ b0 ∧ b0 < 245 ∧ mor L 1 b1 ∧ mor L 2 b2 ∧ mor L 3 b3 ∧ 65536 ≤ c4 b0 b1 b2 b3 ∧ c4 b0 b1 b2 b3 ≤ 1114111 then 4
  else 0
set_option maxHeartbeats 4000000 in
theorem runeM_runR {s : Str} {i : Nat} (h : i < s.length) : runeM s i = runR (s.length - i) (bt s i) (bt s (i + 1)) (bt s (i + 2)) (bt s (i + 3)) := by
  unfold runeM runR
  simp only [moreM_iff, byteM_in h]
  by_cases h1 : i + 1 < s.length
  · by_cases h2 : i + 2 < s.length
    · by_cases h3 : i + 3 < s.length
      · simp only [byteM_in h1, byteM_in h2, byteM_in h3, mor, c3, c4]
        repeat' split
        all_goals first | rfl | (exfalso; omega)
      · simp only [byteM_in h1, byteM_in h2, mor, c3, c4]
        repeat' split
        all_goals first | rfl | (exfalso; omega)
    · simp only [byteM_in h1, mor, c3, c4]
      repeat' split
      all_goals first | rfl | (exfalso; omega)
  · simp only [mor, c3, c4]
    repeat' split
    all_goals first | rfl | (exfalso; omega)
theorem b8_bt (s : Str) (i : Nat) (h : i < s.length) : UInt8.ofNat (bt s i) = s[i] := by
  unfold bt
  rw [List.getD_eq_getElem?_getD, List.getElem?_eq_getElem h]; simp
theorem take_one {s : Str} {i : Nat} (h : i < s.length) : (s.drop i).take 1 = [UInt8.ofNat (bt s i)] := by
  rw [b8_bt s i h, List.drop_eq_getElem_cons h]; rfl
theorem take_step {s : Str} {i n : Nat} (h : i < s.length) : (s.drop i).take (n + 1) = UInt8.ofNat (bt s i) :: (s.drop (i + 1)).take n := by
  rw [b8_bt s i h, List.drop_eq_getElem_cons h]; rfl
set_option maxHeartbeats 4000000 in
theorem rune_bad {s : Str} {i : Nat} (h : i < s.length) (h0 : runeM s i = 0) : Utf8.decode (ofL s) i = (65533, 1) := by
  rw [dec_ofL, dec_decR (bt_lt _ _) (bt_lt _ _) (bt_lt _ _) (bt_lt _ _)]
  rw [runeM_runR h] at h0
  unfold runR at h0
  unfold decR
  repeat' split at h0
  all_goals first | (exfalso; omega) | skip
  all_goals (repeat rw [if_neg (by assumption)])
structure RuneAt (s : Str) (i n c : Nat) : Prop where
  dec : Utf8.decode (ofL s) i = (c, n)
  fits : i + n ≤ s.length
  small : n ≤ 4
  bytes : Lib.encodeRune c = (s.drop i).take n
  low : n = 1 → c = bt s i ∧ c < 128
  high : 2 ≤ n → 128 ≤ c ∧ 128 ≤ bt s i
  top : c ≤ 1114111
  val : c < 55296 ∨ 57343 < c
theorem enc_map (l : List Int) : (l.map fun x => x.toNat.toUInt8) = l.map fun x => UInt8.ofNat x.toNat := rfl
set_option maxHeartbeats 8000000 in
theorem rune_good {s : Str} {i : Nat} (h : i < s.length) (h0 : runeM s i ≠ 0) : ∃ c, RuneAt s i (runeM s i) c := by
  have e := dec_ofL s i
  rw [dec_decR (bt_lt _ _) (bt_lt _ _) (bt_lt _ _) (bt_lt _ _)] at e
  have hr := runeM_runR h
  have l0 := bt_lt s i
  generalize hn : runeM s i = n at *
  unfold runR at hr
  unfold decR at e
  by_cases a1 : bt s i < 128
  · rw [if_pos a1] at hr e
    subst hr
    refine ⟨_, e, by omega, by omega, ?_, fun _ => ⟨rfl, a1⟩, fun h => by omega, by omega, by omega⟩
    rw [take_one h, Lib.encodeRune, Lib.encodeRuneZ_one (by omega) (by omega)]
    simp
  rw [if_neg a1] at hr e
  by_cases a2 : 194 ≤ bt s i ∧ bt s i < 224 ∧ mor (s.length - i) 1 (bt s (i + 1))
  · rw [if_pos a2] at hr e
    subst hr
    obtain ⟨a2, a3, a4, a5, a6⟩ := a2
    refine ⟨_, e, by omega, by omega, ?_, fun h => by omega, fun h => by omega, by omega, by omega⟩
    rw [take_step h, take_one (by omega), Lib.encodeRune, Lib.encodeRuneZ_two (by omega) (by omega)]
    simp only [List.map_cons, List.map_nil, enc_map]
    rw [show ((192 : Int) + (((bt s i - 192) * 64 + (bt s (i + 1) - 128) : Nat) : Int) / 64).toNat = bt s i by omega, show ((128 : Int) + (((bt s i - 192) * 64 + (bt s (i + 1) - 128) : Nat) : Int) % 64).toNat = bt s (i + 1) by omega]
  rw [if_neg a2] at hr e
  by_cases a3 : 224 ≤ bt s i ∧ bt s i < 240 ∧ mor (s.length - i) 1 (bt s (i + 1)) ∧ mor (s.length - i) 2 (bt s (i + 2)) ∧ 2048 ≤ c3 (bt s i) (bt s (i + 1)) (bt s (i + 2)) ∧ (c3 (bt s i) (bt s (i + 1)) (bt s (i + 2)) < 55296 ∨ 57343 < c3 (bt s i) (bt s (i + 1)) (bt s (i + 2)))
  · rw [if_pos a3] at hr e
    subst hr
    obtain ⟨p1, p2, ⟨p3, p4, p5⟩, ⟨p6, p7, p8⟩, p9, p10⟩ := a3
    have q3 : c3 (bt s i) (bt s (i + 1)) (bt s (i + 2)) = (bt s i - 224) * 4096 + (bt s (i + 1) - 128) * 64 + (bt s (i + 2) - 128) := rfl
    refine ⟨_, e, by omega, by omega, ?_, fun h => by omega, fun h => by omega, by omega, by omega⟩
    rw [take_step h, take_step (by omega), take_one (by omega), Lib.encodeRune, Lib.encodeRuneZ_three (by omega)]
    simp only [List.map_cons, List.map_nil, enc_map]
    rw [show ((224 : Int) + ((c3 (bt s i) (bt s (i + 1)) (bt s (i + 2)) : Nat) : Int) / 4096).toNat = bt s i by unfold c3; omega, show ((128 : Int) + ((c3 (bt s i) (bt s (i + 1)) (bt s (i + 2)) : Nat) : Int) / 64 % 64).toNat = bt s (i + 1) by unfold c3; omega, show ((128 : Int) + ((c3 (bt s i) (bt s (i + 1)) (bt s (i + 2)) : Nat) : Int) % 64).toNat = bt s (i + 2) by unfold c3; omega]
  rw [if_neg a3] at hr e
  by_cases a4 : 240 ≤ bt s i ∧ bt s i < 245 ∧ mor (s.length - i) 1 (bt s (i + 1)) ∧ mor (s.length - i) 2 (bt s (i + 2)) ∧ mor (s.length - i) 3 (bt s (i + 3)) ∧ 65536 ≤ c4 (bt s i) (bt s (i + 1)) (bt s (i + 2)) (bt s (i + 3)) ∧ c4 (bt s i) (bt s (i + 1)) (bt s (i + 2)) (bt s (i + 3)) ≤ 1114111
  · rw [if_pos a4] at hr e
    subst hr
    obtain ⟨p1, p2, ⟨p3, p4, p5⟩, ⟨p6, p7, p8⟩, ⟨p9, p10, p11⟩, p12, p13⟩ := a4
    refine ⟨_, e, by omega, by omega, ?_, fun h => by omega, fun h => by omega, by omega, by omega⟩
    rw [take_step h, take_step (by omega), take_step (by omega), take_one (by omega), Lib.encodeRune, Lib.encodeRuneZ_four (by omega) (by omega)]
    simp only [List.map_cons, List.map_nil, enc_map]
    rw [show ((240 : Int) + ((c4 (bt s i) (bt s (i + 1)) (bt s (i + 2)) (bt s (i + 3)) : Nat) : Int) / 262144).toNat = bt s i by unfold c4; omega, show ((128 : Int) + ((c4 (bt s i) (bt s (i + 1)) (bt s (i + 2)) (bt s (i + 3)) : Nat) : Int) / 4096 % 64).toNat = bt s (i + 1) by unfold c4; omega, show ((128 : Int) + ((c4 (bt s i) (bt s (i + 1)) (bt s (i + 2)) (bt s (i + 3)) : Nat) : Int) / 64 % 64).toNat = bt s (i + 2) by unfold c4; omega, show ((128 : Int) + ((c4 (bt s i) (bt s (i + 1)) (bt s (i + 2)) (bt s (i + 3)) : Nat) : Int) % 64).toNat = bt s (i + 3) by unfold c4; omega]
  rw [if_neg a4] at hr
  exact absurd hr h0
theorem rune_end {s : Str} {i : Nat} (h : s.length ≤ i) : runeM s i = 0 := by
  unfold runeM
  simp only [byteM_out h]
  rfl
theorem wr_enc {n : Nat} (h : n < 55296 ∨ 57343 < n ∧ n ≤ 1114111) : Lib.encodeRune n = wrM n := by
  unfold Lib.encodeRune wrM b8
  by_cases h1 : n < 128
  · rw [Lib.encodeRuneZ_one (by omega) (by omega), if_pos h1]; simp
  rw [if_neg h1]
  by_cases h2 : n < 2048
  · rw [Lib.encodeRuneZ_two (by omega) (by omega), if_pos h2]
    simp only [List.map_cons, List.map_nil, enc_map]
    rw [show ((192 : Int) + (n : Int) / 64).toNat = 192 + n / 64 by omega, show ((128 : Int) + (n : Int) % 64).toNat = 128 + n % 64 by omega]
  rw [if_neg h2]
  by_cases h3 : n < 65536
  · rw [Lib.encodeRuneZ_three (by omega), if_pos h3]
    simp only [List.map_cons, List.map_nil, enc_map]
    rw [show ((224 : Int) + (n : Int) / 4096).toNat = 224 + n / 4096 by omega, show ((128 : Int) + (n : Int) / 64 % 64).toNat = 128 + n / 64 % 64 by omega, show ((128 : Int) + (n : Int) % 64).toNat = 128 + n % 64 by omega]
  · rw [Lib.encodeRuneZ_four (by omega) (by omega), if_neg h3]
    simp only [List.map_cons, List.map_nil, enc_map]
    rw [show ((240 : Int) + (n : Int) / 262144).toNat = 240 + n / 262144 by omega, show ((128 : Int) + (n : Int) / 4096 % 64).toNat = 128 + n / 4096 % 64 by omega, show ((128 : Int) + (n : Int) / 64 % 64).toNat = 128 + n / 64 % 64 by omega, show ((128 : Int) + (n : Int) % 64).toNat = 128 + n % 64 by omega]
end Go.Eng
namespace Go.Eng
open Go
theorem byte_pref {s u r : Str} {i j : Nat} (h : s.drop i = u ++ r) (hj : j < u.length) : byteM s (i + j) = u[j].toNat := by
  have : s.drop (i + j) = u[j] :: (u.drop (j + 1) ++ r) := by
    rw [← List.drop_drop, h, List.drop_append_of_le_length (by omega), List.drop_eq_getElem_cons hj]; rfl
  exact byte_at this
theorem rune_same {s t : Str} {i k m : Nat} (hm : 0 < m) (h : runeM s i = m) (hb : ∀ j, j < m → byteM t (k + j) = byteM s (i + j)) : runeM t k = m := by
  have e0 : byteM t k = byteM s i := hb 0 hm
  unfold runeM at h ⊢
  dsimp only at h
  simp only [e0]
  by_cases h1 : m = 1
  · subst h1
    split at h
    · omega
    rename_i a
    split at h
    · rename_i b; rw [if_neg a, if_pos b]
    split at h
    · omega
    split at h
    · omega
    split at h <;> omega
  by_cases h2 : m = 2
  · subst h2
    have e1 := hb 1 (by omega)
    have m1 : moreM t (k + 1) = moreM s (i + 1) := by unfold moreM; rw [e1]
    simp only [m1]
    split at h
    · omega
    rename_i a
    split at h
    · omega
    rename_i b
    split at h
    · rename_i c; rw [if_neg a, if_neg b, if_pos c]
    split at h
    · omega
    split at h <;> omega
  by_cases h3 : m = 3
  · subst h3
    have e1 := hb 1 (by omega)
    have e2 := hb 2 (by omega)
    have m1 : moreM t (k + 1) = moreM s (i + 1) := by unfold moreM; rw [e1]
    have m2 : moreM t (k + 2) = moreM s (i + 2) := by unfold moreM; rw [e2]
    simp only [m1, m2, e1, e2]
    split at h
    · omega
    rename_i a
    split at h
    · omega
    rename_i b
    split at h
    · omega
    rename_i c
    split at h
    · rename_i d; rw [if_neg a, if_neg b, if_neg c, if_pos d]
    split at h <;> omega
  by_cases h4 : m = 4
  · subst h4
    have e1 := hb 1 (by omega)
    have e2 := hb 2 (by omega)
    have e3 := hb 3 (by omega)
    simp only [moreM, e1, e2, e3] at h ⊢
    exact h
  · exfalso
    split at h
    · omega
    split at h
    · omega
    split at h
    · omega
    split at h
    · omega
    split at h <;> omega
theorem rune_lt {s : Str} {i : Nat} (h : runeM s i ≠ 0) : i < s.length := by
  apply Nat.lt_of_not_le
  intro hle
  exact h (rune_end hle)
theorem rune_fits {s : Str} {i : Nat} (h : runeM s i ≠ 0) : i + runeM s i ≤ s.length := by
  obtain ⟨c, hc⟩ := rune_good (rune_lt h) h
  exact hc.fits
def Rn (u : Str) : Prop := u ≠ [] ∧ runeM u 0 = u.length
theorem Rn.pos {u : Str} (h : Rn u) : 0 < u.length := List.length_pos_iff.2 h.1
theorem Rn.at {u s r : Str} {i : Nat} (h : Rn u) (hs : s.drop i = u ++ r) : runeM s i = u.length := by
  refine rune_same (s := u) (i := 0) h.pos h.2 fun j hj => ?_
  rw [byte_pref hs hj, byte_pref (s := u) (i := 0) (u := u) (r := []) (by simp) hj]
theorem Rn.of {s : Str} {i : Nat} (h : runeM s i ≠ 0) : Rn ((s.drop i).take (runeM s i)) := by
  have hf := rune_fits h
  have hl : ((s.drop i).take (runeM s i)).length = runeM s i := by rw [List.length_take, List.length_drop]; omega
  refine ⟨fun e => by rw [e] at hl; simp at hl; omega, ?_⟩
  rw [hl]
  refine rune_same (s := s) (i := i) (by omega) rfl fun j hj => ?_
  rw [byte_pref (s := s) (i := i) (u := (s.drop i).take (runeM s i)) (r := (s.drop i).drop (runeM s i)) (List.take_append_drop _ _).symm (by omega), byte_pref (s := (s.drop i).take (runeM s i)) (i := 0) (u := (s.drop i).take (runeM s i)) (r := []) (by simp) (by omega)]
inductive Utf : Str → Prop where
  | nil : Utf []
  | cons {u r : Str} : Rn u → Utf r → Utf (u ++ r)
theorem Utf.app {a b : Str} (h : Utf a) (h' : Utf b) : Utf (a ++ b) := by
  induction h with
  | nil => exact h'
  | cons hu _ ih => rw [List.append_assoc]; exact .cons hu ih
theorem Utf.one {u : Str} (h : Rn u) : Utf u := by have := Utf.cons h .nil; rwa [List.append_nil] at this
theorem utf_of {s : Str} : ∀ {n i : Nat}, utfGo s n i = true → Utf (s.drop i) := by
  intro n
  induction n with
  | zero =>
    intro i h
    rw [utfGo, decide_eq_true_eq] at h
    rw [List.drop_of_length_le h]
    exact .nil
  | succ n ih =>
    intro i h
    rw [utfGo] at h
    split at h
    · rename_i hl; rw [List.drop_of_length_le hl]; exact .nil
    · split at h
      · cases h
      · rename_i h0
        have := Utf.cons (Rn.of h0) (ih h)
        rwa [← List.drop_drop, List.take_append_drop] at this
theorem of_utf {t : Str} (h : Utf t) : ∀ {s : Str} {n i : Nat}, s.drop i = t → t.length ≤ n → utfGo s n i = true := by
  induction h with
  | nil =>
    intro s n i hs _
    have hl := List.drop_eq_nil_iff.1 hs
    cases n with
    | zero => rw [utfGo, decide_eq_true_eq]; exact hl
    | succ n => rw [utfGo, if_pos hl]
  | @cons u r hu _ ih =>
    intro s n i hs hn
    have hp := hu.pos
    rw [List.length_append] at hn
    have hr := hu.at hs
    cases n with
    | zero => omega
    | succ n =>
      rw [utfGo]
      split
      · rfl
      · rw [if_neg (by omega), hr]
        exact ih (drop_app hs) (by omega)
theorem utf_iff (s : Str) : utfM s = true ↔ Utf s := by
  unfold utfM
  constructor
  · intro h; have := utf_of h; rwa [List.drop_zero] at this
  · intro h; exact of_utf h (List.drop_zero ..) (Nat.le_refl _)
theorem Rn.cases {u : Str} (h : Rn u) : (∃ c : UInt8, u = [c] ∧ c.toNat < 128) ∨ (∀ c ∈ u, 128 ≤ c.toNat) := by
  have hr := h.2
  have hp := h.pos
  have hb : ∀ j, (hj : j < u.length) → byteM u j = u[j].toNat := fun j hj => by
    have := byte_pref (s := u) (i := 0) (u := u) (r := []) (by simp) hj
    rwa [Nat.zero_add] at this
  have hm : ∀ j, (hj : j < u.length) → moreM u j = true → 128 ≤ u[j].toNat := fun j hj hm => by
    unfold moreM at hm
    rw [hb j hj, Bool.and_eq_true, decide_eq_true_iff, decide_eq_true_iff] at hm
    omega
  unfold runeM at hr
  rw [hb 0 hp] at hr
  simp only [Nat.zero_add] at hr
  have hall : (∀ j, (hj : j < u.length) → 128 ≤ u[j].toNat) → ∀ c ∈ u, 128 ≤ c.toNat := fun hj c hc => by
    obtain ⟨j, h1, rfl⟩ := List.getElem_of_mem hc
    exact hj j h1
  split at hr
  · omega
  split at hr
  · rename_i hlt
    left
    obtain ⟨c, rfl⟩ := List.length_eq_one_iff.1 hr.symm
    refine ⟨c, rfl, ?_⟩
    have e : ([c] : Str)[0].toNat = c.toNat := rfl
    omega
  right
  refine hall fun j hj => ?_
  split at hr
  · rename_i c
    obtain ⟨c1, _, c2⟩ := c
    obtain rfl | rfl : j = 0 ∨ j = 1 := by omega
    · omega
    · exact hm 1 hj c2
  split at hr
  · rename_i c
    obtain ⟨c1, _, c2, c3, _⟩ := c
    obtain rfl | rfl | rfl : j = 0 ∨ j = 1 ∨ j = 2 := by omega
    · omega
    · exact hm 1 hj c2
    · exact hm 2 hj c3
  split at hr
  · rename_i c
    obtain ⟨c1, _, c2, c3, c4, _⟩ := c
    obtain rfl | rfl | rfl | rfl : j = 0 ∨ j = 1 ∨ j = 2 ∨ j = 3 := by omega
    · omega
    · exact hm 1 hj c2
    · exact hm 2 hj c3
    · exact hm 3 hj c4
  · omega
theorem esc_high {u : Str} (h : ∀ c ∈ u, 128 ≤ c.toNat) : u.flatMap escB = u := by
  induction u with
  | nil => rfl
  | cons c u ih =>
    have hc := h c List.mem_cons_self
    have hne : ∀ d : UInt8, d.toNat < 128 → c ≠ d := fun d hd e => by subst e; omega
    rw [List.flatMap_cons, ih fun x hx => h x (List.mem_cons_of_mem _ hx)]
    unfold escB
    rw [if_neg (by rintro (e | e) <;> exact hne _ (by decide) e), if_neg (hne _ (by decide)), if_neg (hne _ (by decide)), if_neg (hne _ (by decide)), if_neg (hne _ (by decide)), if_neg (hne _ (by decide)), if_neg (by
      intro e
      have : c.toNat < 32 := e
      omega)]
    rfl
end Go.Eng
namespace Go.Eng
open Go
theorem hexM_at {s r : Str} {i : Nat} {a b c d e f : UInt8} (h : s.drop i = a :: b :: c :: d :: e :: f :: r) : hexM s i = hexM [a, b, c, d, e, f] 0 := by
  have hl : i + 6 ≤ s.length := by
    have : (s.drop i).length = 6 + r.length := by rw [h]; simp; omega
    rw [List.length_drop] at this
    omega
  have h1 := drop_cons h
  have h2 := drop_cons h1
  have h3 := drop_cons h2
  have h4 := drop_cons h3
  have h5 := drop_cons h4
  have e0 := byte_at h
  have e1 := byte_at h1
  have e2 := byte_at h2
  have e3 := byte_at h3
  have e4 := byte_at h4
  have e5 := byte_at h5
  unfold hexM
  simp only [Nat.add_assoc, Nat.reduceAdd] at e2 e3 e4 e5 ⊢
  rw [e0, e1, e2, e3, e4, e5]
  simp only [Nat.zero_add, List.length_cons, List.length_nil]
  rw [show byteM [a, b, c, d, e, f] 0 = a.toNat from rfl, show byteM [a, b, c, d, e, f] 1 = b.toNat from rfl, show byteM [a, b, c, d, e, f] 2 = c.toNat from rfl, show byteM [a, b, c, d, e, f] 3 = d.toNat from rfl, show byteM [a, b, c, d, e, f] 4 = e.toNat from rfl, show byteM [a, b, c, d, e, f] 5 = f.toNat from rfl]
  have : (0 + 6 ≤ 0 + 1 + 1 + 1 + 1 + 1 + 1) = True := by simp
  simp only [hl, true_and, this]
theorem rn_wr {n : Nat} (h : n < 55296 ∨ 57343 < n ∧ n ≤ 1114111) : Rn (wrM n) := by
  have e : ∀ x : Nat, x < 256 → ((b8 x).toNat : Int) = x := fun x hx => by unfold b8; rw [UInt8.toNat_ofNat']; omega
  unfold wrM
  split
  · refine ⟨by simp, ?_⟩
    unfold runeM
    rw [show byteM [b8 n] 0 = (b8 n).toNat from rfl, e n (by omega), if_neg (by omega), if_pos (by omega)]; rfl
  split
  · refine ⟨by simp, ?_⟩
    unfold runeM moreM
    simp only [Nat.zero_add]
    rw [show byteM [b8 (192 + n / 64), b8 (128 + n % 64)] 0 = (b8 (192 + n / 64)).toNat from rfl, show byteM [b8 (192 + n / 64), b8 (128 + n % 64)] 1 = (b8 (128 + n % 64)).toNat from rfl, e _ (by omega), e _ (by omega),
      if_neg (by omega), if_neg (by omega), if_pos ⟨by omega, by omega, by rw [Bool.and_eq_true, decide_eq_true_iff, decide_eq_true_iff]; omega⟩]; rfl
  split
  · refine ⟨by simp, ?_⟩
    unfold runeM moreM
    simp only [Nat.zero_add]
    rw [show byteM [b8 (224 + n / 4096), b8 (128 + n / 64 % 64), b8 (128 + n % 64)] 0 = (b8 (224 + n / 4096)).toNat from rfl, show byteM [b8 (224 + n / 4096), b8 (128 + n / 64 % 64), b8 (128 + n % 64)] 1 = (b8 (128 + n / 64 % 64)).toNat from rfl, show byteM [b8 (224 + n / 4096), b8 (128 + n / 64 % 64), b8 (128 + n % 64)] 2 = (b8 (128 + n % 64)).toNat from rfl, e _ (by omega), e _ (by omega), e _ (by omega),
      if_neg (by omega), if_neg (by omega), if_neg (by omega), if_pos ⟨by omega, by omega, by rw [Bool.and_eq_true, decide_eq_true_iff, decide_eq_true_iff]; omega, by rw [Bool.and_eq_true, decide_eq_true_iff, decide_eq_true_iff]; omega, by omega, by omega⟩]; rfl
  · refine ⟨by simp, ?_⟩
    unfold runeM moreM
    simp only [Nat.zero_add]
    rw [show byteM [b8 (240 + n / 262144), b8 (128 + n / 4096 % 64), b8 (128 + n / 64 % 64), b8 (128 + n % 64)] 0 = (b8 (240 + n / 262144)).toNat from rfl, show byteM [b8 (240 + n / 262144), b8 (128 + n / 4096 % 64), b8 (128 + n / 64 % 64), b8 (128 + n % 64)] 1 = (b8 (128 + n / 4096 % 64)).toNat from rfl, show byteM [b8 (240 + n / 262144), b8 (128 + n / 4096 % 64), b8 (128 + n / 64 % 64), b8 (128 + n % 64)] 2 = (b8 (128 + n / 64 % 64)).toNat from rfl, show byteM [b8 (240 + n / 262144), b8 (128 + n / 4096 % 64), b8 (128 + n / 64 % 64), b8 (128 + n % 64)] 3 = (b8 (128 + n % 64)).toNat from rfl, e _ (by omega), e _ (by omega), e _ (by omega), e _ (by omega),
      if_neg (by omega), if_neg (by omega), if_neg (by omega), if_neg (by omega), if_pos ⟨by omega, by omega, by rw [Bool.and_eq_true, decide_eq_true_iff, decide_eq_true_iff]; omega, by rw [Bool.and_eq_true, decide_eq_true_iff, decide_eq_true_iff]; omega, by rw [Bool.and_eq_true, decide_eq_true_iff, decide_eq_true_iff]; omega, by omega, by omega⟩]; rfl
theorem hexV_le (c : Int) : hexV c ≤ 15 := by unfold hexV; split; omega; split; omega; split <;> omega
theorem hexM_range (s : Str) (i : Nat) : hexM s i = -1 ∨ 0 ≤ hexM s i ∧ hexM s i ≤ 65535 := by
  unfold hexM
  split
  · rename_i h
    have h2 := hexV_le (byteM s (i + 2))
    have h3 := hexV_le (byteM s (i + 3))
    have h4 := hexV_le (byteM s (i + 4))
    have h5 := hexV_le (byteM s (i + 5))
    omega
  · omega
theorem escB_le (c : UInt8) : (escB c).length ≤ 6 := by unfold escB; repeat' split
                                                        all_goals simp
theorem rn_one {c : UInt8} (h : c.toNat < 128) : Rn [c] := by
  refine ⟨by simp, ?_⟩
  unfold runeM
  rw [show byteM [c] 0 = c.toNat from rfl, if_neg (by omega), if_pos (by omega)]; rfl
theorem rn_len {u : Str} (h : Rn u) : u.length ≤ 4 := by
  obtain ⟨c, hc⟩ := rune_good (i := 0) h.pos (by rw [h.2]; have := h.pos; omega)
  have := hc.small
  rw [h.2] at this; exact this
theorem escM_def (s : Str) (i : Nat) : escM s i = if byteM s (i + 1) = 34 then some ([34], 2) else if byteM s (i + 1) = 92 then some ([92], 2) else if byteM s (i + 1) = 47 then some ([47], 2) else if byteM s (i + 1) = 98 then some ([8], 2) else if byteM s (i + 1) = 102 then some ([12], 2)
  else if byteM s (i + 1) = 110 then some ([10], 2) else if byteM s (i + 1) = 114 then some ([13], 2) else if byteM s (i + 1) = 116 then some ([9], 2)
  else if hexM s i < 0 ∨ 56320 ≤ hexM s i ∧ hexM s i ≤ 57343 then none
    else if 55296 ≤ hexM s i ∧ hexM s i ≤ 56319 then (if hexM s (i + 6) < 56320 ∨ 57343 < hexM s (i + 6) then none else some (wrM (65536 + (hexM s i - 55296) * 1024 + hexM s (i + 6) - 56320).toNat, 12))
    else some (wrM (hexM s i).toNat, 6) := rfl
theorem escM_rune {s : Str} {i k : Nat} {t : Str} (h : escM s i = some (t, k)) : Rn t ∧ (t.flatMap escB).length ≤ k ∧ 2 ≤ k := by
  have long : ∀ {u : Str}, Rn u → (u.flatMap escB).length ≤ 6 := fun {u} hu => by
    rcases hu.cases with ⟨c, rfl, _⟩ | hh
    · simpa using escB_le c
    · rw [esc_high hh]; have := rn_len hu; omega
  have hr := hexM_range s i
  have hr2 := hexM_range s (i + 6)
  have one : ∀ (d : UInt8), d.toNat < 128 → (escB d).length ≤ 2 → some ([d], 2) = some (t, k) → Rn t ∧ (t.flatMap escB).length ≤ k ∧ 2 ≤ k := fun d hd hl he => by
    cases he
    exact ⟨rn_one hd, by simpa using hl, by omega⟩
  rw [escM_def] at h
  by_cases q0 : byteM s (i + 1) = 34
  · rw [if_pos q0] at h; exact one _ (by decide) (by decide) h
  rw [if_neg q0] at h
  by_cases q1 : byteM s (i + 1) = 92
  · rw [if_pos q1] at h; exact one _ (by decide) (by decide) h
  rw [if_neg q1] at h
  by_cases q2 : byteM s (i + 1) = 47
  · rw [if_pos q2] at h; exact one _ (by decide) (by decide) h
  rw [if_neg q2] at h
  by_cases q3 : byteM s (i + 1) = 98
  · rw [if_pos q3] at h; exact one _ (by decide) (by decide) h
  rw [if_neg q3] at h
  by_cases q4 : byteM s (i + 1) = 102
  · rw [if_pos q4] at h; exact one _ (by decide) (by decide) h
  rw [if_neg q4] at h
  by_cases q5 : byteM s (i + 1) = 110
  · rw [if_pos q5] at h; exact one _ (by decide) (by decide) h
  rw [if_neg q5] at h
  by_cases q6 : byteM s (i + 1) = 114
  · rw [if_pos q6] at h; exact one _ (by decide) (by decide) h
  rw [if_neg q6] at h
  by_cases q7 : byteM s (i + 1) = 116
  · rw [if_pos q7] at h; exact one _ (by decide) (by decide) h
  rw [if_neg q7] at h
  by_cases a1 : hexM s i < 0 ∨ 56320 ≤ hexM s i ∧ hexM s i ≤ 57343
  · rw [if_pos a1] at h; cases h
  rw [if_neg a1] at h
  by_cases a2 : 55296 ≤ hexM s i ∧ hexM s i ≤ 56319
  · rw [if_pos a2] at h
    by_cases a3 : hexM s (i + 6) < 56320 ∨ 57343 < hexM s (i + 6)
    · rw [if_pos a3] at h; cases h
    rw [if_neg a3] at h
    have hn := rn_wr (n := (65536 + (hexM s i - 55296) * 1024 + hexM s (i + 6) - 56320).toNat) (by omega)
    generalize wrM (65536 + (hexM s i - 55296) * 1024 + hexM s (i + 6) - 56320).toNat = z at *
    simp only [Option.some.injEq, Prod.mk.injEq] at h
    obtain ⟨rfl, rfl⟩ := h
    exact ⟨hn, by have := long hn; omega, by omega⟩
  · rw [if_neg a2] at h
    have hn := rn_wr (n := (hexM s i).toNat) (by omega)
    generalize wrM (hexM s i).toNat = z at *
    simp only [Option.some.injEq, Prod.mk.injEq] at h
    obtain ⟨rfl, rfl⟩ := h
    exact ⟨hn, long hn, by omega⟩
theorem quot_back {E : ErrNo} {s : Str} {start cnt : Nat} : ∀ {n i : Nat} {out t : Str} {j c : Nat}, quotGo E s start n i out cnt = .ok t j c → Utf out →
    c = cnt ∧ Utf t ∧ t.length ≤ 16384 ∧ i < j ∧ j ≤ s.length ∧ (t.flatMap escB).length + 1 + i ≤ (out.flatMap escB).length + j := by
  intro n
  induction n with
  | zero => intro i out t j c h _; rw [quotGo] at h; cases h
  | succ n ih =>
    intro i out t j c h hu
    rw [quotGo] at h
    split at h
    · rename_i h34
      split at h
      · cases h
      · cases h
        have hlt : i < s.length := by
          apply Nat.lt_of_not_le; intro hle
          rw [byteM_out hle] at h34; omega
        refine ⟨rfl, hu, by omega, by omega, by omega, by omega⟩
    split at h
    · cases h
    split at h
    · split at h
      · cases h
      · rename_i u k he
        obtain ⟨h1, h2, h3⟩ := escM_rune he
        obtain ⟨a1, a2, a3, a4, a5, a6⟩ := ih h (hu.app (.one h1))
        rw [List.flatMap_append, List.length_append] at a6
        refine ⟨a1, a2, a3, by omega, a5, by omega⟩
    split at h
    · cases h
    split at h
    · cases h
    · rename_i n34 nneg n92 n32 hr
      have hn := Rn.of hr
      have hl : ((s.drop i).take (runeM s i)).length = runeM s i := by rw [List.length_take, List.length_drop]; have := rune_fits hr; omega
      obtain ⟨a1, a2, a3, a4, a5, a6⟩ := ih h (hu.app (.one hn))
      rw [List.flatMap_append, List.length_append] at a6
      have hw : (((s.drop i).take (runeM s i)).flatMap escB).length ≤ runeM s i := by
        have hb0 : byteM s i = ((((s.drop i).take (runeM s i))[0]'(by omega)).toNat : Int) := by
          have := byte_pref (s := s) (i := i) (j := 0) (u := (s.drop i).take (runeM s i)) (r := (s.drop i).drop (runeM s i)) (List.take_append_drop _ _).symm (by omega)
          rwa [Nat.add_zero] at this
        rcases hn.cases with ⟨d, hd, hd2⟩ | hh
        · rw [hd] at hl ⊢
          simp only [hd, List.getElem_cons_zero] at hb0
          simp only [List.flatMap_cons, List.flatMap_nil, List.append_nil]
          rw [← hl]
          have q : ∀ x : UInt8, d = x → byteM s i = x.toNat := fun x e => by rw [hb0, e]
          unfold escB
          rw [if_neg (by rintro (e | e); exact n34 (q _ e); exact n92 (q _ e)), if_neg (fun e => n32 (by rw [q _ e]; decide)), if_neg (fun e => n32 (by rw [q _ e]; decide)), if_neg (fun e => n32 (by rw [q _ e]; decide)), if_neg (fun e => n32 (by rw [q _ e]; decide)), if_neg (fun e => n32 (by rw [q _ e]; decide)), if_neg (by
            intro e
            have e2 : d.toNat < 32 := e
            exact n32 (by rw [hb0]; omega))]
          exact Nat.le_refl _
        · rw [esc_high hh]; omega
      refine ⟨a1, a2, a3, by omega, a5, by omega⟩
end Go.Eng
namespace Go.Eng
open Go Go.Num
def BL (l : Str) : Prop := ∀ c ∈ l, isBlank (c.toNat : Int) = true
theorem BL.nil : BL [] := fun _ h => by cases h
def Stop (r : Str) : Prop := r = [] ∨ ∃ c r', r = c :: r' ∧ (isBlank (c.toNat : Int) = true ∨ c = 44 ∨ c = 93 ∨ c = 125)
theorem Stop.one {c : UInt8} {r : Str} (h : c = 44 ∨ c = 93 ∨ c = 125) : Stop (c :: r) := .inr ⟨c, r, rfl, .inr h⟩
theorem isDig_num {c : UInt8} (h : Num.isDig c = true) : Go.Eng.isDig (c.toNat : Int) = true ∧ 48 ≤ c.toNat ∧ c.toNat ≤ 57 := by
  have h1 : 48 ≤ c.toNat ∧ c.toNat ≤ 57 := by
    unfold Num.isDig at h
    simp only [Bool.and_eq_true, decide_eq_true_eq] at h
    obtain ⟨a, b⟩ := h
    have a' : (48 : UInt8).toNat ≤ c.toNat := a
    have b' : c.toNat ≤ (57 : UInt8).toNat := b
    exact ⟨a', b'⟩
  refine ⟨?_, h1⟩
  unfold Go.Eng.isDig
  rw [Bool.and_eq_true, decide_eq_true_iff, decide_eq_true_iff]
  omega
theorem insP_last : ∀ {l : List (Str × JV)} {k : Str} {x : JV}, (∀ p ∈ l, Op.bytesLess p.1 k = true) → insP l k x = l ++ [(k, x)]
  | [], k, x, _ => rfl
  | (a, y) :: l, k, x, h => by
    have h1 := h (a, y) List.mem_cons_self
    rw [insP, if_neg (by rw [less_anti h1]; simp), insP_last fun p hp => h p (List.mem_cons_of_mem _ hp)]
    rfl
end Go.Eng
namespace Go.Eng
open Go Go.Num
theorem byte_lt {s : Str} {i : Nat} (h : 0 ≤ byteM s i) : i < s.length := by
  apply Nat.lt_of_not_le
  intro hle
  have := byteM_neg.2 hle
  omega
theorem drop_here {s : Str} {i : Nat} (h : i < s.length) : s.drop i = s[i] :: s.drop (i + 1) := List.drop_eq_getElem_cons h
theorem blank_go {s : Str} {i : Nat} (h : isBlank (byteM s i) = true) : i < s.length ∧ blankM s i = blankM s (i + 1) := by
  have hlt : i < s.length := byte_lt (by unfold isBlank at h; simp only [Bool.or_eq_true, decide_eq_true_eq] at h; omega)
  refine ⟨hlt, blank_step (drop_here hlt) ?_⟩
  rw [← byte_at (drop_here hlt)]; exact h
theorem blank_fin (s : Str) : ∀ (n i : Nat), s.length - i ≤ n → i ≤ blankM s i ∧ (i ≤ s.length → blankM s i ≤ s.length) ∧ isBlank (byteM s (blankM s i)) = false := by
  intro n
  induction n with
  | zero =>
    intro i hn
    have hb : isBlank (byteM s i) = false := by rw [byteM_out (by omega)]; rfl
    rw [blank_stop hb]
    exact ⟨Nat.le_refl _, id, hb⟩
  | succ n ih =>
    intro i hn
    cases hb : isBlank (byteM s i) with
    | false => rw [blank_stop hb]; exact ⟨Nat.le_refl _, id, hb⟩
    | true =>
      obtain ⟨hlt, e⟩ := blank_go hb
      have := ih (i + 1) (by omega)
      rw [e]
      exact ⟨by omega, fun _ => this.2.1 (by omega), this.2.2⟩
theorem blank_ge (s : Str) (i : Nat) : i ≤ blankM s i := (blank_fin s _ i (Nat.le_refl _)).1
theorem blank_le {s : Str} {i : Nat} (h : i ≤ s.length) : blankM s i ≤ s.length := (blank_fin s _ i (Nat.le_refl _)).2.1 h
theorem blank_not (s : Str) (i : Nat) : isBlank (byteM s (blankM s i)) = false := (blank_fin s _ i (Nat.le_refl _)).2.2
theorem blank_idem (s : Str) (i : Nat) : blankM s (blankM s i) = blankM s i := blank_stop (blank_not s i)
theorem dig_stop {s : Str} {i : Nat} (h : isDig (byteM s i) = false) : digM s i = i := by
  unfold digM
  cases s.length - i with
  | zero => rfl
  | succ n => rw [digGo, h]; rfl
theorem dig_go' {s : Str} {i : Nat} (h : isDig (byteM s i) = true) : i < s.length ∧ digM s i = digM s (i + 1) := by
  have hlt : i < s.length := byte_lt (by unfold isDig at h; simp only [Bool.and_eq_true, decide_eq_true_eq] at h; omega)
  refine ⟨hlt, ?_⟩
  unfold digM
  rw [show s.length - i = (s.length - (i + 1)) + 1 by omega, digGo, h]
  rfl
theorem dig_fin (s : Str) : ∀ (n i : Nat), s.length - i ≤ n → i ≤ digM s i ∧ (i ≤ s.length → digM s i ≤ s.length) ∧ isDig (byteM s (digM s i)) = false ∧ ∀ j, i ≤ j → j < digM s i → isDig (byteM s j) = true := by
  intro n
  induction n with
  | zero =>
    intro i hn
    have hb : isDig (byteM s i) = false := by rw [byteM_out (by omega)]; rfl
    rw [dig_stop hb]
    exact ⟨Nat.le_refl _, id, hb, fun j h1 h2 => by omega⟩
  | succ n ih =>
    intro i hn
    cases hb : isDig (byteM s i) with
    | false => rw [dig_stop hb]; exact ⟨Nat.le_refl _, id, hb, fun j h1 h2 => by omega⟩
    | true =>
      obtain ⟨hlt, e⟩ := dig_go' hb
      have := ih (i + 1) (by omega)
      rw [e]
      refine ⟨by omega, fun _ => this.2.1 (by omega), this.2.2.1, fun j h1 h2 => ?_⟩
      rcases Nat.eq_or_lt_of_le h1 with rfl | h
      · exact hb
      · exact this.2.2.2 j h h2
theorem digM_ge (s : Str) (i : Nat) : i ≤ digM s i := (dig_fin s _ i (Nat.le_refl _)).1
theorem digM_le {s : Str} {i : Nat} (h : i ≤ s.length) : digM s i ≤ s.length := (dig_fin s _ i (Nat.le_refl _)).2.1 h
theorem digM_all {s : Str} {i j : Nat} (h1 : i ≤ j) (h2 : j < digM s i) : isDig (byteM s j) = true := (dig_fin s _ i (Nat.le_refl _)).2.2.2 j h1 h2
theorem numDig {s : Str} {j : Nat} (h : isDig (byteM s j) = true) (hj : j < s.length) : Num.isDig s[j] = true := by
  rw [byteM_in hj] at h
  have e : bt s j = s[j].toNat := by unfold bt; simp [List.getD_eq_getElem?_getD, hj]
  rw [e] at h
  unfold isDig at h
  simp only [Bool.and_eq_true, decide_eq_true_eq] at h
  unfold Num.isDig
  simp only [Bool.and_eq_true, decide_eq_true_eq, UInt8.le_iff_toNat_le]
  have e1 : (48 : UInt8).toNat = 48 := rfl
  have e2 : (57 : UInt8).toNat = 57 := rfl
  omega
theorem num_good {s : Str} {i first stop : Nat} (hf : first = if byteM s i = 45 then i + 1 else i) (hs : stop = if byteM s first = 48 then first + 1 else digM s first) (h1 : stop ≠ first) (h2 : ¬ 100 < stop - first) :
    goodN ((s.drop i).take (stop - i)) = decide ((s.drop i).take (stop - i) ≠ [45, 48]) ∧ stop ≤ s.length ∧ i < stop := by
  have hfi : i ≤ first ∧ first ≤ i + 1 := by rw [hf]; split <;> omega
  have hfl : first < s.length := by
    by_cases h : byteM s first = 48
    · exact byte_lt (by omega)
    · rw [if_neg h] at hs
      cases hb : isDig (byteM s first) with
      | true => exact (dig_go' hb).1
      | false => rw [dig_stop hb] at hs; exact absurd hs h1
  have hsl : stop ≤ s.length := by
    rw [hs]
    split
    · omega
    · exact digM_le (by omega)
  have hsg : first < stop := by
    have : first ≤ stop := by rw [hs]; split; omega; exact digM_ge _ _
    omega
  refine ⟨?_, hsl, by omega⟩
  -- the digits
  have hdl : ((s.drop first).take (stop - first)).length = stop - first := by rw [List.length_take, List.length_drop]; omega
  have hall : ((s.drop first).take (stop - first)).all Num.isDig = true := by
    rw [List.all_eq_true]
    intro c hc
    obtain ⟨j, hj, rfl⟩ := List.getElem_of_mem hc
    rw [hdl] at hj
    rw [List.getElem_take, List.getElem_drop]
    refine numDig ?_ (by omega)
    by_cases h : byteM s first = 48
    · rw [if_pos h] at hs
      have : j = 0 := by omega
      subst this
      rw [Nat.add_zero, h]; rfl
    · rw [if_neg h] at hs
      exact digM_all (i := first) (by omega) (by omega)
  have hhead : ((s.drop first).take (stop - first)).head? = some s[first] := by
    rw [drop_here hfl, show stop - first = (stop - first - 1) + 1 by omega, List.take_succ_cons]; rfl
  have hdig0 : Num.isDig s[first] = true := by
    rw [List.all_eq_true] at hall
    refine hall _ ?_
    rw [drop_here hfl, show stop - first = (stop - first - 1) + 1 by omega, List.take_succ_cons]
    exact List.mem_cons_self
  have hn45 : s[first] ≠ 45 := fun e => by rw [e] at hdig0; exact absurd hdig0 (by decide)
  have hb0 : byteM s first = (s[first].toNat : Int) := byte_at (drop_here hfl)
  have h48 : s[first] = 48 → stop = first + 1 := fun e => by
    rw [hs, if_pos (by rw [hb0, e]; rfl)]
  -- the text with its sign
  generalize hd : (s.drop first).take (stop - first) = d at *
  have hne : d ≠ [] := fun e => by rw [e] at hdl; simp at hdl; omega
  have ht : (s.drop i).take (stop - i) = d ∧ dig d = d ∨ (s.drop i).take (stop - i) = 45 :: d := by
    by_cases h : byteM s i = 45
    · rw [if_pos h] at hf
      right
      have hil : i < s.length := by omega
      have e : s[i] = 45 := by
        have := byte_at (drop_here hil)
        rw [h] at this
        exact UInt8.toNat_inj.1 (by show s[i].toNat = 45; omega)
      rw [drop_here hil, show stop - i = (stop - first) + 1 by omega, List.take_succ_cons, e, ← hf, hd]
    · rw [if_neg h] at hf
      left
      subst hf
      refine ⟨hd, ?_⟩
      cases d with
      | nil => exact absurd rfl hne
      | cons c d =>
        simp only [List.head?_cons, Option.some.injEq] at hhead
        unfold dig
        simp [hhead, hn45]
  have hdigd : dig ((s.drop i).take (stop - i)) = d := by
    rcases ht with ⟨h, h'⟩ | h
    · rw [h, h']
    · rw [h]; simp [dig]
  unfold goodN
  rw [hdigd, hhead, hall, Bool.and_true, decide_eq_true (by omega : 1 ≤ d.length), decide_eq_true (by omega : d.length ≤ 100)]
  by_cases e : s[first] = 48
  · have hst := h48 e
    have hd1 : d = [48] := by
      cases d with
      | nil => exact absurd rfl hne
      | cons c d =>
        simp only [List.head?_cons, Option.some.injEq] at hhead
        have : d = [] := List.eq_nil_of_length_eq_zero (by simp at hdl; omega)
        rw [this, hhead, e]
    rcases ht with ⟨h, _⟩ | h
    · rw [h, hd1, e]; decide
    · rw [h, hd1, e]; decide
  · rw [show ((some s[first] == some 48) : Bool) = false by simpa using e]
    have hnd : ¬ (s.drop i).take (stop - i) = [45, 48] := by
      intro h2
      rcases ht with ⟨h, _⟩ | h
      · rw [h2] at h
        rw [← h] at hhead
        simp only [List.head?_cons, Option.some.injEq] at hhead
        exact hn45 hhead.symm
      · rw [h2] at h
        simp only [List.cons.injEq, true_and] at h
        rw [← h] at hhead
        simp only [List.head?_cons, Option.some.injEq] at hhead
        exact e hhead.symm
    simp [hnd]
theorem hexM_fits {s : Str} {i : Nat} (h : 0 ≤ hexM s i) : i + 6 ≤ s.length := by
  unfold hexM at h
  split at h
  · rename_i h1; exact h1.1
  · omega
theorem escM_fits {s : Str} {i k : Nat} {t : Str} (h : escM s i = some (t, k)) : i + k ≤ s.length := by
  have two : ∀ {c : Int}, 0 ≤ c → byteM s (i + 1) = c → i + 2 ≤ s.length := fun hc e => by
    have := byte_lt (s := s) (i := i + 1) (by omega)
    omega
  rw [escM_def] at h
  have pick : ∀ {c : Int} {u : Str} {R : Option (Str × Nat)}, 0 ≤ c → (if byteM s (i + 1) = c then some (u, 2) else R) = some (t, k) → i + k ≤ s.length ∨ R = some (t, k) := fun {c u R} hc h => by
    split at h
    · rename_i e
      left
      have := two hc e
      cases h
      exact this
    · exact .inr h
  refine (pick (by decide) h).elim id fun h => (pick (by decide) h).elim id fun h => (pick (by decide) h).elim id fun h => (pick (by decide) h).elim id fun h => (pick (by decide) h).elim id fun h => (pick (by decide) h).elim id fun h => (pick (by decide) h).elim id fun h => (pick (by decide) h).elim id fun h => ?_
  split at h
  · cases h
  rename_i h1
  split at h
  · split at h
    · cases h
    · have := hexM_fits (s := s) (i := i + 6) (by omega)
      cases h
      omega
  · have := hexM_fits (s := s) (i := i) (by omega)
    cases h
    omega
end Go.Eng
namespace Go.Eng
open Go Go.Num
def lsum : List JV → Nat
  | [] => 0
  | x :: l => (showM x).length + 1 + lsum l
def osum : List (Str × JV) → Nat
  | [] => 0
  | (k, x) :: l => (quoteM k).length + (showM x).length + 2 + osum l
def cntP : List (Str × JV) → Nat
  | [] => 0
  | (_, x) :: l => cntM x + cntP l
theorem join_two (x y : Str) (r : List Str) : joinM (x :: y :: r) = x ++ [44] ++ joinM (y :: r) := rfl
theorem lsum_join : ∀ (xs : List JV), xs ≠ [] → (joinM (showL xs)).length + 1 = lsum xs
  | [], h => absurd rfl h
  | [x], _ => by simp [showL, joinM, lsum]
  | x :: y :: r, _ => by
    have := lsum_join (y :: r) (by simp)
    simp only [showL, join_two, lsum, List.length_append, List.length_cons, List.length_nil] at this ⊢
    omega
theorem osum_join : ∀ (l : List (Str × JV)), l ≠ [] → (joinM (List.zipWith (fun a b => quoteM a ++ [58] ++ b) (l.map (·.1)) (showL (l.map (·.2))))).length + 1 = osum l
  | [], h => absurd rfl h
  | [(k, x)], _ => by simp [showL, joinM, osum]; omega
  | (k, x) :: (k', y) :: r, _ => by
    have := osum_join ((k', y) :: r) (by simp)
    simp only [List.map_cons, showL, List.zipWith_cons_cons, join_two, osum, List.length_append, List.length_cons, List.length_nil] at this ⊢
    omega
theorem cntL_map : ∀ (l : List (Str × JV)), cntL (l.map (·.2)) = cntP l
  | [] => rfl
  | (k, x) :: l => by simp only [List.map_cons, cntL, cntP]; rw [cntL_map l]
theorem ins_mem {l : List (Str × JV)} {k : Str} {t : JV} : ∀ p, p ∈ insP l k t ↔ p = (k, t) ∨ p ∈ l := by
  induction l with
  | nil => intro p; simp [insP]
  | cons q r ih =>
    obtain ⟨a, y⟩ := q
    intro p
    simp only [insP]
    split
    · rw [List.mem_cons]
    · rw [List.mem_cons, ih p, List.mem_cons]
      constructor
      · rintro (h | h | h)
        · exact .inr (.inl h)
        · exact .inl h
        · exact .inr (.inr h)
      · rintro (h | h | h)
        · exact .inr (.inl h)
        · exact .inl h
        · exact .inr (.inr h)
theorem ins_osum (l : List (Str × JV)) (k : Str) (x : JV) : osum (insP l k x) = (quoteM k).length + (showM x).length + 2 + osum l := by
  induction l with
  | nil => rfl
  | cons q r ih =>
    obtain ⟨a, y⟩ := q
    simp only [insP]
    split
    · rfl
    · simp only [osum, ih]; omega
theorem ins_cnt (l : List (Str × JV)) (k : Str) (x : JV) : cntP (insP l k x) = cntM x + cntP l := by
  induction l with
  | nil => rfl
  | cons q r ih =>
    obtain ⟨a, y⟩ := q
    simp only [insP]
    split
    · rfl
    · simp only [cntP, ih]; omega
theorem ins_len (l : List (Str × JV)) (k : Str) (x : JV) : (insP l k x).length = l.length + 1 := by
  induction l with
  | nil => rfl
  | cons q r ih =>
    obtain ⟨a, y⟩ := q
    simp only [insP]
    split
    · rfl
    · simp only [List.length_cons, ih]
theorem rise_ins {l : List (Str × JV)} {k : Str} {x : JV} (h : Rise (l.map (·.1))) (hk : k ∉ l.map (·.1)) : Rise ((insP l k x).map (·.1)) := by
  induction l with
  | nil => exact List.pairwise_singleton _ _
  | cons q r ih =>
    obtain ⟨a, y⟩ := q
    simp only [List.map_cons] at h hk
    have hp := List.pairwise_cons.1 h
    simp only [insP]
    split
    · rename_i hlt
      simp only [List.map_cons]
      refine List.Pairwise.cons (fun c hc => ?_) h
      rcases List.mem_cons.1 hc with rfl | hc
      · exact hlt
      · exact less_trans hlt (hp.1 c hc)
    · rename_i hlt
      have hka : k ≠ a := fun e => hk (by rw [e]; exact List.mem_cons_self)
      have hak : Op.bytesLess a k = true := by
        rcases less_tri k a with h | h | h
        · exact absurd h hlt
        · exact absurd h hka
        · exact h
      simp only [List.map_cons]
      refine List.Pairwise.cons (fun c hc => ?_) (ih hp.2 fun h => hk (List.mem_cons_of_mem _ h))
      obtain ⟨p, hp1, rfl⟩ := List.mem_map.1 hc
      rcases (ins_mem p).1 hp1 with rfl | hp1
      · exact hak
      · exact hp.1 _ (List.mem_map.2 ⟨p, hp1, rfl⟩)
theorem rise_ok : ∀ {ks : List Str}, Rise ks → (∀ k ∈ ks, k.length ≤ 16384) → keysOk ks = true
  | [], _, _ => rfl
  | [a], _, h => by simpa [keysOk] using h a (by simp)
  | a :: b :: r, hr, h => by
    have hp := List.pairwise_cons.1 hr
    have ih := rise_ok (ks := b :: r) hp.2 fun k hk => h k (List.mem_cons_of_mem _ hk)
    simp only [keysOk]
    rw [decide_eq_true (h a (by simp)), hp.1 b (by simp), ih]; rfl
theorem zip_maps (l : List (Str × JV)) : (l.map (·.1)).zip (l.map (·.2)) = l := by
  induction l with
  | nil => rfl
  | cons q r ih => simp only [List.map_cons, List.zip_cons_cons, ih]
theorem get_none {l : List (Str × JV)} {k : Str} (h : (getM (mkO l) k).isSome = false) : k ∉ l.map (·.1) := by
  intro hm
  unfold getM mkO at h
  simp only [JV.k, JV.ks, JV.xs, if_true] at h
  cases hx : idxK (l.map (·.1)) k with
  | none => exact idxK_none.1 hx hm
  | some i =>
    rw [hx] at h
    have := (List.getElem?_eq_some_iff.1 (idxK_spec hx)).1
    rw [List.length_map] at this
    simp [this] at h
theorem put_mkO {l : List (Str × JV)} {k : Str} {x : JV} (h : k ∉ l.map (·.1)) : putM (mkO l) k x = mkO (insP l k x) := by
  unfold putM
  have e1 : (mkO l).k = 6 := rfl
  have e2 : (mkO l).ks = l.map (·.1) := rfl
  have e3 : (mkO l).xs = l.map (·.2) := rfl
  rw [if_pos e1, e2, e3, zip_maps]
  congr 2
  unfold dropP
  rw [List.filter_eq_self]
  intro p hp
  rw [Bool.not_eq_true', decide_eq_false_iff_not]
  intro e
  exact h (List.mem_map.2 ⟨p, hp, e⟩)
structure Item (m : Nat) (y : JV) : Prop where
  plain : plainM y = true
  texts : textsM y = true
  known : knownM y = true
  deep : deepM y m = true
structure ItemP (m : Nat) (p : Str × JV) : Prop where
  len : p.1.length ≤ 16384
  utf : utfM p.1 = true
  item : Item m p.2
structure Back (s : Str) (deep i j cnt c : Nat) (v : JV) : Prop where
  lev : deep ≤ 24
  item : Item (25 - deep) v
  cnt : c = cnt + cntM v
  max : c ≤ 2000
  len : (showM v).length + i ≤ j
  fits : j ≤ s.length
theorem textsL_all (xs : List JV) : textsL xs = xs.all textsM := by
  induction xs with
  | nil => rfl
  | cons x xs ih => simp [textsL, ih]
theorem item_list {m : Nat} {xs : List JV} (h : ∀ y ∈ xs, Item m y) : Item (m + 1) (.mk 5 false [] xs []) := by
  refine ⟨?_, ?_, ?_, ?_⟩
  · simp only [plainM, plainL_all, Bool.and_eq_true, List.all_eq_true]
    exact ⟨by simp [headOk, keysOk], fun y hy => (h y hy).plain⟩
  · simp only [textsM, textsL_all, Bool.and_eq_true, List.all_eq_true]
    exact ⟨⟨rfl, by simp⟩, fun y hy => (h y hy).texts⟩
  · simp only [knownM, knownL_all, Bool.and_eq_true, List.all_eq_true]
    exact ⟨by decide, fun y hy => (h y hy).known⟩
  · rw [deepM_succ, deepL_all, List.all_eq_true]
    exact fun y hy => (h y hy).deep
theorem item_obj {m : Nat} {l : List (Str × JV)} (hr : Rise (l.map (·.1))) (h : ∀ p ∈ l, ItemP m p) : Item (m + 1) (mkO l) := by
  have hx : ∀ y ∈ l.map (·.2), Item m y := fun y hy => by
    obtain ⟨p, hp, rfl⟩ := List.mem_map.1 hy
    exact (h p hp).item
  have hk := rise_ok hr fun k hk => by
    obtain ⟨p, hp, rfl⟩ := List.mem_map.1 hk
    exact (h p hp).len
  refine ⟨?_, ?_, ?_, ?_⟩
  · simp only [mkO, plainM, plainL_all, Bool.and_eq_true, List.all_eq_true]
    exact ⟨by simp [headOk, hk], fun y hy => (hx y hy).plain⟩
  · simp only [mkO, textsM, textsL_all, Bool.and_eq_true, List.all_eq_true]
    refine ⟨⟨rfl, fun k hk => ?_⟩, fun y hy => (hx y hy).texts⟩
    obtain ⟨p, hp, rfl⟩ := List.mem_map.1 hk
    exact (h p hp).utf
  · simp only [mkO, knownM, knownL_all, Bool.and_eq_true, List.all_eq_true]
    exact ⟨by decide, fun y hy => (hx y hy).known⟩
  · unfold mkO
    rw [deepM_succ, deepL_all, List.all_eq_true]
    exact fun y hy => (hx y hy).deep
theorem ascii_utf {t : Str} (h : ∀ c ∈ t, c.toNat < 128) : Utf t := by
  induction t with
  | nil => exact .nil
  | cons c t ih => exact Utf.cons (u := [c]) (rn_one (h c List.mem_cons_self)) (ih fun x hx => h x (List.mem_cons_of_mem _ hx))
theorem goodN_utf {t : Str} (h : goodN t = true) : utfM t = true := by
  obtain ⟨_, _, _, g4⟩ := goodN_out h
  rw [List.all_eq_true] at g4
  have hd : ∀ c ∈ dig t, c.toNat < 128 := fun c hc => by have := (isDig_num (g4 c hc)).2; omega
  refine (utf_iff t).2 (ascii_utf fun c hc => ?_)
  cases t with
  | nil => cases hc
  | cons a r =>
    by_cases h45 : a = 45
    · subst h45
      have e : dig (45 :: r) = r := by simp [dig]
      rw [e] at hd
      rcases List.mem_cons.1 hc with rfl | hc
      · decide
      · exact hd c hc
    · have e : dig (a :: r) = a :: r := by simp [dig, h45]
      rw [e] at hd
      exact hd c hc
theorem item_leaf {k : Int} {b : Bool} {t : Str} {m : Nat} (h1 : headOk k b t 0 [] = true) (h2 : utfM t = true) (h3 : k ≠ 1) : Item (m + 1) (.mk k b t [] []) := by
  refine ⟨?_, ?_, ?_, ?_⟩
  · simp only [plainM, plainL, Bool.and_true]; exact h1
  · simp only [textsM, textsL, List.all_nil, Bool.and_true]; exact h2
  · simp only [knownM, knownL, Bool.and_true, Bool.not_eq_true', decide_eq_false_iff_not]; exact h3
  · rw [deepM_succ]; rfl
theorem num_back {E : ErrNo} {s : Str} {i cnt j c m : Nat} {v : JV} (h : numM E s i cnt = .ok v j c) : Item (m + 1) v ∧ c = cnt ∧ cntM v = 1 ∧ (showM v).length + i ≤ j ∧ j ≤ s.length := by
  unfold numM at h
  simp only at h
  generalize hf : (if byteM s i = 45 then i + 1 else i) = first at *
  generalize hs : (if byteM s first = 48 then first + 1 else digM s first) = stop at *
  split at h
  · cases h
  split at h
  · cases h
  split at h
  · cases h
  rename_i h1 h2 h3
  obtain ⟨hg, hl, hlt⟩ := num_good hf.symm hs.symm h1 h2
  generalize ht : (s.drop i).take (stop - i) = t at *
  have htl : t.length = stop - i := by rw [← ht, List.length_take, List.length_drop]; omega
  have hgt : goodN (if t = [45, 48] then [48] else t) = true := by
    split
    · decide
    · rename_i hne; rw [hg]; exact decide_eq_true hne
  have hlen : (if t = [45, 48] then ([48] : Str) else t).length + i ≤ stop := by
    split
    · simp; omega
    · omega
  cases h
  generalize (if t = [45, 48] then ([48] : Str) else t) = u at *
  refine ⟨item_leaf (by simp [headOk, keysOk, hgt]) (goodN_utf hgt) (by decide), rfl, rfl, ?_, hl⟩
  rw [showM_eq]
  simpa using hlen
set_option maxHeartbeats 1000000 in
theorem back_all (E : ErrNo) (s : Str) : ∀ n,
    (∀ {deep i cnt v j c}, i ≤ s.length → cnt ≤ 2000 → valM E s n deep i cnt = .ok v j c → Back s deep i j cnt c v) ∧
    (∀ {deep i cnt acc v j c}, i ≤ s.length → cnt ≤ 2000 → listM E s n deep i cnt acc = .ok v j c → ∃ ys, ys ≠ [] ∧ v = .mk 5 false [] (acc ++ ys) [] ∧ (∀ y ∈ ys, Item (24 - deep) y) ∧ c = cnt + cntL ys ∧ c ≤ 2000 ∧ lsum ys + i ≤ j ∧ j ≤ s.length) ∧
    (∀ {deep i cnt l v j c}, i ≤ s.length → cnt ≤ 2000 → objM E s n deep i cnt (mkO l) = .ok v j c → Rise (l.map (·.1)) → (∀ p ∈ l, ItemP (24 - deep) p) →
      ∃ l', l' ≠ [] ∧ v = mkO l' ∧ Rise (l'.map (·.1)) ∧ (∀ p ∈ l', ItemP (24 - deep) p) ∧ c + cntP l = cnt + cntP l' ∧ c ≤ 2000 ∧ osum l' + i ≤ osum l + j ∧ j ≤ s.length) := by
  intro n
  induction n with
  | zero =>
    refine ⟨fun _ _ h => ?_, fun _ _ h => ?_, fun _ _ h => ?_⟩
    · rw [valM] at h; cases h
    · rw [listM] at h; cases h
    · rw [objM] at h; cases h
  | succ n ih =>
    obtain ⟨ihv, ihl, iho⟩ := ih
    refine ⟨fun {deep i cnt v j c} hi hc h => ?_, fun {deep i cnt acc v j c} hi hc h => ?_, fun {deep i cnt l v j c} hi hc h hr hp => ?_⟩
    · rw [valM] at h
      try simp only at h
      have hb1 := blank_ge s i
      have hb2 := blank_le hi
      generalize blankM s i = i' at *
      have word : ∀ {w : Str}, wordM s i' w = true → i' + w.length ≤ s.length := fun {w} hw => by
        unfold wordM at hw
        have := congrArg List.length (of_decide_eq_true hw)
        rw [List.length_take, List.length_drop] at this
        omega
      split at h
      · cases h
      rename_i hdeep
      split at h
      · cases h
      rename_i hcnt
      have leaf : ∀ {k : Int} {b : Bool} {t : Str}, headOk k b t 0 [] = true → utfM t = true → k ≠ 1 → Item (25 - deep) (.mk k b t [] []) := fun h1 h2 h3 => by
        have := item_leaf (m := 24 - deep) h1 h2 h3
        rwa [show 24 - deep + 1 = 25 - deep by omega] at this
      split at h
      · rename_i hw
        have := word hw
        cases h
        exact ⟨by omega, leaf rfl rfl (by decide), rfl, by omega, by rw [JV.null, showM_eq]; simp; omega, by simpa using this⟩
      split at h
      · rename_i hw
        have := word hw
        cases h
        exact ⟨by omega, leaf rfl rfl (by decide), rfl, by omega, by rw [showM_eq]; simp; omega, by simpa using this⟩
      split at h
      · rename_i hw
        have := word hw
        cases h
        exact ⟨by omega, leaf rfl rfl (by decide), rfl, by omega, by rw [showM_eq]; simp; omega, by simpa using this⟩
      split at h
      · obtain ⟨h1, h2, h3, h4, h5⟩ := num_back (m := 24 - deep) h
        rw [show 24 - deep + 1 = 25 - deep by omega] at h1
        exact ⟨by omega, h1, by omega, by omega, by omega, h5⟩
      split at h
      · rename_i h34
        split at h
        · rename_i t j' c' hq
          cases h
          unfold quotM at hq
          obtain ⟨a1, a2, a3, a4, a5, a6⟩ := quot_back hq .nil
          have e : (showM (.mk 4 false t [] [])).length = (t.flatMap escB).length + 2 := by
            rw [showM_eq]; simp [quoteM]
          refine ⟨by omega, leaf (by simp [headOk, keysOk, a3]) ((utf_iff t).2 a2) (by decide), by rw [a1]; rfl, by omega, ?_, a5⟩
          rw [e]
          simp only [List.flatMap_nil, List.length_nil, Nat.zero_add] at a6
          omega
        · cases h
      split at h
      · rename_i h91
        have hlt := byte_lt (s := s) (i := i') (by omega)
        split at h
        · rename_i h93
          have hlt2 := byte_lt (s := s) (i := blankM s (i' + 1)) (by omega)
          have := blank_ge s (i' + 1)
          cases h
          exact ⟨by omega, leaf rfl rfl (by decide), rfl, by omega, by rw [showM_eq]; simp [showL, joinM]; omega, by omega⟩
        · have hg := blank_ge s (i' + 1)
          obtain ⟨ys, y1, rfl, y3, y4, y5, y6, y7⟩ := ihl (blank_le (by omega)) (by omega) h
          have hI := item_list y3
          rw [show 24 - deep + 1 = 25 - deep by omega] at hI
          have hj := lsum_join ys y1
          refine ⟨by omega, by simpa using hI, by simp only [List.nil_append, cntM]; omega, y5, ?_, y7⟩
          rw [showM_eq]
          simp only [List.nil_append]
          simp
          omega
      split at h
      · rename_i h123
        have hlt := byte_lt (s := s) (i := i') (by omega)
        split at h
        · rename_i h125
          have hlt2 := byte_lt (s := s) (i := blankM s (i' + 1)) (by omega)
          have := blank_ge s (i' + 1)
          cases h
          exact ⟨by omega, leaf rfl rfl (by decide), rfl, by omega, by rw [showM_eq]; simp [showL, joinM]; omega, by omega⟩
        · have hg := blank_ge s (i' + 1)
          obtain ⟨l', y1, rfl, y2, y3, y4, y5, y6, y7⟩ := iho (l := []) (blank_le (by omega)) (by omega) h List.Pairwise.nil (fun p hp => by cases hp)
          have hI := item_obj y2 y3
          rw [show 24 - deep + 1 = 25 - deep by omega] at hI
          have hj := osum_join l' y1
          simp only [osum, cntP] at y4 y6
          refine ⟨by omega, hI, by simp only [mkO, cntM, cntL_map]; omega, y5, ?_, y7⟩
          unfold mkO
          rw [showM_eq]
          simp
          simp at hj
          omega
      · cases h
    · rw [listM] at h
      split at h
      · cases h
      rename_i x j1 c1 hv
      obtain ⟨v1, v2, v3, v4, v5, v6⟩ := ihv hi hc hv
      rw [show 25 - (deep + 1) = 24 - deep by omega] at v2
      have hg := blank_ge s j1
      split at h
      · rename_i h93
        have hlt := byte_lt (s := s) (i := blankM s j1) (by omega)
        cases h
        refine ⟨[x], by simp, rfl, fun y hy => by rw [List.mem_singleton.1 hy]; exact v2, by simp only [cntL]; omega, v4, by simp only [lsum]; omega, by omega⟩
      split at h
      · rename_i h44
        have hlt := byte_lt (s := s) (i := blankM s j1) (by omega)
        obtain ⟨ys, y1, rfl, y3, y4, y5, y6, y7⟩ := ihl (by omega) v4 h
        refine ⟨x :: ys, by simp, by simp, fun y hy => ?_, by simp only [cntL]; omega, y5, by simp only [lsum]; omega, y7⟩
        rcases List.mem_cons.1 hy with rfl | hy
        · exact v2
        · exact y3 y hy
      · cases h
    · rw [objM] at h
      try simp only at h
      have hb1 := blank_ge s i
      have hb2 := blank_le hi
      generalize blankM s i = i' at *
      split at h
      · cases h
      rename_i h34
      split at h
      · cases h
      rename_i key j1 c1 hq
      unfold quotM at hq
      obtain ⟨a1, a2, a3, a4, a5, a6⟩ := quot_back hq .nil
      simp only [List.flatMap_nil, List.length_nil, Nat.zero_add] at a6
      have hql : (quoteM key).length = (key.flatMap escB).length + 2 := by simp [quoteM]
      split at h
      · cases h
      rename_i hget
      have hn := get_none (by simpa using hget)
      have hg1 := blank_ge s j1
      split at h
      · cases h
      rename_i h58
      have hlt := byte_lt (s := s) (i := blankM s j1) (by omega)
      split at h
      · cases h
      rename_i x j2 c2 hv
      obtain ⟨v1, v2, v3, v4, v5, v6⟩ := ihv (by omega) (by omega) hv
      rw [show 25 - (deep + 1) = 24 - deep by omega] at v2
      have hg2 := blank_ge s j2
      rw [put_mkO hn] at h
      have hr' := rise_ins (x := x) hr hn
      have hp' : ∀ p ∈ insP l key x, ItemP (24 - deep) p := fun p hpm => by
        rcases (ins_mem p).1 hpm with rfl | hpm
        · exact ⟨a3, (utf_iff key).2 a2, v2⟩
        · exact hp p hpm
      split at h
      · rename_i h125
        have hlt2 := byte_lt (s := s) (i := blankM s j2) (by omega)
        cases h
        refine ⟨insP l key x, fun e => ?_, rfl, hr', hp', by rw [ins_cnt]; omega, v4, by rw [ins_osum]; omega, by omega⟩
        have := ins_len l key x
        rw [e] at this
        simp at this
      split at h
      · rename_i h44
        have hlt2 := byte_lt (s := s) (i := blankM s j2) (by omega)
        obtain ⟨l', y1, rfl, y2, y3, y4, y5, y6, y7⟩ := iho (by omega) v4 h hr' hp'
        rw [ins_cnt] at y4
        rw [ins_osum] at y6
        exact ⟨l', y1, rfl, y2, y3, by omega, y5, by omega, y7⟩
      · cases h
theorem val_back {E : ErrNo} {s : Str} {n deep i cnt j c : Nat} {v : JV} (hi : i ≤ s.length) (hc : cnt ≤ 2000) (h : valM E s n deep i cnt = .ok v j c) : Back s deep i j cnt c v := (back_all E s n).1 hi hc h
end Go.Eng
namespace Go.Eng
open Go Go.Num
theorem dec_back {E : ErrNo} {s : Str} {v : JV} {j c : Nat} (h : decM E s = .ok v j c) : Item 24 v ∧ cntM v ≤ 2000 ∧ (showM v).length ≤ s.length ∧ s.length ≤ 65536 := by
  unfold decM at h
  split at h
  · cases h
  split at h
  · cases h
  rename_i hl _ v' i' c' hv
  split at h
  · cases h
  cases h
  have hb := val_back (Nat.zero_le _) (Nat.zero_le _) hv
  exact ⟨hb.item, by have := hb.cnt; have := hb.max; omega, by have := hb.len; have := hb.fits; omega, by omega⟩
theorem BL.app {a b : Str} (h : BL a) (h' : BL b) : BL (a ++ b) := fun c hc => by
  rcases List.mem_append.1 hc with h1 | h1
  · exact h c h1
  · exact h' c h1
end Go.Eng

namespace Go.Proofs.YtnoepcndjljolaaGreatDoor
open Go Go.Eng
set_option maxRecDepth 100000
section
variable [HX]
theorem shape_of {w : World} {a : Nat} {x : List Value} {T : TypeId} (h : w.heap[a]? = some (.cells x.toArray T (0, 0))) : w.shape? a = some (T, x.length) := by simp [World.shape?, h]
theorem ov_s {w : World} {a b oa ob la ca lb cb : Nat} {x y : List Value} {T1 T2 : TypeId} {K : Value → World → Prop} (hne : a ≠ b) (ha : w.heap[a]? = some (.cells x.toArray T1 (0, 0))) (hb : w.heap[b]? = some (.cells y.toArray T2 (0, 0))) (hy : y ≠ []) (hK : K (.bool false) w) :
    callF Tryz.prog 211 [.slice (some ⟨a, oa, none⟩) la ca, .slice (some ⟨b, ob, none⟩) lb cb] w K := by
  unfold callF
  rw [run_callFunc_extern Tryz.func211 (by kernel_rfl) (by kernel_rfl) (by kernel_rfl) (e := Extern.SlicesOverlaps.overlaps #[38, 38] #[4]) (by kernel_rfl),
    Lib.run_overlaps_apart w 38 4 ST (by kernel_rfl) 1 (fun w => by kernel_rfl) ⟨a, oa, none⟩ ⟨b, ob, none⟩ la ca lb cb hne T1 T2 x.length y.length (shape_of ha) (shape_of hb) (fun e => hy (List.eq_nil_of_length_eq_zero e)) (by rw [frozen_eq, ha, frO_zero]) (by rw [frozen_eq, ha, frO_zero])]
  exact hK
theorem ov_v {w : World} {a b oa ob la ca lb cb : Nat} {x y : List Value} {T1 T2 : TypeId} {K : Value → World → Prop} (hne : a ≠ b) (ha : w.heap[a]? = some (.cells x.toArray T1 (0, 0))) (hb : w.heap[b]? = some (.cells y.toArray T2 (0, 0))) (hy : y ≠ []) (hK : K (.bool false) w) :
    callF Tryz.prog 213 [.slice (some ⟨a, oa, none⟩) la ca, .slice (some ⟨b, ob, none⟩) lb cb] w K := by
  unfold callF
  rw [run_callFunc_extern Tryz.func213 (by kernel_rfl) (by kernel_rfl) (by kernel_rfl) (e := Extern.SlicesOverlaps.overlaps #[37, 37] #[4]) (by kernel_rfl),
    Lib.run_overlaps_apart w 37 4 VT (by kernel_rfl) 5 (fun w => by kernel_rfl) ⟨a, oa, none⟩ ⟨b, ob, none⟩ la ca lb cb hne T1 T2 x.length y.length (shape_of ha) (shape_of hb) (fun e => hy (List.eq_nil_of_length_eq_zero e)) (by rw [frozen_eq, ha, frO_zero]) (by rw [frozen_eq, ha, frO_zero])]
  exact hK
theorem insert_s {w : World} {base tb n i : Nat} {v : Value} {xs c : List Value} {T2 : TypeId} {K : Value → World → Prop} (hown : Own w base ST 1 v n xs) (ht : w.heap[tb]? = some (.cells c.toArray T2 (0, 0))) (hc : c.length = 1) (h1 : ∀ u ∈ c, one1 u = true) (hx1 : ∀ u ∈ xs, one1 u = true)
    (hne : v.ownBlock ≠ some tb) (hi : i ≤ n) (hn : n ≤ 1000000) (hbase : base ≤ w.heap.size)
    (hK : ∀ v' w', Own w' base ST 1 v' (n + 1) (xs.take (i * 1) ++ c ++ xs.drop (i * 1)) → Chg (fun k => v.ownBlock = some k) w w' → (∀ k, v'.ownBlock = some k → v.ownBlock = some k ∨ w.heap.size ≤ k) → K v' w') :
    callF Tryz.prog 162 [v, i64 (i : Nat), .slice (some ⟨tb, 0, none⟩) 1 1] w K := by
  refine W162_ok ?_
  show InsW Tryz.prog 1 38 3 211 212 _ _ _ _ _
  exact insert_q elem_s (by kernel_rfl) ov_s hown ht hc h1 hx1 hne hi hn (by decide) hbase hK
theorem insert_v {w : World} {base tb n i : Nat} {v : Value} {xs c : List Value} {T2 : TypeId} {K : Value → World → Prop} (hown : Own w base VT 5 v n xs) (ht : w.heap[tb]? = some (.cells c.toArray T2 (0, 0))) (hc : c.length = 5) (h1 : ∀ u ∈ c, one1 u = true) (hx1 : ∀ u ∈ xs, one1 u = true)
    (hne : v.ownBlock ≠ some tb) (hi : i ≤ n) (hn : n ≤ 1000000) (hbase : base ≤ w.heap.size)
    (hK : ∀ v' w', Own w' base VT 5 v' (n + 1) (xs.take (i * 5) ++ c ++ xs.drop (i * 5)) → Chg (fun k => v.ownBlock = some k) w w' → (∀ k, v'.ownBlock = some k → v.ownBlock = some k ∨ w.heap.size ≤ k) → K v' w') :
    callF Tryz.prog 163 [v, i64 (i : Nat), .slice (some ⟨tb, 0, none⟩) 1 1] w K := by
  refine W163_ok ?_
  show InsW Tryz.prog 5 37 3 213 214 _ _ _ _ _
  exact insert_q elem_v (by kernel_rfl) ov_v hown ht hc h1 hx1 hne hi hn (by decide) hbase hK
end
end Go.Proofs.YtnoepcndjljolaaGreatDoor
namespace Go.Proofs.YtnoepcndjljolaaGreatDoor
open Go Go.Eng
set_option maxRecDepth 100000
theorem VRepsP.len {G : Nat → Prop} {w : World} {xs : List JV} {L : List Value} (h : VRepsP G w xs L) : L.length = xs.length * 5 := (VRepsP.rep h).len
theorem VRepsP.app {G : Nat → Prop} {w : World} : ∀ {xs ys : List JV} {L M : List Value}, VRepsP G w xs L → VRepsP G w ys M → VRepsP G w (xs ++ ys) (L ++ M)
  | [], ys, L, M, h, h' => by simp only [VRepsP] at h; subst h; exact h'
  | x :: xs, ys, L, M, h, h' => by
    simp only [VRepsP] at h
    obtain ⟨c, r, rfl, hc, hr⟩ := h
    simp only [List.cons_append, VRepsP]
    exact ⟨c, r ++ M, by simp, hc, VRepsP.app hr h'⟩
theorem VRepsP.cut {G : Nat → Prop} {w : World} : ∀ (i : Nat) {xs : List JV} {L : List Value}, VRepsP G w xs L → VRepsP G w (xs.take i) (L.take (i * 5)) ∧ VRepsP G w (xs.drop i) (L.drop (i * 5))
  | 0, xs, L, h => by simp only [Nat.zero_mul, List.take_zero, List.drop_zero, VRepsP]; exact ⟨trivial, h⟩
  | i + 1, [], L, h => by simp only [VRepsP] at h; subst h; simp [VRepsP]
  | i + 1, x :: xs, L, h => by
    simp only [VRepsP] at h
    obtain ⟨c, r, rfl, hc, hr⟩ := h
    have h5 := hc.rep.len
    obtain ⟨h1, h2⟩ := VRepsP.cut i hr
    have e1 : (c ++ r).take ((i + 1) * 5) = c ++ r.take (i * 5) := by
      rw [show (i + 1) * 5 = c.length + i * 5 by omega, List.take_append, List.take_of_length_le (by omega), Nat.add_sub_cancel_left]
    have e2 : (c ++ r).drop ((i + 1) * 5) = r.drop (i * 5) := by
      rw [show (i + 1) * 5 = c.length + i * 5 by omega, List.drop_append]
      simp
    rw [e1, e2]
    simp only [List.take_succ_cons, List.drop_succ_cons, VRepsP]
    exact ⟨⟨c, _, rfl, hc, h1⟩, h2⟩
theorem VRepsP.one' {G : Nat → Prop} {w : World} {x : JV} {cs : List Value} (h : VRepP G w x cs) : VRepsP G w [x] cs := by
  simp only [VRepsP]; exact ⟨cs, [], by simp, h, rfl⟩
theorem ins_split {l : List (Str × JV)} {k : Str} {x : JV} {i : Nat} (hk : k ∉ l.map (·.1)) (h1 : ∀ j a, j < i → (l.map (·.1))[j]? = some a → Op.bytesLess a k = true) (h2 : ∀ j a, i ≤ j → (l.map (·.1))[j]? = some a → Op.bytesLess a k = false) : insP l k x = l.take i ++ (k, x) :: l.drop i := by
  induction l generalizing i with
  | nil => simp [insP]
  | cons q r ih =>
    obtain ⟨a, y⟩ := q
    simp only [List.map_cons, List.mem_cons, not_or] at hk
    simp only [insP]
    cases i with
    | zero =>
      have := h2 0 a (Nat.zero_le _) rfl
      have hka : Op.bytesLess k a = true := by
        rcases less_tri k a with h | h | h
        · exact h
        · exact absurd h hk.1
        · rw [this] at h; cases h
      rw [if_pos hka]; rfl
    | succ i =>
      have := h1 0 a (by omega) rfl
      rw [if_neg (by rw [less_anti this]; simp), ih (i := i) hk.2 (fun j b hj hb => h1 (j + 1) b (by omega) hb) (fun j b hj hb => h2 (j + 1) b (by omega) hb)]
      rfl
theorem own_chg {w w' : World} {B : Nat} {e : TypeId} {size : Nat} {v : Value} {n : Nat} {xs : List Value} {S : Nat → Prop} (h : Own w B e size v n xs) (hc : Chg S w w') (hS : ∀ k, v.ownBlock = some k → ¬ S k) : Own w' B e size v n xs := by
  obtain ⟨hl, h | ⟨g, cap, cur, rfl, h1, h2, h3⟩⟩ := h
  · exact ⟨hl, .inl h⟩
  · exact ⟨hl, .inr ⟨g, cap, cur, rfl, h1, hc.at h2 (hS g rfl), h3⟩⟩
theorem own_in {w : World} {B : Nat} {e : TypeId} {size : Nat} {v : Value} {n k : Nat} {xs : List Value} (h : Own w B e size v n xs) (hk : v.ownBlock = some k) : B ≤ k ∧ k < w.heap.size ∧ ∃ c, w.heap[k]? = some (.cells c e (0, 0)) := by
  obtain ⟨hl, ⟨rfl, _⟩ | ⟨g, cap, cur, rfl, h1, h2, h3⟩⟩ := h
  · cases hk
  · simp only [Value.ownBlock, Option.some.injEq] at hk
    subst hk
    exact ⟨h1, at_lt h2, _, h2⟩
theorem own_one {w : World} {B : Nat} {e : TypeId} {size : Nat} {v : Value} {n : Nat} {xs : List Value} (h : Own w B e size v n xs) : one1 v = true := by obtain ⟨p, c, rfl, _⟩ := h.sl.shape; rfl
theorem strs_one (l : List Str) : ∀ u ∈ l.map str, one1 u = true := fun u hu => by
  obtain ⟨s, _, rfl⟩ := List.mem_map.1 hu
  rfl
section
variable [HX]
theorem clone_so {v : Value} {T : TypeId} {l : List Str} {w : World} {K : Value → World → Prop} (h : SlAt w T v l.length (l.map str)) (hl : l.length ≤ 1000000)
    (hK : ∀ v' w', Ext w w' → Own w' w.heap.size ST 1 v' l.length (l.map str) → K v' w') : callF Tryz.prog 72 [v] w K := by
  refine W72_ok ?_
  unfold W72
  obtain ⟨p, cap, rfl, hcap, hp, hc⟩ := h
  cases p with
  | none =>
    obtain ⟨h0, rfl⟩ := hp rfl
    have : l = [] := List.eq_nil_of_length_eq_zero h0
    subst this
    have e : ∀ K : Value → Prop, eqW .slice false (.slice none ([] : List Str).length 0) (.slice none 0 0) K ↔ K (.bool true) := fun K => Iff.rfl
    rw [e]
    simp only [wsv, wsg, wsh, wsl, cond_true, cond_false, exists_eq_left', Option.some.injEq, Option.isSome_some, List.getElem?_toArray, List.getElem?_cons_zero, List.getElem?_cons_succ, List.length_cons, List.length_nil, List.set_cons_zero, List.set_cons_succ, List.getD_cons_zero, List.getD_cons_succ, Nat.zero_add, Nat.add_zero, Nat.reduceAdd, Nat.reduceLT, Nat.lt_add_one, Nat.zero_lt_succ, decide_true, decide_false, ne_eq, reduceCtorEq]
    exact hK _ w (Chg.refl _ _) ⟨rfl, .inl ⟨rfl, rfl⟩⟩
  | some a =>
    have e : ∀ K : Value → Prop, eqW .slice false (.slice (some a) l.length cap) (.slice none 0 0) K ↔ K (.bool false) := fun K => Iff.rfl
    rw [e]
    unfold bslW
    simp only [wsv, wsg, wsh, wsl, cond_true, cond_false, exists_eq_left', Option.some.injEq, Option.isSome_some, List.getElem?_toArray, List.getElem?_cons_zero, List.getElem?_cons_succ, List.length_cons, List.length_nil, List.set_cons_zero, List.set_cons_succ, List.getD_cons_zero, List.getD_cons_succ, Nat.zero_add, Nat.add_zero, Nat.reduceAdd, Nat.reduceLT, Nat.lt_add_one, Nat.zero_lt_succ, decide_true, decide_false, ne_eq, reduceCtorEq]
    refine append_own3 elem_s (base := w.heap.size) (own_new (w := w) (base := w.heap.size) (e := ST) (size := 1) (n := 0) (cs := []) (Nat.le_refl _) rfl (by omega)) (x := .slice (some a) l.length cap) (T := T) (m := l.length) (news := l.map str) ?_ (by simp) ?_ (by omega) (by omega) (by rw [size_alloc]; omega) fun v' w' h' hc' hb' => ?_
    · have hx : Ext w (w.alloc (.cells ([] : List Value).toArray ST)) := (by repeat (first | assumption | exact Chg.refl _ _ | refine Chg.drew ?_ | refine Chg.alloc ?_ _ | refine Chg.set ?_ (by first | exact .inl rfl | exact .inr (by omega) | exact .inr (by simp only [size_set, size_alloc, size_drew]; omega) | (left; simp; done)) _ | exact Chg.of_ext (by assumption)))
      exact SlAt.ext ⟨some a, cap, rfl, hcap, hp, hc⟩ hx
    · exact strs_one l
    · have hx : Ext w (w.alloc (.cells ([] : List Value).toArray ST)) := (by repeat (first | assumption | exact Chg.refl _ _ | refine Chg.drew ?_ | refine Chg.alloc ?_ _ | refine Chg.set ?_ (by first | exact .inl rfl | exact .inr (by omega) | exact .inr (by simp only [size_set, size_alloc, size_drew]; omega) | (left; simp; done)) _ | exact Chg.of_ext (by assumption)))
      refine hK v' w' (hx.then hc' fun k hk e => ?_) (by simpa using h')
      simp only [Value.ownBlock, Option.some.injEq] at e
      omega
theorem clones_o {xs : List JV} (hf : ∀ x ∈ xs, fewM x = true)
    {sv : Value} {w : World} {K : Value → World → Prop} (h : ItemsAt w sv xs) (hl : xs.length ≤ 1000000)
    (hK : ∀ sv' w' L, Ext w w' → Own w' w.heap.size VT 5 sv' xs.length L → VRepsP (fun k => w.heap.size ≤ k ∧ sv'.ownBlock ≠ some k) w' xs L → K sv' w') : callF Tryz.prog 130 [sv] w K := by
  refine W130_ok ?_
  unfold W130
  rw [h.len]
  refine ⟨fun s w' => ∃ i v L, i ≤ xs.length ∧ s = [v, i64 (i : Nat)] ∧ Ext w w' ∧ Own w' w.heap.size VT 5 v i L ∧ VRepsP (fun k => w.heap.size ≤ k ∧ v.ownBlock ≠ some k) w' (xs.take i) L,
    fun s _ => match s with | [_, .int _ i] => xs.length - i.toNat | _ => 0, ⟨0, _, [], by omega, rfl, Chg.refl _ _, ⟨by simp, .inl ⟨rfl, rfl⟩⟩, by simp [VRepsP]⟩, ?_⟩
  rintro s g w2 ⟨i, v, L, hi, rfl, hx2, hO, hr⟩
  rcases Nat.lt_or_ge i xs.length with hlt | hge
  · obtain ⟨x, hxi⟩ : ∃ x, xs[i]? = some x := ⟨_, List.getElem?_eq_getElem hlt⟩
    have hltI : (i : Int) < (xs.length : Int) := by omega
    simp only [wsv, wsg, wsh, wsl, cond_true, cond_false, exists_eq_left', Option.some.injEq, Option.isSome_some, List.getElem?_toArray, List.getElem?_cons_zero, List.getElem?_cons_succ, List.length_cons, List.length_nil, List.set_cons_zero, List.set_cons_succ, List.getD_cons_zero, List.getD_cons_succ, Nat.zero_add, Nat.add_zero, Nat.reduceAdd, Nat.reduceLT, Nat.lt_add_one, Nat.zero_lt_succ, decide_true, decide_false, ne_eq, reduceCtorEq, hltI]
    refine (h.ext hx2).at hxi fun cs hcs => ?_
    refine copy_new hcs fun p w3 sp kp hP hx3 => ?_
    refine hP.ld fun cs2 h2 => ?_
    refine clone_p x (hf x (List.mem_of_getElem? hxi)) h2 fun cs3 w4 hx4 h3 => ?_
    refine row_v h3.rep.len fun t w5 ht hx5 => ?_
    have hx25 := hx3.trans (hx4.trans hx5)
    have hO5 := hO.ext hx25
    have s0 := hx2.size
    have s3 := hx3.size
    have s25 := hx25.size
    have hglt : ∀ k, v.ownBlock = some k → k < w2.heap.size := fun k hk => (World.ownsRow.lt hO k hk).2
    refine append_own3 elem_v hO5 ht (m := 1) (by rw [h3.rep.len]) h3.rep.one (by omega) (by omega) (by omega) fun v' w6 h6 hc6 hb6 => ?_
    have hx6 : Ext w w6 := (hx2.trans hx25).then hc6 fun k hk e => by
      have := (own_ge hO5 e).1; omega
    rw [up1 (by omega)]
    refine ⟨⟨i + 1, v', L ++ cs3, hlt, rfl, hx6, h6, ?_⟩, by simp only [Int.toNat_natCast]; omega⟩
    have e : xs.take (i + 1) = xs.take i ++ [x] := by rw [List.take_add_one, hxi]; rfl
    rw [e]
    have hr5 := VRepsP.chg hx25 (fun _ _ _ e => e) hr
    have h35 := VRepP.chg hx5 (fun _ _ _ e => e) h3
    have hall : VRepsP (fun k => w.heap.size ≤ k ∧ v.ownBlock ≠ some k) w5 (xs.take i ++ [x]) (L ++ cs3) :=
      hr5.snoc (h35.mono fun k _ hk => ⟨by have : w3.heap.size ≤ k := hk; omega, fun e => by have := hglt k e; have : w3.heap.size ≤ k := hk; omega⟩)
    have hall2 : VRepsP (fun k => (w.heap.size ≤ k ∧ v.ownBlock ≠ some k) ∧ k < w5.heap.size) w5 (xs.take i ++ [x]) (L ++ cs3) := hall.mono fun k hlt hk => ⟨hk, hlt⟩
    have hall3 := VRepsP.chg hc6 (fun k hk _ e => hk.1.2 e) hall2
    exact hall3.mono fun k _ hk => ⟨hk.1.1, fun e => by
      rcases hb6 k e with h | h
      · exact hk.1.2 h
      · omega⟩
  · obtain rfl : i = xs.length := by omega
    simp only [wsv, wsg, wsh, wsl, cond_true, cond_false, exists_eq_left', Option.some.injEq, Option.isSome_some, List.getElem?_toArray, List.getElem?_cons_zero, List.getElem?_cons_succ, List.length_cons, List.length_nil, List.set_cons_zero, List.set_cons_succ, List.getD_cons_zero, List.getD_cons_succ, Nat.zero_add, Nat.add_zero, Nat.reduceAdd, Nat.reduceLT, Nat.lt_add_one, Nat.zero_lt_succ, decide_true, decide_false, ne_eq, reduceCtorEq, Int.lt_irrefl]
    rw [List.take_length] at hr
    exact hK v w2 L hx2 hO hr
structure OwnP (w : World) (B : Nat) (v : JV) (sv kv : Value) (L : List Value) : Prop where
  items : Own w B VT 5 sv v.xs.length L
  reps : VRepsP (fun q => B ≤ q ∧ sv.ownBlock ≠ some q ∧ kv.ownBlock ≠ some q) w v.xs L
  keys : Own w B ST 1 kv v.ks.length (v.ks.map str)
  fits : Fits v.xs.length v.ks v.t
theorem OwnP.ext {w w' : World} {B : Nat} {v : JV} {sv kv : Value} {L : List Value} (h : OwnP w B v sv kv L) (hx : Ext w w') : OwnP w' B v sv kv L := ⟨own_chg h.items hx fun _ _ e => e, VRepsP.chg hx (fun _ _ _ e => e) h.reps, own_chg h.keys hx fun _ _ e => e, h.fits⟩
theorem OwnP.rep {w : World} {B : Nat} {v : JV} {sv kv : Value} {L : List Value} (h : OwnP w B v sv kv L) : VRepP (From B) w v [i64 v.k, .bool v.b, str v.t, sv, kv] :=
  VRepP.mk h.items.sl (h.reps.mono fun k _ hk => hk.1) h.keys.sl h.fits (fun _ k hk => (own_in h.items hk).1) (fun _ k hk => (own_in h.keys hk).1)
theorem clone_o {v : JV} {cs : List Value} {w : World} {K : Value → World → Prop} (hfew : fewM v = true) (h : VRep w v cs) (hK : ∀ sv kv L w', Ext w w' → OwnP w' w.heap.size v sv kv L → K (.agg [i64 v.k, .bool v.b, str v.t, sv, kv].toArray) w') :
    callF Tryz.prog 71 [.agg cs.toArray] w K := by
  rw [fewM_eq, fewL_all] at hfew
  simp only [Bool.and_eq_true, decide_eq_true_eq, List.all_eq_true] at hfew
  obtain ⟨⟨f1, f2⟩, f3⟩ := hfew
  refine W71_ok ?_
  unfold W71
  refine box_val h fun a w1 sv kv hB hx ha => ?_
  refine alloc_new fun b w2 hb hz2 hbb hx2 => ?_
  have hxd : Ext w2 w2.drew := Chg.drew (Chg.refl (fun _ => False) w2)
  have hB2 := hB.ext hx2
  have hBd := hB2.ext hxd
  have hbd := hxd.at hbb id
  have sd : w2.drew.heap.size = w2.heap.size := rfl
  simp only [wsv, wsg, wsh, wsl, cond_true, cond_false, exists_eq_left', Option.some.injEq, Option.isSome_some, List.getElem?_toArray, List.getElem?_cons_zero, List.getElem?_cons_succ, List.length_cons, List.length_nil, List.set_cons_zero, List.set_cons_succ, List.getD_cons_zero, List.getD_cons_succ, Nat.zero_add, Nat.add_zero, Nat.reduceAdd, Nat.reduceLT, Nat.lt_add_one, Nat.zero_lt_succ, decide_true, decide_false, ne_eq, reduceCtorEq, wsh, hB2.hb]
  obtain ⟨T1, k1⟩ := hBd.keys
  refine clone_so k1 (by omega) fun kv' w3 hx3 hk3 => ?_
  have hB3 := hBd.ext hx3
  have hb3 := hx3.at hbd id
  have s3 := hx3.size
  simp only [wsv, wsg, wsh, wsl, cond_true, cond_false, exists_eq_left', Option.some.injEq, Option.isSome_some, List.getElem?_toArray, List.getElem?_cons_zero, List.getElem?_cons_succ, List.length_cons, List.length_nil, List.set_cons_zero, List.set_cons_succ, List.getD_cons_zero, List.getD_cons_succ, Nat.zero_add, Nat.add_zero, Nat.reduceAdd, Nat.reduceLT, Nat.lt_add_one, Nat.zero_lt_succ, decide_true, decide_false, ne_eq, reduceCtorEq, wsh, hB3.hb]
  refine clones_o f3 hB3.itemsAt (by omega) fun sv' w4 L hx4 hL1 hL2 => ?_
  have hB4 := hB3.ext hx4
  have hb4 := hx4.at hb3 id
  have s1 := hx.size
  have hak := at_lt hB.hb
  have one1 : one1 sv' = true ∧ one1 kv' = true := ⟨own_one hL1, own_one hk3⟩
  refine st_at hB4.hb one1.2 (by simp) fun w5 hz5 ha5 hc5 => ?_
  have ha5 : w5.heap[a]? = some (.cells [i64 v.k, .bool v.b, str v.t, sv, kv'].toArray VT (0, 0)) := by rw [ha5]; simp
  refine st_at ha5 one1.1 (by simp) fun w6 hz6 ha6 hc6 => ?_
  have ha6 : w6.heap[a]? = some (.cells [i64 v.k, .bool v.b, str v.t, sv', kv'].toArray VT (0, 0)) := by rw [ha6]; simp
  refine ld_all ha6 rfl ?_
  have hb6 := hc6.at (hc5.at hb4 (by omega)) (by omega)
  refine ret_agg hb6 rfl rfl (obj_one one1.1 one1.2) fun w7 hc7 => ?_
  have hx1 : Ext w w4 := hx.trans (hx2.trans (hxd.trans (hx3.trans hx4)))
  have hx5 : Ext w w7 := ((hx1.new hc5 (by omega)).new hc6 (by omega)).new hc7 (by omega)
  have hch : Chg (fun k => k = a ∨ k = b) w4 w7 := ((hc5.mono fun k _ e => .inl e).trans (hc6.mono fun k _ e => .inl e)).trans (hc7.mono fun k _ e => .inr e)
  have hkb : ∀ k, kv'.ownBlock = some k → w2.drew.heap.size ≤ k ∧ k < w3.heap.size := fun k hk => ⟨(own_in hk3 hk).1, (own_in hk3 hk).2.1⟩
  have hib : ∀ k, sv'.ownBlock = some k → w3.heap.size ≤ k := fun k hk => (own_in hL1 hk).1
  have lower : ∀ {e : TypeId} {size n : Nat} {v : Value} {xs : List Value} {B B' : Nat} {w : World}, B' ≤ B → Own w B e size v n xs → Own w B' e size v n xs := fun hle h => by
    obtain ⟨hl, h | ⟨g, cap, cur, he, h1, h2⟩⟩ := h
    · exact ⟨hl, .inl h⟩
    · exact ⟨hl, .inr ⟨g, cap, cur, he, by omega, h2⟩⟩
  refine hK sv' kv' L w7 hx5 ⟨lower (by omega) (own_chg hL1 hch fun k hk e => by have := hib k hk; omega), ?_, lower (by omega) (own_chg (hk3.ext hx4) hch fun k hk e => by have := hkb k hk; omega), hB.fits⟩
  refine VRepsP.mono (fun k _ hk => ?_) (VRepsP.chg (G := fun k => w3.heap.size ≤ k ∧ sv'.ownBlock ≠ some k) hch (fun k hk _ e => by have := hk.1; omega) hL2)
  exact ⟨by have := hk.1; omega, hk.2, fun e => by have := hkb k e; have := hk.1; omega⟩
end
end Go.Proofs.YtnoepcndjljolaaGreatDoor
