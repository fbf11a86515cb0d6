/- One plain sentence: contracts of the document's answer for values: which are good, and which are the same. Conditions: those that each states. -/
import Derived.Test.YtonblcbpoilndaaGreatDoorVS1
set_option linter.all false
set_option linter.unusedSimpArgs false
set_option linter.unusedVariables false
set_option linter.unusedSectionVars false
namespace Go.Proofs.YtonblcbpoilndaaGreatDoor
open Go Go.Eng Go.Num
set_option maxRecDepth 100000
section
variable [HX]

theorem isDig_out (c : UInt8) : (decide (((c.toNat : Nat) : Int) < 48) || decide ((57 : Int) < ((c.toNat : Nat) : Int))) = !isDig c := by
  unfold isDig
  rcases Nat.lt_or_ge c.toNat 48 with h | h
  · rw [decide_eq_true (by omega), decide_eq_false (show ¬ 48 ≤ c.toNat by omega)]; rfl
  · rw [decide_eq_false (show ¬ ((c.toNat : Nat) : Int) < 48 by omega), decide_eq_true (show 48 ≤ c.toNat by omega)]
    rcases Nat.lt_or_ge 57 c.toNat with h2 | h2
    · rw [decide_eq_true (by omega), decide_eq_false (show ¬ c.toNat ≤ 57 by omega)]; rfl
    · rw [decide_eq_false (by omega), decide_eq_true (show c.toNat ≤ 57 by omega)]; rfl
theorem u8_is (c : UInt8) (m : Int) (d : UInt8) (hm : m = (d.toNat : Nat)) : decide (((c.toNat : Nat) : Int) = m) = (c == d) := by
  rw [Bool.eq_iff_iff, decide_eq_true_eq, beq_iff_eq, hm]
  constructor
  · intro h; exact UInt8.toNat_inj.1 (by omega)
  · intro h; rw [h]

theorem goodN_def (a : Str) : goodN a = (!decide ((dig a).length = 0) && !decide (100 < (dig a).length) && !((dig a).head? == some 48 && (decide (1 < (dig a).length) || decide (1 < a.length))) && (dig a).all isDig) := by
  unfold goodN
  have key : (dig a).head? = some 48 → (decide (a = [48]) = !(decide (1 < (dig a).length) || decide (1 < a.length))) := by
    intro h
    have h1 : a = [48] ↔ ¬ (1 < (dig a).length ∨ 1 < a.length) := by
      cases a with
      | nil => simp [dig] at h
      | cons c r =>
        by_cases hc : c = 45
        · have e : dig (c :: r) = r := by simp [dig, hc]
          rw [e] at h ⊢
          cases r with
          | nil => simp at h
          | cons e r => simp
        · have e : dig (c :: r) = c :: r := by simp [dig, hc]
          rw [e] at h ⊢
          simp only [List.head?_cons, Option.some.injEq] at h
          subst h
          cases r <;> simp
    rw [← Bool.decide_or, ← decide_not]
    exact decide_eq_decide.2 h1
  have e1 : decide (1 ≤ (dig a).length) = !decide ((dig a).length = 0) := by rw [← decide_not]; exact decide_eq_decide.2 (by omega)
  have e2 : decide ((dig a).length ≤ 100) = !decide (100 < (dig a).length) := by rw [← decide_not]; exact decide_eq_decide.2 (by omega)
  rw [e1, e2]
  cases hh : ((dig a).head? == some 48) with
  | false => simp
  | true => rw [key (by simpa using hh)]; simp

theorem good01_ref {a : Str} {w : World} {K : Value → World → Prop} (ha : a.length ≤ 9223372036854775807) (hK : ∀ w', Ext w w' → K (.bool (goodN a)) w') : callF Tryz.prog 90 [str a] w K := by
  refine W90_ok ?_
  unfold W90
  refine JoinW.cut (fun s w' => s = [str (dig a)] ∧ w' = w) ?_ ?_
  · cases a with
    | nil =>
      have h0 : ¬ (0 : Int) < ((0 : Nat) : Int) := by simp
      simp only [wsv, wsg, wsh, wsl, cond_true, cond_false, exists_eq_left', Option.some.injEq, Option.isSome_some, List.getElem?_toArray, List.getElem?_cons_zero, List.getElem?_cons_succ, List.length_cons, List.length_nil, List.set_cons_zero, List.set_cons_succ, List.getD_cons_zero, List.getD_cons_succ, Nat.zero_add, Nat.add_zero, Nat.reduceAdd, Nat.reduceLT, Nat.lt_add_one, Nat.zero_lt_succ, decide_true, decide_false, ne_eq, reduceCtorEq, h0]
      intros
      (try simp only [wsv, wsg, wsh, wsl, cond_true, cond_false, exists_eq_left', Option.some.injEq, Option.isSome_some, List.getElem?_toArray, List.getElem?_cons_zero, List.getElem?_cons_succ, List.length_cons, List.length_nil, List.set_cons_zero, List.set_cons_succ, List.getD_cons_zero, List.getD_cons_succ, Nat.zero_add, Nat.add_zero, Nat.reduceAdd, Nat.reduceLT, Nat.lt_add_one, Nat.zero_lt_succ, decide_true, decide_false, ne_eq, reduceCtorEq])
      first | exact ⟨rfl, rfl⟩ | rfl
    | cons c r =>
      have h0 : (0 : Int) < ((r.length + 1 : Nat) : Int) := by omega
      simp only [wsv, wsg, wsh, wsl, cond_true, cond_false, exists_eq_left', Option.some.injEq, Option.isSome_some, List.getElem?_toArray, List.getElem?_cons_zero, List.getElem?_cons_succ, List.length_cons, List.length_nil, List.set_cons_zero, List.set_cons_succ, List.getD_cons_zero, List.getD_cons_succ, Nat.zero_add, Nat.add_zero, Nat.reduceAdd, Nat.reduceLT, Nat.lt_add_one, Nat.zero_lt_succ, decide_true, decide_false, ne_eq, reduceCtorEq, h0, Int.le_refl, Int.toNat_zero]
      intro _
      rw [u8_is c 45 45 rfl]
      simp only [wsv, wsg, wsh, wsl, cond_true, cond_false, exists_eq_left', Option.some.injEq, Option.isSome_some, List.getElem?_toArray, List.getElem?_cons_zero, List.getElem?_cons_succ, List.length_cons, List.length_nil, List.set_cons_zero, List.set_cons_succ, List.getD_cons_zero, List.getD_cons_succ, Nat.zero_add, Nat.add_zero, Nat.reduceAdd, Nat.reduceLT, Nat.lt_add_one, Nat.zero_lt_succ, decide_true, decide_false, ne_eq, reduceCtorEq, condW_b]
      refine ⟨fun h => ?_, fun h => ?_⟩
      · have e : dig (c :: r) = r := by simp [dig, (beq_iff_eq.1 h)]
        rw [e, show (1 : Int).toNat = 1 from rfl, ← List.length_cons (a := c), List.take_length]
        exact ⟨by omega, by simp only [List.length_cons]; omega, rfl⟩
      · have : c ≠ 45 := by simpa using h
        have e : dig (c :: r) = c :: r := by simp [dig, this]
        rw [e]
  · rintro s g w' ⟨rfl, rfl⟩
    have hdl : (dig a).length ≤ a.length := by
      cases a with
      | nil => simp [dig]
      | cons c r => simp only [dig]; split <;> simp
    rw [goodN_def] at hK
    cases hd : dig a with
    | nil =>
      rw [hd] at hK
      have hz : decide (((0 : Nat) : Int) = 0) = true := by decide
      simp only [wsv, wsg, wsh, wsl, cond_true, cond_false, exists_eq_left', Option.some.injEq, Option.isSome_some, List.getElem?_toArray, List.getElem?_cons_zero, List.getElem?_cons_succ, List.length_cons, List.length_nil, List.set_cons_zero, List.set_cons_succ, List.getD_cons_zero, List.getD_cons_succ, Nat.zero_add, Nat.add_zero, Nat.reduceAdd, Nat.reduceLT, Nat.lt_add_one, Nat.zero_lt_succ, decide_true, decide_false, ne_eq, reduceCtorEq, hz]
      intros
      exact hK _ (Chg.refl _ _)
    | cons c r =>
      rw [hd] at hK hdl
      have hz : decide (((r.length + 1 : Nat) : Int) = 0) = false := decide_eq_false (by omega)
      simp only [wsv, wsg, wsh, wsl, cond_true, cond_false, exists_eq_left', Option.some.injEq, Option.isSome_some, List.getElem?_toArray, List.getElem?_cons_zero, List.getElem?_cons_succ, List.length_cons, List.length_nil, List.set_cons_zero, List.set_cons_succ, List.getD_cons_zero, List.getD_cons_succ, Nat.zero_add, Nat.add_zero, Nat.reduceAdd, Nat.reduceLT, Nat.lt_add_one, Nat.zero_lt_succ, decide_true, decide_false, ne_eq, reduceCtorEq, Int.le_refl, Int.toNat_zero, u8_is c 48 48 rfl, hz, condW_b]
      intros
      have e1 : decide ((100 : Int) < ((r.length + 1 : Nat) : Int)) = decide (100 < (c :: r).length) := decide_eq_decide.2 (by simp only [List.length_cons]; omega)
      have e2 : decide ((1 : Int) < ((r.length + 1 : Nat) : Int)) = decide (1 < (c :: r).length) := decide_eq_decide.2 (by simp only [List.length_cons]; omega)
      have e3 : decide ((1 : Int) < (a.length : Int)) = decide (1 < a.length) := decide_eq_decide.2 (by omega)
      rw [e1, e2, e3]
      have e4 : decide ((c :: r).length = 0) = false := decide_eq_false (by simp)
      have e5 : ((c :: r).head? == some 48) = (c == 48) := by simp
      rw [e4, e5] at hK
      generalize decide (100 < (c :: r).length) = b1 at *
      generalize ((c == 48) && (decide (1 < (c :: r).length) || decide (1 < a.length))) = b2 at *
      refine ⟨fun h => ?_, fun h => ?_⟩
      · have := hK _ (Chg.refl _ _)
        have e : (!false && !b1 && !b2 && (c :: r).all isDig) = false := by
          cases b1 <;> cases b2 <;> simp at h ⊢
        rw [e] at this
        exact this
      · have hb : b1 = false ∧ b2 = false := by simpa using h
        rw [hb.1, hb.2] at hK
        have hn : ((r.length + 1 : Nat) : Int) = (((c :: r).length : Nat) : Int) := by simp
        rw [hn]
        generalize c :: r = D at *
        refine loop_up D.length (fun i w2 => Ext w' w2 ∧ (D.take i).all isDig = true) ⟨Chg.refl _ _, rfl⟩ ?_ ?_
        · rintro i w2 g L hi ⟨hx2, hall⟩ hL
          obtain ⟨e, he⟩ : ∃ e, D[i]? = some e := ⟨_, List.getElem?_eq_getElem hi⟩
          have hlt : ((i : Int) < ((D.length : Nat) : Int)) := by omega
          simp only [wsv, wsg, wsh, wsl, cond_true, cond_false, exists_eq_left', Option.some.injEq, Option.isSome_some, List.getElem?_toArray, List.getElem?_cons_zero, List.getElem?_cons_succ, List.length_cons, List.length_nil, List.set_cons_zero, List.set_cons_succ, List.getD_cons_zero, List.getD_cons_succ, Nat.zero_add, Nat.add_zero, Nat.reduceAdd, Nat.reduceLT, Nat.lt_add_one, Nat.zero_lt_succ, decide_true, decide_false, ne_eq, reduceCtorEq, hlt, Int.toNat_natCast, Int.natCast_nonneg, he, isDig_out]
          intros
          rw [condW_b]
          refine ⟨fun hf => ?_, fun ht => ?_⟩
          · have hf : isDig e = false := by simpa using hf
            have := hK _ hx2
            rw [all_no he hf] at this
            exact this
          · have ht : isDig e = true := by simpa using ht
            rw [up1 (by omega)]
            exact hL _ ⟨hx2, by rw [all_take he, hall, ht]; rfl⟩
        · rintro w2 g L ⟨hx2, hall⟩
          simp only [wsv, wsg, wsh, wsl, cond_true, cond_false, exists_eq_left', Option.some.injEq, Option.isSome_some, List.getElem?_toArray, List.getElem?_cons_zero, List.getElem?_cons_succ, List.length_cons, List.length_nil, List.set_cons_zero, List.set_cons_succ, List.getD_cons_zero, List.getD_cons_succ, Nat.zero_add, Nat.add_zero, Nat.reduceAdd, Nat.reduceLT, Nat.lt_add_one, Nat.zero_lt_succ, decide_true, decide_false, ne_eq, reduceCtorEq, Int.lt_irrefl]
          rw [List.take_length] at hall
          have := hK w2 hx2
          rw [hall] at this
          exact this

theorem keysOk_two {ks : List Str} {i : Nat} {a b : Str} (ha : ks[i]? = some a) (hb : ks[i + 1]? = some b) (h : Op.bytesLess a b = false) : keysOk ks = false := by
  induction ks generalizing i with
  | nil => simp at ha
  | cons x r ih =>
    cases r with
    | nil => simp at hb
    | cons y r =>
      cases i with
      | zero => simp only [List.getElem?_cons_zero, Option.some.injEq, Nat.zero_add, List.getElem?_cons_succ] at ha hb; subst ha hb; simp [keysOk, h]
      | succ i =>
        simp only [List.getElem?_cons_succ] at ha hb
        rw [keysOk, ih (by simpa using ha) (by simpa using hb)]; simp
theorem keysOk_long {ks : List Str} {i : Nat} {a : Str} (ha : ks[i]? = some a) (h : 16384 < a.length) : keysOk ks = false := by
  induction ks generalizing i with
  | nil => simp at ha
  | cons x r ih =>
    cases i with
    | zero =>
      simp only [List.getElem?_cons_zero, Option.some.injEq] at ha
      subst ha
      cases r with
      | nil => simp only [keysOk, decide_eq_false_iff_not]; omega
      | cons y r => rw [keysOk, decide_eq_false (by omega)]; rfl
    | succ i =>
      simp only [List.getElem?_cons_succ] at ha
      cases r with
      | nil => simp at ha
      | cons y r => rw [keysOk, ih ha]; simp
theorem keysOk_mk {ks : List Str} (h1 : ∀ (i : Nat) (a : Str), ks[i]? = some a → a.length ≤ 16384) (h2 : ∀ (i : Nat) (a b : Str), ks[i]? = some a → ks[i + 1]? = some b → Op.bytesLess a b = true) : keysOk ks = true := by
  induction ks with
  | nil => rfl
  | cons x r ih =>
    have := ih (fun i a h => h1 (i + 1) a (by rw [List.getElem?_cons_succ]; exact h)) (fun i a b ha hb => h2 (i + 1) a b (by rw [List.getElem?_cons_succ]; exact ha) (by rw [List.getElem?_cons_succ]; exact hb))
    cases r with
    | nil => simp only [keysOk, decide_eq_true_eq]; exact h1 0 x rfl
    | cons y r => rw [keysOk, this, h2 0 x y rfl rfl, decide_eq_true (h1 0 x rfl)]; rfl

theorem plain_ref (v : JV) : ∀ {cs : List Value} {w : World} {K : Value → World → Prop}, VRep w v cs → (∀ w', Ext w w' → K (.bool (plainM v)) w') → callF Tryz.prog 54 [.agg cs.toArray] w K := by
  induction v using JV.ind' with
  | h v ih =>
    intro cs w K h hK
    refine W54_ok ?_
    unfold W54
    refine box_val h fun a w1 sv kv hB hx _ => ?_
    rw [plainM_eq] at hK
    simp only [wsv, wsg, wsh, wsl, cond_true, cond_false, exists_eq_left', Option.some.injEq, Option.isSome_some, List.getElem?_toArray, List.getElem?_cons_zero, List.getElem?_cons_succ, List.length_cons, List.length_nil, List.set_cons_zero, List.set_cons_succ, List.getD_cons_zero, List.getD_cons_succ, Nat.zero_add, Nat.add_zero, Nat.reduceAdd, Nat.reduceLT, Nat.lt_add_one, Nat.zero_lt_succ, decide_true, decide_false, ne_eq, reduceCtorEq, wsh, hB.hb, hB.lenx, hB.lenk]
    intros
    rw [condW_b]
    refine ⟨fun hbad => ?_, fun hok => ?_⟩
    · have := hK w1 hx
      have e : headOk v.k v.b v.t v.xs.length v.ks = false := by
        cases he : headOk v.k v.b v.t v.xs.length v.ks with
        | false => rfl
        | true =>
          obtain ⟨a1, a2, a3, a4, a5, a6, _⟩ := headOk_out he
          exfalso
          simp only [Bool.or_eq_true, Bool.and_eq_true, decide_eq_true_eq] at hbad
          rcases hbad with ((((h1 | h1) | ⟨h1, h2⟩) | ⟨⟨h1, h2⟩, h3⟩) | ⟨h1, h2⟩) | ⟨h1, h2⟩
          · omega
          · omega
          · exact h2 (a3 h1)
          · rcases a4 h1 with h | h
            · exact h2 h
            · exact h3 h
          · have := a5 (by omega); omega
          · exact h1 (a6 fun e => by rw [e] at h2; simp at h2)
      rw [e] at this
      exact this
    · refine GdW.act (!goodN v.t) (fun w' => Ext w1 w') (fun _ => Chg.refl _ _) ?_ ?_
      · intro hc J hJ
        refine good01_ref hB.fits.2.2.1 fun w2 hx2 => ?_
        simp only [wsv, wsg, wsh, wsl, cond_true, cond_false, exists_eq_left', Option.some.injEq, Option.isSome_some, List.getElem?_toArray, List.getElem?_cons_zero, List.getElem?_cons_succ, List.length_cons, List.length_nil, List.set_cons_zero, List.set_cons_succ, List.getD_cons_zero, List.getD_cons_succ, Nat.zero_add, Nat.add_zero, Nat.reduceAdd, Nat.reduceLT, Nat.lt_add_one, Nat.zero_lt_succ, decide_true, decide_false, ne_eq, reduceCtorEq]
        exact hJ w2 hx2
      · intro g w2 hx2
        have hB := hB.ext hx2
        have hx := hx.trans hx2
        clear hx2
        simp only [wsv, wsg, wsh, wsl, cond_true, cond_false, exists_eq_left', Option.some.injEq, Option.isSome_some, List.getElem?_toArray, List.getElem?_cons_zero, List.getElem?_cons_succ, List.length_cons, List.length_nil, List.set_cons_zero, List.set_cons_succ, List.getD_cons_zero, List.getD_cons_succ, Nat.zero_add, Nat.add_zero, Nat.reduceAdd, Nat.reduceLT, Nat.lt_add_one, Nat.zero_lt_succ, decide_true, decide_false, ne_eq, reduceCtorEq, wsh, hB.hb, hB.lenx, hB.lenk]
        intros
        rw [condW_b]
        have hhead : headOk v.k v.b v.t v.xs.length v.ks = (!(decide (v.k = 3) && !goodN v.t || decide (v.k = 4) && decide (16384 < v.t.length) || decide (v.k = 6) && !decide (v.ks.length = v.xs.length)) && keysOk v.ks) := by
          simp only [Bool.or_eq_false_iff, Bool.and_eq_false_iff, decide_eq_false_iff_not] at hok
          obtain ⟨⟨⟨⟨⟨h1, h2⟩, h3⟩, h4⟩, h5⟩, h6⟩ := hok
          unfold headOk
          have a1 : decide (0 ≤ v.k) = true := decide_eq_true (by omega)
          have a2 : decide (v.k ≤ 6) = true := decide_eq_true (by omega)
          have a3 : (!v.b || decide (v.k = 2)) = true := by
            rcases h3 with h3 | h3
            · rw [h3]; rfl
            · rw [decide_eq_true (Decidable.not_not.1 h3)]; simp
          have a4 : (decide (v.t = []) || decide (v.k = 3) || decide (v.k = 4)) = true := by
            simp only [Bool.or_eq_true, decide_eq_true_eq]
            rcases h4 with (h4 | h4) | h4
            · exact .inl (.inl (Decidable.not_not.1 h4))
            · exact .inl (.inr (Decidable.not_not.1 h4))
            · exact .inr (Decidable.not_not.1 h4)
          have a5 : (decide (v.xs.length = 0) || decide (5 ≤ v.k)) = true := by
            simp only [Bool.or_eq_true, decide_eq_true_eq]; omega
          have a6 : (decide (v.k = 6) || decide (v.ks = [])) = true := by
            simp only [Bool.or_eq_true, decide_eq_true_eq]
            rcases h6 with h6 | h6
            · exact .inl (Decidable.not_not.1 h6)
            · exact .inr (List.eq_nil_of_length_eq_zero (by omega))
          rw [a1, a2, a3, a4, a5, a6]
          have a8 : decide (v.t.length ≤ 16384) = !decide (16384 < v.t.length) := by rw [← decide_not]; exact decide_eq_decide.2 (by omega)
          rw [a8]
          cases decide (v.k = 3) <;> cases goodN v.t <;> cases decide (v.k = 4) <;> cases decide (16384 < v.t.length) <;> cases decide (v.k = 6) <;> cases decide (v.ks.length = v.xs.length) <;> rfl
        rw [hhead] at hK
        have e1 : decide ((16384 : Int) < (v.t.length : Int)) = decide (16384 < v.t.length) := decide_eq_decide.2 (by omega)
        have e2 : decide (¬ (v.ks.length : Int) = (v.xs.length : Int)) = !decide (v.ks.length = v.xs.length) := by rw [← decide_not]; exact decide_eq_decide.2 (by omega)
        rw [e1, e2]
        generalize (decide (v.k = 3) && !goodN v.t || decide (v.k = 4) && decide (16384 < v.t.length) || decide (v.k = 6) && !decide (v.ks.length = v.xs.length)) = bb at *
        refine ⟨fun hb => ?_, fun hb => ?_⟩
        · have := hK w2 hx
          rw [hb] at this
          exact this
        · rw [hb] at hK
          refine loop_up v.ks.length (fun i w' => Ext w2 w' ∧ (∀ (j : Nat) (a : Str), j < i → v.ks[j]? = some a → a.length ≤ 16384) ∧ (∀ (j : Nat) (a b : Str), j + 1 < i → v.ks[j]? = some a → v.ks[j + 1]? = some b → Op.bytesLess a b = true)) ⟨Chg.refl _ _, (fun j a h => by omega), fun j a b h => by omega⟩ ?_ ?_
          · rintro i w3 g L hi ⟨hx3, hl, hs⟩ hL
            have hxd := hx3.trans (Chg.drew (Chg.refl (fun _ => False) w3))
            have hB := hB.ext hx3
            have hBd : ValB w3.drew a v sv kv := hB.ext (Chg.drew (Chg.refl (fun _ => False) w3))
            obtain ⟨u, hu⟩ : ∃ u, v.ks[i]? = some u := ⟨_, List.getElem?_eq_getElem hi⟩
            have hlt : ((i : Int) < (v.ks.length : Int)) := by omega
            simp only [wsv, wsg, wsh, wsl, cond_true, cond_false, exists_eq_left', Option.some.injEq, Option.isSome_some, List.getElem?_toArray, List.getElem?_cons_zero, List.getElem?_cons_succ, List.length_cons, List.length_nil, List.set_cons_zero, List.set_cons_succ, List.getD_cons_zero, List.getD_cons_succ, Nat.zero_add, Nat.add_zero, Nat.reduceAdd, Nat.reduceLT, Nat.lt_add_one, Nat.zero_lt_succ, decide_true, decide_false, ne_eq, reduceCtorEq, wsh, hB.hb, hlt]
            refine hBd.key hu ?_
            have hfin : keysOk v.ks = false → K (.bool false) w3.drew := fun hf => by
              have := hK _ (hx.trans hxd)
              rw [hf] at this
              exact this
            have hnext : u.length ≤ 16384 → (∀ x, 0 < i → v.ks[i - 1]? = some x → Op.bytesLess x u = true) → L [i64 ((i + 1 : Nat) : Int)] w3.drew := fun h1 h2 => by
              refine hL _ ⟨hxd, fun j a hj ha => ?_, fun j a b hj ha hb => ?_⟩
              · rcases Nat.lt_or_ge j i with h | h
                · exact hl j a h ha
                · obtain rfl : j = i := by omega
                  rw [hu] at ha; cases ha; exact h1
              · rcases Nat.lt_or_ge (j + 1) i with h | h
                · exact hs j a b h ha hb
                · obtain rfl : i = j + 1 := by omega
                  rw [hu] at hb; cases hb
                  exact h2 a (by omega) (by simpa using ha)
            by_cases hlong : 16384 < u.length
            · have e : decide ((16384 : Int) < (u.length : Int)) = true := decide_eq_true (by omega)
              simp only [wsv, wsg, wsh, wsl, cond_true, cond_false, exists_eq_left', Option.some.injEq, Option.isSome_some, List.getElem?_toArray, List.getElem?_cons_zero, List.getElem?_cons_succ, List.length_cons, List.length_nil, List.set_cons_zero, List.set_cons_succ, List.getD_cons_zero, List.getD_cons_succ, Nat.zero_add, Nat.add_zero, Nat.reduceAdd, Nat.reduceLT, Nat.lt_add_one, Nat.zero_lt_succ, decide_true, decide_false, ne_eq, reduceCtorEq, e]
              exact hfin (keysOk_long hu hlong)
            · have e : decide ((16384 : Int) < (u.length : Int)) = false := decide_eq_false (by omega)
              by_cases h0 : i = 0
              · subst h0
                have e0 : decide ((0 : Int) < ((0 : Nat) : Int)) = false := by decide
                simp only [wsv, wsg, wsh, wsl, cond_true, cond_false, exists_eq_left', Option.some.injEq, Option.isSome_some, List.getElem?_toArray, List.getElem?_cons_zero, List.getElem?_cons_succ, List.length_cons, List.length_nil, List.set_cons_zero, List.set_cons_succ, List.getD_cons_zero, List.getD_cons_succ, Nat.zero_add, Nat.add_zero, Nat.reduceAdd, Nat.reduceLT, Nat.lt_add_one, Nat.zero_lt_succ, decide_true, decide_false, ne_eq, reduceCtorEq, e, e0]
                rw [up1 (by omega)]
                exact hnext (by omega) fun x h => by omega
              · obtain ⟨j, rfl⟩ : ∃ j, i = j + 1 := ⟨i - 1, by omega⟩
                obtain ⟨x, hxj⟩ : ∃ x, v.ks[j]? = some x := ⟨_, List.getElem?_eq_getElem (by omega)⟩
                have e0 : decide ((0 : Int) < ((j + 1 : Nat) : Int)) = true := decide_eq_true (by omega)
                have hw : IntKind.i64.wrap (((j + 1 : Nat) : Int) - 1) = ((j : Nat) : Int) := by rw [wrap_id (by have := hB.fits.2.1; omega) (by have := hB.fits.2.1; omega)]; omega
                obtain ⟨T, hks⟩ := hBd.keys
                obtain ⟨b, o, c, fr, p, hp, hb, hg⟩ : ∃ b o c fr p, kv = .slice (some ⟨b, o, none⟩) v.ks.length p ∧ w3.heap[b]? = some (.cells c T fr) ∧ ∀ m y, v.ks[m]? = some y → c[o + m]? = some (str y) := by
                  obtain ⟨p, cap, rfl, _, _, h3⟩ := hks
                  obtain ⟨b, off, c, fr, rfl, hb, hcs⟩ := h3 (fun e => by
                    have : v.ks = [] := by simpa using e
                    rw [this] at hi; simp at hi)
                  refine ⟨b, off, c, fr, cap, rfl, hb, fun m y hy => ?_⟩
                  rw [hcs m (by simpa using (List.getElem?_eq_some_iff.1 hy).1)]
                  simp [hy]
                subst hp
                have c1 := hg j x hxj
                have c2 := hg (j + 1) u hu
                have d1 : ((j : Nat) : Int) < (v.ks.length : Int) := by omega
                have d2 : ((j + 1 : Nat) : Int) < (v.ks.length : Int) := by omega
                simp only [wsv, wsg, wsh, wsl, cond_true, cond_false, exists_eq_left', Option.some.injEq, Option.isSome_some, List.getElem?_toArray, List.getElem?_cons_zero, List.getElem?_cons_succ, List.length_cons, List.length_nil, List.set_cons_zero, List.set_cons_succ, List.getD_cons_zero, List.getD_cons_succ, Nat.zero_add, Nat.add_zero, Nat.reduceAdd, Nat.reduceLT, Nat.lt_add_one, Nat.zero_lt_succ, decide_true, decide_false, ne_eq, reduceCtorEq, wsh, e, e0, hw, hB.hb, hb, Int.toNat_natCast, Int.natCast_nonneg, d1, d2, Nat.mul_one, c1, c2, condW_b]
                refine ⟨fun hge => ?_, fun hlt2 => ?_⟩
                · exact hfin (keysOk_two hxj hu (by simpa using hge))
                · rw [up1 (by have := hB.fits.2.1; omega)]
                  exact hnext (by omega) fun y _ hy => by
                    have : v.ks[j]? = some y := by simpa using hy
                    rw [hxj] at this; cases this
                    simpa using hlt2
          · rintro w3 g L ⟨hx3, hl, hs⟩
            have hB := hB.ext hx3
            have hkeys : keysOk v.ks = true := keysOk_mk (fun i a h => hl i a (List.getElem?_eq_some_iff.1 h).1 h) (fun i a b h1 h2 => hs i a b (List.getElem?_eq_some_iff.1 h2).1 h1 h2)
            rw [hkeys, plainL_all] at hK
            simp only [wsv, wsg, wsh, wsl, cond_true, cond_false, exists_eq_left', Option.some.injEq, Option.isSome_some, List.getElem?_toArray, List.getElem?_cons_zero, List.getElem?_cons_succ, List.length_cons, List.length_nil, List.set_cons_zero, List.set_cons_succ, List.getD_cons_zero, List.getD_cons_succ, Nat.zero_add, Nat.add_zero, Nat.reduceAdd, Nat.reduceLT, Nat.lt_add_one, Nat.zero_lt_succ, decide_true, decide_false, ne_eq, reduceCtorEq, Int.lt_irrefl, wsh, hB.hb]
            rw [hB.lenx]
            refine loop_up v.xs.length (fun i w' => Ext w3 w' ∧ (v.xs.take i).all plainM = true) ⟨Chg.refl _ _, rfl⟩ ?_ ?_
            · rintro i w4 g L hi ⟨hx4, hall⟩ hL
              have hB := hB.ext hx4
              obtain ⟨x, hxi⟩ : ∃ x, v.xs[i]? = some x := ⟨_, List.getElem?_eq_getElem hi⟩
              have hlt : ((i : Int) < (v.xs.length : Int)) := by omega
              simp only [wsv, wsg, wsh, wsl, cond_true, cond_false, exists_eq_left', Option.some.injEq, Option.isSome_some, List.getElem?_toArray, List.getElem?_cons_zero, List.getElem?_cons_succ, List.length_cons, List.length_nil, List.set_cons_zero, List.set_cons_succ, List.getD_cons_zero, List.getD_cons_succ, Nat.zero_add, Nat.add_zero, Nat.reduceAdd, Nat.reduceLT, Nat.lt_add_one, Nat.zero_lt_succ, decide_true, decide_false, ne_eq, reduceCtorEq, wsh, hB.hb, hlt]
              refine hB.item hxi fun cs hcs => ?_
              refine ih x (List.mem_of_getElem? hxi) hcs fun w5 hx5 => ?_
              simp only [wsv, wsg, wsh, wsl, cond_true, cond_false, exists_eq_left', Option.some.injEq, Option.isSome_some, List.getElem?_toArray, List.getElem?_cons_zero, List.getElem?_cons_succ, List.length_cons, List.length_nil, List.set_cons_zero, List.set_cons_succ, List.getD_cons_zero, List.getD_cons_succ, Nat.zero_add, Nat.add_zero, Nat.reduceAdd, Nat.reduceLT, Nat.lt_add_one, Nat.zero_lt_succ, decide_true, decide_false, ne_eq, reduceCtorEq, condW_b]
              refine ⟨fun hf => ?_, fun ht => ?_⟩
              · have hf : plainM x = false := by simpa using hf
                have := hK w5 (hx.trans (hx3.trans (hx4.trans hx5)))
                rw [all_no hxi hf] at this
                exact this
              · have ht : plainM x = true := by simpa using ht
                rw [up1 (by have := hB.fits.1; omega)]
                exact hL w5 ⟨hx4.trans hx5, by rw [all_take hxi, hall, ht]; rfl⟩
            · rintro w4 g L ⟨hx4, hall⟩
              simp only [wsv, wsg, wsh, wsl, cond_true, cond_false, exists_eq_left', Option.some.injEq, Option.isSome_some, List.getElem?_toArray, List.getElem?_cons_zero, List.getElem?_cons_succ, List.length_cons, List.length_nil, List.set_cons_zero, List.set_cons_succ, List.getD_cons_zero, List.getD_cons_succ, Nat.zero_add, Nat.add_zero, Nat.reduceAdd, Nat.reduceLT, Nat.lt_add_one, Nat.zero_lt_succ, decide_true, decide_false, ne_eq, reduceCtorEq, Int.lt_irrefl]
              rw [List.take_length] at hall
              have := hK w4 (hx.trans (hx3.trans hx4))
              rw [hall] at this
              exact this

theorem good_ref {v : JV} {cs : List Value} {w : World} {K : Value → World → Prop} (h : VRep w v cs) (hK : ∀ w', Ext w w' → K (.bool (goodM v)) w') : callF Tryz.prog 22 [.agg cs.toArray] w K := by
  refine W22_ok ?_
  unfold W22
  refine box_val h fun a w1 sv kv hB hx _ => ?_
  refine hB.ld fun cs1 h1 => ?_
  refine size_ref v h1 fun w2 hx2 => ?_
  have hB := hB.ext hx2
  have hx := hx.trans hx2
  simp only [wsv, wsg, wsh, wsl, cond_true, cond_false, exists_eq_left', Option.some.injEq, Option.isSome_some, List.getElem?_toArray, List.getElem?_cons_zero, List.getElem?_cons_succ, List.length_cons, List.length_nil, List.set_cons_zero, List.set_cons_succ, List.getD_cons_zero, List.getD_cons_succ, Nat.zero_add, Nat.add_zero, Nat.reduceAdd, Nat.reduceLT, Nat.lt_add_one, Nat.zero_lt_succ, decide_true, decide_false, ne_eq, reduceCtorEq]
  refine GdW.act (deepM v 24) (fun w' => Ext w2 w') (fun _ => Chg.refl _ _) ?_ ?_
  · intro hc J hJ
    refine hB.ld fun cs2 h2 => ?_
    exact deep_ref v (m := 24) (by omega) h2 hJ
  intro g w3 hx3
  have hB := hB.ext hx3
  have hx := hx.trans hx3
  simp only [wsv, wsg, wsh, wsl, cond_true, cond_false, exists_eq_left', Option.some.injEq, Option.isSome_some, List.getElem?_toArray, List.getElem?_cons_zero, List.getElem?_cons_succ, List.length_cons, List.length_nil, List.set_cons_zero, List.set_cons_succ, List.getD_cons_zero, List.getD_cons_succ, Nat.zero_add, Nat.add_zero, Nat.reduceAdd, Nat.reduceLT, Nat.lt_add_one, Nat.zero_lt_succ, decide_true, decide_false, ne_eq, reduceCtorEq]
  refine GdW.act (plainM v) (fun w' => Ext w3 w') (fun _ => Chg.refl _ _) ?_ ?_
  · intro hc J hJ
    refine hB.ld fun cs2 h2 => ?_
    exact plain_ref v h2 hJ
  intro g w4 hx4
  have := hK w4 (hx.trans hx4)
  simp only [wsv, wsg, wsh, wsl, cond_true, cond_false, exists_eq_left', Option.some.injEq, Option.isSome_some, List.getElem?_toArray, List.getElem?_cons_zero, List.getElem?_cons_succ, List.length_cons, List.length_nil, List.set_cons_zero, List.set_cons_succ, List.getD_cons_zero, List.getD_cons_succ, Nat.zero_add, Nat.add_zero, Nat.reduceAdd, Nat.reduceLT, Nat.lt_add_one, Nat.zero_lt_succ, decide_true, decide_false, ne_eq, reduceCtorEq]
  exact this

theorem same_ref (a : JV) : ∀ {b : JV} {cs ds : List Value} {w : World} {K : Value → World → Prop}, VRep w a cs → VRep w b ds → (∀ w', Ext w w' → K (.bool (sameM a b)) w') → callF Tryz.prog 114 [.agg cs.toArray, .agg ds.toArray] w K := by
  induction a using JV.ind' with
  | h v ih =>
    intro b cs ds w K h h' hK
    refine W114_ok ?_
    unfold W114
    refine box_val h fun x w1 sv kv hB hx _ => ?_
    refine box_val (h'.ext hx) fun y w2 sv' kv' hC hx2 _ => ?_
    have hB := hB.ext hx2
    have hx := hx.trans hx2
    clear hx2
    rw [sameM_eq] at hK
    simp only [wsv, wsg, wsh, wsl, cond_true, cond_false, exists_eq_left', Option.some.injEq, Option.isSome_some, List.getElem?_toArray, List.getElem?_cons_zero, List.getElem?_cons_succ, List.length_cons, List.length_nil, List.set_cons_zero, List.set_cons_succ, List.getD_cons_zero, List.getD_cons_succ, Nat.zero_add, Nat.add_zero, Nat.reduceAdd, Nat.reduceLT, Nat.lt_add_one, Nat.zero_lt_succ, decide_true, decide_false, ne_eq, reduceCtorEq, wsh, hB.hb, hC.hb, eq_bb, ne_bb]
    intros
    refine GdW.act (!decide (v.ks = b.ks)) (fun w' => Ext w2 w') (fun _ => Chg.refl _ _) ?_ ?_
    · intro hc J hJ
      obtain ⟨T1, k1⟩ := hB.keys
      obtain ⟨T2, k2⟩ := hC.keys
      refine texts_ref k1 k2 hB.fits.2.1 fun w3 hx3 => ?_
      simp only [wsv, wsg, wsh, wsl, cond_true, cond_false, exists_eq_left', Option.some.injEq, Option.isSome_some, List.getElem?_toArray, List.getElem?_cons_zero, List.getElem?_cons_succ, List.length_cons, List.length_nil, List.set_cons_zero, List.set_cons_succ, List.getD_cons_zero, List.getD_cons_succ, Nat.zero_add, Nat.add_zero, Nat.reduceAdd, Nat.reduceLT, Nat.lt_add_one, Nat.zero_lt_succ, decide_true, decide_false, ne_eq, reduceCtorEq]
      exact hJ w3 hx3
    intro g w3 hx3
    have hB := hB.ext hx3
    have hC := hC.ext hx3
    have hx := hx.trans hx3
    clear hx3
    simp only [wsv, wsg, wsh, wsl, cond_true, cond_false, exists_eq_left', Option.some.injEq, Option.isSome_some, List.getElem?_toArray, List.getElem?_cons_zero, List.getElem?_cons_succ, List.length_cons, List.length_nil, List.set_cons_zero, List.set_cons_succ, List.getD_cons_zero, List.getD_cons_succ, Nat.zero_add, Nat.add_zero, Nat.reduceAdd, Nat.reduceLT, Nat.lt_add_one, Nat.zero_lt_succ, decide_true, decide_false, ne_eq, reduceCtorEq, wsh, hB.hb, hC.hb, hB.lenx, hC.lenx]
    intros
    have e1 : (!v.b == b.b) = !decide (v.b = b.b) := by cases v.b <;> cases b.b <;> rfl
    have e2 : decide (¬ (v.xs.length : Int) = (b.xs.length : Int)) = !decide (v.xs.length = b.xs.length) := by rw [← decide_not]; exact decide_eq_decide.2 (by omega)
    rw [e2]
    simp only [decide_not]
    have hsl : v.xs.length ≠ b.xs.length → sameL v.xs b.xs = false := sameL_len
    by_cases hl : v.xs.length = b.xs.length
    · rw [decide_eq_true hl, condW_b]
      refine ⟨fun hne => ?_, fun heq => ?_⟩
      · have := hK w3 hx
        have e : (decide (v.k = b.k) && decide (v.b = b.b) && decide (v.t = b.t) && decide (v.ks = b.ks) && sameL v.xs b.xs) = false := by
          have e1 : (v.b == b.b) = decide (v.b = b.b) := by cases v.b <;> cases b.b <;> rfl
          rw [e1] at hne
          revert hne
          cases decide (v.k = b.k) <;> cases decide (v.b = b.b) <;> cases decide (v.t = b.t) <;> cases decide (v.ks = b.ks) <;> simp
        rw [e] at this
        exact this
      · have e : (decide (v.k = b.k) && decide (v.b = b.b) && decide (v.t = b.t) && decide (v.ks = b.ks)) = true := by
          have e1 : (v.b == b.b) = decide (v.b = b.b) := by cases v.b <;> cases b.b <;> rfl
          rw [e1] at heq
          revert heq
          cases decide (v.k = b.k) <;> cases decide (v.b = b.b) <;> cases decide (v.t = b.t) <;> cases decide (v.ks = b.ks) <;> simp
        rw [e] at hK
        refine loop_up v.xs.length (fun i w' => Ext w3 w' ∧ v.xs.take i = b.xs.take i) ⟨Chg.refl _ _, rfl⟩ ?_ ?_
        · rintro i w4 g L hi ⟨hx4, hall⟩ hL
          have hxd : Ext w3 w4.drew := hx4.trans (Chg.drew (Chg.refl (fun _ => False) w4))
          have hB4 := hB.ext hx4
          have hC4 := hC.ext hx4
          have hB := hB.ext hxd
          have hC := hC.ext hxd
          obtain ⟨p, hp⟩ : ∃ p, v.xs[i]? = some p := ⟨_, List.getElem?_eq_getElem hi⟩
          obtain ⟨q, hq⟩ : ∃ q, b.xs[i]? = some q := ⟨_, List.getElem?_eq_getElem (by omega)⟩
          have hlt : ((i : Int) < (v.xs.length : Int)) := by omega
          simp only [wsv, wsg, wsh, wsl, cond_true, cond_false, exists_eq_left', Option.some.injEq, Option.isSome_some, List.getElem?_toArray, List.getElem?_cons_zero, List.getElem?_cons_succ, List.length_cons, List.length_nil, List.set_cons_zero, List.set_cons_succ, List.getD_cons_zero, List.getD_cons_succ, Nat.zero_add, Nat.add_zero, Nat.reduceAdd, Nat.reduceLT, Nat.lt_add_one, Nat.zero_lt_succ, decide_true, decide_false, ne_eq, reduceCtorEq, wsh, hB4.hb, hC4.hb, hlt]
          refine hB.item hp fun cs1 h1 => ?_
          refine hC.item hq fun cs2 h2 => ?_
          refine ih p (List.mem_of_getElem? hp) h1 h2 fun w5 hx5 => ?_
          simp only [wsv, wsg, wsh, wsl, cond_true, cond_false, exists_eq_left', Option.some.injEq, Option.isSome_some, List.getElem?_toArray, List.getElem?_cons_zero, List.getElem?_cons_succ, List.length_cons, List.length_nil, List.set_cons_zero, List.set_cons_succ, List.getD_cons_zero, List.getD_cons_succ, Nat.zero_add, Nat.add_zero, Nat.reduceAdd, Nat.reduceLT, Nat.lt_add_one, Nat.zero_lt_succ, decide_true, decide_false, ne_eq, reduceCtorEq, condW_b]
          refine ⟨fun hf => ?_, fun ht => ?_⟩
          · have hf : sameM p q = false := by simpa using hf
            have := hK w5 (hx.trans (hxd.trans hx5))
            rw [sameL_take hl hp hq hf] at this
            exact this
          · have ht : sameM p q = true := by simpa using ht
            have := (same_iff p q).1 ht
            subst this
            rw [up1 (by have := hB.fits.1; omega)]
            exact hL w5 ⟨hxd.trans hx5, take_eq hall hp hq⟩
        · rintro w4 g L ⟨hx4, hall⟩
          simp only [wsv, wsg, wsh, wsl, cond_true, cond_false, exists_eq_left', Option.some.injEq, Option.isSome_some, List.getElem?_toArray, List.getElem?_cons_zero, List.getElem?_cons_succ, List.length_cons, List.length_nil, List.set_cons_zero, List.set_cons_succ, List.getD_cons_zero, List.getD_cons_succ, Nat.zero_add, Nat.add_zero, Nat.reduceAdd, Nat.reduceLT, Nat.lt_add_one, Nat.zero_lt_succ, decide_true, decide_false, ne_eq, reduceCtorEq, Int.lt_irrefl]
          rw [List.take_length, hl, List.take_length] at hall
          have := hK w4 (hx.trans hx4)
          rw [(sameL_iff _ _).2 hall] at this
          exact this
    · rw [decide_eq_false hl, Bool.not_false, Bool.or_true, condW_true]
      have := hK w3 hx
      rw [hsl hl, Bool.and_false] at this
      exact this
end
end Go.Proofs.YtonblcbpoilndaaGreatDoor
