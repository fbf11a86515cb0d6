/- One plain sentence: contracts of the program's reading and comparing of numbers. Conditions: those that each states. -/
import Derived.Test.YtonblcbpoilndaaGreatDoorVN2
set_option linter.all false
set_option linter.unusedSimpArgs false
set_option linter.unusedVariables false
set_option linter.unusedSectionVars false
namespace Go.Proofs.YtonblcbpoilndaaGreatDoor
open Go Go.Eng Go.Num
set_option maxRecDepth 100000
theorem parse_dec : ∀ (l : Str) (acc : Nat), l.all isDig = true → acc * 10 ^ l.length + dec l < 1000000000000000000 → Lib.parseUintM (2 ^ 64 - 1) acc l = .ok (acc * 10 ^ l.length + dec l)
  | [], acc, _, _ => by simp [Lib.parseUintM, dec]
  | c :: r, acc, h, hb => by
    simp only [List.all_cons, Bool.and_eq_true] at h
    have hc := h.1
    simp only [isDig, Bool.and_eq_true, decide_eq_true_eq] at hc
    have e : acc * 10 ^ (c :: r).length + dec (c :: r) = (acc * 10 + (c.toNat - 48)) * 10 ^ r.length + dec r := by
      rw [dec_cons, List.length_cons, Nat.pow_succ, Nat.add_mul, ← Nat.add_assoc]
      congr 2
      rw [Nat.mul_comm (10 ^ r.length) 10, Nat.mul_assoc]
    rw [e] at hb ⊢
    have hp : 1 ≤ 10 ^ r.length := Nat.pow_pos (by omega)
    have h1 : acc * 10 + (c.toNat - 48) ≤ (acc * 10 + (c.toNat - 48)) * 10 ^ r.length := Nat.le_mul_of_pos_right _ hp
    simp only [Lib.parseUintM]
    rw [if_pos hc, if_neg (by omega), if_neg (by omega)]
    exact parse_dec r _ h.2 hb
section
variable [HX]
theorem puint_ref {l : Str} {w : World} {K : Value → World → Prop} (h0 : l ≠ []) (hl : l.length ≤ 9) (hd : l.all isDig = true) (hK : ∀ w', Ext w w' → K (.tuple #[u64 (dec l), .nilIface]) w') : callF Tryz.prog 198 [str l, i64 10, i64 64] w K := by
  have hlt := dec9 hd hl
  have hp : Lib.parseUintB 64 l = .ok (dec l) := by
    unfold Lib.parseUintB
    rw [if_neg h0]
    have := parse_dec l 0 hd (by rw [Nat.zero_mul, Nat.zero_add]; omega)
    rw [Nat.zero_mul, Nat.zero_add] at this
    exact this
  refine of_calls (args := #[str l, i64 10, i64 64]) Tryz.call198 ((Tryz.strconv_ParseUint_10_at64_ok (ofL l) (by rw [ofL_size]; omega) (dec l) (by rw [ofL_data]; exact hp) w).mono ?_)
  rintro e w' ⟨rfl, rfl | rfl⟩
  · exact ⟨_, rfl, hK _ (Chg.refl _ _)⟩
  · exact ⟨_, rfl, hK _ (bytes_ext _ _ _)⟩

theorem limbs_len : ∀ (n : Nat) (d : Str), d.length ≤ n → (limbs d).length ≤ d.length
  | n, [], _ => by rw [limbs_nil]; simp
  | 0, _ :: _, h => by simp at h
  | n + 1, c :: d, hn => by
    rw [limbs_ne (by simp)]
    generalize hD : c :: d = D at *
    have hpos : 0 < D.length := by rw [← hD]; simp
    have := limbs_len n (D.take (D.length - 9)) (by rw [List.length_take]; omega)
    rw [List.length_take] at this
    simp only [List.length_cons]; omega
theorem read_ref {a : Str} {w : World} {K : Value → World → Prop} (hg : goodN a = true) (ha : a.length ≤ 9223372036854775807) (hK : ∀ cs' w', Ext w w' → BRep w' (readB a) cs' → K (.agg cs'.toArray) w') : callF Tryz.prog 171 [str a] w K := by
  refine W171_ok ?_
  unfold W171
  obtain ⟨g1, g2, _, g4⟩ := goodN_out hg
  refine alloc_new fun b w1 hb hz1 hbb hx1 => ?_
  refine cutpre_ref ha ?_
  simp only [wsv, wsg, wsh, wsl, cond_true, cond_false, exists_eq_left', Option.some.injEq, Option.isSome_some, List.getElem?_toArray, List.getElem?_cons_zero, List.getElem?_cons_succ, List.length_cons, List.length_nil, List.set_cons_zero, List.set_cons_succ, List.getD_cons_zero, List.getD_cons_succ, Nat.zero_add, Nat.add_zero, Nat.reduceAdd, Nat.reduceLT, Nat.lt_add_one, Nat.zero_lt_succ, decide_true, decide_false, ne_eq, reduceCtorEq]
  generalize hd : dig a = d at *
  refine alloc_new fun g w2 hgz hz2 hgg hx2 => ?_
  refine st_agg_at (l := [.bool (neg a), .slice none 0 0]) hgg rfl rfl rfl fun w3 hz3 hg3 hc3 => ?_
  have hx3 : Ext w w3 := (hx1.trans hx2).new hc3 (by omega)
  have hbb := hc3.at (hx2.at hbb id) (by omega)
  refine ⟨fun s w' => ∃ (z : Int) (v : Value) (l : List Nat), s = [i64 z] ∧ z ≤ d.length ∧ -9 ≤ z ∧ l ++ limbs (d.take z.toNat) = limbs d ∧ Own w' (g + 1) U64 1 v l.length (l.map u64) ∧ w'.heap[g]? = some (.cells [.bool (neg a), v].toArray BT (0, 0)) ∧ w'.heap[b]? = some (.cells [.bool false, .slice none 0 0].toArray BT (0, 0)) ∧ Chg (fun k => k = g ∨ g + 1 ≤ k) w3 w' ∧ l.length + z.toNat ≤ 100,
    fun s _ => match s with | [.int _ z] => z.toNat | _ => 0, ⟨d.length, _, [], rfl, by omega, by omega, by rw [Int.toNat_natCast, List.take_length]; rfl, ⟨rfl, .inl ⟨rfl, rfl⟩⟩, hg3, hbb, Chg.refl _ _, by simp; omega⟩, ?_⟩
  rintro s gg w4 ⟨z, v, l, rfl, hzl, hz9, hll, hO, hg4, hb4, hc4, hcnt⟩
  have hsz := hc4.size
  rcases Int.lt_or_le 0 z with hpos | hneg
  · obtain ⟨e, rfl⟩ : ∃ e : Nat, z = (e : Int) := ⟨z.toNat, by omega⟩
    rw [Int.toNat_natCast] at hll hcnt
    have hlo : (if (0 : Int) < IntKind.i64.wrap ((e : Int) - 9) then IntKind.i64.wrap ((e : Int) - 9) else 0) = ((e - 9 : Nat) : Int) := by
      rw [wrap_id (by omega) (by omega)]; split <;> omega
    have hlen : (d.take e).length = e := by rw [List.length_take]; omega
    simp only [wsv, wsg, wsh, wsl, cond_true, cond_false, exists_eq_left', Option.some.injEq, Option.isSome_some, List.getElem?_toArray, List.getElem?_cons_zero, List.getElem?_cons_succ, List.length_cons, List.length_nil, List.set_cons_zero, List.set_cons_succ, List.getD_cons_zero, List.getD_cons_succ, Nat.zero_add, Nat.add_zero, Nat.reduceAdd, Nat.reduceLT, Nat.lt_add_one, Nat.zero_lt_succ, decide_true, decide_false, ne_eq, reduceCtorEq, hpos, hlo, Int.toNat_natCast]
    refine ⟨by omega, by omega, by omega, by omega, ?_⟩
    have hne : d.take e ≠ [] := fun h => by rw [h] at hlen; simp at hlen; omega
    have hchunk := limbs_ne hne
    rw [hlen, List.take_take, Nat.min_eq_left (by omega)] at hchunk
    have hcl : ((d.take e).drop (e - 9)).length ≤ 9 := by rw [List.length_drop, hlen]; omega
    have hcn : (d.take e).drop (e - 9) ≠ [] := fun h => by have := List.drop_eq_nil_iff.1 h; omega
    refine puint_ref hcn hcl (all_drop _ (all_take _ g4)) fun w5 hx5 => ?_
    have hg5 := hx5.at hg4 id
    have hs5 := hx5.size
    simp only [wsv, wsg, wsh, wsl, cond_true, cond_false, exists_eq_left', Option.some.injEq, Option.isSome_some, List.getElem?_toArray, List.getElem?_cons_zero, List.getElem?_cons_succ, List.length_cons, List.length_nil, List.set_cons_zero, List.set_cons_succ, List.getD_cons_zero, List.getD_cons_succ, Nat.zero_add, Nat.add_zero, Nat.reduceAdd, Nat.reduceLT, Nat.lt_add_one, Nat.zero_lt_succ, decide_true, decide_false, ne_eq, reduceCtorEq, wsh, hg5]
    refine app_u (hO.ext hx5) (by have := at_lt hg3; omega) (by omega) fun v' w6 h6 hc6 => ?_
    have hg6 := hc6.at hg5 (by omega)
    have h1v : one1 v' = true := by obtain ⟨p, c, rfl, _⟩ := h6.sl.shape; rfl
    refine st_at hg6 h1v (by simp) fun w7 hz7 hg7 hc7 => ?_
    rw [wrap_id (by omega) (by omega)]
    have hg7 : w7.heap[g]? = some (.cells [.bool (neg a), v'].toArray BT (0, 0)) := by rw [hg7]; simp
    have ht : ((e : Int) - 9).toNat = e - 9 := by omega
    refine ⟨⟨_, v', l ++ [dec ((d.take e).drop (e - 9))], rfl, by omega, by omega, ?_, h6.chg hc7 fun k hk e => by have := hk.1; omega, hg7, hc7.at (hc6.at (hx5.at hb4 id) (by omega)) (by omega), ?_, ?_⟩, ?_⟩
    · rw [ht, ← hll, hchunk, List.append_assoc]; rfl
    · exact ((hc4.trans (Chg.of_ext hx5)).trans (hc6.mono fun k _ e => .inr e)).trans (hc7.mono fun k _ e => .inl e)
    · rw [ht]; simp; omega
    · simp only [ht]; omega
  · have h0 : ¬ (0 : Int) < z := by omega
    have hz0 : z.toNat = 0 := by omega
    rw [hz0, List.take_zero, limbs_nil, List.append_nil] at hll
    subst hll
    simp only [wsv, wsg, wsh, wsl, cond_true, cond_false, exists_eq_left', Option.some.injEq, Option.isSome_some, List.getElem?_toArray, List.getElem?_cons_zero, List.getElem?_cons_succ, List.length_cons, List.length_nil, List.set_cons_zero, List.set_cons_succ, List.getD_cons_zero, List.getD_cons_succ, Nat.zero_add, Nat.add_zero, Nat.reduceAdd, Nat.reduceLT, Nat.lt_add_one, Nat.zero_lt_succ, decide_true, decide_false, ne_eq, reduceCtorEq, h0]
    refine ld_all hg4 rfl ?_
    have hlim := (limbs_val _ d (Nat.le_refl _) g4).2
    refine trim_ref (x := ⟨neg a, limbs d⟩) ⟨v, U64, rfl, hO.sl, by simp at hcnt ⊢; omega, hlim⟩ fun cs' w5 hx5 hr => ?_
    have hb5 := hx5.at hb4 id
    refine ret_agg hb5 hr.len rfl hr.one fun w6 hc6 => ?_
    have e : readB a = (⟨neg a, limbs d⟩ : Big).trim := by unfold readB; rw [hd]
    rw [e] at hK
    have hx4 : Ext w w4 := hx3.then hc4 fun k hk h => by have := hx1.size; omega
    exact hK _ w6 ((hx4.trans hx5).new hc6 (by omega)) (hr.keep hb5 (by intro n e; cases e) hc6)

theorem numcmp_ref {a b : Str} {w : World} {K : Value → World → Prop} (ha : a.length ≤ 9223372036854775807) (hb : b.length ≤ 9223372036854775807) (hK : ∀ w', Ext w w' → K (i64 (cmpS a b)) w') : callF Tryz.prog 132 [str a, str b] w K := by
  refine W132_ok ?_
  unfold W132
  unfold cmpS at hK
  refine numgood_ref ha fun w1 hx1 => ?_
  simp only [wsv, wsg, wsh, wsl, cond_true, cond_false, exists_eq_left', Option.some.injEq, Option.isSome_some, List.getElem?_toArray, List.getElem?_cons_zero, List.getElem?_cons_succ, List.length_cons, List.length_nil, List.set_cons_zero, List.set_cons_succ, List.getD_cons_zero, List.getD_cons_succ, Nat.zero_add, Nat.add_zero, Nat.reduceAdd, Nat.reduceLT, Nat.lt_add_one, Nat.zero_lt_succ, decide_true, decide_false, ne_eq, reduceCtorEq]
  refine GdW.act (!goodN b) (fun w' => Ext w1 w') (fun _ => Chg.refl _ _) ?_ ?_
  · intro hc J hJ
    refine numgood_ref hb fun w2 hx2 => ?_
    simp only [wsv, wsg, wsh, wsl, cond_true, cond_false, exists_eq_left', Option.some.injEq, Option.isSome_some, List.getElem?_toArray, List.getElem?_cons_zero, List.getElem?_cons_succ, List.length_cons, List.length_nil, List.set_cons_zero, List.set_cons_succ, List.getD_cons_zero, List.getD_cons_succ, Nat.zero_add, Nat.add_zero, Nat.reduceAdd, Nat.reduceLT, Nat.lt_add_one, Nat.zero_lt_succ, decide_true, decide_false, ne_eq, reduceCtorEq]
    exact hJ w2 hx2
  intro g w2 hx2
  have hx := hx1.trans hx2
  simp only [wsv, wsg, wsh, wsl, cond_true, cond_false, exists_eq_left', Option.some.injEq, Option.isSome_some, List.getElem?_toArray, List.getElem?_cons_zero, List.getElem?_cons_succ, List.length_cons, List.length_nil, List.set_cons_zero, List.set_cons_succ, List.getD_cons_zero, List.getD_cons_succ, Nat.zero_add, Nat.add_zero, Nat.reduceAdd, Nat.reduceLT, Nat.lt_add_one, Nat.zero_lt_succ, decide_true, decide_false, ne_eq, reduceCtorEq]
  rw [condW_b]
  refine ⟨fun hn => ?_, fun hy => ?_⟩
  · have := hK w2 hx
    have e : (goodN a && goodN b) = false := by revert hn; cases goodN a <;> cases goodN b <;> simp
    rw [e] at this
    exact this
  · have hga : goodN a = true := by revert hy; cases goodN a <;> simp
    have hgb : goodN b = true := by revert hy; cases goodN b <;> simp
    rw [hga, hgb] at hK
    simp only [Bool.and_self, if_true] at hK
    have lenR : ∀ {a : Str}, goodN a = true → (readB a).l.length ≤ 100 := by
      intro a h
      obtain ⟨_, h2, _, _⟩ := goodN_out h
      have h3 := limbs_len _ (dig a) (Nat.le_refl _)
      show (trimL (limbs (dig a))).length ≤ 100
      have : ∀ l : List Nat, (trimL l).length ≤ l.length := fun l => by
        induction l using snoc_ind with
        | h0 => rw [trimL_nil]; simp
        | h1 l x ih =>
          by_cases h : x = 0
          · subst h; rw [trimL_zero]; simp; omega
          · rw [trimL_ne h]; simp
      have := this (limbs (dig a))
      omega
    refine read_ref hga ha fun cs1 w3 hx3 h1 => ?_
    refine read_ref hgb hb fun cs2 w4 hx4 h2 => ?_
    refine turned_ref h2 fun cs3 w5 hx5 h3 => ?_
    have hl3 : (turnB (readB b)).l.length ≤ 100 := by
      have := lenR hgb
      have : ∀ l : List Nat, (trimL l).length ≤ l.length := fun l => by
        induction l using snoc_ind with
        | h0 => rw [trimL_nil]; simp
        | h1 l x ih =>
          by_cases h : x = 0
          · subst h; rw [trimL_zero]; simp; omega
          · rw [trimL_ne h]; simp
      have := this (readB b).l
      show (trimL (readB b).l).length ≤ 100
      omega
    refine sum_ref (h1.ext (hx4.trans hx5)) h3 (by have := lenR hga; omega) fun cs4 w6 hx6 h4 => ?_
    generalize sumB (readB a) (turnB (readB b)) = D at *
    obtain ⟨sv, T, rfl, hs, hf, hlim⟩ := h4
    refine alloc_new fun c w7 hc hz7 hcc hx7 => ?_
    obtain ⟨p, cap, rfl, _⟩ := hs.shape
    refine st_agg_at (l := [.bool D.below, .slice p D.l.length cap]) hcc rfl rfl rfl fun w8 hz8 hb8 hc8 => ?_
    have hx8 : Ext w w8 := (hx.trans (hx3.trans (hx4.trans (hx5.trans (hx6.trans hx7))))).new hc8 (by
      have := (hx.trans (hx3.trans (hx4.trans (hx5.trans hx6)))).size; omega)
    have := hK w8 hx8
    simp only [wsv, wsg, wsh, wsl, cond_true, cond_false, exists_eq_left', Option.some.injEq, Option.isSome_some, List.getElem?_toArray, List.getElem?_cons_zero, List.getElem?_cons_succ, List.length_cons, List.length_nil, List.set_cons_zero, List.set_cons_succ, List.getD_cons_zero, List.getD_cons_succ, Nat.zero_add, Nat.add_zero, Nat.reduceAdd, Nat.reduceLT, Nat.lt_add_one, Nat.zero_lt_succ, decide_true, decide_false, ne_eq, reduceCtorEq, wsh, hb8]
    simp only [condW_dec]
    refine ⟨fun h0 => ?_, fun h0 => ?_⟩
    · have hl : D.l = [] := List.eq_nil_of_length_eq_zero (by omega)
      rw [if_pos hl] at this
      exact this
    · have hl : D.l ≠ [] := fun e => by rw [e] at h0; simp at h0
      rw [if_neg hl] at this
      rw [condW_b]
      refine ⟨fun hb => ?_, fun hb => ?_⟩
      · rw [if_pos hb] at this; exact this
      · rw [if_neg (by rw [hb]; simp)] at this; exact this
end
end Go.Proofs.YtonblcbpoilndaaGreatDoor
