/- One plain sentence: numbers of many digits as plain functions, and that their order is that of the integers. Conditions: those that each law states. -/
import Derived.Test.YtonblcbpoilndaaGreatDoorLib3
set_option linter.all false
set_option linter.unusedSimpArgs false
set_option linter.unusedVariables false
set_option linter.unusedSectionVars false
namespace Go.Num
open Go.Eng

def isDig (c : UInt8) : Bool := decide (48 ≤ c.toNat) && decide (c.toNat ≤ 57)
/-- without its sign -/
def dig (a : Str) : Str := match a with | [] => [] | c :: d => if c = 45 then d else c :: d
def neg (a : Str) : Bool := a.head? == some 45
def goodN (a : Str) : Bool := decide (1 ≤ (dig a).length) && decide ((dig a).length ≤ 100) && (!((dig a).head? == some 48) || decide (a = [48])) && (dig a).all isDig
def dval (c : UInt8) : Nat := c.toNat - 48
def dec (d : Str) : Nat := d.foldl (fun n c => n * 10 + dval c) 0

theorem dec_go (d : Str) (n : Nat) : d.foldl (fun n c => n * 10 + dval c) n = n * 10 ^ d.length + dec d := by
  unfold dec
  induction d generalizing n with
  | nil => simp
  | cons c d ih =>
    simp only [List.foldl_cons, List.length_cons]
    rw [ih, ih (0 * 10 + dval c), Nat.pow_succ, Nat.zero_mul, Nat.zero_add, Nat.add_mul, ← Nat.add_assoc]
    congr 2
    rw [Nat.mul_assoc, Nat.mul_comm 10]
theorem dec_app (a b : Str) : dec (a ++ b) = dec a * 10 ^ b.length + dec b := by
  unfold dec; rw [List.foldl_append, dec_go]; rfl
theorem dec_cons (c : UInt8) (d : Str) : dec (c :: d) = dval c * 10 ^ d.length + dec d := by
  have := dec_app [c] d; simpa [dec] using this
theorem dval_lt {c : UInt8} (h : isDig c = true) : dval c < 10 := by
  simp only [isDig, Bool.and_eq_true, decide_eq_true_eq] at h; unfold dval; omega
theorem dec_lt {d : Str} (h : d.all isDig = true) : dec d < 10 ^ d.length := by
  induction d with
  | nil => simp [dec]
  | cons c d ih =>
    simp only [List.all_cons, Bool.and_eq_true] at h
    have h1 := ih h.2
    have h2 := dval_lt h.1
    rw [dec_cons, List.length_cons, Nat.pow_succ, Nat.mul_comm (10 ^ _) 10]
    have : dval c * 10 ^ d.length + 10 ^ d.length ≤ 10 * 10 ^ d.length := by rw [← Nat.succ_mul]; exact Nat.mul_le_mul_right _ h2
    omega
theorem dec_inj_len {a b : Str} (ha : a.all isDig = true) (hb : b.all isDig = true) (hl : a.length = b.length) (h : dec a = dec b) : a = b := by
  induction a generalizing b with
  | nil => cases b with
    | nil => rfl
    | cons _ _ => simp at hl
  | cons c a ih =>
    cases b with
    | nil => simp at hl
    | cons e b =>
      simp only [List.all_cons, Bool.and_eq_true] at ha hb
      simp only [List.length_cons, Nat.add_right_cancel_iff] at hl
      rw [dec_cons, dec_cons, hl] at h
      have h1 := dec_lt ha.2
      have h2 := dec_lt hb.2
      rw [hl] at h1
      have hp : 0 < 10 ^ b.length := Nat.pow_pos (by omega)
      have e1 : (dval c * 10 ^ b.length + dec a) / 10 ^ b.length = dval c := by
        rw [Nat.add_comm, Nat.add_mul_div_right _ _ hp, Nat.div_eq_of_lt h1, Nat.zero_add]
      have e2 : (dval e * 10 ^ b.length + dec b) / 10 ^ b.length = dval e := by
        rw [Nat.add_comm, Nat.add_mul_div_right _ _ hp, Nat.div_eq_of_lt h2, Nat.zero_add]
      have hc : dval c = dval e := by rw [← e1, ← e2, h]
      have hr : dec a = dec b := by rw [hc] at h; omega
      have hce : c = e := by
        have h3 := ha.1; have h4 := hb.1
        simp only [isDig, Bool.and_eq_true, decide_eq_true_eq] at h3 h4
        unfold dval at hc
        exact UInt8.toNat_inj.1 (by omega)
      rw [hce, ih ha.2 hb.2 hl hr]
theorem dec_ge {c : UInt8} {d : Str} (hc : isDig c = true) (h0 : c ≠ 48) : 10 ^ d.length ≤ dec (c :: d) := by
  rw [dec_cons]
  have : 1 ≤ dval c := by
    simp only [isDig, Bool.and_eq_true, decide_eq_true_eq] at hc
    unfold dval
    have : c.toNat ≠ 48 := fun e => h0 (UInt8.toNat_inj.1 e)
    omega
  have := Nat.mul_le_mul_right (10 ^ d.length) this
  omega
/-- digits without a 0 at the front: the number tells them -/
theorem dec_inj {a b : Str} (ha : a.all isDig = true) (hb : b.all isDig = true) (ha0 : a.head? = some 48 → a = [48]) (hb0 : b.head? = some 48 → b = [48]) (h1 : a ≠ []) (h2 : b ≠ []) (h : dec a = dec b) : a = b := by
  have key : ∀ {a b : Str}, a.all isDig = true → b.all isDig = true → (b.head? = some 48 → b = [48]) → a ≠ [] → b ≠ [] → dec a = dec b → b.length ≤ a.length := by
    intro a b ha hb hb0 h1 h2 h
    cases b with
    | nil => simp
    | cons c d =>
      by_cases hc : c = 48
      · have := hb0 (by simp [hc])
        rw [this]
        cases a with
        | nil => exact absurd rfl h1
        | cons _ _ => simp
      · simp only [List.all_cons, Bool.and_eq_true] at hb
        have h3 := dec_ge (d := d) hb.1 hc
        have h4 := dec_lt ha
        rw [h] at h4
        have : d.length < a.length := by
          rcases Nat.lt_or_ge d.length a.length with h5 | h5
          · exact h5
          · have := Nat.pow_le_pow_right (n := 10) (by omega) h5
            omega
        simp; omega
  exact dec_inj_len ha hb (Nat.le_antisymm (key hb ha ha0 h2 h1 h.symm) (key ha hb hb0 h1 h2 h)) h

/-! ### limbs -/
def val : List Nat → Nat
  | [] => 0
  | x :: r => x + 1000000000 * val r
def Lim (l : List Nat) : Prop := ∀ x ∈ l, x < 1000000000
def limbs (d : Str) : List Nat := if h : d = [] then [] else dec (d.drop (d.length - 9)) :: limbs (d.take (d.length - 9))
termination_by d.length
decreasing_by
  have : 0 < d.length := List.length_pos_iff.2 h
  simp only [List.length_take]; omega
theorem limbs_nil : limbs [] = [] := by rw [limbs]; simp
theorem limbs_ne {d : Str} (h : d ≠ []) : limbs d = dec (d.drop (d.length - 9)) :: limbs (d.take (d.length - 9)) := by rw [limbs, dif_neg h]
theorem all_take {d : Str} (n : Nat) (h : d.all isDig = true) : (d.take n).all isDig = true := List.all_eq_true.2 fun x hx => List.all_eq_true.1 h x (List.mem_of_mem_take hx)
theorem all_drop {d : Str} (n : Nat) (h : d.all isDig = true) : (d.drop n).all isDig = true := List.all_eq_true.2 fun x hx => List.all_eq_true.1 h x (List.mem_of_mem_drop hx)
theorem dec9 {d : Str} (h : d.all isDig = true) (hl : d.length ≤ 9) : dec d < 1000000000 := by
  have h1 := dec_lt h
  have := Nat.pow_le_pow_right (n := 10) (by omega) hl
  omega
theorem limbs_val : ∀ (n : Nat) (d : Str), d.length ≤ n → d.all isDig = true → val (limbs d) = dec d ∧ Lim (limbs d)
  | n, [], _, _ => by rw [limbs_nil]; exact ⟨rfl, fun x hx => by cases hx⟩
  | 0, _ :: _, h, _ => by simp at h
  | n + 1, c :: d, hn, h => by
    rw [limbs_ne (by simp)]
    generalize hD : c :: d = D at *
    have hpos : 0 < D.length := by rw [← hD]; simp
    obtain ⟨h1, h2⟩ := limbs_val n (D.take (D.length - 9)) (by rw [List.length_take]; omega) (all_take _ h)
    refine ⟨?_, fun x hx => ?_⟩
    · simp only [val, h1]
      have hs : D = D.take (D.length - 9) ++ D.drop (D.length - 9) := (List.take_append_drop _ _).symm
      conv => rhs; rw [hs, dec_app]
      rcases Nat.lt_or_ge D.length 9 with h9 | h9
      · have : D.length - 9 = 0 := by omega
        rw [this]; simp [dec]
      · rw [List.length_drop, show D.length - (D.length - 9) = 9 by omega]
        rw [Nat.add_comm, Nat.mul_comm 1000000000]
    · rcases List.mem_cons.1 hx with rfl | hx
      · exact dec9 (all_drop _ h) (by rw [List.length_drop]; omega)
      · exact h2 x hx

/-- 0s at the top go -/
def trimL (l : List Nat) : List Nat := if h : l = [] then [] else if l.getLast h = 0 then trimL l.dropLast else l
termination_by l.length
decreasing_by
  have : 0 < l.length := List.length_pos_iff.2 h
  simp only [List.length_dropLast]; omega
theorem trimL_nil : trimL [] = [] := by rw [trimL]; simp
theorem trimL_zero (l : List Nat) : trimL (l ++ [0]) = trimL l := by rw [trimL]; simp
theorem trimL_ne {l : List Nat} {x : Nat} (h : x ≠ 0) : trimL (l ++ [x]) = l ++ [x] := by rw [trimL]; simp [h]
def Top (l : List Nat) : Prop := ∀ h : l ≠ [], l.getLast h ≠ 0
theorem val_app (a b : List Nat) : val (a ++ b) = val a + 1000000000 ^ a.length * val b := by
  induction a with
  | nil => simp [val]
  | cons x a ih => simp only [List.cons_append, val, ih, List.length_cons, Nat.pow_succ]; rw [Nat.mul_add, ← Nat.add_assoc, ← Nat.mul_assoc, Nat.mul_comm 1000000000 (1000000000 ^ _)]
theorem snoc_ind {p : List Nat → Prop} (h0 : p []) (h1 : ∀ l x, p l → p (l ++ [x])) (l : List Nat) : p l := by
  have : ∀ n (l : List Nat), l.length = n → p l := by
    intro n
    induction n with
    | zero => intro l hl; rw [List.eq_nil_of_length_eq_zero hl]; exact h0
    | succ n ih =>
      intro l hl
      have hne : l ≠ [] := fun e => by subst e; simp at hl
      rw [← List.dropLast_concat_getLast hne]
      exact h1 _ _ (ih _ (by simp [hl]))
  exact this _ l rfl
theorem trimL_spec (l : List Nat) : val (trimL l) = val l ∧ Top (trimL l) ∧ (Lim l → Lim (trimL l)) := by
  induction l using snoc_ind with
  | h0 => rw [trimL_nil]; exact ⟨rfl, fun h => absurd rfl h, id⟩
  | h1 l x ih =>
    by_cases h : x = 0
    · subst h
      rw [trimL_zero]
      refine ⟨by rw [ih.1, val_app]; simp [val], ih.2.1, fun hl => ih.2.2 fun y hy => hl y (List.mem_append_left _ hy)⟩
    · rw [trimL_ne h]
      exact ⟨rfl, fun _ => by simpa using h, id⟩
theorem val_lt {l : List Nat} (h : Lim l) : val l < 1000000000 ^ l.length := by
  induction l with
  | nil => simp [val]
  | cons x l ih =>
    have h1 := ih fun y hy => h y (List.mem_cons_of_mem _ hy)
    have h2 := h x List.mem_cons_self
    simp only [val, List.length_cons, Nat.pow_succ]
    have : 1000000000 * val l + 1000000000 ≤ 1000000000 * 1000000000 ^ l.length := by rw [← Nat.mul_succ]; exact Nat.mul_le_mul_left _ h1
    rw [Nat.mul_comm (1000000000 ^ _)]
    omega
theorem top_ge {l : List Nat} (ht : Top l) (hne : l ≠ []) : 1000000000 ^ (l.length - 1) ≤ val l := by
  have h1 := ht hne
  have h2 := List.dropLast_concat_getLast hne
  rw [← h2, val_app]
  simp only [List.length_append, List.length_dropLast, List.length_cons, List.length_nil, val, Nat.mul_zero, Nat.add_zero]
  have : 1000000000 ^ (l.length - 1) * 1 ≤ 1000000000 ^ (l.length - 1) * l.getLast hne := Nat.mul_le_mul_left _ (by omega)
  rw [show l.length - 1 + 1 - 1 = l.length - 1 by omega]
  omega
theorem top_zero {l : List Nat} (ht : Top l) : val l = 0 ↔ l = [] := by
  constructor
  · intro h
    rcases Classical.em (l = []) with e | e
    · exact e
    · have := top_ge ht e
      have hp : 0 < 1000000000 ^ (l.length - 1) := Nat.pow_pos (by omega)
      omega
  · rintro rfl; rfl

/-- the sum without signs -/
def plusL : List Nat → List Nat → Nat → List Nat
  | [], [], c => [c]
  | a :: x, [], c => (c + a) % 1000000000 :: plusL x [] ((c + a) / 1000000000)
  | [], b :: y, c => (c + b) % 1000000000 :: plusL [] y ((c + b) / 1000000000)
  | a :: x, b :: y, c => (c + a + b) % 1000000000 :: plusL x y ((c + a + b) / 1000000000)
theorem plusL_val : ∀ (x y : List Nat) (c : Nat), val (plusL x y c) = val x + val y + c
  | [], [], c => by simp [plusL, val]
  | a :: x, [], c => by
    have := plusL_val x [] ((c + a) / 1000000000)
    simp only [plusL, val, this]
    have := Nat.mod_add_div (c + a) 1000000000
    rw [Nat.mul_add, Nat.mul_add]; omega
  | [], b :: y, c => by
    have := plusL_val [] y ((c + b) / 1000000000)
    simp only [plusL, val, this]
    have := Nat.mod_add_div (c + b) 1000000000
    rw [Nat.mul_add, Nat.mul_add]; omega
  | a :: x, b :: y, c => by
    have := plusL_val x y ((c + a + b) / 1000000000)
    simp only [plusL, val, this]
    have := Nat.mod_add_div (c + a + b) 1000000000
    rw [Nat.mul_add, Nat.mul_add]; omega
theorem plusL_lim : ∀ (x y : List Nat) (c : Nat), Lim x → Lim y → c ≤ 1 → Lim (plusL x y c)
  | [], [], c, _, _, hc => by intro u hu; simp only [plusL, List.mem_singleton] at hu; subst hu; omega
  | a :: x, [], c, hx, hy, hc => by
    have ha := hx a List.mem_cons_self
    have := plusL_lim x [] ((c + a) / 1000000000) (fun u hu => hx u (List.mem_cons_of_mem _ hu)) hy (by omega)
    intro u hu
    simp only [plusL] at hu
    rcases List.mem_cons.1 hu with rfl | hu
    · exact Nat.mod_lt _ (by omega)
    · exact this u hu
  | [], b :: y, c, hx, hy, hc => by
    have ha := hy b List.mem_cons_self
    have := plusL_lim [] y ((c + b) / 1000000000) hx (fun u hu => hy u (List.mem_cons_of_mem _ hu)) (by omega)
    intro u hu
    simp only [plusL] at hu
    rcases List.mem_cons.1 hu with rfl | hu
    · exact Nat.mod_lt _ (by omega)
    · exact this u hu
  | a :: x, b :: y, c, hx, hy, hc => by
    have ha := hx a List.mem_cons_self
    have hb := hy b List.mem_cons_self
    have := plusL_lim x y ((c + a + b) / 1000000000) (fun u hu => hx u (List.mem_cons_of_mem _ hu)) (fun u hu => hy u (List.mem_cons_of_mem _ hu)) (by omega)
    intro u hu
    simp only [plusL] at hu
    rcases List.mem_cons.1 hu with rfl | hu
    · exact Nat.mod_lt _ (by omega)
    · exact this u hu

/-- the difference without signs -/
def minusL : List Nat → List Nat → Nat → List Nat
  | [], _, _ => []
  | a :: x, y, c =>
    let t := c + y.headD 0
    if a < t then (a + 1000000000 - t) :: minusL x y.tail 1 else (a - t) :: minusL x y.tail 0
theorem val_tail (y : List Nat) : val y = y.headD 0 + 1000000000 * val y.tail := by cases y <;> simp [val]
theorem minusL_val : ∀ (x y : List Nat) (c : Nat), Lim x → Lim y → c ≤ 1 → val y + c ≤ val x → y.length ≤ x.length → val (minusL x y c) = val x - val y - c ∧ Lim (minusL x y c)
  | [], y, c, _, _, _, h, _ => by simp [val] at h; simp [minusL, val, Lim]
  | a :: x, y, c, hx, hy, hc, h, hl => by
    have ha := hx a List.mem_cons_self
    have hx' : Lim x := fun u hu => hx u (List.mem_cons_of_mem _ hu)
    have hy' : Lim y.tail := fun u hu => hy u (List.mem_of_mem_tail hu)
    have hb : y.headD 0 < 1000000000 := by cases y with
      | nil => simp
      | cons b y => exact hy b List.mem_cons_self
    have hl' : y.tail.length ≤ x.length := by simp only [List.length_tail, List.length_cons] at hl ⊢; omega
    rw [val_tail y] at h ⊢
    simp only [val] at h ⊢
    simp only [minusL]
    by_cases hlt : a < c + y.headD 0
    · rw [if_pos hlt]
      have h1 : val y.tail + 1 ≤ val x := by
        rcases Nat.lt_or_ge (val y.tail) (val x) with h1 | h1
        · exact h1
        · have := Nat.mul_le_mul_left 1000000000 h1
          omega
      obtain ⟨h2, h3⟩ := minusL_val x y.tail 1 hx' hy' (by omega) h1 hl'
      refine ⟨?_, fun u hu => ?_⟩
      · simp only [val, h2]
        have : 1000000000 * (val x - val y.tail - 1) = 1000000000 * val x - 1000000000 * val y.tail - 1000000000 := by rw [Nat.mul_sub, Nat.mul_sub, Nat.mul_one]
        rw [this]
        have := Nat.mul_le_mul_left 1000000000 h1
        rw [Nat.mul_add] at this
        omega
      · rcases List.mem_cons.1 hu with rfl | hu
        · omega
        · exact h3 u hu
    · rw [if_neg hlt]
      have h1 : val y.tail + 0 ≤ val x := by
        rcases Nat.lt_or_ge (val x) (val y.tail) with h1 | h1
        · have := Nat.mul_le_mul_left 1000000000 (Nat.succ_le_of_lt h1)
          rw [Nat.mul_succ] at this
          omega
        · omega
      obtain ⟨h2, h3⟩ := minusL_val x y.tail 0 hx' hy' (by omega) h1 hl'
      refine ⟨?_, fun u hu => ?_⟩
      · simp only [val, h2, Nat.sub_zero]
        rw [Nat.mul_sub]
        have := Nat.mul_le_mul_left 1000000000 h1
        rw [Nat.add_zero] at this
        omega
      · rcases List.mem_cons.1 hu with rfl | hu
        · omega
        · exact h3 u hu

/-- the order without signs: from the top of lists of one length -/
def cmpN (a b : Nat) : Int := if a < b then -1 else if b < a then 1 else 0
theorem cmpN_cases (a b : Nat) : (a < b ∧ cmpN a b = -1) ∨ (a = b ∧ cmpN a b = 0) ∨ (b < a ∧ cmpN a b = 1) := by
  unfold cmpN
  rcases Nat.lt_trichotomy a b with h | h | h
  · exact .inl ⟨h, if_pos h⟩
  · exact .inr (.inl ⟨h, by subst h; simp⟩)
  · exact .inr (.inr ⟨h, by rw [if_neg (Nat.not_lt.2 (Nat.le_of_lt h)), if_pos h]⟩)
def sizeR : List (Nat × Nat) → Int
  | [] => 0
  | (a, b) :: r => if cmpN a b ≠ 0 then cmpN a b else sizeR r
def sizeL (x y : List Nat) : Int := if cmpN x.length y.length ≠ 0 then cmpN x.length y.length else sizeR (x.zip y).reverse
theorem sizeR_app (a b : List (Nat × Nat)) : sizeR (a ++ b) = if sizeR a ≠ 0 then sizeR a else sizeR b := by
  induction a with
  | nil => simp [sizeR]
  | cons p a ih =>
    obtain ⟨u, v⟩ := p
    simp only [List.cons_append, sizeR, ih]
    by_cases h : cmpN u v ≠ 0
    · simp [h]
    · simp [h]
theorem sizeR_val : ∀ (x y : List Nat), Lim x → Lim y → x.length = y.length → sizeR (x.zip y).reverse = cmpN (val x) (val y)
  | [], [], _, _, _ => by simp [sizeR, cmpN]
  | [], _ :: _, _, _, h => by simp at h
  | _ :: _, [], _, _, h => by simp at h
  | a :: x, b :: y, hx, hy, h => by
    simp only [List.length_cons, Nat.add_right_cancel_iff] at h
    have ha := hx a List.mem_cons_self
    have hb := hy b List.mem_cons_self
    have ih := sizeR_val x y (fun u hu => hx u (List.mem_cons_of_mem _ hu)) (fun u hu => hy u (List.mem_cons_of_mem _ hu)) h
    simp only [List.zip_cons_cons, List.reverse_cons, sizeR_app, ih, sizeR, val]
    rcases cmpN_cases (val x) (val y) with ⟨h1, e1⟩ | ⟨h1, e1⟩ | ⟨h1, e1⟩
    · have := Nat.mul_le_mul_left 1000000000 (Nat.succ_le_of_lt h1)
      rcases cmpN_cases (a + 1000000000 * val x) (b + 1000000000 * val y) with ⟨h2, e2⟩ | ⟨h2, e2⟩ | ⟨h2, e2⟩
      · rw [e1, e2]; rfl
      · omega
      · omega
    · rw [e1, h1]
      rcases cmpN_cases a b with ⟨h2, e2⟩ | ⟨h2, e2⟩ | ⟨h2, e2⟩
      · rcases cmpN_cases (a + 1000000000 * val y) (b + 1000000000 * val y) with ⟨h3, e3⟩ | ⟨h3, e3⟩ | ⟨h3, e3⟩
        · rw [e2, e3]; rfl
        · omega
        · omega
      · subst h2
        rcases cmpN_cases (a + 1000000000 * val y) (a + 1000000000 * val y) with ⟨h3, e3⟩ | ⟨h3, e3⟩ | ⟨h3, e3⟩
        · omega
        · rw [e2, e3]; rfl
        · omega
      · rcases cmpN_cases (a + 1000000000 * val y) (b + 1000000000 * val y) with ⟨h3, e3⟩ | ⟨h3, e3⟩ | ⟨h3, e3⟩
        · omega
        · omega
        · rw [e2, e3]; rfl
    · have := Nat.mul_le_mul_left 1000000000 (Nat.succ_le_of_lt h1)
      rcases cmpN_cases (a + 1000000000 * val x) (b + 1000000000 * val y) with ⟨h2, e2⟩ | ⟨h2, e2⟩ | ⟨h2, e2⟩
      · omega
      · omega
      · rw [e1, e2]; rfl
theorem sizeL_val {x y : List Nat} (hx : Lim x) (hy : Lim y) (tx : Top x) (ty : Top y) : sizeL x y = cmpN (val x) (val y) := by
  unfold sizeL
  have key : ∀ {x y : List Nat}, Lim x → Top y → x.length < y.length → val x < val y := by
    intro x y hx ty h
    have hne : y ≠ [] := fun e => by subst e; simp at h
    have h1 := top_ge ty hne
    have h2 := val_lt hx
    have h3 := Nat.pow_le_pow_right (n := 1000000000) (by omega) (show x.length ≤ y.length - 1 by omega)
    omega
  rcases cmpN_cases x.length y.length with ⟨h, e⟩ | ⟨h, e⟩ | ⟨h, e⟩
  · have h2 := key hx ty h
    rcases cmpN_cases (val x) (val y) with ⟨h3, e3⟩ | ⟨h3, e3⟩ | ⟨h3, e3⟩
    · rw [e, e3]; rfl
    · omega
    · omega
  · rw [e, if_neg (by simp)]
    exact sizeR_val x y hx hy h
  · have h2 := key hy tx h
    rcases cmpN_cases (val x) (val y) with ⟨h3, e3⟩ | ⟨h3, e3⟩ | ⟨h3, e3⟩
    · omega
    · omega
    · rw [e, e3]; rfl

/-! ### signs -/
structure Big where
  below : Bool
  l : List Nat
def Big.trim (x : Big) : Big := ⟨x.below && !(trimL x.l).isEmpty, trimL x.l⟩
def Big.int (x : Big) : Int := if x.below then -(val x.l : Int) else val x.l
structure Big.Ok (x : Big) : Prop where
  lim : Lim x.l
  top : Top x.l
  sign : x.l = [] → x.below = false
theorem trim_ok {x : Big} (h : Lim x.l) : x.trim.Ok := ⟨(trimL_spec x.l).2.2 h, (trimL_spec x.l).2.1, fun e => by simp only [Big.trim] at e ⊢; simp [e]⟩
theorem trim_int (x : Big) : x.trim.int = x.int := by
  unfold Big.int Big.trim
  have h := (trimL_spec x.l).1
  have h2 := top_zero (trimL_spec x.l).2.1
  simp only [h]
  cases hb : x.below with
  | false => simp
  | true =>
    cases he : trimL x.l with
    | nil => have : val x.l = 0 := by rw [← h, he]; rfl
             simp [this]
    | cons _ _ => simp
def readB (a : Str) : Big := (⟨neg a, limbs (dig a)⟩ : Big).trim
def turnB (x : Big) : Big := (⟨!x.below, x.l⟩ : Big).trim
def sumB (x y : Big) : Big :=
  if x.below = y.below then (⟨x.below, plusL x.l y.l 0⟩ : Big).trim
  else if 0 ≤ sizeL x.l y.l then (⟨x.below, minusL x.l y.l 0⟩ : Big).trim
  else (⟨y.below, minusL y.l x.l 0⟩ : Big).trim
def cmpS (a b : Str) : Int := if goodN a && goodN b then (let d := sumB (readB a) (turnB (readB b)); if d.l = [] then 0 else if d.below then -1 else 1) else 0
/-- the integer -/
def num (a : Str) : Int := if neg a then -(dec (dig a) : Int) else dec (dig a)

theorem val_len {x y : List Nat} (hx : Lim x) (ty : Top y) (h : val y ≤ val x) : y.length ≤ x.length := by
  rcases Nat.lt_or_ge x.length y.length with hl | hl
  · have hne : y ≠ [] := fun e => by subst e; simp at hl
    have h1 := top_ge ty hne
    have h2 := val_lt hx
    have h3 := Nat.pow_le_pow_right (n := 1000000000) (by omega) (show x.length ≤ y.length - 1 by omega)
    omega
  · exact hl
theorem sum_spec {x y : Big} (hx : x.Ok) (hy : y.Ok) : (sumB x y).int = x.int + y.int ∧ (sumB x y).Ok := by
  unfold sumB
  have hs := sizeL_val hx.lim hy.lim hx.top hy.top
  by_cases h : x.below = y.below
  · rw [if_pos h]
    refine ⟨?_, trim_ok (plusL_lim _ _ _ hx.lim hy.lim (by omega))⟩
    rw [trim_int]
    unfold Big.int
    rw [plusL_val, ← h]
    cases x.below <;> simp; omega
  · rw [if_neg h, hs]
    by_cases hc : val y.l ≤ val x.l
    · have : 0 ≤ cmpN (val x.l) (val y.l) := by unfold cmpN; rw [if_neg (by omega)]; split <;> omega
      rw [if_pos this]
      obtain ⟨h1, h2⟩ := minusL_val x.l y.l 0 hx.lim hy.lim (by omega) (by omega) (val_len hx.lim hy.top hc)
      refine ⟨?_, trim_ok h2⟩
      rw [trim_int]
      unfold Big.int
      rw [h1]
      cases hxb : x.below <;> cases hyb : y.below <;> simp_all <;> omega
    · have : ¬ 0 ≤ cmpN (val x.l) (val y.l) := by unfold cmpN; rw [if_pos (by omega)]; omega
      rw [if_neg this]
      obtain ⟨h1, h2⟩ := minusL_val y.l x.l 0 hy.lim hx.lim (by omega) (by omega) (val_len hy.lim hx.top (by omega))
      refine ⟨?_, trim_ok h2⟩
      rw [trim_int]
      unfold Big.int
      rw [h1]
      cases hxb : x.below <;> cases hyb : y.below <;> simp_all <;> omega
theorem goodN_out {a : Str} (h : goodN a = true) : 1 ≤ (dig a).length ∧ (dig a).length ≤ 100 ∧ ((dig a).head? = some 48 → a = [48]) ∧ (dig a).all isDig = true := by
  simp only [goodN, Bool.and_eq_true, Bool.or_eq_true, decide_eq_true_eq, Bool.not_eq_true', beq_eq_false_iff_ne, ne_eq] at h
  obtain ⟨⟨⟨h1, h2⟩, h3⟩, h4⟩ := h
  exact ⟨h1, h2, fun e => h3.resolve_left (fun h => h e), h4⟩
theorem read_spec {a : Str} (h : goodN a = true) : (readB a).int = num a ∧ (readB a).Ok := by
  obtain ⟨_, _, _, h4⟩ := goodN_out h
  obtain ⟨h5, h6⟩ := limbs_val _ (dig a) (Nat.le_refl _) h4
  refine ⟨?_, trim_ok h6⟩
  unfold readB
  rw [trim_int]
  unfold Big.int num
  rw [h5]
theorem turn_spec {x : Big} (h : x.Ok) : (turnB x).int = -x.int ∧ (turnB x).Ok := by
  refine ⟨?_, trim_ok h.lim⟩
  unfold turnB
  rw [trim_int]
  unfold Big.int
  cases x.below <;> simp
theorem cmpS_num {a b : Str} (ha : goodN a = true) (hb : goodN b = true) : cmpS a b = if num a = num b then 0 else if num a < num b then -1 else 1 := by
  unfold cmpS
  rw [ha, hb]
  obtain ⟨ra, oa⟩ := read_spec ha
  obtain ⟨rb, ob⟩ := read_spec hb
  obtain ⟨rt, ot⟩ := turn_spec ob
  obtain ⟨rs, os⟩ := sum_spec oa ot
  simp only [Bool.and_self, if_true]
  generalize sumB (readB a) (turnB (readB b)) = d at *
  rw [ra, rt, rb] at rs
  have hz := top_zero os.top
  unfold Big.int at rs
  by_cases hd : d.l = []
  · rw [if_pos hd]
    have : val d.l = 0 := hz.2 hd
    rw [this] at rs
    rw [if_pos (by split at rs <;> omega)]
  · rw [if_neg hd]
    have : val d.l ≠ 0 := fun e => hd (hz.1 e)
    cases hdb : d.below with
    | true => rw [hdb] at rs; simp only [if_true] at rs ⊢; rw [if_neg (by omega), if_pos (by omega)]
    | false => rw [hdb] at rs; simp only [Bool.false_eq_true, if_false] at rs ⊢; rw [if_neg (by omega), if_neg (by omega)]
theorem num_inj {a b : Str} (ha : goodN a = true) (hb : goodN b = true) (h : num a = num b) : a = b := by
  obtain ⟨a1, _, a3, a4⟩ := goodN_out ha
  obtain ⟨b1, _, b3, b4⟩ := goodN_out hb
  have hdig : ∀ {a : Str}, neg a = true → a = 45 :: dig a := by
    intro a h
    cases a with
    | nil => simp [neg] at h
    | cons c d => simp only [neg, List.head?_cons, beq_iff_eq, Option.some.injEq] at h; subst h; simp [dig]
  have hdig0 : ∀ {a : Str}, neg a = false → dig a = a := by
    intro a h
    cases a with
    | nil => rfl
    | cons c d =>
      have : c ≠ 45 := fun e => by subst e; simp [neg] at h
      simp [dig, this]
  have hn48 : neg [48] = false := by decide
  have hd48 : dig [48] = [48] := by decide
  have key : dec (dig a) = dec (dig b) → dig a = dig b := dec_inj a4 b4 (fun e => by rw [a3 e, hd48]) (fun e => by rw [b3 e, hd48]) (fun e => by rw [e] at a1; simp at a1) (fun e => by rw [e] at b1; simp at b1)
  have hpos : ∀ {a : Str}, goodN a = true → neg a = true → 0 < dec (dig a) := by
    intro a ha hn
    obtain ⟨h1, _, h3, h4⟩ := goodN_out ha
    cases hd : dig a with
    | nil => rw [hd] at h1; simp at h1
    | cons c d =>
      have hc : c ≠ 48 := fun e => by
        have := h3 (by rw [hd, e]; rfl)
        rw [this, hn48] at hn; cases hn
      rw [hd] at h4
      simp only [List.all_cons, Bool.and_eq_true] at h4
      have := dec_ge (d := d) h4.1 hc
      have hp : 0 < 10 ^ d.length := Nat.pow_pos (by omega)
      omega
  unfold num at h
  cases hna : neg a with
  | true =>
    cases hnb : neg b with
    | true =>
      rw [hna, hnb] at h
      simp only [if_true] at h
      rw [hdig hna, hdig hnb, key (by omega)]
    | false =>
      rw [hna, hnb] at h
      have := hpos ha hna
      simp at h; omega
  | false =>
    cases hnb : neg b with
    | true =>
      rw [hna, hnb] at h
      have := hpos hb hnb
      simp at h; omega
    | false =>
      rw [hna, hnb] at h
      simp only [Bool.false_eq_true, if_false] at h
      have := key (by omega)
      rwa [hdig0 hna, hdig0 hnb] at this
theorem cmpS_zero {a b : Str} (ha : goodN a = true) (hb : goodN b = true) : cmpS a b = 0 ↔ a = b := by
  rw [cmpS_num ha hb]
  constructor
  · intro h
    by_cases he : num a = num b
    · exact num_inj ha hb he
    · rw [if_neg he] at h; split at h <;> omega
  · rintro rfl; simp
end Go.Num
