/- One plain sentence: weakest preconditions, contracts and plain laws that the claim rests on, text behind text. Conditions: those that each states. -/
import Derived.Test.YtdkikjcpgihjlaaGreatDoorNG5
import Derived.Lib.CountLaws
import Derived.Test.YtdkikjcpgihjlaaGreatDoorNG1
import Derived.Deep.Slices
import Derived.DataReads
import Derived.ChangeArms
import Derived.Test.YtdkikjcpgihjlaaGreatDoorNG3
import Derived.OpenShut
import Derived.Test.YtdkikjcpgihjlaaGreatDoorRows
import Derived.Below
import Derived.RowKit
import Derived.ChangeMaps5
import Derived.MakeChecks
import Derived.Lib.LaidTab
import Derived.Lib.LaidU8
import Derived.SizedLaws
import Derived.Shelf.Vars
set_option linter.all false
set_option linter.unusedSimpArgs false
set_option linter.unusedVariables false
set_option linter.unusedSectionVars false
namespace Go.Proofs.YtdkikjcpgihjlaaGreatDoor
open Go Go.Eng Go.RowKit
set_option maxRecDepth 100000
theorem imax : IntKind.i64.max = 9223372036854775807 := by decide
theorem u8_same (c d : UInt8) : decide (((c.toNat : Nat) : Int) = ((d.toNat : Nat) : Int)) = decide (c = d) := decide_eq_decide.2 ⟨fun h => UInt8.toNat_inj.1 (by omega), fun h => by rw [h]⟩
theorem u8_any (n : Int) : ∃ k : Nat, k < 256 ∧ IntKind.u8.wrap n = (k : Int) ∧ (0 ≤ n → n < 256 → (k : Int) = n) := by
  have e : IntKind.u8.wrap n = n % 256 := by simp [IntKind.wrap, IntKind.bits, IntKind.signed]
  exact ⟨(n % 256).toNat, by omega, by rw [e]; omega, by omega⟩
theorem ix_b {s : Str} {i : Nat} {c : UInt8} {K : Value → Prop} (h : s[i]? = some c) (hk : K (.int .u8 (c.toNat : Nat))) : ixsW (str s) (i64 (i : Nat)) K := by
  rw [ixs_str]
  exact ⟨by omega, c, by simpa using h, hk⟩
def sgM (b : Bool) (s : Str) : Str := if b = true ∧ s ≠ [48] then 45 :: s else s
def Dn (s : Str) : Prop := s ≠ [] ∧ s.all Num.isDig = true ∧ (s.head? = some 48 → s = [48])
def dgt (s : Str) (i : Nat) : Nat := if i < s.length then Num.dval (s.getD (s.length - 1 - i) 48) else 0
def lowN (s : Str) (i : Nat) : Nat := Num.dec (s.drop (s.length - i))
theorem lowN_zero (s : Str) : lowN s 0 = 0 := by unfold lowN; rw [Nat.sub_zero, List.drop_length]; rfl
theorem lowN_all {s : Str} {i : Nat} (h : s.length ≤ i) : lowN s i = Num.dec s := by unfold lowN; rw [show s.length - i = 0 by omega, List.drop_zero]
theorem lowN_step (s : Str) (i : Nat) : lowN s (i + 1) = dgt s i * 10 ^ i + lowN s i := by
  unfold dgt
  by_cases h : i < s.length
  · rw [if_pos h]
    unfold lowN
    have e : s.length - i = s.length - (i + 1) + 1 := by omega
    have hlt : s.length - (i + 1) < s.length := by omega
    rw [e, List.drop_eq_getElem_cons hlt, Num.dec_cons, List.length_drop]
    have e2 : s.length - (s.length - (i + 1) + 1) = i := by omega
    rw [e2]
    have e3 : s.getD (s.length - 1 - i) 48 = s[s.length - (i + 1)] := by
      have e4 : s.length - 1 - i = s.length - (i + 1) := by omega
      rw [e4, List.getD_eq_getElem?_getD, List.getElem?_eq_getElem hlt]; rfl
    rw [e3]
  · rw [if_neg h, lowN_all (by omega), lowN_all (by omega)]; omega
theorem dgt_z {s : Str} {i : Nat} (h : s.length ≤ i) : dgt s i = 0 := by unfold dgt; rw [if_neg (by omega)]
theorem dgt_lt {s : Str} (h : s.all Num.isDig = true) (i : Nat) : dgt s i < 10 := by
  unfold dgt
  split
  · rename_i hi
    have hlt : s.length - 1 - i < s.length := by omega
    rw [List.getD_eq_getElem?_getD, List.getElem?_eq_getElem hlt]
    exact Num.dval_lt (List.all_eq_true.1 h _ (List.getElem_mem hlt))
  · omega
theorem dig_dg {c : UInt8} (h : Num.isDig c = true) : 48 ≤ c.toNat ∧ c.toNat ≤ 57 ∧ Num.dval c = c.toNat - 48 := by
  simp only [Num.isDig, Bool.and_eq_true, decide_eq_true_eq] at h
  exact ⟨h.1, h.2, rfl⟩
theorem Dn.neg {s : Str} (h : Dn s) : Num.neg s = false := by
  obtain ⟨h1, h2, _⟩ := h
  cases s with
  | nil => exact absurd rfl h1
  | cons c r =>
    have := (dig_dg (List.all_eq_true.1 h2 c (by simp))).1
    unfold Num.neg
    rw [List.head?_cons]
    have : c ≠ 45 := by rintro rfl; simp at this
    simp [this]
theorem Dn.dig {s : Str} (h : Dn s) : Num.dig s = s := by
  have := h.neg
  cases s with
  | nil => rfl
  | cons c r =>
    unfold Num.neg at this
    rw [List.head?_cons] at this
    have : c ≠ 45 := by rintro rfl; simp at this
    simp [Num.dig, this]
theorem Dn.ge {s : Str} (h : Dn s) (hne : s ≠ [48]) : 10 ^ (s.length - 1) ≤ Num.dec s := by
  obtain ⟨h1, h2, h3⟩ := h
  cases s with
  | nil => exact absurd rfl h1
  | cons c r =>
    have hc : c ≠ 48 := fun e => hne (h3 (by rw [e]; rfl))
    exact Num.dec_ge (List.all_eq_true.1 h2 c (by simp)) hc
theorem Dn.pos {s : Str} (h : Dn s) : Num.dec s = 0 ↔ s = [48] := by
  constructor
  · intro e
    refine Classical.byContradiction fun hne => ?_
    have := h.ge hne
    have : 0 < 10 ^ (s.length - 1) := Nat.pow_pos (by omega)
    omega
  · rintro rfl; rfl
theorem less_dec : ∀ {a b : Str}, a.all Num.isDig = true → b.all Num.isDig = true → a.length = b.length → Op.bytesLess a b = decide (Num.dec a < Num.dec b)
  | [], [], _, _, _ => rfl
  | [], _ :: _, _, _, h => by simp at h
  | _ :: _, [], _, _, h => by simp at h
  | c :: a, d :: b, ha, hb, h => by
    simp only [List.all_cons, Bool.and_eq_true] at ha hb
    have hl : a.length = b.length := by simpa using h
    have ih := less_dec ha.2 hb.2 hl
    have la := Num.dec_lt ha.2
    have lb := Num.dec_lt hb.2
    obtain ⟨c1, c2, c3⟩ := dig_dg ha.1
    obtain ⟨d1, d2, d3⟩ := dig_dg hb.1
    rw [Num.dec_cons, Num.dec_cons, hl]
    rw [hl] at la
    generalize hp : 10 ^ b.length = p at *
    by_cases e : c = d
    · subst e
      have : Op.bytesLess (c :: a) (c :: b) = Op.bytesLess a b := by simp [Op.bytesLess]
      rw [this, ih]
      exact decide_eq_decide.2 (by omega)
    · by_cases hlt : c.toNat < d.toNat
      · have : Op.bytesLess (c :: a) (d :: b) = true := by simp [Op.bytesLess, UInt8.lt_iff_toNat_lt, hlt]
        rw [this]
        symm
        refine decide_eq_true ?_
        have : (Num.dval c + 1) * p ≤ Num.dval d * p := Nat.mul_le_mul_right _ (by omega)
        rw [Nat.add_mul] at this
        omega
      · have hgt : d.toNat < c.toNat := by
          have : c.toNat ≠ d.toNat := fun e2 => e (UInt8.toNat_inj.1 e2)
          omega
        have : Op.bytesLess (c :: a) (d :: b) = false := by
          have h1 : ¬ c < d := by rw [UInt8.lt_iff_toNat_lt]; omega
          have h2 : d < c := by rw [UInt8.lt_iff_toNat_lt]; omega
          simp [Op.bytesLess, h1, e]
        rw [this]
        symm
        refine decide_eq_false ?_
        have : (Num.dval d + 1) * p ≤ Num.dval c * p := Nat.mul_le_mul_right _ (by omega)
        rw [Nat.add_mul] at this
        omega
theorem Dn.lt_len {a b : Str} (ha : Dn a) (hb : Dn b) (h : a.length < b.length) : Num.dec a < Num.dec b := by
  have h1 := Num.dec_lt ha.2.1
  have hne : b ≠ [48] := fun e => by
    rw [e] at h
    have h3 := List.length_pos_iff.2 ha.1
    have h4 : a.length < 1 := h
    omega
  have h2 := hb.ge hne
  have : 10 ^ a.length ≤ 10 ^ (b.length - 1) := Nat.pow_le_pow_right (by omega) (by omega)
  omega
def GN (a : Str) : Prop := Dn (Num.dig a) ∧ (Num.neg a = true → Num.dig a ≠ [48])
theorem GN.of_good {a : Str} (h : Num.goodN a = true) : GN a := by
  obtain ⟨h1, h2, h3, h4⟩ := Num.goodN_out h
  refine ⟨⟨fun e => by rw [e] at h1; simp at h1, h4, fun e => ?_⟩, fun hn e => ?_⟩
  · have := h3 e; rw [this]; rfl
  · have := h3 (by rw [e]; rfl)
    rw [this] at hn; cases hn
theorem GN.ne {a : Str} (h : GN a) : a ≠ [] := fun e => by subst e; exact h.1.1 rfl
theorem dig_leC (s : Str) : (Num.dig s).length ≤ s.length := by
  cases s with
  | nil => simp [Num.dig]
  | cons c r => simp only [Num.dig]; split <;> simp
theorem sg_num {b : Bool} {t : Str} (ht : Dn t) : GN (sgM b t) ∧ Num.num (sgM b t) = (if b then -(Num.dec t : Int) else (Num.dec t : Int)) := by
  unfold sgM
  by_cases hb : b = true ∧ t ≠ [48]
  · rw [if_pos hb]
    have e1 : Num.dig (45 :: t) = t := by simp [Num.dig]
    have e2 : Num.neg (45 :: t) = true := rfl
    refine ⟨⟨by rw [e1]; exact ht, fun _ => by rw [e1]; exact hb.2⟩, ?_⟩
    unfold Num.num
    rw [e2, e1, hb.1]
  · rw [if_neg hb]
    refine ⟨⟨by rw [ht.dig]; exact ht, fun h => by rw [ht.neg] at h; cases h⟩, ?_⟩
    unfold Num.num
    rw [ht.neg, ht.dig]
    cases b with
    | false => rfl
    | true =>
      have : t = [48] := Classical.byContradiction fun e => hb ⟨rfl, e⟩
      subst this; rfl
section
variable [HX]
theorem byte_str {n : Int} {w : World} {K : Value → World → Prop} (hK : ∀ c w', Ext w w' → (n = (c.toNat : Nat) ∨ ¬ (0 ≤ n ∧ n < 256)) → K (str [c]) w') :
    cvtW .u8 (i64 n) fun t37 => bslW U8 1 [(.int .u8 0)] [(0, 1, t37)] w fun t38 w9 => semQ Tryz.prog (convert 66 9 t38) w9 fun t39 => K t39 w9 := by
  rw [cvt_int]
  obtain ⟨k, hk, e, _⟩ := u8_any n
  rw [e]
  refine row_u8 fun t w4 ht hx4 => ?_
  have hb : Byt w4 U8 t [UInt8.ofNat k] := by
    have e1 : u8s [UInt8.ofNat k] = [.int .u8 ((k : Nat) : Int)] := by
      simp only [u8s, List.map_cons, List.map_nil, UInt8.toNat_ofNat']
      rw [Nat.mod_eq_of_lt (by omega)]
    unfold Byt
    rw [e1]; exact ht
  rw [conv_bytes (l := [UInt8.ofNat k]) (e := U8) (by kernel_rfl) (by kernel_rfl) (by kernel_rfl) hb]
  refine hK _ w4 hx4 ?_
  by_cases h : 0 ≤ n ∧ n < 256
  · left
    have e2 : IntKind.u8.wrap n = n % 256 := by simp [IntKind.wrap, IntKind.bits, IntKind.signed]
    rw [UInt8.toNat_ofNat', Nat.mod_eq_of_lt (by omega)]
    omega
  · exact .inr h
theorem belowN_ref {s : Str} {w : World} {K : Value → World → Prop} (h : s ≠ []) (hK : K (.bool (Num.neg s)) w) : callF Tryz.prog 112 [str s] w K := by
  refine W112_ok ?_
  unfold W112
  cases s with
  | nil => exact absurd rfl h
  | cons c r =>
    refine ix_b (i := 0) (c := c) rfl ?_
    rw [bin_eql]
    have e : decide (((c.toNat : Nat) : Int) = 45) = Num.neg (c :: r) := by
      unfold Num.neg
      have := u8_same c 45
      rw [show ((45 : UInt8).toNat : Int) = 45 from rfl] at this
      rw [this, List.head?_cons]
      by_cases h : c = 45
      · subst h; rfl
      · simp [h]
    rw [e]
    exact hK
theorem sizeN_ref {s : Str} {w : World} {K : Value → World → Prop} (h : s ≠ []) (hK : K (str (Num.dig s)) w) : callF Tryz.prog 80 [str s] w K := by
  refine W80_ok ?_
  unfold W80
  refine belowN_ref h ?_
  cases s with
  | nil => exact absurd rfl h
  | cons c r =>
    rw [condW_b]
    refine ⟨fun e => ?_, fun e => ?_⟩
    · have ec : c = 45 := by unfold Num.neg at e; simpa using e
      rw [sls_str, bd_none, bd_some]
      refine ⟨by omega, by rw [List.length_cons]; omega, ?_⟩
      rw [List.take_length]
      have e2 : Num.dig (c :: r) = r := by simp [Num.dig, ec]
      rw [e2] at hK
      exact hK
    · have ec : ¬ c = 45 := by unfold Num.neg at e; simpa using e
      have e2 : Num.dig (c :: r) = c :: r := by simp [Num.dig, ec]
      rw [e2] at hK
      exact hK
theorem sg_ref {b : Bool} {s : Str} {w : World} {K : Value → World → Prop} (hl : s.length ≤ 1000000) (hK : K (str (sgM b s)) w) : callF Tryz.prog 40 [.bool b, str s] w K := by
  refine W40_ok ?_
  unfold W40
  unfold sgM at hK
  cases b with
  | false =>
    refine GdW.f fun g => ?_
    show condW (.bool false) _ _
    rw [condW_false]
    rw [if_neg (by simp)] at hK
    exact hK
  | true =>
    refine GdW.look (decide (s ≠ [48])) (fun _ J hJ => ?_) fun g => ?_
    · rw [bin_sne]; exact hJ
    show condW (.bool (decide (s ≠ [48]))) _ _
    rw [condW_dec]
    refine ⟨fun e => ?_, fun e => ?_⟩
    · rw [if_pos ⟨rfl, e⟩] at hK
      rw [bin_sadd]
      exact ⟨by rw [imax]; simp only [List.length_cons, List.length_nil]; omega, hK⟩
    · rw [if_neg (fun h => e h.2)] at hK
      exact hK
theorem lessC_ref {a b : Str} {w : World} {K : Value → World → Prop} (ha : Dn a) (hb : Dn b) (hK : K (.bool (decide (Num.dec a < Num.dec b))) w) : callF Tryz.prog 180 [str a, str b] w K := by
  refine W180_ok ?_
  unfold W180
  simp only [lens_str]
  rw [bin_neq, condW_dec]
  refine ⟨fun e => ?_, fun e => ?_⟩
  · rw [bin_lss]
    have : decide (((a.length : Nat) : Int) < ((b.length : Nat) : Int)) = decide (Num.dec a < Num.dec b) := by
      refine decide_eq_decide.2 ⟨fun h => ha.lt_len hb (by omega), fun h => ?_⟩
      refine Classical.byContradiction fun hn => ?_
      have := hb.lt_len ha (by omega)
      omega
    rw [this]; exact hK
  · rw [bin_slt, less_dec ha.2.1 hb.2.1 (by omega)]
    exact hK
theorem digitC_ref {s : Str} {i : Nat} {w : World} {K : Value → World → Prop} (hs : s.all Num.isDig = true) (hl : s.length ≤ 1000000) (hi : i ≤ 1000000) (hK : K (i64 (dgt s i : Nat)) w) : callF Tryz.prog 204 [str s, i64 (i : Nat)] w K := by
  refine W204_ok ?_
  unfold W204
  simp only [lens_str]
  unfold dgt at hK
  rw [bin_geq, condW_dec]
  refine ⟨fun h => ?_, fun h => ?_⟩
  · rw [if_neg (by omega)] at hK; exact hK
  rw [if_pos (by omega)] at hK
  rw [bin_sub, wrap_id (by omega) (by omega), bin_sub, wrap_id (by omega) (by omega), show (s.length : Int) - 1 - (i : Int) = ((s.length - 1 - i : Nat) : Int) by omega]
  obtain ⟨c, hc⟩ : ∃ c, s[s.length - 1 - i]? = some c := ⟨_, List.getElem?_eq_getElem (by omega)⟩
  refine ix_b hc ?_
  obtain ⟨c1, c2, c3⟩ := dig_dg (List.all_eq_true.1 hs c (List.mem_of_getElem? hc))
  rw [bin_sub, cvt_int]
  obtain ⟨k, hk, e, f⟩ := u8_any (((c.toNat : Nat) : Int) - 48)
  have := f (by omega) (by omega)
  rw [e, wrap_id (by omega) (by omega)]
  rw [List.getD_eq_getElem?_getD, hc] at hK
  have e2 : (k : Int) = ((Num.dval c : Nat) : Int) := by omega
  rw [e2]
  exact hK
theorem bareC_ref {s : Str} {w : World} {K : Value → World → Prop} (h : s ≠ []) (hd : s.all Num.isDig = true) (hl : s.length ≤ 1000000) (hK : ∀ t, Dn t → Num.dec t = Num.dec s → t.length ≤ s.length → K (str t) w) : callF Tryz.prog 205 [str s] w K := by
  refine W205_ok ?_
  unfold W205
  refine LoopW.go (fun st w' => ∃ z t, st = [str t] ∧ s = z ++ t ∧ t ≠ [] ∧ Num.dec t = Num.dec s ∧ w' = w) (fun st _ => match st with | [.string b] => b.size | _ => 0) ⟨[], s, rfl, rfl, h, rfl, rfl⟩ ?_
  rintro st g w2 ⟨z, t, rfl, hs, ht, hdec, rfl⟩
  simp only [List.getD_cons_zero]
  have hlt : t.length ≤ s.length := by rw [hs]; simp
  have hdt : t.all Num.isDig = true := List.all_eq_true.2 fun x hx => List.all_eq_true.1 hd x (by rw [hs]; exact List.mem_append_right _ hx)
  cases t with
  | nil => exact absurd rfl ht
  | cons c r =>
    simp only [lens_str]
    rw [bin_gtr]
    simp only [isB_t]
    refine GdW.look (decide (c = 48)) (fun _ J hJ => ?_) fun g => ?_
    · refine ix_b (i := 0) (c := c) rfl ?_
      rw [bin_eql]
      have := u8_same c 48
      rw [show ((48 : UInt8).toNat : Int) = 48 from rfl] at this
      rw [this]
      exact hJ
    simp only [List.getD_cons_zero]
    rw [pick_gd_and, condW_b]
    refine ⟨fun e => ?_, fun e => ?_⟩
    · simp only [Bool.and_eq_true, decide_eq_true_eq, List.length_cons] at e
      rw [sls_str, bd_none, bd_some]
      refine ⟨by omega, by rw [List.length_cons]; omega, ?_⟩
      rw [List.take_length]
      refine ⟨⟨z ++ [c], r, rfl, by rw [hs]; simp, (fun e2 => by rw [e2] at e; simp at e), ?_, trivial⟩, ?_⟩
      · rw [← hdec, Num.dec_cons, e.2]
        show _ = Num.dval 48 * _ + _
        rw [show Num.dval 48 = 0 from rfl]; omega
      · show (ofL ((c :: r).drop 1)).size < (ofL (c :: r)).size
        rw [ofL_size, ofL_size]; simp
    · refine hK (c :: r) ⟨ht, hdt, fun e2 => ?_⟩ hdec hlt
      simp only [List.head?_cons, Option.some.injEq] at e2
      subst e2
      simp only [Bool.and_eq_false_iff, decide_eq_false_iff_not, List.length_cons] at e
      rcases e with e | e
      · have : r = [] := List.eq_nil_of_length_eq_zero (by omega)
        rw [this]
      · exact absurd trivial e
theorem dig_of {x : UInt8} {k : Nat} (hk : k < 10) (h : ((48 + k : Nat) : Int) = ((x.toNat : Nat) : Int)) : Num.isDig x = true ∧ Num.dval x = k := by
  have : x.toNat = 48 + k := by omega
  unfold Num.isDig Num.dval
  rw [this]
  refine ⟨?_, by omega⟩
  simp only [Bool.and_eq_true, decide_eq_true_eq]
  omega
theorem plusC_ref {a b : Str} {w : World} {K : Value → World → Prop} (ha : Dn a) (hb : Dn b) (la : a.length ≤ 100000) (lb : b.length ≤ 100000) (hK : ∀ t w', Ext w w' → Dn t → Num.dec t = Num.dec a + Num.dec b → t.length ≤ 200000 → K (str t) w') : callF Tryz.prog 179 [str a, str b] w K := by
  refine W179_ok ?_
  unfold W179
  have ha0 : 0 < a.length := List.length_pos_iff.2 ha.1
  refine LoopW.go (fun st w' => ∃ (out : Str) (c i : Nat), st = [str out, i64 (c : Nat), i64 (i : Nat)] ∧ out.length = i ∧ c ≤ 1 ∧ i + c ≤ max a.length b.length + 1 ∧ out.all Num.isDig = true ∧ Num.dec out + c * 10 ^ i = lowN a i + lowN b i ∧ Ext w w')
    (fun st _ => match st with | [_, .int _ c, .int _ i] => 100 * (max a.length b.length - i.toNat) + c.toNat | _ => 0) ⟨[], 0, 0, rfl, rfl, by omega, by omega, rfl, by rw [lowN_zero, lowN_zero]; rfl, Chg.refl _ _⟩ ?_
  rintro st g w2 ⟨out, c, i, rfl, ho, hc, hic, hno, hsum, hx⟩
  simp only [List.getD_cons_zero, List.getD_cons_succ, lens_str]
  rw [bin_lss]
  simp only [isB_f]
  refine GdW.look (decide ((i : Int) < (b.length : Int))) (fun _ J hJ => by rw [bin_lss]; exact hJ) fun g => ?_
  simp only [List.getD_cons_zero]
  rw [pick_gd_or]
  simp only [isB_f]
  refine GdW.look (decide ((0 : Int) < (c : Int))) (fun _ J hJ => by rw [bin_gtr]; exact hJ) fun g => ?_
  simp only [List.getD_cons_zero]
  rw [pick_gd_or, condW_b]
  refine ⟨fun e => ?_, fun e => ?_⟩
  · refine digitC_ref ha.2.1 (by omega) (by omega) ?_
    refine digitC_ref hb.2.1 (by omega) (by omega) ?_
    have h1 := dgt_lt ha.2.1 i
    have h2 := dgt_lt hb.2.1 i
    have z1 := @dgt_z a i
    have z2 := @dgt_z b i
    have s1 := lowN_step a i
    have s2 := lowN_step b i
    generalize dgt a i = d1 at *
    generalize dgt b i = d2 at *
    rw [bin_add, wrap_id (by omega) (by omega), bin_add, wrap_id (by omega) (by omega), show (d1 : Int) + (d2 : Int) + (c : Int) = ((d1 + d2 + c : Nat) : Int) by omega, bin_rem]
    refine ⟨by decide, ?_⟩
    have er : ((d1 + d2 + c : Nat) : Int).tmod 10 = (((d1 + d2 + c) % 10 : Nat) : Int) := (Int.ofNat_tmod _ 10).symm
    have eq : ((d1 + d2 + c : Nat) : Int).tdiv 10 = (((d1 + d2 + c) / 10 : Nat) : Int) := (Int.ofNat_tdiv _ 10).symm
    rw [er, bin_add, wrap_id (by omega) (by omega)]
    refine byte_str fun x w4 hx4 hxc => ?_
    rw [bin_sadd]
    refine ⟨by rw [imax]; simp only [List.length_cons, List.length_nil]; omega, ?_⟩
    rw [bin_quo]
    refine ⟨by decide, ?_⟩
    rw [eq, wrap_id (by omega) (by omega), bin_add, up1 (by omega)]
    obtain ⟨x1, x2⟩ : Num.isDig x = true ∧ Num.dval x = (d1 + d2 + c) % 10 := dig_of (by omega) (by
      rcases hxc with h | h
      · omega
      · exact absurd (by omega) h)
    simp only [Bool.or_eq_true, decide_eq_true_eq] at e
    refine ⟨⟨[x] ++ out, _, i + 1, rfl, by simp [ho], by omega, ?_, ?_, ?_, hx.trans hx4⟩, ?_⟩
    · omega
    · simp only [List.cons_append, List.nil_append, List.all_cons, x1, hno, Bool.and_self]
    · rw [s1, s2]
      show Num.dec (x :: out) + _ = _
      rw [Num.dec_cons, x2, ho, Nat.pow_succ]
      generalize 10 ^ i = p at *
      have hd : (d1 + d2 + c) % 10 + 10 * ((d1 + d2 + c) / 10) = d1 + d2 + c := Nat.mod_add_div _ 10
      have hm := congrArg (· * p) hd
      simp only [Nat.add_mul] at hm
      have e3 : (d1 + d2 + c) / 10 * (p * 10) = 10 * ((d1 + d2 + c) / 10) * p := by rw [Nat.mul_comm p 10, ← Nat.mul_assoc, Nat.mul_comm _ 10]
      rw [e3]
      omega
    · show 100 * (max a.length b.length - ((i + 1 : Nat) : Int).toNat) + (((d1 + d2 + c) / 10 : Nat) : Int).toNat < 100 * (max a.length b.length - ((i : Nat) : Int).toNat) + ((c : Nat) : Int).toNat
      simp only [Int.toNat_natCast]
      omega
  · simp only [Bool.or_eq_false_iff, decide_eq_false_iff_not] at e
    refine bareC_ref (fun h => by rw [h] at ho; simp at ho; omega) hno (by omega) fun t ht hdt hlt => ?_
    refine hK t w2 hx ht ?_ (by omega)
    have hc0 : c = 0 := by omega
    subst hc0
    rw [lowN_all (by omega), lowN_all (by omega)] at hsum
    omega
theorem minusC_ref {a b : Str} {w : World} {K : Value → World → Prop} (ha : Dn a) (hb : Dn b) (hle : Num.dec b ≤ Num.dec a) (la : a.length ≤ 100000) (lb : b.length ≤ 100000) (hK : ∀ t w', Ext w w' → Dn t → Num.dec t = Num.dec a - Num.dec b → t.length ≤ 200000 → K (str t) w') : callF Tryz.prog 181 [str a, str b] w K := by
  refine W181_ok ?_
  unfold W181
  have ha0 : 0 < a.length := List.length_pos_iff.2 ha.1
  have hbl : b.length ≤ a.length := by
    refine Classical.byContradiction fun h => ?_
    have := ha.lt_len hb (by omega)
    omega
  refine LoopW.go (fun st w' => ∃ (out : Str) (c i : Nat), st = [str out, i64 (c : Nat), i64 (i : Nat)] ∧ out.length = i ∧ c ≤ 1 ∧ i ≤ a.length ∧ out.all Num.isDig = true ∧ Num.dec out + lowN b i = lowN a i + c * 10 ^ i ∧ Ext w w')
    (fun st _ => match st with | [_, _, .int _ i] => a.length - i.toNat | _ => 0) ⟨[], 0, 0, rfl, rfl, by omega, by omega, rfl, by rw [lowN_zero, lowN_zero]; rfl, Chg.refl _ _⟩ ?_
  rintro st g w2 ⟨out, c, i, rfl, ho, hc, hi, hno, hsum, hx⟩
  simp only [List.getD_cons_zero, List.getD_cons_succ, lens_str]
  rw [bin_lss, condW_dec]
  refine ⟨fun e => ?_, fun e => ?_⟩
  · refine digitC_ref ha.2.1 (by omega) (by omega) ?_
    refine digitC_ref hb.2.1 (by omega) (by omega) ?_
    have h1 := dgt_lt ha.2.1 i
    have h2 := dgt_lt hb.2.1 i
    have s1 := lowN_step a i
    have s2 := lowN_step b i
    generalize dgt a i = d1 at *
    generalize dgt b i = d2 at *
    rw [bin_sub, wrap_id (by omega) (by omega), bin_sub, wrap_id (by omega) (by omega)]
    refine JoinW.cut (fun st w' => ∃ c' d : Nat, st = [i64 (c' : Nat), i64 (d : Nat)] ∧ c' ≤ 1 ∧ d < 10 ∧ d + d2 + c = d1 + 10 * c' ∧ w' = w2) ?_ ?_
    · rw [bin_lss, condW_dec]
      refine ⟨fun h => ?_, fun h => ?_⟩
      · rw [bin_add, wrap_id (by omega) (by omega), show ((d1 : Int) - (d2 : Int) - (c : Int) + 10) = ((d1 + 10 - d2 - c : Nat) : Int) by omega]
        exact ⟨1, d1 + 10 - d2 - c, rfl, by omega, by omega, by omega, rfl⟩
      · rw [show ((d1 : Int) - (d2 : Int) - (c : Int)) = ((d1 - d2 - c : Nat) : Int) by omega]
        exact ⟨0, d1 - d2 - c, rfl, by omega, by omega, by omega, rfl⟩
    rintro st g w3 ⟨c', d, rfl, hc', hd1, hd2, rfl⟩
    simp only [List.getD_cons_zero, List.getD_cons_succ]
    rw [bin_add, wrap_id (by omega) (by omega)]
    refine byte_str fun x w4 hx4 hxc => ?_
    rw [bin_sadd]
    refine ⟨by rw [imax]; simp only [List.length_cons, List.length_nil]; omega, ?_⟩
    rw [bin_add, up1 (by omega)]
    obtain ⟨x1, x2⟩ : Num.isDig x = true ∧ Num.dval x = d := dig_of hd1 (by
      rcases hxc with h | h
      · omega
      · exact absurd (by omega) h)
    refine ⟨⟨[x] ++ out, c', i + 1, rfl, by simp [ho], hc', by omega, ?_, ?_, hx.trans hx4⟩, ?_⟩
    · simp only [List.cons_append, List.nil_append, List.all_cons, x1, hno, Bool.and_self]
    · rw [s1, s2]
      show Num.dec (x :: out) + _ = _
      rw [Num.dec_cons, x2, ho, Nat.pow_succ]
      generalize 10 ^ i = p at *
      have hm := congrArg (· * p) hd2
      simp only [Nat.add_mul] at hm
      have e3 : c' * (p * 10) = 10 * c' * p := by rw [Nat.mul_comm p 10, ← Nat.mul_assoc, Nat.mul_comm c' 10]
      rw [e3]
      omega
    · show a.length - ((i + 1 : Nat) : Int).toNat < a.length - ((i : Nat) : Int).toNat
      simp only [Int.toNat_natCast]
      omega
  · refine bareC_ref (fun h => by rw [h] at ho; simp at ho; omega) hno (by omega) fun t ht hdt hlt => ?_
    refine hK t w2 hx ht ?_ (by omega)
    have hi' : i = a.length := by omega
    rw [lowN_all (by omega), lowN_all (by omega)] at hsum
    have hlo := Num.dec_lt hno
    rw [ho] at hlo
    have hc0 : c = 0 := by
      refine Classical.byContradiction fun hc1 => ?_
      have : c = 1 := by omega
      subst this
      generalize 10 ^ i = p at *
      omega
    subst hc0
    omega
theorem num_cases (a : Str) : (Num.neg a = true ∧ Num.num a = -(Num.dec (Num.dig a) : Int)) ∨ (Num.neg a = false ∧ Num.num a = (Num.dec (Num.dig a) : Int)) := by
  unfold Num.num
  cases Num.neg a with
  | true => exact .inl ⟨rfl, rfl⟩
  | false => exact .inr ⟨rfl, rfl⟩
theorem sumC_ref {a b : Str} {w : World} {K : Value → World → Prop} (ha : GN a) (hb : GN b) (la : a.length ≤ 1000) (lb : b.length ≤ 1000)
    (hK : ∀ t w', Ext w w' → GN t → Num.num t = Num.num a + Num.num b → K (str t) w') : callF Tryz.prog 147 [str a, str b] w K := by
  have na := ha.ne
  have nb := hb.ne
  have da := dig_leC a
  have db := dig_leC b
  refine W147_ok ?_
  unfold W147
  refine belowN_ref na ?_
  refine belowN_ref nb ?_
  rw [eq_bb, condW_b]
  refine ⟨fun e => ?_, fun e => ?_⟩
  · refine belowN_ref na ?_
    refine sizeN_ref na ?_
    refine sizeN_ref nb ?_
    refine plusC_ref ha.1 hb.1 (by omega) (by omega) fun t w' hx ht hdt htl => ?_
    refine sg_ref (by omega) ?_
    obtain ⟨s1, s2⟩ := sg_num (b := Num.neg a) ht
    have e : Num.neg a = Num.neg b := by simpa using e
    refine hK _ w' hx s1 ?_
    rw [s2]
    rcases num_cases a with ⟨n1, n2⟩ | ⟨n1, n2⟩ <;> rcases num_cases b with ⟨m1, m2⟩ | ⟨m1, m2⟩
    · rw [n1, n2, m2, if_pos rfl]; omega
    · rw [n1, m1] at e; cases e
    · rw [n1, m1] at e; cases e
    · rw [n1, n2, m2, if_neg (by simp)]; omega
  · have e : Num.neg a ≠ Num.neg b := by simpa using e
    refine sizeN_ref na ?_
    refine sizeN_ref nb ?_
    refine lessC_ref ha.1 hb.1 ?_
    rw [condW_dec]
    refine ⟨fun er => ?_, fun er => ?_⟩
    · refine belowN_ref nb ?_
      refine sizeN_ref nb ?_
      refine sizeN_ref na ?_
      refine minusC_ref hb.1 ha.1 (by omega) (by omega) (by omega) fun t w' hx ht hdt htl => ?_
      refine sg_ref (by omega) ?_
      obtain ⟨s1, s2⟩ := sg_num (b := Num.neg b) ht
      refine hK _ w' hx s1 ?_
      rw [s2]
      rcases num_cases a with ⟨n1, n2⟩ | ⟨n1, n2⟩ <;> rcases num_cases b with ⟨m1, m2⟩ | ⟨m1, m2⟩
      · exact absurd (n1.trans m1.symm) e
      · rw [m1, n2, m2, if_neg (by simp)]; omega
      · rw [m1, n2, m2, if_pos rfl]; omega
      · exact absurd (n1.trans m1.symm) e
    · refine belowN_ref na ?_
      refine sizeN_ref na ?_
      refine sizeN_ref nb ?_
      refine minusC_ref ha.1 hb.1 (by omega) (by omega) (by omega) fun t w' hx ht hdt htl => ?_
      refine sg_ref (by omega) ?_
      obtain ⟨s1, s2⟩ := sg_num (b := Num.neg a) ht
      refine hK _ w' hx s1 ?_
      rw [s2]
      rcases num_cases a with ⟨n1, n2⟩ | ⟨n1, n2⟩ <;> rcases num_cases b with ⟨m1, m2⟩ | ⟨m1, m2⟩
      · exact absurd (n1.trans m1.symm) e
      · rw [n1, n2, m2, if_pos rfl]; omega
      · rw [n1, n2, m2, if_neg (by simp)]; omega
      · exact absurd (n1.trans m1.symm) e
theorem turnedC_ref {s : Str} {w : World} {K : Value → World → Prop} (h : GN s) (hl : s.length ≤ 1000) (hK : GN (sgM (!Num.neg s) (Num.dig s)) → Num.num (sgM (!Num.neg s) (Num.dig s)) = -Num.num s → K (str (sgM (!Num.neg s) (Num.dig s))) w) : callF Tryz.prog 148 [str s] w K := by
  refine W148_ok ?_
  unfold W148
  refine belowN_ref h.ne ?_
  rw [un_not]
  refine sizeN_ref h.ne ?_
  have := dig_leC s
  obtain ⟨s1, s2⟩ := sg_num (b := !Num.neg s) h.1
  refine sg_ref (by omega) (hK s1 ?_)
  rw [s2]
  rcases num_cases s with ⟨n1, n2⟩ | ⟨n1, n2⟩ <;> rw [n1, n2] <;> simp
def cmpZ (a b : Int) : Int := if a = b then 0 else if a < b then -1 else 1
theorem cmpC_ref {a b : Str} {w : World} {K : Value → World → Prop} (ha : GN a) (hb : GN b) (la : a.length ≤ 900) (lb : b.length ≤ 900) (hK : ∀ w', Ext w w' → K (i64 (cmpZ (Num.num a) (Num.num b))) w') : callF Tryz.prog 117 [str a, str b] w K := by
  refine W117_ok ?_
  unfold W117
  have db := dig_leC b
  refine turnedC_ref hb (by omega) fun g1 g2 => ?_
  have lt : (sgM (!Num.neg b) (Num.dig b)).length ≤ 1000 := by
    unfold sgM
    split
    · rw [List.length_cons]; omega
    · omega
  refine sumC_ref ha g1 (by omega) lt fun t w' hx ht hn => ?_
  have hK := hK w' hx
  unfold cmpZ at hK
  rw [g2] at hn
  rw [bin_seq, condW_dec]
  have hz : t = [48] ↔ Num.num t = 0 := by
    rcases num_cases t with ⟨n1, n2⟩ | ⟨n1, n2⟩
    · have := ht.2 n1
      have h0 := ht.1.pos
      constructor
      · rintro rfl; cases n1
      · intro e; exact absurd (h0.1 (by omega)) this
    · have h0 := ht.1.pos
      have e : Num.dig t = t := by
        cases t with
        | nil => rfl
        | cons c r =>
          unfold Num.neg at n1
          have : c ≠ 45 := by rintro rfl; simp at n1
          simp [Num.dig, this]
      rw [e] at h0 n2
      rw [n2]
      constructor
      · intro h; rw [h0.2 h]; rfl
      · intro h; exact h0.1 (by omega)
  refine ⟨fun e => ?_, fun e => ?_⟩
  · have := hz.1 e
    rw [if_pos (by omega)] at hK
    exact hK
  · have hne : Num.num t ≠ 0 := fun h => e (hz.2 h)
    rw [if_neg (by omega)] at hK
    refine belowN_ref ht.ne ?_
    rw [condW_b]
    rcases num_cases t with ⟨n1, n2⟩ | ⟨n1, n2⟩
    · refine ⟨fun _ => ?_, fun h => by rw [n1] at h; cases h⟩
      rw [if_pos (by omega)] at hK
      exact hK
    · refine ⟨(fun h => by rw [n1] at h; cases h), fun _ => ?_⟩
      rw [if_neg (by omega)] at hK
      exact hK
end
end Go.Proofs.YtdkikjcpgihjlaaGreatDoor
namespace Go.Proofs.YtdkikjcpgihjlaaGreatDoor
open Go Go.Eng Go.Num Go.RowKit
set_option maxRecDepth 100000
structure Acc (w0 w : World) (p B : Nat) (k : Int) (xs : List JV) (ks : List Str) (ov kv : Value) : Prop where
  hp : w.heap[p]? = some (.cells [i64 k, .bool false, str [], ov, kv].toArray VT (0, 0))
  it : ∃ L, Own w B VT 5 ov xs.length L ∧ VReps w0 xs L
  ke : Own w B ST 1 kv ks.length (ks.map str)
  lt : p < B
  hx : Ext w0 w
  lo : w0.heap.size ≤ p
section
variable [HX]
theorem Acc.start {w0 w : World} {p : Nat} {k : Int} (hp : w.heap[p]? = some (.cells [i64 k, .bool false, str [], .slice none 0 0, .slice none 0 0].toArray VT (0, 0))) (hx : Ext w0 w) (lo : w0.heap.size ≤ p) : Acc w0 w p w.heap.size k [] [] (.slice none 0 0) (.slice none 0 0) :=
  ⟨hp, ⟨[], ⟨by simp, .inl ⟨rfl, rfl⟩⟩, rfl⟩, ⟨by simp, .inl ⟨rfl, rfl⟩⟩, at_lt hp, hx, lo⟩
theorem Acc.size {w0 w : World} {p B : Nat} {k : Int} {xs : List JV} {ks : List Str} {ov kv : Value} (h : Acc w0 w p B k xs ks ov kv) : p < w.heap.size := at_lt h.hp
theorem Acc.ext {w0 w w' : World} {p B : Nat} {k : Int} {xs : List JV} {ks : List Str} {ov kv : Value} (h : Acc w0 w p B k xs ks ov kv) (hx : Ext w w') : Acc w0 w' p B k xs ks ov kv :=
  ⟨hx.at h.hp id, let ⟨L, h1, h2⟩ := h.it; ⟨L, own_chg h1 hx fun _ _ e => e, h2⟩, own_chg h.ke hx fun _ _ e => e, h.lt, h.hx.trans hx, h.lo⟩
theorem Acc.at_b {w0 w w' : World} {p B b : Nat} {k : Int} {xs : List JV} {ks : List Str} {ov kv : Value} (h : Acc w0 w p B k xs ks ov kv) (hc : Chg (fun q => q = b) w w') (hb : b ≠ p) (hB : b < B) (hl : w0.heap.size ≤ b) : Acc w0 w' p B k xs ks ov kv :=
  ⟨hc.at h.hp (fun e => hb e.symm), let ⟨L, h1, h2⟩ := h.it; ⟨L, own_chg h1 hc fun q hq e => by have := (own_in h1 hq).1; omega, h2⟩, own_chg h.ke hc fun q hq e => by have := (own_in h.ke hq).1; omega, h.lt, h.hx.new hc hl, h.lo⟩
theorem Acc.at_S {w0 w w' : World} {p B : Nat} {S : Nat → Prop} {k : Int} {xs : List JV} {ks : List Str} {ov kv : Value} (h : Acc w0 w p B k xs ks ov kv) (hc : Chg S w w') (hS : ∀ q, S q → w0.heap.size ≤ q ∧ q < p) : Acc w0 w' p B k xs ks ov kv :=
  have hlt := h.lt
  ⟨hc.at h.hp (fun e => by have := (hS p e).2; omega), let ⟨L, h1, h2⟩ := h.it; ⟨L, own_chg h1 hc fun q hq e => by have := (own_in h1 hq).1; have := (hS q e).2; omega, h2⟩, own_chg h.ke hc fun q hq e => by have := (own_in h.ke hq).1; have := (hS q e).2; omega, h.lt, h.hx.then hc fun q hq e => by have := (hS q e).1; omega, h.lo⟩
theorem Acc.l3 {w0 w : World} {p B : Nat} {k : Int} {xs : List JV} {ks : List Str} {ov kv : Value} {K : Value → Prop} (h : Acc w0 w p B k xs ks ov kv) (hK : K ov) : ldW false 1 (.pointer (some ⟨p, 0 + 3, none⟩)) w K :=
  ld_fld (o := 0) (cs := [i64 k, .bool false, str [], ov, kv]) h.hp (fun j _ => by simp) (by omega) (u := ov) rfl hK
theorem Acc.l4 {w0 w : World} {p B : Nat} {k : Int} {xs : List JV} {ks : List Str} {ov kv : Value} {K : Value → Prop} (h : Acc w0 w p B k xs ks ov kv) (hK : K kv) : ldW false 1 (.pointer (some ⟨p, 0 + 4, none⟩)) w K :=
  ld_fld (o := 0) (cs := [i64 k, .bool false, str [], ov, kv]) h.hp (fun j _ => by simp) (by omega) (u := kv) rfl hK
theorem Acc.all {w0 w : World} {p B : Nat} {k : Int} {xs : List JV} {ks : List Str} {ov kv : Value} {K : Value → Prop} (h : Acc w0 w p B k xs ks ov kv) (hK : K (.agg [i64 k, .bool false, str [], ov, kv].toArray)) : ldW true 5 (.pointer (some ⟨p, 0, none⟩)) w K := ld_all h.hp rfl hK
theorem Acc.rep {w0 w : World} {p B : Nat} {k : Int} {xs : List JV} {ks : List Str} {ov kv : Value} (h : Acc w0 w p B k xs ks ov kv) (h1 : xs.length ≤ 9223372036854775807) (h2 : ks.length ≤ 9223372036854775807) (h3 : ∀ s ∈ ks, s.length ≤ 9223372036854775807) : VRep w (.mk k false [] xs ks) [i64 k, .bool false, str [], ov, kv] := by
  obtain ⟨L, g1, g2⟩ := h.it
  exact VRep.mk (v := .mk k false [] xs ks) g1.sl (g2.ext h.hx) h.ke.sl ⟨h1, h2, by simp [JV.t], h3⟩
theorem Acc.one {w0 w : World} {p B : Nat} {k : Int} {xs : List JV} {ks : List Str} {ov kv : Value} (h : Acc w0 w p B k xs ks ov kv) : [i64 k, .bool false, str [], ov, kv].all one1 = true := by
  obtain ⟨L, g1, g2⟩ := h.it
  exact obj_one (own_one g1) (own_one h.ke)
theorem retC {w0 w : World} {b : Nat} {cs ds : List Value} {v : JV} {K : Value → World → Prop} (hb : w.heap[b]? = some (.cells ds.toArray VT (0, 0))) (hd : ds.length = 5) (hl : w0.heap.size ≤ b) (hx : Ext w0 w) (hv : ∀ w', Chg (fun q => q = b) w w' → VRep w' v cs)
    (hK : ∀ w', Ext w0 w' → VRep w' v cs → K (.agg cs.toArray) w') : stW 5 (.pointer (some ⟨b, 0, none⟩)) (.agg cs.toArray) w fun w4 => ldW true 5 (.pointer (some ⟨b, 0, none⟩)) w4 fun r => K r w4 := by
  have h0 := hv w (Chg.refl _ _)
  exact ret_agg hb h0.len hd h0.all_one fun w' hc' => hK w' (hx.new hc' hl) (hv w' hc')
theorem Acc.app {w0 w : World} {p B : Nat} {k : Int} {xs ys : List JV} {ks : List Str} {ov kv t : Value} {T : TypeId} {cs : List Value} {K : World → Prop} (h : Acc w0 w p B k xs ks ov kv) (ht : SlAt w T t ys.length cs) (hc : VReps w0 ys cs) (hl : xs.length ≤ 1000000) (hm : ys.length ≤ 1000000) (hB : B ≤ w.heap.size)
    (hK : ∀ ov' w', Acc w0 w' p B k (xs ++ ys) ks ov' kv → Chg (fun q => q = p ∨ B ≤ q) w w' → K w') :
    semE Tryz.prog (Builtin.append_ #[22, 22] 22 #[ov, t]) w fun u w11 => fldW 3 (.pointer (some ⟨p, 0, none⟩)) fun q => stW 1 q u w11 K := by
  obtain ⟨L, h1, h2⟩ := h.it
  have hp := h.size
  have hlo := h.lo
  have hlt := h.lt
  refine append_own3 elem_v h1 ht hc.len hc.one (by omega) (by omega) hB fun ov' w1 ho hcg hb => ?_
  have hge : ∀ q, ov.ownBlock = some q → B ≤ q ∧ q < w.heap.size := fun q hq => ⟨(own_in h1 hq).1, (own_in h1 hq).2.1⟩
  have hp1 := hcg.at h.hp fun e => by have := (hge p e).1; omega
  rw [fld_ptr, add_mk]
  refine st_at hp1 (own_one ho) (by simp) fun w2 hz2 ha2 hc2 => ?_
  have ha2 : w2.heap[p]? = some (.cells [i64 k, .bool false, str [], ov', kv].toArray VT (0, 0)) := by rw [ha2]; simp
  have hx1 : Ext w0 w1 := h.hx.then hcg fun q hq e => by have := (hge q e).1; omega
  have hx2 := hx1.new hc2 hlo
  have hk1 := own_chg h.ke hcg fun q hq e => by
    obtain ⟨_, _, c1, e1⟩ := own_in h.ke hq
    obtain ⟨_, _, c2, e2⟩ := own_in h1 e
    rw [e1] at e2
    simp only [Option.some.injEq, Obj.cells.injEq] at e2
    exact absurd e2.2.1 (by decide)
  refine hK ov' w2 ⟨ha2, ⟨L ++ cs, ?_, h2.app hc⟩, own_chg hk1 hc2 fun q hq e => by have := (own_in hk1 hq).1; omega, hlt, hx2, hlo⟩ ((hcg.mono fun q _ e => .inr (hge q e).1).trans (hc2.mono fun q _ e => .inl e))
  rw [List.length_append]
  exact own_chg ho hc2 fun q hq e => by have := (own_in ho hq).1; omega
theorem Acc.key {w0 w : World} {p B : Nat} {k : Int} {xs : List JV} {ks : List Str} {s : Str} {ov kv : Value} {K : World → Prop} (h : Acc w0 w p B k xs ks ov kv) {t : Value} (ht : SlAt w ST t 1 [str s]) (hl : ks.length ≤ 1000000) (hB : B ≤ w.heap.size)
    (hK : ∀ kv' w', Acc w0 w' p B k xs (ks ++ [s]) ov kv' → Chg (fun q => q = p ∨ B ≤ q) w w' → K w') :
    semE Tryz.prog (Builtin.append_ #[26, 26] 26 #[kv, t]) w fun u w11 => fldW 4 (.pointer (some ⟨p, 0, none⟩)) fun q => stW 1 q u w11 K := by
  obtain ⟨L, h1, h2⟩ := h.it
  have hp := h.size
  have hlo := h.lo
  have hlt := h.lt
  refine append_own3 elem_s h.ke ht (m := 1) rfl (strs_one [s]) (by omega) (by omega) hB fun kv' w1 ho hcg hb => ?_
  have hge : ∀ q, kv.ownBlock = some q → B ≤ q ∧ q < w.heap.size := fun q hq => ⟨(own_in h.ke hq).1, (own_in h.ke hq).2.1⟩
  have hp1 := hcg.at h.hp fun e => by have := (hge p e).1; omega
  rw [fld_ptr, add_mk]
  refine st_at hp1 (own_one ho) (by simp) fun w2 hz2 ha2 hc2 => ?_
  have ha2 : w2.heap[p]? = some (.cells [i64 k, .bool false, str [], ov, kv'].toArray VT (0, 0)) := by rw [ha2]; simp
  have hx1 : Ext w0 w1 := h.hx.then hcg fun q hq e => by have := (hge q e).1; omega
  have hx2 := hx1.new hc2 hlo
  have hi1 := own_chg h1 hcg fun q hq e => by
    obtain ⟨_, _, c1, e1⟩ := own_in h1 hq
    obtain ⟨_, _, c2, e2⟩ := own_in h.ke e
    rw [e1] at e2
    simp only [Option.some.injEq, Obj.cells.injEq] at e2
    exact absurd e2.2.1 (by decide)
  refine hK kv' w2 ⟨ha2, ⟨L, own_chg hi1 hc2 fun q hq e => by have := (own_in hi1 hq).1; omega, h2⟩, ?_, hlt, hx2, hlo⟩ ((hcg.mono fun q _ e => .inr (hge q e).1).trans (hc2.mono fun q _ e => .inl e))
  have ho2 := own_chg ho hc2 fun q hq e => by have := (own_in ho hq).1; omega
  rw [List.length_append, List.map_append]
  exact ho2
theorem appS {w : World} {B : Nat} {v : Value} {l m : Str} {K : Value → World → Prop} (h : Own w B U8 1 v l.length (u8s l)) (hl : l.length + m.length ≤ 100000000000) (hB : B ≤ w.heap.size) (hK : ∀ v' w', Own w' B U8 1 v' (l ++ m).length (u8s (l ++ m)) → Chg (fun q => B ≤ q) w w' → K v' w') :
    semE Tryz.prog (Builtin.append_ #[66, 9] 66 #[v, str m]) w K := by
  obtain ⟨i, z, hi, hzr, h2, h3, h4⟩ := elem_u8.get
  have hz0 : i.zero = some (.int .u8 0) := by
    have : (Tryz.prog.info? U8).map (·.zero) = some (some (.int .u8 0)) := by kernel_rfl
    rw [hi] at this; simpa using this
  obtain ⟨v', w3, hr, hO', hg, _⟩ := Lib.run_append_own_string (P := Tryz.prog) w B 66 9 66 U8 i elem_u8.und (by kernel_rfl) hi hz0 h2 h3 v l.length (u8s l) h (ofL m) (by rw [ofL_size]; unfold maxLen; omega) (by rw [ofL_size]; omega) (by omega)
  unfold semE
  rw [hr]
  dsimp only
  have hO2 : Own w3 B U8 1 v' (l ++ m).length (u8s (l ++ m)) := by
    rw [u8s_app, List.length_append]
    have e1 : Lib.strCells (ofL m) = u8s m := by unfold Lib.strCells u8s; rw [ofL_data]
    rw [ofL_size, e1] at hO'
    exact hO'
  have hc : Chg (fun k => v.ownBlock = some k) w w3 := Chg.of_grown hg fun k e => e
  exact hK v' w3 hO2 (hc.mono fun k _ e => (h.block k e).1)
theorem row_bC {c : UInt8} {w : World} {K : Value → World → Prop} (hK : ∀ t w', SlAt w' U8 t 1 (u8s [c]) → Ext w w' → K t w') : bslW U8 1 [(.int .u8 0)] [(0, 1, .int .u8 (c.toNat : Nat))] w K := by
  rw [bslW]
  simp only [put_int, put_nil, List.length_cons, List.length_nil, List.set_cons_zero]
  refine ⟨by omega, ?_⟩
  refine hK _ _ ⟨_, _, rfl, Nat.le_refl _, fun e => (by cases e), fun _ => ⟨_, _, _, _, rfl, heap_anew _ _ _ rfl, fun i _ => by rw [Nat.zero_add]; simp [u8s]⟩⟩ (Chg.alloc (Chg.refl _ _) _)
theorem appB {c : UInt8} {w : World} {B : Nat} {v : Value} {l : Str} {K : Value → World → Prop} (h : Own w B U8 1 v l.length (u8s l)) (hl : l.length ≤ 1000000) (hB : B ≤ w.heap.size) (hK : ∀ v' w', Own w' B U8 1 v' (l ++ [c]).length (u8s (l ++ [c])) → Chg (fun q => B ≤ q) w w' → K v' w') :
    bslW U8 1 [(.int .u8 0)] [(0, 1, .int .u8 (c.toNat : Nat))] w fun t w1 => semE Tryz.prog (Builtin.append_ #[66, 66] 66 #[v, t]) w1 K := by
  refine row_bC fun t w1 ht hx1 => ?_
  refine append_own3 elem_u8 (own_chg h hx1 fun _ _ e => e) ht (m := 1) rfl (fun u hu => by simp only [u8s, List.map_cons, List.map_nil, List.mem_singleton] at hu; subst hu; rfl) (by omega) (by omega) (by have := hx1.size; omega) fun v' w2 hO hc _ => ?_
  refine hK v' w2 (by rw [u8s_app, List.length_append]; exact hO) ((Chg.of_ext hx1).trans (hc.mono fun q _ e => (own_in h e).1))
end
end Go.Proofs.YtdkikjcpgihjlaaGreatDoor
namespace Go.Proofs.YtdkikjcpgihjlaaGreatDoor
open Go Go.Eng Go.RowKit
set_option maxRecDepth 100000
theorem dec_take_le (s : Str) (i : Nat) : Num.dec (s.take i) ≤ Num.dec s := by
  have h := Num.dec_app (s.take i) (s.drop i)
  rw [List.take_append_drop] at h
  rw [h]
  have : 1 ≤ 10 ^ (s.drop i).length := Nat.pow_pos (by omega)
  have := Nat.mul_le_mul_left (Num.dec (s.take i)) this
  omega
theorem good_neg {s : Str} (hg : Num.goodN s = true) (hn : Num.neg s = false) : Num.dig s = s ∧ s.all Num.isDig = true ∧ s ≠ [] ∧ s.length ≤ 100 ∧ Num.num s = (Num.dec s : Int) := by
  obtain ⟨h1, h2, h3, h4⟩ := Num.goodN_out hg
  have e : Num.dig s = s := by
    cases s with
    | nil => rfl
    | cons c r =>
      unfold Num.neg at hn
      have : c ≠ 45 := by rintro rfl; simp at hn
      simp [Num.dig, this]
  rw [e] at h1 h2 h4
  refine ⟨e, h4, (fun h => by rw [h] at h1; simp at h1), h2, ?_⟩
  unfold Num.num
  rw [hn, e]; rfl
theorem good_len9 {s : Str} (hg : Num.goodN s = true) : s.length ≤ 101 := by
  obtain ⟨h1, h2, _, _⟩ := Num.goodN_out hg
  cases s with
  | nil => simp
  | cons c r =>
    simp only [Num.dig] at h2
    split at h2
    · rw [List.length_cons]; omega
    · omega
section
variable [HX]
theorem intC_ref {s : Str} {w : World} {K : Value → World → Prop} (hg : Num.goodN s = true) (hn : Num.neg s = false) (h1 : Num.dec s ≤ 9223372036854775807 → ∀ w', Ext w w' → K (.tuple #[i64 (Num.dec s : Nat), .bool true]) w') (h2 : 9223372036854775807 < Num.dec s → ∀ w', Ext w w' → K (.tuple #[i64 0, .bool false]) w') :
    callF Tryz.prog 145 [str s] w K := by
  obtain ⟨e1, e2, e3, e4, e5⟩ := good_neg hg hn
  have nhi : Num.num [57, 50, 50, 51, 51, 55, 50, 48, 51, 54, 56, 53, 52, 55, 55, 53, 56, 48, 55] = 9223372036854775807 := by decide
  have nlo : Num.num [45, 57, 50, 50, 51, 51, 55, 50, 48, 51, 54, 56, 53, 52, 55, 55, 53, 56, 48, 56] = -9223372036854775808 := by decide
  have ghi : GN [57, 50, 50, 51, 51, 55, 50, 48, 51, 54, 56, 53, 52, 55, 55, 53, 56, 48, 55] := GN.of_good (by decide)
  have glo : GN [45, 57, 50, 50, 51, 51, 55, 50, 48, 51, 54, 56, 53, 52, 55, 55, 53, 56, 48, 56] := GN.of_good (by decide)
  refine W145_ok ?_
  unfold W145
  refine good01_ref (by omega) fun w1 hx1 => ?_
  rw [hg, un_not, Bool.not_true]
  simp only [isB_f, Bool.not_false]
  refine GdW.t ?_
  refine cmpC_ref (GN.of_good hg) ghi (by omega) (by decide) fun w3 hx3 => ?_
  rw [bin_gtr, e5, nhi]
  intro g
  simp only [List.getD_cons_zero, pick_f]
  have hx13 := hx1.trans hx3
  by_cases hd : Num.dec s ≤ 9223372036854775807
  · have c1 : decide ((0 : Int) < cmpZ (Num.dec s : Int) 9223372036854775807) = false := by
      refine decide_eq_false ?_
      unfold cmpZ
      split
      · omega
      · rw [if_pos (by omega)]; omega
    rw [c1]
    simp only [isB_f, Bool.not_false]
    refine GdW.t ?_
    refine cmpC_ref (GN.of_good hg) glo (by omega) (by decide) fun w6 hx6 => ?_
    rw [bin_lss, e5, nlo]
    intro g
    simp only [List.getD_cons_zero, pick_f]
    have c2 : decide (cmpZ (Num.dec s : Int) (-9223372036854775808) < (0 : Int)) = false := by
      refine decide_eq_false ?_
      unfold cmpZ
      rw [if_neg (by omega), if_neg (by omega)]; omega
    rw [c2, condW_false]
    have hx16 := hx13.trans hx6
    refine LoopW.go (fun st w' => ∃ i : Nat, st = [i64 (Num.dec (s.take i) : Nat), i64 (i : Nat)] ∧ i ≤ s.length ∧ w' = w6)
      (fun st _ => match st with | [_, .int _ i] => s.length - i.toNat | _ => 0) ⟨0, by simp [Num.dec], by omega, rfl⟩ ?_
    rintro st g w9 ⟨i, rfl, hi, rfl⟩
    simp only [List.getD_cons_zero, List.getD_cons_succ, lens_str]
    rw [bin_lss, condW_dec]
    refine ⟨fun hlt => ?_, fun hge => ?_⟩
    · have hlt : i < s.length := by omega
      obtain ⟨c, hcc⟩ : ∃ c, s[i]? = some c := ⟨_, List.getElem?_eq_getElem hlt⟩
      have etk : s.take (i + 1) = s.take i ++ [c] := by rw [List.take_add_one, hcc]; rfl
      obtain ⟨c1, c2, c3⟩ := dig_dg (List.all_eq_true.1 e2 c (List.mem_of_getElem? hcc))
      refine JoinW.cut (fun st w' => st = [i64 (Num.dec (s.take (i + 1)) : Nat)] ∧ w' = w9) ?_ ?_
      · refine ix_b hcc ?_
        rw [bin_eql, decide_eq_false (by omega), condW_false]
        refine ix_b hcc ?_
        obtain ⟨k, hk, ek, fk⟩ := u8_any (((c.toNat : Nat) : Int) - 48)
        have hk2 := fk (by omega) (by omega)
        rw [bin_sub, ek, cvt_int, wrap_id (by omega) (by omega)]
        refine JoinW.cut (fun st w' => st = [i64 (k : Int)] ∧ w' = w9) ?_ ?_
        · refine belowN_ref e3 ?_
          rw [hn, condW_false]
          exact ⟨rfl, rfl⟩
        rintro st g w13 ⟨rfl, rfl⟩
        simp only [List.getD_cons_zero]
        have hle := dec_take_le s (i + 1)
        have hv : Num.dec (s.take (i + 1)) = Num.dec (s.take i) * 10 + Num.dval c := by
          rw [etk, Num.dec_app]
          have h7 : Num.dec [c] = Num.dval c := by simp [Num.dec]
          rw [h7]
          simp
        rw [bin_mul, bin_add, wrap_id (n := 10 * _) (by omega) (by omega), wrap_id (by omega) (by omega)]
        refine ⟨?_, trivial⟩
        congr 2
        omega
      rintro st g w14 ⟨rfl, rfl⟩
      simp only [List.getD_cons_zero]
      rw [bin_add, up1 (by omega)]
      refine ⟨⟨i + 1, rfl, by omega, trivial⟩, ?_⟩
      show s.length - ((i + 1 : Nat) : Int).toNat < s.length - ((i : Nat) : Int).toNat
      simp only [Int.toNat_natCast]
      omega
    · obtain rfl : i = s.length := by omega
      rw [List.take_length]
      exact h1 hd _ hx16
  · have c1 : decide ((0 : Int) < cmpZ (Num.dec s : Int) 9223372036854775807) = true := by
      refine decide_eq_true ?_
      unfold cmpZ
      rw [if_neg (by omega), if_neg (by omega)]; omega
    rw [c1]
    simp only [isB_f, Bool.not_true]
    refine GdW.f fun g => ?_
    simp only [List.getD_cons_zero, pick_t]
    rw [condW_true]
    exact h2 (by omega) _ hx13
theorem countC_ref {v : JV} {cs : List Value} {most : Nat} {w : World} {K : Value → World → Prop} (h : VRep w v cs) (hg : Num.goodN v.t = true) (hm : most ≤ 1000000)
    (hK : ∀ w', Ext w w' → K (.tuple #[i64 ((if Num.neg v.t = true then 0 else min (Num.dec v.t) most : Nat) : Nat), .bool (!Num.neg v.t)]) w') : callF Tryz.prog 114 [.agg cs.toArray, i64 (most : Nat)] w K := by
  refine W114_ok ?_
  unfold W114
  refine box_val h fun a w1 sv kv hB hx1 _ => ?_
  rw [fld_ptr, add_mk]
  refine ld_fld (o := 0) (cs := [i64 v.k, .bool v.b, str v.t, sv, kv]) hB.hb (fun j _ => by simp) (by omega) (u := str v.t) rfl ?_
  have hne : v.t ≠ [] := fun e => by rw [e] at hg; exact absurd hg (by decide)
  have hfst : ∃ c r, v.t = c :: r := by cases hh : v.t with | nil => exact absurd hh hne | cons c r => exact ⟨c, r, rfl⟩
  obtain ⟨c, r, hcr⟩ := hfst
  refine ix_b (i := 0) (c := c) (by rw [hcr]; rfl) ?_
  have e45 : decide (((c.toNat : Nat) : Int) = 45) = Num.neg v.t := by
    unfold Num.neg
    have := u8_same c 45
    rw [show ((45 : UInt8).toNat : Int) = 45 from rfl] at this
    rw [this, hcr, List.head?_cons]
    by_cases h : c = 45
    · subst h; rfl
    · simp [h]
  rw [bin_eql, e45, condW_b]
  refine ⟨fun hn => ?_, fun hn => ?_⟩
  · have := hK w1 hx1
    rw [if_pos hn, hn] at this
    exact this
  · rw [if_neg (by rw [hn]; simp), hn] at hK
    rw [fld_ptr, add_mk]
    refine ld_fld (o := 0) (cs := [i64 v.k, .bool v.b, str v.t, sv, kv]) hB.hb (fun j _ => by simp) (by omega) (u := str v.t) rfl ?_
    refine intC_ref hg hn (fun hd w2 hx2 => ?_) fun hd w2 hx2 => ?_
    · simp only [ext_tuple]
      refine ⟨_, rfl, _, rfl, ?_⟩
      rw [un_not, Bool.not_true]
      simp only [isB_f, Bool.not_false]
      refine GdW.t ?_
      rw [bin_gtr]
      intro g
      simp only [List.getD_cons_zero, pick_f]
      rw [condW_dec]
      have := hK w2 (hx1.trans hx2)
      refine ⟨fun hlt => ?_, fun hge => ?_⟩
      · rw [show min (Num.dec v.t) most = most by omega] at this
        exact this
      · rw [show min (Num.dec v.t) most = Num.dec v.t by omega] at this
        exact this
    · simp only [ext_tuple]
      refine ⟨_, rfl, _, rfl, ?_⟩
      rw [un_not, Bool.not_false]
      simp only [isB_f, Bool.not_true]
      refine GdW.f fun g => ?_
      simp only [List.getD_cons_zero, pick_t]
      rw [condW_true]
      have := hK w2 (hx1.trans hx2)
      rw [show min (Num.dec v.t) most = most by omega] at this
      exact this
end
end Go.Proofs.YtdkikjcpgihjlaaGreatDoor
namespace Go.Proofs.YtdkikjcpgihjlaaGreatDoor
open Go Go.Eng Go.RowKit
set_option maxRecDepth 100000
theorem join_snoc (by_ : Str) (l : List Str) (x : Str) (hl : l ≠ []) : Lib.join (l ++ [x]) by_ = Lib.join l by_ ++ by_ ++ x := by
  cases l with
  | nil => exact absurd rfl hl
  | cons y r =>
    rw [List.cons_append, Lib.join_cons, Lib.join_cons]
    unfold Lib.joinTail
    simp
theorem split_missC {s sep : Str} (h : Lib.index s sep = -1) : Lib.split s sep = [s] := by
  unfold Lib.split
  rw [Lib.count_miss h]; rfl
theorem split_hitC {s sep : Str} {i : Nat} (hs : sep ≠ []) (h : Lib.index s sep = i) : Lib.split s sep = s.take i :: Lib.split (s.drop (i + sep.length)) sep := by
  unfold Lib.split
  rw [Lib.count_hit hs h, Nat.add_comm]
  simp only [Lib.splitK]
  have : ¬ (Lib.index s sep == -1) = true := fun e => by have := beq_iff_eq.1 e; omega
  rw [if_neg this, h, Int.toNat_natCast, Nat.add_zero]
section
variable [HX]
theorem lettersC_ref {lo tb : Nat} {l : Str} {w : World} {K : Value → World → Prop} (h1 : lo + 26 ≤ 255) (h2 : tb + 26 ≤ 255) (hl : l.length ≤ 1000000) (hK : ∀ w', Ext w w' → K (str (casedM lo tb l)) w') :
    callF Tryz.prog 75 [str l, .int .u8 lo, .int .u8 tb] w K := by
  refine W75_ok ?_
  unfold W75
  refine LoopW.go (fun st w' => ∃ (i : Nat) (v : Value), i ≤ l.length ∧ st = [v, i64 (i : Nat)] ∧ Ext w w' ∧ Own w' w.heap.size U8 1 v (casedM lo tb (l.take i)).length (u8s (casedM lo tb (l.take i))))
    (fun st _ => match st with | [_, .int _ i] => l.length - i.toNat | _ => 0) ⟨0, _, by omega, rfl, Chg.refl _ _, ⟨by simp [casedM, u8s], .inl ⟨rfl, rfl⟩⟩⟩ ?_
  rintro st g w2 ⟨i, v, hi, rfl, hx2, hO⟩
  simp only [List.getD_cons_zero, List.getD_cons_succ, lens_str]
  rw [bin_lss, condW_dec]
  have s2 := hx2.size
  refine ⟨fun hlt => ?_, fun hge => ?_⟩
  · have hlt : i < l.length := by omega
    obtain ⟨u, hu⟩ : ∃ u, l[i]? = some u := ⟨_, List.getElem?_eq_getElem hlt⟩
    have etk : casedM lo tb (l.take (i + 1)) = casedM lo tb (l.take i) ++ [caseB lo tb u] := by unfold casedM; rw [List.take_add_one, hu, List.map_append]; rfl
    refine ix_b hu ?_
    have hu256 := UInt8.toNat_lt u
    refine JoinW.cut (fun st w' => st = [.int .u8 ((caseB lo tb u).toNat : Nat)] ∧ w' = w2) ?_ ?_
    · have e1 : IntKind.u8.wrap ((lo : Int) + 25) = ((lo + 25 : Nat) : Int) := by
        have := u8w (lo + 25)
        rw [Nat.mod_eq_of_lt (by omega)] at this
        rw [← this]; rfl
      simp only [bin_geq, bin_add, e1, bin_leq, isB_t, GdW_pure, List.getD_cons_zero, pick_gd_and]
      intro _
      rw [condW_b]
      refine ⟨fun ht => ?_, fun hf => ?_⟩
      · simp only [Bool.and_eq_true, decide_eq_true_eq] at ht
        have g1 : lo ≤ u.toNat := by omega
        have g2 : u.toNat < lo + 26 := by omega
        have ey : caseB lo tb u = UInt8.ofNat (u.toNat - lo + tb) := by unfold caseB; rw [if_pos ⟨g1, g2⟩]
        have en : (UInt8.ofNat (u.toNat - lo + tb)).toNat = u.toNat - lo + tb := by rw [UInt8.toNat_ofNat']; omega
        have e2 : IntKind.u8.wrap ((u.toNat : Int) - (lo : Int)) = ((u.toNat - lo : Nat) : Int) := by
          have := u8w (u.toNat - lo)
          rw [Nat.mod_eq_of_lt (by omega)] at this
          rw [← this]; congr 1; omega
        have e3 : IntKind.u8.wrap (((u.toNat - lo : Nat) : Int) + (tb : Int)) = ((u.toNat - lo + tb : Nat) : Int) := by
          have := u8w (u.toNat - lo + tb)
          rw [Nat.mod_eq_of_lt (by omega)] at this
          rw [← this]; rfl
        simp only [bin_sub, e2, bin_add, e3]
        rw [ey, en]
        exact ⟨rfl, trivial⟩
      · have ey : caseB lo tb u = u := by
          unfold caseB
          rw [if_neg]
          rintro ⟨g1, g2⟩
          rw [Bool.and_eq_false_iff] at hf
          rcases hf with h | h
          · have := of_decide_eq_false h; omega
          · have := of_decide_eq_false h; omega
        rw [ey]
        exact ⟨rfl, trivial⟩
    rintro st g w6 ⟨rfl, rfl⟩
    simp only [List.getD_cons_zero]
    refine appB hO (by simp [casedM]; omega) s2 fun v' w8 hO8 hc8 => ?_
    rw [bin_add, up1 (by omega)]
    refine ⟨⟨i + 1, v', hlt, rfl, hx2.then hc8 fun q hq e => by omega, by rw [etk]; exact hO8⟩, ?_⟩
    show l.length - ((i + 1 : Nat) : Int).toNat < l.length - ((i : Nat) : Int).toNat
    simp only [Int.toNat_natCast]
    omega
  · obtain rfl : i = l.length := by omega
    rw [List.take_length] at hO
    rw [conv_bytes (T := U8) (l := casedM lo tb l) (e := U8) (by kernel_rfl) (by kernel_rfl) (by kernel_rfl) (show Byt w2 U8 v (casedM lo tb l) from hO.sl)]
    exact hK w2 hx2
theorem joinedC_ref {v : Value} {T : TypeId} {l : List Str} {by_ : Str} {w : World} {K : Value → World → Prop} (h : SlAt w T v l.length (l.map str)) (hl : l.length ≤ 1000000) (hj : ∀ i, (Lib.join (l.take i) by_).length ≤ 49000000000) (hb : by_.length ≤ 1000000) (he : ∀ x ∈ l, x.length ≤ 1000000)
    (hK : ∀ w', Ext w w' → K (str (Lib.join l by_)) w') : callF Tryz.prog 115 [v, str by_] w K := by
  refine W115_ok ?_
  unfold W115
  rw [lenl_at h]
  refine LoopW.go (fun st w' => ∃ (i : Nat) (u : Value), i ≤ l.length ∧ st = [u, i64 (i : Nat)] ∧ Ext w w' ∧ Own w' w.heap.size U8 1 u (Lib.join (l.take i) by_).length (u8s (Lib.join (l.take i) by_)))
    (fun st _ => match st with | [_, .int _ i] => l.length - i.toNat | _ => 0) ⟨0, _, by omega, rfl, Chg.refl _ _, ⟨by simp [Lib.join_nil, u8s], .inl ⟨rfl, rfl⟩⟩⟩ ?_
  rintro st g w2 ⟨i, u, hi, rfl, hx2, hO⟩
  simp only [List.getD_cons_zero, List.getD_cons_succ]
  rw [bin_lss, condW_dec]
  have s2 := hx2.size
  refine ⟨fun hlt => ?_, fun hge => ?_⟩
  · have hlt : i < l.length := by omega
    obtain ⟨x, hxi⟩ : ∃ x, l[i]? = some x := ⟨_, List.getElem?_eq_getElem hlt⟩
    have etk : l.take (i + 1) = l.take i ++ [x] := by rw [List.take_add_one, hxi]; rfl
    have hji := hj i
    have hxl := he x (List.mem_of_getElem? hxi)
    refine JoinW.cut (fun st w' => ∃ u', st = [u'] ∧ Ext w w' ∧ ∃ m : Str, m ++ x = Lib.join (l.take (i + 1)) by_ ∧ Own w' w.heap.size U8 1 u' m.length (u8s m) ∧ m.length ≤ 50000000000) ?_ ?_
    · rw [bin_gtr, condW_dec]
      refine ⟨fun h0 => ?_, fun h0 => ?_⟩
      · refine appS hO (by omega) s2 fun v' w4 hO4 hc4 => ?_
        refine ⟨v', rfl, hx2.then hc4 fun q hq e => by omega, _, ?_, hO4, by rw [List.length_append]; omega⟩
        rw [etk, join_snoc _ _ _ fun e => by
          have := congrArg List.length e
          rw [List.length_take, List.length_nil] at this
          omega]
      · have h0 : i = 0 := by omega
        subst h0
        refine ⟨u, rfl, hx2, _, ?_, hO, by omega⟩
        rw [etk]
        simp [Lib.join_nil, Lib.join_one]
    rintro st g w5 ⟨u', rfl, hx5, m, hm, hO5, hml⟩
    simp only [List.getD_cons_zero]
    refine text_ld (h.ext hx5) hxi ?_
    refine appS hO5 (by omega) hx5.size fun v' w6 hO6 hc6 => ?_
    rw [bin_add, up1 (by omega)]
    refine ⟨⟨i + 1, v', hlt, rfl, hx5.then hc6 fun q hq e => by omega, by rw [← hm]; exact hO6⟩, ?_⟩
    show l.length - ((i + 1 : Nat) : Int).toNat < l.length - ((i : Nat) : Int).toNat
    simp only [Int.toNat_natCast]
    omega
  · obtain rfl : i = l.length := by omega
    rw [List.take_length] at hO
    rw [conv_bytes (T := U8) (l := Lib.join l by_) (e := U8) (by kernel_rfl) (by kernel_rfl) (by kernel_rfl) (show Byt w2 U8 u (Lib.join l by_) from hO.sl)]
    exact hK w2 hx2
theorem fitsC_ref {c : UInt8} {v : JV} {cs : List Value} {w : World} {K : Value → World → Prop} (h : VRep w v cs) (hK : ∀ w', Ext w w' → K (.bool (decide (kindM c < 0) || decide (v.k = kindM c))) w') : callF Tryz.prog 36 [.int .u8 (c.toNat : Nat), .agg cs.toArray] w K := by
  refine W36_ok ?_
  unfold W36
  refine box_val h fun a w1 sv kv hB hx1 _ => ?_
  refine LoopW.go (fun st w' => ∃ i : Nat, st = [i64 (i : Nat)] ∧ i ≤ 4 ∧ (∀ j d, j < i → ([110, 115, 108, 111] : Str)[j]? = some d → d ≠ c) ∧ w' = w1) (fun st _ => match st with | [.int _ i] => 4 - i.toNat | _ => 0) ⟨0, rfl, by omega, (fun j d h => by omega), rfl⟩ ?_
  rintro st g w3 ⟨i, rfl, hi, hno, rfl⟩
  simp only [List.getD_cons_zero, lens_str]
  rw [bin_lss, condW_dec]
  refine ⟨fun hlt => ?_, fun hge => ?_⟩
  · have hlt : i < 4 := by simp only [List.length_cons, List.length_nil] at hlt; omega
    obtain ⟨d, hd⟩ : ∃ d, ([110, 115, 108, 111] : Str)[i]? = some d := ⟨_, List.getElem?_eq_getElem (by simpa using hlt)⟩
    refine ix_b hd ?_
    rw [bin_eql, u8_same, condW_dec]
    refine ⟨fun e => ?_, fun e => ?_⟩
    · subst e
      rw [fld_ptr, add_mk]
      refine ld_fld (o := 0) (cs := [i64 v.k, .bool v.b, str v.t, sv, kv]) hB.hb (fun j _ => by simp) (by omega) (u := i64 v.k) rfl ?_
      have hk : kindM d = 3 + (i : Int) := by
        match i, hlt with
        | 0, _ => cases hd; rfl
        | 1, _ => cases hd; rfl
        | 2, _ => cases hd; rfl
        | 3, _ => cases hd; rfl
      rw [bin_add, wrap_id (by omega) (by omega), bin_eql]
      have := hK w3 hx1
      rw [hk, decide_eq_false (by omega), Bool.false_or] at this
      exact this
    · rw [bin_add, up1 (by omega)]
      refine ⟨⟨i + 1, rfl, by omega, fun j d' hj hd' => ?_, trivial⟩, by simp only [Int.toNat_natCast]; omega⟩
      rcases Nat.lt_succ_iff_lt_or_eq.1 hj with hj | rfl
      · exact hno j d' hj hd'
      · rw [hd] at hd'; cases hd'; exact e
  · have : i = 4 := by simp only [List.length_cons, List.length_nil] at hge; omega
    subst this
    have n0 := hno 0 110 (by omega) rfl
    have n1 := hno 1 115 (by omega) rfl
    have n2 := hno 2 108 (by omega) rfl
    have n3 := hno 3 111 (by omega) rfl
    have hk : kindM c = -1 := by
      unfold kindM
      rw [if_neg (Ne.symm n0), if_neg (Ne.symm n1), if_neg (Ne.symm n2), if_neg (Ne.symm n3)]
    have := hK w3 hx1
    rw [hk] at this
    exact this
theorem listC_ref {u : Value} {xs : List JV} {w0 w : World} {K : Value → World → Prop} (h : ItemsAt w0 u xs) (h0 : Ext w0 w) (hK : ∀ w', Ext w w' → (∀ w'', Ext w0 w'' → VRep w'' (lV xs) [i64 5, .bool false, str [], u, .slice none 0 0]) → K (.agg [i64 5, .bool false, str [], u, .slice none 0 0].toArray) w') :
    callF Tryz.prog 78 [u] w K := by
  refine W78_ok ?_
  unfold W78
  obtain ⟨T, L, h1, h2⟩ := h.it
  have hone : one1 u = true := by obtain ⟨p, c, rfl, _⟩ := h1.shape; rfl
  have hsc : u.cells = #[u] := by obtain ⟨p, c, rfl, _⟩ := h1.shape; rfl
  refine alloc_new fun b w1 hb hz1 hbb hx1 => ?_
  rw [put_int, put_one _ _ _ _ _ hsc, put_nil]
  refine ⟨by simp, by simp, ?_⟩
  have hv : ∀ w'', Ext w0 w'' → VRep w'' (lV xs) [i64 5, .bool false, str [], u, .slice none 0 0] := fun w'' hx => VRep.mk (v := lV xs) (T1 := T) (T2 := 0) (h1.ext hx) (h2.ext hx) (SlAt.nil w'' 0) ⟨h.few, by simp [JV.ks], by simp [JV.t], by simp [JV.ks]⟩
  refine retC (w0 := w) (cs := [i64 5, .bool false, str [], u, .slice none 0 0]) hbb rfl (by omega) hx1 (fun w' hc => hv w' (h0.trans (hx1.new hc (by omega)))) fun w' hx _ => hK w' hx hv
end
end Go.Proofs.YtdkikjcpgihjlaaGreatDoor
namespace Go.Proofs.YtdkikjcpgihjlaaGreatDoor
open Go Go.Eng Go.Num Go.RowKit
set_option maxRecDepth 100000
theorem occ_iff {s sep : Str} {i : Nat} : Lib.occAt s sep i = true ↔ (s.drop i).take sep.length = sep := by
  unfold Lib.occAt
  rw [List.isPrefixOf_iff_prefix, List.prefix_iff_eq_take]
  exact eq_comm
section
variable [HX]
theorem ItemsAt.fld_old {w0 w : World} {sv : Value} {xs : List JV} {n : Int} {i off : Nat} {x : JV} {K : Value → Prop} (h : ItemsAt w0 sv xs) (hx : Ext w0 w) (hn : n = (i : Nat)) (hi : xs[i]? = some x) (ho : off < 5) (hK : ∀ cs u, VRep w0 x cs → cs[off]? = some u → K u) :
    ixaW none 5 sv (.int .i64 n) fun p => fldW off p fun q => ldW false 1 q w K := by
  subst hn
  obtain ⟨T, L, h1, h2⟩ := h.it
  obtain ⟨cs, hc, hg⟩ := h2.get hi
  refine ixa_at (size := 5) (h1.ext hx) h2.len (by omega) (List.getElem?_eq_some_iff.1 hi).1 fun b o c fr hb hcc => ?_
  rw [fld_ptr, ld_one, add_mk, cell_eq, hb, cellO_some, (hcc off ho).trans (hg off ho)]
  exact ⟨cs[off]'(by rw [hc.len]; exact ho), List.getElem?_eq_getElem _, hK cs _ hc (List.getElem?_eq_getElem _)⟩
theorem ItemsAt.fx_old {w0 w : World} {sv : Value} {xs : List JV} {n : Int} {i : Nat} {x : JV} {K : Value → Prop} (h : ItemsAt w0 sv xs) (hx : Ext w0 w) (hn : n = (i : Nat)) (hi : xs[i]? = some x) (hK : ∀ u, ItemsAt w0 u x.xs → K u) : ixaW none 5 sv (.int .i64 n) fun p => fldW 3 p fun q => ldW false 1 q w K :=
  h.fld_old hx hn hi (by omega) fun cs u hc hu => by obtain ⟨sv, kv, T1, T2, L, rfl, h1, h2, _, hf⟩ := hc.out; cases hu; exact hK _ ⟨⟨T1, L, h1, h2⟩, hf.1⟩
theorem boolC_ref {c : Bool} {w : World} {K : Value → World → Prop} (hK : ∀ w', Ext w w' → K (.agg (flat 2 c []).toArray) w') : callF Tryz.prog 77 [.bool c] w K := by
  refine W77_ok ?_
  unfold W77
  refine alloc_new fun a w1 ha hz hb hx => ?_
  simp only [put_int, put_bool, put_nil, List.length_cons, List.length_nil, List.set_cons_zero, List.set_cons_succ]
  refine ⟨by omega, by omega, ?_⟩
  exact ret_agg hb rfl rfl rfl fun w2 hc2 => hK w2 (hx.new hc2 (by omega))
abbrev AnsS (r : Option JV) (w0 w : World) (K : Value → World → Prop) : Prop := ∀ cs v ok w', Ext w w' → VRep w' v cs → (∀ (S : Nat → Prop) w'', (∀ q, S q → w0.heap.size ≤ q ∧ q < w.heap.size) → Chg S w' w'' → VRep w'' v cs) → (if ok = true then r = some v else r = none) → K (.tuple #[.agg cs.toArray, .bool ok]) w'
theorem ansS {w0 w wN : World} {b : Nat} {cs ds : List Value} {v : JV} {ok : Bool} {r : Option JV} {K : Value → World → Prop} (hb : wN.heap[b]? = some (.cells ds.toArray VT (0, 0))) (hd : ds.length = 5) (hl : w.heap.size ≤ b) (h00 : Ext w0 w) (hx : Ext w wN) (hv : ∀ w', Chg (fun q => w0.heap.size ≤ q ∧ q ≤ b) wN w' → VRep w' v cs) (hr : if ok = true then r = some v else r = none)
    (hK : AnsS r w0 w K) : stW 5 (.pointer (some ⟨b, 0, none⟩)) (.agg cs.toArray) wN fun w4 => ldW true 5 (.pointer (some ⟨b, 0, none⟩)) w4 fun r5 => K (.tuple #[r5, .bool ok]) w4 := by
  have h0 := hv wN (Chg.refl _ _)
  have s0 := h00.size
  refine ret_agg (K := fun u w => K (.tuple #[u, .bool ok]) w) hb h0.len hd h0.all_one fun w' hc' => ?_
  have hc1 : Chg (fun q => w0.heap.size ≤ q ∧ q ≤ b) wN w' := hc'.mono fun q _ e => by omega
  exact hK _ _ ok w' (hx.new hc' hl) (hv w' hc1) (fun S w'' hS hc2 => hv w'' (hc1.trans (hc2.mono fun q _ e => by have := hS q e; omega))) hr
theorem splitC_ref {by_ s : Str} {w0 w : World} {K : Value → World → Prop} (h0 : Ext w0 w) (hb : by_ ≠ []) (lb : by_.length ≤ 100000) (ls : s.length ≤ 100000)
    (hK : ∀ cs w', Ext w w' → (∀ (S : Nat → Prop) w'', (∀ q, S q → w0.heap.size ≤ q ∧ q < w.heap.size) → Chg S w' w'' → VRep w'' (lV ((Lib.split s by_).map tV)) cs) → K (.agg cs.toArray) w') :
    callF Tryz.prog 76 [str by_, str s] w K := by
  refine W76_ok ?_
  unfold W76
  have hb0 : 0 < by_.length := List.length_pos_iff.2 hb
  have s0 := h0.size
  refine alloc_new fun b w1 hbn hz1 hbb hx1 => ?_
  rw [put_int, put_nil]
  refine ⟨by simp, ?_⟩
  refine alloc_new fun p w3 hp hz3 hbp hx3 => ?_
  refine st_agg_at (l := [i64 5, .bool false, str [], .slice none 0 0, .slice none 0 0]) hbp rfl rfl rfl fun w4 hz4 hbp4 hc4 => ?_
  have hx14 : Ext w1 w4 := hx3.new hc4 (by omega)
  have hx04 := hx1.trans hx14
  have hbb4 := hx14.at hbb id
  have A0 : Acc w0 w4 p w4.heap.size 5 [] [] (.slice none 0 0) (.slice none 0 0) := Acc.start hbp4 (h0.trans hx04) (by omega)
  have sp := A0.size
  refine LoopW.go (fun st w' => ∃ (fr at_ : Nat) (done : List Str) (ov kv : Value), st = [i64 (fr : Nat), i64 (at_ : Nat)] ∧ fr ≤ at_ ∧ at_ ≤ s.length ∧ done.length ≤ fr ∧ Acc w0 w' p w4.heap.size 5 (done.map tV) [] ov kv ∧ Chg (fun q => q = p) w4 w' ∧
      done ++ Lib.split (s.drop fr) by_ = Lib.split s by_ ∧ (∀ x ∈ done, x.length ≤ s.length) ∧ ∀ j, j < at_ - fr → Lib.occAt (s.drop fr) by_ j = false)
    (fun st _ => match st with | [_, .int _ i] => s.length + 1 - i.toNat | _ => 0) ⟨0, 0, [], _, _, rfl, Nat.le_refl _, Nat.zero_le _, Nat.le_refl _, A0, Chg.refl _ _, by simp, by simp, fun j hj => by omega⟩ ?_
  rintro st g w6 ⟨fr, at_, done, ov, kv, rfl, hfa, has, hdf, hA, h46, hsp, hdl, hno⟩
  simp only [List.getD_cons_zero, List.getD_cons_succ, lens_str]
  rw [bin_add, wrap_id (by omega) (by omega), bin_leq, condW_dec]
  have hxd : Ext w6 w6.drew := Chg.drew (Chg.refl (fun _ => False) w6)
  have hAd := hA.ext hxd
  have hml : (done.map tV).length ≤ 1000000 := by rw [List.length_map]; omega
  have s46 := h46.size
  refine ⟨fun hle => ?_, fun hgt => ?_⟩
  · rw [bin_add, wrap_id (by omega) (by omega), show ((at_ : Nat) : Int) + ((by_.length : Nat) : Int) = ((at_ + by_.length : Nat) : Int) by omega, sls_str, bd_some]
    refine ⟨by omega, by omega, ?_⟩
    rw [bd_some]
    refine ⟨by omega, by omega, ?_⟩
    simp only [Int.toNat_natCast]
    have et : (s.take (at_ + by_.length)).drop at_ = ((s.drop fr).drop (at_ - fr)).take by_.length := by
      rw [List.drop_drop, List.drop_take, show fr + (at_ - fr) = at_ by omega, show at_ + by_.length - at_ = by_.length by omega]
    rw [et, bin_sne, condW_dec]
    refine ⟨fun hne => ?_, fun heq => ?_⟩
    · rw [bin_add, up1 (by omega)]
      refine ⟨⟨fr, at_ + 1, done, ov, kv, rfl, by omega, by omega, hdf, hA, h46, hsp, hdl, fun j hj => ?_⟩, by simp only [Int.toNat_natCast]; omega⟩
      by_cases e : j < at_ - fr
      · exact hno j e
      · obtain rfl : j = at_ - fr := by omega
        cases ho : Lib.occAt (s.drop fr) by_ (at_ - fr) with
        | false => rfl
        | true => exact absurd (occ_iff.1 ho) hne
    · have heq : ((s.drop fr).drop (at_ - fr)).take by_.length = by_ := Classical.byContradiction fun h => heq h
      have hix : Lib.index (s.drop fr) by_ = ((at_ - fr : Nat) : Int) := Lib.index_first (by rw [List.length_drop]; omega) (occ_iff.2 heq) hno
      have hsh := split_hitC hb hix
      rw [fld_ptr, add_mk]
      refine hAd.l3 ?_
      rw [sls_str, bd_some]
      refine ⟨by omega, by omega, ?_⟩
      rw [bd_some]
      refine ⟨by omega, by omega, ?_⟩
      simp only [Int.toNat_natCast]
      have ex : (s.take at_).drop fr = (s.drop fr).take (at_ - fr) := List.drop_take
      rw [ex]
      have hXl : ((s.drop fr).take (at_ - fr)).length ≤ s.length := by rw [List.length_take, List.length_drop]; omega
      generalize (s.drop fr).take (at_ - fr) = X at *
      refine text_ref2 fun w7 hx7 => ?_
      have hA7 := hAd.ext hx7
      refine ⟨hA7.l3 rfl, ?_⟩
      refine row_v (cs := flat 4 false X) rfl fun t w8 ht hx8 => ?_
      have hA8 := hA7.ext hx8
      refine ⟨hA8.l3 rfl, ?_⟩
      have hx68 := hxd.trans (hx7.trans hx8)
      have s68 := hx68.size
      refine hA8.app (ys := [tV X]) ht (VReps.one' (flat_rep (G := fun _ => True) (by omega)).rep) hml (by simp) (by omega) fun ov' w10 hA' hc10 => ?_
      rw [bin_add, wrap_id (by omega) (by omega), show ((at_ : Nat) : Int) + ((by_.length : Nat) : Int) = ((at_ + by_.length : Nat) : Int) by omega]
      refine ⟨⟨at_ + by_.length, at_ + by_.length, done ++ [X], ov', kv, rfl, Nat.le_refl _, by omega, by rw [List.length_append]; simp only [List.length_singleton]; omega, by rw [List.map_append]; exact hA', ?_, ?_, ?_, fun j hj => by omega⟩, by simp only [Int.toNat_natCast]; omega⟩
      · exact (h46.trans (Chg.of_ext hx68)).then hc10 fun q hq e => by
          rcases e with e | e
          · exact e
          · omega
      · rw [← hsp, hsh, List.drop_drop, show fr + (at_ - fr + by_.length) = at_ + by_.length by omega, List.append_assoc]; rfl
      · intro x hx
        rcases List.mem_append.1 hx with hx | hx
        · exact hdl x hx
        · rw [List.mem_singleton.1 hx]; exact hXl
  · have hix : Lib.index (s.drop fr) by_ = -1 := Lib.index_none fun j hj => by
      by_cases e : j < at_ - fr
      · exact hno j e
      · cases ho : Lib.occAt (s.drop fr) by_ j with
        | false => rfl
        | true =>
          have := congrArg List.length (occ_iff.1 ho)
          rw [List.length_take, List.length_drop, List.length_drop] at this
          omega
    rw [split_missC hix] at hsp
    rw [fld_ptr, add_mk]
    refine hAd.l3 ?_
    rw [sls_str, bd_none, bd_some]
    refine ⟨by omega, by omega, ?_⟩
    rw [List.take_length, Int.toNat_natCast]
    have hXl : (s.drop fr).length ≤ s.length := by rw [List.length_drop]; omega
    generalize s.drop fr = X at *
    refine text_ref2 fun w7 hx7 => ?_
    have hA7 := hAd.ext hx7
    refine ⟨hA7.l3 rfl, ?_⟩
    refine row_v (cs := flat 4 false X) rfl fun t w8 ht hx8 => ?_
    have hA8 := hA7.ext hx8
    refine ⟨hA8.l3 rfl, ?_⟩
    have hx68 := hxd.trans (hx7.trans hx8)
    have s68 := hx68.size
    refine hA8.app (ys := [tV X]) ht (VReps.one' (flat_rep (G := fun _ => True) (by omega)).rep) hml (by simp) (by omega) fun ov' w10 hA' hc10 => ?_
    refine hA'.all ?_
    have hc410 : Chg (fun q => q = p) w4 w10 := (h46.trans (Chg.of_ext hx68)).then hc10 fun q hq e => by
      rcases e with e | e
      · exact e
      · omega
    have hbb10 := hc410.at hbb4 (by omega)
    have hcnt : done.map tV ++ [tV X] = (Lib.split s by_).map tV := by rw [← hsp, List.map_append]; rfl
    rw [hcnt] at hA'
    have hn : ((Lib.split s by_).map tV).length ≤ 200000 := by rw [← hcnt, List.length_append, List.length_map]; simp only [List.length_singleton]; omega
    have hlb := at_lt hbb
    have h1b : b < w4.heap.size := by have := hx14.size; omega
    refine ret_agg hbb10 rfl rfl hA'.one fun w15 hc15 => ?_
    have hA15 := hA'.at_b hc15 (by omega) h1b (by omega)
    exact hK _ w15 ((hx04.new hc410 (by omega)).new hc15 (by omega)) fun S w'' hS hc => (hA15.at_S hc fun q hq => by have := hS q hq; omega).rep (by omega) (by simp) (by simp)
theorem ans_upper {sv : Value} {w0 w : World} {K : Value → World → Prop} {x : JV} (hIt : ItemsAt w0 sv [x]) (h00 : Ext w0 w) (hl : x.t.length ≤ 100000) (hK : AnsS (some (tV (casedM 97 65 x.t))) w0 w K) : callF Tryz.prog 37 [str [117, 112, 112, 101, 114], sv] w K := by
  have h := hIt.ext h00
  have s00 := h00.size
  refine W37_ok ?_
  unfold W37
  refine alloc_new fun b w1 hb hz1 hbb hx1 => ?_
  have h1 := h.ext hx1
  have hlb := at_lt hbb
  rw [bin_seq, decide_eq_true (by decide), condW_true]
  refine h1.ft (i := 0) rfl rfl fun _ => ?_
  refine lettersC_ref (lo := 97) (tb := 65) (by omega) (by omega) (by omega) fun w2 hx2 => ?_
  refine text_ref2 fun w3 hx3 => ?_
  exact ansS (v := tV (casedM 97 65 x.t)) (ok := true) ((hx2.trans hx3).at hbb id) rfl (by omega) h00 (hx1.trans (hx2.trans hx3)) (fun w' _ => (flat_rep (G := fun _ => True) (by simp only [casedM, List.length_map]; omega)).rep) (by simp) hK
theorem ans_lower {sv : Value} {w0 w : World} {K : Value → World → Prop} {x : JV} (hIt : ItemsAt w0 sv [x]) (h00 : Ext w0 w) (hl : x.t.length ≤ 100000) (hK : AnsS (some (tV (casedM 65 97 x.t))) w0 w K) : callF Tryz.prog 37 [str [108, 111, 119, 101, 114], sv] w K := by
  have h := hIt.ext h00
  have s00 := h00.size
  refine W37_ok ?_
  unfold W37
  refine alloc_new fun b w1 hb hz1 hbb hx1 => ?_
  have h1 := h.ext hx1
  have hlb := at_lt hbb
  rw [bin_seq, decide_eq_false (by decide), condW_false]
  rw [bin_seq, decide_eq_true (by decide), condW_true]
  refine h1.ft (i := 0) rfl rfl fun _ => ?_
  refine lettersC_ref (lo := 65) (tb := 97) (by omega) (by omega) (by omega) fun w2 hx2 => ?_
  refine text_ref2 fun w3 hx3 => ?_
  exact ansS (v := tV (casedM 65 97 x.t)) (ok := true) ((hx2.trans hx3).at hbb id) rfl (by omega) h00 (hx1.trans (hx2.trans hx3)) (fun w' _ => (flat_rep (G := fun _ => True) (by simp only [casedM, List.length_map]; omega)).rep) (by simp) hK
theorem ans_split {sv : Value} {w0 w : World} {K : Value → World → Prop} {x y : JV} (hIt : ItemsAt w0 sv [x, y]) (h00 : Ext w0 w) (lx : x.t.length ≤ 100000) (ly : y.t.length ≤ 100000) (hK : AnsS (splitFM x.t y.t) w0 w K) : callF Tryz.prog 37 [str [115, 112, 108, 105, 116], sv] w K := by
  have h := hIt.ext h00
  have s00 := h00.size
  refine W37_ok ?_
  unfold W37
  refine alloc_new fun b w1 hb hz1 hbb hx1 => ?_
  have h1 := h.ext hx1
  have hlb := at_lt hbb
  rw [bin_seq, decide_eq_false (by decide), condW_false]
  rw [bin_seq, decide_eq_false (by decide), condW_false]
  rw [bin_seq, decide_eq_true (by decide), condW_true]
  refine h1.ft (i := 0) rfl rfl fun _ => ?_
  rw [bin_seq, condW_dec]
  refine ⟨fun e => ?_, fun e => ?_⟩
  · rw [put_nil]
    exact ansS (v := JV.null) (ok := false) hbb rfl (by omega) h00 hx1 (fun w' _ => vrep_null w') (by unfold splitFM; simp [e]) hK
  · have hxd : Ext w1 w1.drew := Chg.drew (Chg.refl (fun _ => False) w1)
    have hd := h1.ext hxd
    refine hd.ft (i := 0) rfl rfl fun _ => ?_
    refine hd.ft (i := 1) rfl rfl fun _ => ?_
    refine splitC_ref (w0 := w0) (h00.trans (hx1.trans hxd)) e lx ly fun cs w13 hx13 hv => ?_
    exact ansS (v := lV ((Lib.split y.t x.t).map tV)) (ok := true) (hx13.at (hxd.at hbb id) id) rfl (by omega) h00 (hx1.trans (hxd.trans hx13)) (fun w' hc => hv _ w' (fun q hq => ⟨hq.1, by have := hq.2; show q < w1.heap.size; omega⟩) hc) (by unfold splitFM; rw [if_neg e]; simp) hK
theorem ans_contains {sv : Value} {w0 w : World} {K : Value → World → Prop} {x y : JV} (hIt : ItemsAt w0 sv [x, y]) (h00 : Ext w0 w) (px : ∀ z ∈ x.xs, plainM z = true) (py : plainM y = true) (hK : AnsS (some (bV (x.xs.any fun u => decide (cmpM u y = 0)))) w0 w K) : callF Tryz.prog 37 [str [99, 111, 110, 116, 97, 105, 110, 115], sv] w K := by
  have h := hIt.ext h00
  have s00 := h00.size
  refine W37_ok ?_
  unfold W37
  refine alloc_new fun b w1 hb hz1 hbb hx1 => ?_
  have h1 := h.ext hx1
  have hlb := at_lt hbb
  rw [bin_seq, decide_eq_false (by decide), condW_false]
  rw [bin_seq, decide_eq_false (by decide), condW_false]
  rw [bin_seq, decide_eq_false (by decide), condW_false]
  rw [bin_seq, decide_eq_true (by decide), condW_true]
  refine h1.fx (i := 0) rfl rfl fun u hu => ?_
  rw [hu.len]
  have hfw := hu.few
  refine loop_up x.xs.length (fun i w' => Ext w1 w' ∧ ∀ z ∈ x.xs.take i, cmpM z y ≠ 0) ⟨Chg.refl _ _, by simp⟩ (fun i w17 g L hi ⟨hx17, hno⟩ hL => ?_) fun w17 g L ⟨hx17, hno⟩ => ?_
  · simp only [List.getD_cons_zero]
    rw [bin_lss, decide_eq_true (by omega), condW_true]
    have hxd : Ext w17 w17.drew := Chg.drew (Chg.refl (fun _ => False) w17)
    have hx1d := hx17.trans hxd
    have hd := h1.ext hx1d
    obtain ⟨z, hzi⟩ : ∃ z, x.xs[i]? = some z := ⟨_, List.getElem?_eq_getElem hi⟩
    refine hd.fx (i := 0) rfl rfl fun u2 hu2 => ?_
    refine hu2.at hzi fun ds hds => ?_
    refine hd.at' (i := 1) rfl rfl fun es hes => ?_
    refine same_ref z hds hes fun w18 hx18 => ?_
    have hz := cmp_zero z y (px z (List.mem_of_getElem? hzi)) py
    rw [condW_b]
    refine ⟨fun e => ?_, fun e => ?_⟩
    · have : cmpM z y = 0 := hz.2 ((same_iff z y).1 e)
      refine boolC_ref fun w19 hx19 => ?_
      have hx119 := hx1d.trans (hx18.trans hx19)
      exact ansS (v := bV true) (ok := true) (hx119.at hbb id) rfl (by omega) h00 (hx1.trans hx119) (fun w' _ => (flat_rep (G := fun _ => True) (by simp)).rep) (by
        have : (x.xs.any fun u => decide (cmpM u y = 0)) = true := List.any_eq_true.2 ⟨z, List.mem_of_getElem? hzi, by simp [this]⟩
        rw [this]; simp) hK
    · rw [bin_add, up1 (by omega)]
      refine hL w18 ⟨hx1d.trans hx18, fun q hq => ?_⟩
      rw [List.take_add_one, hzi] at hq
      rcases List.mem_append.1 hq with hq | hq
      · exact hno q hq
      · have hq : q = z := by simpa using hq
        subst hq
        intro h0
        rw [(same_iff q y).2 (hz.1 h0)] at e
        cases e
  · simp only [List.getD_cons_zero]
    rw [bin_lss, decide_eq_false (by omega), condW_false]
    refine boolC_ref fun w22 hx22 => ?_
    rw [List.take_length] at hno
    have hx122 := hx17.trans hx22
    exact ansS (v := bV false) (ok := true) (hx122.at hbb id) rfl (by omega) h00 (hx1.trans hx122) (fun w' _ => (flat_rep (G := fun _ => True) (by simp)).rep) (by
      have : (x.xs.any fun u => decide (cmpM u y = 0)) = false := List.any_eq_false.2 fun q hq => by simp [hno q hq]
      rw [this]; simp) hK
theorem ans_keys {sv : Value} {w0 w : World} {K : Value → World → Prop} {x : JV} (hIt : ItemsAt w0 sv [x]) (h00 : Ext w0 w) (lk : x.ks.length ≤ 100000) (hK : AnsS (some (lV (x.ks.map tV))) w0 w K) : callF Tryz.prog 37 [str [107, 101, 121, 115], sv] w K := by
  have h := hIt.ext h00
  have s00 := h00.size
  refine W37_ok ?_
  unfold W37
  refine alloc_new fun b w1 hb hz1 hbb hx1 => ?_
  have h1 := h.ext hx1
  have hlb := at_lt hbb
  rw [bin_seq, decide_eq_false (by decide), condW_false]
  rw [bin_seq, decide_eq_false (by decide), condW_false]
  rw [bin_seq, decide_eq_false (by decide), condW_false]
  rw [bin_seq, decide_eq_false (by decide), condW_false]
  rw [bin_seq, decide_eq_true (by decide), condW_true]
  rw [put_int, put_nil]
  refine ⟨by simp, ?_⟩
  refine alloc_new fun p w3 hp hz3 hbp hx3 => ?_
  refine st_agg_at (l := [i64 5, .bool false, str [], .slice none 0 0, .slice none 0 0]) hbp rfl rfl rfl fun w4 hz4 hbp4 hc4 => ?_
  have hx14 : Ext w1 w4 := hx3.new hc4 (by omega)
  have hbb4 := hx14.at hbb id
  have A0 : Acc w0 w4 p w4.heap.size 5 [] [] (.slice none 0 0) (.slice none 0 0) := Acc.start hbp4 (h00.trans (hx1.trans hx14)) (by omega)
  have sp := A0.size
  refine (h1.ext hx14).fs (i := 0) rfl rfl fun u T hu _ hul => ?_
  rw [lenl_at hu]
  refine loop_up x.ks.length (fun i w' => ∃ ov kv, Acc w0 w' p w4.heap.size 5 ((x.ks.take i).map tV) [] ov kv ∧ Chg (fun q => q = p) w4 w') ⟨_, _, A0, Chg.refl _ _⟩ (fun i w29 g L hi ⟨ov, kv, hA, hc⟩ hL => ?_) fun w29 g L ⟨ov, kv, hA, hc⟩ => ?_
  · simp only [List.getD_cons_zero]
    rw [bin_lss, decide_eq_true (by omega), condW_true]
    have hxd : Ext w29 w29.drew := Chg.drew (Chg.refl (fun _ => False) w29)
    have hAd := hA.ext hxd
    have sc := hc.size
    rw [fld_ptr, add_mk]
    refine hAd.l3 ?_
    obtain ⟨z, hzi⟩ : ∃ z, x.ks[i]? = some z := ⟨_, List.getElem?_eq_getElem hi⟩
    refine (hIt.ext hAd.hx).fs (i := 0) rfl rfl fun u2 T2 hu2 _ _ => ?_
    refine text_ld hu2 hzi ?_
    refine text_ref2 fun w7 hx7 => ?_
    have hA7 := hAd.ext hx7
    refine ⟨hA7.l3 rfl, ?_⟩
    refine row_v (cs := flat 4 false z) rfl fun t w8 ht hx8 => ?_
    have hA8 := hA7.ext hx8
    refine ⟨hA8.l3 rfl, ?_⟩
    have hx68 := hxd.trans (hx7.trans hx8)
    have s68 := hx68.size
    refine hA8.app (ys := [tV z]) ht (VReps.one' (flat_rep (G := fun _ => True) (hul z (List.mem_of_getElem? hzi))).rep) (by rw [List.length_map, List.length_take]; omega) (by simp) (by omega) fun ov' w10 hA' hc10 => ?_
    rw [bin_add, up1 (by omega)]
    refine hL w10 ⟨ov', kv, ?_, (hc.trans (Chg.of_ext hx68)).then hc10 fun q hq e => ?_⟩
    · have e : x.ks.take (i + 1) = x.ks.take i ++ [z] := by rw [List.take_add_one, hzi]; rfl
      rw [e, List.map_append]
      exact hA'
    · rcases e with e | e
      · exact e
      · omega
  · simp only [List.getD_cons_zero]
    rw [bin_lss, decide_eq_false (by omega), condW_false]
    refine hA.all ?_
    rw [List.take_length] at hA
    have h1b : b < w4.heap.size := by have := hx14.size; omega
    refine ansS (v := lV (x.ks.map tV)) (ok := true) (hc.at hbb4 (by omega)) rfl (by omega) h00 ((hx1.trans hx14).new hc (by omega)) (fun w' hc' => (hA.at_S hc' fun q hq => ⟨hq.1, by have := hq.2; omega⟩).rep (by rw [List.length_map]; omega) (by simp) (by simp)) (by simp) hK
theorem ans_values {sv : Value} {w0 w : World} {K : Value → World → Prop} {x : JV} (hIt : ItemsAt w0 sv [x]) (h00 : Ext w0 w) (hK : AnsS (some (lV x.xs)) w0 w K) : callF Tryz.prog 37 [str [118, 97, 108, 117, 101, 115], sv] w K := by
  have h := hIt.ext h00
  have s00 := h00.size
  refine W37_ok ?_
  unfold W37
  refine alloc_new fun b w1 hb hz1 hbb hx1 => ?_
  have h1 := h.ext hx1
  have hlb := at_lt hbb
  rw [bin_seq, decide_eq_false (by decide), condW_false]
  rw [bin_seq, decide_eq_false (by decide), condW_false]
  rw [bin_seq, decide_eq_false (by decide), condW_false]
  rw [bin_seq, decide_eq_false (by decide), condW_false]
  rw [bin_seq, decide_eq_false (by decide), condW_false]
  rw [bin_seq, decide_eq_true (by decide), condW_true]
  refine hIt.fx_old (h00.trans hx1) (i := 0) rfl rfl fun u hu => ?_
  refine listC_ref hu (h00.trans hx1) fun w3 hx3 hv => ?_
  exact ansS (v := lV x.xs) (ok := true) (hx3.at hbb id) rfl (by omega) h00 (hx1.trans hx3) (fun w' hc => hv w' ((h00.trans (hx1.trans hx3)).then hc fun k hk e => by omega)) (by simp) hK
theorem ans_abs {sv : Value} {w0 w : World} {K : Value → World → Prop} {x : JV} (hIt : ItemsAt w0 sv [x]) (h00 : Ext w0 w) (hg : goodN x.t = true) (hK : AnsS (some (nV (dig x.t))) w0 w K) : callF Tryz.prog 37 [str [97, 98, 115], sv] w K := by
  have h := hIt.ext h00
  have s00 := h00.size
  refine W37_ok ?_
  unfold W37
  refine alloc_new fun b w1 hb hz1 hbb hx1 => ?_
  have h1 := h.ext hx1
  have hlb := at_lt hbb
  rw [bin_seq, decide_eq_false (by decide), condW_false]
  rw [bin_seq, decide_eq_false (by decide), condW_false]
  rw [bin_seq, decide_eq_false (by decide), condW_false]
  rw [bin_seq, decide_eq_false (by decide), condW_false]
  rw [bin_seq, decide_eq_false (by decide), condW_false]
  rw [bin_seq, decide_eq_false (by decide), condW_false]
  rw [bin_seq, decide_eq_false (by decide), condW_false]
  rw [bin_seq, decide_eq_true (by decide), condW_true]
  refine h1.ft (i := 0) rfl rfl fun _ => ?_
  have hl := good_len9 hg
  have hd := dig_leC x.t
  refine sizeN_ref (fun e => by rw [e] at hg; exact absurd hg (by decide)) ?_
  rw [put_int, put_str, put_nil]
  refine ⟨by simp, by simp, ?_⟩
  exact ansS (cs := flat 3 false (dig x.t)) (v := nV (dig x.t)) (ok := true) hbb rfl (by omega) h00 hx1 (fun w' _ => (flat_rep (G := fun _ => True) (by omega)).rep) (by simp) hK
theorem ans_tostring {sv : Value} {w0 w : World} {K : Value → World → Prop} {x : JV} (hIt : ItemsAt w0 sv [x]) (h00 : Ext w0 w) (hl : x.t.length ≤ 100000) (hK : AnsS (tostrM x) w0 w K) : callF Tryz.prog 37 [str [116, 111, 115, 116, 114, 105, 110, 103], sv] w K := by
  have h := hIt.ext h00
  have s00 := h00.size
  refine W37_ok ?_
  unfold W37
  refine alloc_new fun b w1 hb hz1 hbb hx1 => ?_
  have h1 := h.ext hx1
  have hlb := at_lt hbb
  rw [bin_seq, decide_eq_false (by decide), condW_false]
  rw [bin_seq, decide_eq_false (by decide), condW_false]
  rw [bin_seq, decide_eq_false (by decide), condW_false]
  rw [bin_seq, decide_eq_false (by decide), condW_false]
  rw [bin_seq, decide_eq_false (by decide), condW_false]
  rw [bin_seq, decide_eq_false (by decide), condW_false]
  rw [bin_seq, decide_eq_false (by decide), condW_false]
  rw [bin_seq, decide_eq_false (by decide), condW_false]
  rw [bin_seq, decide_eq_false (by decide), condW_false]
  rw [bin_seq, decide_eq_true (by decide), condW_true]
  refine h1.fk (i := 0) rfl rfl ?_
  rw [bin_eql]
  simp only [isB_t]
  refine GdW.act x.b (fun w' => w' = w1) (fun _ => rfl) (fun _ J hJ => ?_) fun g w67 hw => ?_
  · refine h1.fb (i := 0) rfl rfl ?_
    exact hJ w1 rfl
  subst hw
  simp only [List.getD_cons_zero, pick_gd_and]
  rw [condW_b]
  refine ⟨fun e => ?_, fun e => ?_⟩
  · simp only [Bool.and_eq_true, decide_eq_true_eq] at e
    refine text_ref2 fun w68 hx68 => ?_
    exact ansS (v := tV [116, 114, 117, 101]) (ok := true) (hx68.at hbb id) rfl (by omega) h00 (hx1.trans hx68) (fun w' _ => (flat_rep (G := fun _ => True) (by decide)).rep) (by unfold tostrM; rw [if_pos e.1, e.2]; simp) hK
  · rw [bin_eql, condW_dec]
    refine ⟨fun e2 => ?_, fun e2 => ?_⟩
    · have eb : x.b = false := by rw [decide_eq_true e2] at e; simpa using e
      refine text_ref2 fun w68 hx68 => ?_
      exact ansS (v := tV [102, 97, 108, 115, 101]) (ok := true) (hx68.at hbb id) rfl (by omega) h00 (hx1.trans hx68) (fun w' _ => (flat_rep (G := fun _ => True) (by decide)).rep) (by unfold tostrM; rw [if_pos e2, eb]; simp) hK
    · refine h1.ft (i := 0) rfl rfl fun _ => ?_
      refine text_ref2 fun w74 hx74 => ?_
      rw [bin_eql]
      simp only [bin_eql, isB_f, GdW_pure, List.getD_cons_zero, pick_gd_or]
      intro _
      exact ansS (v := tV x.t) (hx74.at hbb id) rfl (by omega) h00 (hx1.trans hx74) (fun w' _ => (flat_rep (G := fun _ => True) (by omega)).rep) (by
        unfold tostrM
        rw [if_neg e2]
        by_cases e3 : x.k = 3 ∨ x.k = 4
        · rw [if_pos e3]
          have : (decide (x.k = 3) || decide (x.k = 4)) = true := by simpa using e3
          rw [this]; simp
        · rw [if_neg e3]
          have : (decide (x.k = 3) || decide (x.k = 4)) = false := by simpa using e3
          rw [this]; simp) hK
end
end Go.Proofs.YtdkikjcpgihjlaaGreatDoor
namespace Go.Proofs.YtdkikjcpgihjlaaGreatDoor
open Go Go.Eng Go.Num Go.RowKit
set_option maxRecDepth 100000
theorem ItemsAt.ptr_old {w0 w : World} {sv : Value} {xs : List JV} {n : Int} {i : Nat} {x : JV} {K : Value → Prop} (h : ItemsAt w0 sv xs) (hx : Ext w0 w) (hn : n = (i : Nat)) (hi : xs[i]? = some x)
    (hK : ∀ b o c T fr cs, w.heap[b]? = some (.cells c T fr) → VRep w0 x cs → (∀ j, j < 5 → c[o + j]? = cs[j]?) → K (.pointer (some ⟨b, o, none⟩))) : ixaW none 5 sv (.int .i64 n) K := by
  subst hn
  obtain ⟨T, L, h1, h2⟩ := h.it
  obtain ⟨cs, hc, hg⟩ := h2.get hi
  exact ixa_at (size := 5) (h1.ext hx) h2.len (by omega) (List.getElem?_eq_some_iff.1 hi).1 fun b o c fr hb hcc => hK b o c T fr cs hb hc fun j hj => (hcc j hj).trans (hg j hj)
theorem ItemsAt.px {w : World} {sv : Value} {xs : List JV} {i : Nat} {x : JV} (h : ItemsAt w sv xs) (hi : xs[i]? = some x) : ∃ b o c T fr cs, (∀ K : Value → Prop, ixaW none 5 sv (i64 (i : Nat)) K ↔ K (.pointer (some ⟨b, o, none⟩))) ∧ w.heap[b]? = some (.cells c T fr) ∧ VRep w x cs ∧ ∀ j, j < 5 → c[o + j]? = cs[j]? := by
  obtain ⟨T, L, h1, h2⟩ := h.it
  obtain ⟨cs, hc, hg⟩ := h2.get hi
  have hlt := (List.getElem?_eq_some_iff.1 hi).1
  have hl := h2.len
  obtain ⟨p, cap, rfl, hcap, hp, hcells⟩ := h1
  have hne : L ≠ [] := fun e => by rw [e] at hl; simp at hl; omega
  obtain ⟨b, off, c, fr, rfl, hb, hcc⟩ := hcells hne
  have h5 : (i + 1) * 5 ≤ xs.length * 5 := Nat.mul_le_mul_right _ hlt
  refine ⟨b, off + i * 5, c, T, fr, cs, fun K => ?_, hb, hc, fun j hj => ?_⟩
  · rw [ixa_slice, add_mk, Int.toNat_natCast]
    exact ⟨fun h => h.2.2, fun h => ⟨by omega, by omega, h⟩⟩
  · rw [Nat.add_assoc, hcc _ (by omega)]
    exact hg j hj
section
variable [HX]
theorem getC_ref {v : JV} {cs : List Value} {k : Str} {w0 w : World} {K : Value → World → Prop} (h : VRep w0 v cs) (h0 : Ext w0 w) (hl : v.k = 6 → v.ks.length = v.xs.length)
    (hK : ∀ cs' w', Ext w w' → VRep w0 ((getM v k).getD JV.null) cs' → K (.tuple #[.agg cs'.toArray, .bool (getM v k).isSome]) w') : callF Tryz.prog 79 [.agg cs.toArray, str k] w K := by
  refine W79_ok ?_
  unfold W79
  refine box_vali h fun a w1 sv kv hba I hx _ hz1 => ?_
  refine alloc_new fun b w2 hb hz2 hbb hx2 => ?_
  have hB := I.box (h0.trans (hx.trans hx2)) (hx2.at hba id)
  refine hB.ld fun cs1 h1 => ?_
  refine at_ref h1 fun w3 hx3 => ?_
  have hB := hB.ext hx3
  have hbb := hx3.at hbb id
  have hgb : w1.heap.size ≤ b := by omega
  have hx13 : Ext w1 w3 := hx2.trans hx3
  simp only [wsv, wsg, wsh, wsl, cond_true, cond_false, exists_eq_left', Option.some.injEq, Option.isSome_some, List.getElem?_toArray, List.getElem?_cons_zero, List.getElem?_cons_succ, List.length_cons, List.length_nil, List.set_cons_zero, List.set_cons_succ, List.getD_cons_zero, List.getD_cons_succ, Nat.zero_add, Nat.add_zero, Nat.reduceAdd, Nat.reduceLT, Nat.lt_add_one, Nat.zero_lt_succ, decide_true, decide_false, ne_eq, reduceCtorEq, wsh, hB.hb]
  intros
  rw [condW_b]
  refine ⟨fun hbad => ?_, fun hok => ?_⟩
  · have hg : getM v k = none := by
      simp only [Bool.or_eq_true, decide_eq_true_eq, idxI_neg] at hbad
      unfold getM
      rcases hbad with h | h
      · rw [h]; simp
      · rw [if_neg h]
    rw [hg] at hK
    have hn := vrep_null w0
    refine ret_agg (K := fun r w => K (.tuple #[r, .bool false]) w) hbb hn.len rfl hn.all_one fun w4 hc4 => ?_
    exact hK _ w4 (hx.trans (hx13.new hc4 hgb)) hn
  · simp only [Bool.or_eq_false_iff, decide_eq_false_iff_not, idxI_neg, Decidable.not_not] at hok
    obtain ⟨i, hi⟩ := Option.ne_none_iff_exists'.1 hok.1
    have hii : idxI v.ks k = (i : Int) := by unfold idxI; rw [hi]
    obtain ⟨x, hxi⟩ : ∃ x, v.xs[i]? = some x := ⟨_, List.getElem?_eq_getElem (by
      have := (List.getElem?_eq_some_iff.1 (idxK_spec hi)).1
      have := hl hok.2
      omega)⟩
    have hg : getM v k = some x := by unfold getM; rw [if_pos hok.2, hi]; exact hxi
    rw [hg] at hK
    rw [hii]
    refine I.item_old (h0.trans (hx.trans hx13)) hxi fun cs2 h2 => ?_
    refine ret_agg (K := fun r w => K (.tuple #[r, .bool true]) w) hbb h2.len rfl h2.all_one fun w4 hc4 => ?_
    exact hK _ w4 (hx.trans (hx13.new hc4 hgb)) h2
theorem ans_lookup {sv : Value} {w0 w : World} {K : Value → World → Prop} {x y z : JV} (hIt : ItemsAt w0 sv [x, y, z]) (h00 : Ext w0 w) (hl : x.k = 6 → x.ks.length = x.xs.length) (hK : AnsS (some ((getM x y.t).getD z)) w0 w K) : callF Tryz.prog 37 [str [108, 111, 111, 107, 117, 112], sv] w K := by
  have h := hIt.ext h00
  have s00 := h00.size
  refine W37_ok ?_
  unfold W37
  refine alloc_new fun b w1 hb hz1 hbb hx1 => ?_
  have h1 := h.ext hx1
  have hlb := at_lt hbb
  rw [bin_seq, decide_eq_false (by decide), condW_false]
  rw [bin_seq, decide_eq_false (by decide), condW_false]
  rw [bin_seq, decide_eq_false (by decide), condW_false]
  rw [bin_seq, decide_eq_false (by decide), condW_false]
  rw [bin_seq, decide_eq_false (by decide), condW_false]
  rw [bin_seq, decide_eq_false (by decide), condW_false]
  rw [bin_seq, decide_eq_true (by decide), condW_true]
  have hxd : Ext w1 w1.drew := Chg.drew (Chg.refl (fun _ => False) w1)
  have hx1d := hx1.trans hxd
  refine JoinW.cut (fun st w' => ∃ p cs, st = [.pointer (some ⟨p, 0, none⟩), .bool (getM x y.t).isSome] ∧ Ext w1 w' ∧ w'.heap[p]? = some (.cells cs.toArray VT (0, 0)) ∧ VRep w0 ((getM x y.t).getD JV.null) cs) ?_ ?_
  · refine hIt.ptr_old (h00.trans hx1d) (i := 0) rfl rfl fun b0 o0 c0 T0 fr0 cs hb0 hcs hg0 => ?_
    refine ld_cells hb0 hcs.len hg0 ?_
    refine hIt.ptr_old (h00.trans hx1d) (i := 1) rfl rfl fun b1 o1 c1 T1 fr1 ds hb1 hds hg1 => ?_
    rw [fld_ptr, add_mk]
    refine ld_fld hb1 hg1 (by omega) (vtx hds) ?_
    refine ⟨?_, ?_⟩
    · refine getC_ref hcs (h00.trans hx1d) hl fun cs' w3 hx3 h3 => ?_
      simp only [ext_tuple]
      refine ⟨_, rfl, _, rfl, ?_⟩
      refine alloc_new fun p w4 hp hz4 hbp hx4 => ?_
      refine st_agg_at hbp h3.len rfl h3.all_one fun w5 hz5 hbp5 hc5 => ?_
      have s3 := hx3.size
      have sd := hxd.size
      exact ⟨p, cs', rfl, (hxd.trans (hx3.trans hx4)).new hc5 (by omega), hbp5, h3⟩
    · refine alloc_new fun p w6 hp hz6 hbp hx6' => ?_
      refine ⟨ld_fld (hx6'.at hb1 id) hg1 (by omega) (vtx hds) rfl, ld_cells (hx6'.at hb0 id) hcs.len hg0 rfl, ?_⟩
      refine getC_ref hcs (h00.trans (hx1d.trans hx6')) hl fun cs' w7 hx7 h7 => ?_
      simp only [ext_tuple]
      refine ⟨_, rfl, _, rfl, ?_⟩
      refine st_agg_at (hx7.at hbp id) h7.len rfl h7.all_one fun w8 hz8 hbp8 hc8 => ?_
      have sd := hxd.size
      exact ⟨p, cs', rfl, (hxd.trans (hx6'.trans hx7)).new hc8 (by omega), hbp8, h7⟩
  · rintro st g w9 ⟨p, cs, rfl, hx9, hp9, h9⟩
    simp only [List.getD_cons_zero, List.getD_cons_succ]
    have hbb9 := hx9.at hbb id
    have hx09 := hx1.trans hx9
    cases hgm : getM x y.t with
    | some u =>
      rw [hgm] at hK h9
      simp only [Option.isSome_some]
      rw [condW_true]
      refine ld_all hp9 h9.len ?_
      exact ansS (v := u) (ok := true) hbb9 rfl (by omega) h00 hx09 (fun w' hc => VRep.ext ((h00.trans hx09).then hc fun k hk e => by omega) h9) (by simp) hK
    | none =>
      rw [hgm] at hK
      simp only [Option.isSome_none]
      rw [condW_false]
      refine hIt.at_old (i := 2) (h00.trans hx09) rfl fun ds hds => ?_
      exact ansS (v := z) (ok := true) hbb9 rfl (by omega) h00 hx09 (fun w' hc => hds.ext ((h00.trans hx09).then hc fun k hk e => by omega)) (by simp) hK
theorem ans_toint {sv : Value} {w0 w : World} {K : Value → World → Prop} {x : JV} (hIt : ItemsAt w0 sv [x]) (h00 : Ext w0 w) (hl : x.t.length ≤ 100000) (hK : AnsS (tointM x) w0 w K) : callF Tryz.prog 37 [str [116, 111, 105, 110, 116], sv] w K := by
  have h := hIt.ext h00
  have s00 := h00.size
  refine W37_ok ?_
  unfold W37
  refine alloc_new fun b w1 hb hz1 hbb hx1 => ?_
  have h1 := h.ext hx1
  have hlb := at_lt hbb
  rw [bin_seq, decide_eq_false (by decide), condW_false]
  rw [bin_seq, decide_eq_false (by decide), condW_false]
  rw [bin_seq, decide_eq_false (by decide), condW_false]
  rw [bin_seq, decide_eq_false (by decide), condW_false]
  rw [bin_seq, decide_eq_false (by decide), condW_false]
  rw [bin_seq, decide_eq_false (by decide), condW_false]
  rw [bin_seq, decide_eq_false (by decide), condW_false]
  rw [bin_seq, decide_eq_false (by decide), condW_false]
  rw [bin_seq, decide_eq_true (by decide), condW_true]
  have hxd : Ext w1 w1.drew := Chg.drew (Chg.refl (fun _ => False) w1)
  obtain ⟨bb, o, c, T, fr, cs, hP, hb, hcs, hg⟩ := h1.px (i := 0) rfl
  have hP : ∀ K : Value → Prop, ixaW none 5 sv (.int .i64 0) K ↔ K (.pointer (some ⟨bb, o, none⟩)) := hP
  have hk0 : cs[0]? = some (i64 x.k) := by obtain ⟨sv0, kv0, T1, T2, L0, rfl, _⟩ := hcs.out; rfl
  have fin : ∀ (ok : Bool) {w' : World}, Ext w1 w' → (ok = true ↔ (x.k = 3 ∨ x.k = 4) ∧ goodN x.t = true) → stW 5 (.pointer (some ⟨b, 0, none⟩)) (.agg (flat 3 false x.t).toArray) w' fun w64 => ldW true 5 (.pointer (some ⟨b, 0, none⟩)) w64 fun r65 => K (.tuple #[r65, .bool ok]) w64 := fun ok w' hx' hok =>
    ansS (v := nV x.t) (hx'.at hbb id) rfl (by omega) h00 (hx1.trans hx') (fun w'' _ => (flat_rep (G := fun _ => True) (by omega)).rep) (by
      unfold tointM
      cases ok with
      | true => rw [if_pos rfl, if_pos (hok.1 rfl)]
      | false => rw [if_neg (by simp), if_neg fun e => by have := hok.2 e; cases this]) hK
  rw [hP, fld_ptr, add_mk]
  refine ld_fld hb hg (by omega) hk0 ?_
  rw [hP, fld_ptr, add_mk]
  have hbd := hxd.at hb id
  refine ld_fld hbd hg (by omega) (vtx hcs) ?_
  rw [put_int, put_str, put_nil]
  refine ⟨by simp, by simp, ?_⟩
  show binW .eql (i64 x.k) (i64 3) _
  rw [bin_eql]
  -- what follows the two tests
  have tail : ∀ t146 : Bool, (t146 = true ↔ x.k = 3 ∨ x.k = 4) →
      GqW (isB (.bool t146) true) (fun k58 => k58 sv) fun t148 =>
      GqW (isB (.bool t146) true) (fun k59 => ixaW none 5 t148 (.int .i64 0) k59) fun t149 =>
      GqW (isB (.bool t146) true) (fun k60 => fldW 2 t149 k60) fun t150 =>
      GqW (isB (.bool t146) true) (fun k61 => ldW false 1 t150 w1.drew k61) fun t151 =>
      GeW (isB (.bool t146) true) w1.drew (fun k62 => callF Tryz.prog 81 [t151] w1.drew k62) fun t152 w63 =>
      (ldW false 1 (.pointer (some ⟨bb, o + 2, none⟩)) w63 fun x_1 => x_1 = str x.t) ∧
      pickW (.bool t146) t152 (.bool false) fun t153 =>
      stW 5 (.pointer (some ⟨b, 0, none⟩)) (.agg (flat 3 false x.t).toArray) w63 fun w64 =>
      ldW true 5 (.pointer (some ⟨b, 0, none⟩)) w64 fun r65 =>
      K (.tuple #[r65, t153]) w64 := fun t146 ht => by
    rw [isB_t]
    cases t146 with
    | false =>
      rw [GqW_f, GqW_f, GqW_f, GqW_f]
      refine ⟨(fun e => by cases e), fun _ => ⟨ld_fld hbd hg (by omega) (vtx hcs) rfl, ?_⟩⟩
      rw [pick_f]
      exact fin false hxd ⟨(fun e => by cases e), fun e => by have := ht.2 e.1; cases this⟩
    | true =>
      refine (GqW_t _ _).2 ⟨_, rfl, ?_⟩
      refine (GqW_t _ _).2 ⟨_, (hP _).2 rfl, ?_⟩
      refine (GqW_t _ _).2 ⟨.pointer (some ⟨bb, o + 2, none⟩), by rw [fld_ptr, add_mk], ?_⟩
      refine (GqW_t _ _).2 ⟨_, ld_fld hbd hg (by omega) (vtx hcs) rfl, ?_⟩
      refine ⟨fun _ => ?_, fun e => by cases e⟩
      refine good01_ref (by omega) fun w63 hx63 => ?_
      refine ⟨ld_fld (hx63.at hbd id) hg (by omega) (vtx hcs) rfl, ?_⟩
      rw [pick_t]
      exact fin _ (hxd.trans hx63) ⟨fun e => ⟨ht.1 rfl, e⟩, fun e => e.2⟩
  by_cases k3 : x.k = 3
  · rw [decide_eq_true k3, isB_f]
    rw [show (!true) = false from rfl, GqW_f, GqW_f, pick_t]
    exact tail true (by simp [k3])
  · rw [decide_eq_false k3, isB_f]
    rw [show (!false) = true from rfl]
    refine (GqW_t _ _).2 ⟨_, rfl, ?_⟩
    refine (GqW_t _ _).2 ⟨.bool (decide (x.k = 4)), by rw [bin_eql], ?_⟩
    rw [pick_f]
    exact tail _ (by simp [k3])
end
end Go.Proofs.YtdkikjcpgihjlaaGreatDoor
namespace Go.Proofs.YtdkikjcpgihjlaaGreatDoor
open Go Go.Eng Go.Num
set_option maxRecDepth 100000
theorem VRepsP.get {G : Nat → Prop} {w : World} : ∀ {xs : List JV} {L : List Value} {i : Nat} {x : JV}, VRepsP G w xs L → xs[i]? = some x → ∃ cs, VRepP G w x cs ∧ ∀ j, j < 5 → L[i * 5 + j]? = cs[j]?
  | [], _, _, _, _, h => by simp at h
  | y :: xs, L, 0, x, h, hx => by
    simp only [List.getElem?_cons_zero, Option.some.injEq] at hx
    subst hx
    simp only [VRepsP] at h
    obtain ⟨c, r, rfl, hc, hr⟩ := h
    refine ⟨c, hc, fun j hj => ?_⟩
    rw [Nat.zero_mul, Nat.zero_add, List.getElem?_append_left (by rw [hc.rep.len]; exact hj)]
  | y :: xs, L, i + 1, x, h, hx => by
    simp only [List.getElem?_cons_succ] at hx
    simp only [VRepsP] at h
    obtain ⟨c, r, rfl, hc, hr⟩ := h
    obtain ⟨cs, h1, h2⟩ := VRepsP.get hr hx
    refine ⟨cs, h1, fun j hj => ?_⟩
    rw [List.getElem?_append_right (by rw [hc.rep.len]; omega), hc.rep.len, ← h2 j hj]
    congr 1; omega
theorem VRepP.out {G : Nat → Prop} {w : World} {v : JV} {cs : List Value} (h : VRepP G w v cs) : ∃ sv kv T1 T2 L, cs = [i64 v.k, .bool v.b, str v.t, sv, kv] ∧ SlAt w T1 sv v.xs.length L ∧ VRepsP G w v.xs L ∧ SlAt w T2 kv v.ks.length (v.ks.map str) ∧ Fits v.xs.length v.ks v.t ∧ (L ≠ [] → inG G sv) ∧ (v.ks.map str ≠ [] → inG G kv) := by
  cases v with
  | mk k b t xs ks => simpa only [VRepP, JV.k, JV.b, JV.t, JV.xs, JV.ks] using h
structure ValIP (G : Nat → Prop) (w : World) (v : JV) (sv kv : Value) : Prop where
  items : ∃ T L, SlAt w T sv v.xs.length L ∧ VRepsP G w v.xs L ∧ (L ≠ [] → inG G sv)
  keys : ∃ T, SlAt w T kv v.ks.length (v.ks.map str)
  fits : Fits v.xs.length v.ks v.t
  kin : v.ks.map str ≠ [] → inG G kv
theorem ValIP.toI {G : Nat → Prop} {w : World} {v : JV} {sv kv : Value} (h : ValIP G w v sv kv) : ValI w v sv kv := by
  obtain ⟨T, L, h1, h2, _⟩ := h.items
  exact ⟨⟨T, L, h1, VRepsP.rep h2⟩, h.keys, h.fits⟩
theorem ValIP.rep {G : Nat → Prop} {w : World} {v : JV} {sv kv : Value} (h : ValIP G w v sv kv) : VRepP G w v [i64 v.k, .bool v.b, str v.t, sv, kv] := by
  obtain ⟨T, L, h1, h2, h3⟩ := h.items
  obtain ⟨T', h4⟩ := h.keys
  exact VRepP.mk h1 h2 h4 h.fits h3 h.kin
theorem box_valiP {G : Nat → Prop} {w0 w : World} {v : JV} {cs : List Value} {K : Value → World → Prop} (h : VRepP G w0 v cs) (hK : ∀ a w' sv kv, w'.heap[a]? = some (.cells [i64 v.k, .bool v.b, str v.t, sv, kv].toArray VT (0, 0)) → ValIP G w0 v sv kv → Ext w w' → w.heap.size ≤ a → w'.heap.size = a + 1 → K (.pointer (some ⟨a, 0, none⟩)) w') : boxW VT (.agg cs.toArray) w K := by
  obtain ⟨sv, kv, T1, T2, L, rfl, h1, h2, h3, h4, h5, h6⟩ := h.out
  refine box_new fun a w' ha hz hb hx => hK a w' sv kv hb ⟨⟨T1, L, h1, h2, h5⟩, ⟨T2, h3⟩, h4, h6⟩ hx (by omega) (by omega)
theorem ValIP.item_old {G : Nat → Prop} {w0 w : World} {v : JV} {sv kv : Value} {k : IntKind} {i : Nat} {x : JV} {K : Value → Prop} (h : ValIP G w0 v sv kv) (hx : Ext w0 w) (hi : v.xs[i]? = some x) (hK : ∀ cs, VRepP G w0 x cs → K (.agg cs.toArray)) : ixaW none 5 sv (.int k i) fun p => ldW true 5 p w K := by
  obtain ⟨T, L, h1, h2, _⟩ := h.items
  obtain ⟨cs, hc, hg⟩ := h2.get hi
  refine ixa_at (size := 5) (h1.ext hx) h2.len (by omega) (List.getElem?_eq_some_iff.1 hi).1 fun b o c fr hb hcc => ?_
  exact ld_cells hb hc.rep.len (fun j hj => (hcc j hj).trans (hg j hj)) (hK cs hc)
section
variable [HX]
structure GrowP (GG : Nat → Prop) (w0 w : World) (b base : Nat) (sv0 kv0 sv kv : Value) (xs : List JV) (ks : List Str) : Prop where
  ext : Ext w0 w
  hb : w.heap[b]? = some (.cells [i64 6, .bool false, str [], sv0, kv0].toArray VT (0, 0))
  low : w0.heap.size ≤ b
  lt : b < base
  le : base ≤ w.heap.size
  items : ∃ L, Own w base VT 5 sv xs.length L ∧ VRepsP GG w0 xs L
  keys : Own w base ST 1 kv ks.length (ks.map str)
theorem GrowP.more {GG : Nat → Prop} {w0 w w' : World} {b base : Nat} {sv0 kv0 sv kv : Value} {xs : List JV} {ks : List Str} (h : GrowP GG w0 w b base sv0 kv0 sv kv xs ks) (hx : Ext w w') : GrowP GG w0 w' b base sv0 kv0 sv kv xs ks :=
  ⟨h.ext.trans hx, hx.at h.hb id, h.low, h.lt, Nat.le_trans h.le hx.size, let ⟨L, h1, h2⟩ := h.items; ⟨L, h1.ext hx, h2⟩, h.keys.ext hx⟩
theorem GrowP.chg {GG : Nat → Prop} {w0 w w' : World} {b b' base : Nat} {sv0 kv0 sv kv : Value} {xs : List JV} {ks : List Str} (h : GrowP GG w0 w b base sv0 kv0 sv kv xs ks) (hc : Chg (fun k => k = b') w w') (h1 : b' ≠ b) (h2 : b' < base) (h3 : w0.heap.size ≤ b') : GrowP GG w0 w' b base sv0 kv0 sv kv xs ks :=
  ⟨h.ext.new hc h3, hc.at h.hb (fun e => h1 e.symm), h.low, h.lt, Nat.le_trans h.le hc.size, let ⟨L, g1, g2⟩ := h.items; ⟨L, g1.chg hc fun k hk e => by have := hk.1; omega, g2⟩, h.keys.chg hc fun k hk e => by have := hk.1; omega⟩
theorem GrowP.appk {GG : Nat → Prop} {w0 w : World} {b base : Nat} {sv0 kv0 sv kv t : Value} {xs : List JV} {ks : List Str} {x : Str} {T : TypeId} {K : Value → World → Prop} (h : GrowP GG w0 w b base sv0 kv0 sv kv xs ks) (ht : SlAt w T t 1 [str x]) (hl : ks.length ≤ 1000000)
    (hK : ∀ kv' w', GrowP GG w0 w' b base sv0 kv0 sv kv' xs (ks ++ [x]) → Chg (fun k => base ≤ k) w w' → K kv' w') : semE Tryz.prog (Builtin.append_ #[26, 26] 26 #[kv, t]) w K := by
  refine append_own2 elem_s h.keys ht (m := 1) rfl (fun u hu => by simp only [List.mem_singleton] at hu; subst hu; rfl) (by omega) (by omega) h.le fun v' w' h' hc _ => ?_
  refine hK v' w' ⟨h.ext.then hc fun k hk e => ?_, hc.at h.hb fun e => ?_, h.low, h.lt, Nat.le_trans h.le hc.size, ?_, by simpa using h'⟩ (hc.mono fun k _ e => (own_ge h.keys e).1)
  · have := (own_ge h.keys e).1; have := h.low; have := h.lt; omega
  · have := (own_ge h.keys e).1; have := h.lt; omega
  · obtain ⟨L, h1, h2⟩ := h.items
    refine ⟨L, h1.chg hc fun k hk e => ?_, h2⟩
    obtain ⟨_, c, hc1⟩ := hk
    obtain ⟨_, c', hc2⟩ := own_ge h.keys e
    rw [hc1] at hc2; cases hc2
theorem GrowP.appx {GG : Nat → Prop} {w0 w : World} {b base : Nat} {sv0 kv0 sv kv t : Value} {xs : List JV} {ks : List Str} {x : JV} {cs : List Value} {T : TypeId} {K : Value → World → Prop} (h : GrowP GG w0 w b base sv0 kv0 sv kv xs ks) (ht : SlAt w T t 1 cs) (hx : VRepP GG w0 x cs) (hl : xs.length ≤ 1000000)
    (hK : ∀ sv' w', GrowP GG w0 w' b base sv0 kv0 sv' kv (xs ++ [x]) ks → Chg (fun k => base ≤ k) w w' → K sv' w') : semE Tryz.prog (Builtin.append_ #[22, 22] 22 #[sv, t]) w K := by
  obtain ⟨L, h1, h2⟩ := h.items
  refine append_own2 elem_v h1 ht (m := 1) (by rw [hx.rep.len]) hx.rep.one (by omega) (by omega) h.le fun v' w' h' hc _ => ?_
  refine hK v' w' ⟨h.ext.then hc fun k hk e => ?_, hc.at h.hb fun e => ?_, h.low, h.lt, Nat.le_trans h.le hc.size, ⟨L ++ cs, by simpa using h', h2.snoc hx⟩, h.keys.chg hc fun k hk e => ?_⟩ (hc.mono fun k _ e => (own_ge h1 e).1)
  · have := (own_ge h1 e).1; have := h.low; have := h.lt; omega
  · have := (own_ge h1 e).1; have := h.lt; omega
  · obtain ⟨_, c, hc1⟩ := hk
    obtain ⟨_, c', hc2⟩ := own_ge h1 e
    rw [hc1] at hc2; cases hc2
theorem GrowP.set {GG : Nat → Prop} {w0 w : World} {b base off : Nat} {sv0 kv0 sv kv v sv1 kv1 : Value} {xs : List JV} {ks : List Str} {K : World → Prop} (h : GrowP GG w0 w b base sv0 kv0 sv kv xs ks) (h1 : one1 v = true) (ho : off < 5)
    (he : ([i64 6, .bool false, str [], sv0, kv0] : List Value).set off v = [i64 6, .bool false, str [], sv1, kv1]) (hK : ∀ w', GrowP GG w0 w' b base sv1 kv1 sv kv xs ks → Chg (fun k => k = b) w w' → K w') : stW 1 (.pointer (some ⟨b, off, none⟩)) v w K := by
  refine st_at h.hb h1 (by simpa using ho) fun w' hz hb' hc => ?_
  refine hK w' ⟨h.ext.new hc h.low, ?_, h.low, h.lt, by rw [hz]; exact h.le, ?_, h.keys.chg hc fun k hk e => ?_⟩ hc
  · rw [hb', ← he]; simp
  · obtain ⟨L, h1, h2⟩ := h.items
    exact ⟨L, h1.chg hc fun k hk e => by have := hk.1; have := h.lt; omega, h2⟩
  · have := hk.1; have := h.lt; omega
theorem GrowP.one {GG : Nat → Prop} {w0 w : World} {b base : Nat} {sv0 kv0 sv kv : Value} {xs : List JV} {ks : List Str} (h : GrowP GG w0 w b base sv0 kv0 sv kv xs ks) : one1 sv = true ∧ one1 kv = true := by
  obtain ⟨L, h1, _⟩ := h.items
  obtain ⟨p, c, rfl, _⟩ := h1.sl.shape
  obtain ⟨p', c', rfl, _⟩ := h.keys.sl.shape
  exact ⟨rfl, rfl⟩
structure OwnVP (GG : Nat → Prop) (w0 w : World) (base : Nat) (v : JV) (sv kv : Value) : Prop where
  items : ∃ L, Own w base VT 5 sv v.xs.length L ∧ VRepsP GG w0 v.xs L
  keys : Own w base ST 1 kv v.ks.length (v.ks.map str)
  fits : Fits v.xs.length v.ks v.t
theorem OwnVP.chg {GG : Nat → Prop} {w0 w w' : World} {base : Nat} {v : JV} {sv kv : Value} {S : Nat → Prop} (h : OwnVP GG w0 w base v sv kv) (hc : Chg S w w') (hS : ∀ k, base ≤ k → k < w.heap.size → ¬ S k) : OwnVP GG w0 w' base v sv kv :=
  ⟨let ⟨L, h1, h2⟩ := h.items; ⟨L, h1.chg hc fun k hk => hS k hk.1 (by obtain ⟨_, c, hk⟩ := hk; exact at_lt hk), h2⟩, h.keys.chg hc fun k hk => hS k hk.1 (by obtain ⟨_, c, hk⟩ := hk; exact at_lt hk), h.fits⟩
theorem OwnVP.one {GG : Nat → Prop} {w0 w : World} {base : Nat} {v : JV} {sv kv : Value} (h : OwnVP GG w0 w base v sv kv) : one1 sv = true ∧ one1 kv = true := by
  obtain ⟨L, h1, _⟩ := h.items
  obtain ⟨p, c, rfl, _⟩ := h1.sl.shape
  obtain ⟨p', c', rfl, _⟩ := h.keys.sl.shape
  exact ⟨rfl, rfl⟩
theorem GrowP.own {GG : Nat → Prop} {w0 w : World} {b base : Nat} {sv kv : Value} {l : List (Str × JV)} (h : GrowP GG w0 w b base sv kv sv kv (l.map (·.2)) (l.map (·.1))) (hl : l.length ≤ 1000000) (hk : ∀ p ∈ l, p.1.length ≤ 9223372036854775807) : OwnVP GG w0 w base (mkO l) sv kv := by
  refine ⟨h.items, h.keys, ?_, ?_, ?_, ?_⟩
  · simp only [mkO, JV.xs, List.length_map]; omega
  · simp only [mkO, JV.ks, List.length_map]; omega
  · simp [mkO, JV.t]
  · intro s hs
    simp only [mkO, JV.ks, List.mem_map] at hs
    obtain ⟨p, hp, rfl⟩ := hs
    exact hk p hp
theorem GrowP.rebase {GG : Nat → Prop} {w0 w : World} {b base base' : Nat} (h : GrowP GG w0 w b base (.slice none 0 0) (.slice none 0 0) (.slice none 0 0) (.slice none 0 0) [] []) (h1 : b < base') (h2 : base' ≤ w.heap.size) : GrowP GG w0 w b base' (.slice none 0 0) (.slice none 0 0) (.slice none 0 0) (.slice none 0 0) [] [] :=
  ⟨h.ext, h.hb, h.low, h1, h2, ⟨[], ⟨rfl, .inl ⟨rfl, rfl⟩⟩, by simp [VRepsP]⟩, ⟨rfl, .inl ⟨rfl, rfl⟩⟩⟩
theorem grow_keyP {GG : Nat → Prop} {w0 w : World} {g base : Nat} {sv kv : Value} {xs : List JV} {ks : List Str} {x : Str} {K : World → Prop} (G : GrowP GG w0 w g base sv kv sv kv xs ks) (hl : ks.length ≤ 1000000)
    (hK : ∀ kv' w', GrowP GG w0 w' g base sv kv' sv kv' xs (ks ++ [x]) → Low g base w w' → K w') :
    bslW ST 1 [.string (ofL [])] [(0, 1, str x)] w fun t w1 => semE Tryz.prog (Builtin.append_ #[26, 26] 26 #[kv, t]) w1 fun t2 w2 => stW 1 (.pointer (some ⟨g, 4, none⟩)) t2 w2 K := by
  refine row_s fun t6 w6 ht6 hx6 => ?_
  refine (G.more hx6).appk ht6 hl fun kv2 w7 G7 hb7 => ?_
  refine G7.set (sv1 := sv) (kv1 := kv2) G7.one.2 (by omega) rfl fun w8 G8 hb8 => ?_
  exact hK kv2 w8 G8 (low_set (low_step (Chg.of_ext hx6) hb7) hb8)
theorem grow_keyP' {GG : Nat → Prop} {w0 w : World} {g base : Nat} {sv kv : Value} {xs : List JV} {ks : List Str} {x : Str} {K : World → Prop} (G : GrowP GG w0 w g base sv kv sv kv xs ks) (hl : ks.length ≤ 1000000)
    (hK : ∀ kv' w', GrowP GG w0 w' g base sv kv' sv kv' xs (ks ++ [x]) → Low g base w w' → K w') :
    bslW ST 1 [.string (ofL [])] [(0, 1, str x)] w fun t w1 => (∃ v, cellO w1.heap[g]? 4 = some v ∧ v = kv) ∧ semE Tryz.prog (Builtin.append_ #[26, 26] 26 #[kv, t]) w1 fun t2 w2 => stW 1 (.pointer (some ⟨g, 4, none⟩)) t2 w2 K := by
  refine row_s fun t6 w6 ht6 hx6 => ⟨⟨kv, by rw [(G.more hx6).hb]; rfl, rfl⟩, ?_⟩
  refine (G.more hx6).appk ht6 hl fun kv2 w7 G7 hb7 => ?_
  refine G7.set (sv1 := sv) (kv1 := kv2) G7.one.2 (by omega) rfl fun w8 G8 hb8 => ?_
  exact hK kv2 w8 G8 (low_set (low_step (Chg.of_ext hx6) hb7) hb8)
theorem grow_itemP {GG : Nat → Prop} {w0 w : World} {g base : Nat} {sv kv : Value} {xs : List JV} {ks : List Str} {x : JV} {cs : List Value} {K : World → Prop} (G : GrowP GG w0 w g base sv kv sv kv xs ks) (hx : VRepP GG w0 x cs) (hl : xs.length ≤ 1000000)
    (hK : ∀ sv' w', GrowP GG w0 w' g base sv' kv sv' kv (xs ++ [x]) ks → Low g base w w' → K w') :
    bslW VT 1 [(.int .i64 0), (.bool false), (.string (ofL [])), (.slice none 0 0), (.slice none 0 0)] [(0, 5, .agg cs.toArray)] w fun t w1 => semE Tryz.prog (Builtin.append_ #[22, 22] 22 #[sv, t]) w1 fun t2 w2 => stW 1 (.pointer (some ⟨g, 3, none⟩)) t2 w2 K := by
  refine row_v hx.rep.len fun t6 w6 ht6 hx6 => ?_
  refine (G.more hx6).appx ht6 hx hl fun sv2 w7 G7 hb7 => ?_
  refine G7.set (sv1 := sv2) (kv1 := kv) G7.one.1 (by omega) rfl fun w8 G8 hb8 => ?_
  exact hK sv2 w8 G8 (low_set (low_step (Chg.of_ext hx6) hb7) hb8)
theorem grow_itemP' {GG : Nat → Prop} {w0 w : World} {g base : Nat} {sv kv : Value} {xs : List JV} {ks : List Str} {x : JV} {cs : List Value} {K : World → Prop} (G : GrowP GG w0 w g base sv kv sv kv xs ks) (hx : VRepP GG w0 x cs) (hl : xs.length ≤ 1000000)
    (hK : ∀ sv' w', GrowP GG w0 w' g base sv' kv sv' kv (xs ++ [x]) ks → Low g base w w' → K w') :
    bslW VT 1 [(.int .i64 0), (.bool false), (.string (ofL [])), (.slice none 0 0), (.slice none 0 0)] [(0, 5, .agg cs.toArray)] w fun t w1 => (∃ v, cellO w1.heap[g]? 3 = some v ∧ v = sv) ∧ semE Tryz.prog (Builtin.append_ #[22, 22] 22 #[sv, t]) w1 fun t2 w2 => stW 1 (.pointer (some ⟨g, 3, none⟩)) t2 w2 K := by
  refine row_v hx.rep.len fun t6 w6 ht6 hx6 => ⟨⟨sv, by rw [(G.more hx6).hb]; rfl, rfl⟩, ?_⟩
  refine (G.more hx6).appx ht6 hx hl fun sv2 w7 G7 hb7 => ?_
  refine G7.set (sv1 := sv2) (kv1 := kv) G7.one.1 (by omega) rfl fun w8 G8 hb8 => ?_
  exact hK sv2 w8 G8 (low_set (low_step (Chg.of_ext hx6) hb7) hb8)
theorem OwnVP.item_old {GG : Nat → Prop} {w0 w : World} {base : Nat} {v : JV} {sv kv : Value} {k : IntKind} {i : Nat} {x : JV} {K : Value → Prop} (h : OwnVP GG w0 w base v sv kv) (hi : v.xs[i]? = some x) (hK : ∀ cs, VRepP GG w0 x cs → K (.agg cs.toArray)) : ixaW none 5 sv (.int k i) fun p => ldW true 5 p w K := by
  obtain ⟨L, h1, h2⟩ := h.items
  obtain ⟨cs, hc, hg⟩ := h2.get hi
  refine ixa_at (size := 5) h1.sl h2.len (by omega) (List.getElem?_eq_some_iff.1 hi).1 fun b o c fr hb hcc => ?_
  exact ld_cells hb hc.rep.len (fun j hj => (hcc j hj).trans (hg j hj)) (hK cs hc)
theorem drop_refP {GG : Nat → Prop} {v : JV} {cs : List Value} {k : Str} {w0 w : World} {K : Value → World → Prop} (h : VRepP GG w0 v cs) (h0 : Ext w0 w) (he : v.k = 6) (hl : v.ks.length = v.xs.length) (hfew : v.ks.length ≤ 100000)
    (hK : ∀ sv kv base w', Ext w w' → w.heap.size ≤ base → OwnVP GG w0 w' base (mkO (dropP (v.ks.zip v.xs) k)) sv kv → K (.agg [i64 6, .bool false, str [], sv, kv].toArray) w') : callF Tryz.prog 146 [.agg cs.toArray, str k] w K := by
  refine W146_ok ?_
  unfold W146
  refine box_valiP h fun a w1 sv kv hba I hx ha hz1 => ?_
  refine alloc_new fun b w2 hb hz2 hbb hx2 => ?_
  have hB := I.toI.box (h0.trans (hx.trans hx2)) (hx2.at hba id)
  have hB0 := I.toI.box (h0.trans hx) hba
  simp only [wsv, wsg, wsh, wsl, cond_true, cond_false, exists_eq_left', Option.some.injEq, Option.isSome_some, List.getElem?_toArray, List.getElem?_cons_zero, List.getElem?_cons_succ, List.length_cons, List.length_nil, List.set_cons_zero, List.set_cons_succ, List.getD_cons_zero, List.getD_cons_succ, Nat.zero_add, Nat.add_zero, Nat.reduceAdd, Nat.reduceLT, Nat.lt_add_one, Nat.zero_lt_succ, decide_true, decide_false, ne_eq, reduceCtorEq, wsh, hB.hb, condW_dec]
  refine ⟨fun hne => absurd he hne, fun _ => ?_⟩
  · skip
    refine alloc_new fun g w3 hg hz3 hgg hx3 => ?_
    refine st_agg_at (l := [i64 6, .bool false, str [], .slice none 0 0, .slice none 0 0]) hgg rfl rfl rfl fun w4 hz4 hg4 hc4 => ?_
    have hx14 : Ext w w4 := (hx.trans (hx2.trans hx3)).new hc4 (by have := hx.size; omega)
    have hsz := hx.size
    have hx24 : Ext w2 w4 := hx3.new hc4 (by omega)
    have hbb := hx24.at hbb id
    have hB := hB.ext hx24
    have hba4 := (hx2.trans hx24).at hba id
    have h00 := h0.size
    have G0 : GrowP GG w0 w4 g (g + 1) (.slice none 0 0) (.slice none 0 0) (.slice none 0 0) (.slice none 0 0) [] [] := ⟨h0.trans hx14, hg4, by omega, by omega, by omega, ⟨[], ⟨rfl, .inl ⟨rfl, rfl⟩⟩, by simp [VRepsP]⟩, ⟨rfl, .inl ⟨rfl, rfl⟩⟩⟩
    simp only [wsv, wsg, wsh, wsl, cond_true, cond_false, exists_eq_left', Option.some.injEq, Option.isSome_some, List.getElem?_toArray, List.getElem?_cons_zero, List.getElem?_cons_succ, List.length_cons, List.length_nil, List.set_cons_zero, List.set_cons_succ, List.getD_cons_zero, List.getD_cons_succ, Nat.zero_add, Nat.add_zero, Nat.reduceAdd, Nat.reduceLT, Nat.lt_add_one, Nat.zero_lt_succ, decide_true, decide_false, ne_eq, reduceCtorEq, wsh, hB.hb]
    rw [hB.lenk]
    refine loop_up v.ks.length (fun i w' => ∃ sv kv, GrowP GG w0 w' g (g + 1) sv kv sv kv ((dropP ((v.ks.zip v.xs).take i) k).map (·.2)) ((dropP ((v.ks.zip v.xs).take i) k).map (·.1)) ∧ Low g (g + 1) w4 w') ⟨_, _, G0, Chg.refl _ _⟩ ?_ ?_
    · rintro i w5 gg L hi ⟨sv1, kv1, G, lo⟩ hL
      have hB := I.toI.box G.ext (low_get lo (by omega) (by omega) hba4)
      obtain ⟨u, hu⟩ : ∃ u, v.ks[i]? = some u := ⟨_, List.getElem?_eq_getElem hi⟩
      obtain ⟨x, hx'⟩ : ∃ x, v.xs[i]? = some x := ⟨_, List.getElem?_eq_getElem (by omega)⟩
      have hz := zip_get hu hx'
      have hnx := dropP_take (k := k) hz
      have hcnt : (dropP ((v.ks.zip v.xs).take i) k).length ≤ 1000000 := by
        have h1 : (dropP ((v.ks.zip v.xs).take i) k).length ≤ ((v.ks.zip v.xs).take i).length := List.length_filter_le _ _
        rw [List.length_take] at h1
        omega
      have hlt : ((i : Int) < (v.ks.length : Int)) := by omega
      simp only [wsv, wsg, wsh, wsl, cond_true, cond_false, exists_eq_left', Option.some.injEq, Option.isSome_some, List.getElem?_toArray, List.getElem?_cons_zero, List.getElem?_cons_succ, List.length_cons, List.length_nil, List.set_cons_zero, List.set_cons_succ, List.getD_cons_zero, List.getD_cons_succ, Nat.zero_add, Nat.add_zero, Nat.reduceAdd, Nat.reduceLT, Nat.lt_add_one, Nat.zero_lt_succ, decide_true, decide_false, ne_eq, reduceCtorEq, wsh, hB.hb, hlt]
      refine JoinW.cut (fun s w' => s = [] ∧ ∃ sv kv, GrowP GG w0 w' g (g + 1) sv kv sv kv ((dropP ((v.ks.zip v.xs).take (i + 1)) k).map (·.2)) ((dropP ((v.ks.zip v.xs).take (i + 1)) k).map (·.1)) ∧ Low g (g + 1) w4 w') ?_ ?_
      · refine hB.key hu ?_
        simp only [wsv, wsg, wsh, wsl, cond_true, cond_false, exists_eq_left', Option.some.injEq, Option.isSome_some, List.getElem?_toArray, List.getElem?_cons_zero, List.getElem?_cons_succ, List.length_cons, List.length_nil, List.set_cons_zero, List.set_cons_succ, List.getD_cons_zero, List.getD_cons_succ, Nat.zero_add, Nat.add_zero, Nat.reduceAdd, Nat.reduceLT, Nat.lt_add_one, Nat.zero_lt_succ, decide_true, decide_false, ne_eq, reduceCtorEq, condW_dec]
        refine ⟨fun hne => ?_, fun he => ⟨sv1, kv1, ?_, lo⟩⟩
        · have hne : u ≠ k := by simpa using hne
          rw [if_neg hne] at hnx
          have hxd : Ext w5 w5.drew := Chg.drew (Chg.refl (fun _ => False) w5)
          have Gd := G.more hxd
          have hBd := hB.ext hxd
          (try simp only [wsv, wsg, wsh, wsl, cond_true, cond_false, exists_eq_left', Option.some.injEq, Option.isSome_some, List.getElem?_toArray, List.getElem?_cons_zero, List.getElem?_cons_succ, List.length_cons, List.length_nil, List.set_cons_zero, List.set_cons_succ, List.getD_cons_zero, List.getD_cons_succ, Nat.zero_add, Nat.add_zero, Nat.reduceAdd, Nat.reduceLT, Nat.lt_add_one, Nat.zero_lt_succ, decide_true, decide_false, ne_eq, reduceCtorEq, wsh, G.hb])
          refine ValB.key hBd hu ?_
          refine row_s fun t6 w6 ht6 hx6 => ?_
          have lo := low_ext (low_ext lo hxd) hx6
          have G := Gd.more hx6
          (try simp only [wsv, wsg, wsh, wsl, cond_true, cond_false, exists_eq_left', Option.some.injEq, Option.isSome_some, List.getElem?_toArray, List.getElem?_cons_zero, List.getElem?_cons_succ, List.length_cons, List.length_nil, List.set_cons_zero, List.set_cons_succ, List.getD_cons_zero, List.getD_cons_succ, Nat.zero_add, Nat.add_zero, Nat.reduceAdd, Nat.reduceLT, Nat.lt_add_one, Nat.zero_lt_succ, decide_true, decide_false, ne_eq, reduceCtorEq, wsh, G.hb])
          refine G.appk ht6 (by rw [List.length_map]; exact hcnt) fun kv2 w7 G7 hb7 => ?_
          have lo := low_step lo hb7
          refine G7.set (sv1 := sv1) (kv1 := kv2) G7.one.2 (by omega) rfl fun w8 G8 hb8 => ?_
          have lo := low_set lo hb8
          have hB8 := I.toI.box G8.ext (low_get lo (by omega) (by omega) hba4)
          (try simp only [wsv, wsg, wsh, wsl, cond_true, cond_false, exists_eq_left', Option.some.injEq, Option.isSome_some, List.getElem?_toArray, List.getElem?_cons_zero, List.getElem?_cons_succ, List.length_cons, List.length_nil, List.set_cons_zero, List.set_cons_succ, List.getD_cons_zero, List.getD_cons_succ, Nat.zero_add, Nat.add_zero, Nat.reduceAdd, Nat.reduceLT, Nat.lt_add_one, Nat.zero_lt_succ, decide_true, decide_false, ne_eq, reduceCtorEq, wsh, G8.hb])
          have hxd8 : Ext w8 w8.drew := Chg.drew (Chg.refl (fun _ => False) w8)
          have G := G8.more hxd8
          have lo := low_ext lo hxd8
          (try simp only [wsv, wsg, wsh, wsl, cond_true, cond_false, exists_eq_left', Option.some.injEq, Option.isSome_some, List.getElem?_toArray, List.getElem?_cons_zero, List.getElem?_cons_succ, List.length_cons, List.length_nil, List.set_cons_zero, List.set_cons_succ, List.getD_cons_zero, List.getD_cons_succ, Nat.zero_add, Nat.add_zero, Nat.reduceAdd, Nat.reduceLT, Nat.lt_add_one, Nat.zero_lt_succ, decide_true, decide_false, ne_eq, reduceCtorEq, wsh, hB8.hb])
          refine I.item_old G.ext hx' fun cs2 h2 => ?_
          refine row_v h2.rep.len fun t9 w9 ht9 hx9 => ?_
          have lo := low_ext lo hx9
          have G := G.more hx9
          (try simp only [wsv, wsg, wsh, wsl, cond_true, cond_false, exists_eq_left', Option.some.injEq, Option.isSome_some, List.getElem?_toArray, List.getElem?_cons_zero, List.getElem?_cons_succ, List.length_cons, List.length_nil, List.set_cons_zero, List.set_cons_succ, List.getD_cons_zero, List.getD_cons_succ, Nat.zero_add, Nat.add_zero, Nat.reduceAdd, Nat.reduceLT, Nat.lt_add_one, Nat.zero_lt_succ, decide_true, decide_false, ne_eq, reduceCtorEq, wsh, G.hb])
          refine G.appx ht9 h2 (by rw [List.length_map]; exact hcnt) fun sv2 w10 G10 hb10 => ?_
          have lo := low_step lo hb10
          refine G10.set (sv1 := sv2) (kv1 := kv2) G10.one.1 (by omega) rfl fun w11 G11 hb11 => ?_
          have lo := low_set lo hb11
          refine ⟨sv2, kv2, ?_, lo⟩
          rw [hnx, List.map_append, List.map_append]
          exact G11
        · have he : u = k := by simpa using he
          rw [if_pos he] at hnx
          rw [hnx]; exact G
      · rintro s g' w6 ⟨rfl, sv2, kv2, G2, lo⟩
        rw [up1 (by omega)]
        exact hL w6 ⟨sv2, kv2, G2, lo⟩
    · rintro w5 gg L ⟨sv1, kv1, G, lo⟩
      rw [List.take_of_length_le (by rw [List.length_zip]; omega)] at G
      simp only [wsv, wsg, wsh, wsl, cond_true, cond_false, exists_eq_left', Option.some.injEq, Option.isSome_some, List.getElem?_toArray, List.getElem?_cons_zero, List.getElem?_cons_succ, List.length_cons, List.length_nil, List.set_cons_zero, List.set_cons_succ, List.getD_cons_zero, List.getD_cons_succ, Nat.zero_add, Nat.add_zero, Nat.reduceAdd, Nat.reduceLT, Nat.lt_add_one, Nat.zero_lt_succ, decide_true, decide_false, ne_eq, reduceCtorEq, Int.lt_irrefl]
      have hcnt : (dropP (v.ks.zip v.xs) k).length ≤ 1000000 := by
        have h1 : (dropP (v.ks.zip v.xs) k).length ≤ (v.ks.zip v.xs).length := List.length_filter_le _ _
        rw [List.length_zip] at h1
        omega
      have hbb := low_get lo (by omega) (by omega) hbb
      have hO := G.own hcnt fun p hp => I.fits.2.2.2 _ (List.of_mem_zip (List.mem_filter.1 hp).1).1
      refine ld_all G.hb rfl ?_
      have h1 := hO.one
      refine ret_agg hbb rfl rfl (obj_one h1.1 h1.2) fun w6 hc6 => ?_
      exact hK _ _ (g + 1) w6 ((low_new hx14 (by omega) (by omega) lo).new hc6 (by omega)) (by omega) (hO.chg hc6 fun k hk _ e => by omega)
theorem put_refP0 {GG : Nat → Prop} {v x : JV} {cs ds : List Value} {k : Str} {w0 w : World} {K : Value → World → Prop} (h : VRepP GG w0 v cs) (hd : VRepP GG w0 x ds) (h0 : Ext w0 w) (hl : v.k = 6 → v.ks.length = v.xs.length) (hfew : v.ks.length ≤ 100000) (hk : k.length ≤ 9223372036854775807)
    (hK : ∀ sv kv base w', Ext w w' → w.heap.size ≤ base → OwnVP GG w0 w' base (putM v k x) sv kv → K (.agg [i64 6, .bool false, str [], sv, kv].toArray) w') : callF Tryz.prog 116 [.agg cs.toArray, str k, .agg ds.toArray] w K := by
  refine W116_ok ?_
  unfold W116
  refine box_valiP h fun a w1 sv kv hba I hx ha hz1 => ?_
  refine box_valiP hd fun c w2 sv' kv' hbc Ix hx2 hc hz2 => ?_
  refine alloc_new fun b w3 hb hz3 hbb hx3 => ?_
  simp only [wsv, wsg, wsh, wsl, cond_true, cond_false, exists_eq_left', Option.some.injEq, Option.isSome_some, List.getElem?_toArray, List.getElem?_cons_zero, List.getElem?_cons_succ, List.length_cons, List.length_nil, List.set_cons_zero, List.set_cons_succ, List.getD_cons_zero, List.getD_cons_succ, Nat.zero_add, Nat.add_zero, Nat.reduceAdd, Nat.reduceLT, Nat.lt_add_one, Nat.zero_lt_succ, decide_true, decide_false, ne_eq, reduceCtorEq]
  refine alloc_new fun g w4 hg hz4 hgg hx4 => ?_
  refine st_agg_at (l := [i64 6, .bool false, str [], .slice none 0 0, .slice none 0 0]) hgg rfl rfl rfl fun w5 hz5 hg5 hc5 => ?_
  have hw5 : Ext w w5 := (((hx.trans hx2).trans hx3).trans hx4).new hc5 (by omega)
  have hba5 := hc5.at (hx4.at (hx3.at (hx2.at hba id) id) id) (by omega)
  have hbc5 := hc5.at (hx4.at (hx3.at hbc id) id) (by omega)
  have hbb5 := hc5.at (hx4.at hbb id) (by omega)
  clear hgg hbb hbc hc5
  have h00 := h0.size
  have hxs := hx.size
  have G0 : GrowP GG w0 w5 g (g + 1) (.slice none 0 0) (.slice none 0 0) (.slice none 0 0) (.slice none 0 0) [] [] := ⟨h0.trans hw5, hg5, by omega, by omega, by omega, ⟨[], ⟨rfl, .inl ⟨rfl, rfl⟩⟩, by simp [VRepsP]⟩, ⟨rfl, .inl ⟨rfl, rfl⟩⟩⟩
  have hB := I.toI.box (h0.trans hw5) hba5
  -- the one key more
  let P : List (Str × JV) := if v.k = 6 then dropP (v.ks.zip v.xs) k else []
  have hP : putM v k x = mkO (insP P k x) := by
    show putM v k x = mkO (insP (if v.k = 6 then dropP (v.ks.zip v.xs) k else []) k x)
    unfold putM; split <;> rfl
  have hPl : P.length ≤ 100000 := by
    show (if v.k = 6 then dropP (v.ks.zip v.xs) k else []).length ≤ 100000
    split
    · have h1 : (dropP (v.ks.zip v.xs) k).length ≤ (v.ks.zip v.xs).length := List.length_filter_le _ _
      rw [List.length_zip] at h1; omega
    · simp
  have hPk : ∀ p ∈ P, p.1.length ≤ 9223372036854775807 := by
    intro p hp
    have hp : p ∈ (if v.k = 6 then dropP (v.ks.zip v.xs) k else []) := hp
    split at hp
    · exact I.fits.2.2.2 _ (List.of_mem_zip (List.mem_filter.1 hp).1).1
    · simp at hp
  rw [hP] at hK
  refine JoinW.cut (fun s w' => ∃ sv kv base, s = [.bool (putGo P k x P.length).2] ∧ b < base ∧ c < base ∧ GrowP GG w0 w' g base sv kv sv kv ((putGo P k x P.length).1.map (·.2)) ((putGo P k x P.length).1.map (·.1)) ∧ w'.heap[c]? = some (.cells [i64 x.k, .bool x.b, str x.t, sv', kv'].toArray VT (0, 0)) ∧ w'.heap[b]? = some (.cells zv.toArray VT (0, 0)) ∧ Ext w w') ?_ ?_
  · simp only [wsv, wsg, wsh, wsl, cond_true, cond_false, exists_eq_left', Option.some.injEq, Option.isSome_some, List.getElem?_toArray, List.getElem?_cons_zero, List.getElem?_cons_succ, List.length_cons, List.length_nil, List.set_cons_zero, List.set_cons_succ, List.getD_cons_zero, List.getD_cons_succ, Nat.zero_add, Nat.add_zero, Nat.reduceAdd, Nat.reduceLT, Nat.lt_add_one, Nat.zero_lt_succ, decide_true, decide_false, ne_eq, reduceCtorEq, wsh, hB.hb, condW_dec]
    refine ⟨fun he => ?_, fun hne => ?_⟩
    · have hPe : P = dropP (v.ks.zip v.xs) k := if_pos he
      refine ld_all hB.hb rfl ?_
      refine drop_refP (GG := GG) (w0 := w0) (v := v) (cs := [i64 v.k, .bool v.b, str v.t, sv, kv]) ?_ (h0.trans hw5) he (hl he) hfew fun sw kw base0 w6 hx6 hbase0 hO => ?_
      · exact I.rep
      have hs6 := hx6.size
      rw [← hPe] at hO
      have hba6 := hx6.at hba5 id
      refine st_agg_at (l := [i64 6, .bool false, str [], sw, kw]) hba6 rfl rfl (obj_one hO.one.1 hO.one.2) fun w7 hz7 hba7 hc7 => ?_
      have hO := hO.chg hc7 fun j hj _ e => by omega
      have hbc7 := hc7.at (hx6.at hbc5 id) (by omega)
      have hbb7 := hc7.at (hx6.at hbb5 id) (by omega)
      have hw7 : Ext w w7 := (hw5.trans hx6).new hc7 (by omega)
      have G7 := ((G0.more hx6).chg hc7 (by omega) (by omega) (by omega)).rebase (base' := w7.heap.size) (by omega) (Nat.le_refl _)
      have hPx : (mkO P).xs = P.map (·.2) := rfl
      have hPks : (mkO P).ks = P.map (·.1) := rfl
      simp only [wsv, wsg, wsh, wsl, cond_true, cond_false, exists_eq_left', Option.some.injEq, Option.isSome_some, List.getElem?_toArray, List.getElem?_cons_zero, List.getElem?_cons_succ, List.length_cons, List.length_nil, List.set_cons_zero, List.set_cons_succ, List.getD_cons_zero, List.getD_cons_succ, Nat.zero_add, Nat.add_zero, Nat.reduceAdd, Nat.reduceLT, Nat.lt_add_one, Nat.zero_lt_succ, decide_true, decide_false, ne_eq, reduceCtorEq, wsh, hba7]
      rw [lenl_at hO.keys.sl, hPks, List.length_map]
      refine ⟨fun s w' => ∃ i sv kv, i ≤ P.length ∧ s = [.bool (putGo P k x i).2, i64 (i : Nat)] ∧ GrowP GG w0 w' g w7.heap.size sv kv sv kv ((putGo P k x i).1.map (·.2)) ((putGo P k x i).1.map (·.1)) ∧ Low g w7.heap.size w7 w', fun s _ => match s with | [_, .int _ i] => P.length - i.toNat | _ => 0, ⟨0, _, _, Nat.zero_le _, rfl, G7, Chg.refl _ _⟩, ?_⟩
      rintro s gg w8 ⟨i, sv8, kv8, hi, rfl, G8, lo8⟩
      rcases Nat.lt_or_ge i P.length with hlt | hge
      · have hltI : ((i : Int) < (P.length : Int)) := by omega
        have hlen8 := putGo_len P k x i
        obtain ⟨p, hp⟩ : ∃ p, P[i]? = some p := ⟨_, List.getElem?_eq_getElem hlt⟩
        have hstay : ∀ {w9 : World}, Low g w7.heap.size w7 w9 → w9.heap[a]? = some (.cells [i64 6, .bool false, str [], sw, kw].toArray VT (0, 0)) ∧ w9.heap[c]? = some (.cells [i64 x.k, .bool x.b, str x.t, sv', kv'].toArray VT (0, 0)) ∧ OwnVP GG w0 w9 base0 (mkO P) sw kw := fun lo =>
          ⟨low_get lo (by omega) (by omega) hba7, low_get lo (by omega) (by omega) hbc7, hO.chg lo fun k hk hk2 e => by omega⟩
        obtain ⟨hba8, hbc8, hO8⟩ := hstay lo8
        have hkey : ∀ {w9 : World} {KK : Value → Prop}, OwnVP GG w0 w9 base0 (mkO P) sw kw → KK (str p.1) → ixaW none 1 kw (.int .i64 i) fun q => ldW false 1 q w9 KK := fun h hk => text_ld h.keys.sl (by rw [hPks]; simp [hp]) hk
        simp only [wsv, wsg, wsh, wsl, cond_true, cond_false, exists_eq_left', Option.some.injEq, Option.isSome_some, List.getElem?_toArray, List.getElem?_cons_zero, List.getElem?_cons_succ, List.length_cons, List.length_nil, List.set_cons_zero, List.set_cons_succ, List.getD_cons_zero, List.getD_cons_succ, Nat.zero_add, Nat.add_zero, Nat.reduceAdd, Nat.reduceLT, Nat.lt_add_one, Nat.zero_lt_succ, decide_true, decide_false, ne_eq, reduceCtorEq, wsh, hltI, hba8]
        refine JoinW.cut (fun s w' => ∃ sv kv, s = [.bool (putGo P k x (i + 1)).2] ∧ GrowP GG w0 w' g w7.heap.size sv kv sv kv ((if (!(putGo P k x i).2 && Op.bytesLess k p.1) then (putGo P k x i).1 ++ [(k, x)] else (putGo P k x i).1).map (·.2)) ((if (!(putGo P k x i).2 && Op.bytesLess k p.1) then (putGo P k x i).1 ++ [(k, x)] else (putGo P k x i).1).map (·.1)) ∧ Low g w7.heap.size w7 w') ?_ ?_
        · refine GdW.look (Op.bytesLess k p.1) ?_ ?_
          · intro _ J hJ
            refine hkey hO8 ?_
            simp only [wsv, wsg, wsh, wsl, cond_true, cond_false, exists_eq_left', Option.some.injEq, Option.isSome_some, List.getElem?_toArray, List.getElem?_cons_zero, List.getElem?_cons_succ, List.length_cons, List.length_nil, List.set_cons_zero, List.set_cons_succ, List.getD_cons_zero, List.getD_cons_succ, Nat.zero_add, Nat.add_zero, Nat.reduceAdd, Nat.reduceLT, Nat.lt_add_one, Nat.zero_lt_succ, decide_true, decide_false, ne_eq, reduceCtorEq]
            exact hJ
          · intro gd
            simp only [wsv, wsg, wsh, wsl, cond_true, cond_false, exists_eq_left', Option.some.injEq, Option.isSome_some, List.getElem?_toArray, List.getElem?_cons_zero, List.getElem?_cons_succ, List.length_cons, List.length_nil, List.set_cons_zero, List.set_cons_succ, List.getD_cons_zero, List.getD_cons_succ, Nat.zero_add, Nat.add_zero, Nat.reduceAdd, Nat.reduceLT, Nat.lt_add_one, Nat.zero_lt_succ, decide_true, decide_false, ne_eq, reduceCtorEq, condW_b]
            refine ⟨fun hc => ?_, fun hc => ?_⟩
            · simp only [wsv, wsg, wsh, wsl, cond_true, cond_false, exists_eq_left', Option.some.injEq, Option.isSome_some, List.getElem?_toArray, List.getElem?_cons_zero, List.getElem?_cons_succ, List.length_cons, List.length_nil, List.set_cons_zero, List.set_cons_succ, List.getD_cons_zero, List.getD_cons_succ, Nat.zero_add, Nat.add_zero, Nat.reduceAdd, Nat.reduceLT, Nat.lt_add_one, Nat.zero_lt_succ, decide_true, decide_false, ne_eq, reduceCtorEq, wsh, G8.hb]
              rw [if_pos hc]
              refine grow_keyP G8 (by rw [List.length_map]; omega) fun kv9 w9 G9 lo9 => ?_
              obtain ⟨hba9, hbc9, hO9⟩ := hstay (lo8.trans lo9)
              simp only [wsv, wsg, wsh, wsl, cond_true, cond_false, exists_eq_left', Option.some.injEq, Option.isSome_some, List.getElem?_toArray, List.getElem?_cons_zero, List.getElem?_cons_succ, List.length_cons, List.length_nil, List.set_cons_zero, List.set_cons_succ, List.getD_cons_zero, List.getD_cons_succ, Nat.zero_add, Nat.add_zero, Nat.reduceAdd, Nat.reduceLT, Nat.lt_add_one, Nat.zero_lt_succ, decide_true, decide_false, ne_eq, reduceCtorEq, wsh, G9.hb]
              refine ld_all hbc9 rfl ?_
              refine grow_itemP G9 (?_ : VRepP GG w0 x _) (by rw [List.length_map]; omega) fun sv10 w10 G10 lo10 => ?_
              · exact Ix.rep
              refine ⟨sv10, kv9, ?_, ?_, (lo8.trans lo9).trans lo10⟩
              · simp only [putGo, hp, hc, if_true]
              · rw [List.map_append, List.map_append]; exact G10
            · rw [if_neg (by rw [hc]; simp)]
              refine ⟨sv8, kv8, ?_, G8, lo8⟩
              simp only [putGo, hp, hc, Bool.false_eq_true, if_false]
        · rintro s gd w9 ⟨sv9, kv9, rfl, G9, lo9⟩
          have hxd : Ext w9 w9.drew := Chg.drew (Chg.refl (fun _ => False) w9)
          obtain ⟨hba9, hbc9, hO9⟩ := hstay lo9
          obtain ⟨_, _, hO9d⟩ := hstay (low_ext lo9 hxd)
          have hl9 : (if (!(putGo P k x i).2 && Op.bytesLess k p.1) then (putGo P k x i).1 ++ [(k, x)] else (putGo P k x i).1).length ≤ 2 * i + 1 := by split <;> (first | omega | (simp; omega))
          simp only [wsv, wsg, wsh, wsl, cond_true, cond_false, exists_eq_left', Option.some.injEq, Option.isSome_some, List.getElem?_toArray, List.getElem?_cons_zero, List.getElem?_cons_succ, List.length_cons, List.length_nil, List.set_cons_zero, List.set_cons_succ, List.getD_cons_zero, List.getD_cons_succ, Nat.zero_add, Nat.add_zero, Nat.reduceAdd, Nat.reduceLT, Nat.lt_add_one, Nat.zero_lt_succ, decide_true, decide_false, ne_eq, reduceCtorEq, wsh, G9.hb, hba9]
          refine hkey hO9d ?_
          refine grow_keyP' (G9.more hxd) (by rw [List.length_map]; omega) fun kv10 w10 G10 lo10 => ?_
          have lo10 := (low_ext lo9 hxd).trans lo10
          obtain ⟨hba10, hbc10, hO10⟩ := hstay lo10
          have hxd10 : Ext w10 w10.drew := Chg.drew (Chg.refl (fun _ => False) w10)
          obtain ⟨_, _, hO10d⟩ := hstay (low_ext lo10 hxd10)
          simp only [wsv, wsg, wsh, wsl, cond_true, cond_false, exists_eq_left', Option.some.injEq, Option.isSome_some, List.getElem?_toArray, List.getElem?_cons_zero, List.getElem?_cons_succ, List.length_cons, List.length_nil, List.set_cons_zero, List.set_cons_succ, List.getD_cons_zero, List.getD_cons_succ, Nat.zero_add, Nat.add_zero, Nat.reduceAdd, Nat.reduceLT, Nat.lt_add_one, Nat.zero_lt_succ, decide_true, decide_false, ne_eq, reduceCtorEq, wsh, G10.hb, hba10]
          refine hO10d.item_old (by rw [hPx]; simp only [List.getElem?_map, hp]; rfl) fun cs2 h2 => ?_
          refine grow_itemP' (G10.more hxd10) h2 (by rw [List.length_map]; omega) fun sv11 w11 G11 lo11 => ?_
          rw [up1 (by omega)]
          refine ⟨⟨i + 1, sv11, kv10, hlt, rfl, ?_, (low_ext lo10 hxd10).trans lo11⟩, by simp only [Int.toNat_natCast]; omega⟩
          have e : (putGo P k x (i + 1)).1 = (if (!(putGo P k x i).2 && Op.bytesLess k p.1) then (putGo P k x i).1 ++ [(k, x)] else (putGo P k x i).1) ++ [p] := by
            simp only [putGo, hp]; split <;> rfl
          rw [e, List.map_append, List.map_append]
          exact G11
      · obtain rfl : i = P.length := by omega
        simp only [wsv, wsg, wsh, wsl, cond_true, cond_false, exists_eq_left', Option.some.injEq, Option.isSome_some, List.getElem?_toArray, List.getElem?_cons_zero, List.getElem?_cons_succ, List.length_cons, List.length_nil, List.set_cons_zero, List.set_cons_succ, List.getD_cons_zero, List.getD_cons_succ, Nat.zero_add, Nat.add_zero, Nat.reduceAdd, Nat.reduceLT, Nat.lt_add_one, Nat.zero_lt_succ, decide_true, decide_false, ne_eq, reduceCtorEq, Int.lt_irrefl]
        exact ⟨sv8, kv8, w7.heap.size, by omega, by omega, G8, low_get lo8 (by omega) (by omega) hbc7, low_get lo8 (by omega) (by omega) hbb7, low_new hw7 (by omega) (by have := hw7.size; omega) lo8⟩
    · have hPe : P = [] := if_neg hne
      rw [hPe]
      exact ⟨_, _, g + 1, rfl, by omega, by omega, G0, hbc5, hbb5, hw5⟩
  · rintro s g' w6 ⟨sv6, kv6, base, rfl, hbb0, hcc0, G6, hbc6, hbb6, hw6⟩
    have hlen := putGo_len P k x P.length
    have hins : ∀ p ∈ insP P k x, p.1.length ≤ 9223372036854775807 := by
      intro p hp
      rw [putGo_end] at hp
      have hgo : ∀ i, ∀ p ∈ (putGo P k x i).1, p.1.length ≤ 9223372036854775807 := by
        intro i
        induction i with
        | zero => intro p hp; simp [putGo] at hp
        | succ i ih =>
          intro p hp
          simp only [putGo] at hp
          split at hp
          · exact ih p hp
          · rename_i q hq
            have hq' := hPk q (List.mem_of_getElem? hq)
            split at hp <;> simp only [List.mem_append, List.mem_cons, List.not_mem_nil, or_false] at hp
            · rcases hp with (hp | rfl) | rfl
              · exact ih p hp
              · exact hk
              · exact hq'
            · rcases hp with hp | rfl
              · exact ih p hp
              · exact hq'
      split at hp
      · exact hgo _ p hp
      · rcases List.mem_append.1 hp with hp | hp
        · exact hgo _ p hp
        · rw [List.mem_singleton.1 hp]; exact hk
    have hil : (insP P k x).length ≤ 1000000 := by rw [putGo_end]; split <;> (first | omega | (simp; omega))
    refine JoinW.cut (fun s w' => ∃ sv kv, s = [] ∧ GrowP GG w0 w' g base sv kv sv kv ((insP P k x).map (·.2)) ((insP P k x).map (·.1)) ∧ w'.heap[b]? = some (.cells zv.toArray VT (0, 0)) ∧ Ext w w') ?_ ?_
    · simp only [wsv, wsg, wsh, wsl, cond_true, cond_false, exists_eq_left', Option.some.injEq, Option.isSome_some, List.getElem?_toArray, List.getElem?_cons_zero, List.getElem?_cons_succ, List.length_cons, List.length_nil, List.set_cons_zero, List.set_cons_succ, List.getD_cons_zero, List.getD_cons_succ, Nat.zero_add, Nat.add_zero, Nat.reduceAdd, Nat.reduceLT, Nat.lt_add_one, Nat.zero_lt_succ, decide_true, decide_false, ne_eq, reduceCtorEq, condW_b]
      refine ⟨fun hn => ?_, fun hy => ?_⟩
      · have hn : (putGo P k x P.length).2 = false := by simpa using hn
        rw [putGo_end, if_neg (by rw [hn]; simp), List.map_append, List.map_append]
        simp only [wsv, wsg, wsh, wsl, cond_true, cond_false, exists_eq_left', Option.some.injEq, Option.isSome_some, List.getElem?_toArray, List.getElem?_cons_zero, List.getElem?_cons_succ, List.length_cons, List.length_nil, List.set_cons_zero, List.set_cons_succ, List.getD_cons_zero, List.getD_cons_succ, Nat.zero_add, Nat.add_zero, Nat.reduceAdd, Nat.reduceLT, Nat.lt_add_one, Nat.zero_lt_succ, decide_true, decide_false, ne_eq, reduceCtorEq, wsh, G6.hb]
        refine grow_keyP G6 (by rw [List.length_map]; omega) fun kv9 w9 G9 lo9 => ?_
        have hbc9 := low_get lo9 hcc0 (by omega) hbc6
        simp only [wsv, wsg, wsh, wsl, cond_true, cond_false, exists_eq_left', Option.some.injEq, Option.isSome_some, List.getElem?_toArray, List.getElem?_cons_zero, List.getElem?_cons_succ, List.length_cons, List.length_nil, List.set_cons_zero, List.set_cons_succ, List.getD_cons_zero, List.getD_cons_succ, Nat.zero_add, Nat.add_zero, Nat.reduceAdd, Nat.reduceLT, Nat.lt_add_one, Nat.zero_lt_succ, decide_true, decide_false, ne_eq, reduceCtorEq, wsh, G9.hb]
        refine ld_all hbc9 rfl ?_
        refine grow_itemP G9 (?_ : VRepP GG w0 x _) (by rw [List.length_map]; omega) fun sv10 w10 G10 lo10 => ?_
        · exact Ix.rep
        exact ⟨sv10, kv9, G10, low_get (lo9.trans lo10) hbb0 (by omega) hbb6, low_new hw6 (by omega) (by omega) (lo9.trans lo10)⟩
      · have hy : (putGo P k x P.length).2 = true := by simpa using hy
        rw [putGo_end, if_pos hy]
        exact ⟨sv6, kv6, G6, hbb6, hw6⟩
    · rintro s gd w9 ⟨sv9, kv9, rfl, G9, hbb9, hw9⟩
      have hO := G9.own hil hins
      refine ld_all G9.hb rfl ?_
      refine ret_agg hbb9 rfl rfl (obj_one hO.one.1 hO.one.2) fun w10 hc10 => ?_
      have hsz := hx.size
      exact hK _ _ base w10 (hw9.new hc10 (by omega)) (by omega) (hO.chg hc10 fun k hk _ e => by omega)
end
end Go.Proofs.YtdkikjcpgihjlaaGreatDoor
namespace Go.Proofs.YtdkikjcpgihjlaaGreatDoor
open Go Go.Eng Go.Num Go.RowKit
set_option maxRecDepth 100000
theorem sll_sub {w : World} {T : TypeId} {v : Value} {n f k : Nat} {cs : List Value} {K : Value → Prop} (h : SlAt w T v n cs) (hl : cs.length = n) (hk : f + k ≤ n) (hK : ∀ v', SlAt w T v' k ((cs.drop f).take k) → K v') : sllW 1 v (some (i64 (f : Nat))) (some (i64 ((f + k : Nat) : Nat))) none K := by
  obtain ⟨p, cap, rfl, hc, hp, hcells⟩ := h
  rw [sll_sl, bd_none, bd_some]
  refine ⟨by omega, by omega, ?_⟩
  rw [bd_some]
  refine ⟨by omega, by omega, ?_⟩
  simp only [Int.toNat_natCast, Nat.mul_one]
  rw [show f + k - f = k by omega]
  refine hK _ ?_
  by_cases hn : cap = f
  · have hk0 : k = 0 := by omega
    subst hk0
    rw [if_pos hn, List.take_zero]
    exact ⟨_, _, rfl, by omega, fun _ => ⟨by omega, by omega⟩, fun h => absurd rfl h⟩
  · rw [if_neg hn]
    refine ⟨_, _, rfl, by omega, fun e => ?_, fun hne => ?_⟩
    · cases p with
      | none => have := hp rfl; omega
      | some a => cases e
    · have hne2 : cs ≠ [] := fun e => by rw [e] at hne; simp at hne
      obtain ⟨b, off, c, fr, rfl, hb, hcs⟩ := hcells hne2
      refine ⟨b, off + f, c, fr, by simp [add_mk], hb, fun i hi => ?_⟩
      rw [List.length_take, List.length_drop] at hi
      rw [List.getElem?_take_of_lt (by omega), List.getElem?_drop, ← hcs (f + i) (by omega)]
      congr 1; omega
theorem flat_takeC {l : List Str} (i : Nat) : (l.take i).flatten.length ≤ l.flatten.length := by
  have : l.flatten = (l.take i).flatten ++ (l.drop i).flatten := by rw [← List.flatten_append, List.take_append_drop]
  rw [this, List.length_append]; omega
theorem flat_revC : ∀ (l : List Str), l.reverse.flatten.length = l.flatten.length
  | [] => rfl
  | x :: l => by
    rw [List.reverse_cons, List.flatten_append, List.length_append, flat_revC l, List.flatten_cons, List.length_append]
    simp; omega
theorem pieces_C (s : Str) : pieceGo s s.length 0 = runesM s := (piece_eq s s.length 0).symm
theorem vrep_ltC {w : World} : ∀ {v : JV} {cs : List Value}, VRep w v cs → VRepP (fun k => k < w.heap.size) w v cs := by
  intro v
  induction v using JV.ind with
  | h k b t xs ks ih =>
    intro cs h
    simp only [VRep] at h
    obtain ⟨sv, kv, T1, T2, L, rfl, h1, h2, h3, h4⟩ := h
    have hL : ∀ (ys : List JV) (M : List Value), (∀ y ∈ ys, y ∈ xs) → VReps w ys M → VRepsP (fun k => k < w.heap.size) w ys M := fun ys => by
      induction ys with
      | nil => intro M _ h; simp only [VReps] at h; simp only [VRepsP]; exact h
      | cons y ys ihy =>
        intro M hm h
        simp only [VReps] at h
        obtain ⟨c, r, rfl, hc, hr⟩ := h
        simp only [VRepsP]
        exact ⟨c, r, rfl, ih y (hm y (by simp)) hc, ihy r (fun z hz => hm z (by simp [hz])) hr⟩
    simp only [VRepP]
    exact ⟨sv, kv, T1, T2, L, rfl, h1, hL xs L (fun _ h => h) h2, h3, h4, slat_lt h1, slat_lt h3⟩
section
variable [HX]
theorem more_length {sv : Value} {w0 w : World} {K : Value → World → Prop} {x : JV} (hIt : ItemsAt w0 sv [x]) (h00 : Ext w0 w) (hl : x.t.length ≤ 100000) (hn : x.xs.length ≤ 100000) (hk6 : x.k ≤ 6) (hK : AnsS (lengthM x) w0 w K) : callF Tryz.prog 82 [str [108, 101, 110, 103, 116, 104], sv] w K := by
  have h := hIt.ext h00
  have s00 := h00.size
  refine W82_ok ?_
  unfold W82
  refine alloc_new fun b w1 hb hz1 hbb hx1 => ?_
  rw [put_int, put_nil]
  refine ⟨by simp, ?_⟩
  refine alloc_new fun p w3 hp hz3 hbp hx3 => ?_
  refine st_agg_at (l := [i64 5, .bool false, str [], .slice none 0 0, .slice none 0 0]) hbp rfl rfl rfl fun w4 hz4 hbp4 hc4 => ?_
  have hlb := at_lt hbb
  have hx14 : Ext w1 w4 := hx3.new hc4 (by omega)
  have hbb4 := hx14.at hbb id
  have hx04 := hx1.trans hx14
  have A0 : Acc w0 w4 p w4.heap.size 5 [] [] (.slice none 0 0) (.slice none 0 0) := Acc.start hbp4 (h00.trans hx04) (by omega)
  have sp := A0.size
  have h1b : b < w4.heap.size := by have := hx14.size; omega
  have h4 := h.ext hx04
  rw [bin_seq, decide_eq_true (by decide), condW_true]
  refine h4.fk (i := 0) rfl rfl ?_
  rw [bin_eql, condW_dec]
  refine ⟨fun k4 => ?_, fun k4 => ?_⟩
  · refine h4.ft (i := 0) rfl rfl fun _ => ?_
    refine runes_ref hl fun v w5 hx5 hS => ?_
    rw [pieces_C] at hS
    rw [lenl_at hS]
    have hr := runes_len x.t
    refine int_ref7 (by omega) (by omega) fun w6 hx6 => ?_
    have hxx := hx5.trans hx6
    exact ansS (v := iV (runesM x.t).length) (ok := true) (hxx.at hbb4 id) rfl (by omega) h00 (hx04.trans hxx) (fun w' _ => (flat_rep (G := fun _ => True) (Nat.le_trans (itoa_len2 (by omega) (by omega)) (by decide))).rep) (by unfold lengthM; rw [if_pos k4]; simp) hK
  · refine h4.fx (i := 0) rfl rfl fun u hu => ?_
    rw [hu.len]
    refine int_ref7 (by omega) (by omega) fun w9 hx9 => ?_
    rw [bin_geq]
    exact ansS (v := iV x.xs.length) (hx9.at hbb4 id) rfl (by omega) h00 (hx04.trans hx9) (fun w' _ => (flat_rep (G := fun _ => True) (Nat.le_trans (itoa_len2 (by omega) (by omega)) (by decide))).rep) (by
      unfold lengthM
      rw [if_neg k4]
      by_cases h5 : (5 : Int) ≤ x.k
      · rw [decide_eq_true h5, if_pos rfl, if_pos (by omega)]
      · rw [decide_eq_false h5, if_neg (by simp), if_neg (by omega)]) hK
theorem more_reverse {sv : Value} {w0 w : World} {K : Value → World → Prop} {x : JV} (hIt : ItemsAt w0 sv [x]) (h00 : Ext w0 w) (hl : x.t.length ≤ 100000) (hn : x.xs.length ≤ 100000) (hK : AnsS (reverseM x) w0 w K) : callF Tryz.prog 82 [str [114, 101, 118, 101, 114, 115, 101], sv] w K := by
  have h := hIt.ext h00
  have s00 := h00.size
  refine W82_ok ?_
  unfold W82
  refine alloc_new fun b w1 hb hz1 hbb hx1 => ?_
  rw [put_int, put_nil]
  refine ⟨by simp, ?_⟩
  refine alloc_new fun p w3 hp hz3 hbp hx3 => ?_
  refine st_agg_at (l := [i64 5, .bool false, str [], .slice none 0 0, .slice none 0 0]) hbp rfl rfl rfl fun w4 hz4 hbp4 hc4 => ?_
  have hlb := at_lt hbb
  have hx14 : Ext w1 w4 := hx3.new hc4 (by omega)
  have hbb4 := hx14.at hbb id
  have hx04 := hx1.trans hx14
  have A0 : Acc w0 w4 p w4.heap.size 5 [] [] (.slice none 0 0) (.slice none 0 0) := Acc.start hbp4 (h00.trans hx04) (by omega)
  have sp := A0.size
  have h1b : b < w4.heap.size := by have := hx14.size; omega
  have h4 := h.ext hx04
  rw [bin_seq, decide_eq_false (by decide), condW_false]
  rw [bin_seq, decide_eq_true (by decide), condW_true]
  refine h4.fk (i := 0) rfl rfl ?_
  refine h4.ft (i := 0) rfl rfl fun _ => ?_
  refine runes_ref hl fun v w12 hx12 hS => ?_
  rw [pieces_C] at hS
  rw [lenl_at hS]
  have hr := runes_len x.t
  have hfl := runes_flat x.t
  generalize hR : runesM x.t = R at *
  have bnd : ∀ i, ((R.take i).reverse.flatten).length ≤ 100000 := fun i => by
    rw [flat_revC]
    have := flat_takeC (l := R) i
    rw [hfl] at this; omega
  refine LoopW.go (fun st w' => ∃ i : Nat, i ≤ R.length ∧ st = [str ((R.take i).reverse.flatten), i64 (i : Nat)] ∧ w' = w12) (fun st _ => match st with | [_, .int _ i] => R.length - i.toNat | _ => 0) ⟨0, by omega, by simp, rfl⟩ ?_
  rintro st g w14 ⟨i, hi, rfl, rfl⟩
  simp only [List.getD_cons_zero, List.getD_cons_succ]
  rw [bin_lss, condW_dec]
  refine ⟨fun hlt => ?_, fun hge => ?_⟩
  · have hlt : i < R.length := by omega
    obtain ⟨z, hzi⟩ : ∃ z, R[i]? = some z := ⟨_, List.getElem?_eq_getElem hlt⟩
    have e : (R.take (i + 1)).reverse.flatten = z ++ (R.take i).reverse.flatten := by
      rw [List.take_add_one, hzi]
      simp
    have hb1 := bnd (i + 1)
    rw [e, List.length_append] at hb1
    refine text_ld hS hzi ?_
    rw [bin_sadd]
    refine ⟨by rw [imax]; omega, ?_⟩
    rw [bin_add, up1 (by omega)]
    refine ⟨⟨i + 1, hlt, by rw [e], trivial⟩, ?_⟩
    show R.length - ((i + 1 : Nat) : Int).toNat < R.length - ((i : Nat) : Int).toNat
    simp only [Int.toNat_natCast]
    omega
  · obtain rfl : i = R.length := by omega
    rw [List.take_length]
    have hbR := bnd R.length
    rw [List.take_length] at hbR
    have A1 := A0.ext hx12
    refine (h.ext (hx04.trans hx12)).fx (i := 0) rfl rfl fun u hu => ?_
    rw [hu.len, bin_sub, wrap_id (by omega) (by omega)]
    refine LoopW.go (fun st w' => ∃ (m : Nat) (ov kv : Value), m ≤ x.xs.length ∧ st = [i64 ((m : Int) - 1)] ∧ Acc w0 w' p w4.heap.size 5 (x.xs.drop m).reverse [] ov kv ∧ Chg (fun q => q = p) w4 w') (fun st _ => match st with | [.int _ i] => (i + 1).toNat | _ => 0)
      ⟨x.xs.length, _, _, Nat.le_refl _, rfl, by rw [List.drop_length]; exact A1, Chg.of_ext hx12⟩ ?_
    rintro st g w16 ⟨m, ov, kv, hm, rfl, hA, hc⟩
    simp only [List.getD_cons_zero]
    rw [bin_geq, condW_dec]
    refine ⟨fun h0 => ?_, fun h0 => ?_⟩
    · obtain ⟨m, rfl⟩ : ∃ k, m = k + 1 := ⟨m - 1, by omega⟩
      have hxd : Ext w16 w16.drew := Chg.drew (Chg.refl (fun _ => False) w16)
      have hAd := hA.ext hxd
      have sc := hc.size
      obtain ⟨z, hzi⟩ : ∃ z, x.xs[m]? = some z := ⟨_, List.getElem?_eq_getElem (by omega)⟩
      rw [show (((m + 1 : Nat) : Int) - 1) = ((m : Nat) : Int) by omega]
      rw [fld_ptr, add_mk]
      refine hAd.l3 ?_
      refine hIt.fx_old hAd.hx (i := 0) rfl rfl fun u2 hu2 => ?_
      refine hu2.at_old hAd.hx hzi fun ds hds => ?_
      refine row_v hds.len fun t w17 ht hx17 => ?_
      have hA17 := hAd.ext hx17
      refine ⟨hA17.l3 rfl, ?_⟩
      have hx1617 := hxd.trans hx17
      have s17 := hx1617.size
      refine hA17.app (ys := [z]) ht (VReps.one' hds) (by rw [List.length_reverse, List.length_drop]; omega) (by simp) (by omega) fun ov' w19 hA' hc19 => ?_
      rw [bin_sub, wrap_id (by omega) (by omega)]
      refine ⟨⟨m, ov', kv, by omega, rfl, ?_, (hc.trans (Chg.of_ext hx1617)).then hc19 fun q hq e => ?_⟩, ?_⟩
      · have e : (x.xs.drop m).reverse = (x.xs.drop (m + 1)).reverse ++ [z] := by
          rw [List.drop_eq_getElem_cons (List.getElem?_eq_some_iff.1 hzi).1, (List.getElem?_eq_some_iff.1 hzi).2, List.reverse_cons]
        rw [e]; exact hA'
      · rcases e with e | e
        · exact e
        · omega
      · show (((m : Nat) : Int) - 1 + 1).toNat < (((m : Nat) : Int) + 1).toNat
        omega
    · obtain rfl : m = 0 := by omega
      have hbb16 := hc.at hbb4 (by omega)
      rw [bin_eql, condW_dec]
      refine ⟨fun k4 => ?_, fun k4 => ?_⟩
      · refine text_ref2 fun w20 hx20 => ?_
        exact ansS (v := tV R.reverse.flatten) (ok := true) (hx20.at hbb16 id) rfl (by omega) h00 ((hx04.new hc (by omega)).trans hx20) (fun w' _ => (flat_rep (G := fun _ => True) (by omega)).rep) (by unfold reverseM; rw [if_pos k4, hR]; simp) hK
      · refine hA.all ?_
        rw [bin_eql]
        rw [List.drop_zero] at hA
        exact ansS (v := lV x.xs.reverse) hbb16 rfl (by omega) h00 (hx04.new hc (by omega)) (fun w' hc' => (hA.at_S hc' fun q hq => ⟨hq.1, by have := hq.2; omega⟩).rep (by rw [List.length_reverse]; omega) (by simp) (by simp)) (by
          unfold reverseM
          rw [if_neg k4]
          by_cases k5 : x.k = 5
          · rw [decide_eq_true k5, if_pos rfl, if_pos k5]
          · rw [decide_eq_false k5, if_neg (by simp), if_neg k5]) hK
theorem more_substr {sv : Value} {w0 w : World} {K : Value → World → Prop} {x y z : JV} (hIt : ItemsAt w0 sv [x, y, z]) (h00 : Ext w0 w) (hl : x.t.length ≤ 100000) (gy : goodN y.t = true) (gz : goodN z.t = true) (hK : AnsS (substrM x.t y.t z.t) w0 w K) : callF Tryz.prog 82 [str [115, 117, 98, 115, 116, 114], sv] w K := by
  have h := hIt.ext h00
  have s00 := h00.size
  refine W82_ok ?_
  unfold W82
  refine alloc_new fun b w1 hb hz1 hbb hx1 => ?_
  rw [put_int, put_nil]
  refine ⟨by simp, ?_⟩
  refine alloc_new fun p w3 hp hz3 hbp hx3 => ?_
  refine st_agg_at (l := [i64 5, .bool false, str [], .slice none 0 0, .slice none 0 0]) hbp rfl rfl rfl fun w4 hz4 hbp4 hc4 => ?_
  have hlb := at_lt hbb
  have hx14 : Ext w1 w4 := hx3.new hc4 (by omega)
  have hbb4 := hx14.at hbb id
  have hx04 := hx1.trans hx14
  have A0 : Acc w0 w4 p w4.heap.size 5 [] [] (.slice none 0 0) (.slice none 0 0) := Acc.start hbp4 (h00.trans hx04) (by omega)
  have sp := A0.size
  have h1b : b < w4.heap.size := by have := hx14.size; omega
  have h4 := h.ext hx04
  rw [bin_seq, decide_eq_false (by decide), condW_false]
  rw [bin_seq, decide_eq_false (by decide), condW_false]
  rw [bin_seq, decide_eq_true (by decide), condW_true]
  refine h4.ft (i := 0) rfl rfl fun _ => ?_
  refine runes_ref hl fun v w25 hx25 hS => ?_
  rw [pieces_C] at hS
  have hr := runes_len x.t
  have hfl := runes_flat x.t
  have hit : ∀ q ∈ runesM x.t, q.length ≤ x.t.length := fun q hq => runes_item hq
  have hsub : substrM x.t y.t z.t = if neg y.t || neg z.t then none else some (tV (((runesM x.t).drop (min (dec y.t) (runesM x.t).length)).take (min (dec z.t) ((runesM x.t).length - min (dec y.t) (runesM x.t).length))).flatten) := rfl
  rw [hsub] at hK
  generalize runesM x.t = R at *
  have h25 := h4.ext hx25
  refine h25.at' (i := 1) rfl rfl fun cs hcs => ?_
  rw [lenl_at hS]
  refine countC_ref hcs gy (by omega) fun w26 hx26 => ?_
  simp only [ext_tuple]
  refine ⟨_, rfl, _, rfl, ?_⟩
  refine (h25.ext hx26).at' (i := 2) rfl rfl fun ds hds => ?_
  have hf : (if neg y.t = true then 0 else min (dec y.t) R.length : Nat) ≤ R.length := by split <;> omega
  generalize hfd : (if neg y.t = true then 0 else min (dec y.t) R.length : Nat) = f at *
  rw [lenl_at hS, bin_sub, wrap_id (by omega) (by omega), show ((R.length : Nat) : Int) - (f : Int) = ((R.length - f : Nat) : Int) by omega]
  refine countC_ref hds gz (by omega) fun w27 hx27 => ?_
  simp only [ext_tuple]
  refine ⟨_, rfl, _, rfl, ?_⟩
  have hm : (if neg z.t = true then 0 else min (dec z.t) (R.length - f) : Nat) ≤ R.length - f := by split <;> omega
  generalize hmd : (if neg z.t = true then 0 else min (dec z.t) (R.length - f) : Nat) = m at *
  have hx427 := hx25.trans (hx26.trans hx27)
  rw [un_not, Bool.not_not]
  simp only [un_not, Bool.not_not, isB_f, GdW_pure, List.getD_cons_zero, pick_gd_or]
  intro _
  rw [condW_b]
  refine ⟨fun e => ?_, fun e => ?_⟩
  · refine (A0.ext hx427).all ?_
    exact ansS (v := lV []) (ok := false) (hx427.at hbb4 id) rfl (by omega) h00 (hx04.trans hx427) (fun w' hc' => ((A0.ext hx427).at_S hc' fun q hq => ⟨hq.1, by have := hq.2; omega⟩).rep (by simp) (by simp) (by simp)) (by rw [if_neg (by simp), if_pos e]) hK
  · rw [if_neg (by rw [e]; simp)] at hK
    simp only [Bool.or_eq_false_iff] at e
    rw [if_neg (by rw [e.1]; simp)] at hfd
    rw [if_neg (by rw [e.2]; simp)] at hmd
    rw [hfd, hmd] at hK
    rw [bin_add, wrap_id (by omega) (by omega), show ((f : Nat) : Int) + ((m : Nat) : Int) = ((f + m : Nat) : Int) by omega]
    refine sll_sub (hS.ext (hx26.trans hx27)) (by simp) (by omega) fun v2 hv2 => ?_
    have hsub : ((R.map str).drop f).take m = (((R.drop f).take m).map str) := by rw [List.map_take, List.map_drop]
    rw [hsub] at hv2
    have hlen2 : ((R.drop f).take m).length = m := by rw [List.length_take, List.length_drop]; omega
    have hv3 : SlAt w27 ST v2 ((R.drop f).take m).length (((R.drop f).take m).map str) := by rw [hlen2]; exact hv2
    have hjoin : ∀ l : List Str, Lib.join l [] = l.flatten := fun l => by unfold Lib.join; exact intercal_nil _
    have hsubl : ((R.drop f).take m).flatten.length ≤ 100000 := by
      refine Nat.le_trans (flat_takeC m) ?_
      have : R.flatten = (R.take f).flatten ++ (R.drop f).flatten := by rw [← List.flatten_append, List.take_append_drop]
      have h2 := congrArg List.length this
      rw [hfl, List.length_append] at h2
      omega
    refine joinedC_ref hv3 (by omega) (fun i => ?_) (by simp) (fun q hq => ?_) fun w32 hx32 => ?_
    · rw [hjoin]
      have := flat_takeC (l := (R.drop f).take m) i
      omega
    · have := hit q (List.mem_of_mem_drop (List.mem_of_mem_take hq))
      omega
    · rw [hjoin]
      refine text_ref2 fun w33 hx33 => ?_
      have hxx := hx427.trans (hx32.trans hx33)
      exact ansS (v := tV ((R.drop f).take m).flatten) (ok := true) (hxx.at hbb4 id) rfl (by omega) h00 (hx04.trans hxx) (fun w' _ => (flat_rep (G := fun _ => True) (by omega)).rep) (by simp) hK
end
end Go.Proofs.YtdkikjcpgihjlaaGreatDoor
namespace Go.Proofs.YtdkikjcpgihjlaaGreatDoor
open Go Go.Eng Go.Num Go.RowKit
set_option maxRecDepth 100000
theorem join_lenC (by_ : Str) (m : Nat) : ∀ (l : List Str), (∀ q ∈ l, q.length ≤ m) → (Lib.join l by_).length ≤ l.length * (m + by_.length)
  | [], _ => by simp [Lib.join_nil]
  | x :: l, h => by
    rw [Lib.join_length]
    have hl : Lib.lens (x :: l) ≤ (x :: l).length * m := by
      unfold Lib.lens
      generalize x :: l = l at *
      clear x
      induction l with
      | nil => simp
      | cons y l ih =>
        have := ih fun q hq => h q (List.mem_cons_of_mem _ hq)
        have h1 := h y List.mem_cons_self
        simp only [List.map_cons, List.sum_cons, List.length_cons, Nat.add_mul] at this ⊢
        omega
    simp only [List.length_cons, Nat.add_mul, Nat.mul_add] at hl ⊢
    have : by_.length * l.length = l.length * by_.length := Nat.mul_comm _ _
    omega
section
variable [HX]
theorem more_join {sv : Value} {w0 w : World} {K : Value → World → Prop} {x y : JV} (hIt : ItemsAt w0 sv [x, y]) (h00 : Ext w0 w) (hl : x.t.length ≤ 16384) (hn : y.xs.length ≤ 2000) (hit : ∀ z ∈ y.xs, z.t.length ≤ 16384) (hK : AnsS (joinFM x.t y.xs) w0 w K) : callF Tryz.prog 82 [str [106, 111, 105, 110], sv] w K := by
  have h := hIt.ext h00
  have s00 := h00.size
  refine W82_ok ?_
  unfold W82
  refine alloc_new fun b w1 hb hz1 hbb hx1 => ?_
  rw [put_int, put_nil]
  refine ⟨by simp, ?_⟩
  refine alloc_new fun p w3 hp hz3 hbp hx3 => ?_
  refine st_agg_at (l := [i64 5, .bool false, str [], .slice none 0 0, .slice none 0 0]) hbp rfl rfl rfl fun w4 hz4 hbp4 hc4 => ?_
  have hlb := at_lt hbb
  have hx14 : Ext w1 w4 := hx3.new hc4 (by omega)
  have hbb4 := hx14.at hbb id
  have hx04 := hx1.trans hx14
  have A0 : Acc w0 w4 p w4.heap.size 5 [] [] (.slice none 0 0) (.slice none 0 0) := Acc.start hbp4 (h00.trans hx04) (by omega)
  have sp := A0.size
  have h1b : b < w4.heap.size := by have := hx14.size; omega
  have h4 := h.ext hx04
  rw [bin_seq, decide_eq_false (by decide), condW_false]
  rw [bin_seq, decide_eq_false (by decide), condW_false]
  rw [bin_seq, decide_eq_false (by decide), condW_false]
  rw [bin_seq, decide_eq_true (by decide), condW_true]
  refine h4.fx (i := 1) rfl rfl fun u hu => ?_
  rw [hu.len]
  have sw4 := hx04.size
  refine LoopW.go (fun st w' => ∃ (i : Nat) (ov : Value), i ≤ y.xs.length ∧ st = [ov, i64 (i : Nat)] ∧ Ext w4 w' ∧ Own w' w4.heap.size ST 1 ov i ((y.xs.take i).map fun z => str z.t) ∧ ∀ z ∈ y.xs.take i, z.k = 4)
    (fun st _ => match st with | [_, .int _ i] => y.xs.length - i.toNat | _ => 0) ⟨0, _, by omega, rfl, Chg.refl _ _, ⟨by simp, .inl ⟨rfl, rfl⟩⟩, by simp⟩ ?_
  rintro st g w37 ⟨i, ov, hi, rfl, hx37, hO, h4k⟩
  simp only [List.getD_cons_zero, List.getD_cons_succ]
  have hx037 := hx04.trans hx37
  have hbb37 := hx37.at hbb4 id
  have h37 := h.ext hx037
  rw [bin_lss, condW_dec]
  have s37 := hx37.size
  refine ⟨fun hlt => ?_, fun hge => ?_⟩
  · have hlt : i < y.xs.length := by omega
    obtain ⟨z, hzi⟩ : ∃ z, y.xs[i]? = some z := ⟨_, List.getElem?_eq_getElem hlt⟩
    refine h37.fx (i := 1) rfl rfl fun u2 hu2 => ?_
    refine hu2.fk (i := i) rfl hzi ?_
    rw [bin_neq, condW_dec]
    refine ⟨fun hne => ?_, fun heq => ?_⟩
    · have A37 := A0.ext hx37
      refine A37.all ?_
      exact ansS (v := lV []) (ok := false) hbb37 rfl (by omega) h00 hx037 (fun w' hc' => (A37.at_S hc' fun q hq => ⟨hq.1, by have := hq.2; omega⟩).rep (by simp) (by simp) (by simp)) (by
        have : (y.xs.any fun x => !decide (x.k = 4)) = true := List.any_eq_true.2 ⟨z, List.mem_of_getElem? hzi, by simp [hne]⟩
        unfold joinFM
        rw [if_neg (by simp), if_pos this]) hK
    · have heq : z.k = 4 := by simpa using heq
      refine h37.fx (i := 1) rfl rfl fun u3 hu3 => ?_
      refine hu3.ft (i := i) rfl hzi fun _ => ?_
      refine row_s fun t w40 ht hx40 => ?_
      have s40 := hx40.size
      refine append_own3 elem_s (own_chg hO hx40 fun _ _ e => e) ht (m := 1) rfl (strs_one [z.t]) (by omega) (by omega) (by omega) fun ov' w41 hO' hc41 _ => ?_
      rw [bin_add, up1 (by omega)]
      have etk : y.xs.take (i + 1) = y.xs.take i ++ [z] := by rw [List.take_add_one, hzi]; rfl
      refine ⟨⟨i + 1, ov', hlt, rfl, (hx37.trans hx40).then hc41 fun q hq e => by have := (own_in hO e).1; omega, by rw [etk, List.map_append]; exact hO', fun q hq => ?_⟩, ?_⟩
      · rw [etk] at hq
        rcases List.mem_append.1 hq with hq | hq
        · exact h4k q hq
        · rw [List.mem_singleton.1 hq]; exact heq
      · show y.xs.length - ((i + 1 : Nat) : Int).toNat < y.xs.length - ((i : Nat) : Int).toNat
        simp only [Int.toNat_natCast]
        omega
  · obtain rfl : i = y.xs.length := by omega
    rw [List.take_length] at hO h4k
    refine h37.ft (i := 0) rfl rfl fun _ => ?_
    have hS : SlAt w37 ST ov (y.xs.map (·.t)).length ((y.xs.map (·.t)).map str) := by rw [List.map_map, List.length_map]; exact hO.sl
    have hq : ∀ q ∈ y.xs.map (·.t), q.length ≤ 16384 := fun q hq => by obtain ⟨z, hz, rfl⟩ := List.mem_map.1 hq; exact hit z hz
    have hjl : ∀ i, (Lib.join ((y.xs.map (·.t)).take i) x.t).length ≤ 100000000 := fun i => by
      refine Nat.le_trans (join_lenC x.t 16384 _ fun q hq' => hq q (List.mem_of_mem_take hq')) ?_
      refine Nat.le_trans (Nat.mul_le_mul (show _ ≤ 2000 by rw [List.length_take, List.length_map]; omega) (show 16384 + x.t.length ≤ 32768 by omega)) (by decide)
    refine joinedC_ref hS (by rw [List.length_map]; omega) (fun i => Nat.le_trans (hjl i) (by decide)) (by omega) (fun q hq' => by have := hq q hq'; omega) fun w42 hx42 => ?_
    refine text_ref2 fun w43 hx43 => ?_
    have hxx := hx42.trans hx43
    have hjf := hjl (y.xs.map (·.t)).length
    rw [List.take_length] at hjf
    exact ansS (v := tV (Lib.join (y.xs.map (·.t)) x.t)) (ok := true) (hxx.at hbb37 id) rfl (by omega) h00 (hx037.trans hxx) (fun w' _ => (flat_rep (G := fun _ => True) (by omega)).rep) (by
      have : (y.xs.any fun x => !decide (x.k = 4)) = false := List.any_eq_false.2 fun z hz => by simp [h4k z hz]
      unfold joinFM
      rw [if_pos rfl, if_neg (by rw [this]; simp)]) hK
theorem more_concat {sv : Value} {w0 w : World} {K : Value → World → Prop} {a : List JV} (hIt : ItemsAt w0 sv a) (h00 : Ext w0 w) (hl : a.length ≤ 1000) (hn : ∀ x ∈ a, x.xs.length ≤ 2000) (hf : (a.map (·.xs)).flatten.length ≤ 1000000) (hK : AnsS (some (concatM a)) w0 w K) : callF Tryz.prog 82 [str [99, 111, 110, 99, 97, 116], sv] w K := by
  have h := hIt.ext h00
  have s00 := h00.size
  refine W82_ok ?_
  unfold W82
  refine alloc_new fun b w1 hb hz1 hbb hx1 => ?_
  rw [put_int, put_nil]
  refine ⟨by simp, ?_⟩
  refine alloc_new fun p w3 hp hz3 hbp hx3 => ?_
  refine st_agg_at (l := [i64 5, .bool false, str [], .slice none 0 0, .slice none 0 0]) hbp rfl rfl rfl fun w4 hz4 hbp4 hc4 => ?_
  have hlb := at_lt hbb
  have hx14 : Ext w1 w4 := hx3.new hc4 (by omega)
  have hbb4 := hx14.at hbb id
  have hx04 := hx1.trans hx14
  have A0 : Acc w0 w4 p w4.heap.size 5 [] [] (.slice none 0 0) (.slice none 0 0) := Acc.start hbp4 (h00.trans hx04) (by omega)
  have sp := A0.size
  have h1b : b < w4.heap.size := by have := hx14.size; omega
  have h4 := h.ext hx04
  rw [bin_seq, decide_eq_false (by decide), condW_false]
  rw [bin_seq, decide_eq_false (by decide), condW_false]
  rw [bin_seq, decide_eq_false (by decide), condW_false]
  rw [bin_seq, decide_eq_false (by decide), condW_false]
  rw [bin_seq, decide_eq_true (by decide), condW_true]
  rw [h.len]
  have bnd : ∀ i, ((a.take i).map (·.xs)).flatten.length ≤ 1000000 := fun i => by
    have : (a.map (·.xs)).flatten = ((a.take i).map (·.xs)).flatten ++ ((a.drop i).map (·.xs)).flatten := by rw [← List.flatten_append, ← List.map_append, List.take_append_drop]
    rw [this, List.length_append] at hf
    omega
  refine loop_up a.length (fun i w' => ∃ ov kv, Acc w0 w' p w4.heap.size 5 ((a.take i).map (·.xs)).flatten [] ov kv ∧ Chg (fun q => q = p) w4 w') ⟨_, _, A0, Chg.refl _ _⟩ (fun i w47 g L hi ⟨ov, kv, hA, hc⟩ hL => ?_) fun w47 g L ⟨ov, kv, hA, hc⟩ => ?_
  · simp only [List.getD_cons_zero]
    rw [bin_lss, decide_eq_true (by omega), condW_true]
    have hxd : Ext w47 w47.drew := Chg.drew (Chg.refl (fun _ => False) w47)
    have hAd := hA.ext hxd
    have sc := hc.size
    have sd : w47.drew.heap.size = w47.heap.size := rfl
    obtain ⟨z, hzi⟩ : ∃ z, a[i]? = some z := ⟨_, List.getElem?_eq_getElem hi⟩
    rw [fld_ptr, add_mk]
    refine hAd.l3 ?_
    refine hIt.fx_old hAd.hx (i := i) rfl hzi fun u2 hu2 => ?_
    obtain ⟨T, L2, g1, g2⟩ := hu2.it
    have hzn := hn z (List.mem_of_getElem? hzi)
    refine hAd.app (ys := z.xs) (g1.ext hAd.hx) g2 (bnd i) (by omega) (by omega) fun ov' w49 hA' hc49 => ?_
    rw [bin_add, up1 (by omega)]
    refine hL w49 ⟨ov', kv, ?_, (hc.trans (Chg.of_ext hxd)).then hc49 fun q hq e => ?_⟩
    · have e : ((a.take (i + 1)).map (·.xs)).flatten = ((a.take i).map (·.xs)).flatten ++ z.xs := by
        rw [List.take_add_one, hzi]; simp
      rw [e]; exact hA'
    · rcases e with e | e
      · exact e
      · omega
  · simp only [List.getD_cons_zero]
    rw [bin_lss, decide_eq_false (by omega), condW_false]
    refine hA.all ?_
    rw [List.take_length] at hA
    exact ansS (v := concatM a) (ok := true) (hc.at hbb4 (by omega)) rfl (by omega) h00 (hx04.new hc (by omega)) (fun w' hc' => (hA.at_S hc' fun q hq => ⟨hq.1, by have := hq.2; omega⟩).rep (by omega) (by simp) (by simp)) (by simp) hK
theorem more_range {sv : Value} {w0 w : World} {K : Value → World → Prop} {x : JV} (hIt : ItemsAt w0 sv [x]) (h00 : Ext w0 w) (hg : goodN x.t = true) (hK : AnsS (rangeM x.t) w0 w K) : callF Tryz.prog 82 [str [114, 97, 110, 103, 101], sv] w K := by
  have h := hIt.ext h00
  have s00 := h00.size
  refine W82_ok ?_
  unfold W82
  refine alloc_new fun b w1 hb hz1 hbb hx1 => ?_
  rw [put_int, put_nil]
  refine ⟨by simp, ?_⟩
  refine alloc_new fun p w3 hp hz3 hbp hx3 => ?_
  refine st_agg_at (l := [i64 5, .bool false, str [], .slice none 0 0, .slice none 0 0]) hbp rfl rfl rfl fun w4 hz4 hbp4 hc4 => ?_
  have hlb := at_lt hbb
  have hx14 : Ext w1 w4 := hx3.new hc4 (by omega)
  have hbb4 := hx14.at hbb id
  have hx04 := hx1.trans hx14
  have A0 : Acc w0 w4 p w4.heap.size 5 [] [] (.slice none 0 0) (.slice none 0 0) := Acc.start hbp4 (h00.trans hx04) (by omega)
  have sp := A0.size
  have h1b : b < w4.heap.size := by have := hx14.size; omega
  have h4 := h.ext hx04
  rw [bin_seq, decide_eq_false (by decide), condW_false]
  rw [bin_seq, decide_eq_false (by decide), condW_false]
  rw [bin_seq, decide_eq_false (by decide), condW_false]
  rw [bin_seq, decide_eq_false (by decide), condW_false]
  rw [bin_seq, decide_eq_false (by decide), condW_false]
  rw [bin_seq, decide_eq_false (by decide), condW_false]
  rw [bin_seq, decide_eq_true (by decide), condW_true]
  refine h4.at' (i := 0) rfl rfl fun cs hcs => ?_
  refine countC_ref (most := 33) hcs hg (by omega) fun w63 hx63 => ?_
  simp only [ext_tuple]
  refine ⟨_, rfl, _, rfl, ?_⟩
  have hn : (if neg x.t = true then 0 else min (dec x.t) 33 : Nat) ≤ 33 := by split <;> omega
  generalize hnd : (if neg x.t = true then 0 else min (dec x.t) 33 : Nat) = n at *
  refine loop_up n (fun i w' => ∃ ov kv, Acc w0 w' p w4.heap.size 5 ((List.range i).map fun i : Nat => iV (i : Int)) [] ov kv ∧ Chg (fun q => q = p) w4 w') ⟨_, _, A0.ext hx63, Chg.of_ext hx63⟩ (fun i w65 g L hi ⟨ov, kv, hA, hc⟩ hL => ?_) fun w65 g L ⟨ov, kv, hA, hc⟩ => ?_
  · simp only [List.getD_cons_zero]
    rw [bin_lss, decide_eq_true (by omega), condW_true]
    have hxd : Ext w65 w65.drew := Chg.drew (Chg.refl (fun _ => False) w65)
    have hAd := hA.ext hxd
    have sc := hc.size
    rw [fld_ptr, add_mk]
    refine hAd.l3 ?_
    refine int_ref7 (by omega) (by omega) fun w66 hx66 => ?_
    have hA66 := hAd.ext hx66
    refine ⟨hA66.l3 rfl, ?_⟩
    refine row_v (cs := flat 3 false (Lib.itoa (i : Int))) rfl fun t w67 ht hx67 => ?_
    have hA67 := hA66.ext hx67
    refine ⟨hA67.l3 rfl, ?_⟩
    have hx68 := hxd.trans (hx66.trans hx67)
    have s68 := hx68.size
    refine hA67.app (ys := [iV (i : Int)]) ht (VReps.one' (flat_rep (G := fun _ => True) (Nat.le_trans (itoa_len2 (by omega) (by omega)) (by decide))).rep) (by rw [List.length_map, List.length_range]; omega) (by simp) (by omega) fun ov' w69 hA' hc69 => ?_
    rw [bin_add, up1 (by omega)]
    refine hL w69 ⟨ov', kv, ?_, (hc.trans (Chg.of_ext hx68)).then hc69 fun q hq e => ?_⟩
    · rw [List.range_succ, List.map_append]; exact hA'
    · rcases e with e | e
      · exact e
      · omega
  · simp only [List.getD_cons_zero]
    rw [bin_lss, decide_eq_false (by omega), condW_false]
    refine hA.all ?_
    simp only [isB_t, bin_leq, GdW_pure, List.getD_cons_zero, pick_gd_and]
    intro _
    refine ansS (v := lV ((List.range n).map fun i : Nat => iV (i : Int))) (hc.at hbb4 (by omega)) rfl (by omega) h00 (hx04.new hc (by omega)) (fun w' hc' => (hA.at_S hc' fun q hq => ⟨hq.1, by have := hq.2; omega⟩).rep (by rw [List.length_map, List.length_range]; omega) (by simp) (by simp)) ?_ hK
    unfold rangeM
    cases hneg : neg x.t with
    | true => simp
    | false =>
      rw [hneg] at hnd
      simp only [Bool.false_eq_true, if_false] at hnd
      by_cases h32 : 32 < dec x.t
      · have : ¬ ((n : Int) ≤ 32) := by omega
        rw [decide_eq_false this]
        simp [h32]
      · have e : n = dec x.t := by omega
        have : ((n : Int) ≤ 32) := by omega
        rw [decide_eq_true this, e]
        simp [h32]
end
end Go.Proofs.YtdkikjcpgihjlaaGreatDoor
namespace Go.Proofs.YtdkikjcpgihjlaaGreatDoor
open Go Go.Eng Go.Num Go.RowKit
set_option maxRecDepth 100000
theorem cmpZ_S {a b : Str} (ha : goodN a = true) (hb : goodN b = true) : cmpZ (num a) (num b) = cmpS a b := (cmpS_num ha hb).symm
section
variable [HX]
theorem OwnVP.repC {GG : Nat → Prop} {w0 w : World} {base : Nat} {l : List (Str × JV)} {sv kv : Value} (h : OwnVP GG w0 w base (mkO l) sv kv) (hx : Ext w0 w) (hG : ∀ q, base ≤ q → GG q) : VRepP GG w (mkO l) [i64 6, .bool false, str [], sv, kv] := by
  obtain ⟨L, h1, h2⟩ := h.items
  exact VRepP.mk (v := mkO l) h1.sl (VRepsP.chg hx (fun _ _ _ e => e) h2) h.keys.sl h.fits (fun _ q hq => hG q (own_in h1 hq).1) (fun _ q hq => hG q (own_in h.keys hq).1)
theorem more_merge {sv : Value} {w0 w : World} {K : Value → World → Prop} {a : List JV} (hIt : ItemsAt w0 sv a) (h00 : Ext w0 w) (hg : ∀ x ∈ a, GoodV x) (h6 : ∀ x ∈ a, x.k = 6) (hl : a.length ≤ 1000) (hn : (pairsL a).length ≤ 90000) (hK : AnsS (some (mergeM a)) w0 w K) : callF Tryz.prog 82 [str [109, 101, 114, 103, 101], sv] w K := by
  have h := hIt.ext h00
  have s00 := h00.size
  refine W82_ok ?_
  unfold W82
  refine alloc_new fun b w1 hb hz1 hbb hx1 => ?_
  rw [put_int, put_nil]
  refine ⟨by simp, ?_⟩
  refine alloc_new fun p w3 hp hz3 hbp hx3 => ?_
  refine st_agg_at (l := [i64 5, .bool false, str [], .slice none 0 0, .slice none 0 0]) hbp rfl rfl rfl fun w4 hz4 hbp4 hc4 => ?_
  have hlb := at_lt hbb
  have hx14 : Ext w1 w4 := hx3.new hc4 (by omega)
  have hbb4 := hx14.at hbb id
  have hx04 := hx1.trans hx14
  have A0 : Acc w0 w4 p w4.heap.size 5 [] [] (.slice none 0 0) (.slice none 0 0) := Acc.start hbp4 (h00.trans hx04) (by omega)
  have sp := A0.size
  have h1b : b < w4.heap.size := by have := hx14.size; omega
  have h4 := h.ext hx04
  rw [bin_seq, decide_eq_false (by decide), condW_false]
  rw [bin_seq, decide_eq_false (by decide), condW_false]
  rw [bin_seq, decide_eq_false (by decide), condW_false]
  rw [bin_seq, decide_eq_false (by decide), condW_false]
  rw [bin_seq, decide_eq_false (by decide), condW_false]
  rw [bin_seq, decide_eq_true (by decide), condW_true]
  rw [merge_eq] at hK
  rw [put_int, put_nil]
  refine ⟨by simp, ?_⟩
  refine alloc_new fun m w53 hm hz53 hbm hx53 => ?_
  refine st_agg_at (l := flat 6 false []) hbm rfl rfl rfl fun w54 hz54 hbm54 hc54 => ?_
  have hx54 : Ext w4 w54 := hx53.new hc54 (by omega)
  have hbb54 := hx54.at hbb4 id
  have hx054 := hx04.trans hx54
  have sw4 := hx04.size
  have s453 := hx53.size
  have hmb : b ≠ m := by omega
  have hmw : w.heap.size ≤ m := by omega
  have hbw : w.heap.size ≤ b := by omega
  rw [h.len]
  have hall : ∀ q ∈ pairsL a, q.1.length ≤ 16384 := fun q hq => by
    obtain ⟨l0, hl0, hq0⟩ := List.mem_flatten.1 hq
    obtain ⟨x, hx, rfl⟩ := List.mem_map.1 hl0
    have := List.of_mem_zip hq0
    exact keysOk_len (hg x hx).lens.2.2.2.1 _ this.1
  have hInv : ∀ ps : List (Str × JV), ps.length ≤ 90000 → ∃ l, putsM (mkO []) ps = mkO l ∧ l.length ≤ 90000 := fun ps hlen => by
    obtain ⟨l, e, r, n, _⟩ := puts_out ps (l := []) List.Pairwise.nil
    simp only [List.length_nil, Nat.zero_add] at n
    exact ⟨l, e, by omega⟩
  have hmO : ∀ l : List (Str × JV), (mkO l).ks.length = l.length ∧ (mkO l).xs.length = l.length := fun l => ⟨by show (l.map (·.1)).length = _; simp, by show (l.map (·.2)).length = _; simp⟩
  have key : ∀ (ps : List (Str × JV)) (w' : World), (∃ cs, Chg (fun q => q = m) w54 w' ∧ w'.heap[m]? = some (.cells cs.toArray VT (0, 0)) ∧ VRepP (fun q => q ≠ m ∧ (q < w0.heap.size ∨ b < q)) w' (putsM (mkO []) ps) cs) → Ext w w' := fun ps w' ⟨cs, hc, _, _⟩ => hx054.new hc hmw
  refine loop_up a.length (fun i w' => ∃ cs, Chg (fun q => q = m) w54 w' ∧ w'.heap[m]? = some (.cells cs.toArray VT (0, 0)) ∧ VRepP (fun q => q ≠ m ∧ (q < w0.heap.size ∨ b < q)) w' (putsM (mkO []) (pairsL (a.take i))) cs)
    ⟨flat 6 false [], Chg.refl _ _, hbm54, flat_rep (by simp)⟩ (fun i w56 g L hi hI hL => ?_) fun w56 g L ⟨cs, hc, hm56, hV⟩ => ?_
  · have hx56 := key _ _ hI
    simp only [List.getD_cons_zero]
    rw [bin_lss, decide_eq_true (by omega), condW_true]
    obtain ⟨x, hxi⟩ : ∃ x, a[i]? = some x := ⟨_, List.getElem?_eq_getElem hi⟩
    have hxm : x ∈ a := List.mem_of_getElem? hxi
    have hgx := hg x hxm
    have hlens := hgx.lens
    have hkx := hlens.2.2.1 (h6 x hxm)
    have epr : pairsL (a.take (i + 1)) = pairsL (a.take i) ++ x.ks.zip x.xs := by
      unfold pairsL; rw [List.take_add_one, hxi, List.map_append, List.flatten_append]; simp
    have hsubl : (pairsL (a.take (i + 1))).length ≤ 90000 := by
      refine Nat.le_trans ?_ hn
      have : pairsL a = pairsL (a.take (i + 1)) ++ pairsL (a.drop (i + 1)) := by
        unfold pairsL; rw [← List.flatten_append, ← List.map_append, List.take_append_drop]
      rw [this, List.length_append]; omega
    refine (h.ext hx56).fs (i := i) rfl hxi fun u T hu _ hul => ?_
    rw [lenl_at hu]
    refine loop_up x.ks.length (fun k w' => ∃ cs, Chg (fun q => q = m) w54 w' ∧ w'.heap[m]? = some (.cells cs.toArray VT (0, 0)) ∧ VRepP (fun q => q ≠ m ∧ (q < w0.heap.size ∨ b < q)) w' (putsM (mkO []) (pairsL (a.take i) ++ (x.ks.zip x.xs).take k)) cs)
      (by simpa using hI) (fun k w58 g L2 hk hI2 hL2 => ?_) fun w58 g L2 hI2 => ?_
    · have hx58 := key _ _ hI2
      obtain ⟨cs, hc, hm58, hV⟩ := hI2
      simp only [List.getD_cons_zero]
      rw [bin_lss, decide_eq_true (by omega), condW_true]
      have hxd : Ext w58 w58.drew := Chg.drew (Chg.refl (fun _ => False) w58)
      have hx58d := hx58.trans hxd
      have hVd := VRepP.ext' hV hxd
      refine ld_all (hxd.at hm58 id) hV.rep.len ?_
      obtain ⟨kk, hkk⟩ : ∃ kk, x.ks[k]? = some kk := ⟨_, List.getElem?_eq_getElem hk⟩
      obtain ⟨y, hy⟩ : ∃ y, x.xs[k]? = some y := ⟨_, List.getElem?_eq_getElem (by omega)⟩
      refine (h.ext hx58d).fs (i := i) rfl hxi fun u2 T2 hu2 _ _ => ?_
      refine text_ld hu2 hkk ?_
      refine hIt.fx_old (h00.trans hx58d) (i := i) rfl hxi fun u3 hu3 => ?_
      refine hu3.at_old (h00.trans hx58d) hy fun ds hds => ?_
      have hyP : VRepP (fun q => q ≠ m ∧ (q < w0.heap.size ∨ b < q)) w58.drew y ds := (VRepP.ext' (vrep_ltC hds) (h00.trans hx58d)).mono fun q _ hq => ⟨by omega, by omega⟩
      have etk : (x.ks.zip x.xs).take (k + 1) = (x.ks.zip x.xs).take k ++ [(kk, y)] := by
        have hz : (x.ks.zip x.xs)[k]? = some (kk, y) := by
          rw [List.getElem?_zip_eq_some]; exact ⟨hkk, hy⟩
        rw [List.take_add_one, hz]; rfl
      have hps : putsM (mkO []) (pairsL (a.take i) ++ (x.ks.zip x.xs).take (k + 1)) = putM (putsM (mkO []) (pairsL (a.take i) ++ (x.ks.zip x.xs).take k)) kk y := by
        rw [etk, ← List.append_assoc]
        generalize pairsL (a.take i) ++ (x.ks.zip x.xs).take k = ps
        unfold putsM
        rw [List.foldl_append]; rfl
      have hlt : (pairsL (a.take i) ++ (x.ks.zip x.xs).take (k + 1)).length ≤ 90000 := by
        rw [epr, List.length_append] at hsubl
        rw [List.length_append, List.length_take]
        omega
      obtain ⟨l1, e1, n1⟩ := hInv (pairsL (a.take i) ++ (x.ks.zip x.xs).take k) (by rw [etk, ← List.append_assoc, List.length_append] at hlt; omega)
      obtain ⟨l2, e2, n2⟩ := hInv _ hlt
      rw [hps] at e2
      obtain ⟨q1, q2⟩ := hmO l1
      have hkl : kk.length ≤ 16384 := keysOk_len hlens.2.2.2.1 _ (List.mem_of_getElem? hkk)
      refine put_refP0 hVd hyP (Chg.refl _ _) (fun _ => by rw [e1, q1, q2]) (by rw [e1, q1]; omega) (by omega) fun sv2 kv2 base w59 hx59 hbase hO => ?_
      rw [e2] at hO
      have s58 := at_lt hm58
      have sd : w58.drew.heap.size = w58.heap.size := rfl
      have hbb58 := hc.at hbb54 hmb
      have s58b := at_lt hbb58
      have hV59 := hO.repC hx59 (GG := fun q => q ≠ m ∧ (q < w0.heap.size ∨ b < q)) fun q hq => ⟨by omega, by omega⟩
      refine st_agg_at ((hxd.trans hx59).at hm58 id) rfl hV.rep.len hV59.rep.all_one fun w60 hz60 hm60 hc60 => ?_
      rw [bin_add, up1 (by omega)]
      refine hL2 w60 ⟨_, (hc.trans (Chg.of_ext (hxd.trans hx59))).trans hc60, hm60, ?_⟩
      rw [hps, e2]
      exact VRepP.chg hc60 (fun q hq _ e => hq.1 e) hV59
    · simp only [List.getD_cons_zero]
      rw [bin_lss, decide_eq_false (by omega), condW_false, bin_add, up1 (by omega)]
      refine hL w58 ?_
      rw [epr]
      have : (x.ks.zip x.xs).take x.ks.length = x.ks.zip x.xs := List.take_of_length_le (by rw [List.length_zip]; omega)
      rw [this] at hI2
      exact hI2
  · simp only [List.getD_cons_zero]
    rw [bin_lss, decide_eq_false (by omega), condW_false]
    rw [List.take_length] at hV
    have hx56 := key _ _ ⟨cs, hc, hm56, hV⟩
    refine ld_all hm56 hV.rep.len ?_
    exact ansS (v := putsM (mkO []) (pairsL a)) (ok := true) (hc.at hbb54 hmb) rfl (by omega) h00 hx56 (fun w' hc' => (VRepP.chg hc' (fun q hq _ e => by have := hq.2; omega) hV).rep) (by simp) hK
theorem more_max {sv : Value} {w0 w : World} {K : Value → World → Prop} {a : List JV} (hIt : ItemsAt w0 sv a) (h00 : Ext w0 w) (hne : a ≠ []) (hl : a.length ≤ 1000) (hg : ∀ x ∈ a, goodN x.t = true) (hK : AnsS (some (mostM 1 a)) w0 w K) : callF Tryz.prog 82 [str [109, 97, 120], sv] w K := by
  have h := hIt.ext h00
  have s00 := h00.size
  refine W82_ok ?_
  unfold W82
  refine alloc_new fun b w1 hb hz1 hbb hx1 => ?_
  rw [put_int, put_nil]
  refine ⟨by simp, ?_⟩
  refine alloc_new fun p w3 hp hz3 hbp hx3 => ?_
  refine st_agg_at (l := [i64 5, .bool false, str [], .slice none 0 0, .slice none 0 0]) hbp rfl rfl rfl fun w4 hz4 hbp4 hc4 => ?_
  have hlb := at_lt hbb
  have hx14 : Ext w1 w4 := hx3.new hc4 (by omega)
  have hbb4 := hx14.at hbb id
  have hx04 := hx1.trans hx14
  have A0 : Acc w0 w4 p w4.heap.size 5 [] [] (.slice none 0 0) (.slice none 0 0) := Acc.start hbp4 (h00.trans hx04) (by omega)
  have sp := A0.size
  have h1b : b < w4.heap.size := by have := hx14.size; omega
  have h4 := h.ext hx04
  rw [bin_seq, decide_eq_false (by decide), condW_false]
  rw [bin_seq, decide_eq_false (by decide), condW_false]
  rw [bin_seq, decide_eq_false (by decide), condW_false]
  rw [bin_seq, decide_eq_false (by decide), condW_false]
  rw [bin_seq, decide_eq_false (by decide), condW_false]
  rw [bin_seq, decide_eq_false (by decide), condW_false]
  rw [bin_seq, decide_eq_false (by decide), condW_false]
  obtain ⟨x0, r0, ha0⟩ : ∃ x r, a = x :: r := by
    cases a with
    | nil => exact absurd rfl hne
    | cons x r => exact ⟨x, r, rfl⟩
  have h0 : a[0]? = some x0 := by rw [ha0]; rfl
  refine hIt.at_old (i := 0) (h00.trans hx04) h0 fun cs0 hcs0 => ?_
  refine alloc_new fun m w74 hm hz74 hbm hx74 => ?_
  refine st_agg_at hbm hcs0.len rfl hcs0.all_one fun w75 hz75 hbm75 hc75 => ?_
  have hx75 : Ext w4 w75 := hx74.new hc75 (by omega)
  have hbb75 := hx75.at hbb4 id
  have hx075 := hx04.trans hx75
  have sw4 := hx04.size
  have s474 := hx74.size
  have hmb : b ≠ m := by omega
  have hmw : w.heap.size ≤ m := by omega
  rw [h.len]
  have hmost : mostM 1 a = a.foldl (fun b x => if 0 < cmpS x.t b.t * 1 then x else b) x0 := by unfold mostM; rw [ha0]; rfl
  rw [hmost] at hK
  refine loop_up a.length (fun i w' => ∃ best cs, best = (a.take i).foldl (fun b x => if 0 < cmpS x.t b.t * 1 then x else b) x0 ∧ best ∈ a ∧ Chg (fun q => q = m) w75 w' ∧ w'.heap[m]? = some (.cells cs.toArray VT (0, 0)) ∧ VRep w0 best cs)
    ⟨x0, cs0, by simp, List.mem_of_getElem? h0, Chg.refl _ _, hbm75, hcs0⟩ (fun i w77 g L hi ⟨best, cs, hbe, hbm, hc, hm77, hcs⟩ hL => ?_) fun w77 g L ⟨best, cs, hbe, hbm, hc, hm77, hcs⟩ => ?_
  · simp only [List.getD_cons_zero]
    have hx077 := hx075.new hc hmw
    rw [bin_lss, decide_eq_true (by omega), condW_true]
    obtain ⟨x, hxi⟩ : ∃ x, a[i]? = some x := ⟨_, List.getElem?_eq_getElem hi⟩
    have gx := hg x (List.mem_of_getElem? hxi)
    have gb := hg best hbm
    have lx := good_len9 gx
    have lb := good_len9 gb
    have hxd : Ext w77 w77.drew := Chg.drew (Chg.refl (fun _ => False) w77)
    have etk : (a.take (i + 1)).foldl (fun b x => if 0 < cmpS x.t b.t * 1 then x else b) x0 = if 0 < cmpS x.t best.t * 1 then x else best := by
      rw [List.take_add_one, hxi, hbe]
      simp only [Option.toList_some, List.foldl_append, List.foldl_cons, List.foldl_nil]
    refine JoinW.cut (fun st w' => ∃ cs', Chg (fun q => q = m) w75 w' ∧ w'.heap[m]? = some (.cells cs'.toArray VT (0, 0)) ∧ VRep w0 (if 0 < cmpS x.t best.t * 1 then x else best) cs') ?_ ?_
    · refine (h.ext (hx077.trans hxd)).ft (i := i) rfl hxi fun _ => ?_
      have hmd := hxd.at hm77 id
      rw [fld_ptr, add_mk]
      refine ld_fld (o := 0) (cs := cs) hmd (fun j _ => by simp) (by omega) (vtx hcs) ?_
      refine cmpC_ref (GN.of_good gx) (GN.of_good gb) (by omega) (by omega) fun w79 hx79 => ?_
      rw [cmpZ_S gx gb]
      simp only [bin_seq, bin_gtr, bin_lss, isB_t, isB_f, isB_gd_t, GdW_pure, GdW_nest_and, List.getD_cons_zero, pick_gd_and, pick_gd_or, decide_true, Bool.true_and]
      intros
      have hx779 := hxd.trans hx79
      rw [condW_b]
      have econd : ∀ c : Int, (decide (0 < c) || (decide (([109, 97, 120] : Str) = [109, 105, 110]) && decide (c < 0))) = decide (0 < c * 1) := fun c => by
        have e2 : decide (([109, 97, 120] : Str) = [109, 105, 110]) = false := by decide
        rw [e2, Bool.false_and, Bool.or_false, Int.mul_one]
      rw [econd]
      refine ⟨fun e => ?_, fun e => ?_⟩
      · rw [if_pos (of_decide_eq_true e)]
        refine hIt.at_old (i := i) (h00.trans (hx077.trans hx779)) hxi fun ds hds => ?_
        refine st_agg_at (hx779.at hm77 id) hds.len hcs.len hds.all_one fun w88 hz88 hm88 hc88 => ?_
        exact ⟨ds, (hc.trans (Chg.of_ext hx779)).trans hc88, hm88, hds⟩
      · rw [if_neg (of_decide_eq_false e)]
        exact ⟨cs, hc.trans (Chg.of_ext hx779), hx779.at hm77 id, hcs⟩
    rintro st g w89 ⟨cs', hc', hm', hcs'⟩
    rw [bin_add, up1 (by omega)]
    exact hL w89 ⟨_, cs', etk.symm, by split <;> first | exact List.mem_of_getElem? hxi | exact hbm, hc', hm', hcs'⟩
  · simp only [List.getD_cons_zero]
    have hx077 := hx075.new hc hmw
    rw [bin_lss, decide_eq_false (by omega), condW_false]
    rw [List.take_length] at hbe
    rw [← hbe] at hK
    refine ld_all hm77 hcs.len ?_
    exact ansS (v := best) (ok := true) (hc.at hbb75 hmb) rfl (by omega) h00 hx077 (fun w' hc' => hcs.ext ((h00.trans hx077).then hc' fun k hk e => by omega)) (by simp) hK
theorem more_min {sv : Value} {w0 w : World} {K : Value → World → Prop} {a : List JV} (hIt : ItemsAt w0 sv a) (h00 : Ext w0 w) (hne : a ≠ []) (hl : a.length ≤ 1000) (hg : ∀ x ∈ a, goodN x.t = true) (hK : AnsS (some (mostM (-1) a)) w0 w K) : callF Tryz.prog 82 [str [109, 105, 110], sv] w K := by
  have h := hIt.ext h00
  have s00 := h00.size
  refine W82_ok ?_
  unfold W82
  refine alloc_new fun b w1 hb hz1 hbb hx1 => ?_
  rw [put_int, put_nil]
  refine ⟨by simp, ?_⟩
  refine alloc_new fun p w3 hp hz3 hbp hx3 => ?_
  refine st_agg_at (l := [i64 5, .bool false, str [], .slice none 0 0, .slice none 0 0]) hbp rfl rfl rfl fun w4 hz4 hbp4 hc4 => ?_
  have hlb := at_lt hbb
  have hx14 : Ext w1 w4 := hx3.new hc4 (by omega)
  have hbb4 := hx14.at hbb id
  have hx04 := hx1.trans hx14
  have A0 : Acc w0 w4 p w4.heap.size 5 [] [] (.slice none 0 0) (.slice none 0 0) := Acc.start hbp4 (h00.trans hx04) (by omega)
  have sp := A0.size
  have h1b : b < w4.heap.size := by have := hx14.size; omega
  have h4 := h.ext hx04
  rw [bin_seq, decide_eq_false (by decide), condW_false]
  rw [bin_seq, decide_eq_false (by decide), condW_false]
  rw [bin_seq, decide_eq_false (by decide), condW_false]
  rw [bin_seq, decide_eq_false (by decide), condW_false]
  rw [bin_seq, decide_eq_false (by decide), condW_false]
  rw [bin_seq, decide_eq_false (by decide), condW_false]
  rw [bin_seq, decide_eq_false (by decide), condW_false]
  obtain ⟨x0, r0, ha0⟩ : ∃ x r, a = x :: r := by
    cases a with
    | nil => exact absurd rfl hne
    | cons x r => exact ⟨x, r, rfl⟩
  have h0 : a[0]? = some x0 := by rw [ha0]; rfl
  refine hIt.at_old (i := 0) (h00.trans hx04) h0 fun cs0 hcs0 => ?_
  refine alloc_new fun m w74 hm hz74 hbm hx74 => ?_
  refine st_agg_at hbm hcs0.len rfl hcs0.all_one fun w75 hz75 hbm75 hc75 => ?_
  have hx75 : Ext w4 w75 := hx74.new hc75 (by omega)
  have hbb75 := hx75.at hbb4 id
  have hx075 := hx04.trans hx75
  have sw4 := hx04.size
  have s474 := hx74.size
  have hmb : b ≠ m := by omega
  have hmw : w.heap.size ≤ m := by omega
  rw [h.len]
  have hmost : mostM (-1) a = a.foldl (fun b x => if 0 < cmpS x.t b.t * (-1) then x else b) x0 := by unfold mostM; rw [ha0]; rfl
  rw [hmost] at hK
  refine loop_up a.length (fun i w' => ∃ best cs, best = (a.take i).foldl (fun b x => if 0 < cmpS x.t b.t * (-1) then x else b) x0 ∧ best ∈ a ∧ Chg (fun q => q = m) w75 w' ∧ w'.heap[m]? = some (.cells cs.toArray VT (0, 0)) ∧ VRep w0 best cs)
    ⟨x0, cs0, by simp, List.mem_of_getElem? h0, Chg.refl _ _, hbm75, hcs0⟩ (fun i w77 g L hi ⟨best, cs, hbe, hbm, hc, hm77, hcs⟩ hL => ?_) fun w77 g L ⟨best, cs, hbe, hbm, hc, hm77, hcs⟩ => ?_
  · simp only [List.getD_cons_zero]
    have hx077 := hx075.new hc hmw
    rw [bin_lss, decide_eq_true (by omega), condW_true]
    obtain ⟨x, hxi⟩ : ∃ x, a[i]? = some x := ⟨_, List.getElem?_eq_getElem hi⟩
    have gx := hg x (List.mem_of_getElem? hxi)
    have gb := hg best hbm
    have lx := good_len9 gx
    have lb := good_len9 gb
    have hxd : Ext w77 w77.drew := Chg.drew (Chg.refl (fun _ => False) w77)
    have etk : (a.take (i + 1)).foldl (fun b x => if 0 < cmpS x.t b.t * (-1) then x else b) x0 = if 0 < cmpS x.t best.t * (-1) then x else best := by
      rw [List.take_add_one, hxi, hbe]
      simp only [Option.toList_some, List.foldl_append, List.foldl_cons, List.foldl_nil]
    refine JoinW.cut (fun st w' => ∃ cs', Chg (fun q => q = m) w75 w' ∧ w'.heap[m]? = some (.cells cs'.toArray VT (0, 0)) ∧ VRep w0 (if 0 < cmpS x.t best.t * (-1) then x else best) cs') ?_ ?_
    · refine (h.ext (hx077.trans hxd)).ft (i := i) rfl hxi fun _ => ?_
      have hmd := hxd.at hm77 id
      rw [fld_ptr, add_mk]
      refine ld_fld (o := 0) (cs := cs) hmd (fun j _ => by simp) (by omega) (vtx hcs) ?_
      refine cmpC_ref (GN.of_good gx) (GN.of_good gb) (by omega) (by omega) fun w79 hx79 => ?_
      rw [cmpZ_S gx gb]
      simp only [bin_seq, bin_gtr, bin_lss, isB_t, isB_f, isB_gd_t, GdW_pure, GdW_nest_and, List.getD_cons_zero, pick_gd_and, pick_gd_or, decide_true, Bool.true_and]
      intros
      have hx779 := hxd.trans hx79
      rw [condW_b]
      have econd : ∀ c : Int, ((decide (([109, 105, 110] : Str) = [109, 97, 120]) && decide (0 < c)) || decide (c < 0)) = decide (0 < c * (-1)) := fun c => by
        have e1 : decide (([109, 105, 110] : Str) = [109, 97, 120]) = false := by decide
        rw [e1, Bool.false_and, Bool.false_or]
        exact decide_eq_decide.2 (by omega)
      rw [econd]
      refine ⟨fun e => ?_, fun e => ?_⟩
      · rw [if_pos (of_decide_eq_true e)]
        refine hIt.at_old (i := i) (h00.trans (hx077.trans hx779)) hxi fun ds hds => ?_
        refine st_agg_at (hx779.at hm77 id) hds.len hcs.len hds.all_one fun w88 hz88 hm88 hc88 => ?_
        exact ⟨ds, (hc.trans (Chg.of_ext hx779)).trans hc88, hm88, hds⟩
      · rw [if_neg (of_decide_eq_false e)]
        exact ⟨cs, hc.trans (Chg.of_ext hx779), hx779.at hm77 id, hcs⟩
    rintro st g w89 ⟨cs', hc', hm', hcs'⟩
    rw [bin_add, up1 (by omega)]
    exact hL w89 ⟨_, cs', etk.symm, by split <;> first | exact List.mem_of_getElem? hxi | exact hbm, hc', hm', hcs'⟩
  · simp only [List.getD_cons_zero]
    have hx077 := hx075.new hc hmw
    rw [bin_lss, decide_eq_false (by omega), condW_false]
    rw [List.take_length] at hbe
    rw [← hbe] at hK
    refine ld_all hm77 hcs.len ?_
    exact ansS (v := best) (ok := true) (hc.at hbb75 hmb) rfl (by omega) h00 hx077 (fun w' hc' => hcs.ext ((h00.trans hx077).then hc' fun k hk e => by omega)) (by simp) hK
end
end Go.Proofs.YtdkikjcpgihjlaaGreatDoor
namespace Go.Proofs.YtdkikjcpgihjlaaGreatDoor
open Go Go.Eng Go.Num Go.RowKit
set_option maxRecDepth 100000
def tenL : List Str := [[117, 112, 112, 101, 114], [108, 111, 119, 101, 114], [115, 112, 108, 105, 116], [99, 111, 110, 116, 97, 105, 110, 115], [107, 101, 121, 115], [118, 97, 108, 117, 101, 115], [108, 111, 111, 107, 117, 112], [97, 98, 115], [116, 111, 105, 110, 116], [116, 111, 115, 116, 114, 105, 110, 103]]
def fitAt (t : Str) (i : Nat) (x : JV) : Bool := decide (kindM (if manyM t then t.getD 0 0 else t.getD i 0) < 0) || decide (x.k = kindM (if manyM t then t.getD 0 0 else t.getD i 0))
theorem fnX_many : ∀ e ∈ fnX, manyM e.2.1.takes = true → e.2.1.takes = [e.2.1.takes.getD 0 0, 46] := by decide
theorem fnX_least : ∀ e ∈ fnX, e.2.1.least = if e.2.1.takes = [110, 46] then 1 else 0 := by decide
theorem fnX_ne : ∀ e ∈ fnX, e.2.1.takes ≠ [] := by decide
theorem zip_all {p : JV × UInt8 → Bool} : ∀ {a : List JV} {t : Str}, (a.zip t).all p = true ↔ ∀ (i : Nat) (x : JV) (c : UInt8), a[i]? = some x → t[i]? = some c → p (x, c) = true
  | [], _ => by simp
  | _ :: _, [] => by simp
  | x :: a, c :: t => by
    rw [List.zip_cons_cons, List.all_cons, Bool.and_eq_true, zip_all (a := a) (t := t)]
    constructor
    · rintro ⟨h1, h2⟩ i y d hy hd
      cases i with
      | zero => cases hy; cases hd; exact h1
      | succ i => exact h2 i y d (by simpa using hy) (by simpa using hd)
    · intro h
      exact ⟨h 0 x c rfl rfl, fun i y d hy hd => h (i + 1) y d (by simpa using hy) (by simpa using hd)⟩
theorem fits_at {e : Str × FnM × FuncId} (he : e ∈ fnX) {a : List JV} : fitsM e.2.1 a = true ↔ (manyM e.2.1.takes = false → a.length = e.2.1.takes.length) ∧ (e.2.1.takes = [110, 46] → a.length ≠ 0) ∧ ∀ (i : Nat) (x : JV), a[i]? = some x → fitAt e.2.1.takes i x = true := by
  have h1 := fnX_many e he
  have h2 := fnX_least e he
  generalize hf : e.2.1 = f at *
  unfold fitsM
  cases hm : manyM f.takes with
  | true =>
    have ht := h1 hm
    generalize f.takes.getD 0 0 = c at ht
    have hk : kindsM f.takes a.length = (List.replicate a.length [c]).flatten := by unfold kindsM; rw [hm, ht]; simp
    have hlen : (List.replicate a.length [c]).flatten.length = a.length := by simp
    rw [hk, zip_rep, hlen, h2]
    have hfa : ∀ (i : Nat) (x : JV), fitAt f.takes i x = (decide (kindM c < 0) || decide (x.k = kindM c)) := fun i x => by unfold fitAt; rw [hm, ht]; rfl
    simp only [Bool.and_eq_true, decide_eq_true_eq, List.all_map]
    constructor
    · rintro ⟨⟨_, g2⟩, g3⟩
      refine ⟨(fun h => by cases h), fun h h0 => ?_, fun i x hx => ?_⟩
      · rw [if_pos h] at g2; omega
      · rw [hfa]; exact List.all_eq_true.1 g3 x (List.mem_of_getElem? hx)
    · rintro ⟨_, g2, g3⟩
      refine ⟨⟨trivial, ?_⟩, List.all_eq_true.2 fun x hx => ?_⟩
      · split
        · rename_i h; have := g2 h; omega
        · omega
      · obtain ⟨i, hi⟩ := List.getElem?_of_mem hx
        have := g3 i x hi
        rw [hfa] at this
        exact this
  | false =>
    have hk : kindsM f.takes a.length = f.takes := by unfold kindsM; rw [hm]; rfl
    have hn : f.takes ≠ [110, 46] := fun e => by rw [e] at hm; cases hm
    rw [hk, h2, if_neg hn]
    simp only [Bool.and_eq_true, decide_eq_true_eq, zip_all]
    have hfa : ∀ (i : Nat) (x : JV) (c : UInt8), f.takes[i]? = some c → fitAt f.takes i x = (decide (kindM c < 0) || decide (x.k = kindM c)) := fun i x c hc => by
      unfold fitAt
      simp only [hm, Bool.false_eq_true, if_false]
      rw [List.getD_eq_getElem?_getD, hc]; rfl
    constructor
    · rintro ⟨⟨g1, _⟩, g3⟩
      refine ⟨fun _ => g1, fun h => absurd h hn, fun i x hx => ?_⟩
      obtain ⟨c, hc⟩ : ∃ c, f.takes[i]? = some c := ⟨_, List.getElem?_eq_getElem (by rw [← g1]; exact (List.getElem?_eq_some_iff.1 hx).1)⟩
      rw [hfa i x c hc]
      exact g3 i x c hx hc
    · rintro ⟨g1, _, g3⟩
      refine ⟨⟨g1 trivial, by omega⟩, fun i x c hx hc => ?_⟩
      have := g3 i x hx
      rw [hfa i x c hc] at this
      exact this
section
variable [HX]
theorem ans_via {nm : Str} {sv : Value} {w0 w : World} {K : Value → World → Prop} {r : Option JV} (hn : ∀ s ∈ tenL, nm ≠ s) (h00 : Ext w0 w) (hm : ∀ {w1 : World} {K : Value → World → Prop}, Ext w0 w1 → AnsS r w0 w1 K → callF Tryz.prog 82 [str nm, sv] w1 K) (hK : AnsS r w0 w K) :
    callF Tryz.prog 37 [str nm, sv] w K := by
  refine W37_ok ?_
  unfold W37
  refine alloc_new fun b w1 hb hz1 hbb hx1 => ?_
  have hlb := at_lt hbb
  rw [bin_seq, decide_eq_false (hn _ (by simp [tenL])), condW_false]
  rw [bin_seq, decide_eq_false (hn _ (by simp [tenL])), condW_false]
  rw [bin_seq, decide_eq_false (hn _ (by simp [tenL])), condW_false]
  rw [bin_seq, decide_eq_false (hn _ (by simp [tenL])), condW_false]
  rw [bin_seq, decide_eq_false (hn _ (by simp [tenL])), condW_false]
  rw [bin_seq, decide_eq_false (hn _ (by simp [tenL])), condW_false]
  rw [bin_seq, decide_eq_false (hn _ (by simp [tenL])), condW_false]
  rw [bin_seq, decide_eq_false (hn _ (by simp [tenL])), condW_false]
  rw [bin_seq, decide_eq_false (hn _ (by simp [tenL])), condW_false]
  rw [bin_seq, decide_eq_false (hn _ (by simp [tenL])), condW_false]
  refine hm (h00.trans hx1) fun cs v ok w' hx' hv hst hr => ?_
  simp only [ext_tuple]
  refine ⟨_, rfl, _, rfl, ?_⟩
  exact ansS (hx'.at hbb id) rfl (by omega) h00 (hx1.trans hx') (fun w'' hc => hst _ w'' (fun q hq => ⟨hq.1, by have := hq.2; omega⟩) hc) hr hK
theorem answer_all : ∀ e ∈ fnX, ∀ {a : List JV} {sv : Value} {w0 w : World} {K : Value → World → Prop}, ItemsAt w0 sv a → Ext w0 w → FineA a → fitsM e.2.1 a = true → AnsS (e.2.1.act a) w0 w K → callF Tryz.prog 37 [str e.1, sv] w K := by
  obtain ⟨kn, ks, kl, ko, kvv⟩ := kv
  have wl : ∀ {x : JV}, goodM x = true → x.t.length ≤ 16384 := fun h => head_t (good_v h).plain
  have k6 : ∀ {x : JV}, goodM x = true → x.k ≤ 6 := fun {x} h => by
    have hp := (good_v h).plain
    rw [plainM_eq, Bool.and_eq_true] at hp
    exact (headOk_out hp.1).2.1
  intro e he
  unfold fnX at he
  simp only [List.mem_cons, List.not_mem_nil, or_false] at he
  rcases he with rfl | rfl | rfl | rfl | rfl | rfl | rfl | rfl | rfl | rfl | rfl | rfl | rfl | rfl | rfl | rfl | rfl | rfl | rfl
  all_goals intro a sv w0 w K h h00 hF hfit hK
  · obtain ⟨x, rfl, h1⟩ := fit1 (f := fn_abs) rfl (by decide) hfit
    rw [kn] at h1
    exact ans_abs h h00 (head3 (good_v (hF.good x (by simp))).plain (by omega)).1 hK
  · exact ans_via (by decide) h00 (fun hx1 hK => more_concat h hx1 (by have := hF.len; omega) (fun x hx => good_items (hF.good x hx)) (Nat.le_trans (xsflat_len a hF.good) (by have := hF.len; omega)) hK) hK
  · obtain ⟨x, y, rfl, h1, h2⟩ := fit2 (f := fn_contains) rfl (by decide) hfit
    exact ans_contains h h00 (fun z hz => ((good_v (hF.good x (by simp))).item hz).plain) (good_v (hF.good y (by simp))).plain hK
  · obtain ⟨x, y, rfl, h1, h2⟩ := fit2 (f := fn_join) rfl (by decide) hfit
    have gx := hF.good x (by simp)
    have gy := hF.good y (by simp)
    exact ans_via (by decide) h00 (fun hx1 hK => more_join h hx1 (wl gx) (good_items gy) (fun z hz => head_t ((good_v gy).item hz).plain) hK) hK
  · obtain ⟨x, rfl, h1⟩ := fit1 (f := fn_keys) rfl (by decide) hfit
    exact ans_keys h h00 (good_v (hF.good x (by simp))).lens.2.1 hK
  · obtain ⟨x, rfl, h1⟩ := fit1 (f := fn_length) rfl (by decide) hfit
    have gx := hF.good x (by simp)
    have := wl gx
    have := good_items gx
    exact ans_via (by decide) h00 (fun hx1 hK => more_length h hx1 (by omega) (by omega) (k6 gx) hK) hK
  · obtain ⟨x, y, z, rfl, h1, h2, h3⟩ := fit3 (f := fn_lookup) rfl (by decide) hfit
    exact ans_lookup h h00 (good_v (hF.good x (by simp))).lens.2.2.1 hK
  · obtain ⟨x, rfl, h1⟩ := fit1 (f := fn_lower) rfl (by decide) hfit
    have := wl (hF.good x (by simp))
    exact ans_lower h h00 (by omega) hK
  · obtain ⟨h0, h1⟩ := fitm (f := fn_max) rfl hfit
    rw [kn] at h1
    exact ans_via (by decide) h00 (fun hx1 hK => more_max h hx1 (fun e => by subst e; exact absurd h0 (by decide)) (by have := hF.len; omega) (fun x hx => (head3 (good_v (hF.good x hx)).plain (by have := h1 x hx; omega)).1) hK) hK
  · obtain ⟨h0, h1⟩ := fitm (f := fn_merge) rfl hfit
    rw [ko] at h1
    exact ans_via (by decide) h00 (fun hx1 hK => more_merge h hx1 (fun x hx => good_v (hF.good x hx)) (fun x hx => by have := h1 x hx; omega) (by have := hF.len; omega) hF.pairs hK) hK
  · obtain ⟨h0, h1⟩ := fitm (f := fn_min) rfl hfit
    rw [kn] at h1
    exact ans_via (by decide) h00 (fun hx1 hK => more_min h hx1 (fun e => by subst e; exact absurd h0 (by decide)) (by have := hF.len; omega) (fun x hx => (head3 (good_v (hF.good x hx)).plain (by have := h1 x hx; omega)).1) hK) hK
  · obtain ⟨x, rfl, h1⟩ := fit1 (f := fn_range) rfl (by decide) hfit
    rw [kn] at h1
    exact ans_via (by decide) h00 (fun hx1 hK => more_range h hx1 (head3 (good_v (hF.good x (by simp))).plain (by omega)).1 hK) hK
  · obtain ⟨x, rfl, h1⟩ := fit1 (f := fn_reverse) rfl (by decide) hfit
    have gx := hF.good x (by simp)
    have := wl gx
    have := good_items gx
    exact ans_via (by decide) h00 (fun hx1 hK => more_reverse h hx1 (by omega) (by omega) hK) hK
  · obtain ⟨x, y, rfl, h1, h2⟩ := fit2 (f := fn_split) rfl (by decide) hfit
    have := wl (hF.good x (by simp))
    have := wl (hF.good y (by simp))
    exact ans_split h h00 (by omega) (by omega) hK
  · obtain ⟨x, y, z, rfl, h1, h2, h3⟩ := fit3 (f := fn_substr) rfl (by decide) hfit
    rw [kn] at h2 h3
    have := wl (hF.good x (by simp))
    have g2 := head3 (good_v (hF.good y (by simp))).plain (by omega)
    have g3 := head3 (good_v (hF.good z (by simp))).plain (by omega)
    exact ans_via (by decide) h00 (fun hx1 hK => more_substr h hx1 (by omega) g2.1 g3.1 hK) hK
  · obtain ⟨x, rfl, h1⟩ := fit1 (f := fn_toint) rfl (by decide) hfit
    have := wl (hF.good x (by simp))
    exact ans_toint h h00 (by omega) hK
  · obtain ⟨x, rfl, h1⟩ := fit1 (f := fn_tostring) rfl (by decide) hfit
    have := wl (hF.good x (by simp))
    exact ans_tostring h h00 (by omega) hK
  · obtain ⟨x, rfl, h1⟩ := fit1 (f := fn_upper) rfl (by decide) hfit
    have := wl (hF.good x (by simp))
    exact ans_upper h h00 (by omega) hK
  · obtain ⟨x, rfl, h1⟩ := fit1 (f := fn_values) rfl (by decide) hfit
    exact ans_values h h00 hK
end
end Go.Proofs.YtdkikjcpgihjlaaGreatDoor
namespace Go.Proofs.YtdkikjcpgihjlaaGreatDoor
open Go Go.Eng Go.Num Go.RowKit
set_option maxRecDepth 100000
section
variable [HX]
theorem refcall_p {name : Str} {a : List JV} {sv : Value} {w : World} {K : Value → World → Prop} (h : ItemsAt w sv a) (hl : a.length ≤ 60) (hpr : (∀ x ∈ a, goodM x = true) → (pairsL a).length ≤ 90000)
    (hK : ∀ cs w', Ext w w' → VRep w' (callM name a).1 cs → K (.tuple #[.agg cs.toArray, i64 (callM name a).2]) w') : callF Tryz.prog 12 [str name, sv] w K := by
  refine W12_ok ?_
  unfold W12
  refine alloc_new fun b w1 hb hz1 hbb hx1 => ?_
  have hlb := at_lt hbb
  -- what is handed back
  have ends : ∀ {v : JV} {cs : List Value} {c : Int} {w' : World}, callM name a = (v, c) → Ext w1 w' → (∀ w'', Chg (fun q => q = b) w' w'' → VRep w'' v cs) →
      stW 5 (.pointer (some ⟨b, 0, none⟩)) (.agg cs.toArray) w' fun w6 => ldW true 5 (.pointer (some ⟨b, 0, none⟩)) w6 fun r7 => K (.tuple #[r7, i64 c]) w6 := fun {v cs c w'} hc hx hv => by
    rw [hc] at hK
    exact retC (w0 := w) (K := fun u w => K (.tuple #[u, i64 c]) w) (hx.at hbb id) rfl (by omega) (hx1.trans hx) hv fun w'' hx'' hv'' => hK _ w'' hx'' hv''
  have endn : ∀ {c : Int} {w' : World}, callM name a = (JV.null, c) → Ext w1 w' → putW zr5 [] fun c5 => stW 5 (.pointer (some ⟨b, 0, none⟩)) (.agg c5.toArray) w' fun w6 => ldW true 5 (.pointer (some ⟨b, 0, none⟩)) w6 fun r7 => K (.tuple #[r7, i64 c]) w6 := fun {c w'} hc hx => by
    rw [put_nil]
    exact ends hc hx fun w'' _ => vrep_null w''
  have hfw := h.few
  rw [h.len]
  refine loop_up a.length (fun i w' => Ext w1 w' ∧ ∀ x ∈ a.take i, goodM x = true) ⟨Chg.refl _ _, by simp⟩ (fun i w3 g L hi ⟨hx3, hall⟩ hL => ?_) fun w3 g L ⟨hx3, hall⟩ => ?_
  · simp only [List.getD_cons_zero]
    rw [bin_lss, decide_eq_true (by omega), condW_true]
    obtain ⟨x, hxi⟩ : ∃ x, a[i]? = some x := ⟨_, List.getElem?_eq_getElem hi⟩
    refine (h.ext (hx1.trans hx3)).at hxi fun cs hcs => ?_
    refine good_ref hcs fun w4 hx4 => ?_
    rw [un_not, condW_b]
    refine ⟨fun e => ?_, fun e => ?_⟩
    · refine endn ?_ (hx3.trans hx4)
      unfold callM
      rw [if_pos (List.any_eq_true.2 ⟨x, List.mem_of_getElem? hxi, e⟩)]
    · rw [bin_add, up1 (by omega)]
      refine hL w4 ⟨hx3.trans hx4, fun q hq => ?_⟩
      rw [List.take_add_one, hxi] at hq
      rcases List.mem_append.1 hq with hq | hq
      · exact hall q hq
      · have hq : q = x := by simpa using hq
        subst hq
        simpa using e
  · simp only [List.getD_cons_zero]
    rw [bin_lss, decide_eq_false (by omega), condW_false]
    rw [List.take_length] at hall
    have hg0 : (a.any fun x => !goodM x) = false := List.any_eq_false.2 fun x hx => by simp [hall x hx]
    refine takes_ref ?_
    rw [bin_seq, condW_dec]
    have hcall : callM name a = match lookF fnT name with
      | none => (JV.null, 70)
      | some f => if a.any (fun x => !knownM x) then (uV, 0) else if !fitsM f a then (JV.null, 71) else match f.act a with | none => (JV.null, 71) | some v => if goodM v then (v, 0) else (JV.null, 3) := by
      unfold callM
      rw [if_neg (by rw [hg0]; simp)]
      rfl
    have htk : takesM name = match lookF fnT name with | none => [] | some f => f.takes := rfl
    rw [fnT_eq, findX_T] at hcall htk
    cases hf : findX fnX name with
    | none =>
      rw [hf] at hcall htk
      simp only [Option.map_none] at hcall htk
      refine ⟨fun _ => endn hcall hx3, fun e => absurd htk e⟩
    | some v =>
      rw [hf] at hcall htk
      simp only [Option.map_some] at hcall htk
      have he : (name, v) ∈ fnX := findX_mem hf
      have hne := fnX_ne _ he
      have hfit := fits_at he (a := a)
      have hleast := fnX_least _ he
      simp only at hne hfit hleast
      rw [htk]
      refine ⟨fun e => absurd e hne, fun _ => ?_⟩
      have htl : v.1.takes.length ≤ 100 := (takes_ok _ he).2.2.1
      rw [h.len]
      refine loop_up a.length (fun i w' => Ext w1 w' ∧ ∀ x ∈ a.take i, knownM x = true) ⟨hx3, by simp⟩ (fun i w13 g L hi ⟨hx13, hkn⟩ hL => ?_) fun w13 g L ⟨hx13, hkn⟩ => ?_
      · simp only [List.getD_cons_zero]
        rw [bin_lss, decide_eq_true (by omega), condW_true]
        obtain ⟨x, hxi⟩ : ∃ x, a[i]? = some x := ⟨_, List.getElem?_eq_getElem hi⟩
        refine (h.ext (hx1.trans hx13)).at hxi fun cs hcs => ?_
        refine known_ref x hcs fun w14 hx14 => ?_
        rw [un_not, condW_b]
        refine ⟨fun e => ?_, fun e => ?_⟩
        · refine unknown_ref2 fun w15 hx15 => ?_
          refine ends (v := uV) ?_ (hx13.trans (hx14.trans hx15)) fun w'' _ => (flat_rep (G := fun _ => True) (by simp)).rep
          rw [hcall, if_pos (List.any_eq_true.2 ⟨x, List.mem_of_getElem? hxi, e⟩)]
        · rw [bin_add, up1 (by omega)]
          refine hL w14 ⟨hx13.trans hx14, fun q hq => ?_⟩
          rw [List.take_add_one, hxi] at hq
          rcases List.mem_append.1 hq with hq | hq
          · exact hkn q hq
          · have hq : q = x := by simpa using hq
            subst hq
            simpa using e
      · simp only [List.getD_cons_zero]
        rw [bin_lss, decide_eq_false (by omega), condW_false]
        rw [List.take_length] at hkn
        rw [if_neg (by rw [List.any_eq_false.2 fun x hx => by simp [hkn x hx]]; simp)] at hcall
        generalize hte : v.1.takes = t at *
        have ht0 : 0 < t.length := List.length_pos_iff.2 hne
        obtain ⟨d, hd⟩ : ∃ d, t[t.length - 1]? = some d := ⟨_, List.getElem?_eq_getElem (by omega)⟩
        simp only [lens_str]
        rw [bin_sub, wrap_id (by omega) (by omega), show ((t.length : Nat) : Int) - 1 = ((t.length - 1 : Nat) : Int) by omega]
        refine ix_b hd ?_
        have hmany : decide (((d.toNat : Nat) : Int) = 46) = manyM t := by
          unfold manyM
          rw [List.getLast?_eq_getElem?, hd]
          have := u8_same d 46
          rw [show ((46 : UInt8).toNat : Int) = 46 from rfl] at this
          rw [this]
          by_cases h : d = 46
          · subst h; rfl
          · simp [h]
        rw [bin_eql, hmany]
        have hlen : ∀ K : Value → Prop, lenlW sv K ↔ K (i64 a.length) := fun K => h.len K
        simp only [un_not, hlen, bin_neq, bin_seq, bin_eql, isB_t, isB_f, isB_gd_t, GdW_pure, GdW_nest_and, List.getD_cons_zero, pick_gd_and, pick_gd_or]
        intros
        rw [condW_b]
        have e71 : fitsM v.1 a = false → callM name a = (JV.null, 71) := fun e => by rw [hcall, e]; rfl
        have nofit : ¬ (fitsM v.1 a = true) → callM name a = (JV.null, 71) := fun e => e71 (by simpa using e)
        refine ⟨fun e => ?_, fun e => ?_⟩
        · refine endn (nofit fun hfa => ?_) hx13
          obtain ⟨g1, g2, _⟩ := hfit.1 hfa
          simp only [Bool.or_eq_true, Bool.and_eq_true, Bool.not_eq_true', decide_eq_true_eq] at e
          rcases e with ⟨e1, e2⟩ | ⟨e1, e2⟩
          · have := g1 e1; omega
          · have := g2 e1; omega
        · simp only [Bool.or_eq_false_iff, Bool.and_eq_false_iff, Bool.not_eq_false', decide_eq_false_iff_not] at e
          obtain ⟨q1, q2⟩ := e
          refine loop_up a.length (fun i w' => Ext w1 w' ∧ ∀ (j : Nat) (x : JV), j < i → a[j]? = some x → fitAt t j x = true) ⟨hx13, fun j x hj => by omega⟩ (fun i w30 g L hi ⟨hx30, hft⟩ hL => ?_) fun w30 g L ⟨hx30, hft⟩ => ?_
          · simp only [List.getD_cons_zero]
            rw [bin_lss, decide_eq_true (by omega), condW_true]
            obtain ⟨x, hxi⟩ : ∃ x, a[i]? = some x := ⟨_, List.getElem?_eq_getElem hi⟩
            obtain ⟨c0, hc0⟩ : ∃ c, t[0]? = some c := ⟨_, List.getElem?_eq_getElem ht0⟩
            refine ix_b (i := 0) hc0 ?_
            refine JoinW.cut (fun st w' => ∃ c : UInt8, st = [.int .u8 (c.toNat : Nat)] ∧ c = (if manyM t then t.getD 0 0 else t.getD i 0) ∧ w' = w30) ?_ ?_
            · rw [condW_b]
              refine ⟨fun em => ?_, fun em => ?_⟩
              · have em : manyM t = false := by simpa using em
                have hal : a.length = t.length := by
                  rcases q1 with q | q
                  · rw [em] at q; cases q
                  · omega
                obtain ⟨c, hc⟩ : ∃ c, t[i]? = some c := ⟨_, List.getElem?_eq_getElem (by omega)⟩
                refine ix_b hc ?_
                refine ⟨c, rfl, ?_, rfl⟩
                simp only [em, Bool.false_eq_true, if_false]
                rw [List.getD_eq_getElem?_getD, hc]; rfl
              · have em : manyM t = true := by simpa using em
                refine ⟨c0, rfl, ?_, rfl⟩
                rw [em, if_pos rfl, List.getD_eq_getElem?_getD, hc0]; rfl
            rintro st g w32 ⟨c, rfl, hc, rfl⟩
            simp only [List.getD_cons_zero]
            refine (h.ext (hx1.trans hx30)).at hxi fun cs hcs => ?_
            refine fitsC_ref hcs fun w33 hx33 => ?_
            have hfx : (decide (kindM c < 0) || decide (x.k = kindM c)) = fitAt t i x := by unfold fitAt; rw [← hc]
            rw [hfx, un_not, condW_b]
            refine ⟨fun e => ?_, fun e => ?_⟩
            · refine endn (nofit fun hfa => ?_) (hx30.trans hx33)
              have := (hfit.1 hfa).2.2 i x hxi
              rw [this] at e; cases e
            · rw [bin_add, up1 (by omega)]
              refine hL w33 ⟨hx30.trans hx33, fun j y hj hy => ?_⟩
              rcases Nat.lt_succ_iff_lt_or_eq.1 hj with hj | rfl
              · exact hft j y hj hy
              · rw [hxi] at hy; cases hy; simpa using e
          · simp only [List.getD_cons_zero]
            rw [bin_lss, decide_eq_false (by omega), condW_false]
            have hfa : fitsM v.1 a = true := hfit.2 ⟨fun em => by
                rcases q1 with q | q
                · rw [em] at q; cases q
                · omega, fun e1 e2 => by
                rcases q2 with q | q
                · exact q e1
                · omega, fun i x hx => hft i x (List.getElem?_eq_some_iff.1 hx).1 hx⟩
            rw [hfa] at hcall
            have hF : FineA a := ⟨hall, hl, hpr hall⟩
            refine answer_all _ he h (hx1.trans hx30) hF hfa fun cs u ok w37 hx37 hv hst hr => ?_
            simp only [ext_tuple]
            refine ⟨_, rfl, _, rfl, ?_⟩
            refine alloc_new fun p w38 hp hz38 hbp hx38 => ?_
            refine st_agg_at hbp hv.len rfl hv.all_one fun w39 hz39 hbp39 hc39 => ?_
            have s30 := hx30.size
            have hx379 : Ext w37 w39 := hx38.new hc39 (by omega)
            have hx139 := hx30.trans (hx37.trans hx379)
            have rv : ∀ {wa : World}, Ext w37 wa → ∀ w'', Chg (fun q => q = b) wa w'' → VRep w'' u cs := fun hxa w'' hc => hst (fun q => q = b) w'' (fun q e => by subst e; exact ⟨by omega, by omega⟩) ((Chg.of_ext hxa).trans hc)
            simp only [Bool.not_true, Bool.false_eq_true, if_false] at hcall
            rw [un_not, condW_b]
            refine ⟨fun e => ?_, fun e => ?_⟩
            · have e : ok = false := by simpa using e
              subst e
              rw [if_neg (by simp)] at hr
              refine endn ?_ hx139
              rw [hcall, hr]
            · have e : ok = true := by simpa using e
              subst e
              rw [if_pos rfl] at hr
              rw [hr] at hcall
              simp only at hcall
              refine ld_all hbp39 hv.len ?_
              refine good_ref (rv hx379 w39 (Chg.refl _ _)) fun w43 hx43 => ?_
              rw [un_not, condW_b]
              refine ⟨fun e => ?_, fun e => ?_⟩
              · have e : goodM u = false := by simpa using e
                refine endn ?_ (hx139.trans hx43)
                rw [hcall, if_neg (by rw [e]; simp)]
              · have e : goodM u = true := by simpa using e
                refine ld_all (hx43.at hbp39 id) hv.len ?_
                exact ends (v := u) (by rw [hcall, if_pos e]) (hx139.trans hx43) (rv (hx379.trans hx43))
theorem fcall_true {name : Str} {sv : Value} {a : List JV} {w : World} {K : Value → World → Prop} (hT : TabF w) (_hn : name.length ≤ 9223372036854775807) (h : ItemsAt w sv a) (hK : ∀ w', Ext w w' → K (.bool true) w') :
    callF Tryz.prog 3 [str name, sv] w K := by
  refine W3_ok ?_
  unfold W3
  refine fawake hT fun w1 hx1 => ?_
  rw [un_not, Bool.not_true]
  simp only [isB_f, Bool.not_false]
  refine GdW.t ?_
  refine few_p (h.ext hx1) fun r w3 hx3 hr => ?_
  have hx03 := hx1.trans hx3
  rw [un_not]
  intro g
  simp only [List.getD_cons_zero, pick_f]
  rw [condW_b]
  refine ⟨fun _ => ?_, fun hr1 => ?_⟩
  · refine fawake (hT.ext hx03) fun w5 hx5 => ?_
    exact hK w5 (hx03.trans hx5)
  have hr1 : r = true := by simpa using hr1
  obtain ⟨hl51, hcnt⟩ := hr hr1
  have hpr : (∀ x ∈ a, goodM x = true) → (pairsL a).length ≤ 90000 := fun hg => by have := hcnt hg; have := pairs_cnt a; omega
  rw [h.len]
  refine LoopW.go (fun st w' => ∃ (i : Nat) (ov : Value) (L : List Value), i ≤ a.length ∧ st = [ov, i64 (i : Nat)] ∧ Ext w3 w' ∧ Own w' w3.heap.size VT 5 ov i L ∧ VReps w (a.take i) L)
    (fun st _ => match st with | [_, .int _ i] => a.length - i.toNat | _ => 0) ⟨0, _, [], by omega, rfl, Chg.refl _ _, ⟨by simp, .inl ⟨rfl, rfl⟩⟩, by simp [VReps]⟩ ?_
  rintro st g w7 ⟨i, ov, L, hi, rfl, hx7, hO7, hr7⟩
  simp only [List.getD_cons_zero, List.getD_cons_succ]
  have hx07 := hx03.trans hx7
  rw [bin_lss, condW_dec]
  refine ⟨fun hlt => ?_, fun hge => ?_⟩
  · have hlt : i < a.length := by omega
    obtain ⟨x, hxi⟩ : ∃ x, a[i]? = some x := ⟨_, List.getElem?_eq_getElem hlt⟩
    refine h.at_old hx07 hxi fun cs hcs => ?_
    refine row_v hcs.len fun t w9 ht hx9 => ?_
    have hO9 := own_chg hO7 hx9 fun _ _ e => e
    have s7 := hx7.size
    have s79 := hx9.size
    have hglt : ∀ k, ov.ownBlock = some k → w3.heap.size ≤ k := fun k hk => (own_in hO9 hk).1
    refine append_own3 elem_v hO9 ht (m := 1) (by rw [hcs.len]) hcs.one (by omega) (by omega) (by omega) fun ov' w10 h10 hc10 hb10 => ?_
    rw [bin_add, up1 (by omega)]
    have e : a.take (i + 1) = a.take i ++ [x] := by rw [List.take_add_one, hxi]; rfl
    refine ⟨⟨i + 1, ov', L ++ cs, hlt, rfl, (hx7.trans hx9).then hc10 fun k hk e => by have := hglt k e; omega, h10, ?_⟩, by simp only [Int.toNat_natCast]; omega⟩
    rw [e]
    exact hr7.snoc hcs
  obtain rfl : i = a.length := by omega
  rw [List.take_length] at hr7
  have hW7 : ItemsAt w7 ov a := ⟨⟨VT, L, hO7.sl, hr7.ext hx07⟩, by omega⟩
  refine call_p (hT.ext hx07) hW7 (by omega) hpr fun cs w10 hx10 h10 => ?_
  simp only [ext_tuple]
  refine ⟨_, rfl, _, rfl, ?_⟩
  refine alloc_new fun p w11 hp hz11 hbp hx11 => ?_
  refine st_agg_at hbp h10.rep.len rfl h10.rep.all_one fun w12 hz12 hbp12 hc12 => ?_
  have hx1012 : Ext w10 w12 := hx11.new hc12 (by omega)
  have hx012 := hx07.trans (hx10.trans hx1012)
  refine refcall_p (h.ext hx012) (by omega) hpr fun ds w13 hx13 h13 => ?_
  simp only [ext_tuple]
  refine ⟨_, rfl, _, rfl, ?_⟩
  refine alloc_new fun q w14 hq hz14 hbq hx14 => ?_
  refine st_agg_at hbq h13.len rfl h13.all_one fun w15 hz15 hbq15 hc15 => ?_
  have hx1315 : Ext w13 w15 := hx14.new hc15 (by omega)
  have hx1215 := hx13.trans hx1315
  rw [bin_eql, decide_eq_true rfl]
  simp only [isB_t]
  refine GdW.t ?_
  refine ld_all (hx1215.at hbp12 id) h10.rep.len ?_
  refine ld_all hbq15 h13.len ?_
  refine same_ref _ ((h10.rep.ext hx1012).ext hx1215) (h13.ext hx1315) fun w17 hx17 => ?_
  rw [(same_iff _ _).2 rfl]
  intro g
  simp only [List.getD_cons_zero, pick_t]
  exact hK w17 (hx012.trans (hx1215.trans hx17))
end
end Go.Proofs.YtdkikjcpgihjlaaGreatDoor
namespace Go.Eng
open Go Go.Deep
theorem flat_get {k : Nat} : ∀ (L : List (List Value)) (i r : Nat) (y : List Value), (∀ z ∈ L, z.length = k) → r < k → L[i]? = some y → L.flatten[i * k + r]? = y[r]?
  | [], i, _, _, _, _, h => by simp at h
  | z :: L, 0, r, y, hl, hr, h => by
    simp only [List.getElem?_cons_zero, Option.some.injEq] at h
    subst h
    simp only [List.flatten_cons, Nat.zero_mul, Nat.zero_add]
    rw [List.getElem?_append_left (by rw [hl z List.mem_cons_self]; exact hr)]
  | z :: L, i + 1, r, y, hl, hr, h => by
    simp only [List.getElem?_cons_succ] at h
    have := flat_get L i r y (fun u hu => hl u (List.mem_cons_of_mem _ hu)) hr h
    rw [← this]
    simp only [List.flatten_cons]
    have hz := hl z List.mem_cons_self
    rw [List.getElem?_append_right (by rw [hz, Nat.add_mul]; omega)]
    congr 1
    rw [hz, Nat.add_mul]
    omega
theorem flat_len {k : Nat} : ∀ (L : List (List Value)), (∀ z ∈ L, z.length = k) → L.flatten.length = L.length * k
  | [], _ => by simp
  | z :: L, hl => by
    rw [List.flatten_cons, List.length_append, flat_len L fun u hu => hl u (List.mem_cons_of_mem _ hu), hl z List.mem_cons_self, List.length_cons, Nat.add_mul]
    omega
section
variable {H : Type} {enc : TypeId × Value → H} {P : Program} {w : World} {base : Nat} {spare : Nat → Bool} {held : Bool}
theorem open_rows {t e : TypeId} {k fuel : Nat} {v : Value} {d : DataW H} {ps : List MemPlace} (ht : P.underlying t = some (.slice e)) (hk : P.cellsOf e = k) (hk0 : 0 < k) (h : DataW.trod enc P w base spare held fuel t [v] = some (d, ps)) :
    ∃ p n c T m, ∃ (f : Nat → List Value) (D : Nat → DataW H) (Pl : Nat → List MemPlace), v = .slice p n c ∧ SlAt w T (.slice p n c) n ((List.range n).map f).flatten ∧
      (∀ i, i < n → (f i).length = k ∧ DataW.trod enc P w base spare held m e (f i) = some (D i, Pl i)) ∧ ((n = 0 ∧ d = .nil) ∨ ∃ rest, d = .slice ((List.range n).map D) rest) := by
  rcases open_slice ht h with ⟨hc, hx⟩ | ⟨a, len, cap, m, n, D, Pl, hc, _, hl, hm, hme, hx, hel⟩
  · cases hc
    cases hx
    refine ⟨none, 0, 0, 0, 0, fun _ => [], fun _ => .nil, fun _ => [], rfl, ?_, fun i hi => by omega, .inl ⟨rfl, rfl⟩⟩
    simpa using SlAt.nil w 0
  · cases hc
    cases hx
    have hlm : len ≤ m := by rw [hme]; split <;> omega
    obtain ⟨f, hf⟩ := choose_lt (n := len) fun i hi => hel i (by omega)
    have hfl : ∀ i, i < len → (f i).length = k := fun i hi => by rw [(World.cells?_some (hf i hi).1).2.1, hk]
    have hall : ∀ z ∈ (List.range len).map f, z.length = k := by
      intro z hz
      obtain ⟨i, hi, rfl⟩ := List.mem_map.1 hz
      exact hfl i (List.mem_range.1 hi)
    have hcell : ∀ i r, i < len → r < k → w.cell? (a.add (i * k + r)) = (f i)[r]? := by
      intro i r hi hr
      have := (World.cells?_some (hf i hi).1).2.2 r (by omega)
      rw [add_add, hk] at this
      exact this
    by_cases h0 : len = 0
    · subst h0
      refine ⟨some a, 0, cap, 0, n, f, D, Pl, rfl, ⟨some a, cap, rfl, Nat.zero_le _, (by intro e; cases e), (by simp)⟩, fun i hi => by omega, .inr ⟨_, rfl⟩⟩
    have h00 := hcell 0 0 (by omega) hk0
    have hf0 := hfl 0 (by omega)
    rw [List.getElem?_eq_getElem (by omega)] at h00
    obtain ⟨c, T, fr, hb, hsp⟩ : ∃ c T fr, w.heap[a.block]? = some (.cells c T fr) ∧ a.spot = none := by
      unfold World.cell? at h00
      have e1 : (a.add (0 * k + 0)).block = a.block := by unfold Addr.add; split <;> rfl
      have e2 : (a.add (0 * k + 0)) = a := by unfold Addr.add; simp
      rw [e2] at h00
      split at h00
      · rename_i c T fr hb
        refine ⟨c, T, fr, hb, ?_⟩
        cases hs : a.spot with
        | none => rfl
        | some _ => simp [hs] at h00
      · cases h00
    obtain ⟨b, off, sp⟩ := a
    simp only at hsp hb
    subst hsp
    refine ⟨some ⟨b, off, none⟩, len, cap, T, n, f, D, Pl, rfl, ⟨_, _, rfl, hl, (by intro e; cases e), fun _ => ⟨b, off, c, fr, rfl, hb, fun j hj => ?_⟩⟩, fun i hi => ⟨hfl i hi, (hf i hi).2⟩, .inr ⟨_, rfl⟩⟩
    rw [flat_len _ hall, List.length_map, List.length_range] at hj
    have hi : j / k < len := by rw [Nat.div_lt_iff_lt_mul hk0]; exact hj
    have hr : j % k < k := Nat.mod_lt _ hk0
    have hjj : j / k * k + j % k = j := by rw [Nat.mul_comm]; exact Nat.div_add_mod j k
    have h1 := hcell (j / k) (j % k) hi hr
    rw [hjj, add_mk, cell_eq, hb, cellO_some] at h1
    have h2 := flat_get ((List.range len).map f) (j / k) (j % k) (f (j / k)) hall hr (by simp [hi])
    rw [hjj] at h2
    rw [h1, h2]
end
end Go.Eng
namespace Go.Proofs.YtdkikjcpgihjlaaGreatDoor
open Go Go.Eng Go.Num Go.Deep
set_option maxRecDepth 100000
instance : Inhabited JV := ⟨JV.null⟩
theorem vreps_map {w : World} {X : Nat → JV} {f : Nat → List Value} : ∀ (l : List Nat), (∀ i ∈ l, VRep w (X i) (f i)) → VReps w (l.map X) (l.map f).flatten
  | [], _ => by simp [VReps]
  | i :: l, h => by
    simp only [List.map_cons, List.flatten_cons, VReps]
    exact ⟨_, _, rfl, h i List.mem_cons_self, vreps_map l fun j hj => h j (List.mem_cons_of_mem _ hj)⟩
section
variable {H : Type} {enc : TypeId × Value → H} {w : World} {base : Nat} {spare : Nat → Bool} {held : Bool}
theorem open_len {P : Program} {t e : TypeId} {fuel : Nat} {p : Option Addr} {n c : Nat} {x : DataW H × List MemPlace} (ht : P.underlying t = some (.slice e)) (h : DataW.trod enc P w base spare held fuel t [.slice p n c] = some x) : n ≤ 9223372036854775807 := by
  rcases Deep.open_slice ht h with ⟨hc, _⟩ | ⟨a, len, cap, m, n', D, Pl, hc, _, hl, hm, _⟩
  · cases hc; omega
  · cases hc; unfold maxLen at hm; omega
theorem open_texts {P : Program} {t e : TypeId} {fuel : Nat} {v : Value} {d : DataW H} {ps : List MemPlace} (ht : P.underlying t = some (.slice e)) (he : P.underlying e = some .string) (hk : P.cellsOf e = 1) (h : DataW.trod enc P w base spare held fuel t [v] = some (d, ps)) :
    ∃ (T : TypeId) (l : List Str), SlAt w T v l.length (l.map str) ∧ l.length ≤ 9223372036854775807 ∧ ∀ s ∈ l, s.length ≤ 9223372036854775807 := by
  obtain ⟨p, n, c, T, m, f, D, Pl, rfl, hs, hf, hd⟩ := open_rows ht hk (by omega) h
  have hn := open_len ht h
  have hex : ∀ i, i < n → ∃ b : Str, f i = [str b] ∧ b.length ≤ 9223372036854775807 := by
    intro i hi
    obtain ⟨s, hx, _, hw⟩ := DataW.trod_string he (hf i hi).2
    refine ⟨s.data.toList, by rw [hx]; simp [ofL], ?_⟩
    unfold maxLen at hw
    simpa using hw
  obtain ⟨g, hg⟩ := choose_lt hex
  have hfl : ((List.range n).map f).flatten = ((List.range n).map g).map str := by
    have : (List.range n).map f = (List.range n).map fun i => [str (g i)] := List.map_congr_left fun i hi => (hg i (List.mem_range.1 hi)).1
    rw [this]
    simp only [List.map_map]
    generalize List.range n = L
    induction L with
    | nil => rfl
    | cons a L ih => simp only [List.map_cons, List.flatten_cons, ih, Function.comp_apply]; rfl
  rw [hfl] at hs
  refine ⟨T, (List.range n).map g, by simpa using hs, by simpa using hn, fun s hs => ?_⟩
  obtain ⟨i, hi, rfl⟩ := List.mem_map.1 hs
  exact (hg i (List.mem_range.1 hi)).2
theorem open_val : ∀ (N fuel : Nat) (cs : List Value) (d : DataW H) (ps : List MemPlace), SizeOf.sizeOf d < N → DataW.trod enc Tryz.prog w base spare held fuel VT cs = some (d, ps) → ∃ v : JV, VRep w v cs
  | 0, _, _, _, _, h, _ => by omega
  | N + 1, fuel, cs, d, ps, hN, h => by
    obtain ⟨xs, n, hn, hx, hl, hlen, hf⟩ := DataW.trod_struct Tryz.underlying28 h
    have hl5 : cs.length = 5 := hl.trans (show Tryz.prog.cellsOf VT = 5 by kernel_rfl)
    have k0 : Tryz.prog.cellsOf 25 = 1 := by kernel_rfl
    have k1 : Tryz.prog.cellsOf 4 = 1 := by kernel_rfl
    have k2 : Tryz.prog.cellsOf 9 = 1 := by kernel_rfl
    have k3 : Tryz.prog.cellsOf 22 = 1 := by kernel_rfl
    have k4 : Tryz.prog.cellsOf 26 = 1 := by kernel_rfl
    match cs, hl5 with
    | [c0, c1, c2, c3, c4], _ =>
    have f0 : DataW.trod enc Tryz.prog w base spare held n 25 (([c0, c1, c2, c3, c4].drop 0).take (Tryz.prog.cellsOf 25)) = xs[0]? := hf 0 _ rfl
    rw [k0] at f0
    have f0 : DataW.trod enc Tryz.prog w base spare held n 25 [c0] = xs[0]? := f0
    have f1 : DataW.trod enc Tryz.prog w base spare held n 4 (([c0, c1, c2, c3, c4].drop 1).take (Tryz.prog.cellsOf 4)) = xs[1]? := hf 1 _ rfl
    rw [k1] at f1
    have f1 : DataW.trod enc Tryz.prog w base spare held n 4 [c1] = xs[1]? := f1
    have f2 : DataW.trod enc Tryz.prog w base spare held n 9 (([c0, c1, c2, c3, c4].drop 2).take (Tryz.prog.cellsOf 9)) = xs[2]? := hf 2 _ rfl
    rw [k2] at f2
    have f2 : DataW.trod enc Tryz.prog w base spare held n 9 [c2] = xs[2]? := f2
    have f3 : DataW.trod enc Tryz.prog w base spare held n 22 (([c0, c1, c2, c3, c4].drop 3).take (Tryz.prog.cellsOf 22)) = xs[3]? := hf 3 _ rfl
    rw [k3] at f3
    have f3 : DataW.trod enc Tryz.prog w base spare held n 22 [c3] = xs[3]? := f3
    have f4 : DataW.trod enc Tryz.prog w base spare held n 26 (([c0, c1, c2, c3, c4].drop 4).take (Tryz.prog.cellsOf 26)) = xs[4]? := hf 4 _ rfl
    rw [k4] at f4
    have f4 : DataW.trod enc Tryz.prog w base spare held n 26 [c4] = xs[4]? := f4
    have hlen : xs.length = 5 := hlen
    match xs, hlen with
    | [y0, y1, y2, y3, y4], _ =>
    simp only [List.getElem?_cons_zero, List.getElem?_cons_succ] at f0 f1 f2 f3 f4
    obtain ⟨a0, h0, _, _⟩ := DataW.trod_int Tryz.underlying25 f0
    obtain ⟨a1, h1, _⟩ := DataW.trod_bool Tryz.underlying4 f1
    obtain ⟨a2, h2, _, w2⟩ := DataW.trod_string Tryz.underlying9 f2
    obtain ⟨T4, ks, h4, l4, b4⟩ := open_texts Tryz.underlying26 Tryz.underlying9 k2 f4
    obtain ⟨p, m, c, T3, m3, f, D, Pl, rfl, h3, hel, hd⟩ := open_rows (k := 5) Tryz.underlying22 (by kernel_rfl) (by omega) f3
    have l3 := open_len Tryz.underlying22 f3
    cases h0; cases h1; cases h2
    have hd3 : SizeOf.sizeOf y3.1 < SizeOf.sizeOf d := by
      have : d = .agg [y0.1, y1.1, y2.1, y3.1, y4.1] := by cases hx; rfl
      rw [this]
      simp
      omega
    have each : ∀ i, i < m → ∃ v : JV, VRep w v (f i) := fun i hi => by
      refine open_val N m3 (f i) (D i) (Pl i) ?_ (hel i hi).2
      rcases hd with ⟨e, _⟩ | ⟨rest, e⟩
      · omega
      · have hmem : D i ∈ (List.range m).map D := List.mem_map.2 ⟨i, List.mem_range.2 hi, rfl⟩
        have h1 := List.sizeOf_lt_of_mem hmem
        rw [e] at hd3
        simp at hd3
        omega
    obtain ⟨X, hX⟩ := choose_lt each
    have hreps : VReps w ((List.range m).map X) ((List.range m).map f).flatten := vreps_map _ fun i hi => hX i (List.mem_range.1 hi)
    have ea : (Value.string a2) = str a2.data.toList := by simp [ofL]
    rw [ea]
    refine ⟨.mk a0 a1 a2.data.toList ((List.range m).map X) ks, VRep.mk (v := .mk a0 a1 a2.data.toList ((List.range m).map X) ks) (by simpa [JV.xs] using h3) hreps h4 ⟨by simpa [JV.xs] using l3, l4, ?_, b4⟩⟩
    unfold maxLen at w2
    simpa [JV.t] using w2
end
end Go.Proofs.YtdkikjcpgihjlaaGreatDoor
namespace Go.Proofs.YtdkikjcpgihjlaaGreatDoor
open Go Go.Eng Go.Num Go.Deep
set_option maxRecDepth 100000
section
variable {H : Type} {enc : TypeId × Value → H} {w : World} {base : Nat} {spare : Nat → Bool} {held : Bool}
theorem fopen_vs {v : Value} {d : DataW H} {ps : List MemPlace} {r : Reach} {b0 : Nat} (hval : Value.okWide Tryz.prog w r b0 22 v) (h : DataW.Trod enc Tryz.prog w base spare held 22 v d ps) : ∃ l : List JV, ItemsAt w v l := by
  obtain ⟨fuel, h⟩ := h
  obtain ⟨a, len, cap, rfl⟩ := Go.WideShapes.okWide_slice Tryz.underlying22 hval
  have hone : (Value.slice a len cap).cells.toList = [Value.slice a len cap] := rfl
  rw [hone] at h
  have l3 := open_len Tryz.underlying22 h
  obtain ⟨p, m, c, T3, m3, f, D, Pl, e, h3, hel, hd⟩ := open_rows (k := 5) Tryz.underlying22 (by kernel_rfl) (by omega) h
  cases e
  have each : ∀ i, i < len → ∃ v : JV, VRep w v (f i) := fun i hi => open_val _ m3 (f i) (D i) (Pl i) (Nat.lt_succ_self _) (hel i hi).2
  obtain ⟨X, hX⟩ := choose_lt each
  exact ⟨(List.range len).map X, ⟨_, _, by rw [List.length_map, List.length_range]; exact h3, vreps_map _ fun i hi => hX i (List.mem_range.1 hi)⟩, by rw [List.length_map, List.length_range]; exact l3⟩
end
end Go.Proofs.YtdkikjcpgihjlaaGreatDoor
namespace Go.Proofs.YtdkikjcpgihjlaaGreatDoor
open Go Go.RowKit Go.Eng
set_option maxRecDepth 100000
theorem ftab_reads {P : Program} {w : World} {name : String} {k : IntKind} {zs : List Int} {g : Nat} {t e : TypeId} {n : Nat} (hg : P.globalNamed name = some g) (hty : (P.globals[g]?).map (·.type) = some t) (ht : P.underlying t = some (.array n e)) (he : P.underlying e = some (.int k)) (hce : P.cellsOf e = 1) (hct : P.cellsOf t = n)
    (h : Lib.VarReads P w name (Lib.tabData k zs)) : Lib.TabIs P w name k zs := by
  obtain ⟨g', t', cs, fuel, p, hg', ht', hvar, hd⟩ := h
  obtain rfl := Option.some.inj (hg.symm.trans hg')
  obtain rfl := Option.some.inj (hty.symm.trans ht')
  unfold Lib.TabIs
  rw [hvar, ← Lib.cells_of_tab ht he hce hct hd]
theorem ftrod_iface {P : Program} {w : World} {fuel : Nat} {t : TypeId} {cs : List Value} {s : String} {x : DataW Unit} {p : List MemPlace} {m : Array TypeId} (ht : ∃ m, P.underlying t = some (.interface m)) (h : DataW.trod (fun _ => ()) P w 0 (fun _ => true) false fuel t cs = some (.iface s x, p)) : ∃ u v, cs = [.iface u v] := by
  obtain ⟨m, ht⟩ := ht
  cases fuel with
  | zero => cases h
  | succ fuel =>
    unfold DataW.trod at h
    rw [ht] at h
    match cs, h with
    | [], h => cases h
    | [v], h =>
      cases v with
      | iface u v => exact ⟨u, v, rfl⟩
      | _ => cases h
    | a :: b :: r, h => simp at h
theorem ftab_err {w : World} {nm : String} {g : Nat} {x : DataW Unit} {s : String} (hg : Tryz.prog.globalNamed nm = some g) (hty : (Tryz.prog.globals[g]?).map (·.type) = some 106) (h : Lib.VarReads Tryz.prog w nm (.iface s x)) : ∃ T v, w.cell? ⟨g, 0, none⟩ = some (.iface T v) := by
  obtain ⟨g', t', cs, fuel, p, hg', ht', hvar, hd⟩ := h
  obtain rfl := Option.some.inj (hg.symm.trans hg')
  obtain rfl := Option.some.inj (hty.symm.trans ht')
  obtain ⟨u, v, hcs⟩ := ftrod_iface (m := #[]) ⟨_, Tryz.underlying106⟩ hd
  have := World.var?_cell hg hvar 0
  refine ⟨u, v, ?_⟩
  rw [this]
  have e : cs = #[.iface u v] := by
    apply Array.ext'
    rw [hcs]
  rw [e]; rfl
theorem tabf_of {w : World} (hL : laidMetH Tryz.prog Rows.funcsNamesRow.laid w) (hsh : w.ShapedOpen Tryz.prog) : TabF w := by
  have h : laidMet Tryz.prog Rows.funcsNamesRow.laid w := by
    rw [Go.MakeChecks.laidMetH_plain _ _ _ (by kernel_rfl)] at hL
    exact hL
  have r : ∀ n d, (n, d) ∈ Rows.funcsNamesRow.laid → Lib.VarReads Tryz.prog w n d := fun n d hm => Lib.laidMet.reads h hm
  have r2 : Lib.VarReads Tryz.prog w "internal/strconv.uint64pow10" (Lib.tabData .u64 Lib.pow10Tab) := r _ _ (.tail _ (.tail _ (.head _)))
  have r4 : Lib.VarReads Tryz.prog w "strconv.ErrRange" Rows.laid_strconv_ErrRange := r _ _ (.tail _ (.tail _ (.tail _ (.tail _ (.head _)))))
  have r5 : Lib.VarReads Tryz.prog w "strconv.ErrSyntax" Rows.laid_strconv_ErrSyntax := r _ _ (.tail _ (.tail _ (.tail _ (.tail _ (.tail _ (.head _))))))
  refine ⟨?_, ftab_err (by kernel_rfl) (by kernel_rfl) r5, ftab_err (by kernel_rfl) (by kernel_rfl) r4, ?_⟩
  · exact ftab_reads (g := 5) (t := 199) (e := 122) (n := 20) (by kernel_rfl) (by kernel_rfl) (by kernel_rfl) (by kernel_rfl) (by kernel_rfl) (by kernel_rfl) r2
  · exact Go.Proofs.cell_of_shapedOpen_int (t := 3) (zero := #[.int .i64 0]) hsh (of_decide_eq_true (by kernel_rfl)) (by kernel_rfl) rfl (by kernel_rfl) (by kernel_rfl) Tryz.underlying3
theorem handed_and_shaped {H : Type} {enc : TypeId × Value → H} {a : Assume} {C : Checked} {os : Os} {f : FuncId} {fn : Func} {s : ChangeSpec} {conds : List PathCond} {apart fresh handsOn again : Bool} {X : World → Array Value → Prop}
    (hX : ∀ (w w' : World) (args : Array Value), w.heap = w'.heap → X w args → X w' args)
    (own : ownKnob C.prog.godebug = none) (started : os.Started) (noInit : C.prog.inits.idxOf? f = none) (hfn : C.prog.funcs[f]? = some fn)
    (witness : ∃ (w : World) (tape : Tape) (i : Input), w.os = os ∧ (w.forCall tape i).Shaped C.prog ∧ i.vars = [] ∧ Input.okWide C.prog (w.forCall tape i) .any w.heap.size f i ∧
      ((s.pre enc C.prog fn conds apart (w.forCall tape i).memory i.args ∧ X (w.forCall tape i).memory i.args) ∧ sizedMet enc C.prog fn (OpenSpec.ofChange s) apart (w.forCall tape i).memory i.args) ∧ a.holds C.prog (lone (Frame.enter C.prog f i.args .normal) [] (w.forCall tape i)))
    (contract : ∀ (W : World) (base : Nat) (args : Array Value) (ds gs : List (DataW H)) (before : List MemPlace),
      (∀ (j : Nat) t v, fn.params[j]? = some t → args[j]? = some v → Value.okWide C.prog W .any base t v) →
      DataW.Whole enc C.prog fn.params.toList s.vars apart W args.toList ds gs before →
      conds.all (PathCond.test C.prog ⟨fn.params.toList, ds, s.plain.varTypes C.prog, gs⟩) = true →
      (DataW.weightsEach C.prog (fn.params.toList ++ s.plain.varTypes C.prog) (ds ++ gs)).all (· ≤ reachBytes) = true → X W args → W.ShapedOpen C.prog →
      a.holds C.prog (lone (Frame.enter C.prog f args .normal) [] W) →
      Calls C.prog f args W fun e W' => ∃ v, e = .returned v ∧ s.post enc C.prog fn apart fresh handsOn again W args v W') :
    ReturnsInHanded a C os f .any (fun w args => (s.pre enc C.prog fn conds apart w args ∧ X w args) ∧ sizedMet enc C.prog fn (OpenSpec.ofChange s) apart w args) (s.post enc C.prog fn apart fresh handsOn again) := by
  refine returnsInHanded_of_calls own started noInit witness ?_
  intro w tape i _ hsh _ hok hpre hholds
  obtain ⟨_, _, _, fn', hfn', _, _, _, _, hval⟩ := hok
  have e : fn' = fn := Option.some.inj (hfn'.symm.trans hfn)
  subst e
  obtain ⟨⟨⟨ds, gs, before, hw, hc⟩, hx⟩, hz⟩ := hpre
  have hw' := DataW.Whole.of_heap (w' := w.forCall tape i) (by rfl) hw
  refine (contract (w.forCall tape i) w.heap.size i.args ds gs before hval hw' hc (hz.weights hw) (hX _ _ _ (by rfl) hx) hsh hholds).mono fun e W' ⟨v, he, hp⟩ => ?_
  subst he
  exact ChangeSpec.post_blind hp
section
variable {H : Type} {enc : TypeId × Value → H} {w : World} {base : Nat} {spare : Nat → Bool} {held : Bool}
theorem fopen_s {v : Value} {d : DataW H} {ps : List MemPlace} {r : Reach} {b0 : Nat} (hval : Value.okWide Tryz.prog w r b0 9 v) (h : DataW.Trod enc Tryz.prog w base spare held 9 v d ps) : ∃ s : Str, v = str s ∧ s.length ≤ 9223372036854775807 := by
  obtain ⟨s, rfl, _, _, hs⟩ := Go.ChangeMaps.open_string Tryz.underlying9 hval h
  exact ⟨s.data.toList, by simp [ofL], by unfold maxLen at hs; simpa using hs⟩
end
end Go.Proofs.YtdkikjcpgihjlaaGreatDoor
