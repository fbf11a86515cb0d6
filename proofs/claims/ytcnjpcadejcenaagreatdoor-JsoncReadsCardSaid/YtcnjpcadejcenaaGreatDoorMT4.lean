/- One plain sentence: weakest preconditions, contracts and plain laws that the claim rests on, text behind text. Conditions: those that each states. -/
import Derived.Test.YtcnjpcadejcenaaGreatDoorMT3
import Derived.Test.YtcnjpcadejcenaaGreatDoorMT1
import Derived.Laws.IdiomCopy
import Derived.Lib.Overlaps
import Derived.Lib.AppendZerosOnto
import Derived.Laws.Externs
import Derived.Test.YtcnjpcadejcenaaGreatDoorMT2
set_option linter.all false
set_option linter.unusedSimpArgs false
set_option linter.unusedVariables false
set_option linter.unusedSectionVars false
namespace Go.Proofs.YtcnjpcadejcenaaGreatDoor
open Go Go.Eng Go.RowKit
set_option maxRecDepth 100000
theorem hexM_four {s : Str} {a : Nat} (hl : a + 6 ≤ s.length) (hu : (s.drop a).take 2 = [92, 117]) : hexM s a = if ((s.drop (a + 2)).take 4).all isHex = true then (hexN ((s.drop (a + 2)).take 4) : Int) else -1 := by
  have hlen : (s.drop a).length = s.length - a := List.length_drop
  match hd : s.drop a, hlen with
  | [], h | [_], h | [_, _], h | [_, _, _], h | [_, _, _, _], h | [_, _, _, _, _], h => exact absurd h (by simp; omega)
  | b0 :: b1 :: c0 :: c1 :: c2 :: c3 :: r, _ =>
    have e2 : s.drop (a + 2) = c0 :: c1 :: c2 :: c3 :: r := drop_app (l := [b0, b1]) hd
    rw [hd] at hu
    simp only [List.take_succ_cons, List.take_zero, List.cons.injEq, and_true] at hu
    obtain ⟨rfl, rfl⟩ := hu
    have e4 : (s.drop (a + 2)).take 4 = [c0, c1, c2, c3] := by rw [e2]; rfl
    rw [hexM_at hd, e4]
    unfold hexM
    rw [show byteM [92, 117, c0, c1, c2, c3] 0 = 92 from rfl, show byteM [92, 117, c0, c1, c2, c3] (0 + 1) = 117 from rfl, show byteM [92, 117, c0, c1, c2, c3] (0 + 2) = c0.toNat from rfl, show byteM [92, 117, c0, c1, c2, c3] (0 + 3) = c1.toNat from rfl, show byteM [92, 117, c0, c1, c2, c3] (0 + 4) = c2.toNat from rfl, show byteM [92, 117, c0, c1, c2, c3] (0 + 5) = c3.toNat from rfl]
    have ea : ([c0, c1, c2, c3] : Str).all isHex = (decide (0 ≤ hexV c0.toNat) && (decide (0 ≤ hexV c1.toNat) && (decide (0 ≤ hexV c2.toNat) && (decide (0 ≤ hexV c3.toNat) && true)))) := rfl
    have en : hexN [c0, c1, c2, c3] = (((0 * 16 + hexD1 c0) * 16 + hexD1 c1) * 16 + hexD1 c2) * 16 + hexD1 c3 := rfl
    rw [en]
    by_cases h : 0 ≤ hexV c0.toNat ∧ 0 ≤ hexV c1.toNat ∧ 0 ≤ hexV c2.toNat ∧ 0 ≤ hexV c3.toNat
    · obtain ⟨h0, h1, h2, h3⟩ := h
      rw [if_pos ⟨by simp, rfl, rfl, h0, h1, h2, h3⟩, if_pos (ea.trans (by rw [decide_eq_true h0, decide_eq_true h1, decide_eq_true h2, decide_eq_true h3]; rfl))]
      unfold hexD1
      omega
    · rw [if_neg fun h' => h h'.2.2.2, if_neg]
      intro h'
      have h' := ea.symm.trans h'
      simp only [Bool.and_eq_true, decide_eq_true_eq] at h'
      exact h ⟨h'.1, h'.2.1, h'.2.2.1, h'.2.2.2.1⟩
theorem hexM_no {s : Str} {a : Nat} (h : a + 6 ≤ s.length → (s.drop a).take 2 ≠ [92, 117]) : hexM s a = -1 := by
  unfold hexM
  rw [if_neg]
  rintro ⟨h1, h2, h3, _⟩
  refine h h1 ?_
  have ha : a < s.length := by omega
  have hb : a + 1 < s.length := by omega
  rw [drop_here ha, drop_here hb]
  simp only [List.take_succ_cons, List.take_zero]
  rw [Go.Eng.byte_at (drop_here ha)] at h2
  rw [Go.Eng.byte_at (drop_here hb)] at h3
  congr 1
  · exact UInt8.toNat_inj.1 (by show s[a].toNat = 92; omega)
  · congr 1
    exact UInt8.toNat_inj.1 (by show s[a + 1].toNat = 117; omega)
theorem bad_hex {c : UInt8} (h : badB c = true) : isHex c = false := by
  unfold badB at h
  simp only [Bool.or_eq_true, decide_eq_true_eq] at h
  rcases h with (rfl | rfl) | rfl <;> decide
theorem eq_nil_err (K : Value → Prop) (w : World) : eqQ Tryz.prog .neq 111 false true .nilIface .nilIface w K ↔ K (.bool false) := by
  have h : (do eqGuard .neq 111 (stand false) (stand true) .nilIface .nilIface; binOp .neq 111 .nilIface .nilIface : Sem Value).run Tryz.prog w = .ok (.bool false) w := by kernel_rfl
  unfold eqQ semQ
  rw [h]
  exact ⟨fun ⟨v, h1, h2⟩ => by cases h1; exact h2, fun h2 => ⟨_, rfl, h2⟩⟩
theorem ne_nil_err (T : TypeId) (v : Value) (w : World) (K : Value → Prop) : eqQ Tryz.prog .neq 111 false true (.iface T v) .nilIface w K ↔ K (.bool true) := by
  have h : (do eqGuard .neq 111 (stand false) (stand true) (.iface T v) .nilIface; binOp .neq 111 (.iface T v) .nilIface : Sem Value).run Tryz.prog w = .ok (.bool true) w := by kernel_rfl
  unfold eqQ semQ
  rw [h]
  exact ⟨fun ⟨v, h1, h2⟩ => by cases h1; exact h2, fun h2 => ⟨_, rfl, h2⟩⟩
theorem eq_syn (w : World) (K : Value → Prop) : eqQ Tryz.prog .eql 111 false false eSyn eSyn w K ↔ K (.bool true) := by
  have h : (do eqGuard .eql 111 (stand false) (stand false) eSyn eSyn; binOp .eql 111 eSyn eSyn : Sem Value).run Tryz.prog w = .ok (.bool true) w := by kernel_rfl
  unfold eqQ semQ
  rw [h]
  exact ⟨fun ⟨v, h1, h2⟩ => by cases h1; exact h2, fun h2 => ⟨_, rfl, h2⟩⟩
def TabE (w : World) : Prop := ∃ T v, w.cell? ⟨4, 0, none⟩ = some (.iface T v)
theorem TabE.ext {w w' : World} (h : TabE w) (hx : Ext w w') : TabE w' := by
  obtain ⟨T, v, h⟩ := h
  exact ⟨T, v, cell_ext hx h⟩
section
variable [HX]
theorem sclone_p' {s : Str} {w : World} {K : Value → World → Prop} (hl : s.length ≤ 1000000) (hK : ∀ w', Ext w w' → K (str s) w') : callF Tryz.prog 134 [str s] w K := by
  refine of_calls (args := #[str s]) Tryz.call134 ((Tryz.stringslite_Clone (ofL s) w (by rw [ofL_size]; omega)).mono ?_)
  rintro e w' ⟨rfl, hb⟩
  exact ⟨_, rfl, hK w' (Chg.of_below hb)⟩
theorem parse16_p {l : Str} {w : World} {K : Value → World → Prop} (hE : TabE w) (hl : l.length = 4) (hok : l.all isHex = true → ∀ w', Ext w w' → K (.tuple #[.int .u64 (hexN l : Nat), .nilIface]) w') (hno : l.all isHex = false → ∀ T v w', Ext w w' → K (.tuple #[.int .u64 0, .iface T v]) w') :
    callF Tryz.prog 225 [str l, i64 16, i64 32] w K := by
  refine W225_ok ?_
  unfold W225
  refine uint16_p hl (fun h w1 hx1 => ?_) (fun h w1 hx1 => ?_)
  · simp only [ext_tuple]
    refine ⟨_, rfl, _, rfl, ?_⟩
    rw [eq_nil_err, condW_false]
    exact hok h w1 hx1
  · simp only [ext_tuple]
    refine ⟨_, rfl, _, rfl, ?_⟩
    rw [ne_nil_err, condW_true]
    refine W180_ok ?_
    unfold W180
    rw [eq_syn, condW_true]
    refine W214_ok ?_
    unfold W214
    have hxd : Ext w1 w1.drew := Chg.drew (Chg.refl (fun _ => False) w1)
    obtain ⟨T, v, hc⟩ := hE.ext (hx1.trans hxd)
    rw [ld_one]
    refine ⟨_, hc, ?_⟩
    refine sclone_p' (by omega) fun w2 hx2 => ?_
    rw [ld_one]
    refine ⟨⟨_, cell_ext hx2 hc, rfl⟩, ?_⟩
    rw [put_one _ _ _ _ _ rfl]
    refine ⟨by simp, ?_⟩
    rw [put_one _ _ _ _ _ rfl]
    refine ⟨by simp, ?_⟩
    rw [put_one _ _ _ _ _ rfl]
    refine ⟨by simp, ?_⟩
    rw [put_nil]
    refine box_new fun a w3 ha hz hb hx3 => ?_
    exact hno h _ _ w3 (hx1.trans (hxd.trans (hx2.trans hx3)))
theorem hex_p {w : World} {p i c a : Nat} {s : Str} {K : Value → World → Prop} (h : Rdr w p s i c) (hE : TabE w) (ha : a ≤ 2000000) (hs : s.length ≤ 1000000) (hK : ∀ w', Ext w w' → K (.int .i32 (hexM s a)) w') :
    callF Tryz.prog 187 [.pointer (some ⟨p, 0, none⟩), i64 (a : Nat)] w K := by
  refine W187_ok ?_
  unfold W187
  have e6 : IntKind.i64.wrap ((a : Int) + 6) = ((a + 6 : Nat) : Int) := upk (k := 6) (by omega)
  have e2 : IntKind.i64.wrap ((a : Int) + 2) = ((a + 2 : Nat) : Int) := upk (k := 2) (by omega)
  rw [bin_add, e6]
  refine h.ld rfl ?_
  rw [lens_str, bin_gtr]
  refine GdW.act (decide ((s.drop a).take 2 ≠ [92, 117])) (fun w' => w' = w) (fun _ => rfl) ?_ ?_
  · intro hc J hJ
    have hle : a + 6 ≤ s.length := by
      rw [isB_f, Bool.not_eq_true', decide_eq_false_iff_not] at hc
      omega
    refine h.ld rfl ?_
    rw [bin_add, e2, sls_str, bd_some]
    refine ⟨by omega, by omega, ?_⟩
    rw [bd_some]
    refine ⟨by omega, by omega, ?_⟩
    simp only [Int.toNat_natCast]
    rw [show (s.take (a + 2)).drop a = (s.drop a).take 2 by rw [List.drop_take]; congr 1; omega, bin_sne]
    exact hJ _ rfl
  rintro g w1 rfl
  simp only [List.getD_cons_zero, isB_f]
  rw [pick_gd_or]
  generalize hq : (decide ((s.length : Int) < ((a + 6 : Nat) : Int)) || decide ((s.drop a).take 2 ≠ [92, 117])) = q
  refine ⟨fun st w' => Ext w1 w' ∧ ((q = true ∧ st = [undef]) ∨ (q = false ∧ ∃ r : Bool, st = [.bool r] ∧ (r = true → ∃ c ∈ (s.drop (a + 2)).take 4, badB c = true))), ?_, ?_, ?_⟩
  · intro hc
    have hq0 : q = false := by simpa [isB_f] using hc
    rw [hq0, Bool.or_eq_false_iff, decide_eq_false_iff_not] at hq
    refine h.ld rfl ?_
    rw [bin_add, e2, bin_add, e6, sls_str, bd_some]
    refine ⟨by omega, by omega, ?_⟩
    rw [bd_some]
    refine ⟨by omega, by omega, ?_⟩
    simp only [Int.toNat_natCast]
    rw [show (s.take (a + 6)).drop (a + 2) = (s.drop (a + 2)).take 4 by rw [List.drop_take]; congr 1; omega]
    refine contains_any (by rw [List.length_take]; omega) fun r w2 hr hx2 => ?_
    exact ⟨hx2, .inr ⟨hq0, r, rfl, hr⟩⟩
  · intro hc
    have hq1 : q = true := by simpa [isB_f] using hc
    exact ⟨Chg.refl _ _, .inl ⟨hq1, rfl⟩⟩
  rintro st g2 w2 ⟨hx2, hst⟩
  rcases hst with ⟨rfl, rfl⟩ | ⟨rfl, r, rfl, hr⟩
  · rw [pick_t, condW_true]
    rw [hexM_no] at hK
    · exact hK w2 hx2
    intro hle he
    rw [decide_eq_false (by omega), decide_eq_false (by simpa using he)] at hq
    cases hq
  · rw [Bool.or_eq_false_iff, decide_eq_false_iff_not, decide_eq_false_iff_not] at hq
    have hu : (s.drop a).take 2 = [92, 117] := by simpa using hq.2
    have hle : a + 6 ≤ s.length := by omega
    rw [hexM_four hle hu] at hK
    simp only [List.getD_cons_zero]
    rw [pick_f, condW_b]
    refine ⟨fun hr1 => ?_, fun _ => ?_⟩
    · obtain ⟨c, hc, hb⟩ := hr hr1
      rw [if_neg] at hK
      · exact hK w2 hx2
      intro hall
      have := List.all_eq_true.1 hall c hc
      rw [bad_hex hb] at this
      cases this
    · refine (h.ext hx2).ld rfl ?_
      rw [bin_add, e2, bin_add, e6, sls_str, bd_some]
      refine ⟨by omega, by omega, ?_⟩
      rw [bd_some]
      refine ⟨by omega, by omega, ?_⟩
      simp only [Int.toNat_natCast]
      rw [show (s.take (a + 6)).drop (a + 2) = (s.drop (a + 2)).take 4 by rw [List.drop_take]; congr 1; omega]
      have h4 : ((s.drop (a + 2)).take 4).length = 4 := by rw [List.length_take, List.length_drop]; omega
      generalize (s.drop (a + 2)).take 4 = l4 at *
      refine parse16_p (hE.ext hx2) h4 (fun hall w3 hx3 => ?_) (fun hall T v w3 hx3 => ?_)
      · simp only [ext_tuple]
        refine ⟨_, rfl, _, rfl, ?_⟩
        rw [eq_nil_err, condW_false, cvt_int]
        rw [if_pos hall] at hK
        have hN := hexN_lt l4
        rw [h4] at hN
        have e : IntKind.i32.wrap (hexN l4 : Int) = (hexN l4 : Int) := by
          rw [IntKind.wrap_i32]
          omega
        rw [e]
        exact hK w3 (hx2.trans hx3)
      · simp only [ext_tuple]
        refine ⟨_, rfl, _, rfl, ?_⟩
        rw [ne_nil_err, condW_true]
        rw [if_neg (by rw [hall]; simp)] at hK
        exact hK w3 (hx2.trans hx3)
end
end Go.Proofs.YtcnjpcadejcenaaGreatDoor
namespace Go.Proofs.YtcnjpcadejcenaaGreatDoor
open Go Go.Eng Go.RowKit
set_option maxRecDepth 100000
theorem pk_eq {s : Str} {i k : Nat} (hk : 0 < k) : pkM s i = (k : Int) ↔ byteM s i = (k : Int) := by
  unfold pkM
  by_cases h : i < s.length
  · rw [if_pos h, byteM_in h]
  · rw [if_neg h, byteM_out (by omega)]; omega
theorem bt_drop (s : Str) (i j : Nat) : bt (s.drop i) j = bt s (i + j) := by
  unfold bt
  rw [List.getD_eq_getElem?_getD, List.getD_eq_getElem?_getD, List.getElem?_drop]
theorem dec_drop (s : Str) (i : Nat) : Utf8.decode (ofL (s.drop i)) 0 = Utf8.decode (ofL s) i := by
  rw [dec_ofL, dec_ofL]
  simp only [bt_drop, List.length_drop, Nat.sub_zero, Nat.add_zero, Nat.zero_add]
theorem i32_id {n : Int} (h1 : -2147483648 ≤ n) (h2 : n ≤ 2147483647) : IntKind.i32.wrap n = n := by
  rw [IntKind.wrap_i32]; omega
theorem bt_i32 (n : Nat) (h : n < 256) : IntKind.i32.wrap (n : Int) = (n : Int) := i32_id (by omega) (by omega)
theorem cell_chg {w w' : World} {p b o : Nat} {v : Value} (hc : Chg (Cr p) w w') (hb : b ≠ p) (h : w.cell? ⟨b, o, none⟩ = some v) : w'.cell? ⟨b, o, none⟩ = some v := by
  rw [cell_eq] at h ⊢
  cases hx : w.heap[b]? with
  | none => rw [hx] at h; cases h
  | some x => rw [hx] at h; rw [hc.at hx hb]; exact h
theorem Rdr.ne {w : World} {p i c b : Nat} {s : Str} {v : Value} (h : Rdr w p s i c) (hv : w.cell? ⟨b, 0, none⟩ = some v) (hs : ∀ t, v ≠ str t) : b ≠ p := fun e => by
  subst e
  rw [cell_eq, h, cellO_some] at hv
  simp at hv
  exact hs s hv.symm
theorem TabU.rd {w w' : World} {p i c : Nat} {s : Str} (hT : TabU w) (h : Rdr w p s i c) (hc : Chg (Cr p) w w') : TabU w' :=
  ⟨fun k hk => cell_chg hc (h.ne (hT.1 0 (by omega)) fun t e => (by cases e)) (hT.1 k hk), fun k hk => ⟨cell_chg hc (h.ne (hT.2 0 (by omega)).1 fun t e => (by cases e)) (hT.2 k hk).1, cell_chg hc (h.ne (hT.2 0 (by omega)).1 fun t e => (by cases e)) (hT.2 k hk).2⟩⟩
theorem TabE.rd {w w' : World} {p i c : Nat} {s : Str} (hE : TabE w) (h : Rdr w p s i c) (hc : Chg (Cr p) w w') : TabE w' := by
  obtain ⟨T, v, hv⟩ := hE
  exact ⟨T, v, cell_chg hc (h.ne hv fun t e => (by cases e)) hv⟩
section
variable [HX]
theorem decode_rune {s : Str} {i : Nat} {w : World} {K : Value → World → Prop} (hT : TabU w) (hi : i < s.length) (hK : ∀ w', Ext w w' → K (.tuple #[.int .i32 ((Utf8.decode (ofL s) i).1 : Nat), i64 ((Utf8.decode (ofL s) i).2 : Nat)]) w') :
    callF Tryz.prog 159 [str (s.drop i)] w K := by
  refine of_calls (args := #[str (s.drop i)]) Tryz.call159 ((Tryz.utf8_DecodeRuneInString (ofL (s.drop i)) w hT).mono ?_)
  rintro e w' ⟨rfl, hb⟩
  refine ⟨_, rfl, ?_⟩
  unfold Lib.decodeGo
  rw [if_neg (by rw [ofL_size, List.length_drop]; omega), dec_drop]
  exact hK w' (Chg.of_below hb)
theorem escaped_p {w : World} {p i c : Nat} {s : Str} {K : Value → World → Prop} (h : Rdr w p s i c) (hE : TabE w) (hi : i < s.length) (hs : s.length ≤ 1000000)
    (hok : ∀ t k, escM s i = some (t, k) → ∀ (n : Nat) (w' : World), (n < 55296 ∨ 57343 < n ∧ n ≤ 1114111) → wrM n = t → Rdr w' p s (i + k) c → Chg (Cr p) w w' → K (.int .i32 (n : Nat)) w') (hbad : escM s i = none → Thr w p 30 i) :
    callF Tryz.prog 160 [.pointer (some ⟨p, 0, none⟩)] w K := by
  refine W160_ok ?_
  unfold W160
  rw [escM_def] at hok hbad
  refine h.ld rfl ?_
  refine JoinW.cut (fun st w' => st = [.int .u8 (pkM s (i + 1))] ∧ w' = w) ?_ ?_
  · rw [bin_add, up1 (by omega)]
    refine h.ld rfl ?_
    rw [lens_str, bin_lss, condW_dec]
    unfold pkM
    refine ⟨fun hlt => ?_, fun hge => ?_⟩
    · have hlt : i + 1 < s.length := by omega
      rw [if_pos hlt]
      refine h.ld rfl ?_
      obtain ⟨e1, e2⟩ := get_bt' hlt
      rw [bin_add, up1 (by omega), ixs_str]
      refine ⟨by omega, s[i + 1], by simpa using e1, ?_⟩
      rw [e2]
      exact ⟨rfl, rfl⟩
    · rw [if_neg (by omega)]
      exact ⟨rfl, rfl⟩
  rintro st g w1 ⟨rfl, rfl⟩
  refine h.go (k := 2) (by omega) fun w2 h2 hc2 hz2 => ?_
  simp only [List.getD_cons_zero]
  have pk := fun (k : Nat) (hk : 0 < k) => pk_eq (s := s) (i := i + 1) (k := k) hk
  have p34 : pkM s (i + 1) = 34 ↔ byteM s (i + 1) = 34 := pk 34 (by omega)
  have p92 : pkM s (i + 1) = 92 ↔ byteM s (i + 1) = 92 := pk 92 (by omega)
  have p47 : pkM s (i + 1) = 47 ↔ byteM s (i + 1) = 47 := pk 47 (by omega)
  have p98 : pkM s (i + 1) = 98 ↔ byteM s (i + 1) = 98 := pk 98 (by omega)
  have p102 : pkM s (i + 1) = 102 ↔ byteM s (i + 1) = 102 := pk 102 (by omega)
  have p110 : pkM s (i + 1) = 110 ↔ byteM s (i + 1) = 110 := pk 110 (by omega)
  have p114 : pkM s (i + 1) = 114 ↔ byteM s (i + 1) = 114 := pk 114 (by omega)
  have p116 : pkM s (i + 1) = 116 ↔ byteM s (i + 1) = 116 := pk 116 (by omega)
  have hpk0 : 0 ≤ pkM s (i + 1) ∧ pkM s (i + 1) < 256 := by
    unfold pkM
    split
    · have := bt_lt s (i + 1); omega
    · omega
  generalize pkM s (i + 1) = q at *
  have two : ∀ (n : Nat) (t : Str), n < 128 → wrM n = t → some (t, 2) = (some (t, 2) : Option (Str × Nat)) := fun _ _ _ _ => rfl
  refine JoinW.cut (fun st w' => st = [.bool (decide (q = 34) || decide (q = 92) || decide (q = 47))] ∧ w' = w2) ?_ ?_
  · rw [bin_eql, condW_dec]
    refine ⟨fun e => ⟨by rw [decide_eq_true e]; rfl, rfl⟩, fun e => ?_⟩
    rw [bin_eql, condW_dec]
    refine ⟨fun e2 => ⟨by rw [decide_eq_true e2, decide_eq_false e]; rfl, rfl⟩, fun e2 => ?_⟩
    rw [bin_eql]
    exact ⟨by rw [decide_eq_false e2, decide_eq_false e]; rfl, rfl⟩
  rintro st g w3 ⟨rfl, rfl⟩
  simp only [List.getD_cons_zero]
  rw [condW_b]
  refine ⟨fun e => ?_, fun e => ?_⟩
  · rw [Bool.or_eq_true, Bool.or_eq_true, decide_eq_true_iff, decide_eq_true_iff, decide_eq_true_iff] at e
    rw [cvt_int]
    obtain ⟨n, rfl⟩ := Int.eq_ofNat_of_zero_le hpk0.1
    have hn : n < 256 := by omega
    rw [show ((n : Nat) : Int) = (n : Int) from rfl, bt_i32 n hn]
    have key : ∀ (t : Str), wrM n = t → (if byteM s (i + 1) = 34 then some (([34] : Str), 2) else if byteM s (i + 1) = 92 then some ([92], 2) else if byteM s (i + 1) = 47 then some ([47], 2) else none) = some (t, 2) → K (.int .i32 (n : Nat)) w3 := fun t ht he => by
      refine hok t 2 ?_ n w3 (by omega) ht h2 hc2
      split at he
      · rename_i h1; rw [if_pos h1]; exact he
      · rename_i h1; rw [if_neg h1]
        split at he
        · rename_i h1; rw [if_pos h1]; exact he
        · rename_i h1; rw [if_neg h1]
          split at he
          · rename_i h1; rw [if_pos h1]; exact he
          · cases he
    rcases e with (e | e) | e
    · obtain rfl : n = 34 := by omega
      refine key [34] (by decide) ?_
      rw [if_pos (p34.1 rfl)]
    · obtain rfl : n = 92 := by omega
      have b := p92.1 rfl
      refine key [92] (by decide) ?_
      rw [b]; rfl
    · obtain rfl : n = 47 := by omega
      have b := p47.1 rfl
      refine key [47] (by decide) ?_
      rw [b]; rfl
  rw [Bool.or_eq_false_iff, Bool.or_eq_false_iff, decide_eq_false_iff_not, decide_eq_false_iff_not, decide_eq_false_iff_not] at e
  obtain ⟨⟨n34, n92⟩, n47⟩ := e
  rw [if_neg (fun e => n34 (p34.2 e)), if_neg (fun e => n92 (p92.2 e)), if_neg (fun e => n47 (p47.2 e))] at hok hbad
  have step : ∀ {k m : Nat} {t : Str} {R : Option (Str × Nat)} {B : Prop}, m < 128 → wrM m = t → (q = (k : Int) ↔ byteM s (i + 1) = (k : Int)) →
      (∀ t' k', (if byteM s (i + 1) = (k : Int) then some (t, 2) else R) = some (t', k') → ∀ (n : Nat) (w' : World), (n < 55296 ∨ 57343 < n ∧ n ≤ 1114111) → wrM n = t' → Rdr w' p s (i + k') c → Chg (Cr p) w1 w' → K (.int .i32 (n : Nat)) w') →
      ((if byteM s (i + 1) = (k : Int) then some (t, 2) else R) = none → Thr w1 p 30 i) →
      ((∀ t' k', R = some (t', k') → ∀ (n : Nat) (w' : World), (n < 55296 ∨ 57343 < n ∧ n ≤ 1114111) → wrM n = t' → Rdr w' p s (i + k') c → Chg (Cr p) w1 w' → K (.int .i32 (n : Nat)) w') → (R = none → Thr w1 p 30 i) → B) →
      binW .eql (.int .u8 q) (.int .u8 (k : Int)) fun t41 => condW t41 (K (.int .i32 (m : Nat)) w3) B := fun {k m t R B} hm hw hq hok hbad hB => by
    rw [bin_eql, condW_dec]
    refine ⟨fun e => ?_, fun e => ?_⟩
    · exact hok t 2 (by rw [if_pos (hq.1 e)]) m w3 (by omega) hw h2 hc2
    · rw [if_neg (fun h => e (hq.2 h))] at hok hbad
      exact hB hok hbad
  refine step (k := 98) (m := 8) (by decide) (by decide) p98 hok hbad fun hok hbad => ?_
  refine step (k := 102) (m := 12) (by decide) (by decide) p102 hok hbad fun hok hbad => ?_
  refine step (k := 110) (m := 10) (by decide) (by decide) p110 hok hbad fun hok hbad => ?_
  refine step (k := 114) (m := 13) (by decide) (by decide) p114 hok hbad fun hok hbad => ?_
  refine step (k := 116) (m := 9) (by decide) (by decide) p116 hok hbad fun hok hbad => ?_
  clear step two
  have hr1 := hexM_range s i
  have hr2 := hexM_range s (i + 6)
  refine hex_p h2 (hE.rd h hc2) (by omega) hs fun w4 hx4 => ?_
  have h4 := h2.ext hx4
  have hc4 := hc2.then hx4 fun _ _ e => e.elim
  have e6 : IntKind.i64.wrap ((i : Int) + 6) = ((i + 6 : Nat) : Int) := upk (k := 6) (by omega)
  rw [bin_add, e6]
  refine h4.st1 fun w5 h5 hc5 hz5 => ?_
  have hc5 := hc4.trans hc5
  rw [bin_geq]
  simp only [isB_t, bin_lss, GdW_pure]
  intro _
  simp only [List.getD_cons_zero]
  rw [pick_gd_and, condW_b]
  refine ⟨fun e => ?_, fun e => ?_⟩
  · rw [Bool.and_eq_true, decide_eq_true_iff, decide_eq_true_iff] at e
    rw [if_neg (by omega), if_pos (by omega)] at hok hbad
    refine h5.ld rfl ?_
    refine hex_p h5 (hE.rd h hc5) (by omega) hs fun w6 hx6 => ?_
    have h6 := h5.ext hx6
    have hc6 := hc5.then hx6 fun _ _ e => e.elim
    refine JoinW.cut (fun st w' => w' = w6 ∧ ¬ (hexM s (i + 6) < 56320 ∨ 57343 < hexM s (i + 6))) ?_ ?_
    · rw [bin_lss]
      simp only [isB_f, bin_gtr, GdW_pure]
      intro _
      simp only [List.getD_cons_zero]
      rw [pick_gd_or, condW_b]
      refine ⟨fun e2 => ?_, fun e2 => ?_⟩
      · rw [Bool.or_eq_true, decide_eq_true_iff, decide_eq_true_iff] at e2
        rw [if_pos e2] at hbad
        exact fail_p ((hbad rfl).from hc6)
      · rw [Bool.or_eq_false_iff, decide_eq_false_iff_not, decide_eq_false_iff_not] at e2
        exact ⟨trivial, by omega⟩
    rintro st g2 w7 ⟨rfl, hb2⟩
    rw [if_neg hb2] at hok
    have hb2 : 56320 ≤ hexM s (i + 6) ∧ hexM s (i + 6) ≤ 57343 := by omega
    refine h6.go (k := 6) (by omega) fun w8 h8 hc8 hz8 => ?_
    have hc8 := hc6.trans hc8
    generalize hexM s i = x at *
    generalize hexM s (i + 6) = y at *
    have e10 : (2 : Int) ^ min (10 : Int).toNat IntKind.i32.bits = 1024 := by decide
    rw [bin_sub, i32_id (by omega) (by omega)]
    refine ⟨by decide, ?_⟩
    rw [e10, i32_id (by omega) (by omega)]
    dsimp only
    rw [bin_add, i32_id (by omega) (by omega), bin_sub, i32_id (by omega) (by omega), bin_add, i32_id (by omega) (by omega)]
    have en : (65536 + (x - 55296) * 1024 + (y - 56320)) = (((65536 + (x - 55296) * 1024 + y - 56320).toNat : Nat) : Int) := by omega
    rw [en]
    refine hok _ _ rfl _ w8 (by omega) rfl ?_ hc8
    exact h8
  · have e : ¬ (55296 ≤ hexM s i ∧ hexM s i < 56320) := by
      rintro ⟨e1, e2⟩
      rw [decide_eq_true e1, decide_eq_true e2] at e
      cases e
    simp only [isB_f, isB_t, isB_gd_t, bin_geq, bin_lss, GdW_pure, GdW_nest_and, List.getD_cons_zero, pick_gd_or]
    intros
    rw [condW_b]
    refine ⟨fun e2 => ?_, fun e2 => ?_⟩
    · rw [Bool.or_eq_true, Bool.and_eq_true, decide_eq_true_iff, decide_eq_true_iff, decide_eq_true_iff] at e2
      rw [if_pos (by omega)] at hbad
      exact fail_p ((hbad rfl).from hc5)
    · have e2 : ¬ (hexM s i < 0 ∨ 56320 ≤ hexM s i ∧ hexM s i < 57344) := by
        intro h
        rw [Bool.or_eq_false_iff, Bool.and_eq_false_iff, decide_eq_false_iff_not, decide_eq_false_iff_not, decide_eq_false_iff_not] at e2
        omega
      rw [if_neg (by omega), if_neg (by omega)] at hok
      have en : hexM s i = (((hexM s i).toNat : Nat) : Int) := by omega
      rw [en]
      exact hok _ _ rfl _ _ (by omega) rfl h5 hc5
theorem quoted_p {w : World} {p i c : Nat} {s : Str} {K : Value → World → Prop} (h : Rdr w p s i c) (hT : TabU w) (hE : TabE w) (hi : i < s.length) (hs : s.length ≤ 1000000)
    (hok : ∀ t j c', quotM En s i c = .ok t j c' → ∀ w', Rdr w' p s j c' → Chg (Cr p) w w' → K (str t) w') (hbad : ∀ e j, quotM En s i c = .bad e j → Thr w p e j) :
    callF Tryz.prog 111 [.pointer (some ⟨p, 0, none⟩)] w K := by
  refine W111_ok ?_
  unfold W111
  have hplt := h.lt
  refine h.ld rfl ?_
  refine h.go (k := 1) (by omega) fun w1 h1 hc1 hz1 => ?_
  refine bnew (B := w1.heap.size) (Nat.le_refl _) fun b w2 hb hB2 hx2 => ?_
  have h2 := h1.ext hx2
  have hc2 := hc1.then hx2 fun _ _ e => e.elim
  have hbB := hB2.base
  generalize hBB : w1.heap.size = B at *
  have hpB : p < B := by omega
  -- what a builder's write leaves
  have keepR : ∀ {w' w'' : World} {j : Nat}, Chg (BCh w' B b) w' w'' → Rdr w' p s j c → Rdr w'' p s j c := fun hc h => BCh.keep hc h (by omega) (by decide)
  have keepC : ∀ {w' w'' : World}, Chg (BCh w' B b) w' w'' → Chg (Cr p) w w' → Chg (Cr p) w w'' := fun hc h => h.then hc fun k hk e => by
    rcases e with rfl | ⟨e, _⟩
    · omega
    · omega
  have keepB : ∀ {w' w'' : World} {l : Str}, Chg (Cr p) w' w'' → Bld w' B b l → Bld w'' B b l := fun hc h => h.chg hc (fun e => by have e : b = p := e; omega) fun k hk e => by
    have e : k = p := e
    have := hk.1
    omega
  refine LoopW.go (fun st w' => st = [] ∧ ∃ j out n, Rdr w' p s j c ∧ Bld w' B b out ∧ Chg (Cr p) w w' ∧ B ≤ w'.heap.size ∧ j ≤ s.length ∧ out.length ≤ 4 * j ∧ s.length + 1 ≤ n + j ∧ quotGo En s i n j out c = quotM En s i c) (fun _ w' => s.length - rdAt w' p)
    ⟨rfl, i + 1, [], s.length + 1, h2, hB2, hc2, by have := hx2.size; omega, by omega, by simp, by omega, rfl⟩ ?_
  rintro st g w3 ⟨rfl, j, out, n, h3, hB3, hc3, hz3, hj, hout, hn, hq⟩
  obtain ⟨n, rfl⟩ : ∃ m, n = m + 1 := ⟨n - 1, by omega⟩
  rw [quotGo] at hq
  have hxd : ∀ w : World, Ext w w.drew := fun w => Chg.drew (Chg.refl (fun _ => False) w)
  refine JoinW.cut (fun st w' => st = [] ∧ w' = w3.drew ∧ j < s.length) ?_ ?_
  · refine h3.drew.ld rfl ?_
    refine h3.drew.ld rfl ?_
    rw [lens_str, bin_geq, condW_dec]
    refine ⟨fun e => ?_, fun e => ⟨rfl, rfl, by omega⟩⟩
    obtain rfl : j = s.length := by omega
    rw [byteM_out (Nat.le_refl _), if_neg (by decide), if_pos (by decide)] at hq
    refine h3.drew.ld rfl ?_
    rw [lens_str]
    exact fail_p ((hbad _ _ hq.symm).from (hc3.then (hxd _) fun _ _ e => e.elim))
  rintro st g2 w4 ⟨rfl, rfl, hlt⟩
  refine h3.drew.drew.ld rfl ?_
  refine h3.drew.drew.ld rfl ?_
  rw [sls_str, bd_none, bd_some]
  refine ⟨by omega, by omega, ?_⟩
  simp only [Int.toNat_natCast, List.take_length]
  have hcd := (hc3.then (hxd _) fun _ _ e => e.elim).then (hxd w3.drew) fun _ _ e => e.elim
  refine decode_rune (hT.rd h hcd) hlt fun w5 hx5 => ?_
  have h5 := h3.drew.drew.ext hx5
  have hB5 : Bld w5 B b out := ((hB3.ext (hxd _)).ext (hxd _)).ext hx5
  have hc5 := hcd.then hx5 fun _ _ e => e.elim
  have hz5 : B ≤ w5.heap.size := by
    have := hx5.size
    have e : w3.drew.drew.heap.size = w3.heap.size := rfl
    omega
  have hbj := byteM_in hlt
  have hb256 := bt_lt s j
  simp only [ext_tuple]
  refine ⟨_, rfl, _, rfl, ?_⟩
  -- what begins at the place
  have hrune : (runeM s j = 0 ∧ 128 ≤ bt s j ∧ Utf8.decode (ofL s) j = (65533, 1)) ∨ (∃ r, RuneAt s j (runeM s j) r ∧ 1 ≤ runeM s j ∧ Utf8.decode (ofL s) j = (r, runeM s j)) := by
    by_cases h0 : runeM s j = 0
    · refine .inl ⟨h0, ?_, rune_bad hlt h0⟩
      apply Nat.le_of_not_lt
      intro hl
      have : runeM s j = 1 := by
        unfold runeM
        rw [hbj]
        simp only
        rw [if_neg (by omega), if_pos (by omega)]
      omega
    · obtain ⟨r, hr⟩ := rune_good hlt h0
      exact .inr ⟨r, hr, by omega, hr.dec⟩
  generalize Utf8.decode (ofL s) j = dd at *
  obtain ⟨cr, sz⟩ := dd
  simp only at hrune ⊢
  -- a low byte is its own rune
  have low : ∀ k : Nat, k < 128 → ((cr : Int) = (k : Int) ↔ byteM s j = (k : Int)) := fun k hk => by
    rw [hbj]
    rcases hrune with ⟨_, hb, he⟩ | ⟨r, hr, hp, he⟩
    · cases he
      omega
    · cases he
      rcases Nat.lt_or_ge (runeM s j) 2 with h1 | h1
      · have := hr.low (by omega)
        omega
      · have := hr.high h1
        omega
  have low32 : ((cr : Int) < 32 ↔ byteM s j < 32) := by
    rw [hbj]
    rcases hrune with ⟨_, hb, he⟩ | ⟨r, hr, hp, he⟩
    · cases he
      omega
    · cases he
      rcases Nat.lt_or_ge (runeM s j) 2 with h1 | h1
      · have := hr.low (by omega)
        omega
      · have := hr.high h1
        omega
  have l34 : (cr : Int) = 34 ↔ byteM s j = 34 := low 34 (by omega)
  have l92 : (cr : Int) = 92 ↔ byteM s j = 92 := low 92 (by omega)
  refine JoinW.cut (fun st w' => st = [] ∧ w' = w5 ∧ byteM s j ≠ 34 ∧ byteM s j ≠ 92 ∧ ¬ byteM s j < 32 ∧ runeM s j ≠ 0) ?_ ?_
  · rw [bin_eql, condW_dec]
    refine ⟨fun e => ?_, fun n34 => ?_⟩
    · rw [if_pos (l34.1 e)] at hq
      refine h5.go (k := 1) (by omega) fun w6 h6 hc6 hz6 => ?_
      have hB6 := keepB hc6 hB5
      have hc6' := hc5.trans hc6
      refine JoinW.cut (fun st w' => st = [] ∧ w' = w6 ∧ ¬ 16384 < out.length) ?_ ?_
      · refine len_p hB6 ?_
        rw [bin_gtr, condW_dec]
        refine ⟨fun e2 => ?_, fun e2 => ⟨rfl, rfl, by omega⟩⟩
        rw [if_pos (by omega)] at hq
        exact fail_p ((hbad _ _ hq.symm).from hc6')
      rintro st g3 w7 ⟨rfl, rfl, hshort⟩
      rw [if_neg hshort] at hq
      refine string_p hB6 (by omega) fun w8 hc8 => ?_
      refine hok _ _ _ hq.symm w8 (hc8.at h6 (by omega)) (hc6'.then hc8 fun k hk e => by omega)
    rw [if_neg (fun e => n34 (l34.2 e)), if_neg (by omega)] at hq
    rw [bin_eql, condW_dec]
    refine ⟨fun e => ?_, fun n92 => ?_⟩
    · rw [if_pos (l92.1 e)] at hq
      refine escaped_p h5 (hE.rd h hc5) hlt hs (fun t k he r w6 hr ht h6 hc6 => ?_) (fun he => ?_)
      · rw [he] at hq
        simp only at hq
        have hB6 := keepB hc6 hB5
        have hc6' := hc5.trans hc6
        have hfit := escM_fits he
        have hk := (escM_rune he).2.2
        have hrn := rn_len (escM_rune he).1
        refine wrune_p hB6 (by have := hc6.size; omega) (by omega) hr fun _ w7 hB7 hc7 => ?_
        rw [ht] at hB7
        have h7 := keepR hc7 h6
        refine ⟨⟨(by first | rfl | trivial), j + k, out ++ t, n, h7, hB7, keepC hc7 hc6', by have := hc7.size; have := hc6.size; omega, hfit, by rw [List.length_append]; omega, by omega, hq⟩, ?_⟩
        rw [h7.at_, h3.at_]; omega
      · rw [he] at hq
        exact (hbad _ _ hq.symm).from hc5
    rw [if_neg (fun e => n92 (l92.2 e))] at hq
    rw [bin_lss, condW_dec]
    refine ⟨fun e => ?_, fun n32 => ?_⟩
    · rw [if_pos (low32.1 e)] at hq
      refine h5.ld rfl ?_
      exact fail_p ((hbad _ _ hq.symm).from hc5)
    rw [if_neg (fun e => n32 (low32.2 e))] at hq
    rw [bin_eql]
    simp only [isB_t, bin_lss, GdW_pure]
    intro _
    simp only [List.getD_cons_zero]
    rw [pick_gd_and, condW_b]
    refine ⟨fun e => ?_, fun e => ?_⟩
    · rw [Bool.and_eq_true, decide_eq_true_iff, decide_eq_true_iff] at e
      have h0 : runeM s j = 0 := by
        rcases hrune with ⟨h0, _⟩ | ⟨r, hr, hp, he⟩
        · exact h0
        · exfalso
          cases he
          have := hr.low (by omega)
          omega
      rw [if_pos h0] at hq
      refine h5.ld rfl ?_
      exact fail_p ((hbad _ _ hq.symm).from hc5)
    · refine ⟨(by first | rfl | trivial), (by first | rfl | trivial), fun e => n34 (l34.2 e), fun e => n92 (l92.2 e), fun e => n32 (low32.2 e), fun h0 => ?_⟩
      rcases hrune with ⟨_, _, he⟩ | ⟨r, hr, hp, he⟩
      · cases he
        exact absurd e (by decide)
      · omega
  rintro st g3 w6 ⟨rfl, rfl, n34, n92, n32, hr0⟩
  rw [if_neg n34, if_neg (by omega), if_neg n92, if_neg n32, if_neg hr0] at hq
  rcases hrune with ⟨h0, _⟩ | ⟨r, hr, hp, he⟩
  · exact absurd h0 hr0
  cases he
  have hw : wrM cr = (s.drop j).take (runeM s j) := by
    rw [← wr_enc (by have := hr.val; have := hr.top; omega)]
    exact hr.bytes
  have hfit := hr.fits
  have hsm := hr.small
  refine wrune_p hB5 hz5 (by omega) (by have := hr.val; have := hr.top; omega) fun _ w7 hB7 hc7 => ?_
  rw [hw] at hB7
  have h7 := keepR hc7 h5
  have hc7' := keepC hc7 hc5
  refine h7.ld rfl ?_
  rw [bin_add, upk (by omega)]
  refine h7.st1 fun w8 h8 hc8 hz8 => ?_
  refine ⟨⟨(by first | rfl | trivial), j + runeM s j, _, n, h8, keepB hc8 hB7, hc7'.trans hc8, by have := hc8.size; have := hc7.size; omega, hfit, ?_, by omega, hq⟩, ?_⟩
  · rw [List.length_append, List.length_take, List.length_drop]; omega
  · rw [h8.at_, h3.at_]; omega
end
end Go.Proofs.YtcnjpcadejcenaaGreatDoor
namespace Go.Eng
open Go
theorem set_cells {b : Nat} {T : TypeId} : ∀ (vs : List Value) (o : Nat) (w : World) (cs : List Value), w.heap[b]? = some (.cells cs.toArray T (0, 0)) → o + vs.length ≤ cs.length →
    (w.setCells b o vs).heap[b]? = some (.cells (cs.take o ++ vs ++ cs.drop (o + vs.length)).toArray T (0, 0)) ∧ Chg (fun k => k = b) w (w.setCells b o vs) ∧ (w.setCells b o vs).heap.size = w.heap.size
  | [], o, w, cs, h, _ => by
    refine ⟨?_, Chg.refl _ _, rfl⟩
    simp only [World.setCells, List.length_nil, Nat.add_zero, List.append_nil, List.take_append_drop]
    exact h
  | v :: r, o, w, cs, h, hl => by
    rw [List.length_cons] at hl
    have hb : (w.setCell ⟨b, o, none⟩ v).heap[b]? = some (.cells (cs.set o v).toArray T (0, 0)) := by
      rw [heap_set_same, h, setO_some]; simp
    obtain ⟨h1, h2, h3⟩ := set_cells r (o + 1) (w.setCell ⟨b, o, none⟩ v) (cs.set o v) hb (by rw [List.length_set]; omega)
    have hc : Chg (fun k => k = b) w (w.setCell ⟨b, o, none⟩ v) := Chg.set (S := fun k => k = b) (Chg.refl _ _) (.inl rfl) _
    simp only [World.setCells]
    refine ⟨?_, hc.trans h2, by rw [h3]; simp⟩
    rw [h1]
    have e : (cs.set o v).take (o + 1) ++ r ++ (cs.set o v).drop (o + 1 + r.length) = cs.take o ++ v :: r ++ cs.drop (o + (v :: r).length) := by
      rw [List.take_add_one, List.getElem?_set_self (by omega), List.take_set_of_le (by omega), List.drop_set_of_lt (by omega), List.length_cons]
      simp
      congr 1; omega
    rw [e]
theorem run_copy_any {P : Program} (w : World) (dT sT ty elem : TypeId) (b o dLen dCap : Nat) (a : Addr) (sLen sCap : Nat) (cs : List Value) {i : TypeInfo}
    (hu : P.underlying dT = some (.slice elem)) (hq : P.info? elem = some i) (hn : cs.length = Nat.min sLen dLen * i.size)
    (hsrc : ∀ j v, cs[j]? = some v → w.cell? (a.add j) = some v) (hc : ∀ j, j < cs.length → (w.cell? ⟨b, o + j, none⟩).isSome = true) (hf : ∀ j, j < cs.length → w.frozen? ⟨b, o + j, none⟩ = false) (h1 : ∀ v ∈ cs, v.oneCell' = true) :
    (Builtin.copy_ #[dT, sT] ty #[.slice (some ⟨b, o, none⟩) dLen dCap, .slice (some a) sLen sCap]).run P w = .ok (goInt (Nat.min sLen dLen)) (w.setCells b o cs) := by
  have hl := run_loadCells_list (P := P) w a cs hsrc
  have hst := run_storeCells_cells (P := P) b o cs 0 w (by simpa using hc) (by simpa using hf) h1
  simp [Builtin.copy_, run_underlying' hu, Builtin.lenOf, Builtin.firstCells, sizeOf, typeInfo, hq, ← hn, hl, hst, run_bind, run_pure]
theorem copy_q {P : Program} {dT sT ty e : TypeId} {size bytes : Nat} (hT : ElemT P dT e size bytes) {w : World} {b o dl dc sl sc : Nat} {a : Addr} {vs cs : List Value} {T : TypeId} {K : Value → World → Prop}
    (hb : w.heap[b]? = some (.cells cs.toArray T (0, 0))) (hn : vs.length = Nat.min sl dl * size) (hsrc : ∀ j v, vs[j]? = some v → w.cell? (a.add j) = some v) (hfit : o + vs.length ≤ cs.length) (h1 : ∀ v ∈ vs, one1 v = true)
    (hK : ∀ r w', w'.heap[b]? = some (.cells (cs.take o ++ vs ++ cs.drop (o + vs.length)).toArray T (0, 0)) → Chg (fun k => k = b) w w' → w'.heap.size = w.heap.size → K r w') :
    semE P (Builtin.copy_ #[dT, sT] ty #[.slice (some ⟨b, o, none⟩) dl dc, .slice (some a) sl sc]) w K := by
  obtain ⟨i, z, hi, _, hs, _, _⟩ := hT.get
  unfold semE
  rw [run_copy_any w dT sT ty e b o dl dc a sl sc vs hT.und hi (by rw [hs]; exact hn) hsrc (fun j hj => by
      rw [cell_eq, hb, cellO_some]
      simp
      omega) (fun j hj => by rw [frozen_eq, hb, frO_zero]) fun v hv => one1_oneCell' (h1 v hv)]
  obtain ⟨q1, q2, q3⟩ := set_cells vs o w cs hb hfit
  exact hK _ _ q1 q2 q3
section
variable [HX]
def InsW (P : Program) (s : Nat) (t it : TypeId) (ov rep : FuncId) (v0 v1 v2 : Value) (w : World) (K : Value → World → Prop) : Prop :=
  sllW s v0 (some v1) none none fun _ =>
  lenlW v2 fun t14 =>
  binW .eql t14 (.int .i64 0) fun t16 =>
  condW t16 (
    K v0 w) (
    lenlW v0 fun t19 =>
    binW .eql v1 t19 fun t22 =>
    condW t22 (
      semE P (Builtin.append_ #[t, t] t #[v0, v2]) w fun t25 w1 =>
      K t25 w1) (
      binW .add t19 t14 fun t28 =>
      capW v0 fun t30 =>
      binW .gtr t28 t30 fun t31 =>
      condW t31 (
        sllW s v0 none (some v1) none fun t34 =>
        binW .add t19 t14 fun t37 =>
        binW .sub t37 v1 fun t39 =>
        semE P (Builtin.append_ #[t, it] t #[t34, t39]) w fun t40 w2 =>
        sllW s t40 (some v1) none none fun t43 =>
        semE P (Builtin.copy_ #[t, t] it #[t43, v2]) w2 fun _ w3 =>
        binW .add v1 t14 fun t49 =>
        sllW s t40 (some t49) none none fun t50 =>
        sllW s v0 (some v1) none none fun t53 =>
        semE P (Builtin.copy_ #[t, t] it #[t50, t53]) w3.drew fun _ w4 =>
        K t40 w4) (
        binW .add t19 t14 fun t59 =>
        sllW s v0 none (some t59) none fun t60 =>
        binW .add v1 t14 fun t65 =>
        sllW s t60 (some t65) none none fun t66 =>
        callF P ov [v2, t66] w fun t67 w5 =>
        unW .not t67 fun t68 =>
        condW t68 (
          binW .add v1 t14 fun t72 =>
          sllW s t60 (some t72) none none fun t73 =>
          sllW s t60 (some v1) none none fun t76 =>
          semE P (Builtin.copy_ #[t, t] it #[t73, t76]) w5.drew fun _ w6 =>
          sllW s t60 (some v1) none none fun t80 =>
          semE P (Builtin.copy_ #[t, t] it #[t80, v2]) w6 fun _ w7 =>
          K t60 w7) (
          sllW s t60 (some t19) none none fun t86 =>
          semE P (Builtin.copy_ #[t, t] it #[t86, v2]) w5 fun _ w8 =>
          sllW s t60 (some v1) none none fun t91 =>
          callF P rep [t91, t14] w8 fun _ w9 =>
          K t60 w9))))
theorem sll_lo {s g o n cap i : Nat} {K : Value → Prop} (hi : i ≤ n) (hn : n ≤ cap) (hne : cap ≠ i) : sllW s (.slice (some ⟨g, o, none⟩) n cap) (some (i64 (i : Nat))) none none K ↔ K (.slice (some ⟨g, o + i * s, none⟩) (n - i) (cap - i)) := by
  rw [sll_sl, bd_none, bd_none, bd_some]
  simp only [Int.toNat_natCast, if_neg hne, Option.map_some, add_mk]
  constructor
  · rintro ⟨_, _, h⟩; exact h
  · intro h; exact ⟨by omega, by omega, h⟩
theorem sll_hi {s g n cap i : Nat} {K : Value → Prop} (hi : i ≤ cap) (h0 : 0 < cap) : sllW s (.slice (some ⟨g, 0, none⟩) n cap) none (some (i64 (i : Nat))) none K ↔ K (.slice (some ⟨g, 0, none⟩) i cap) := by
  rw [sll_sl, bd_none, bd_some, bd_none]
  simp only [Int.toNat_natCast, if_neg (show ¬ cap = 0 by omega), Option.map_some, add_mk, Nat.zero_mul, Nat.add_zero, Nat.sub_zero]
  constructor
  · rintro ⟨_, _, h⟩; exact h
  · intro h; exact ⟨by omega, by omega, h⟩
theorem insert_q {P : Program} {t it ov rep e T2 : TypeId} {size bytes : Nat} (hT : ElemT P t e size bytes) (hit : P.underlying it = some (.int .i64))
    (hov : ∀ {w : World} {a b oa ob la ca lb cb : Nat} {x y : List Value} {T1 T2 : TypeId} {K : Value → World → Prop}, a ≠ b → w.heap[a]? = some (.cells x.toArray T1 (0, 0)) → w.heap[b]? = some (.cells y.toArray T2 (0, 0)) → y ≠ [] → K (.bool false) w → callF P ov [.slice (some ⟨a, oa, none⟩) la ca, .slice (some ⟨b, ob, none⟩) lb cb] w K)
    {w : World} {base tb n i : Nat} {v : Value} {xs c : List Value} {K : Value → World → Prop} (hown : Own w base e size v n xs) (ht : w.heap[tb]? = some (.cells c.toArray T2 (0, 0))) (hc : c.length = size) (h1 : ∀ u ∈ c, one1 u = true) (hx1 : ∀ u ∈ xs, one1 u = true)
    (hne : v.ownBlock ≠ some tb) (hi : i ≤ n) (hn : n ≤ 1000000) (hby : bytes ≤ 1000) (hbase : base ≤ w.heap.size)
    (hK : ∀ v' w', Own w' base e size v' (n + 1) (xs.take (i * size) ++ c ++ xs.drop (i * size)) → Chg (fun k => v.ownBlock = some k) w w' → (∀ k, v'.ownBlock = some k → v.ownBlock = some k ∨ w.heap.size ≤ k) → K v' w') :
    InsW P size t it ov rep v (i64 (i : Nat)) (.slice (some ⟨tb, 0, none⟩) 1 1) w K := by
  have hpos := hT.pos
  have hmb : (n + 1) * bytes ≤ 140737488355328 := by
    have := Nat.mul_le_mul (show n + 1 ≤ 1000001 by omega) hby
    omega
  have hsl : SlAt w T2 (.slice (some ⟨tb, 0, none⟩) 1 1) 1 c := ⟨_, _, rfl, Nat.le_refl _, fun e => (by cases e), fun _ => ⟨tb, 0, _, _, rfl, ht, fun j _ => by rw [Nat.zero_add]; simp⟩⟩
  have hl := hown.1
  have hlen : lenlW v = fun K => K (i64 (n : Nat)) := by
    funext K
    exact propext (lenl_at hown.sl K)
  unfold InsW
  -- the check of the bounds
  have chk : ∀ (B : Value → Prop), (∀ x, B x) → sllW size v (some (i64 (i : Nat))) none none B := fun B hB => by
    obtain ⟨p, cap, rfl, hcap, _⟩ := hown.sl
    rw [sll_sl, bd_none, bd_none, bd_some]
    exact ⟨by omega, by omega, hB _⟩
  refine chk _ fun _ => ?_
  rw [lenl_sl, bin_eql, decide_eq_false (by decide), condW_false, hlen]
  dsimp only
  rw [bin_eql, condW_dec]
  refine ⟨fun e1 => ?_, fun e1 => ?_⟩
  · obtain rfl : i = n := by omega
    refine append_own3 hT hown hsl (by omega) h1 (by omega) hmb hbase fun v' w' hO hch hblk => ?_
    refine hK v' w' ?_ hch hblk
    have e1 : xs.take (i * size) = xs := List.take_of_length_le (by omega)
    have e2 : xs.drop (i * size) = [] := List.drop_eq_nil_iff.2 (by omega)
    rw [e1, e2, List.append_nil]
    exact hO
  have hlt : i < n := by omega
  have hsz : i * size < n * size := Nat.mul_lt_mul_of_pos_right hlt hpos
  obtain ⟨_, ⟨_, h0⟩ | ⟨g, cap, cur, rfl, hg, hgb, hnc, hcm, hcs, htake⟩⟩ := hown
  · omega
  have en1 : IntKind.i64.wrap ((n : Int) + ((1 : Nat) : Int)) = ((n + 1 : Nat) : Int) := by rw [wrap_id (by omega) (by omega)]; omega
  have ei1 : IntKind.i64.wrap ((i : Int) + ((1 : Nat) : Int)) = ((i + 1 : Nat) : Int) := by rw [wrap_id (by omega) (by omega)]; omega
  have hgne : tb ≠ g := fun e => hne (by rw [e]; rfl)
  have hgb' : w.heap[g]? = some (.cells cur.toList.toArray e (0, 0)) := by rw [Array.toArray_toList]; exact hgb
  have hcl : cur.toList.length = cap * size := by rw [Array.length_toList]; exact hcs
  generalize cur.toList = L at *
  have hncap : n * size ≤ cap * size := Nat.mul_le_mul_right _ hnc
  have hisz : i * size + size ≤ n * size := by rw [← Nat.succ_mul]; exact Nat.mul_le_mul_right _ hlt
  -- the elements from the place on
  have hrest : (xs.drop (i * size)).length = (n - i) * size := by rw [List.length_drop, hl, Nat.sub_mul]
  have hsrc0 : ∀ j u, (xs.drop (i * size))[j]? = some u → L[i * size + j]? = some u := fun j u hj => by
    rw [List.getElem?_drop, ← htake, List.getElem?_take] at hj
    split at hj
    · exact hj
    · cases hj
  have hone : ∀ u ∈ xs.drop (i * size), one1 u = true := fun u hu => hx1 u (List.mem_of_mem_drop hu)
  rw [bin_add, en1]
  have hcap : ∀ K : Value → Prop, capW (.slice (some ⟨g, 0, none⟩) n cap) K ↔ K (i64 (cap : Nat)) := fun K => Iff.rfl
  rw [hcap, bin_gtr, condW_dec]
  refine ⟨fun hfull => ?_, fun hroom => ?_⟩
  · obtain rfl : cap = n := by omega
    rw [sll_hi (by omega) (by omega), bin_add, en1, bin_sub, wrap_id (by omega) (by omega)]
    have ek : ((cap + 1 : Nat) : Int) - (i : Int) = ((cap + 1 - i : Nat) : Int) := by omega
    rw [ek]
    obtain ⟨inf, z, hinf, hz, h2, h3, h4⟩ := hT.get
    have hold : (Builtin.firstCells inf.size i (.slice (some ⟨g, 0, none⟩) i cap)).run P w.drew = .ok (xs.take (i * size)).toArray w.drew := by
      rw [h2]
      have hlt2 : (xs.take (i * size)).length = i * size := by rw [List.length_take]; omega
      have := run_loadCells_list (P := P) w.drew ⟨g, 0, none⟩ (xs.take (i * size)) fun j u hj => by
        rw [add_mk, cell_eq, heap_drew, hgb', cellO_some]
        rw [List.getElem?_take] at hj
        split at hj
        · rw [← htake, List.getElem?_take] at hj
          split at hj
          · rw [Nat.zero_add]; simpa using hj
          · cases hj
        · cases hj
      rw [hlt2] at this
      simpa [Builtin.firstCells] using this
    have hr := Lib.run_append_grow_zeros (P := P) w t it t e inf z .i64 .i64 hT.und hit hinf hz (some ⟨g, 0, none⟩) i cap (xs.take (i * size)) hold (cap + 1 - i) (by omega) (by omega) (by omega) (by omega) (by rw [h3]; have := Nat.mul_le_mul (show cap + 1 - i ≤ 1000001 by omega) hby; omega) (growslice_fits (by omega) (by rw [h3, show i + (cap + 1 - i) = cap + 1 by omega]; exact hmb))
    have ei : i + (cap + 1 - i) = cap + 1 := by omega
    rw [ei] at hr
    unfold semE
    rw [hr]
    dsimp only
    have hgc : cap + 1 ≤ grownCap w (cap + 1) cap e := grownCap_ge w (cap + 1) cap e
    have hgm : grownCap w (cap + 1) cap e ≤ maxLen := grownCap_le_maxLen _ _ _ _ (by simp [maxLen]; omega)
    generalize hN : grownCap w (cap + 1) cap e = N at *
    -- the new block
    have hzl : ∀ k, (Builtin.zeroCells z.cells k).toList.length = k * size := fun k => by rw [Array.length_toList, size_zeroCells, h4]
    obtain ⟨Z, hZ, hZl⟩ : ∃ Z : List Value, (xs.take (i * size)).toArray ++ Builtin.zeroCells z.cells (cap + 1 - i) ++ Builtin.zeroCells z.cells (N - (cap + 1)) = (xs.take (i * size) ++ Z).toArray ∧ Z.length = (N - i) * size := by
      refine ⟨(Builtin.zeroCells z.cells (cap + 1 - i)).toList ++ (Builtin.zeroCells z.cells (N - (cap + 1))).toList, ?_, ?_⟩
      · apply Array.ext'
        simp
      · rw [List.length_append, hzl, hzl, ← Nat.add_mul]
        congr 1; omega
    rw [hZ]
    have hNi : (N - i) * size = size + (cap - i) * size + (N - (cap + 1)) * size := by
      rw [show N - i = 1 + (cap - i) + (N - (cap + 1)) by omega, Nat.add_mul, Nat.add_mul, Nat.one_mul]
    have hx0 : Ext w (w.drew.alloc (.cells (xs.take (i * size) ++ Z).toArray e)) := Chg.alloc (Chg.drew (Chg.refl _ _)) _
    have hb0 : (w.drew.alloc (.cells (xs.take (i * size) ++ Z).toArray e)).heap[w.heap.size]? = some (.cells (xs.take (i * size) ++ Z).toArray e (0, 0)) := heap_anew _ _ _ rfl
    have hz0 : (w.drew.alloc (.cells (xs.take (i * size) ++ Z).toArray e)).heap.size = w.heap.size + 1 := by simp
    generalize (w.drew.alloc (.cells (xs.take (i * size) ++ Z).toArray e)) = w2 at *
    have hlt1 : (xs.take (i * size)).length = i * size := by rw [List.length_take]; omega
    rw [sll_lo (by omega) hgc (by omega)]
    have htlt := at_lt ht
    have hglt := at_lt hgb'
    refine copy_q hT (vs := c) hb0 (by rw [hc, show Nat.min 1 (cap + 1 - i) = 1 by simp only [Nat.min_def]; split <;> omega, Nat.one_mul]) (fun j u hj => ?_) (by rw [List.length_append, hlt1, hZl, hc]; omega) h1 fun _ w3 hb3 hc3 hz3 => ?_
    · rw [add_mk, cell_eq, hx0.at ht id, cellO_some, Nat.zero_add]
      simpa using hj
    rw [bin_add, ei1, sll_lo (by omega) hgc (by omega), sll_lo (by omega) (Nat.le_refl _) (by omega)]
    have hb3' : w3.drew.heap[w.heap.size]? = some (.cells (xs.take (i * size) ++ c ++ Z.drop size).toArray e (0, 0)) := by
      have ez : List.take (0 + i * size) (List.take (i * size) xs ++ Z) ++ c ++ List.drop (0 + i * size + c.length) (List.take (i * size) xs ++ Z) = xs.take (i * size) ++ c ++ Z.drop size := by
        rw [Nat.zero_add, List.take_left' hlt1, ← List.drop_drop, List.drop_left' hlt1, hc]
      rw [heap_drew, hb3, ez]
    have hg3 : w3.drew.heap[g]? = some (.cells L.toArray e (0, 0)) := by
      rw [heap_drew]
      exact hc3.at (hx0.at hgb' id) (by omega)
    have hfl : (xs.take (i * size) ++ c ++ Z.drop size).length = N * size := by
      rw [List.length_append, List.length_append, hlt1, hc, List.length_drop, hZl, hNi, show N * size = (i + (N - i)) * size by congr 1; omega, Nat.add_mul, hNi]
      omega
    have hpre : (xs.take (i * size) ++ c).length = (i + 1) * size := by rw [List.length_append, hlt1, hc, Nat.add_mul, Nat.one_mul]
    have hNn : (cap + 1) * size ≤ N * size := Nat.mul_le_mul_right _ hgc
    have hsum : (i + 1) * size + (cap - i) * size = (cap + 1) * size := by rw [← Nat.add_mul]; congr 1; omega
    refine copy_q hT (vs := xs.drop (i * size)) hb3' (by rw [hrest, show Nat.min (cap - i) (cap + 1 - (i + 1)) = cap - i by simp only [Nat.min_def]; split <;> omega]) (fun j u hj => ?_) (by rw [hfl, hrest, Nat.zero_add]; omega) hone fun _ w4 hb4 hc4 hz4 => ?_
    · rw [add_mk, cell_eq, hg3, cellO_some, Nat.zero_add]
      simpa using hsrc0 j u hj
    have hx4 : Ext w w4 := (((hx0.new hc3 (Nat.le_refl _)).then (Chg.drew (Chg.refl (fun _ => False) w3)) fun _ _ e => e.elim)).new hc4 (Nat.le_refl _)
    refine hK _ w4 ⟨?_, .inr ⟨w.heap.size, N, _, rfl, hbase, hb4, hgc, hgm, ?_, ?_⟩⟩ (Chg.of_ext hx4) fun k hk => .inr ?_
    · rw [List.length_append, hpre, hrest, hsum]
    · rw [List.size_toArray, hrest, List.length_append, List.length_append, hrest, List.length_take, List.length_drop, hfl, Nat.zero_add]
      omega
    · rw [List.toList_toArray]
      rw [Nat.zero_add, List.take_left' hpre]
      refine List.take_left' ?_
      rw [List.length_append, hpre, hrest, hsum]
    · simp only [Value.ownBlock, Option.some.injEq] at hk
      omega
  · have hroom : n + 1 ≤ cap := by omega
    rw [bin_add, en1, sll_hi hroom (by omega), bin_add, ei1, sll_lo (by omega) hroom (by omega)]
    have hLne : L ≠ [] := fun e => by rw [e] at hcl; simp at hcl; have := Nat.mul_lt_mul_of_pos_right (show 0 < cap by omega) hpos; omega
    refine hov hgne ht hgb' hLne ?_
    rw [un_not, Bool.not_false, condW_true, bin_add, ei1, sll_lo (by omega) hroom (by omega), sll_lo (by omega) hroom (by omega)]
    have hncap1 : (n + 1) * size ≤ cap * size := Nat.mul_le_mul_right _ hroom
    have hsum : (i + 1) * size + (n - i) * size = (n + 1) * size := by rw [← Nat.add_mul]; congr 1; omega
    have hpre : (i + 1) * size = i * size + size := by rw [Nat.add_mul, Nat.one_mul]
    have hgd : w.drew.heap[g]? = some (.cells L.toArray e (0, 0)) := by rw [heap_drew]; exact hgb'
    refine copy_q hT (vs := xs.drop (i * size)) hgd (by rw [hrest, show Nat.min (n + 1 - i) (n + 1 - (i + 1)) = n - i by simp only [Nat.min_def]; split <;> omega]) (fun j u hj => ?_) (by rw [hcl, hrest, Nat.zero_add]; omega) hone fun _ w3 hb3 hc3 hz3 => ?_
    · rw [add_mk, cell_eq, hgd, cellO_some, Nat.zero_add]
      simpa using hsrc0 j u hj
    rw [sll_lo (by omega) hroom (by omega)]
    have htd : w.drew.heap[tb]? = some (.cells c.toArray T2 (0, 0)) := by rw [heap_drew]; exact ht
    have ht3 := hc3.at htd hgne
    have hlt1 : (L.take (i * size)).length = i * size := by rw [List.length_take, hcl]; omega
    have hlt2 : (L.take (0 + (i + 1) * size)).length = (i + 1) * size := by rw [List.length_take, hcl, Nat.zero_add]; omega
    have hfl : (L.take (0 + (i + 1) * size) ++ xs.drop (i * size) ++ L.drop (0 + (i + 1) * size + (xs.drop (i * size)).length)).length = cap * size := by
      rw [hrest, List.length_append, List.length_append, hlt2, hrest, List.length_drop, hcl, Nat.zero_add]
      omega
    refine copy_q hT (vs := c) hb3 (by rw [hc, show Nat.min 1 (n + 1 - i) = 1 by simp only [Nat.min_def]; split <;> omega, Nat.one_mul]) (fun j u hj => ?_) (by rw [hfl, hc]; omega) h1 fun _ w4 hb4 hc4 hz4 => ?_
    · rw [add_mk, cell_eq, ht3, cellO_some, Nat.zero_add]
      simpa using hj
    have hch : Chg (fun k => (Value.slice (some ⟨g, 0, none⟩) n cap).ownBlock = some k) w w4 := (((Chg.drew (Chg.refl (fun k => k = g) w)).trans hc3).trans hc4).mono fun k _ e => by rw [e]; rfl
    have hfin : (L.take (0 + (i + 1) * size) ++ xs.drop (i * size) ++ L.drop (0 + (i + 1) * size + (xs.drop (i * size)).length)).take (0 + i * size) ++ c ++ (L.take (0 + (i + 1) * size) ++ xs.drop (i * size) ++ L.drop (0 + (i + 1) * size + (xs.drop (i * size)).length)).drop (0 + i * size + c.length) = xs.take (i * size) ++ c ++ xs.drop (i * size) ++ L.drop ((i + 1) * size + (xs.drop (i * size)).length) := by
      rw [Nat.zero_add, Nat.zero_add, hc, ← hpre, List.append_assoc (L.take ((i + 1) * size)), List.take_append_of_le_length (by rw [List.length_take, hcl]; omega), List.take_take, Nat.min_eq_left (by omega)]
      have e1 : L.take (i * size) = xs.take (i * size) := by rw [← htake, List.take_take, Nat.min_eq_left (by omega)]
      have e2 : (L.take ((i + 1) * size) ++ (xs.drop (i * size) ++ L.drop ((i + 1) * size + (xs.drop (i * size)).length))).drop ((i + 1) * size) = xs.drop (i * size) ++ L.drop ((i + 1) * size + (xs.drop (i * size)).length) := List.drop_left' (by rw [List.length_take, hcl]; omega)
      rw [e1, e2]
      simp
    rw [hfin] at hb4
    have hxl : (xs.take (i * size)).length = i * size := by rw [List.length_take]; omega
    refine hK _ w4 ⟨?_, .inr ⟨g, cap, _, rfl, hg, hb4, hroom, hcm, ?_, ?_⟩⟩ hch fun k hk => .inl hk
    · rw [List.length_append, List.length_append, hxl, hc, hrest]; omega
    · rw [List.size_toArray, hrest, List.length_append, List.length_append, List.length_append, hxl, hc, hrest, List.length_drop, hcl]; omega
    · rw [List.toList_toArray]
      refine List.take_left' ?_
      rw [List.length_append, List.length_append, hxl, hc, hrest]; omega
end
end Go.Eng
namespace Go.Proofs.YtcnjpcadejcenaaGreatDoor
open Go Go.Eng
set_option maxRecDepth 100000
section
variable [HX]
theorem shape_of {w : World} {a : Nat} {x : List Value} {T : TypeId} (h : w.heap[a]? = some (.cells x.toArray T (0, 0))) : w.shape? a = some (T, x.length) := by simp [World.shape?, h]
theorem ov_s {w : World} {a b oa ob la ca lb cb : Nat} {x y : List Value} {T1 T2 : TypeId} {K : Value → World → Prop} (hne : a ≠ b) (ha : w.heap[a]? = some (.cells x.toArray T1 (0, 0))) (hb : w.heap[b]? = some (.cells y.toArray T2 (0, 0))) (hy : y ≠ []) (hK : K (.bool false) w) :
    callF Tryz.prog 260 [.slice (some ⟨a, oa, none⟩) la ca, .slice (some ⟨b, ob, none⟩) lb cb] w K := by
  unfold callF
  rw [run_callFunc_extern Tryz.func260 (by kernel_rfl) (by kernel_rfl) (by kernel_rfl) (e := Extern.SlicesOverlaps.overlaps #[24, 24] #[4]) (by kernel_rfl),
    Lib.run_overlaps_apart w 24 4 ST (by kernel_rfl) 1 (fun w => by kernel_rfl) ⟨a, oa, none⟩ ⟨b, ob, none⟩ la ca lb cb hne T1 T2 x.length y.length (shape_of ha) (shape_of hb) (fun e => hy (List.eq_nil_of_length_eq_zero e)) (by rw [frozen_eq, ha, frO_zero]) (by rw [frozen_eq, ha, frO_zero])]
  exact hK
theorem ov_v {w : World} {a b oa ob la ca lb cb : Nat} {x y : List Value} {T1 T2 : TypeId} {K : Value → World → Prop} (hne : a ≠ b) (ha : w.heap[a]? = some (.cells x.toArray T1 (0, 0))) (hb : w.heap[b]? = some (.cells y.toArray T2 (0, 0))) (hy : y ≠ []) (hK : K (.bool false) w) :
    callF Tryz.prog 262 [.slice (some ⟨a, oa, none⟩) la ca, .slice (some ⟨b, ob, none⟩) lb cb] w K := by
  unfold callF
  rw [run_callFunc_extern Tryz.func262 (by kernel_rfl) (by kernel_rfl) (by kernel_rfl) (e := Extern.SlicesOverlaps.overlaps #[23, 23] #[4]) (by kernel_rfl),
    Lib.run_overlaps_apart w 23 4 VT (by kernel_rfl) 5 (fun w => by kernel_rfl) ⟨a, oa, none⟩ ⟨b, ob, none⟩ la ca lb cb hne T1 T2 x.length y.length (shape_of ha) (shape_of hb) (fun e => hy (List.eq_nil_of_length_eq_zero e)) (by rw [frozen_eq, ha, frO_zero]) (by rw [frozen_eq, ha, frO_zero])]
  exact hK
theorem insert_s {w : World} {base tb n i : Nat} {v : Value} {xs c : List Value} {T2 : TypeId} {K : Value → World → Prop} (hown : Own w base ST 1 v n xs) (ht : w.heap[tb]? = some (.cells c.toArray T2 (0, 0))) (hc : c.length = 1) (h1 : ∀ u ∈ c, one1 u = true) (hx1 : ∀ u ∈ xs, one1 u = true)
    (hne : v.ownBlock ≠ some tb) (hi : i ≤ n) (hn : n ≤ 1000000) (hbase : base ≤ w.heap.size)
    (hK : ∀ v' w', Own w' base ST 1 v' (n + 1) (xs.take (i * 1) ++ c ++ xs.drop (i * 1)) → Chg (fun k => v.ownBlock = some k) w w' → (∀ k, v'.ownBlock = some k → v.ownBlock = some k ∨ w.heap.size ≤ k) → K v' w') :
    callF Tryz.prog 230 [v, i64 (i : Nat), .slice (some ⟨tb, 0, none⟩) 1 1] w K := by
  refine W230_ok ?_
  show InsW Tryz.prog 1 24 3 260 261 _ _ _ _ _
  exact insert_q elem_s (by kernel_rfl) ov_s hown ht hc h1 hx1 hne hi hn (by decide) hbase hK
theorem insert_v {w : World} {base tb n i : Nat} {v : Value} {xs c : List Value} {T2 : TypeId} {K : Value → World → Prop} (hown : Own w base VT 5 v n xs) (ht : w.heap[tb]? = some (.cells c.toArray T2 (0, 0))) (hc : c.length = 5) (h1 : ∀ u ∈ c, one1 u = true) (hx1 : ∀ u ∈ xs, one1 u = true)
    (hne : v.ownBlock ≠ some tb) (hi : i ≤ n) (hn : n ≤ 1000000) (hbase : base ≤ w.heap.size)
    (hK : ∀ v' w', Own w' base VT 5 v' (n + 1) (xs.take (i * 5) ++ c ++ xs.drop (i * 5)) → Chg (fun k => v.ownBlock = some k) w w' → (∀ k, v'.ownBlock = some k → v.ownBlock = some k ∨ w.heap.size ≤ k) → K v' w') :
    callF Tryz.prog 231 [v, i64 (i : Nat), .slice (some ⟨tb, 0, none⟩) 1 1] w K := by
  refine W231_ok ?_
  show InsW Tryz.prog 5 23 3 262 263 _ _ _ _ _
  exact insert_q elem_v (by kernel_rfl) ov_v hown ht hc h1 hx1 hne hi hn (by decide) hbase hK
end
end Go.Proofs.YtcnjpcadejcenaaGreatDoor
namespace Go.Proofs.YtcnjpcadejcenaaGreatDoor
open Go Go.Eng
set_option maxRecDepth 100000
theorem VRepsP.len {G : Nat → Prop} {w : World} {xs : List JV} {L : List Value} (h : VRepsP G w xs L) : L.length = xs.length * 5 := (VRepsP.rep h).len
theorem VRepsP.app {G : Nat → Prop} {w : World} : ∀ {xs ys : List JV} {L M : List Value}, VRepsP G w xs L → VRepsP G w ys M → VRepsP G w (xs ++ ys) (L ++ M)
  | [], ys, L, M, h, h' => by simp only [VRepsP] at h; subst h; exact h'
  | x :: xs, ys, L, M, h, h' => by
    simp only [VRepsP] at h
    obtain ⟨c, r, rfl, hc, hr⟩ := h
    simp only [List.cons_append, VRepsP]
    exact ⟨c, r ++ M, by simp, hc, VRepsP.app hr h'⟩
theorem VRepsP.cut {G : Nat → Prop} {w : World} : ∀ (i : Nat) {xs : List JV} {L : List Value}, VRepsP G w xs L → VRepsP G w (xs.take i) (L.take (i * 5)) ∧ VRepsP G w (xs.drop i) (L.drop (i * 5))
  | 0, xs, L, h => by simp only [Nat.zero_mul, List.take_zero, List.drop_zero, VRepsP]; exact ⟨trivial, h⟩
  | i + 1, [], L, h => by simp only [VRepsP] at h; subst h; simp [VRepsP]
  | i + 1, x :: xs, L, h => by
    simp only [VRepsP] at h
    obtain ⟨c, r, rfl, hc, hr⟩ := h
    have h5 := hc.rep.len
    obtain ⟨h1, h2⟩ := VRepsP.cut i hr
    have e1 : (c ++ r).take ((i + 1) * 5) = c ++ r.take (i * 5) := by
      rw [show (i + 1) * 5 = c.length + i * 5 by omega, List.take_append, List.take_of_length_le (by omega), Nat.add_sub_cancel_left]
    have e2 : (c ++ r).drop ((i + 1) * 5) = r.drop (i * 5) := by
      rw [show (i + 1) * 5 = c.length + i * 5 by omega, List.drop_append]
      simp
    rw [e1, e2]
    simp only [List.take_succ_cons, List.drop_succ_cons, VRepsP]
    exact ⟨⟨c, _, rfl, hc, h1⟩, h2⟩
theorem VRepsP.one' {G : Nat → Prop} {w : World} {x : JV} {cs : List Value} (h : VRepP G w x cs) : VRepsP G w [x] cs := by
  simp only [VRepsP]; exact ⟨cs, [], by simp, h, rfl⟩
theorem ins_split {l : List (Str × JV)} {k : Str} {x : JV} {i : Nat} (hk : k ∉ l.map (·.1)) (h1 : ∀ j a, j < i → (l.map (·.1))[j]? = some a → Op.bytesLess a k = true) (h2 : ∀ j a, i ≤ j → (l.map (·.1))[j]? = some a → Op.bytesLess a k = false) : insP l k x = l.take i ++ (k, x) :: l.drop i := by
  induction l generalizing i with
  | nil => simp [insP]
  | cons q r ih =>
    obtain ⟨a, y⟩ := q
    simp only [List.map_cons, List.mem_cons, not_or] at hk
    simp only [insP]
    cases i with
    | zero =>
      have := h2 0 a (Nat.zero_le _) rfl
      have hka : Op.bytesLess k a = true := by
        rcases less_tri k a with h | h | h
        · exact h
        · exact absurd h hk.1
        · rw [this] at h; cases h
      rw [if_pos hka]; rfl
    | succ i =>
      have := h1 0 a (by omega) rfl
      rw [if_neg (by rw [less_anti this]; simp), ih (i := i) hk.2 (fun j b hj hb => h1 (j + 1) b (by omega) hb) (fun j b hj hb => h2 (j + 1) b (by omega) hb)]
      rfl
theorem own_chg {w w' : World} {B : Nat} {e : TypeId} {size : Nat} {v : Value} {n : Nat} {xs : List Value} {S : Nat → Prop} (h : Own w B e size v n xs) (hc : Chg S w w') (hS : ∀ k, v.ownBlock = some k → ¬ S k) : Own w' B e size v n xs := by
  obtain ⟨hl, h | ⟨g, cap, cur, rfl, h1, h2, h3⟩⟩ := h
  · exact ⟨hl, .inl h⟩
  · exact ⟨hl, .inr ⟨g, cap, cur, rfl, h1, hc.at h2 (hS g rfl), h3⟩⟩
theorem own_in {w : World} {B : Nat} {e : TypeId} {size : Nat} {v : Value} {n k : Nat} {xs : List Value} (h : Own w B e size v n xs) (hk : v.ownBlock = some k) : B ≤ k ∧ k < w.heap.size ∧ ∃ c, w.heap[k]? = some (.cells c e (0, 0)) := by
  obtain ⟨hl, ⟨rfl, _⟩ | ⟨g, cap, cur, rfl, h1, h2, h3⟩⟩ := h
  · cases hk
  · simp only [Value.ownBlock, Option.some.injEq] at hk
    subst hk
    exact ⟨h1, at_lt h2, _, h2⟩
theorem own_one {w : World} {B : Nat} {e : TypeId} {size : Nat} {v : Value} {n : Nat} {xs : List Value} (h : Own w B e size v n xs) : one1 v = true := by obtain ⟨p, c, rfl, _⟩ := h.sl.shape; rfl
theorem strs_one (l : List Str) : ∀ u ∈ l.map str, one1 u = true := fun u hu => by
  obtain ⟨s, _, rfl⟩ := List.mem_map.1 hu
  rfl
section
variable [HX]
theorem clone_so {v : Value} {T : TypeId} {l : List Str} {w : World} {K : Value → World → Prop} (h : SlAt w T v l.length (l.map str)) (hl : l.length ≤ 1000000)
    (hK : ∀ v' w', Ext w w' → Own w' w.heap.size ST 1 v' l.length (l.map str) → K v' w') : callF Tryz.prog 228 [v] w K := by
  refine W228_ok ?_
  unfold W228
  obtain ⟨p, cap, rfl, hcap, hp, hc⟩ := h
  cases p with
  | none =>
    obtain ⟨h0, rfl⟩ := hp rfl
    have : l = [] := List.eq_nil_of_length_eq_zero h0
    subst this
    have e : ∀ K : Value → Prop, eqW .slice false (.slice none ([] : List Str).length 0) (.slice none 0 0) K ↔ K (.bool true) := fun K => Iff.rfl
    rw [e]
    simp only [wsv, wsg, wsh, wsl, cond_true, cond_false, exists_eq_left', Option.some.injEq, Option.isSome_some, List.getElem?_toArray, List.getElem?_cons_zero, List.getElem?_cons_succ, List.length_cons, List.length_nil, List.set_cons_zero, List.set_cons_succ, List.getD_cons_zero, List.getD_cons_succ, Nat.zero_add, Nat.add_zero, Nat.reduceAdd, Nat.reduceLT, Nat.lt_add_one, Nat.zero_lt_succ, decide_true, decide_false, ne_eq, reduceCtorEq]
    exact hK _ w (Chg.refl _ _) ⟨rfl, .inl ⟨rfl, rfl⟩⟩
  | some a =>
    have e : ∀ K : Value → Prop, eqW .slice false (.slice (some a) l.length cap) (.slice none 0 0) K ↔ K (.bool false) := fun K => Iff.rfl
    rw [e]
    unfold bslW
    simp only [wsv, wsg, wsh, wsl, cond_true, cond_false, exists_eq_left', Option.some.injEq, Option.isSome_some, List.getElem?_toArray, List.getElem?_cons_zero, List.getElem?_cons_succ, List.length_cons, List.length_nil, List.set_cons_zero, List.set_cons_succ, List.getD_cons_zero, List.getD_cons_succ, Nat.zero_add, Nat.add_zero, Nat.reduceAdd, Nat.reduceLT, Nat.lt_add_one, Nat.zero_lt_succ, decide_true, decide_false, ne_eq, reduceCtorEq]
    refine append_own3 elem_s (base := w.heap.size) (own_new (w := w) (base := w.heap.size) (e := ST) (size := 1) (n := 0) (cs := []) (Nat.le_refl _) rfl (by omega)) (x := .slice (some a) l.length cap) (T := T) (m := l.length) (news := l.map str) ?_ (by simp) ?_ (by omega) (by omega) (by rw [size_alloc]; omega) fun v' w' h' hc' hb' => ?_
    · have hx : Ext w (w.alloc (.cells ([] : List Value).toArray ST)) := (by repeat (first | assumption | exact Chg.refl _ _ | refine Chg.drew ?_ | refine Chg.alloc ?_ _ | refine Chg.set ?_ (by first | exact .inl rfl | exact .inr (by omega) | exact .inr (by simp only [size_set, size_alloc, size_drew]; omega) | (left; simp; done)) _ | exact Chg.of_ext (by assumption)))
      exact SlAt.ext ⟨some a, cap, rfl, hcap, hp, hc⟩ hx
    · exact strs_one l
    · have hx : Ext w (w.alloc (.cells ([] : List Value).toArray ST)) := (by repeat (first | assumption | exact Chg.refl _ _ | refine Chg.drew ?_ | refine Chg.alloc ?_ _ | refine Chg.set ?_ (by first | exact .inl rfl | exact .inr (by omega) | exact .inr (by simp only [size_set, size_alloc, size_drew]; omega) | (left; simp; done)) _ | exact Chg.of_ext (by assumption)))
      refine hK v' w' (hx.then hc' fun k hk e => ?_) (by simpa using h')
      simp only [Value.ownBlock, Option.some.injEq] at e
      omega
theorem clones_o {xs : List JV} (hf : ∀ x ∈ xs, fewM x = true)
    {sv : Value} {w : World} {K : Value → World → Prop} (h : ItemsAt w sv xs) (hl : xs.length ≤ 1000000)
    (hK : ∀ sv' w' L, Ext w w' → Own w' w.heap.size VT 5 sv' xs.length L → VRepsP (fun k => w.heap.size ≤ k ∧ sv'.ownBlock ≠ some k) w' xs L → K sv' w') : callF Tryz.prog 229 [sv] w K := by
  refine W229_ok ?_
  unfold W229
  rw [h.len]
  refine ⟨fun s w' => ∃ i v L, i ≤ xs.length ∧ s = [v, i64 (i : Nat)] ∧ Ext w w' ∧ Own w' w.heap.size VT 5 v i L ∧ VRepsP (fun k => w.heap.size ≤ k ∧ v.ownBlock ≠ some k) w' (xs.take i) L,
    fun s _ => match s with | [_, .int _ i] => xs.length - i.toNat | _ => 0, ⟨0, _, [], by omega, rfl, Chg.refl _ _, ⟨by simp, .inl ⟨rfl, rfl⟩⟩, by simp [VRepsP]⟩, ?_⟩
  rintro s g w2 ⟨i, v, L, hi, rfl, hx2, hO, hr⟩
  rcases Nat.lt_or_ge i xs.length with hlt | hge
  · obtain ⟨x, hxi⟩ : ∃ x, xs[i]? = some x := ⟨_, List.getElem?_eq_getElem hlt⟩
    have hltI : (i : Int) < (xs.length : Int) := by omega
    simp only [wsv, wsg, wsh, wsl, cond_true, cond_false, exists_eq_left', Option.some.injEq, Option.isSome_some, List.getElem?_toArray, List.getElem?_cons_zero, List.getElem?_cons_succ, List.length_cons, List.length_nil, List.set_cons_zero, List.set_cons_succ, List.getD_cons_zero, List.getD_cons_succ, Nat.zero_add, Nat.add_zero, Nat.reduceAdd, Nat.reduceLT, Nat.lt_add_one, Nat.zero_lt_succ, decide_true, decide_false, ne_eq, reduceCtorEq, hltI]
    refine (h.ext hx2).at hxi fun cs hcs => ?_
    refine copy_new hcs fun p w3 sp kp hP hx3 => ?_
    refine hP.ld fun cs2 h2 => ?_
    refine clone_p x (hf x (List.mem_of_getElem? hxi)) h2 fun cs3 w4 hx4 h3 => ?_
    refine row_v h3.rep.len fun t w5 ht hx5 => ?_
    have hx25 := hx3.trans (hx4.trans hx5)
    have hO5 := hO.ext hx25
    have s0 := hx2.size
    have s3 := hx3.size
    have s25 := hx25.size
    have hglt : ∀ k, v.ownBlock = some k → k < w2.heap.size := fun k hk => (World.ownsRow.lt hO k hk).2
    refine append_own3 elem_v hO5 ht (m := 1) (by rw [h3.rep.len]) h3.rep.one (by omega) (by omega) (by omega) fun v' w6 h6 hc6 hb6 => ?_
    have hx6 : Ext w w6 := (hx2.trans hx25).then hc6 fun k hk e => by
      have := (own_ge hO5 e).1; omega
    rw [up1 (by omega)]
    refine ⟨⟨i + 1, v', L ++ cs3, hlt, rfl, hx6, h6, ?_⟩, by simp only [Int.toNat_natCast]; omega⟩
    have e : xs.take (i + 1) = xs.take i ++ [x] := by rw [List.take_add_one, hxi]; rfl
    rw [e]
    have hr5 := VRepsP.chg hx25 (fun _ _ _ e => e) hr
    have h35 := VRepP.chg hx5 (fun _ _ _ e => e) h3
    have hall : VRepsP (fun k => w.heap.size ≤ k ∧ v.ownBlock ≠ some k) w5 (xs.take i ++ [x]) (L ++ cs3) :=
      hr5.snoc (h35.mono fun k _ hk => ⟨by have : w3.heap.size ≤ k := hk; omega, fun e => by have := hglt k e; have : w3.heap.size ≤ k := hk; omega⟩)
    have hall2 : VRepsP (fun k => (w.heap.size ≤ k ∧ v.ownBlock ≠ some k) ∧ k < w5.heap.size) w5 (xs.take i ++ [x]) (L ++ cs3) := hall.mono fun k hlt hk => ⟨hk, hlt⟩
    have hall3 := VRepsP.chg hc6 (fun k hk _ e => hk.1.2 e) hall2
    exact hall3.mono fun k _ hk => ⟨hk.1.1, fun e => by
      rcases hb6 k e with h | h
      · exact hk.1.2 h
      · omega⟩
  · obtain rfl : i = xs.length := by omega
    simp only [wsv, wsg, wsh, wsl, cond_true, cond_false, exists_eq_left', Option.some.injEq, Option.isSome_some, List.getElem?_toArray, List.getElem?_cons_zero, List.getElem?_cons_succ, List.length_cons, List.length_nil, List.set_cons_zero, List.set_cons_succ, List.getD_cons_zero, List.getD_cons_succ, Nat.zero_add, Nat.add_zero, Nat.reduceAdd, Nat.reduceLT, Nat.lt_add_one, Nat.zero_lt_succ, decide_true, decide_false, ne_eq, reduceCtorEq, Int.lt_irrefl]
    rw [List.take_length] at hr
    exact hK v w2 L hx2 hO hr
structure OwnP (w : World) (B : Nat) (v : JV) (sv kv : Value) (L : List Value) : Prop where
  items : Own w B VT 5 sv v.xs.length L
  reps : VRepsP (fun q => B ≤ q ∧ sv.ownBlock ≠ some q ∧ kv.ownBlock ≠ some q) w v.xs L
  keys : Own w B ST 1 kv v.ks.length (v.ks.map str)
  fits : Fits v.xs.length v.ks v.t
theorem OwnP.ext {w w' : World} {B : Nat} {v : JV} {sv kv : Value} {L : List Value} (h : OwnP w B v sv kv L) (hx : Ext w w') : OwnP w' B v sv kv L := ⟨own_chg h.items hx fun _ _ e => e, VRepsP.chg hx (fun _ _ _ e => e) h.reps, own_chg h.keys hx fun _ _ e => e, h.fits⟩
theorem OwnP.rep {w : World} {B : Nat} {v : JV} {sv kv : Value} {L : List Value} (h : OwnP w B v sv kv L) : VRepP (From B) w v [i64 v.k, .bool v.b, str v.t, sv, kv] :=
  VRepP.mk h.items.sl (h.reps.mono fun k _ hk => hk.1) h.keys.sl h.fits (fun _ k hk => (own_in h.items hk).1) (fun _ k hk => (own_in h.keys hk).1)
theorem clone_o {v : JV} {cs : List Value} {w : World} {K : Value → World → Prop} (hfew : fewM v = true) (h : VRep w v cs) (hK : ∀ sv kv L w', Ext w w' → OwnP w' w.heap.size v sv kv L → K (.agg [i64 v.k, .bool v.b, str v.t, sv, kv].toArray) w') :
    callF Tryz.prog 189 [.agg cs.toArray] w K := by
  rw [fewM_eq, fewL_all] at hfew
  simp only [Bool.and_eq_true, decide_eq_true_eq, List.all_eq_true] at hfew
  obtain ⟨⟨f1, f2⟩, f3⟩ := hfew
  refine W189_ok ?_
  unfold W189
  refine box_val h fun a w1 sv kv hB hx ha => ?_
  refine alloc_new fun b w2 hb hz2 hbb hx2 => ?_
  have hxd : Ext w2 w2.drew := Chg.drew (Chg.refl (fun _ => False) w2)
  have hB2 := hB.ext hx2
  have hBd := hB2.ext hxd
  have hbd := hxd.at hbb id
  have sd : w2.drew.heap.size = w2.heap.size := rfl
  simp only [wsv, wsg, wsh, wsl, cond_true, cond_false, exists_eq_left', Option.some.injEq, Option.isSome_some, List.getElem?_toArray, List.getElem?_cons_zero, List.getElem?_cons_succ, List.length_cons, List.length_nil, List.set_cons_zero, List.set_cons_succ, List.getD_cons_zero, List.getD_cons_succ, Nat.zero_add, Nat.add_zero, Nat.reduceAdd, Nat.reduceLT, Nat.lt_add_one, Nat.zero_lt_succ, decide_true, decide_false, ne_eq, reduceCtorEq, wsh, hB2.hb]
  obtain ⟨T1, k1⟩ := hBd.keys
  refine clone_so k1 (by omega) fun kv' w3 hx3 hk3 => ?_
  have hB3 := hBd.ext hx3
  have hb3 := hx3.at hbd id
  have s3 := hx3.size
  simp only [wsv, wsg, wsh, wsl, cond_true, cond_false, exists_eq_left', Option.some.injEq, Option.isSome_some, List.getElem?_toArray, List.getElem?_cons_zero, List.getElem?_cons_succ, List.length_cons, List.length_nil, List.set_cons_zero, List.set_cons_succ, List.getD_cons_zero, List.getD_cons_succ, Nat.zero_add, Nat.add_zero, Nat.reduceAdd, Nat.reduceLT, Nat.lt_add_one, Nat.zero_lt_succ, decide_true, decide_false, ne_eq, reduceCtorEq, wsh, hB3.hb]
  refine clones_o f3 hB3.itemsAt (by omega) fun sv' w4 L hx4 hL1 hL2 => ?_
  have hB4 := hB3.ext hx4
  have hb4 := hx4.at hb3 id
  have s1 := hx.size
  have hak := at_lt hB.hb
  have one1 : one1 sv' = true ∧ one1 kv' = true := ⟨own_one hL1, own_one hk3⟩
  refine st_at hB4.hb one1.2 (by simp) fun w5 hz5 ha5 hc5 => ?_
  have ha5 : w5.heap[a]? = some (.cells [i64 v.k, .bool v.b, str v.t, sv, kv'].toArray VT (0, 0)) := by rw [ha5]; simp
  refine st_at ha5 one1.1 (by simp) fun w6 hz6 ha6 hc6 => ?_
  have ha6 : w6.heap[a]? = some (.cells [i64 v.k, .bool v.b, str v.t, sv', kv'].toArray VT (0, 0)) := by rw [ha6]; simp
  refine ld_all ha6 rfl ?_
  have hb6 := hc6.at (hc5.at hb4 (by omega)) (by omega)
  refine ret_agg hb6 rfl rfl (obj_one one1.1 one1.2) fun w7 hc7 => ?_
  have hx1 : Ext w w4 := hx.trans (hx2.trans (hxd.trans (hx3.trans hx4)))
  have hx5 : Ext w w7 := ((hx1.new hc5 (by omega)).new hc6 (by omega)).new hc7 (by omega)
  have hch : Chg (fun k => k = a ∨ k = b) w4 w7 := ((hc5.mono fun k _ e => .inl e).trans (hc6.mono fun k _ e => .inl e)).trans (hc7.mono fun k _ e => .inr e)
  have hkb : ∀ k, kv'.ownBlock = some k → w2.drew.heap.size ≤ k ∧ k < w3.heap.size := fun k hk => ⟨(own_in hk3 hk).1, (own_in hk3 hk).2.1⟩
  have hib : ∀ k, sv'.ownBlock = some k → w3.heap.size ≤ k := fun k hk => (own_in hL1 hk).1
  have lower : ∀ {e : TypeId} {size n : Nat} {v : Value} {xs : List Value} {B B' : Nat} {w : World}, B' ≤ B → Own w B e size v n xs → Own w B' e size v n xs := fun hle h => by
    obtain ⟨hl, h | ⟨g, cap, cur, he, h1, h2⟩⟩ := h
    · exact ⟨hl, .inl h⟩
    · exact ⟨hl, .inr ⟨g, cap, cur, he, by omega, h2⟩⟩
  refine hK sv' kv' L w7 hx5 ⟨lower (by omega) (own_chg hL1 hch fun k hk e => by have := hib k hk; omega), ?_, lower (by omega) (own_chg (hk3.ext hx4) hch fun k hk e => by have := hkb k hk; omega), hB.fits⟩
  refine VRepsP.mono (fun k _ hk => ?_) (VRepsP.chg (G := fun k => w3.heap.size ≤ k ∧ sv'.ownBlock ≠ some k) hch (fun k hk _ e => by have := hk.1; omega) hL2)
  exact ⟨by have := hk.1; omega, hk.2, fun e => by have := hkb k e; have := hk.1; omega⟩
end
end Go.Proofs.YtcnjpcadejcenaaGreatDoor
namespace Go.Proofs.YtcnjpcadejcenaaGreatDoor
open Go Go.Eng
set_option maxRecDepth 100000
def Free (B : Nat) (sv kv : Value) (q : Nat) : Prop := B ≤ q ∧ sv.ownBlock ≠ some q ∧ kv.ownBlock ≠ some q
section
variable [HX]
theorem rows_ne {w : World} {B n m : Nat} {sv kv : Value} {L M : List Value} (h : Own w B VT 5 sv n L) (h' : Own w B ST 1 kv m M) {q : Nat} (h1 : sv.ownBlock = some q) : kv.ownBlock ≠ some q := fun e => by
  obtain ⟨_, _, c, hc⟩ := own_in h h1
  obtain ⟨_, _, c', hc'⟩ := own_in h' e
  rw [hc] at hc'
  simp only [Option.some.injEq, Obj.cells.injEq] at hc'
  exact absurd hc'.2.1 (by decide)
theorem rowS {w : World} {x : Str} {K : Value → World → Prop} (hK : ∀ a w', a = w.heap.size → w'.heap.size = w.heap.size + 1 → w'.heap[a]? = some (.cells [str x].toArray ST (0, 0)) → Ext w w' → K (.slice (some ⟨a, 0, none⟩) 1 1) w') : bslW ST 1 [.string (ofL [])] [(0, 1, str x)] w K := by
  unfold bslW
  simp only [wsv, wsg, wsh, wsl, cond_true, cond_false, exists_eq_left', Option.some.injEq, Option.isSome_some, List.getElem?_toArray, List.getElem?_cons_zero, List.getElem?_cons_succ, List.length_cons, List.length_nil, List.set_cons_zero, List.set_cons_succ, List.getD_cons_zero, List.getD_cons_succ, Nat.zero_add, Nat.add_zero, Nat.reduceAdd, Nat.reduceLT, Nat.lt_add_one, Nat.zero_lt_succ, decide_true, decide_false, ne_eq, reduceCtorEq]
  exact row_new fun a w' h1 h2 h3 h4 _ => hK a w' h1 h2 h3 h4
theorem rowV {w : World} {cs : List Value} {K : Value → World → Prop} (hc : cs.length = 5) (hK : ∀ a w', a = w.heap.size → w'.heap.size = w.heap.size + 1 → w'.heap[a]? = some (.cells cs.toArray VT (0, 0)) → Ext w w' → K (.slice (some ⟨a, 0, none⟩) 1 1) w') : bslW VT 1 [(.int .i64 0), (.bool false), (.string (ofL [])), (.slice none 0 0), (.slice none 0 0)] [(0, 5, .agg cs.toArray)] w K := by
  unfold bslW
  have hp : ∀ K : List Value → Prop, K cs → putW [(.int .i64 0), (.bool false), (.string (ofL [])), (.slice none 0 0), (.slice none 0 0)] [(0, 5, .agg cs.toArray)] K := by
    intro K hK
    refine ⟨by simp [Value.cells, hc], by simp, ?_⟩
    have : List.take 0 [(Value.int .i64 0), (.bool false), (.string (ofL [])), (.slice none 0 0), (.slice none 0 0)] ++ ((Value.agg cs.toArray).cells.toList ++ List.drop (0 + 5) [(Value.int .i64 0), (.bool false), (.string (ofL [])), (.slice none 0 0), (.slice none 0 0)]) = cs := by simp [Value.cells]
    rw [this]
    exact hK
  refine hp _ ?_
  exact row_new fun a w' h1 h2 h3 h4 _ => hK a w' h1 h2 h3 h4
theorem put_p {l : List (Str × JV)} {k : Str} {x : JV} {sv kv : Value} {L cs : List Value} {B : Nat} {w : World} {K : Value → World → Prop} (h : OwnP w B (mkO l) sv kv L) (hx : VRepP (Free B sv kv) w x cs) (hr : Rise (l.map (·.1))) (hk : k ∉ l.map (·.1)) (hl : l.length ≤ 99999) (hkl : k.length ≤ 9223372036854775807)
    (hB : B ≤ w.heap.size) (hK : ∀ es w', Chg (fun q => sv.ownBlock = some q ∨ kv.ownBlock = some q) w w' → VRepP (From B) w' (mkO (insP l k x)) es → K (.agg es.toArray) w') :
    callF Tryz.prog 190 [.agg [i64 6, .bool false, str [], sv, kv].toArray, str k, .agg cs.toArray] w K := by
  have hkeys : (mkO l).ks = l.map (·.1) := rfl
  have hxs : (mkO l).xs = l.map (·.2) := rfl
  have hO := h.items
  have hM := h.keys
  rw [hxs] at hO
  rw [hkeys] at hM
  have hn1 : (l.map (·.2)).length = l.length := List.length_map _
  have hn2 : (l.map (·.1)).length = l.length := List.length_map _
  rw [hn1] at hO
  rw [hn2] at hM
  have hrp := h.reps
  rw [hxs] at hrp
  have hcs5 := hx.rep.len
  have hone := hx.rep.one
  obtain ⟨f1, f2, f3, f4⟩ := h.fits
  refine W190_ok ?_
  unfold W190
  have o1 := own_one hO
  have o2 := own_one hM
  refine box_new (z := [i64 6, .bool false, str [], sv, kv]) fun a3 w1 ha3 hz1 hb3 hx1 => ?_
  refine box_new (z := cs) fun a5 w2 ha5 hz2 hb5 hx2 => ?_
  refine alloc_new fun a6 w3 ha6 hz3 hb6 hx3 => ?_
  have hb3 := (hx2.trans hx3).at hb3 id
  have hb5 := hx3.at hb5 id
  have hx03 := (hx1.trans hx2).trans hx3
  rw [fld_ptr, ld_one]
  refine ⟨kv, by rw [add_mk, cell_eq, hb3]; rfl, ?_⟩
  have hsk : SlAt w3 ST kv (l.map (·.1)).length ((l.map (·.1)).map str) := by rw [hn2]; exact hM.sl.ext hx03
  refine search_p hsk (by rw [hn2]; omega) hr fun i _ hlo hhi hile => ?_
  rw [hn2] at hile
  have hnone : (idxK (l.map (·.1)) k).isSome = false := by rw [idxK_none.2 hk]; rfl
  rw [hnone]
  simp only [ext_tuple]
  refine ⟨_, rfl, _, rfl, ?_⟩
  rw [condW_false]
  have hins := ins_split hk hlo hhi (x := x)
  have hsvlt : ∀ q, sv.ownBlock = some q → q < w.heap.size := fun q hq => (own_in hO hq).2.1
  have hkvlt : ∀ q, kv.ownBlock = some q → q < w.heap.size := fun q hq => (own_in hM hq).2.1
  -- the key's row
  have insK : ∀ {w4 : World} {tb : Nat} {K' : Value → World → Prop}, Chg (fun q => False) w w4 → w.heap.size ≤ tb → w4.heap[tb]? = some (.cells [str k].toArray ST (0, 0)) →
      (∀ kv' w5, Own w5 B ST 1 kv' (l.length + 1) (((l.map (·.1)).map str).take (i * 1) ++ [str k] ++ ((l.map (·.1)).map str).drop (i * 1)) → Chg (fun q => kv.ownBlock = some q) w4 w5 → (∀ q, kv'.ownBlock = some q → kv.ownBlock = some q ∨ w4.heap.size ≤ q) → K' kv' w5) →
      callF Tryz.prog 230 [kv, i64 (i : Nat), .slice (some ⟨tb, 0, none⟩) 1 1] w4 K' := fun {w4 tb K'} hc htb ht hK' =>
    insert_s (own_chg hM hc fun _ _ e => e) ht rfl (fun u hu => by rw [List.mem_singleton.1 hu]; rfl) (strs_one _) (fun e => by have := hkvlt _ e; omega) hile (by omega) (by have := hc.size; omega) hK'
  have insV : ∀ {w4 : World} {tb : Nat} {K' : Value → World → Prop}, Chg (fun q => kv.ownBlock = some q) w w4 → w.heap.size ≤ tb → w4.heap[tb]? = some (.cells cs.toArray VT (0, 0)) →
      (∀ sv' w5, Own w5 B VT 5 sv' (l.length + 1) (L.take (i * 5) ++ cs ++ L.drop (i * 5)) → Chg (fun q => sv.ownBlock = some q) w4 w5 → (∀ q, sv'.ownBlock = some q → sv.ownBlock = some q ∨ w4.heap.size ≤ q) → K' sv' w5) →
      callF Tryz.prog 231 [sv, i64 (i : Nat), .slice (some ⟨tb, 0, none⟩) 1 1] w4 K' := fun {w4 tb K'} hc htb ht hK' =>
    insert_v (own_chg hO hc fun q hq e => rows_ne hO hM hq e) ht hcs5 hone hrp.rep.one (fun e => by have := hsvlt _ e; omega) hile (by omega) (by have := hc.size; omega) hK'
  obtain ⟨J, hJ⟩ : ∃ J : List Value → World → Prop, ∀ st w', J st w' ↔ ∃ sv' kv', w'.heap[a3]? = some (.cells [i64 6, .bool false, str [], sv', kv'].toArray VT (0, 0)) ∧ w'.heap[a6]? = some (.cells [i64 0, .bool false, str [], .slice none 0 0, .slice none 0 0].toArray VT (0, 0)) ∧ Chg (fun q => sv.ownBlock = some q ∨ kv.ownBlock = some q) w w' ∧ a6 < w'.heap.size ∧
      one1 sv' = true ∧ one1 kv' = true ∧ VRepP (fun q => B ≤ q ∧ q ≠ a6) w' (mkO (insP l k x)) [i64 6, .bool false, str [], sv', kv'] := ⟨_, fun _ _ => Iff.rfl⟩
  refine JoinW.cut J ?_ ?_
  · have hxd : Ext w3 w3.drew := Chg.drew (Chg.refl (fun _ => False) w3)
    have e3 : ∀ {w4 : World}, Chg (fun q => kv.ownBlock = some q) w3 w4 → w4.heap[a3]? = some (.cells [i64 6, .bool false, str [], sv, kv].toArray VT (0, 0)) := fun hc => hc.at hb3 fun e => by have := hkvlt _ e; omega
    have e5 : ∀ {w4 : World}, Chg (fun q => kv.ownBlock = some q) w3 w4 → w4.heap[a5]? = some (.cells cs.toArray VT (0, 0)) := fun hc => hc.at hb5 fun e => by have := hkvlt _ e; omega
    have up : ∀ {w4 : World}, Ext w3 w4 → Chg (fun q => kv.ownBlock = some q) w3 w4 := fun hx => Chg.of_ext hx
    have ldk : ∀ {w4 : World} {K : Value → Prop}, Chg (fun q => kv.ownBlock = some q) w3 w4 → K kv → ldW false 1 (.pointer (some ((⟨a3, 0, none⟩ : Addr).add 4))) w4 K := fun hc hk => by
      rw [ld_one]; exact ⟨_, by rw [add_mk, cell_eq, e3 hc]; rfl, hk⟩
    have lds : ∀ {w4 : World} {K : Value → Prop}, Chg (fun q => kv.ownBlock = some q) w3 w4 → K sv → ldW false 1 (.pointer (some ((⟨a3, 0, none⟩ : Addr).add 3))) w4 K := fun hc hk => by
      rw [ld_one]; exact ⟨_, by rw [add_mk, cell_eq, e3 hc]; rfl, hk⟩
    have ldx : ∀ {w4 : World} {K : Value → Prop}, Chg (fun q => kv.ownBlock = some q) w3 w4 → K (.agg cs.toArray) → ldW true 5 (.pointer (some ⟨a5, 0, none⟩)) w4 K := fun hc hk => ld_all (e5 hc) hcs5 hk
    -- both are in: the two stores
    have fin : ∀ {w4 w5 : World} {sv' kv' : Value}, Chg (fun q => kv.ownBlock = some q) w3 w4 → Own w4 B ST 1 kv' (l.length + 1) (((l.map (·.1)).map str).take (i * 1) ++ [str k] ++ ((l.map (·.1)).map str).drop (i * 1)) → (∀ q, kv'.ownBlock = some q → kv.ownBlock = some q ∨ w3.heap.size ≤ q) →
        Chg (fun q => sv.ownBlock = some q) w4 w5 → Own w5 B VT 5 sv' (l.length + 1) (L.take (i * 5) ++ cs ++ L.drop (i * 5)) → (∀ q, sv'.ownBlock = some q → sv.ownBlock = some q ∨ w3.heap.size ≤ q) →
        stW 1 (.pointer (some ((⟨a3, 0, none⟩ : Addr).add 4))) kv' w5 fun w6 => fldW 3 (.pointer (some ⟨a3, 0, none⟩)) fun t36 => stW 1 t36 sv' w6 fun w7 => J [] w7 := fun {w4 w5 sv' kv'} hc4 hOk hkb hc5 hOs hsb => by
      have hb3' := hc5.at (e3 hc4) fun e => by have := hsvlt _ e; omega
      have hb6' := hc5.at (hc4.at hb6 fun e => by have := hkvlt _ e; omega) fun e => by have := hsvlt _ e; omega
      rw [add_mk]
      refine st_at hb3' (own_one hOk) (by simp) fun w6 hz6 hb36 hc6 => ?_
      have hb36 : w6.heap[a3]? = some (.cells [i64 6, .bool false, str [], sv, kv'].toArray VT (0, 0)) := by rw [hb36]; simp
      rw [fld_ptr, add_mk]
      refine st_at hb36 (own_one hOs) (by simp) fun w7 hz7 hb37 hc7 => ?_
      have hb37 : w7.heap[a3]? = some (.cells [i64 6, .bool false, str [], sv', kv'].toArray VT (0, 0)) := by rw [hb37]; simp
      have hc67 : Chg (fun q => q = a3) w5 w7 := hc6.trans hc7
      have s45 := hc5.size
      have s34 := hc4.size
      have s57 := hc67.size
      have hcw : Chg (fun q => sv.ownBlock = some q ∨ kv.ownBlock = some q) w w7 := by
        have h1 : Chg (fun q => sv.ownBlock = some q ∨ kv.ownBlock = some q) w w5 := (((Chg.of_ext hx03).trans (hc4.mono fun _ _ e => .inr e)).trans (hc5.mono fun _ _ e => .inl e))
        exact h1.then hc67 fun q hq e => by omega
      have n3 : ∀ q, kv'.ownBlock = some q → q ≠ a3 := fun q hq e => by
        rcases hkb q hq with h | h
        · have := hkvlt _ h; omega
        · omega
      have n3' : ∀ q, sv'.ownBlock = some q → q ≠ a3 := fun q hq e => by
        rcases hsb q hq with h | h
        · have := hsvlt _ h; omega
        · omega
      have hOk5 : Own w5 B ST 1 kv' (l.length + 1) (((l.map (·.1)).map str).take (i * 1) ++ [str k] ++ ((l.map (·.1)).map str).drop (i * 1)) := own_chg hOk hc5 fun q hq e => by
        obtain ⟨_, _, c, hc⟩ := own_in hOk hq
        obtain ⟨_, _, c', hc'⟩ := own_in (own_chg hO ((Chg.of_ext hx03).trans hc4) fun q hq e => rows_ne hO hM hq e) e
        rw [hc] at hc'
        simp only [Option.some.injEq, Obj.cells.injEq] at hc'
        exact absurd hc'.2.1 (by decide)
      have hOk7 := own_chg hOk5 hc67 fun q hq e => n3 q hq e
      have hOs7 := own_chg hOs hc67 fun q hq e => n3' q hq e
      refine (hJ _ w7).2 ⟨sv', kv', hb37, hc67.at hb6' (by omega), hcw, by have := at_lt hb6; omega, own_one hOs, own_one hOk, ?_⟩
      have hfree : ∀ q, Free B sv kv q → q < w.heap.size → ¬ (sv.ownBlock = some q ∨ kv.ownBlock = some q) := fun q hq _ e => by
        rcases e with e | e
        · exact hq.2.1 e
        · exact hq.2.2 e
      have hrp0 : VRepsP (fun q => Free B sv kv q ∧ q < w.heap.size) w (l.map (·.2)) L := hrp.mono fun q hq h => ⟨h, hq⟩
      have hx0 : VRepP (fun q => Free B sv kv q ∧ q < w.heap.size) w x cs := hx.mono fun q hq h => ⟨h, hq⟩
      have hrp7 := VRepsP.chg hcw (fun q hq h => hfree q hq.1 h) hrp0
      have hx7 := VRepP.chg hcw (fun q hq h => hfree q hq.1 h) hx0
      have m3 : ∀ q, kv'.ownBlock = some q → q ≠ a6 := fun q hq e => by
        rcases hkb q hq with h | h
        · have := hkvlt _ h; omega
        · omega
      have m3' : ∀ q, sv'.ownBlock = some q → q ≠ a6 := fun q hq e => by
        rcases hsb q hq with h | h
        · have := hsvlt _ h; omega
        · omega
      obtain ⟨c1, c2⟩ := hrp7.cut i
      have hall := (c1.app (VRepsP.one' hx7)).app c2
      have ex : (mkO (insP l k x)).xs = (l.map (·.2)).take i ++ [x] ++ (l.map (·.2)).drop i := by
        rw [hins]
        show ((l.take i ++ (k, x) :: l.drop i).map (·.2)) = _
        simp
      have ek : (mkO (insP l k x)).ks = (l.map (·.1)).take i ++ [k] ++ (l.map (·.1)).drop i := by
        rw [hins]
        show ((l.take i ++ (k, x) :: l.drop i).map (·.1)) = _
        simp
      have exl : (mkO (insP l k x)).xs.length = l.length + 1 := by
        rw [hins]
        show ((l.take i ++ (k, x) :: l.drop i).map (·.2)).length = _
        simp; omega
      have ekl : (mkO (insP l k x)).ks.length = l.length + 1 := by
        rw [hins]
        show ((l.take i ++ (k, x) :: l.drop i).map (·.1)).length = _
        simp; omega
      have ekm : (mkO (insP l k x)).ks.map str = ((l.map (·.1)).map str).take (i * 1) ++ [str k] ++ ((l.map (·.1)).map str).drop (i * 1) := by
        rw [ek, Nat.mul_one]
        simp
      refine VRepP.mk (v := mkO (insP l k x)) (T1 := VT) (T2 := ST) (L := L.take (i * 5) ++ cs ++ L.drop (i * 5)) ?_ ?_ ?_ ⟨by rw [exl]; omega, by rw [ekl]; omega, by simp [mkO, JV.t], fun s hs => ?_⟩ (fun _ q hq => ⟨(own_in hOs7 hq).1, m3' q hq⟩) (fun _ q hq => ⟨(own_in hOk7 hq).1, m3 q hq⟩)
      · rw [exl]; exact hOs7.sl
      · rw [ex]; exact hall.mono fun q _ hq => ⟨hq.1.1, by have := hq.2; omega⟩
      · rw [ekl, ekm]; exact hOk7.sl
      · rw [ek] at hs
        rcases List.mem_append.1 hs with hs | hs
        · rcases List.mem_append.1 hs with hs | hs
          · exact f4 s (List.mem_of_mem_take hs)
          · rw [List.mem_singleton.1 hs]; exact hkl
        · exact f4 s (List.mem_of_mem_drop hs)
    rw [fld_ptr]
    refine ldk (up hxd) ?_
    rw [fld_ptr]
    refine lds (up hxd) ?_
    refine ldx (up hxd) ⟨?_, ?_⟩
    · refine rowS fun b27 w4 hb27 hz4 ht27 hx4 => ?_
      have hx4 := hxd.trans hx4
      have sd : w3.drew.heap.size = w3.heap.size := rfl
      refine ⟨ldx (up hx4) rfl, lds (up hx4) rfl, ldk (up hx4) rfl, ?_, ?_⟩
      · refine insK (hx03.trans hx4) (by omega) ht27 fun kv' w5 hOk hc5 hkb => ?_
        have hc35 : Chg (fun q => kv.ownBlock = some q) w3 w5 := (up hx4).trans hc5
        refine ⟨ldx hc35 rfl, lds hc35 rfl, ?_⟩
        rw [fld_ptr]
        refine rowV hcs5 fun b33 w6 hb33 hz6 ht33 hx6 => ?_
        have hc36 : Chg (fun q => kv.ownBlock = some q) w3 w6 := hc35.then hx6 fun _ _ e => e.elim
        have s35 := hc35.size
        refine ⟨lds hc36 rfl, ?_⟩
        refine insV ((Chg.of_ext hx03).trans hc36) (by omega) ht33 fun sv' w7 hOs hc7 hsb => ?_
        exact fin hc36 (own_chg hOk hx6 fun _ _ e => e) (fun q hq => (hkb q hq).imp id fun h => by omega) hc7 hOs (fun q hq => (hsb q hq).imp id fun h => by omega)
      · refine rowV hcs5 fun b33 w5 hb33 hz5 ht33 hx5 => ?_
        have hx35 := hx4.trans hx5
        refine ⟨lds (up hx35) rfl, ldk (up hx35) rfl, ?_⟩
        refine insK (hx03.trans hx35) (by omega) (hx5.at ht27 id) fun kv' w6 hOk hc6 hkb => ?_
        have hc36 : Chg (fun q => kv.ownBlock = some q) w3 w6 := (up hx35).trans hc6
        refine ⟨lds hc36 rfl, ?_⟩
        rw [fld_ptr]
        have s36 := hc36.size
        refine insV ((Chg.of_ext hx03).trans hc36) (by omega) (hc6.at ht33 fun e => by have := hkvlt _ e; omega) fun sv' w7 hOs hc7 hsb => ?_
        exact fin hc36 hOk (fun q hq => (hkb q hq).imp id fun h => by omega) hc7 hOs (fun q hq => (hsb q hq).imp id fun h => by omega)
    · refine rowV hcs5 fun b33 w4 hb33 hz4 ht33 hx4 => ?_
      have hx4 := hxd.trans hx4
      have sd : w3.drew.heap.size = w3.heap.size := rfl
      refine ⟨lds (up hx4) rfl, ldk (up hx4) rfl, ?_⟩
      refine rowS fun b27 w5 hb27 hz5 ht27 hx5 => ?_
      have hx35 := hx4.trans hx5
      refine ⟨lds (up hx35) rfl, ldk (up hx35) rfl, ?_⟩
      refine insK (hx03.trans hx35) (by omega) ht27 fun kv' w6 hOk hc6 hkb => ?_
      have hc36 : Chg (fun q => kv.ownBlock = some q) w3 w6 := (up hx35).trans hc6
      refine ⟨lds hc36 rfl, ?_⟩
      rw [fld_ptr]
      have s36 := hc36.size
      refine insV ((Chg.of_ext hx03).trans hc36) (by omega) (hc6.at (hx5.at ht33 id) fun e => by have := hkvlt _ e; omega) fun sv' w7 hOs hc7 hsb => ?_
      exact fin hc36 hOk (fun q hq => (hkb q hq).imp id fun h => by omega) hc7 hOs (fun q hq => (hsb q hq).imp id fun h => by omega)
  rintro st g w4 hJ4
  obtain ⟨sv', kv', hb3, hb6, hc, hlt6, o1', o2', hrep⟩ := (hJ _ _).1 hJ4
  refine ld_all hb3 rfl ?_
  refine ret_agg hb6 rfl rfl (obj_one o1' o2') fun w5 hc5 => ?_
  exact hK _ w5 (hc.then hc5 fun q hq e => by omega) ((VRepP.chg hc5 (fun q hq _ e => hq.2 e) hrep).mono fun q _ hq => hq.1)
theorem put_n {l : List (Str × JV)} {k : Str} {x : JV} {cs ds : List Value} {w : World} {K : Value → World → Prop} (h : VRep w (mkO l) cs) (hx : VRep w x ds) (hfew : fewM (mkO l) = true) (hfx : fewM x = true) (hr : Rise (l.map (·.1))) (hk : k ∉ l.map (·.1)) (hl : l.length ≤ 99999) (hkl : k.length ≤ 9223372036854775807)
    (hK : ∀ es w', Ext w w' → VRepP (From w.heap.size) w' (mkO (insP l k x)) es → K (.agg es.toArray) w') :
    callF Tryz.prog 163 [.agg cs.toArray, str k, .agg ds.toArray] w K := by
  refine W163_ok ?_
  unfold W163
  refine box_val h fun a3 w1 sv0 kv0 hB3 hx1 ha3 => ?_
  refine box_val (hx.ext hx1) fun a5 w2 sv1 kv1 hB5 hx2 ha5 => ?_
  refine alloc_new fun a6 w3 ha6 hz3 hb6 hx3 => ?_
  have hB3' := (hB3.ext hx2).ext hx3
  have hB5' := hB5.ext hx3
  refine JoinW.cut (fun st w' => w' = w3) ?_ ?_
  · rw [fld_ptr, ld_one]
    refine ⟨i64 6, by rw [add_mk, cell_eq, hB3'.hb]; rfl, ?_⟩
    rw [bin_neq, decide_eq_false (by decide), condW_false]
  rintro st g w4 rfl
  have hxd : Ext w4 w4.drew := Chg.drew (Chg.refl (fun _ => False) w4)
  have hB3d := hB3'.ext hxd
  have hB5d := hB5'.ext hxd
  have sd : w4.drew.heap.size = w4.heap.size := rfl
  have s1 := hx1.size
  have s2 := hx2.size
  refine ld_all hB3d.hb rfl ?_
  refine ld_all hB5d.hb rfl ?_
  refine clone_o hfew hB3d.rep fun sv kv L w5 hx5 hO => ?_
  refine ⟨ld_all (hB5d.ext hx5).hb rfl rfl, ?_⟩
  refine clone_p x hfx (hB5d.ext hx5).rep fun cs' w6 hx6 hR => ?_
  have hO6 := hO.ext hx6
  have s5 := hx5.size
  have s6 := hx6.size
  have e1 : (mkO l).k = 6 ∧ (mkO l).b = false ∧ (mkO l).t = [] := ⟨rfl, rfl, rfl⟩
  have hlt5 : ∀ q, sv.ownBlock = some q ∨ kv.ownBlock = some q → q < w5.heap.size ∧ w4.heap.size ≤ q := fun q e => by
    rcases e with e | e
    · exact ⟨(own_in hO.items e).2.1, (own_in hO.items e).1⟩
    · exact ⟨(own_in hO.keys e).2.1, (own_in hO.keys e).1⟩
  refine put_p hO6 (hR.mono fun q _ hq => ⟨by have : w5.heap.size ≤ q := hq; omega, fun e => by have := (hlt5 q (.inl e)).1; have : w5.heap.size ≤ q := hq; omega, fun e => by have := (hlt5 q (.inr e)).1; have : w5.heap.size ≤ q := hq; omega⟩) hr hk hl hkl (by omega) fun es w7 hc7 hE => ?_
  have hx46 : Ext w w6 := ((hx1.trans hx2).trans hx3).trans (hxd.trans (hx5.trans hx6))
  have hb7 := hc7.at ((hx5.trans hx6).at (hxd.at hb6 id) id) fun e => by have := (hlt5 _ e).2; omega
  refine ret_agg hb7 hE.rep.len rfl hE.rep.all_one fun w8 hc8 => ?_
  have hx7 : Ext w w7 := hx46.then hc7 fun q hq e => by have := (hlt5 _ e).2; omega
  refine hK es w8 (hx7.new hc8 (by omega)) (VRepP.mono (fun q _ hq => ?_) (VRepP.chg (G := From w4.drew.heap.size) hc8 (fun q hq _ e => ?_) hE))
  · have : w4.drew.heap.size ≤ q := hq
    show w.heap.size ≤ q
    omega
  · have : w4.drew.heap.size ≤ q := hq
    omega
end
end Go.Proofs.YtcnjpcadejcenaaGreatDoor
namespace Go.Proofs.YtcnjpcadejcenaaGreatDoor
open Go Go.Eng Go.RowKit
set_option maxRecDepth 100000
theorem few_cnt (v : JV) : plainM v = true → cntM v ≤ 100000 → fewM v = true := by
  induction v using JV.ind' with
  | h v ih =>
    intro hp hc
    rw [plainM_eq, Bool.and_eq_true, plainL_all, List.all_eq_true] at hp
    obtain ⟨_, _, _, _, _, k6, _, _, k9, _⟩ := headOk_out hp.1
    have hcl : cntM v = 1 + cntL v.xs := by cases v; rfl
    have hlen : ∀ xs : List JV, xs.length ≤ cntL xs := fun xs => by
      induction xs with
      | nil => exact Nat.zero_le _
      | cons x xs ih2 =>
        have := cnt_pos x
        simp only [List.length_cons, cntL]
        omega
    have hmem : ∀ (xs : List JV) x, x ∈ xs → cntM x ≤ cntL xs := fun xs => by
      induction xs with
      | nil => intro x hx; cases hx
      | cons y xs ih2 =>
        intro x hx
        simp only [cntL]
        rcases List.mem_cons.1 hx with rfl | hx
        · omega
        · have := ih2 x hx; omega
    have h1 := hlen v.xs
    rw [fewM_eq, fewL_all]
    have e2 : v.ks.length ≤ 100000 := by
      by_cases hk : v.ks = []
      · rw [hk]; simp
      · have := k9 (k6 hk); omega
    rw [decide_eq_true (by omega : v.xs.length ≤ 100000), decide_eq_true e2]
    simp only [Bool.and_self, Bool.true_and, List.all_eq_true]
    intro x hx
    exact ih x hx (hp.2 x hx) (by have := hmem _ _ hx; omega)
theorem word_pre (s p : Str) (i : Nat) : Lib.hasPrefix (s.drop i) p = wordM s i p := by
  have e : Lib.hasPrefix (s.drop i) p = p.isPrefixOf (s.drop i) := rfl
  rw [e]
  unfold wordM
  by_cases h : (s.drop i).take p.length = p
  · rw [decide_eq_true h, List.isPrefixOf_iff_prefix, List.prefix_iff_eq_take]
    exact h.symm
  · rw [decide_eq_false h]
    cases hb : p.isPrefixOf (s.drop i) with
    | false => rfl
    | true =>
      rw [List.isPrefixOf_iff_prefix, List.prefix_iff_eq_take] at hb
      exact absurd hb.symm h
section
variable [HX]
theorem word_p {s p : Str} {i : Nat} {w : World} {K : Value → World → Prop} (hK : K (.bool (wordM s i p)) w) : callF Tryz.prog 107 [str (s.drop i), str p] w K := by
  refine of_calls (args := #[str (s.drop i), str p]) Tryz.call107 ((Tryz.strings_HasPrefix (ofL (s.drop i)) (ofL p) w).mono ?_)
  rintro e w' ⟨rfl, rfl⟩
  refine ⟨_, rfl, ?_⟩
  rw [ofL_data, ofL_data, word_pre]
  exact hK
def VP (n : Nat) : Prop := ∀ {deep i c p : Nat} {s : Str} {w : World} {K : Value → World → Prop}, Rdr w p s i c → TabU w → TabE w → i ≤ s.length → s.length ≤ 65536 → c ≤ 2000 → deep ≤ 25 → 2 * (2000 - c) + 1 ≤ n →
  (∀ v j c', valM En s n deep i c = .ok v j c' → ∀ cs w', Rdr w' p s j c' → Chg (Cr p) w w' → VRepP (From w.heap.size) w' v cs → K (.agg cs.toArray) w') → (∀ e j, valM En s n deep i c = .bad e j → Thr w p e j) →
  callF Tryz.prog 53 [.pointer (some ⟨p, 0, none⟩), i64 (deep : Nat)] w K
theorem list_p {n deep i c p : Nat} {s : Str} {w : World} {K : Value → World → Prop} (ih : ∀ m, m ≤ n → VP m) (h : Rdr w p s i c) (hT : TabU w) (hE : TabE w) (hi : i < s.length) (hs : s.length ≤ 65536) (hc : c ≤ 2000) (hdeep : deep ≤ 24) (hn : 2 * (2000 - c) + 2 ≤ n)
    (hok : ∀ v j c', (if byteM s (blankM s (i + 1)) = 93 then .ok (.mk 5 false [] [] []) (blankM s (i + 1) + 1) c else listM En s n deep (blankM s (i + 1)) c []) = RR.ok v j c' → ∀ cs w', Rdr w' p s j c' → Chg (Cr p) w w' → VRepP (From w.heap.size) w' v cs → K (.agg cs.toArray) w')
    (hbad : ∀ e j, (if byteM s (blankM s (i + 1)) = 93 then .ok (.mk 5 false [] [] []) (blankM s (i + 1) + 1) c else listM En s n deep (blankM s (i + 1)) c []) = RR.bad e j → Thr w p e j) :
    callF Tryz.prog 112 [.pointer (some ⟨p, 0, none⟩), i64 (deep : Nat)] w K := by
  refine W112_ok ?_
  unfold W112
  have hp := h.lt
  refine alloc_new fun a4 w1 ha4 hz1 hb4 hx1 => ?_
  rw [put_int]
  refine ⟨by simp, ?_⟩
  rw [put_nil]
  simp only [List.set_cons_zero]
  refine alloc_new fun a5 w2 ha5 hz2 hb5 hx2 => ?_
  refine st_agg_at (l := [i64 5, .bool false, str [], .slice none 0 0, .slice none 0 0]) hb5 rfl rfl rfl fun w3 hz3 hb5 hc3 => ?_
  have hx3 : Ext w w3 := (hx1.trans hx2).new hc3 (by omega)
  have h3 := h.ext hx3
  have hb4 := hc3.at (hx2.at hb4 id) (by omega)
  refine h3.go (k := 1) (by omega) fun w4 h4 hc4 hz4 => ?_
  refine blanks_p h4 (by omega) (by omega) fun w5 h5 hc5 => ?_
  have hc35 := hc4.trans hc5
  have hcw5 := (Chg.of_ext hx3).trans hc35
  have hble : blankM s (i + 1) ≤ s.length := blank_le (by omega)
  have hbge := blank_ge s (i + 1)
  generalize hj0 : blankM s (i + 1) = j0 at *
  have keep5 : ∀ {w' w'' : World} {a : Nat} {o : Obj}, Chg (Cr p) w' w'' → w'.heap[a]? = some o → w.heap.size ≤ a → w''.heap[a]? = some o := fun hc hb hle => hc.at hb fun e => by
    have e : _ = p := e
    omega
  -- what is handed back
  have fin : ∀ {w6 : World} {sv : Value} {acc : List JV} {L : List Value} {B j c' : Nat}, Rdr w6 p s j c' → Chg (Cr p) w w6 → w6.heap[a4]? = some (.cells [i64 0, .bool false, str [], .slice none 0 0, .slice none 0 0].toArray VT (0, 0)) → w6.heap[a5]? = some (.cells [i64 5, .bool false, str [], sv, .slice none 0 0].toArray VT (0, 0)) →
      Own w6 B VT 5 sv acc.length L → VRepsP (From B) w6 acc L → a4 < B → w.heap.size ≤ B → acc.length ≤ 2000 → (∀ cs w', Rdr w' p s j c' → Chg (Cr p) w w' → VRepP (From w.heap.size) w' (.mk 5 false [] acc []) cs → K (.agg cs.toArray) w') →
      ldW true 5 (.pointer (some ⟨a5, 0, none⟩)) w6 fun t18 => stW 5 (.pointer (some ⟨a4, 0, none⟩)) t18 w6 fun w8 => ldW true 5 (.pointer (some ⟨a4, 0, none⟩)) w8 fun r9 => K r9 w8 := fun {w6 sv acc L B j c'} h6 hc6 hb4 hb5 hO hR hB hwB hal hk => by
    refine ld_all hb5 rfl ?_
    refine ret_leaf (l := [i64 5, .bool false, str [], sv, .slice none 0 0]) hb4 rfl rfl (obj_one (own_one hO) rfl) fun w7 hc7 => ?_
    refine hk _ w7 (hc7.at h6 fun e => by have e : p = a4 := e; omega) (hc6.then hc7 fun k hk e => by have e : k = a4 := e; omega) ?_
    have hrep : VRepP (From B) w6 (.mk 5 false [] acc []) [i64 5, .bool false, str [], sv, .slice none 0 0] :=
      VRepP.mk (v := .mk 5 false [] acc []) (T1 := VT) (T2 := 0) (L := L) hO.sl hR (SlAt.nil w6 0) ⟨by show acc.length ≤ _; omega, by simp [JV.ks], by simp [JV.t], by simp [JV.ks]⟩ (fun _ q hq => (own_in hO hq).1) (fun e => absurd rfl e)
    exact (VRepP.chg hc7 (fun q hq _ e => by have : B ≤ q := hq; have e : q = a4 := e; omega) hrep).mono fun q _ hq => by have : B ≤ q := hq; show w.heap.size ≤ q; omega
  refine take_p (n := 93) h5 hble (by omega) (fun e w6 h6 hc6 => ?_) (fun e w6 h6 hc6 => ?_)
  · have e : byteM s j0 = 93 := e
    rw [if_pos e] at hok
    rw [condW_true]
    have hc6' := hcw5.trans hc6
    have hc36 := hc35.trans hc6
    refine fin (B := w3.heap.size) (acc := []) (L := []) h6 hc6' (keep5 hc36 hb4 (by omega)) (keep5 hc36 hb5 (by omega)) ⟨by simp, .inl ⟨rfl, rfl⟩⟩ (by simp [VRepsP]) (by omega) (by omega) (by simp) fun cs w' h' hc' hr' => hok _ _ _ rfl cs w' h' hc' hr'
  have e : byteM s j0 ≠ 93 := e
  rw [if_neg e] at hok hbad
  rw [condW_false]
  have hc36 := hc35.trans hc6
  refine LoopW.go (fun st w' => st = [] ∧ ∃ m j c' acc sv L, Rdr w' p s j c' ∧ Chg (Cr p) w w' ∧ w'.heap[a4]? = some (.cells [i64 0, .bool false, str [], .slice none 0 0, .slice none 0 0].toArray VT (0, 0)) ∧ w'.heap[a5]? = some (.cells [i64 5, .bool false, str [], sv, .slice none 0 0].toArray VT (0, 0)) ∧
      Own w' w3.heap.size VT 5 sv acc.length L ∧ VRepsP (fun q => w3.heap.size ≤ q ∧ sv.ownBlock ≠ some q) w' acc L ∧ m ≤ n ∧ 2 * (2000 - c') + 2 ≤ m ∧ c' ≤ 2000 ∧ acc.length ≤ c' ∧ j ≤ s.length ∧ listM En s m deep j c' acc = listM En s n deep j0 c []) (fun _ w' => s.length + 1 - rdAt w' p)
    ⟨rfl, n, j0, c, [], .slice none 0 0, [], h6, hcw5.trans hc6, keep5 hc36 hb4 (by omega), keep5 hc36 hb5 (by omega), ⟨by simp, .inl ⟨rfl, rfl⟩⟩, by simp [VRepsP], Nat.le_refl _, hn, hc, Nat.zero_le _, hble, rfl⟩ ?_
  rintro st g w7 ⟨rfl, m, j, c', acc, sv, L, h7, hc7, hb4, hb5, hO, hR, hmn, hm, hc2, hacc, hj, heq⟩
  obtain ⟨m, rfl⟩ : ∃ m', m = m' + 1 := ⟨m - 1, by omega⟩
  rw [listM] at heq
  rw [← heq] at hok hbad
  have hxd : Ext w7 w7.drew := Chg.drew (Chg.refl (fun _ => False) w7)
  rw [fld_ptr, add_mk, ld_one]
  refine ⟨sv, by rw [cell_eq, heap_drew, hb5]; rfl, ?_⟩
  rw [bin_add, up1 (by omega)]
  have h7d := h7.ext hxd
  have hc7d := hc7.then hxd fun _ _ e => e.elim
  refine ih m (by omega) h7d (hT.rd h hc7d) (hE.rd h hc7d) hj hs hc2 (by omega) (by omega) (fun x j1 c1 hv cs w8 h8 hc8 hr8 => ?_) (fun e1 j1 hv => ?_)
  · rw [hv] at hok hbad
    simp only at hok hbad
    have hbk := val_back hj hc2 hv
    have hcp := cnt_pos x
    have hcnt := hbk.cnt
    have hmax := hbk.max
    have hlen := hbk.len
    have hfit := hbk.fits
    have hc78 : Chg (Cr p) w7 w8 := (Chg.of_ext hxd).trans hc8
    have hb48 := keep5 hc78 hb4 (by omega)
    have hb58 := keep5 hc78 hb5 (by omega)
    have s3 : w3.heap.size ≤ w7.heap.size := by have := at_lt hb5; have := hc7.size; omega
    have nown : ∀ q, sv.ownBlock = some q → q ≠ p := fun q hq e => by have := (own_in hO hq).1; omega
    have hO8 := own_chg hO hc78 fun q hq e => nown q hq e
    have hR8 := VRepsP.chg hc78 (fun q hq _ e => by have := hq.1; have e : q = p := e; omega) hR
    have ld8 : ∀ {w' : World}, w'.heap[a5]? = some (.cells [i64 5, .bool false, str [], sv, .slice none 0 0].toArray VT (0, 0)) → ldW false 1 (.pointer (some ⟨a5, 0 + 3, none⟩)) w' fun x => x = sv := fun hb => by
      rw [ld_one]; exact ⟨sv, by rw [cell_eq, hb]; rfl, rfl⟩
    refine ⟨ld8 hb58, ?_⟩
    refine row_v hr8.rep.len fun t w9 ht hx9 => ?_
    refine ⟨ld8 (hx9.at hb58 id), ?_⟩
    have hO9 := own_chg hO8 hx9 fun _ _ e => e
    have s78 := hc78.size
    have s9 := hx9.size
    have hglt : ∀ k, sv.ownBlock = some k → k < w7.heap.size := fun k hk => (own_in hO hk).2.1
    refine append_own3 elem_v hO9 ht (m := 1) (by rw [hr8.rep.len]) hr8.rep.one (by omega) (by omega) (by omega) fun sv' w10 h10 hc10 hb10 => ?_
    have hb410 := hc10.at (hx9.at hb48 id) fun e => by have := (own_in hO9 e).1; omega
    have hb510 := hc10.at (hx9.at hb58 id) fun e => by have := (own_in hO9 e).1; omega
    rw [fld_ptr, add_mk]
    refine st_at hb510 (own_one h10) (by simp) fun w11 hz11 hb511 hc11 => ?_
    have hb511 : w11.heap[a5]? = some (.cells [i64 5, .bool false, str [], sv', .slice none 0 0].toArray VT (0, 0)) := by rw [hb511]; simp
    have hb411 := hc11.at hb410 (by omega)
    have h11r : Rdr w11 p s j1 c1 := hc11.at (hc10.at (h8.ext hx9) fun e => nown _ e rfl) (by omega)
    have sv'lo : ∀ q, sv'.ownBlock = some q → w3.heap.size ≤ q := fun q hq => (own_in h10 hq).1
    have h11 := own_chg h10 hc11 fun q hq e => by have := sv'lo q hq; omega
    have s10 := hc10.size
    have s11 := hc11.size
    have hc711 : Chg (Cr p) w w11 := by
      have h1 : Chg (Cr p) w w9 := (hc7.trans hc78).then hx9 fun _ _ e => e.elim
      have h2 : Chg (Cr p) w w10 := h1.then hc10 fun q hq e => by have := (own_in hO9 e).1; omega
      exact h2.then hc11 fun q hq e => by omega
    have hall : VRepsP (fun q => w3.heap.size ≤ q ∧ sv.ownBlock ≠ some q) w9 (acc ++ [x]) (L ++ cs) :=
      VRepsP.snoc (VRepsP.chg hx9 (fun _ _ _ e => e) hR8) ((VRepP.chg hx9 (fun _ _ _ e => e) hr8).mono fun q _ hq => ⟨by have : w7.drew.heap.size ≤ q := hq; have e : w7.drew.heap.size = w7.heap.size := rfl; omega, fun e => by have := hglt q e; have : w7.drew.heap.size ≤ q := hq; have e : w7.drew.heap.size = w7.heap.size := rfl; omega⟩)
    have hall2 : VRepsP (fun q => (w3.heap.size ≤ q ∧ sv.ownBlock ≠ some q) ∧ q < w9.heap.size) w9 (acc ++ [x]) (L ++ cs) := hall.mono fun q hlt hq => ⟨hq, hlt⟩
    have hall3 := VRepsP.chg hc11 (fun q hq _ e => by have := hq.1.1; omega) (VRepsP.chg hc10 (fun q hq _ e => hq.1.2 e) hall2)
    have hall4 : VRepsP (fun q => w3.heap.size ≤ q ∧ sv'.ownBlock ≠ some q) w11 (acc ++ [x]) (L ++ cs) := hall3.mono fun q _ hq => ⟨hq.1.1, fun e => by
      rcases hb10 q e with h | h
      · exact hq.1.2 h
      · omega⟩
    have hlenx : (acc ++ [x]).length = acc.length + 1 := by simp
    have h11' : Own w11 w3.heap.size VT 5 sv' (acc ++ [x]).length (L ++ cs) := by rw [hlenx]; exact h11
    refine blanks_p h11r hfit (by omega) fun w12 h12 hc12 => ?_
    have hge1 := blank_ge s j1
    have hle1 := blank_le hfit
    have hidem := blank_idem s j1
    have step : ∀ {w' : World}, Chg (Cr p) w11 w' → Chg (Cr p) w w' ∧ w'.heap[a4]? = some (.cells [i64 0, .bool false, str [], .slice none 0 0, .slice none 0 0].toArray VT (0, 0)) ∧ w'.heap[a5]? = some (.cells [i64 5, .bool false, str [], sv', .slice none 0 0].toArray VT (0, 0)) ∧
        Own w' w3.heap.size VT 5 sv' (acc ++ [x]).length (L ++ cs) ∧ VRepsP (fun q => w3.heap.size ≤ q ∧ sv'.ownBlock ≠ some q) w' (acc ++ [x]) (L ++ cs) := fun {w'} hc' =>
      ⟨hc711.trans hc', keep5 hc' hb411 (by omega), keep5 hc' hb511 (by omega), own_chg h11' hc' fun q hq e => by have := sv'lo q hq; have e : q = p := e; omega, VRepsP.chg hc' (fun q hq _ e => by have := hq.1; have e : q = p := e; omega) hall4⟩
    refine take_p (n := 93) h12 hle1 (by omega) (fun e w13 h13 hc13 => ?_) (fun e w13 h13 hc13 => ?_)
    · have e : byteM s (blankM s j1) = 93 := e
      rw [if_pos e] at hok
      rw [condW_true]
      obtain ⟨q1, q2, q3, q4, q5⟩ := step (hc12.trans hc13)
      exact fin h13 q1 q2 q3 q4 (q5.mono fun q _ hq => hq.1) (by omega) (by omega) (by rw [hlenx]; omega) fun cs w' h' hc' hr' => hok _ _ _ rfl cs w' h' hc' hr'
    · have e : byteM s (blankM s j1) ≠ 93 := e
      rw [if_neg e] at hok hbad
      rw [condW_false]
      refine want_p (n := 44) h13 hle1 (by omega) (fun e2 w14 h14 hc14 => ?_) (fun e2 => ?_)
      · rw [hidem] at e2 h14
        have e2 : byteM s (blankM s j1) = 44 := e2
        rw [hv] at heq
        simp only at heq
        rw [if_neg e, if_pos e2] at heq
        obtain ⟨q1, q2, q3, q4, q5⟩ := step ((hc12.trans hc13).trans hc14)
        have hlt44 := byte_lt (s := s) (i := blankM s j1) (by omega)
        refine ⟨⟨rfl, m, blankM s j1 + 1, c1, acc ++ [x], sv', L ++ cs, h14, q1, q2, q3, q4, q5, by omega, by omega, by omega, by rw [hlenx]; omega, by omega, heq⟩, ?_⟩
        rw [h14.at_, h7.at_]; omega
      · rw [hidem] at e2 ⊢
        have e2 : byteM s (blankM s j1) ≠ 44 := e2
        rw [if_neg e2] at hbad
        exact (hbad _ _ rfl).from (step (hc12.trans hc13)).1
  · rw [hv] at hbad
    exact (hbad _ _ rfl).from hc7d
end
end Go.Proofs.YtcnjpcadejcenaaGreatDoor
namespace Go.Proofs.YtcnjpcadejcenaaGreatDoor
open Go Go.Eng Go.RowKit
set_option maxRecDepth 100000
section
variable [HX]
theorem object_p {n deep i c p : Nat} {s : Str} {w : World} {K : Value → World → Prop} (ih : ∀ m, m ≤ n → VP m) (h : Rdr w p s i c) (hT : TabU w) (hE : TabE w) (hi : i < s.length) (hs : s.length ≤ 65536) (hc : c ≤ 2000) (hdeep : deep ≤ 24) (hn : 2 * (2000 - c) + 2 ≤ n)
    (hok : ∀ v j c', (if byteM s (blankM s (i + 1)) = 125 then .ok (.mk 6 false [] [] []) (blankM s (i + 1) + 1) c else objM En s n deep (blankM s (i + 1)) c (.mk 6 false [] [] [])) = RR.ok v j c' → ∀ cs w', Rdr w' p s j c' → Chg (Cr p) w w' → VRepP (From w.heap.size) w' v cs → K (.agg cs.toArray) w')
    (hbad : ∀ e j, (if byteM s (blankM s (i + 1)) = 125 then .ok (.mk 6 false [] [] []) (blankM s (i + 1) + 1) c else objM En s n deep (blankM s (i + 1)) c (.mk 6 false [] [] [])) = RR.bad e j → Thr w p e j) :
    callF Tryz.prog 113 [.pointer (some ⟨p, 0, none⟩), i64 (deep : Nat)] w K := by
  refine W113_ok ?_
  unfold W113
  have hp := h.lt
  refine alloc_new fun a4 w1 ha4 hz1 hb4 hx1 => ?_
  rw [put_int]
  refine ⟨by simp, ?_⟩
  rw [put_nil]
  simp only [List.set_cons_zero]
  refine alloc_new fun a5 w2 ha5 hz2 hb5 hx2 => ?_
  refine st_agg_at (l := [i64 6, .bool false, str [], .slice none 0 0, .slice none 0 0]) hb5 rfl rfl rfl fun w3 hz3 hb5 hc3 => ?_
  have hx3 : Ext w w3 := (hx1.trans hx2).new hc3 (by omega)
  have h3 := h.ext hx3
  have hb4 := hc3.at (hx2.at hb4 id) (by omega)
  refine h3.go (k := 1) (by omega) fun w4 h4 hc4 hz4 => ?_
  refine blanks_p h4 (by omega) (by omega) fun w5 h5 hc5 => ?_
  have hc35 := hc4.trans hc5
  have hcw5 := (Chg.of_ext hx3).trans hc35
  have hble : blankM s (i + 1) ≤ s.length := blank_le (by omega)
  have hbge := blank_ge s (i + 1)
  generalize hj0 : blankM s (i + 1) = j0 at *
  have keep5 : ∀ {w' w'' : World} {a : Nat} {o : Obj}, Chg (Cr p) w' w'' → w'.heap[a]? = some o → w.heap.size ≤ a → w''.heap[a]? = some o := fun hc hb hle => hc.at hb fun e => by
    have e : _ = p := e
    omega
  have fin : ∀ {w6 : World} {es : List Value} {l : List (Str × JV)} {j c' : Nat}, Rdr w6 p s j c' → Chg (Cr p) w w6 → w6.heap[a4]? = some (.cells [i64 0, .bool false, str [], .slice none 0 0, .slice none 0 0].toArray VT (0, 0)) → w6.heap[a5]? = some (.cells es.toArray VT (0, 0)) →
      VRepP (From w3.heap.size) w6 (mkO l) es → (∀ cs w', Rdr w' p s j c' → Chg (Cr p) w w' → VRepP (From w.heap.size) w' (mkO l) cs → K (.agg cs.toArray) w') →
      ldW true 5 (.pointer (some ⟨a5, 0, none⟩)) w6 fun t18 => stW 5 (.pointer (some ⟨a4, 0, none⟩)) t18 w6 fun w8 => ldW true 5 (.pointer (some ⟨a4, 0, none⟩)) w8 fun r9 => K r9 w8 := fun {w6 es l j c'} h6 hc6 hb4 hb5 hR hk => by
    refine ld_all hb5 hR.rep.len ?_
    refine ret_leaf hb4 rfl hR.rep.len hR.rep.all_one fun w7 hc7 => ?_
    refine hk _ w7 (hc7.at h6 fun e => by have e : p = a4 := e; omega) (hc6.then hc7 fun k hk e => by have e : k = a4 := e; omega) ?_
    exact (VRepP.chg hc7 (fun q hq _ e => by have : w3.heap.size ≤ q := hq; have e : q = a4 := e; omega) hR).mono fun q _ hq => by have : w3.heap.size ≤ q := hq; show w.heap.size ≤ q; omega
  have hemp : ∀ w' : World, VRepP (From w3.heap.size) w' (mkO []) [i64 6, .bool false, str [], .slice none 0 0, .slice none 0 0] := fun w' => leaf_rep (by simp)
  refine take_p (n := 125) h5 hble (by omega) (fun e w6 h6 hc6 => ?_) (fun e w6 h6 hc6 => ?_)
  · have e : byteM s j0 = 125 := e
    rw [if_pos e] at hok
    rw [condW_true]
    have hc36 := hc35.trans hc6
    exact fin (l := []) h6 (hcw5.trans hc6) (keep5 hc36 hb4 (by omega)) (keep5 hc36 hb5 (by omega)) (hemp _) fun cs w' h' hc' hr' => hok _ _ _ rfl cs w' h' hc' hr'
  have e : byteM s j0 ≠ 125 := e
  rw [if_neg e] at hok hbad
  rw [condW_false]
  have hc36 := hc35.trans hc6
  have e0 : (.mk 6 false [] [] [] : JV) = mkO [] := rfl
  rw [e0] at hok hbad
  refine LoopW.go (fun st w' => st = [] ∧ ∃ m j c' l es, Rdr w' p s j c' ∧ Chg (Cr p) w w' ∧ w'.heap[a4]? = some (.cells [i64 0, .bool false, str [], .slice none 0 0, .slice none 0 0].toArray VT (0, 0)) ∧ w'.heap[a5]? = some (.cells es.toArray VT (0, 0)) ∧
      VRepP (From w3.heap.size) w' (mkO l) es ∧ Rise (l.map (·.1)) ∧ (∀ q ∈ l, ItemP (24 - deep) q) ∧ cntP l ≤ c' ∧ l.length ≤ c' ∧ m ≤ n ∧ 2 * (2000 - c') + 2 ≤ m ∧ c' ≤ 2000 ∧ j ≤ s.length ∧ objM En s m deep j c' (mkO l) = objM En s n deep j0 c (mkO [])) (fun _ w' => s.length + 1 - rdAt w' p)
    ⟨rfl, n, j0, c, [], [i64 6, .bool false, str [], .slice none 0 0, .slice none 0 0], h6, hcw5.trans hc6, keep5 hc36 hb4 (by omega), keep5 hc36 hb5 (by omega), hemp _, List.Pairwise.nil, (fun q hq => by cases hq), Nat.zero_le _, Nat.zero_le _, Nat.le_refl _, hn, hc, hble, rfl⟩ ?_
  rintro st g w7 ⟨rfl, m, j, c', l, es, h7, hc7, hb4, hb5, hR, hrise, hitems, hcl, hll, hmn, hm, hc2, hj, heq⟩
  obtain ⟨m, rfl⟩ : ∃ m', m = m' + 1 := ⟨m - 1, by omega⟩
  rw [objM] at heq
  rw [← heq] at hok hbad
  have hjb := blank_le hj
  have hjg := blank_ge s j
  refine blanks_p h7 hj (by omega) fun w8 h8 hc8 => ?_
  generalize hj8 : blankM s j = j8 at *
  have s7 : w3.heap.size ≤ w7.heap.size := by have := at_lt hb5; have := at_lt hb4; have := hc7.size; omega
  have keepR : ∀ {w' w'' : World}, Chg (Cr p) w' w'' → VRepP (From w3.heap.size) w' (mkO l) es → VRepP (From w3.heap.size) w'' (mkO l) es := fun hc hr => VRepP.chg hc (fun q hq _ e => by have : w3.heap.size ≤ q := hq; have e : q = p := e; omega) hr
  have hc78 := hc7.trans hc8
  refine h8.ld rfl ?_
  refine JoinW.cut (fun st w' => ∃ (_ : byteM s j8 = 34), Ext w8 w') ?_ ?_
  · refine peek_p h8 hjb fun w9 hx9 => ?_
    rw [bin_neq, condW_dec]
    have hpk : pkM s j8 = 34 ↔ byteM s j8 = 34 := pk_eq (k := 34) (by omega)
    refine ⟨fun e => ?_, fun e => ?_⟩
    · have e : byteM s j8 ≠ 34 := fun h => e (hpk.2 h)
      rw [if_pos e] at hbad
      refine (h8.ext hx9).ld rfl ?_
      exact fail_p ((hbad _ _ rfl).from (hc78.then hx9 fun _ _ e => e.elim))
    · have e : pkM s j8 = 34 := Classical.byContradiction fun h => e h
      exact ⟨hpk.1 e, hx9⟩
  rintro st g9 w9 ⟨h34, hx9⟩
  rw [if_neg (fun e => e h34)] at hok hbad heq
  have h9 := h8.ext hx9
  have hc79 : Chg (Cr p) w7 w9 := hc8.then hx9 fun _ _ e => e.elim
  have hlt8 := byte_lt (s := s) (i := j8) (by omega)
  refine quoted_p h9 (hT.rd h (hc7.trans hc79)) (hE.rd h (hc7.trans hc79)) hlt8 (by omega) (fun key jq cq hq w10 h10 hc10 => ?_) (fun e1 j1 hq => ?_)
  · rw [hq] at hok hbad heq
    simp only at hok hbad heq
    have hq' := hq
    unfold quotM at hq'
    obtain ⟨a1, a2, a3, a4', a5', a6⟩ := quot_back hq' .nil
    subst a1
    have hc710 := hc79.trans hc10
    have hR10 := keepR hc710 hR
    have hb510 := keep5 hc710 hb5 (by omega)
    have hIO := item_obj hrise hitems
    have hfew : fewM (mkO l) = true := few_cnt _ hIO.plain (by show 1 + cntL (l.map (·.2)) ≤ _; rw [cntL_map]; omega)
    have hg1 := blank_ge s jq
    have hg2 := blank_le a5'
    refine JoinW.cut (fun st w' => ∃ (_ : (getM (mkO l) key).isSome = false), Ext w10 w') ?_ ?_
    · refine ld_all hb510 hR10.rep.len ?_
      refine get_p hR10.rep rfl (by show (l.map (·.1)).length = (l.map (·.2)).length; rw [List.length_map, List.length_map]) hfew hrise fun cs' w11 hx11 hr11 => ?_
      simp only [ext_tuple]
      refine ⟨_, rfl, _, rfl, ?_⟩
      refine alloc_new fun a8 w12 ha8 hz12 hb12 hx12 => ?_
      refine st_agg_at hb12 (hr11.len) rfl hr11.all_one fun w13 hz13 hb13 hc13 => ?_
      have hx13 : Ext w10 w13 := (hx11.trans hx12).new hc13 (by have := hx11.size; omega)
      rw [condW_b]
      refine ⟨fun e => ?_, fun e => ⟨e, hx13⟩⟩
      rw [if_pos e] at hbad
      exact fail_p ((hbad _ _ rfl).from ((hc7.trans hc710).then hx13 fun _ _ e => e.elim))
    rintro st g11 w11 ⟨hget, hx11⟩
    rw [if_neg (by rw [hget]; simp)] at hok hbad heq
    have hnk := get_none hget
    have h11 := h10.ext hx11
    have hc711 := hc710.then hx11 fun _ _ e => e.elim
    refine want_p (n := 58) h11 a5' (by omega) (fun e58 w12 h12 hc12 => ?_) (fun e58 => ?_)
    · have e58 : byteM s (blankM s jq) = 58 := e58
      rw [if_neg (fun e => e e58)] at hok hbad heq
      have hlt58 := byte_lt (s := s) (i := blankM s jq) (by omega)
      have hc712 := hc711.trans hc12
      have hxd : Ext w12 w12.drew := Chg.drew (Chg.refl (fun _ => False) w12)
      have hc712d := hc712.then hxd fun _ _ e => e.elim
      have hb512 := keep5 hc712d hb5 (by omega)
      have hR12 := keepR hc712d hR
      refine ld_all hb512 hR12.rep.len ?_
      rw [bin_add, up1 (by omega)]
      have hcw := hc7.trans hc712d
      refine ih m (by omega) (h12.ext hxd) (hT.rd h hcw) (hE.rd h hcw) (by omega) hs hc2 (by omega) (by omega) (fun x j2 c2 hv ds w13 h13 hc13 hr13 => ?_) (fun e1 j2 hv => ?_)
      · rw [hv] at hok hbad heq
        simp only at hok hbad heq
        have hbk := val_back (by omega) hc2 hv
        have hcp := cnt_pos x
        have hcnt := hbk.cnt
        have hmax := hbk.max
        have hlen := hbk.len
        have hfit := hbk.fits
        have hit := hbk.item
        rw [show 25 - (deep + 1) = 24 - deep by omega] at hit
        have hb513 := keep5 hc13 hb512 (by omega)
        have hR13 := keepR hc13 hR12
        have hcw13 := hcw.trans hc13
        refine ⟨ld_all hb513 hR13.rep.len rfl, ?_⟩
        have s13 := hcw13.size
        have s713 := (hc712d.trans hc13).size
        refine put_n hR13.rep hr13.rep hfew (few_cnt x hit.plain (by omega)) hrise hnk (by omega) (by omega) fun es' w14 hx14 hr14 => ?_
        have hb514 := hx14.at hb513 id
        refine st_agg_at hb514 hr14.rep.len hR13.rep.len hr14.rep.all_one fun w15 hz15 hb515 hc15 => ?_
        have h15 := hc15.at (h13.ext hx14) (by omega)
        have hr15 : VRepP (From w3.heap.size) w15 (mkO (insP l key x)) es' := (VRepP.chg hc15 (fun q hq _ e => by have : w13.heap.size ≤ q := hq; have := at_lt hb513; omega) hr14).mono fun q _ hq => by have : w13.heap.size ≤ q := hq; show w3.heap.size ≤ q; omega
        have hb415 := hc15.at (hx14.at (keep5 (hc712d.trans hc13) hb4 (by omega)) id) (by omega)
        have hcw15 : Chg (Cr p) w w15 := (hcw13.then hx14 fun _ _ e => e.elim).then hc15 fun q hq e => by omega
        have hr' := rise_ins (x := x) hrise hnk
        have hp' : ∀ q ∈ insP l key x, ItemP (24 - deep) q := fun q hq => by
          rcases (ins_mem q).1 hq with rfl | hq
          · exact ⟨a3, (utf_iff key).2 a2, hit⟩
          · exact hitems q hq
        rw [put_mkO hnk] at hok hbad heq
        refine blanks_p h15 hfit (by omega) fun w16 h16 hc16 => ?_
        have hge1 := blank_ge s j2
        have hle1 := blank_le hfit
        have hidem := blank_idem s j2
        have step : ∀ {w' : World}, Chg (Cr p) w15 w' → Chg (Cr p) w w' ∧ w'.heap[a4]? = some (.cells [i64 0, .bool false, str [], .slice none 0 0, .slice none 0 0].toArray VT (0, 0)) ∧ w'.heap[a5]? = some (.cells es'.toArray VT (0, 0)) ∧ VRepP (From w3.heap.size) w' (mkO (insP l key x)) es' := fun {w'} hc' =>
          ⟨hcw15.trans hc', keep5 hc' hb415 (by omega), keep5 hc' hb515 (by omega), VRepP.chg hc' (fun q hq _ e => by have : w3.heap.size ≤ q := hq; have e : q = p := e; omega) hr15⟩
        refine take_p (n := 125) h16 hle1 (by omega) (fun e w17 h17 hc17 => ?_) (fun e w17 h17 hc17 => ?_)
        · have e : byteM s (blankM s j2) = 125 := e
          rw [if_pos e] at hok
          rw [condW_true]
          obtain ⟨q1, q2, q3, q4⟩ := step (hc16.trans hc17)
          exact fin h17 q1 q2 q3 q4 fun cs w' h' hc' hr' => hok _ _ _ rfl cs w' h' hc' hr'
        · have e : byteM s (blankM s j2) ≠ 125 := e
          rw [if_neg e] at hok hbad heq
          rw [condW_false]
          refine want_p (n := 44) h17 hle1 (by omega) (fun e2 w18 h18 hc18 => ?_) (fun e2 => ?_)
          · rw [hidem] at e2 h18
            have e2 : byteM s (blankM s j2) = 44 := e2
            rw [if_pos e2] at heq
            obtain ⟨q1, q2, q3, q4⟩ := step ((hc16.trans hc17).trans hc18)
            have hlt44 := byte_lt (s := s) (i := blankM s j2) (by omega)
            refine ⟨⟨rfl, m, blankM s j2 + 1, c2, insP l key x, es', h18, q1, q2, q3, q4, hr', hp', by rw [ins_cnt]; omega, by rw [ins_len]; omega, by omega, by omega, hmax, by omega, heq⟩, ?_⟩
            rw [h18.at_, h7.at_]; omega
          · rw [hidem] at e2 ⊢
            have e2 : byteM s (blankM s j2) ≠ 44 := e2
            rw [if_neg e2] at hbad
            exact (hbad _ _ rfl).from (step (hc16.trans hc17)).1
      · rw [hv] at hbad
        exact (hbad _ _ rfl).from hcw
    · have e58 : byteM s (blankM s jq) ≠ 58 := e58
      rw [if_pos e58] at hbad
      exact (hbad _ _ rfl).from (hc7.trans hc711)
  · rw [hq] at hbad
    exact (hbad _ _ rfl).from (hc7.trans hc79)
end
end Go.Proofs.YtcnjpcadejcenaaGreatDoor
namespace Go.Proofs.YtcnjpcadejcenaaGreatDoor
open Go Go.Eng Go.RowKit
set_option maxRecDepth 100000
section
variable [HX]
theorem bool_p {b : Bool} {w : World} {K : Value → World → Prop} (hK : ∀ w', Ext w w' → K (.agg [i64 2, .bool b, str [], .slice none 0 0, .slice none 0 0].toArray) w') : callF Tryz.prog 109 [.bool b] w K := by
  refine W109_ok ?_
  unfold W109
  refine alloc_new fun a w1 ha hz hb hx => ?_
  simp only [put_int, put_bool, put_nil, List.length_cons, List.length_nil, List.set_cons_zero, List.set_cons_succ]
  refine ⟨by omega, by omega, ?_⟩
  exact ret_leaf (l := [i64 2, .bool b, str [], .slice none 0 0, .slice none 0 0]) hb rfl rfl rfl fun w2 hc2 => hK w2 (hx.new hc2 (by omega))
theorem null_p {w : World} {K : Value → World → Prop} (hK : ∀ w', Ext w w' → K (.agg [i64 0, .bool false, str [], .slice none 0 0, .slice none 0 0].toArray) w') : callF Tryz.prog 108 [] w K := by
  refine W108_ok ?_
  unfold W108
  refine alloc_new fun a w1 ha hz hb hx => ?_
  rw [put_nil]
  exact ret_leaf (l := [i64 0, .bool false, str [], .slice none 0 0, .slice none 0 0]) hb rfl rfl rfl fun w2 hc2 => hK w2 (hx.new hc2 (by omega))
theorem textv_p {t : Str} {w : World} {K : Value → World → Prop} (hK : ∀ w', Ext w w' → K (.agg [i64 4, .bool false, str t, .slice none 0 0, .slice none 0 0].toArray) w') : callF Tryz.prog 79 [str t] w K := by
  refine W79_ok ?_
  unfold W79
  refine alloc_new fun b w1 hb hz hbb hx => ?_
  simp only [put_int, put_str, put_nil, List.length_cons, List.length_nil, List.set_cons_zero, List.set_cons_succ]
  refine ⟨by omega, by omega, ?_⟩
  exact ret_leaf (l := [i64 4, .bool false, str t, .slice none 0 0, .slice none 0 0]) hbb rfl rfl rfl fun w2 hc2 => hK w2 (hx.new hc2 (by omega))
theorem value_p : ∀ n, VP n := by
  intro n
  induction n using Nat.strongRecOn with
  | ind n ihs =>
  intro deep i c p s w K h hT hE hi hs hc hdeep hn hok hbad
  obtain ⟨n, rfl⟩ : ∃ m, n = m + 1 := ⟨n - 1, by omega⟩
  have ih : ∀ m, m ≤ n → VP m := fun m hm => ihs m (by omega)
  refine W53_ok ?_
  unfold W53
  have hp := h.lt
  rw [valM] at hok hbad
  refine alloc_new fun a4 w1 ha4 hz1 hb4 hx1 => ?_
  refine blanks_p (h.ext hx1) hi (by omega) fun w2 h2 hc2 => ?_
  have hj := blank_le hi
  generalize hjj : blankM s i = j at *
  have hcw2 := (Chg.of_ext hx1).trans hc2
  have hpa : p ≠ a4 := by omega
  have hb42 := hc2.at hb4 (fun e => hpa e.symm)
  refine JoinW.cut (fun st w' => w' = w2 ∧ ¬ 24 < deep ∧ ¬ 2000 ≤ c) ?_ ?_
  · rw [bin_gtr, condW_dec]
    refine ⟨fun e => ?_, fun e => ?_⟩
    · rw [if_pos (by omega)] at hbad
      refine h2.ld rfl ?_
      exact fail_p ((hbad _ _ rfl).from hcw2)
    · rw [if_neg (by omega)] at hbad
      refine h2.ld rfl ?_
      rw [bin_eql, condW_dec]
      refine ⟨fun e2 => ?_, fun e2 => ⟨rfl, by omega, by omega⟩⟩
      rw [if_pos (by omega)] at hbad
      refine h2.ld rfl ?_
      exact fail_p ((hbad _ _ rfl).from hcw2)
  rintro st g w3 ⟨rfl, hd, hcnt⟩
  rw [if_neg hd, if_neg hcnt] at hok hbad
  refine h2.ld rfl ?_
  rw [bin_add, up1 (by omega)]
  refine h2.st2 fun w4 h4 hc4 hz4 => ?_
  have hxd : Ext w4 w4.drew := Chg.drew (Chg.refl (fun _ => False) w4)
  have h4d := h4.ext hxd
  refine h4d.ld rfl ?_
  refine h4d.ld rfl ?_
  rw [sls_str, bd_none, bd_some]
  refine ⟨by omega, by omega, ?_⟩
  simp only [Int.toNat_natCast, List.take_length]
  refine peek_p h4d hj fun w5 hx5 => ?_
  have h5 := h4d.ext hx5
  have hc5 : Chg (Cr p) w w5 := ((hcw2.trans hc4).then hxd fun _ _ e => e.elim).then hx5 fun _ _ e => e.elim
  have hb45 := hx5.at (hxd.at (hc4.at hb42 (fun e => hpa e.symm)) id) id
  -- what is handed back
  have ret : ∀ {w6 w7 : World} {j' c' : Nat} {v : JV} {cs : List Value}, Rdr w6 p s j' c' → Chg (Cr p) w5 w6 → VRepP (From w5.heap.size) w6 v cs → (∀ cs w', Rdr w' p s j' c' → Chg (Cr p) w w' → VRepP (From w.heap.size) w' v cs → K (.agg cs.toArray) w') →
      stW 5 (.pointer (some ⟨a4, 0, none⟩)) (.agg cs.toArray) w6 fun w8 => ldW true 5 (.pointer (some ⟨a4, 0, none⟩)) w8 fun r9 => K r9 w8 := fun {w6 _ j' c' v cs} h6 hc6 hr hk => by
    refine ret_leaf (hc6.at hb45 (fun e => hpa e.symm)) rfl hr.rep.len hr.rep.all_one fun w7 hc7 => ?_
    have s5 := hc5.size
    have := at_lt hb45
    refine hk _ w7 (hc7.at h6 hpa) ((hc5.trans hc6).then hc7 fun k hk e => by have e : k = a4 := e; omega) ?_
    exact (VRepP.chg hc7 (fun q hq _ e => by have : w5.heap.size ≤ q := hq; have e : q = a4 := e; omega) hr).mono fun q _ hq => by have : w5.heap.size ≤ q := hq; show w.heap.size ≤ q; omega
  have wlen : ∀ {p : Str}, wordM s j p = true → j + p.length ≤ s.length := fun {p} hw => by
    unfold wordM at hw
    have := congrArg List.length (of_decide_eq_true hw)
    rw [List.length_take, List.length_drop] at this
    omega
  refine word_p ?_
  rw [condW_b]
  refine ⟨fun e => ?_, fun e => ?_⟩
  · rw [if_pos e] at hok
    have hw := wlen e
    refine h5.go (k := 4) (by omega) fun w6 h6 hc6 hz6 => ?_
    refine null_p fun w7 hx7 => ?_
    exact ret (w7 := w7) (v := JV.null) (h6.ext hx7) (hc6.then hx7 fun _ _ e => e.elim) (leaf_rep (by simp)) fun cs w' h' hc' hr' => hok _ _ _ rfl cs w' h' hc' hr'
  rw [if_neg (by rw [e]; simp)] at hok hbad
  refine word_p ?_
  rw [condW_b]
  refine ⟨fun e => ?_, fun e => ?_⟩
  · rw [if_pos e] at hok
    have hw := wlen e
    refine h5.go (k := 4) (by omega) fun w6 h6 hc6 hz6 => ?_
    refine bool_p fun w7 hx7 => ?_
    exact ret (w7 := w7) (h6.ext hx7) (hc6.then hx7 fun _ _ e => e.elim) (leaf_rep (by simp)) fun cs w' h' hc' hr' => hok _ _ _ rfl cs w' h' hc' hr'
  rw [if_neg (by rw [e]; simp)] at hok hbad
  refine word_p ?_
  rw [condW_b]
  refine ⟨fun e => ?_, fun e => ?_⟩
  · rw [if_pos e] at hok
    have hw := wlen e
    refine h5.go (k := 5) (by omega) fun w6 h6 hc6 hz6 => ?_
    refine bool_p fun w7 hx7 => ?_
    exact ret (w7 := w7) (h6.ext hx7) (hc6.then hx7 fun _ _ e => e.elim) (leaf_rep (by simp)) fun cs w' h' hc' hr' => hok _ _ _ rfl cs w' h' hc' hr'
  rw [if_neg (by rw [e]; simp)] at hok hbad
  have q45 : pkM s j = 45 ↔ byteM s j = 45 := pk_eq (k := 45) (by omega)
  have q34 : pkM s j = 34 ↔ byteM s j = 34 := pk_eq (k := 34) (by omega)
  have q91 : pkM s j = 91 ↔ byteM s j = 91 := pk_eq (k := 91) (by omega)
  have q123 : pkM s j = 123 ↔ byteM s j = 123 := pk_eq (k := 123) (by omega)
  rw [bin_eql]
  simp only [isB_f, isB_t, isB_gd_t, bin_geq, bin_leq, GdW_pure, GdW_nest_and, List.getD_cons_zero, pick_gd_or]
  intros
  rw [pk_dig, condW_b]
  have hthr : ∀ {w' : World} {e : Int} {j' : Nat}, Chg (Cr p) w5 w' → Thr w p e j' → Thr w' p e j' := fun hc ht => ht.from (hc5.trans hc)
  refine ⟨fun e => ?_, fun e => ?_⟩
  · have e : byteM s j = 45 ∨ isDig (byteM s j) = true := by
      rw [Bool.or_eq_true, decide_eq_true_iff] at e
      exact e.imp q45.1 id
    rw [if_pos e] at hok hbad
    refine number_p h5 hj (by omega) (fun v j' c' hv cs w6 h6 hc6 hr6 => ?_) (fun e1 j' hv => (hbad _ _ hv).from hc5)
    exact ret (w7 := w6) h6 hc6 hr6 fun cs w' h' hc' hr' => hok _ _ _ hv cs w' h' hc' hr'
  have e : ¬ (byteM s j = 45 ∨ isDig (byteM s j) = true) := by
    rw [Bool.or_eq_false_iff, decide_eq_false_iff_not] at e
    rintro (h | h)
    · exact e.1 (q45.2 h)
    · rw [e.2] at h; cases h
  rw [if_neg e] at hok hbad
  rw [bin_eql, condW_dec]
  refine ⟨fun e => ?_, fun e => ?_⟩
  · have e := q34.1 e
    rw [if_pos e] at hok hbad
    have hlt := byte_lt (s := s) (i := j) (by omega)
    refine quoted_p h5 (hT.rd h hc5) (hE.rd h hc5) hlt (by omega) (fun t j' c' hq w6 h6 hc6 => ?_) (fun e1 j' hq => ?_)
    · rw [hq] at hok
      refine textv_p fun w7 hx7 => ?_
      unfold quotM at hq
      obtain ⟨_, _, a3, _⟩ := quot_back hq .nil
      exact ret (w7 := w7) (h6.ext hx7) (hc6.then hx7 fun _ _ e => e.elim) (leaf_rep (by omega)) fun cs w' h' hc' hr' => hok _ _ _ rfl cs w' h' hc' hr'
    · rw [hq] at hbad
      exact (hbad _ _ rfl).from hc5
  rw [if_neg (fun h => e (q34.2 h))] at hok hbad
  rw [bin_eql, condW_dec]
  refine ⟨fun e => ?_, fun e => ?_⟩
  · have e := q91.1 e
    rw [if_pos e] at hok hbad
    have hlt := byte_lt (s := s) (i := j) (by omega)
    refine list_p ih h5 (hT.rd h hc5) (hE.rd h hc5) hlt hs (by omega) (by omega) (by omega) (fun v j' c' hv cs w6 h6 hc6 hr6 => ?_) (fun e1 j' hv => (hbad _ _ hv).from hc5)
    exact ret (w7 := w6) h6 hc6 hr6 fun cs w' h' hc' hr' => hok _ _ _ hv cs w' h' hc' hr'
  rw [if_neg (fun h => e (q91.2 h))] at hok hbad
  rw [bin_eql, condW_dec]
  refine ⟨fun e => ?_, fun e => ?_⟩
  · have e := q123.1 e
    rw [if_pos e] at hok hbad
    have hlt := byte_lt (s := s) (i := j) (by omega)
    refine object_p ih h5 (hT.rd h hc5) (hE.rd h hc5) hlt hs (by omega) (by omega) (by omega) (fun v j' c' hv cs w6 h6 hc6 hr6 => ?_) (fun e1 j' hv => (hbad _ _ hv).from hc5)
    exact ret (w7 := w6) h6 hc6 hr6 fun cs w' h' hc' hr' => hok _ _ _ hv cs w' h' hc' hr'
  rw [if_neg (fun h => e (q123.2 h))] at hbad
  refine h5.ld rfl ?_
  exact fail_p ((hbad _ _ rfl).from hc5)
end
theorem as_diag (v : Value) (w : World) : (Instr.typeAssert (.iface DT v) 20 DT false).run Tryz.prog w = .ok v w := by kernel_rfl
theorem nil_idle (w : World) (K : Value → Prop) : eqQ Tryz.prog .neq 20 false true .nilIface .nilIface w K ↔ K (.bool false) := by
  have h : (do eqGuard .neq 20 (stand false) (stand true) .nilIface .nilIface; binOp .neq 20 .nilIface .nilIface : Sem Value).run Tryz.prog w = .ok (.bool false) w := by kernel_rfl
  unfold eqQ semQ
  rw [h]
  exact ⟨fun ⟨v, h1, h2⟩ => by cases h1; exact h2, fun h2 => ⟨_, rfl, h2⟩⟩
theorem nil_thrown (v : Value) (w : World) (K : Value → Prop) : eqQ Tryz.prog .neq 20 false true (.iface DT v) .nilIface w K ↔ K (.bool true) := by
  have h : (do eqGuard .neq 20 (stand false) (stand true) (.iface DT v) .nilIface; binOp .neq 20 (.iface DT v) .nilIface : Sem Value).run Tryz.prog w = .ok (.bool true) w := by kernel_rfl
  unfold eqQ semQ
  rw [h]
  exact ⟨fun ⟨v, h1, h2⟩ => by cases h1; exact h2, fun h2 => ⟨_, rfl, h2⟩⟩
theorem rec_idle {a b : Value} {w : World} {K : World → Prop} (hK : K w) : DefC Tryz.prog 51 [a, b] .returning w K := by
  letI := noX
  refine R51_ok .idle ?_
  unfold R51
  rw [nil_idle, condW_false]
  exact hK
abbrev zv5 : List Value := [.int .i64 0, .bool false, .string (ofL []), .slice none 0 0, .slice none 0 0]
theorem rec_thrown {a b d : Nat} {cs ds : List Value} {w : World} {K : World → Prop} (ha : w.heap[a]? = some (.cells cs.toArray VT (0, 0))) (hl : cs.length = 5) (hb : w.heap[b]? = some (.cells ds.toArray DT (0, 0))) (hd : ds.length = 1) (hab : a ≠ b)
    (hK : ∀ w', Chg (fun k => k = a ∨ k = b) w w' → w'.heap[a]? = some (.cells zv5.toArray VT (0, 0)) → w'.heap[b]? = some (.cells [.pointer (some ⟨d, 0, none⟩)].toArray DT (0, 0)) → K w') :
    DefC Tryz.prog 51 [.pointer (some ⟨a, 0, none⟩), .pointer (some ⟨b, 0, none⟩)] (.panicking [{ v := .iface DT (.pointer (some ⟨d, 0, none⟩)), recovered := false }]) w K := by
  letI := noX
  refine R51_ok (.thrown _) ?_
  unfold R51
  rw [nil_thrown, condW_true, put_nil]
  refine ⟨_, as_diag _ _, ?_⟩
  refine st_agg_at (l := zv5) (w := w.drew) ha rfl hl rfl fun w2 hz2 ha2 hc2 => ?_
  refine ⟨⟨_, as_diag _ _, rfl⟩, ?_⟩
  have hb2 := hc2.at (w := w.drew) hb (fun e => hab e.symm)
  refine st_at hb2 rfl (by rw [List.size_toArray]; omega) fun w3 hz3 hb3 hc3 => ?_
  refine hK w3 ?_ (hc3.at ha2 hab) (by
    rw [hb3]
    match ds, hd with
    | [x], _ => simp)
  exact ((Chg.drew (Chg.refl _ w)).trans (hc2.mono fun k _ e => .inl e)).trans (hc3.mono fun k _ e => .inr e)
end Go.Proofs.YtcnjpcadejcenaaGreatDoor
namespace Go.Proofs.YtcnjpcadejcenaaGreatDoor
open Go Go.Eng Go.RowKit
set_option maxRecDepth 100000
abbrev DgT : TypeId := 49
section
variable [HX]
theorem decode_p {s : Str} {w : World} {K : Value → World → Prop} (hT : TabU w) (hE : TabE w) (hs : s.length ≤ 9223372036854775807)
    (hok : ∀ v j c, decM En s = .ok v j c → ∀ cs w', Ext w w' → VRepP (From w.heap.size) w' v cs → K (.tuple #[.agg cs.toArray, .pointer none]) w')
    (hbad : ∀ e i, decM En s = .bad e i → ∀ d w', Ext w w' → w.heap.size ≤ d → w'.heap[d]? = some (.cells [i64 e, str [], i64 (i : Nat)].toArray DgT (0, 0)) → K (.tuple #[.agg zv5.toArray, .pointer (some ⟨d, 0, none⟩)]) w') :
    callF Tryz.prog 18 [str s] w K := by
  refine W18_ok ?_
  unfold W18
  refine alloc_new fun a w1 ha hz1 hba hx1 => ?_
  refine alloc_new fun b w2 hb hz2 hbb hx2 => ?_
  have hba := hx2.at hba id
  have hx02 := hx1.trans hx2
  letI H : HX := ⟨fun ch x3 => DefC Tryz.prog 51 [.pointer (some ⟨a, 0, none⟩), .pointer (some ⟨b, 0, none⟩)] (.panicking ch) x3 fun w3 => ldW true 5 (.pointer (some ⟨a, 0, none⟩)) w3 fun r4 => ldW false 1 (.pointer (some ⟨b, 0, none⟩)) w3 fun r5 => K (.tuple #[r4, r5]) w3⟩
  have hab : a ≠ b := by omega
  unfold decM at hok hbad
  -- what is thrown is handed back
  have thr : ∀ {w3 : World} {p : Nat} {cs ds : List Value} {e : Int} {i : Nat}, (∀ d w', Ext w w' → w.heap.size ≤ d → w'.heap[d]? = some (.cells [i64 e, str [], i64 (i : Nat)].toArray DgT (0, 0)) → K (.tuple #[.agg zv5.toArray, .pointer (some ⟨d, 0, none⟩)]) w') →
      Ext w w3 → w3.heap[a]? = some (.cells cs.toArray VT (0, 0)) → cs.length = 5 → w3.heap[b]? = some (.cells ds.toArray DT (0, 0)) → ds.length = 1 → w2.heap.size ≤ p → Thr w3 p e i := fun {w3 p cs ds e i} hbad hx h1 h2 h3 h4 hp d w' hd hc hbd => by
    show DefC _ _ _ _ _ _
    have s3 := at_lt h3
    refine rec_thrown (hc.at h1 fun e => by have e : a = p := e; omega) h2 (hc.at h3 fun e => by have e : b = p := e; omega) h4 hab fun w'' hc'' h1'' h3'' => ?_
    refine ld_all h1'' rfl ?_
    rw [ld_one]
    refine ⟨_, by rw [cell_eq, h3'']; rfl, ?_⟩
    have hlt := at_lt hbd
    refine hbad d w'' ?_ (by have := hx.size; omega) (hc''.at hbd (by rintro (e | e) <;> omega))
    exact (hx.then hc fun k hk e => by have e : k = p := e; omega).then hc'' fun k hk e => by rcases e with e | e <;> omega
  refine JoinW.cut (fun st w' => w' = w2 ∧ ¬ 65536 < s.length) ?_ ?_
  · rw [lens_str, bin_gtr, condW_dec]
    refine ⟨fun e => ?_, fun e => ⟨rfl, by omega⟩⟩
    rw [if_pos (by omega)] at hbad
    exact fail_p (p := w2.heap.size) (i := 0) (thr (hbad _ _ rfl) hx02 hba rfl hbb rfl (Nat.le_refl _))
  rintro st g w3 ⟨rfl, hlen⟩
  rw [if_neg hlen] at hok hbad
  simp only [put_int, put_str, put_nil, List.length_cons, List.length_nil, List.set_cons_zero, List.set_cons_succ]
  refine ⟨by omega, ?_⟩
  refine box_new (z := [str s, i64 0, i64 0]) fun p w4 hp hz4 hb4 hx4 => ?_
  have hx04 := hx02.trans hx4
  have hR : Rdr w4 p s 0 0 := hb4
  have hba4 := hx4.at hba id
  have hbb4 := hx4.at hbb id
  have hT4 := hT.ext hx04
  have hE4 := hE.ext hx04
  refine value_p 5000 (deep := 1) hR hT4 hE4 (Nat.zero_le _) (by omega) (by omega) (by omega) (by omega) (fun v j c hv cs w5 h5 hc5 hr5 => ?_) (fun e i hv => ?_)
  · rw [hv] at hok hbad
    simp only at hok hbad
    have hbk := val_back (Nat.zero_le _) (Nat.zero_le _) hv
    have hba5 := hc5.at hba4 fun e => by have e : a = p := e; omega
    have hbb5 := hc5.at hbb4 fun e => by have e : b = p := e; omega
    refine st_agg_at hba5 hr5.rep.len rfl hr5.rep.all_one fun w6 hz6 hba6 hc6 => ?_
    have hbb6 := hc6.at hbb5 (by omega)
    have h6 := hc6.at h5 (by omega)
    have hr6 : VRepP (From w4.heap.size) w6 v cs := VRepP.chg hc6 (fun q hq _ e => by have : w4.heap.size ≤ q := hq; omega) hr5
    have hx06 : Ext w w6 := (hx04.then hc5 fun k hk e => by have e : k = p := e; omega).then hc6 fun k hk e => by omega
    refine blanks_p h6 hbk.fits (by omega) fun w7 h7 hc7 => ?_
    have hx07 : Ext w w7 := hx06.then hc7 fun k hk e => by have e : k = p := e; omega
    have hba7 := hc7.at hba6 fun e => by have e : a = p := e; omega
    have hbb7 := hc7.at hbb6 fun e => by have e : b = p := e; omega
    refine JoinW.cut (fun st w' => w' = w7 ∧ ¬ blankM s j < s.length) ?_ ?_
    · refine h7.ld rfl ?_
      rw [lens_str, bin_lss, condW_dec]
      refine ⟨fun e => ?_, fun e => ⟨rfl, by omega⟩⟩
      rw [if_pos (by omega)] at hbad
      refine h7.ld rfl ?_
      exact fail_p (p := p) (thr (hbad _ _ rfl) hx07 hba7 hr5.rep.len hbb7 rfl (by omega))
    rintro st g2 w8 ⟨rfl, hend⟩
    rw [if_neg hend] at hok
    refine ld_all hba7 hr5.rep.len ?_
    refine st_agg_at hba7 hr5.rep.len hr5.rep.len hr5.rep.all_one fun w9 hz9 hba9 hc9 => ?_
    have hbb9 := hc9.at hbb7 (by omega)
    refine st_at hbb9 rfl (by simp) fun w10 hz10 hbb10 hc10 => ?_
    have hba10 := hc10.at hba9 hab
    refine rec_idle ?_
    refine ld_all hba10 hr5.rep.len ?_
    rw [ld_one]
    refine ⟨.pointer none, by rw [cell_eq, hbb10]; simp [cellO_some], ?_⟩
    have hx10 : Ext w w10 := (hx07.then hc9 fun k hk e => by omega).then hc10 fun k hk e => by omega
    refine hok _ _ _ rfl cs w10 hx10 ?_
    have hr7 : VRepP (From w4.heap.size) w8 v cs := VRepP.chg hc7 (fun q hq _ e => by have : w4.heap.size ≤ q := hq; have e : q = p := e; omega) hr6
    refine VRepP.mono (fun q _ hq => ?_) (VRepP.chg hc10 (fun q hq _ e => ?_) (VRepP.chg hc9 (fun q hq _ e => ?_) hr7))
    · have : w4.heap.size ≤ q := hq
      show w.heap.size ≤ q
      omega
    · have : w4.heap.size ≤ q := hq; omega
    · have : w4.heap.size ≤ q := hq; omega
  · rw [hv] at hbad
    exact thr (hbad _ _ rfl) hx04 hba4 rfl hbb4 rfl (by omega)
end
end Go.Proofs.YtcnjpcadejcenaaGreatDoor
namespace Go.Proofs.YtcnjpcadejcenaaGreatDoor
open Go Go.Eng Go.RowKit
set_option maxRecDepth 100000
structure TabJ (w : World) : Prop where
  utf : TabU w
  bru : TabB w
  err : TabE w
theorem TabJ.ext {w w' : World} (h : TabJ w) (hx : Ext w w') : TabJ w' := ⟨h.utf.ext hx, cell_ext hx h.bru, h.err.ext hx⟩
abbrev aw1 : Str := [32, 123, 34, 98, 34, 32, 58, 32, 91, 49, 44, 32, 110, 117, 108, 108, 93, 44, 32, 34, 97, 34, 58, 34, 120, 92, 110, 34, 125]
abbrev awV : JV := .mk 6 false [] [.mk 4 false [120, 10] [] [], .mk 5 false [] [.mk 3 false [49] [] [], .mk 0 false [] [] []] []] [[97], [98]]
theorem aw_dec : decM En aw1 = .ok awV 29 5 := by kernel_rfl
theorem aw_enc : encM 1 20 31 3 awV = ([123, 34, 97, 34, 58, 34, 120, 92, 110, 34, 44, 34, 98, 34, 58, 91, 49, 44, 110, 117, 108, 108, 93, 125], 0) := by kernel_rfl
theorem aw_bad : decM En [91, 49, 44, 93] = .bad 30 3 := by kernel_rfl
section
variable [HX]
theorem eqp_nn (n : Bool) (K : Value → Prop) : eqW .ptr n (.pointer none) (.pointer none) K ↔ K (.bool (!n)) := by cases n <;> exact Iff.rfl
theorem eqp_sn (n : Bool) (a : Addr) (K : Value → Prop) : eqW .ptr n (.pointer (some a)) (.pointer none) K ↔ K (.bool n) := Iff.rfl
theorem keep_val {w : World} {v : JV} {cs : List Value} {K : Value → World → Prop} (h : VRep w v cs) (hK : ∀ a w' sv kv, ValB w' a v sv kv → Ext w w' → K (.pointer (some ⟨a, 0, none⟩)) w') :
    allocW VT [(.int .i64 0), (.bool false), (.string (ofL [])), (.slice none 0 0), (.slice none 0 0)] w fun t1 w2 => stW 5 t1 (.agg cs.toArray) w2 fun w3 => K t1 w3 := copy_new h hK
theorem awake_j {w : World} {K : Value → World → Prop} (hT : TabJ w) (hK : ∀ w', Ext w w' → K (.bool true) w') : callF Tryz.prog 15 [] w K := by
  refine W15_ok ?_
  unfold W15
  refine decode_p (s := aw1) hT.utf hT.err (by decide) (fun v j c hv cs w1 hx1 hr1 => ?_) (fun e i hv => by rw [aw_dec] at hv; cases hv)
  rw [aw_dec] at hv
  cases hv
  simp only [ext_tuple]
  refine ⟨_, rfl, _, rfl, ?_⟩
  refine keep_val hr1.rep fun a w3 sv kv hB hx3 => ?_
  refine hB.ld fun cs1 h1 => ?_
  have hT3 := hT.ext (hx1.trans hx3)
  refine encode_p hT3.utf (fmt_ok hT3.bru) h1 fun w4 hx4 => ?_
  rw [aw_enc]
  simp only [ext_tuple]
  refine ⟨_, rfl, _, rfl, ?_⟩
  have hT4 := hT3.ext hx4
  refine decode_p (s := [91, 49, 44, 93]) hT4.utf hT4.err (by decide) (fun v j c hv => by rw [aw_bad] at hv; cases hv) (fun e i hv d w5 hx5 hd hbd => ?_)
  rw [aw_bad] at hv
  cases hv
  simp only [ext_tuple]
  refine ⟨_, rfl, _, rfl, ?_⟩
  refine keep_val (vrep_null w5) fun a2 w7 sv2 kv2 hB2 hx7 => ?_
  have hbd7 := hx7.at hbd id
  have hx := (hx1.trans hx3).trans (hx4.trans (hx5.trans hx7))
  rw [eqp_nn]
  simp only [isB_t, bin_eql, bin_seq, GdW_pure, Bool.not_false, cond_true, List.getD_cons_zero, pick_t]
  intros
  simp only [isB_t, bin_eql, bin_seq, eqp_sn, GdW_pure, Bool.not_false, cond_true, List.getD_cons_zero, pick_t, decide_true]
  intros
  simp only [nil_ptr, fld_ptr, ld_one, add_mk, Nat.zero_add, cell_eq, hbd7, cellO_some]
  refine GdW.act true (fun w' => w' = w7) (fun e => by cases e) ?_ ?_
  · intro _ J hJ
    refine ⟨i64 30, rfl, ?_⟩
    rw [bin_eql, decide_eq_true rfl]
    exact hJ _ rfl
  rintro g w8 rfl
  simp only [cond_true, List.getD_cons_zero, isB_t]
  refine GdW.act true (fun w' => w' = w8) (fun e => by cases e) ?_ ?_
  · intro _ J hJ
    refine ⟨i64 3, by rw [hbd7]; rfl, ?_⟩
    rw [bin_eql, decide_eq_true rfl]
    exact hJ _ rfl
  rintro g w9 rfl
  simp only [cond_true, List.getD_cons_zero, pick_t]
  exact hK _ hx
end
end Go.Proofs.YtcnjpcadejcenaaGreatDoor
namespace Go.Proofs.YtcnjpcadejcenaaGreatDoor
open Go Go.Eng
set_option maxRecDepth 100000
variable [HX]
def plan4 : Plan := { js := [(15005, ⟨[28], [], 26⟩)], ds := [] }
def W4 (v0 : Value) (w : World) (K : Value → World → Prop) : Prop :=
  callF Tryz.prog 15 [] w fun t8 w1 =>
  unW .not t8 fun t9 =>
  condW t9 (
    K (.bool false) w1) (
    callF Tryz.prog 18 [v0] w1 fun t12 w2 =>
    extW 0 t12 fun t13 =>
    extW 1 t12 fun t14 =>
    allocW 26 [(.int .i64 0), (.bool false), (.string (ofL [])), (.slice none 0 0), (.slice none 0 0)] w2 fun t3 w3 =>
    stW 5 t3 t13 w3 fun w4 =>
    callF Tryz.prog 19 [v0] w4 fun t17 w5 =>
    extW 0 t17 fun t18 =>
    extW 1 t17 fun t19 =>
    extW 2 t17 fun t20 =>
    allocW 26 [(.int .i64 0), (.bool false), (.string (ofL [])), (.slice none 0 0), (.slice none 0 0)] w5 fun t5 w6 =>
    stW 5 t5 t18 w6 fun w7 =>
    callF Tryz.prog 20 [t14, t19, t20] w7 fun t24 w8 =>
    GdW (isB t24 true) [undef] w8 (fun J9 =>
      ldW true 5 t3 w8 fun t26 =>
      ldW true 5 t5 w8 fun t27 =>
      callF Tryz.prog 21 [t26, t27] w8 fun t28 w10 =>
      J9 [t28] w10)
    fun s9 _ w11 =>
    pickW t24 (s9.getD 0 undef) (.bool false) fun t29 =>
    K t29 w11)
theorem W4_eq (v0 : Value) (w : World) (K : Value → World → Prop) : funW Tryz.prog Tryz.f4 plan4 [v0] w K = W4 v0 w K := by kernel_rfl
theorem W4_chk : chkFun Tryz.prog Tryz.f4 plan4 1 = true := by kernel_rfl
theorem W4_ok {v0 : Value} {w : World} {K : Value → World → Prop} (h : W4 v0 w K) : callF Tryz.prog 4 [v0] w K :=
  tie Tryz.prog 4 Tryz.f4 plan4 [v0] w K 1 (W4 v0 w K) rfl mixed Tryz.func4 W4_chk (W4_eq v0 w K) Tryz.call4 h
end Go.Proofs.YtcnjpcadejcenaaGreatDoor

namespace Go.Proofs.YtcnjpcadejcenaaGreatDoor
open Go Go.Eng
set_option maxRecDepth 100000
variable [HX]
def plan19 : Plan := { js := [(14, ⟨[], [], 7⟩)], ds := [(25, ⟨[0, 1, 2, 3, 4, 6, 7], [[], [], [1], [], [3], [0], [0, 1, 2, 5], [0, 1, 2, 3, 4, 5, 6]]⟩)] }
def W19 (v0 : Value) (w : World) (K : Value → World → Prop) : Prop :=
  allocW 26 [(.int .i64 0), (.bool false), (.string (ofL [])), (.slice none 0 0), (.slice none 0 0)] w fun t2 w1 =>
  lensW v0 fun t8 =>
  binW .gtr t8 (.int .i64 65536) fun t9 =>
  condW t9 (
    putW [(.int .i64 0), (.bool false), (.string (ofL [])), (.slice none 0 0), (.slice none 0 0)] [] fun c2 =>
    stW 5 t2 (.agg c2.toArray) w1 fun w3 =>
    ldW true 5 t2 w3 fun r4 =>
    K (.tuple #[r4, (.int .i64 3), (.int .i64 0)]) w3) (
    putW [(.string (ofL [])), (.int .i64 0), (.int .i64 0), (.int .i64 0), (.int .i64 0)] [(0, 1, v0)] fun c5 =>
    callF Tryz.prog 55 [(.agg c5.toArray), (.int .i64 1)] w1 fun t14 w6 =>
    extW 0 t14 fun t15 =>
    extW 1 t14 fun t16 =>
    allocW 89 [(.string (ofL [])), (.int .i64 0), (.int .i64 0), (.int .i64 0), (.int .i64 0)] w6 fun t5 w7 =>
    allocW 26 [(.int .i64 0), (.bool false), (.string (ofL [])), (.slice none 0 0), (.slice none 0 0)] w7 fun t6 w8 =>
    stW 5 t5 t15 w8 fun w9 =>
    stW 5 t6 t16 w9 fun w10 =>
    ldW true 5 t5 w10 fun t17 =>
    callF Tryz.prog 56 [t17] w10 fun t18 w11 =>
    stW 5 t5 t18 w11 fun w12 =>
    JoinW (fun J13 =>
      fldW 1 t5 fun t19 =>
      ldW false 1 t19 w12 fun t20 =>
      lensW v0 fun t22 =>
      binW .lss t20 t22 fun t23 =>
      condW t23 (
        ldW true 5 t5 w12 fun t24 =>
        fldW 1 t5 fun t25 =>
        ldW false 1 t25 w12 fun t26 =>
        callF Tryz.prog 57 [t24, (.int .i64 30), t26] w12 fun t27 w14 =>
        stW 5 t5 t27 w14 fun w15 =>
        J13 [] w15) (
        J13 [] w12))
    fun s13 _ w16 =>
    fldW 3 t5 fun t28 =>
    ldW false 1 t28 w16 fun t29 =>
    binW .neq t29 (.int .i64 0) fun t30 =>
    condW t30 (
      putW [(.int .i64 0), (.bool false), (.string (ofL [])), (.slice none 0 0), (.slice none 0 0)] [] fun c17 =>
      fldW 3 t5 fun t32 =>
      ldW false 1 t32 w16.drew fun t33 =>
      fldW 4 t5 fun t34 =>
      ldW false 1 t34 w16.drew fun t35 =>
      stW 5 t2 (.agg c17.toArray) w16.drew fun w18 =>
      (ldW false 1 t34 w18 fun x => x = t35) ∧
      (ldW false 1 t32 w18 fun x => x = t33) ∧
      ldW true 5 t2 w18 fun r19 =>
      K (.tuple #[r19, t33, t35]) w18) (
      ldW true 5 t6 w16 fun t36 =>
      stW 5 t2 t36 w16 fun w20 =>
      ldW true 5 t2 w20 fun r21 =>
      K (.tuple #[r21, (.int .i64 0), (.int .i64 0)]) w20))
theorem W19_eq (v0 : Value) (w : World) (K : Value → World → Prop) : funW Tryz.prog Tryz.f19 plan19 [v0] w K = W19 v0 w K := by kernel_rfl
theorem W19_chk : chkFun Tryz.prog Tryz.f19 plan19 1 = true := by kernel_rfl
theorem W19_ok {v0 : Value} {w : World} {K : Value → World → Prop} (h : W19 v0 w K) : callF Tryz.prog 19 [v0] w K :=
  tie Tryz.prog 19 Tryz.f19 plan19 [v0] w K 1 (W19 v0 w K) rfl mixed Tryz.func19 W19_chk (W19_eq v0 w K) Tryz.call19 h
def plan20 : Plan := { js := [(11007, ⟨[34], [], 30⟩), (11015, ⟨[27], [], 22⟩), (11023, ⟨[19], [], 14⟩)], ds := [] }
def W20 (v0 v1 v2 : Value) (w : World) (K : Value → World → Prop) : Prop :=
  binW .eql v1 (.int .i64 0) fun t8 =>
  condW t8 (
    eqW .ptr false v0 (.pointer none) fun t10 =>
    K t10 w) (
    eqW .ptr true v0 (.pointer none) fun t12 =>
    GdW (isB t12 true) [undef] w (fun J1 =>
      nilW v0 fun t15 =>
      fldW 0 t15 fun t16 =>
      ldW false 1 t16 w fun t17 =>
      binW .eql t17 v1 fun t19 =>
      J1 [t19] w)
    fun s1 _ w2 =>
    pickW t12 (s1.getD 0 undef) (.bool false) fun t20 =>
    GdW (isB t20 true) [undef] w2 (fun J3 =>
      nilW v0 fun t23 =>
      fldW 2 t23 fun t24 =>
      ldW false 1 t24 w2 fun t25 =>
      binW .eql t25 v2 fun t27 =>
      J3 [t27] w2)
    fun s3 _ w4 =>
    pickW t20 (s3.getD 0 undef) (.bool false) fun t28 =>
    GdW (isB t28 true) [undef] w4 (fun J5 =>
      nilW v0 fun t31 =>
      fldW 1 t31 fun t32 =>
      ldW false 1 t32 w4 fun t33 =>
      binW .eql t33 (.string (ofL [])) fun t34 =>
      J5 [t34] w4)
    fun s5 _ w6 =>
    pickW t28 (s5.getD 0 undef) (.bool false) fun t35 =>
    K t35 w6)
theorem W20_eq (v0 v1 v2 : Value) (w : World) (K : Value → World → Prop) : funW Tryz.prog Tryz.f20 plan20 [v0, v1, v2] w K = W20 v0 v1 v2 w K := by kernel_rfl
theorem W20_chk : chkFun Tryz.prog Tryz.f20 plan20 3 = true := by kernel_rfl
theorem W20_ok {v0 v1 v2 : Value} {w : World} {K : Value → World → Prop} (h : W20 v0 v1 v2 w K) : callF Tryz.prog 20 [v0, v1, v2] w K :=
  tie Tryz.prog 20 Tryz.f20 plan20 [v0, v1, v2] w K 3 (W20 v0 v1 v2 w K) rfl mixed Tryz.func20 W20_chk (W20_eq v0 v1 v2 w K) Tryz.call20 h
def plan55 : Plan := { js := [(83004, ⟨[87], [], 85⟩), (65004, ⟨[64], [], 62⟩), (34, ⟨[37], [7], 37⟩)], ds := [(86, ⟨[0, 1, 2, 4, 6, 7], [[], [], [], [2], [2, 3], [0, 1, 2, 3, 4], [0, 1, 2, 3, 4, 5], [0, 1, 2, 3, 4, 5], [0, 1, 2, 3, 4, 5, 6, 7], [0, 1, 2, 3, 4, 5, 6, 7, 8]]⟩), (78, ⟨[0, 1], [[], [], [1], [0, 1, 2], [0, 1, 2, 3]]⟩), (59, ⟨[0, 1, 2], [[], [], [1], [1, 2], [0, 1, 2, 3], [0, 1, 2, 3, 4]]⟩)] }
def W55 (v0 v1 : Value) (w : World) (K : Value → World → Prop) : Prop :=
  boxW 89 v0 w fun t2 w1 =>
  allocW 89 [(.string (ofL [])), (.int .i64 0), (.int .i64 0), (.int .i64 0), (.int .i64 0)] w1 fun t4 w2 =>
  allocW 26 [(.int .i64 0), (.bool false), (.string (ofL [])), (.slice none 0 0), (.slice none 0 0)] w2 fun t5 w3 =>
  ldW true 5 t2 w3 fun t10 =>
  callF Tryz.prog 56 [t10] w3 fun t11 w4 =>
  stW 5 t2 t11 w4 fun w5 =>
  fldW 3 t2 fun t12 =>
  ldW false 1 t12 w5 fun t13 =>
  binW .neq t13 (.int .i64 0) fun t14 =>
  condW t14 (
    ldW true 5 t2 w5 fun t15 =>
    putW [(.int .i64 0), (.bool false), (.string (ofL [])), (.slice none 0 0), (.slice none 0 0)] [] fun c6 =>
    stW 5 t4 t15 w5 fun w7 =>
    stW 5 t5 (.agg c6.toArray) w7 fun w8 =>
    ldW true 5 t4 w8 fun r9 =>
    ldW true 5 t5 w8 fun r10 =>
    K (.tuple #[r9, r10]) w8) (
    binW .gtr v1 (.int .i64 24) fun t18 =>
    condW t18 (
      ldW true 5 t2 w5 fun t19 =>
      fldW 1 t2 fun t20 =>
      ldW false 1 t20 w5 fun t21 =>
      callF Tryz.prog 57 [t19, (.int .i64 7), t21] w5 fun t22 w11 =>
      putW [(.int .i64 0), (.bool false), (.string (ofL [])), (.slice none 0 0), (.slice none 0 0)] [] fun c12 =>
      stW 5 t4 t22 w11 fun w13 =>
      stW 5 t5 (.agg c12.toArray) w13 fun w14 =>
      ldW true 5 t4 w14 fun r15 =>
      ldW true 5 t5 w14 fun r16 =>
      K (.tuple #[r15, r16]) w14) (
      fldW 2 t2 fun t24 =>
      ldW false 1 t24 w5 fun t25 =>
      binW .geq t25 (.int .i64 2000) fun t26 =>
      condW t26 (
        ldW true 5 t2 w5 fun t27 =>
        fldW 1 t2 fun t28 =>
        ldW false 1 t28 w5 fun t29 =>
        callF Tryz.prog 57 [t27, (.int .i64 3), t29] w5 fun t30 w17 =>
        putW [(.int .i64 0), (.bool false), (.string (ofL [])), (.slice none 0 0), (.slice none 0 0)] [] fun c18 =>
        stW 5 t4 t30 w17 fun w19 =>
        stW 5 t5 (.agg c18.toArray) w19 fun w20 =>
        ldW true 5 t4 w20 fun r21 =>
        ldW true 5 t5 w20 fun r22 =>
        K (.tuple #[r21, r22]) w20) (
        fldW 2 t2 fun t32 =>
        ldW false 1 t32 w5 fun t33 =>
        binW .add t33 (.int .i64 1) fun t34 =>
        fldW 2 t2 fun t35 =>
        stW 1 t35 t34 w5 fun w23 =>
        putW [(.string (ofL [])), (.string (ofL [])), (.string (ofL []))] [(0, 1, (.string (ofL [110, 117, 108, 108]))), (1, 1, (.string (ofL [116, 114, 117, 101]))), (2, 1, (.string (ofL [102, 97, 108, 115, 101])))] fun c24 =>
        LoopW [(.int .i64 0)] w23 fun s25 _ w26 L25 =>
          binW .lss (s25.getD 0 undef) (.int .i64 3) fun t38 =>
          condW t38 (
            ixgW 3 false 1 (.agg c24.toArray) (s25.getD 0 undef) fun t39 =>
            ldW true 5 t2 w26 fun t40 =>
            callF Tryz.prog 114 [t40, t39] w26 fun t42 w27 =>
            condW t42 (
              fldW 1 t2 fun t43 =>
              ldW false 1 t43 w27 fun t44 =>
              lensW t39 fun t46 =>
              binW .add t44 t46 fun t47 =>
              fldW 1 t2 fun t48 =>
              stW 1 t48 t47 w27 fun w28 =>
              binW .eql t39 (.string (ofL [110, 117, 108, 108])) fun t50 =>
              condW t50 (
                ldW true 5 t2 w28 fun t51 =>
                putW [(.int .i64 0), (.bool false), (.string (ofL [])), (.slice none 0 0), (.slice none 0 0)] [] fun c29 =>
                stW 5 t4 t51 w28 fun w30 =>
                stW 5 t5 (.agg c29.toArray) w30 fun w31 =>
                ldW true 5 t4 w31 fun r32 =>
                ldW true 5 t5 w31 fun r33 =>
                K (.tuple #[r32, r33]) w31) (
                ldW true 5 t2 w28.drew fun t53 =>
                binW .eql t39 (.string (ofL [116, 114, 117, 101])) fun t55 =>
                callF Tryz.prog 115 [t55] w28.drew fun t56 w34 =>
                (ldW true 5 t2 w34 fun x => x = t53) ∧
                stW 5 t4 t53 w34 fun w35 =>
                stW 5 t5 t56 w35 fun w36 =>
                ldW true 5 t4 w36 fun r37 =>
                ldW true 5 t5 w36 fun r38 =>
                K (.tuple #[r37, r38]) w36)) (
              binW .add (s25.getD 0 undef) (.int .i64 1) fun t57 =>
              L25 [t57] w27)) (
            ldW true 5 t2 w26 fun t58 =>
            callF Tryz.prog 116 [t58] w26 fun t59 w39 =>
            binW .eql t59 (.int .i64 45) fun t60 =>
            GdW (isB t60 false) [undef] w39 (fun J40 =>
              ldW true 5 t2 w39 fun t62 =>
              callF Tryz.prog 116 [t62] w39 fun t63 w41 =>
              callF Tryz.prog 117 [t63] w41 fun t64 w42 =>
              J40 [t64] w42)
            fun s40 _ w43 =>
            pickW t60 (.bool true) (s40.getD 0 undef) fun t65 =>
            condW t65 (
              ldW true 5 t2 w43 fun t66 =>
              callF Tryz.prog 118 [t66] w43 fun t67 w44 =>
              extW 0 t67 fun t68 =>
              extW 1 t67 fun t69 =>
              stW 5 t4 t68 w44 fun w45 =>
              stW 5 t5 t69 w45 fun w46 =>
              ldW true 5 t4 w46 fun r47 =>
              ldW true 5 t5 w46 fun r48 =>
              K (.tuple #[r47, r48]) w46) (
              ldW true 5 t2 w43 fun t70 =>
              callF Tryz.prog 116 [t70] w43 fun t71 w49 =>
              binW .eql t71 (.int .i64 34) fun t72 =>
              condW t72 (
                ldW true 5 t2 w49 fun t74 =>
                callF Tryz.prog 119 [t74] w49 fun t75 w50 =>
                extW 0 t75 fun t76 =>
                extW 1 t75 fun t77 =>
                allocW 89 [(.string (ofL [])), (.int .i64 0), (.int .i64 0), (.int .i64 0), (.int .i64 0)] w50 fun t8 w51 =>
                stW 5 t8 t76 w51 fun w52 =>
                ldW true 5 t8 w52.drew fun t78 =>
                callF Tryz.prog 120 [t77] w52.drew fun t80 w53 =>
                (ldW true 5 t8 w53 fun x => x = t78) ∧
                stW 5 t4 t78 w53 fun w54 =>
                stW 5 t5 t80 w54 fun w55 =>
                ldW true 5 t4 w55 fun r56 =>
                ldW true 5 t5 w55 fun r57 =>
                K (.tuple #[r56, r57]) w55) (
                ldW true 5 t2 w49 fun t81 =>
                callF Tryz.prog 116 [t81] w49 fun t82 w58 =>
                binW .eql t82 (.int .i64 91) fun t83 =>
                GdW (isB t83 false) [undef] w58 (fun J59 =>
                  ldW true 5 t2 w58 fun t85 =>
                  callF Tryz.prog 116 [t85] w58 fun t86 w60 =>
                  binW .eql t86 (.int .i64 123) fun t87 =>
                  J59 [t87] w60)
                fun s59 _ w61 =>
                pickW t83 (.bool true) (s59.getD 0 undef) fun t88 =>
                condW t88 (
                  ldW true 5 t2 w61.drew fun t89 =>
                  ldW true 5 t2 w61.drew fun t91 =>
                  callF Tryz.prog 116 [t91] w61.drew fun t92 w62 =>
                  (ldW true 5 t2 w62 fun x => x = t89) ∧
                  binW .eql t92 (.int .i64 123) fun t93 =>
                  callF Tryz.prog 121 [t89, v1, t93] w62 fun t94 w63 =>
                  extW 0 t94 fun t95 =>
                  extW 1 t94 fun t96 =>
                  stW 5 t4 t95 w63 fun w64 =>
                  stW 5 t5 t96 w64 fun w65 =>
                  ldW true 5 t4 w65 fun r66 =>
                  ldW true 5 t5 w65 fun r67 =>
                  K (.tuple #[r66, r67]) w65) (
                  ldW true 5 t2 w61 fun t97 =>
                  fldW 1 t2 fun t98 =>
                  ldW false 1 t98 w61 fun t99 =>
                  callF Tryz.prog 57 [t97, (.int .i64 30), t99] w61 fun t100 w68 =>
                  putW [(.int .i64 0), (.bool false), (.string (ofL [])), (.slice none 0 0), (.slice none 0 0)] [] fun c69 =>
                  stW 5 t4 t100 w68 fun w70 =>
                  stW 5 t5 (.agg c69.toArray) w70 fun w71 =>
                  ldW true 5 t4 w71 fun r72 =>
                  ldW true 5 t5 w71 fun r73 =>
                  K (.tuple #[r72, r73]) w71)))))))
theorem W55_eq (v0 v1 : Value) (w : World) (K : Value → World → Prop) : funW Tryz.prog Tryz.f55 plan55 [v0, v1] w K = W55 v0 v1 w K := by kernel_rfl
theorem W55_chk : chkFun Tryz.prog Tryz.f55 plan55 2 = true := by kernel_rfl
theorem W55_ok {v0 v1 : Value} {w : World} {K : Value → World → Prop} (h : W55 v0 v1 w K) : callF Tryz.prog 55 [v0, v1] w K :=
  tie Tryz.prog 55 Tryz.f55 plan55 [v0, v1] w K 2 (W55 v0 v1 w K) rfl mixed Tryz.func55 W55_chk (W55_eq v0 v1 w K) Tryz.call55 h
def plan56 : Plan := { js := [(7004, ⟨[19], [], 17⟩), (7009, ⟨[14], [], 12⟩), (7014, ⟨[9], [], 7⟩), (4, ⟨[], [], 3⟩)], ds := [] }
def W56 (v0 : Value) (w : World) (K : Value → World → Prop) : Prop :=
  boxW 89 v0 w fun t1 w1 =>
  allocW 89 [(.string (ofL [])), (.int .i64 0), (.int .i64 0), (.int .i64 0), (.int .i64 0)] w1 fun t2 w2 =>
  LoopW [] w2 fun s3 _ w4 L3 =>
    ldW true 5 t1 w4 fun t3 =>
    callF Tryz.prog 116 [t3] w4 fun t4 w5 =>
    binW .eql t4 (.int .i64 32) fun t5 =>
    GdW (isB t5 false) [undef] w5 (fun J6 =>
      ldW true 5 t1 w5 fun t7 =>
      callF Tryz.prog 116 [t7] w5 fun t8 w7 =>
      binW .eql t8 (.int .i64 9) fun t9 =>
      J6 [t9] w7)
    fun s6 _ w8 =>
    pickW t5 (.bool true) (s6.getD 0 undef) fun t10 =>
    GdW (isB t10 false) [undef] w8 (fun J9 =>
      ldW true 5 t1 w8 fun t12 =>
      callF Tryz.prog 116 [t12] w8 fun t13 w10 =>
      binW .eql t13 (.int .i64 10) fun t14 =>
      J9 [t14] w10)
    fun s9 _ w11 =>
    pickW t10 (.bool true) (s9.getD 0 undef) fun t15 =>
    GdW (isB t15 false) [undef] w11 (fun J12 =>
      ldW true 5 t1 w11 fun t17 =>
      callF Tryz.prog 116 [t17] w11 fun t18 w13 =>
      binW .eql t18 (.int .i64 13) fun t19 =>
      J12 [t19] w13)
    fun s12 _ w14 =>
    pickW t15 (.bool true) (s12.getD 0 undef) fun t20 =>
    condW t20 (
      fldW 1 t1 fun t21 =>
      ldW false 1 t21 w14 fun t22 =>
      binW .add t22 (.int .i64 1) fun t23 =>
      fldW 1 t1 fun t24 =>
      stW 1 t24 t23 w14 fun w15 =>
      L3 [] w15) (
      ldW true 5 t1 w14 fun t25 =>
      stW 5 t2 t25 w14 fun w16 =>
      ldW true 5 t2 w16 fun r17 =>
      K r17 w16)
theorem W56_eq (v0 : Value) (w : World) (K : Value → World → Prop) : funW Tryz.prog Tryz.f56 plan56 [v0] w K = W56 v0 w K := by kernel_rfl
theorem W56_chk : chkFun Tryz.prog Tryz.f56 plan56 1 = true := by kernel_rfl
theorem W56_ok {v0 : Value} {w : World} {K : Value → World → Prop} (h : W56 v0 w K) : callF Tryz.prog 56 [v0] w K :=
  tie Tryz.prog 56 Tryz.f56 plan56 [v0] w K 1 (W56 v0 w K) rfl mixed Tryz.func56 W56_chk (W56_eq v0 w K) Tryz.call56 h
def plan57 : Plan := { js := [(2, ⟨[], [], 7⟩)], ds := [] }
def W57 (v0 v1 v2 : Value) (w : World) (K : Value → World → Prop) : Prop :=
  boxW 89 v0 w fun t3 w1 =>
  allocW 89 [(.string (ofL [])), (.int .i64 0), (.int .i64 0), (.int .i64 0), (.int .i64 0)] w1 fun t6 w2 =>
  JoinW (fun J3 =>
    fldW 3 t3 fun t7 =>
    ldW false 1 t7 w2 fun t8 =>
    binW .eql t8 (.int .i64 0) fun t9 =>
    condW t9 (
      fldW 3 t3 fun t11 =>
      stW 1 t11 v1 w2 fun w4 =>
      fldW 4 t3 fun t13 =>
      stW 1 t13 v2 w4 fun w5 =>
      J3 [] w5) (
      J3 [] w2))
  fun s3 _ w6 =>
  ldW true 5 t3 w6 fun t14 =>
  stW 5 t6 t14 w6 fun w7 =>
  ldW true 5 t6 w7 fun r8 =>
  K r8 w7
theorem W57_eq (v0 v1 v2 : Value) (w : World) (K : Value → World → Prop) : funW Tryz.prog Tryz.f57 plan57 [v0, v1, v2] w K = W57 v0 v1 v2 w K := by kernel_rfl
theorem W57_chk : chkFun Tryz.prog Tryz.f57 plan57 3 = true := by kernel_rfl
theorem W57_ok {v0 v1 v2 : Value} {w : World} {K : Value → World → Prop} (h : W57 v0 v1 v2 w K) : callF Tryz.prog 57 [v0, v1, v2] w K :=
  tie Tryz.prog 57 Tryz.f57 plan57 [v0, v1, v2] w K 3 (W57 v0 v1 v2 w K) rfl mixed Tryz.func57 W57_chk (W57_eq v0 v1 v2 w K) Tryz.call57 h
def plan114 : Plan := { js := [(3014, ⟨[26], [], 15⟩)], ds := [] }
def W114 (v0 v1 : Value) (w : World) (K : Value → World → Prop) : Prop :=
  boxW 89 v0 w fun t2 w1 =>
  fldW 0 t2 fun t5 =>
  ldW false 1 t5 w1 fun t6 =>
  lensW t6 fun t7 =>
  fldW 1 t2 fun t8 =>
  ldW false 1 t8 w1 fun t9 =>
  binW .sub t7 t9 fun t10 =>
  lensW v1 fun t12 =>
  binW .geq t10 t12 fun t13 =>
  GdW (isB t13 true) [undef] w1 (fun J2 =>
    fldW 0 t2 fun t15 =>
    ldW false 1 t15 w1 fun t16 =>
    fldW 1 t2 fun t17 =>
    ldW false 1 t17 w1 fun t18 =>
    fldW 1 t2 fun t19 =>
    ldW false 1 t19 w1 fun t20 =>
    lensW v1 fun t22 =>
    binW .add t20 t22 fun t23 =>
    slsW t16 (some t18) (some t23) fun t24 =>
    binW .eql t24 v1 fun t26 =>
    J2 [t26] w1)
  fun s2 _ w3 =>
  pickW t13 (s2.getD 0 undef) (.bool false) fun t27 =>
  K t27 w3
theorem W114_eq (v0 v1 : Value) (w : World) (K : Value → World → Prop) : funW Tryz.prog Tryz.f114 plan114 [v0, v1] w K = W114 v0 v1 w K := by kernel_rfl
theorem W114_chk : chkFun Tryz.prog Tryz.f114 plan114 2 = true := by kernel_rfl
theorem W114_ok {v0 v1 : Value} {w : World} {K : Value → World → Prop} (h : W114 v0 v1 w K) : callF Tryz.prog 114 [v0, v1] w K :=
  tie Tryz.prog 114 Tryz.f114 plan114 [v0, v1] w K 2 (W114 v0 v1 w K) rfl mixed Tryz.func114 W114_chk (W114_eq v0 v1 w K) Tryz.call114 h
def plan116 : Plan := { js := [], ds := [] }
def W116 (v0 : Value) (w : World) (K : Value → World → Prop) : Prop :=
  boxW 89 v0 w fun t1 w1 =>
  fldW 1 t1 fun t3 =>
  ldW false 1 t3 w1 fun t4 =>
  fldW 0 t1 fun t5 =>
  ldW false 1 t5 w1 fun t6 =>
  lensW t6 fun t7 =>
  binW .geq t4 t7 fun t8 =>
  condW t8 (
    K (.int .i64 (-1)) w1) (
    fldW 0 t1 fun t9 =>
    ldW false 1 t9 w1 fun t10 =>
    fldW 1 t1 fun t11 =>
    ldW false 1 t11 w1 fun t12 =>
    ixsW t10 t12 fun t13 =>
    cvtW .i64 t13 fun t14 =>
    K t14 w1)
theorem W116_eq (v0 : Value) (w : World) (K : Value → World → Prop) : funW Tryz.prog Tryz.f116 plan116 [v0] w K = W116 v0 w K := by kernel_rfl
theorem W116_chk : chkFun Tryz.prog Tryz.f116 plan116 1 = true := by kernel_rfl
theorem W116_ok {v0 : Value} {w : World} {K : Value → World → Prop} (h : W116 v0 w K) : callF Tryz.prog 116 [v0] w K :=
  tie Tryz.prog 116 Tryz.f116 plan116 [v0] w K 1 (W116 v0 w K) rfl mixed Tryz.func116 W116_chk (W116_eq v0 w K) Tryz.call116 h
def plan117 : Plan := { js := [(3004, ⟨[7], [], 6⟩)], ds := [] }
def W117 (v0 : Value) (w : World) (K : Value → World → Prop) : Prop :=
  binW .geq v0 (.int .i64 48) fun t4 =>
  GdW (isB t4 true) [undef] w (fun J1 =>
    binW .leq v0 (.int .i64 57) fun t7 =>
    J1 [t7] w)
  fun s1 _ w2 =>
  pickW t4 (s1.getD 0 undef) (.bool false) fun t8 =>
  K t8 w2
theorem W117_eq (v0 : Value) (w : World) (K : Value → World → Prop) : funW Tryz.prog Tryz.f117 plan117 [v0] w K = W117 v0 w K := by kernel_rfl
theorem W117_chk : chkFun Tryz.prog Tryz.f117 plan117 1 = true := by kernel_rfl
theorem W117_ok {v0 : Value} {w : World} {K : Value → World → Prop} (h : W117 v0 w K) : callF Tryz.prog 117 [v0] w K :=
  tie Tryz.prog 117 Tryz.f117 plan117 [v0] w K 1 (W117 v0 w K) rfl mixed Tryz.func117 W117_chk (W117_eq v0 w K) Tryz.call117 h
def plan118 : Plan := { js := [(53, ⟨[6], [], 4⟩), (45004, ⟨[66], [], 64⟩), (45009, ⟨[61], [], 59⟩), (45014, ⟨[56], [], 54⟩), (12, ⟨[], [], 6⟩), (18, ⟨[], [], 6⟩), (4, ⟨[], [], 5⟩)], ds := [] }
def W118 (v0 : Value) (w : World) (K : Value → World → Prop) : Prop :=
  boxW 89 v0 w fun t1 w1 =>
  allocW 89 [(.string (ofL [])), (.int .i64 0), (.int .i64 0), (.int .i64 0), (.int .i64 0)] w1 fun t2 w2 =>
  allocW 26 [(.int .i64 0), (.bool false), (.string (ofL [])), (.slice none 0 0), (.slice none 0 0)] w2 fun t3 w3 =>
  fldW 1 t1 fun t7 =>
  ldW false 1 t7 w3 fun t8 =>
  JoinW (fun J4 =>
    ldW true 5 t1 w3 fun t9 =>
    callF Tryz.prog 116 [t9] w3 fun t10 w5 =>
    binW .eql t10 (.int .i64 45) fun t11 =>
    condW t11 (
      fldW 1 t1 fun t12 =>
      ldW false 1 t12 w5 fun t13 =>
      binW .add t13 (.int .i64 1) fun t14 =>
      fldW 1 t1 fun t15 =>
      stW 1 t15 t14 w5 fun w6 =>
      J4 [] w6) (
      J4 [] w5))
  fun s4 _ w7 =>
  fldW 1 t1 fun t16 =>
  ldW false 1 t16 w7 fun t17 =>
  JoinW (fun J8 =>
    ldW true 5 t1 w7 fun t18 =>
    callF Tryz.prog 116 [t18] w7 fun t19 w9 =>
    binW .eql t19 (.int .i64 48) fun t20 =>
    condW t20 (
      fldW 1 t1 fun t21 =>
      ldW false 1 t21 w9 fun t22 =>
      binW .add t22 (.int .i64 1) fun t23 =>
      fldW 1 t1 fun t24 =>
      stW 1 t24 t23 w9 fun w10 =>
      J8 [] w10) (
      LoopW [] w9 fun s11 _ w12 L11 =>
        ldW true 5 t1 w12 fun t25 =>
        callF Tryz.prog 116 [t25] w12 fun t26 w13 =>
        callF Tryz.prog 117 [t26] w13 fun t27 w14 =>
        condW t27 (
          fldW 1 t1 fun t28 =>
          ldW false 1 t28 w14 fun t29 =>
          binW .add t29 (.int .i64 1) fun t30 =>
          fldW 1 t1 fun t31 =>
          stW 1 t31 t30 w14 fun w15 =>
          L11 [] w15) (
          J8 [] w14)))
  fun s8 _ w16 =>
  fldW 1 t1 fun t32 =>
  ldW false 1 t32 w16 fun t33 =>
  binW .eql t33 t17 fun t35 =>
  condW t35 (
    ldW true 5 t1 w16 fun t36 =>
    fldW 1 t1 fun t37 =>
    ldW false 1 t37 w16 fun t38 =>
    callF Tryz.prog 57 [t36, (.int .i64 30), t38] w16 fun t39 w17 =>
    putW [(.int .i64 0), (.bool false), (.string (ofL [])), (.slice none 0 0), (.slice none 0 0)] [] fun c18 =>
    stW 5 t2 t39 w17 fun w19 =>
    stW 5 t3 (.agg c18.toArray) w19 fun w20 =>
    ldW true 5 t2 w20 fun r21 =>
    ldW true 5 t3 w20 fun r22 =>
    K (.tuple #[r21, r22]) w20) (
    fldW 1 t1 fun t41 =>
    ldW false 1 t41 w16 fun t42 =>
    binW .sub t42 t17 fun t44 =>
    binW .gtr t44 (.int .i64 100) fun t45 =>
    condW t45 (
      ldW true 5 t1 w16 fun t46 =>
      callF Tryz.prog 57 [t46, (.int .i64 3), t8] w16 fun t48 w23 =>
      putW [(.int .i64 0), (.bool false), (.string (ofL [])), (.slice none 0 0), (.slice none 0 0)] [] fun c24 =>
      stW 5 t2 t48 w23 fun w25 =>
      stW 5 t3 (.agg c24.toArray) w25 fun w26 =>
      ldW true 5 t2 w26 fun r27 =>
      ldW true 5 t3 w26 fun r28 =>
      K (.tuple #[r27, r28]) w26) (
      ldW true 5 t1 w16 fun t50 =>
      callF Tryz.prog 116 [t50] w16 fun t51 w29 =>
      callF Tryz.prog 117 [t51] w29 fun t52 w30 =>
      GdW (isB t52 false) [undef] w30 (fun J31 =>
        ldW true 5 t1 w30 fun t54 =>
        callF Tryz.prog 116 [t54] w30 fun t55 w32 =>
        binW .eql t55 (.int .i64 46) fun t56 =>
        J31 [t56] w32)
      fun s31 _ w33 =>
      pickW t52 (.bool true) (s31.getD 0 undef) fun t57 =>
      GdW (isB t57 false) [undef] w33 (fun J34 =>
        ldW true 5 t1 w33 fun t59 =>
        callF Tryz.prog 116 [t59] w33 fun t60 w35 =>
        binW .eql t60 (.int .i64 101) fun t61 =>
        J34 [t61] w35)
      fun s34 _ w36 =>
      pickW t57 (.bool true) (s34.getD 0 undef) fun t62 =>
      GdW (isB t62 false) [undef] w36 (fun J37 =>
        ldW true 5 t1 w36 fun t64 =>
        callF Tryz.prog 116 [t64] w36 fun t65 w38 =>
        binW .eql t65 (.int .i64 69) fun t66 =>
        J37 [t66] w38)
      fun s37 _ w39 =>
      pickW t62 (.bool true) (s37.getD 0 undef) fun t67 =>
      condW t67 (
        ldW true 5 t1 w39 fun t68 =>
        fldW 1 t1 fun t69 =>
        ldW false 1 t69 w39 fun t70 =>
        callF Tryz.prog 57 [t68, (.int .i64 30), t70] w39 fun t71 w40 =>
        putW [(.int .i64 0), (.bool false), (.string (ofL [])), (.slice none 0 0), (.slice none 0 0)] [] fun c41 =>
        stW 5 t2 t71 w40 fun w42 =>
        stW 5 t3 (.agg c41.toArray) w42 fun w43 =>
        ldW true 5 t2 w43 fun r44 =>
        ldW true 5 t3 w43 fun r45 =>
        K (.tuple #[r44, r45]) w43) (
        fldW 0 t1 fun t73 =>
        ldW false 1 t73 w39 fun t74 =>
        fldW 1 t1 fun t76 =>
        ldW false 1 t76 w39 fun t77 =>
        slsW t74 (some t8) (some t77) fun t78 =>
        JoinW (fun J46 =>
          binW .eql t78 (.string (ofL [45, 48])) fun t80 =>
          condW t80 (
            J46 [(.string (ofL [48]))] w39) (
            J46 [t78] w39))
        fun s46 _ w47 =>
        ldW true 5 t1 w47 fun t81 =>
        putW [(.int .i64 0), (.bool false), (.string (ofL [])), (.slice none 0 0), (.slice none 0 0)] [(0, 1, (.int .i64 3)), (2, 1, (s46.getD 0 undef))] fun c48 =>
        stW 5 t2 t81 w47 fun w49 =>
        stW 5 t3 (.agg c48.toArray) w49 fun w50 =>
        ldW true 5 t2 w50 fun r51 =>
        ldW true 5 t3 w50 fun r52 =>
        K (.tuple #[r51, r52]) w50)))
theorem W118_eq (v0 : Value) (w : World) (K : Value → World → Prop) : funW Tryz.prog Tryz.f118 plan118 [v0] w K = W118 v0 w K := by kernel_rfl
theorem W118_chk : chkFun Tryz.prog Tryz.f118 plan118 1 = true := by kernel_rfl
theorem W118_ok {v0 : Value} {w : World} {K : Value → World → Prop} (h : W118 v0 w K) : callF Tryz.prog 118 [v0] w K :=
  tie Tryz.prog 118 Tryz.f118 plan118 [v0] w K 1 (W118 v0 w K) rfl mixed Tryz.func118 W118_chk (W118_eq v0 w K) Tryz.call118 h
def plan119 : Plan := { js := [(10, ⟨[5], [3], 5⟩)], ds := [(73, ⟨[0, 1, 2, 4], [[], [], [1], [0], [0, 1, 2, 3]]⟩)] }
def W119 (v0 : Value) (w : World) (K : Value → World → Prop) : Prop :=
  boxW 89 v0 w fun t1 w1 =>
  allocW 89 [(.string (ofL [])), (.int .i64 0), (.int .i64 0), (.int .i64 0), (.int .i64 0)] w1 fun t2 w2 =>
  fldW 1 t1 fun t9 =>
  ldW false 1 t9 w2 fun t10 =>
  fldW 1 t1 fun t11 =>
  ldW false 1 t11 w2 fun t12 =>
  binW .add t12 (.int .i64 1) fun t13 =>
  fldW 1 t1 fun t14 =>
  stW 1 t14 t13 w2 fun w3 =>
  LoopW [(.slice none 0 0)] w3 fun s4 _ w5 L4 =>
    ldW true 5 t1 w5 fun t15 =>
    callF Tryz.prog 116 [t15] w5 fun t16 w6 =>
    binW .neq t16 (.int .i64 34) fun t17 =>
    condW t17 (
      fldW 0 t1 fun t18 =>
      ldW false 1 t18 w6 fun t19 =>
      fldW 1 t1 fun t20 =>
      ldW false 1 t20 w6 fun t21 =>
      callF Tryz.prog 127 [t19, t21] w6 fun t22 w7 =>
      ldW true 5 t1 w7 fun t24 =>
      callF Tryz.prog 116 [t24] w7 fun t25 w8 =>
      binW .lss t25 (.int .i64 0) fun t26 =>
      condW t26 (
        ldW true 5 t1 w8 fun t27 =>
        fldW 0 t1 fun t28 =>
        ldW false 1 t28 w8 fun t29 =>
        lensW t29 fun t30 =>
        callF Tryz.prog 57 [t27, (.int .i64 30), t30] w8 fun t31 w9 =>
        stW 5 t2 t31 w9 fun w10 =>
        ldW true 5 t2 w10 fun r11 =>
        K (.tuple #[r11, (.string (ofL []))]) w10) (
        ldW true 5 t1 w8 fun t33 =>
        callF Tryz.prog 116 [t33] w8 fun t34 w12 =>
        binW .eql t34 (.int .i64 92) fun t35 =>
        condW t35 (
          fldW 0 t1 fun t37 =>
          ldW false 1 t37 w12 fun t38 =>
          fldW 1 t1 fun t39 =>
          ldW false 1 t39 w12 fun t40 =>
          callF Tryz.prog 164 [t38, t40] w12 fun t41 w13 =>
          extW 0 t41 fun t42 =>
          extW 1 t41 fun t43 =>
          binW .eql t43 (.int .i64 0) fun t45 =>
          condW t45 (
            ldW true 5 t1 w13 fun t46 =>
            fldW 1 t1 fun t47 =>
            ldW false 1 t47 w13 fun t48 =>
            callF Tryz.prog 57 [t46, (.int .i64 30), t48] w13 fun t49 w14 =>
            stW 5 t2 t49 w14 fun w15 =>
            ldW true 5 t2 w15 fun r16 =>
            K (.tuple #[r16, (.string (ofL []))]) w15) (
            semE Tryz.prog (Builtin.append_ #[44, 9] 44 #[(s4.getD 0 undef), t42]) w13 fun t52 w17 =>
            fldW 1 t1 fun t53 =>
            ldW false 1 t53 w17 fun t54 =>
            binW .add t54 t43 fun t56 =>
            fldW 1 t1 fun t57 =>
            stW 1 t57 t56 w17 fun w18 =>
            L4 [t52] w18)) (
          ldW true 5 t1 w12 fun t59 =>
          callF Tryz.prog 116 [t59] w12 fun t60 w19 =>
          binW .lss t60 (.int .i64 32) fun t61 =>
          condW t61 (
            ldW true 5 t1 w19 fun t62 =>
            fldW 1 t1 fun t63 =>
            ldW false 1 t63 w19 fun t64 =>
            callF Tryz.prog 57 [t62, (.int .i64 30), t64] w19 fun t65 w20 =>
            stW 5 t2 t65 w20 fun w21 =>
            ldW true 5 t2 w21 fun r22 =>
            K (.tuple #[r22, (.string (ofL []))]) w21) (
            binW .eql t22 (.int .i64 0) fun t68 =>
            condW t68 (
              ldW true 5 t1 w19 fun t69 =>
              fldW 1 t1 fun t70 =>
              ldW false 1 t70 w19 fun t71 =>
              callF Tryz.prog 57 [t69, (.int .i64 31), t71] w19 fun t72 w23 =>
              stW 5 t2 t72 w23 fun w24 =>
              ldW true 5 t2 w24 fun r25 =>
              K (.tuple #[r25, (.string (ofL []))]) w24) (
              fldW 0 t1 fun t74 =>
              ldW false 1 t74 w19 fun t75 =>
              fldW 1 t1 fun t76 =>
              ldW false 1 t76 w19 fun t77 =>
              fldW 1 t1 fun t78 =>
              ldW false 1 t78 w19 fun t79 =>
              binW .add t79 t22 fun t81 =>
              slsW t75 (some t77) (some t81) fun t82 =>
              semE Tryz.prog (Builtin.append_ #[44, 9] 44 #[(s4.getD 0 undef), t82]) w19 fun t83 w26 =>
              fldW 1 t1 fun t84 =>
              ldW false 1 t84 w26 fun t85 =>
              binW .add t85 t22 fun t87 =>
              fldW 1 t1 fun t88 =>
              stW 1 t88 t87 w26 fun w27 =>
              L4 [t83] w27))))) (
      fldW 1 t1 fun t89 =>
      ldW false 1 t89 w6 fun t90 =>
      binW .add t90 (.int .i64 1) fun t91 =>
      fldW 1 t1 fun t92 =>
      stW 1 t92 t91 w6 fun w28 =>
      lenlW (s4.getD 0 undef) fun t94 =>
      binW .gtr t94 (.int .i64 16384) fun t95 =>
      condW t95 (
        ldW true 5 t1 w28 fun t96 =>
        callF Tryz.prog 57 [t96, (.int .i64 3), t10] w28 fun t98 w29 =>
        stW 5 t2 t98 w29 fun w30 =>
        ldW true 5 t2 w30 fun r31 =>
        K (.tuple #[r31, (.string (ofL []))]) w30) (
        ldW true 5 t1 w28.drew fun t99 =>
        semQ Tryz.prog (convert 44 9 (s4.getD 0 undef)) w28.drew fun t101 =>
        stW 5 t2 t99 w28.drew fun w32 =>
        (semQ Tryz.prog (convert 44 9 (s4.getD 0 undef)) w32 fun x => x = t101) ∧
        ldW true 5 t2 w32 fun r33 =>
        K (.tuple #[r33, t101]) w32))
theorem W119_eq (v0 : Value) (w : World) (K : Value → World → Prop) : funW Tryz.prog Tryz.f119 plan119 [v0] w K = W119 v0 w K := by kernel_rfl
theorem W119_chk : chkFun Tryz.prog Tryz.f119 plan119 1 = true := by kernel_rfl
theorem W119_ok {v0 : Value} {w : World} {K : Value → World → Prop} (h : W119 v0 w K) : callF Tryz.prog 119 [v0] w K :=
  tie Tryz.prog 119 Tryz.f119 plan119 [v0] w K 1 (W119 v0 w K) rfl mixed Tryz.func119 W119_chk (W119_eq v0 w K) Tryz.call119 h
def plan121 : Plan := { js := [(82, ⟨[], [], 10⟩), (40, ⟨[10], [], 10⟩), (60005, ⟨[60], [], 57⟩), (30, ⟨[], [], 10⟩), (6, ⟨[9], [], 9⟩)], ds := [(97, ⟨[0, 1], [[], [], [0], [0, 1, 2]]⟩), (25, ⟨[0, 1], [[], [], [0], [0, 1, 2]]⟩)] }
def W121 (v0 v1 v2 : Value) (w : World) (K : Value → World → Prop) : Prop :=
  boxW 89 v0 w fun t3 w1 =>
  allocW 89 [(.string (ofL [])), (.int .i64 0), (.int .i64 0), (.int .i64 0), (.int .i64 0)] w1 fun t6 w2 =>
  allocW 26 [(.int .i64 0), (.bool false), (.string (ofL [])), (.slice none 0 0), (.slice none 0 0)] w2 fun t7 w3 =>
  putW [(.int .i64 0), (.bool false), (.string (ofL [])), (.slice none 0 0), (.slice none 0 0)] [(0, 1, (.int .i64 5))] fun c4 =>
  allocW 26 [(.int .i64 0), (.bool false), (.string (ofL [])), (.slice none 0 0), (.slice none 0 0)] w3 fun t8 w5 =>
  stW 5 t8 (.agg c4.toArray) w5 fun w6 =>
  JoinW (fun J7 =>
    condW v2 (
      fldW 0 t8 fun t15 =>
      stW 1 t15 (.int .i64 6) w6 fun w8 =>
      J7 [(.int .i64 125)] w8) (
      J7 [(.int .i64 93)] w6))
  fun s7 _ w9 =>
  fldW 1 t3 fun t16 =>
  ldW false 1 t16 w9 fun t17 =>
  binW .add t17 (.int .i64 1) fun t18 =>
  fldW 1 t3 fun t19 =>
  stW 1 t19 t18 w9 fun w10 =>
  ldW true 5 t3 w10 fun t20 =>
  callF Tryz.prog 56 [t20] w10 fun t21 w11 =>
  stW 5 t3 t21 w11 fun w12 =>
  ldW true 5 t3 w12 fun t22 =>
  callF Tryz.prog 116 [t22] w12 fun t23 w13 =>
  binW .eql t23 (s7.getD 0 undef) fun t25 =>
  condW t25 (
    fldW 1 t3 fun t26 =>
    ldW false 1 t26 w13 fun t27 =>
    binW .add t27 (.int .i64 1) fun t28 =>
    fldW 1 t3 fun t29 =>
    stW 1 t29 t28 w13 fun w14 =>
    ldW true 5 t3 w14.drew fun t30 =>
    ldW true 5 t8 w14.drew fun t31 =>
    stW 5 t6 t30 w14.drew fun w15 =>
    (ldW true 5 t8 w15 fun x => x = t31) ∧
    stW 5 t7 t31 w15 fun w16 =>
    ldW true 5 t6 w16 fun r17 =>
    ldW true 5 t7 w16 fun r18 =>
    K (.tuple #[r17, r18]) w16) (
    LoopW [] w13 fun s19 _ w20 L19 =>
      fldW 3 t3 fun t32 =>
      ldW false 1 t32 w20 fun t33 =>
      binW .eql t33 (.int .i64 0) fun t34 =>
      condW t34 (
        JoinW (fun J21 =>
          condW v2 (
            ldW true 5 t3 w20 fun t36 =>
            callF Tryz.prog 56 [t36] w20 fun t37 w22 =>
            stW 5 t3 t37 w22 fun w23 =>
            fldW 1 t3 fun t38 =>
            ldW false 1 t38 w23 fun t39 =>
            ldW true 5 t3 w23 fun t40 =>
            callF Tryz.prog 116 [t40] w23 fun t41 w24 =>
            binW .neq t41 (.int .i64 34) fun t42 =>
            condW t42 (
              ldW true 5 t3 w24 fun t43 =>
              fldW 1 t3 fun t44 =>
              ldW false 1 t44 w24 fun t45 =>
              callF Tryz.prog 57 [t43, (.int .i64 30), t45] w24 fun t46 w25 =>
              putW [(.int .i64 0), (.bool false), (.string (ofL [])), (.slice none 0 0), (.slice none 0 0)] [] fun c26 =>
              stW 5 t6 t46 w25 fun w27 =>
              stW 5 t7 (.agg c26.toArray) w27 fun w28 =>
              ldW true 5 t6 w28 fun r29 =>
              ldW true 5 t7 w28 fun r30 =>
              K (.tuple #[r29, r30]) w28) (
              ldW true 5 t3 w24 fun t49 =>
              callF Tryz.prog 119 [t49] w24 fun t50 w31 =>
              extW 0 t50 fun t51 =>
              extW 1 t50 fun t52 =>
              stW 5 t3 t51 w31 fun w32 =>
              fldW 3 t3 fun t53 =>
              ldW false 1 t53 w32 fun t54 =>
              binW .eql t54 (.int .i64 0) fun t55 =>
              GdW (isB t55 true) [undef] w32 (fun J33 =>
                ldW true 5 t8 w32 fun t57 =>
                callF Tryz.prog 165 [t57, t52] w32 fun t59 w34 =>
                binW .geq t59 (.int .i64 0) fun t60 =>
                J33 [t60] w34)
              fun s33 _ w35 =>
              pickW t55 (s33.getD 0 undef) (.bool false) fun t61 =>
              condW t61 (
                ldW true 5 t3 w35 fun t62 =>
                callF Tryz.prog 57 [t62, (.int .i64 2), t39] w35 fun t64 w36 =>
                putW [(.int .i64 0), (.bool false), (.string (ofL [])), (.slice none 0 0), (.slice none 0 0)] [] fun c37 =>
                stW 5 t6 t64 w36 fun w38 =>
                stW 5 t7 (.agg c37.toArray) w38 fun w39 =>
                ldW true 5 t6 w39 fun r40 =>
                ldW true 5 t7 w39 fun r41 =>
                K (.tuple #[r40, r41]) w39) (
                ldW true 5 t3 w35 fun t66 =>
                callF Tryz.prog 56 [t66] w35 fun t67 w42 =>
                stW 5 t3 t67 w42 fun w43 =>
                ldW true 5 t3 w43 fun t68 =>
                callF Tryz.prog 116 [t68] w43 fun t69 w44 =>
                binW .neq t69 (.int .i64 58) fun t70 =>
                condW t70 (
                  ldW true 5 t3 w44 fun t71 =>
                  fldW 1 t3 fun t72 =>
                  ldW false 1 t72 w44 fun t73 =>
                  callF Tryz.prog 57 [t71, (.int .i64 30), t73] w44 fun t74 w45 =>
                  putW [(.int .i64 0), (.bool false), (.string (ofL [])), (.slice none 0 0), (.slice none 0 0)] [] fun c46 =>
                  stW 5 t6 t74 w45 fun w47 =>
                  stW 5 t7 (.agg c46.toArray) w47 fun w48 =>
                  ldW true 5 t6 w48 fun r49 =>
                  ldW true 5 t7 w48 fun r50 =>
                  K (.tuple #[r49, r50]) w48) (
                  fldW 1 t3 fun t76 =>
                  ldW false 1 t76 w44 fun t77 =>
                  binW .add t77 (.int .i64 1) fun t78 =>
                  fldW 1 t3 fun t79 =>
                  stW 1 t79 t78 w44 fun w51 =>
                  J21 [t52] w51)))) (
            J21 [(.string (ofL []))] w20))
        fun s21 _ w52 =>
        putW [(.int .i64 0), (.bool false), (.string (ofL [])), (.slice none 0 0), (.slice none 0 0)] [] fun c53 =>
        allocW 26 [(.int .i64 0), (.bool false), (.string (ofL [])), (.slice none 0 0), (.slice none 0 0)] w52 fun t12 w54 =>
        stW 5 t12 (.agg c53.toArray) w54 fun w55 =>
        ldW true 5 t3 w55 fun t82 =>
        binW .add v1 (.int .i64 1) fun t84 =>
        callF Tryz.prog 55 [t82, t84] w55 fun t85 w56 =>
        extW 0 t85 fun t86 =>
        extW 1 t85 fun t87 =>
        stW 5 t3 t86 w56 fun w57 =>
        stW 5 t12 t87 w57 fun w58 =>
        JoinW (fun J59 =>
          condW v2 (
            ldW true 5 t8 w58 fun t89 =>
            ldW true 5 t12 w58 fun t91 =>
            callF Tryz.prog 62 [t89, (s21.getD 0 undef), t91] w58 fun t92 w60 =>
            stW 5 t8 t92 w60 fun w61 =>
            J59 [] w61) (
            fldW 3 t8 fun t93 =>
            ldW false 1 t93 w58 fun t94 =>
            ldW true 5 t12 w58 fun t95 =>
            bslW 26 1 [(.int .i64 0), (.bool false), (.string (ofL [])), (.slice none 0 0), (.slice none 0 0)] [(0, 5, t95)] w58 fun t96 w62 =>
            semE Tryz.prog (Builtin.append_ #[23, 23] 23 #[t94, t96]) w62 fun t97 w63 =>
            fldW 3 t8 fun t98 =>
            stW 1 t98 t97 w63 fun w64 =>
            J59 [] w64))
        fun s59 _ w65 =>
        ldW true 5 t3 w65 fun t99 =>
        callF Tryz.prog 56 [t99] w65 fun t100 w66 =>
        stW 5 t3 t100 w66 fun w67 =>
        ldW true 5 t3 w67 fun t101 =>
        callF Tryz.prog 116 [t101] w67 fun t102 w68 =>
        binW .eql t102 (s7.getD 0 undef) fun t104 =>
        condW t104 (
          fldW 1 t3 fun t105 =>
          ldW false 1 t105 w68 fun t106 =>
          binW .add t106 (.int .i64 1) fun t107 =>
          fldW 1 t3 fun t108 =>
          stW 1 t108 t107 w68 fun w69 =>
          ldW true 5 t3 w69.drew fun t109 =>
          ldW true 5 t8 w69.drew fun t110 =>
          stW 5 t6 t109 w69.drew fun w70 =>
          (ldW true 5 t8 w70 fun x => x = t110) ∧
          stW 5 t7 t110 w70 fun w71 =>
          ldW true 5 t6 w71 fun r72 =>
          ldW true 5 t7 w71 fun r73 =>
          K (.tuple #[r72, r73]) w71) (
          ldW true 5 t3 w68 fun t111 =>
          callF Tryz.prog 116 [t111] w68 fun t112 w74 =>
          binW .neq t112 (.int .i64 44) fun t113 =>
          condW t113 (
            ldW true 5 t3 w74 fun t114 =>
            fldW 1 t3 fun t115 =>
            ldW false 1 t115 w74 fun t116 =>
            callF Tryz.prog 57 [t114, (.int .i64 30), t116] w74 fun t117 w75 =>
            putW [(.int .i64 0), (.bool false), (.string (ofL [])), (.slice none 0 0), (.slice none 0 0)] [] fun c76 =>
            stW 5 t6 t117 w75 fun w77 =>
            stW 5 t7 (.agg c76.toArray) w77 fun w78 =>
            ldW true 5 t6 w78 fun r79 =>
            ldW true 5 t7 w78 fun r80 =>
            K (.tuple #[r79, r80]) w78) (
            fldW 1 t3 fun t119 =>
            ldW false 1 t119 w74 fun t120 =>
            binW .add t120 (.int .i64 1) fun t121 =>
            fldW 1 t3 fun t122 =>
            stW 1 t122 t121 w74 fun w81 =>
            L19 [] w81))) (
        ldW true 5 t3 w20 fun t123 =>
        putW [(.int .i64 0), (.bool false), (.string (ofL [])), (.slice none 0 0), (.slice none 0 0)] [] fun c82 =>
        stW 5 t6 t123 w20 fun w83 =>
        stW 5 t7 (.agg c82.toArray) w83 fun w84 =>
        ldW true 5 t6 w84 fun r85 =>
        ldW true 5 t7 w84 fun r86 =>
        K (.tuple #[r85, r86]) w84))
theorem W121_eq (v0 v1 v2 : Value) (w : World) (K : Value → World → Prop) : funW Tryz.prog Tryz.f121 plan121 [v0, v1, v2] w K = W121 v0 v1 v2 w K := by kernel_rfl
theorem W121_chk : chkFun Tryz.prog Tryz.f121 plan121 3 = true := by kernel_rfl
theorem W121_ok {v0 v1 v2 : Value} {w : World} {K : Value → World → Prop} (h : W121 v0 v1 v2 w K) : callF Tryz.prog 121 [v0, v1, v2] w K :=
  tie Tryz.prog 121 Tryz.f121 plan121 [v0, v1, v2] w K 3 (W121 v0 v1 v2 w K) rfl mixed Tryz.func121 W121_chk (W121_eq v0 v1 v2 w K) Tryz.call121 h
def plan164 : Plan := { js := [(45003, ⟨[62], [], 61⟩), (41003, ⟨[56], [], 55⟩), (33002, ⟨[50], [], 45⟩), (33004, ⟨[49], [], 48⟩), (33007, ⟨[47], [], 45⟩), (2, ⟨[], [], 2⟩), (11, ⟨[8], [4, 5], 8⟩)], ds := [(21, ⟨[0, 1, 2, 3, 4, 5, 6, 7], [[], [], [1], [0, 1, 2], [], [], [4, 5], [0, 1, 2, 3, 4, 5, 6]]⟩)] }
def W164 (v0 v1 : Value) (w : World) (K : Value → World → Prop) : Prop :=
  JoinW (fun J1 =>
    binW .add v1 (.int .i64 1) fun t12 =>
    lensW v0 fun t14 =>
    binW .lss t12 t14 fun t15 =>
    condW t15 (
      LoopW [(.int .i64 0)] w fun s2 _ w3 L2 =>
        lensW (.string (ofL [34, 92, 47, 98, 102, 110, 114, 116])) fun t18 =>
        binW .lss (s2.getD 0 undef) t18 fun t19 =>
        condW t19 (
          binW .add v1 (.int .i64 1) fun t24 =>
          ixsW v0 t24 fun t25 =>
          ixsW (.string (ofL [34, 92, 47, 98, 102, 110, 114, 116])) (s2.getD 0 undef) fun t28 =>
          binW .eql t25 t28 fun t29 =>
          condW t29 (
            binW .add (s2.getD 0 undef) (.int .i64 1) fun t33 =>
            slsW (.string (ofL [34, 92, 47, 8, 12, 10, 13, 9])) (some (s2.getD 0 undef)) (some t33) fun t34 =>
            K (.tuple #[t34, (.int .i64 2)]) w3.drew) (
            binW .add (s2.getD 0 undef) (.int .i64 1) fun t21 =>
            L2 [t21] w3.drew)) (
          J1 [] w3)) (
      J1 [] w))
  fun s1 _ w4 =>
  callF Tryz.prog 191 [v0, v1] w4 fun t37 w5 =>
  binW .add v1 (.int .i64 6) fun t40 =>
  callF Tryz.prog 191 [v0, t40] w5 fun t41 w6 =>
  binW .lss t37 (.int .i64 0) fun t43 =>
  GdW (isB t43 false) [undef] w6 (fun J7 =>
    binW .geq t37 (.int .i64 56320) fun t46 =>
    J7 [t46] w6)
  fun s7 _ w8 =>
  GdW (isB (s7.getD 0 undef) true) [undef] w8 (fun J9 =>
    binW .leq t37 (.int .i64 57343) fun t49 =>
    J9 [t49] w8)
  fun s9 _ w10 =>
  GdW (isB t43 false) [undef] w10 (fun J11 =>
    pickW (s7.getD 0 undef) (s9.getD 0 undef) (.bool false) fun t50 =>
    J11 [t50] w10)
  fun s11 _ w12 =>
  pickW t43 (.bool true) (s11.getD 0 undef) fun t51 =>
  condW t51 (
    K (.tuple #[(.string (ofL [])), (.int .i64 0)]) w12) (
    binW .geq t37 (.int .i64 55296) fun t53 =>
    GdW (isB t53 true) [undef] w12 (fun J13 =>
      binW .leq t37 (.int .i64 56319) fun t56 =>
      J13 [t56] w12)
    fun s13 _ w14 =>
    pickW t53 (s13.getD 0 undef) (.bool false) fun t57 =>
    condW t57 (
      binW .lss t41 (.int .i64 56320) fun t59 =>
      GdW (isB t59 false) [undef] w14 (fun J15 =>
        binW .gtr t41 (.int .i64 57343) fun t62 =>
        J15 [t62] w14)
      fun s15 _ w16 =>
      pickW t59 (.bool true) (s15.getD 0 undef) fun t63 =>
      condW t63 (
        K (.tuple #[(.string (ofL [])), (.int .i64 0)]) w16) (
        binW .sub t37 (.int .i64 55296) fun t65 =>
        binW .mul t65 (.int .i64 1024) fun t66 =>
        binW .add (.int .i64 65536) t66 fun t67 =>
        binW .add t67 t41 fun t69 =>
        binW .sub t69 (.int .i64 56320) fun t70 =>
        callF Tryz.prog 192 [t70] w16 fun t71 w17 =>
        K (.tuple #[t71, (.int .i64 12)]) w17)) (
      callF Tryz.prog 192 [t37] w14 fun t73 w18 =>
      K (.tuple #[t73, (.int .i64 6)]) w18))
theorem W164_eq (v0 v1 : Value) (w : World) (K : Value → World → Prop) : funW Tryz.prog Tryz.f164 plan164 [v0, v1] w K = W164 v0 v1 w K := by kernel_rfl
theorem W164_chk : chkFun Tryz.prog Tryz.f164 plan164 2 = true := by kernel_rfl
theorem W164_ok {v0 v1 : Value} {w : World} {K : Value → World → Prop} (h : W164 v0 v1 w K) : callF Tryz.prog 164 [v0, v1] w K :=
  tie Tryz.prog 164 Tryz.f164 plan164 [v0, v1] w K 2 (W164 v0 v1 w K) rfl mixed Tryz.func164 W164_chk (W164_eq v0 v1 w K) Tryz.call164 h
def plan191 : Plan := { js := [(27, ⟨[7], [4], 7⟩), (37003, ⟨[59], [], 58⟩), (33003, ⟨[50], [], 49⟩), (29003, ⟨[42], [], 41⟩), (16, ⟨[5, 6], [], 2⟩), (4006, ⟨[24], [], 20⟩), (4012, ⟨[17], [], 14⟩)], ds := [] }
def W191 (v0 v1 : Value) (w : World) (K : Value → World → Prop) : Prop :=
  binW .add v1 (.int .i64 6) fun t9 =>
  lensW v0 fun t11 =>
  binW .gtr t9 t11 fun t12 =>
  GdW (isB t12 false) [undef] w (fun J1 =>
    ixsW v0 v1 fun t16 =>
    binW .neq t16 (.int .u8 92) fun t17 =>
    J1 [t17] w)
  fun s1 _ w2 =>
  pickW t12 (.bool true) (s1.getD 0 undef) fun t18 =>
  GdW (isB t18 false) [undef] w2 (fun J3 =>
    binW .add v1 (.int .i64 1) fun t22 =>
    ixsW v0 t22 fun t23 =>
    binW .neq t23 (.int .u8 117) fun t24 =>
    J3 [t24] w2)
  fun s3 _ w4 =>
  pickW t18 (.bool true) (s3.getD 0 undef) fun t25 =>
  condW t25 (
    K (.int .i64 (-1)) w4) (
    binW .add v1 (.int .i64 2) fun t27 =>
    LoopW [(.int .i64 0), t27] w4 fun s5 _ w6 L5 =>
      binW .add v1 (.int .i64 6) fun t30 =>
      binW .lss (s5.getD 1 undef) t30 fun t31 =>
      condW t31 (
        ixsW v0 (s5.getD 1 undef) fun t36 =>
        cvtW .i64 t36 fun t37 =>
        JoinW (fun J7 =>
          binW .geq t37 (.int .i64 48) fun t39 =>
          GdW (isB t39 true) [undef] w6 (fun J8 =>
            binW .leq t37 (.int .i64 57) fun t42 =>
            J8 [t42] w6)
          fun s8 _ w9 =>
          pickW t39 (s8.getD 0 undef) (.bool false) fun t43 =>
          condW t43 (
            binW .sub t37 (.int .i64 48) fun t45 =>
            J7 [t45] w9) (
            binW .geq t37 (.int .i64 97) fun t47 =>
            GdW (isB t47 true) [undef] w9 (fun J10 =>
              binW .leq t37 (.int .i64 102) fun t50 =>
              J10 [t50] w9)
            fun s10 _ w11 =>
            pickW t47 (s10.getD 0 undef) (.bool false) fun t51 =>
            condW t51 (
              binW .sub t37 (.int .i64 97) fun t53 =>
              binW .add t53 (.int .i64 10) fun t54 =>
              J7 [t54] w11) (
              binW .geq t37 (.int .i64 65) fun t56 =>
              GdW (isB t56 true) [undef] w11 (fun J12 =>
                binW .leq t37 (.int .i64 70) fun t59 =>
                J12 [t59] w11)
              fun s12 _ w13 =>
              pickW t56 (s12.getD 0 undef) (.bool false) fun t60 =>
              condW t60 (
                binW .sub t37 (.int .i64 65) fun t62 =>
                binW .add t62 (.int .i64 10) fun t63 =>
                J7 [t63] w13) (
                K (.int .i64 (-1)) w13))))
        fun s7 _ w14 =>
        binW .mul (s5.getD 0 undef) (.int .i64 16) fun t65 =>
        binW .add t65 (s7.getD 0 undef) fun t67 =>
        binW .add (s5.getD 1 undef) (.int .i64 1) fun t33 =>
        L5 [t67, t33] w14) (
        K (s5.getD 0 undef) w6))
theorem W191_eq (v0 v1 : Value) (w : World) (K : Value → World → Prop) : funW Tryz.prog Tryz.f191 plan191 [v0, v1] w K = W191 v0 v1 w K := by kernel_rfl
theorem W191_chk : chkFun Tryz.prog Tryz.f191 plan191 2 = true := by kernel_rfl
theorem W191_ok {v0 v1 : Value} {w : World} {K : Value → World → Prop} (h : W191 v0 v1 w K) : callF Tryz.prog 191 [v0, v1] w K :=
  tie Tryz.prog 191 Tryz.f191 plan191 [v0, v1] w K 2 (W191 v0 v1 w K) rfl mixed Tryz.func191 W191_chk (W191_eq v0 v1 w K) Tryz.call191 h
def plan192 : Plan := { js := [], ds := [] }
def W192 (v0 : Value) (w : World) (K : Value → World → Prop) : Prop :=
  binW .lss v0 (.int .i64 128) fun t4 =>
  condW t4 (
    cvtW .u8 v0 fun t6 =>
    bslW 5 1 [(.int .u8 0)] [(0, 1, t6)] w fun t7 w1 =>
    semQ Tryz.prog (convert 44 9 t7) w1 fun t8 =>
    K t8 w1) (
    binW .lss v0 (.int .i64 2048) fun t10 =>
    condW t10 (
      binW .quo v0 (.int .i64 64) fun t12 =>
      binW .add (.int .i64 192) t12 fun t13 =>
      cvtW .u8 t13 fun t14 =>
      binW .rem v0 (.int .i64 64) fun t16 =>
      binW .add (.int .i64 128) t16 fun t17 =>
      cvtW .u8 t17 fun t18 =>
      bslW 5 2 [(.int .u8 0), (.int .u8 0)] [(0, 1, t14), (1, 1, t18)] w fun t19 w2 =>
      semQ Tryz.prog (convert 44 9 t19) w2 fun t20 =>
      K t20 w2) (
      binW .lss v0 (.int .i64 65536) fun t22 =>
      condW t22 (
        binW .quo v0 (.int .i64 4096) fun t24 =>
        binW .add (.int .i64 224) t24 fun t25 =>
        cvtW .u8 t25 fun t26 =>
        binW .quo v0 (.int .i64 64) fun t28 =>
        binW .rem t28 (.int .i64 64) fun t29 =>
        binW .add (.int .i64 128) t29 fun t30 =>
        cvtW .u8 t30 fun t31 =>
        binW .rem v0 (.int .i64 64) fun t33 =>
        binW .add (.int .i64 128) t33 fun t34 =>
        cvtW .u8 t34 fun t35 =>
        bslW 5 3 [(.int .u8 0), (.int .u8 0), (.int .u8 0)] [(0, 1, t26), (1, 1, t31), (2, 1, t35)] w fun t36 w3 =>
        semQ Tryz.prog (convert 44 9 t36) w3 fun t37 =>
        K t37 w3) (
        binW .quo v0 (.int .i64 262144) fun t39 =>
        binW .add (.int .i64 240) t39 fun t40 =>
        cvtW .u8 t40 fun t41 =>
        binW .quo v0 (.int .i64 4096) fun t43 =>
        binW .rem t43 (.int .i64 64) fun t44 =>
        binW .add (.int .i64 128) t44 fun t45 =>
        cvtW .u8 t45 fun t46 =>
        binW .quo v0 (.int .i64 64) fun t48 =>
        binW .rem t48 (.int .i64 64) fun t49 =>
        binW .add (.int .i64 128) t49 fun t50 =>
        cvtW .u8 t50 fun t51 =>
        binW .rem v0 (.int .i64 64) fun t53 =>
        binW .add (.int .i64 128) t53 fun t54 =>
        cvtW .u8 t54 fun t55 =>
        bslW 5 4 [(.int .u8 0), (.int .u8 0), (.int .u8 0), (.int .u8 0)] [(0, 1, t41), (1, 1, t46), (2, 1, t51), (3, 1, t55)] w fun t56 w4 =>
        semQ Tryz.prog (convert 44 9 t56) w4 fun t57 =>
        K t57 w4)))
theorem W192_eq (v0 : Value) (w : World) (K : Value → World → Prop) : funW Tryz.prog Tryz.f192 plan192 [v0] w K = W192 v0 w K := by kernel_rfl
theorem W192_chk : chkFun Tryz.prog Tryz.f192 plan192 1 = true := by kernel_rfl
theorem W192_ok {v0 : Value} {w : World} {K : Value → World → Prop} (h : W192 v0 w K) : callF Tryz.prog 192 [v0] w K :=
  tie Tryz.prog 192 Tryz.f192 plan192 [v0] w K 1 (W192 v0 w K) rfl mixed Tryz.func192 W192_chk (W192_eq v0 w K) Tryz.call192 h
end Go.Proofs.YtcnjpcadejcenaaGreatDoor
namespace Go.Proofs.YtcnjpcadejcenaaGreatDoor
open Go Go.Eng Go.RowKit
set_option maxRecDepth 100000
def valR : RR JV → JV
  | .ok v _ _ => v
  | .bad _ _ => JV.null
def okR : RR JV → Bool
  | .ok _ _ _ => true
  | .bad _ _ => false
def isM (r : RR JV) (code at_ : Int) : Bool :=
  match r with
  | .ok _ _ _ => decide (code = 0)
  | .bad e i => decide (code ≠ 0) && decide (e = code) && decide ((i : Int) = at_)
def DRep (w : World) (d : Value) : RR JV → Prop
  | .ok _ _ _ => d = .pointer none
  | .bad e i => ∃ b, d = .pointer (some ⟨b, 0, none⟩) ∧ w.heap[b]? = some (.cells [i64 e, str [], i64 (i : Nat)].toArray DgT (0, 0))
theorem DRep.ext {w w' : World} {d : Value} {r : RR JV} (h : DRep w d r) (hx : Ext w w') : DRep w' d r := by
  cases r with
  | ok v j c => exact h
  | bad e i => obtain ⟨b, h1, h2⟩ := h; exact ⟨b, h1, hx.at h2 id⟩
section
variable [HX]
theorem DRep.eq {w : World} {d : Value} {r : RR JV} (h : DRep w d r) (n : Bool) (K : Value → Prop) : eqW .ptr n d (.pointer none) K ↔ K (.bool (n ^^ okR r)) := by
  cases r with
  | ok v j c => have h : d = .pointer none := h; rw [h, eqp_nn]; cases n <;> exact Iff.rfl
  | bad e i => obtain ⟨b, rfl, _⟩ := h; rw [eqp_sn]; cases n <;> exact Iff.rfl
theorem decode_r {s : Str} {w : World} {K : Value → World → Prop} (hT : TabJ w) (hs : s.length ≤ 9223372036854775807) (hK : ∀ cs d w', Ext w w' → VRep w' (valR (decM En s)) cs → DRep w' d (decM En s) → K (.tuple #[.agg cs.toArray, d]) w') :
    callF Tryz.prog 18 [str s] w K := by
  refine decode_p hT.utf hT.err hs (fun v j c hv cs w' hx hr => ?_) (fun e i hv d w' hx _ hb => ?_)
  · rw [hv] at hK
    exact hK _ _ w' hx hr.rep rfl
  · rw [hv] at hK
    exact hK _ _ w' hx (vrep_null w') ⟨d, rfl, hb⟩
theorem is_p {w : World} {d : Value} {r : RR JV} {code a : Int} {K : Value → World → Prop} (h : DRep w d r) (hK : K (.bool (isM r code a)) w) : callF Tryz.prog 20 [d, i64 code, i64 a] w K := by
  refine W20_ok ?_
  unfold W20
  rw [bin_eql, condW_dec]
  refine ⟨fun e => ?_, fun e => ?_⟩
  · rw [h.eq]
    cases r with
    | ok v j c => simp only [isM, e, decide_true, okR] at hK ⊢; exact hK
    | bad e1 i => simp only [isM, e, ne_eq, not_true, decide_false, Bool.false_and, okR] at hK ⊢; exact hK
  · rw [h.eq]
    cases r with
    | ok v j c =>
      simp only [isM, decide_eq_false e, okR, Bool.xor_self] at hK ⊢
      simp only [isB_t, isB_f, GdW_f, List.getD_cons_zero, pick_f]
      intros
      exact hK
    | bad e1 i =>
      obtain ⟨b, rfl, hb⟩ := h
      simp only [isM, decide_eq_true e, okR, Bool.xor_false, Bool.true_and] at hK ⊢
      have ld : ∀ {off : Nat} {v : Value} {K : Value → Prop}, [i64 e1, str [], i64 (i : Nat)][off]? = some v → K v → nilW (.pointer (some ⟨b, 0, none⟩)) fun t => fldW off t fun t => ldW false 1 t w K := fun hv hk => by
        rw [nil_ptr, fld_ptr, ld_one]
        refine ⟨_, ?_, hk⟩
        rw [add_mk, cell_eq, hb, cellO_some, Nat.zero_add]
        simpa using hv
      refine GdW.act (decide (e1 = code)) (fun w' => w' = w) (fun e => by cases e) ?_ ?_
      · intro _ J hJ
        refine ld rfl ?_
        rw [bin_eql]
        exact hJ _ rfl
      rintro g w2 rfl
      simp only [cond_true, List.getD_cons_zero, pick_t, isB_t]
      refine GdW.act (decide ((i : Int) = a)) (fun w' => w' = w2) (fun _ => rfl) ?_ ?_
      · intro _ J hJ
        refine ld rfl ?_
        rw [bin_eql]
        exact hJ _ rfl
      rintro g2 w3 rfl
      simp only [List.getD_cons_zero]
      rw [pick_gd_and]
      simp only [isB_t]
      refine GdW.act true (fun w' => w' = w3) (fun _ => rfl) ?_ ?_
      · intro _ J hJ
        refine ld rfl ?_
        rw [bin_seq]
        exact hJ _ rfl
      rintro g3 w4 rfl
      simp only [List.getD_cons_zero]
      rw [pick_gd_and, Bool.and_true]
      exact hK
end
end Go.Proofs.YtcnjpcadejcenaaGreatDoor

namespace Go.Proofs.YtcnjpcadejcenaaGreatDoor
open Go Go.Eng Go.RowKit
set_option maxRecDepth 100000
section
variable [HX]
theorem row_b {c : UInt8} {w : World} {K : Value → World → Prop} (hK : ∀ t w', SlAt w' U8 t 1 (u8s [c]) → Ext w w' → K t w') : bslW U8 1 [(.int .u8 0)] [(0, 1, .int .u8 (c.toNat : Nat))] w K := by
  rw [bslW]
  simp only [put_int, put_nil, List.length_cons, List.length_nil, List.set_cons_zero]
  refine ⟨by omega, ?_⟩
  refine hK _ _ ⟨_, _, rfl, Nat.le_refl _, fun e => (by cases e), fun _ => ⟨_, _, _, _, rfl, heap_anew _ _ _ rfl, fun i _ => by rw [Nat.zero_add]; simp [u8s]⟩⟩ (Chg.alloc (Chg.refl _ _) _)
end
end Go.Proofs.YtcnjpcadejcenaaGreatDoor
namespace Go.Proofs.YtcnjpcadejcenaaGreatDoor
open Go Go.Eng Go.RowKit
set_option maxRecDepth 100000
section
variable [HX]
theorem row_b2 {c d : UInt8} {w : World} {K : Value → World → Prop} (hK : ∀ t w', SlAt w' U8 t 2 (u8s [c, d]) → Ext w w' → K t w') : bslW U8 2 [(.int .u8 0), (.int .u8 0)] [(0, 1, .int .u8 (c.toNat : Nat)), (1, 1, .int .u8 (d.toNat : Nat))] w K := by
  rw [bslW]
  simp only [put_int, put_nil, List.length_cons, List.length_nil, List.set_cons_zero, List.set_cons_succ]
  refine ⟨by omega, by omega, ?_⟩
  refine hK _ _ ⟨_, _, rfl, Nat.le_refl _, fun e => (by cases e), fun _ => ⟨_, _, _, _, rfl, heap_anew _ _ _ rfl, fun i _ => by rw [Nat.zero_add]; simp [u8s]⟩⟩ (Chg.alloc (Chg.refl _ _) _)
end
end Go.Proofs.YtcnjpcadejcenaaGreatDoor
namespace Go.Proofs.YtcnjpcadejcenaaGreatDoor
open Go Go.Eng Go.RowKit
set_option maxRecDepth 100000
abbrev StT : TypeId := 89
abbrev SS (s : Str) (i c : Nat) (e a : Int) : List Value := [str s, i64 (i : Nat), i64 (c : Nat), i64 e, i64 a]
def Cel (w : World) (p : Nat) (s : Str) (i c : Nat) (e a : Int) : Prop := w.heap[p]? = some (.cells (SS s i c e a).toArray StT (0, 0))
theorem Cel.lt {w : World} {p i c : Nat} {e a : Int} {s : Str} (h : Cel w p s i c e a) : p < w.heap.size := at_lt h
theorem Cel.chg {w w' : World} {p i c : Nat} {e a : Int} {s : Str} {S : Nat → Prop} (h : Cel w p s i c e a) (hc : Chg S w w') (hp : ¬ S p) : Cel w' p s i c e a := hc.at h hp
theorem Cel.ext {w w' : World} {p i c : Nat} {e a : Int} {s : Str} (h : Cel w p s i c e a) (hx : Ext w w') : Cel w' p s i c e a := hx.at h id
theorem Cel.drew {w : World} {p i c : Nat} {e a : Int} {s : Str} (h : Cel w p s i c e a) : Cel w.drew p s i c e a := h
theorem Cel.ld {w : World} {p i c : Nat} {e a : Int} {s : Str} {off : Nat} {v : Value} {K : Value → Prop} (h : Cel w p s i c e a) (hv : (SS s i c e a)[off]? = some v) (hk : K v) : fldW off (.pointer (some ⟨p, 0, none⟩)) fun t => ldW false 1 t w K := by
  rw [fld_ptr, ld_one]
  refine ⟨v, ?_, hk⟩
  rw [add_mk, cell_eq, h, cellO_some, Nat.zero_add]
  simpa using hv
theorem Cel.all {w : World} {p i c : Nat} {e a : Int} {s : Str} {K : Value → Prop} (h : Cel w p s i c e a) (hk : K (.agg (SS s i c e a).toArray)) : ldW true 5 (.pointer (some ⟨p, 0, none⟩)) w K := ld_all h rfl hk
theorem Cel.st {w : World} {p i c i' c' : Nat} {e a e' a' : Int} {s : Str} {K : World → Prop} (h : Cel w p s i c e a) (hK : ∀ w', Cel w' p s i' c' e' a' → Chg (Cr p) w w' → w'.heap.size = w.heap.size → K w') : stW 5 (.pointer (some ⟨p, 0, none⟩)) (.agg (SS s i' c' e' a').toArray) w K :=
  st_agg_at h rfl rfl rfl fun w' hz hb hc => hK w' hb hc hz
theorem Cel.st1 {w : World} {p i c i' : Nat} {e a : Int} {s : Str} {K : World → Prop} (h : Cel w p s i c e a) (hK : ∀ w', Cel w' p s i' c e a → Chg (Cr p) w w' → w'.heap.size = w.heap.size → K w') : fldW 1 (.pointer (some ⟨p, 0, none⟩)) fun t => stW 1 t (i64 (i' : Nat)) w K := by
  rw [fld_ptr, add_mk, Nat.zero_add]
  refine st_at h rfl (by simp) fun w' hz hb hc => hK w' ?_ hc hz
  unfold Cel
  rw [hb]; simp
theorem Cel.st2 {w : World} {p i c c' : Nat} {e a : Int} {s : Str} {K : World → Prop} (h : Cel w p s i c e a) (hK : ∀ w', Cel w' p s i c' e a → Chg (Cr p) w w' → w'.heap.size = w.heap.size → K w') : fldW 2 (.pointer (some ⟨p, 0, none⟩)) fun t => stW 1 t (i64 (c' : Nat)) w K := by
  rw [fld_ptr, add_mk, Nat.zero_add]
  refine st_at h rfl (by simp) fun w' hz hb hc => hK w' ?_ hc hz
  unfold Cel
  rw [hb]; simp
theorem Cel.st3 {w : World} {p i c : Nat} {e a e' : Int} {s : Str} {K : World → Prop} (h : Cel w p s i c e a) (hK : ∀ w', Cel w' p s i c e' a → Chg (Cr p) w w' → w'.heap.size = w.heap.size → K w') : fldW 3 (.pointer (some ⟨p, 0, none⟩)) fun t => stW 1 t (i64 e') w K := by
  rw [fld_ptr, add_mk, Nat.zero_add]
  refine st_at h rfl (by simp) fun w' hz hb hc => hK w' ?_ hc hz
  unfold Cel
  rw [hb]; simp
theorem Cel.st4 {w : World} {p i c : Nat} {e a a' : Int} {s : Str} {K : World → Prop} (h : Cel w p s i c e a) (hK : ∀ w', Cel w' p s i c e a' → Chg (Cr p) w w' → w'.heap.size = w.heap.size → K w') : fldW 4 (.pointer (some ⟨p, 0, none⟩)) fun t => stW 1 t (i64 a') w K := by
  rw [fld_ptr, add_mk, Nat.zero_add]
  refine st_at h rfl (by simp) fun w' hz hb hc => hK w' ?_ hc hz
  unfold Cel
  rw [hb]; simp
theorem Cel.go {w : World} {p i c k : Nat} {e a : Int} {s : Str} {K : World → Prop} (h : Cel w p s i c e a) (hi : i + k ≤ 9223372036854775807) (hK : ∀ w', Cel w' p s (i + k) c e a → Chg (Cr p) w w' → w'.heap.size = w.heap.size → K w') :
    fldW 1 (.pointer (some ⟨p, 0, none⟩)) fun t => ldW false 1 t w fun t => binW .add t (.int .i64 (k : Int)) fun t1 => fldW 1 (.pointer (some ⟨p, 0, none⟩)) fun t => stW 1 t t1 w K := by
  refine h.ld rfl ?_
  rw [bin_add, upk hi]
  exact h.st1 hK
theorem cel_box {s : Str} {i c : Nat} {e a : Int} {w : World} {K : Value → World → Prop} (hK : ∀ p w', p = w.heap.size → Cel w' p s i c e a → Ext w w' → K (.pointer (some ⟨p, 0, none⟩)) w') : boxW StT (.agg (SS s i c e a).toArray) w K :=
  box_new fun p w' hp _ hb hx => hK p w' hp hb hx
abbrev zs : List Value := [str [], i64 0, i64 0, i64 0, i64 0]
theorem ret_two {w : World} {b2 b3 : Nat} {z2 z3 l cs : List Value} {K : Value → World → Prop} (h2 : w.heap[b2]? = some (.cells z2.toArray StT (0, 0))) (hz2 : z2.length = 5) (h3 : w.heap[b3]? = some (.cells z3.toArray VT (0, 0))) (hz3 : z3.length = 5) (hne : b2 ≠ b3) (hl : l.length = 5) (hl1 : l.all one1 = true) (hc : cs.length = 5) (hc1 : cs.all one1 = true)
    (hK : ∀ w', Chg (fun k => k = b2 ∨ k = b3) w w' → K (.tuple #[.agg l.toArray, .agg cs.toArray]) w') :
    stW 5 (.pointer (some ⟨b2, 0, none⟩)) (.agg l.toArray) w fun w1 => stW 5 (.pointer (some ⟨b3, 0, none⟩)) (.agg cs.toArray) w1 fun w2 => ldW true 5 (.pointer (some ⟨b2, 0, none⟩)) w2 fun r => ldW true 5 (.pointer (some ⟨b3, 0, none⟩)) w2 fun q => K (.tuple #[r, q]) w2 := by
  refine st_agg_at h2 hl hz2 hl1 fun w1 _ hb1 hc1' => ?_
  have h3 := hc1'.at h3 (fun e => hne e.symm)
  refine st_agg_at h3 hc hz3 hc1 fun w2 _ hb2 hc2 => ?_
  refine ld_all (hc2.at hb1 hne) hl ?_
  refine ld_all hb2 hc ?_
  exact hK w2 ((hc1'.mono fun k _ e => .inl e).trans (hc2.mono fun k _ e => .inr e))
theorem quo_n {a b : Nat} {K : Value → Prop} (hb : b ≠ 0) (ha : a ≤ 4611686018427387904) (h : K (i64 ((a / b : Nat) : Int))) : binW .quo (i64 (a : Nat)) (i64 (b : Nat)) K := by
  rw [bin_quo]
  refine ⟨by omega, ?_⟩
  have e : ((a : Nat) : Int).tdiv (b : Int) = ((a / b : Nat) : Int) := by rw [Int.tdiv_eq_ediv_of_nonneg (by omega)]; exact (Int.natCast_ediv a b).symm
  have := Nat.div_le_self a b
  rw [e]
  generalize a / b = q at *
  rw [wrap_id (by omega) (by omega)]
  exact h
theorem rem_n {a b : Nat} {K : Value → Prop} (hb : b ≠ 0) (h : K (i64 ((a % b : Nat) : Int))) : binW .rem (i64 (a : Nat)) (i64 (b : Nat)) K := by
  rw [bin_rem]
  refine ⟨by omega, ?_⟩
  have e : ((a : Nat) : Int).tmod (b : Int) = ((a % b : Nat) : Int) := by rw [Int.tmod_eq_emod_of_nonneg (by omega)]; exact (Int.natCast_emod a b).symm
  rw [e]
  exact h
theorem add_n {a b : Nat} {K : Value → Prop} (hb : a + b ≤ 4611686018427387904) (h : K (i64 ((a + b : Nat) : Int))) : binW .add (i64 (a : Nat)) (i64 (b : Nat)) K := by
  rw [bin_add, wrap_id (by omega) (by omega)]
  rw [show ((a : Nat) : Int) + ((b : Nat) : Int) = ((a + b : Nat) : Int) by omega]
  exact h
theorem row_b3 {a b c : UInt8} {w : World} {K : Value → World → Prop} (hK : ∀ t w', SlAt w' U8 t 3 (u8s [a, b, c]) → Ext w w' → K t w') :
    bslW U8 3 [(.int .u8 0), (.int .u8 0), (.int .u8 0)] [(0, 1, .int .u8 (a.toNat : Nat)), (1, 1, .int .u8 (b.toNat : Nat)), (2, 1, .int .u8 (c.toNat : Nat))] w K := by
  rw [bslW]
  simp only [put_int, put_nil, List.length_cons, List.length_nil, List.set_cons_zero, List.set_cons_succ]
  refine ⟨by omega, by omega, by omega, ?_⟩
  refine hK _ _ ⟨_, _, rfl, Nat.le_refl _, fun e => (by cases e), fun _ => ⟨_, _, _, _, rfl, heap_anew _ _ _ rfl, fun i _ => by rw [Nat.zero_add]; simp [u8s]⟩⟩ (Chg.alloc (Chg.refl _ _) _)
theorem row_b4 {a b c d : UInt8} {w : World} {K : Value → World → Prop} (hK : ∀ t w', SlAt w' U8 t 4 (u8s [a, b, c, d]) → Ext w w' → K t w') :
    bslW U8 4 [(.int .u8 0), (.int .u8 0), (.int .u8 0), (.int .u8 0)] [(0, 1, .int .u8 (a.toNat : Nat)), (1, 1, .int .u8 (b.toNat : Nat)), (2, 1, .int .u8 (c.toNat : Nat)), (3, 1, .int .u8 (d.toNat : Nat))] w K := by
  rw [bslW]
  simp only [put_int, put_nil, List.length_cons, List.length_nil, List.set_cons_zero, List.set_cons_succ]
  refine ⟨by omega, by omega, by omega, by omega, ?_⟩
  refine hK _ _ ⟨_, _, rfl, Nat.le_refl _, fun e => (by cases e), fun _ => ⟨_, _, _, _, rfl, heap_anew _ _ _ rfl, fun i _ => by rw [Nat.zero_add]; simp [u8s]⟩⟩ (Chg.alloc (Chg.refl _ _) _)
section
variable [HX]
theorem cvt8_n {a : Nat} {K : Value → Prop} (ha : a < 256) (h : K (.int .u8 ((b8 a).toNat : Nat))) : cvtW .u8 (i64 (a : Nat)) K := by
  rw [cvt_int, wrap_u8 (by omega)]
  have : (b8 a).toNat = a := by unfold b8; rw [UInt8.toNat_ofNat']; omega
  rw [this] at h
  exact h
theorem write_ref {n : Nat} {w : World} {K : Value → World → Prop} (hn : n ≤ 1114111) (hK : ∀ w', Ext w w' → K (str (wrM n)) w') : callF Tryz.prog 192 [i64 (n : Nat)] w K := by
  refine W192_ok ?_
  unfold W192
  unfold wrM at hK
  rw [bin_lss, condW_dec]
  refine ⟨fun h => ?_, fun h => ?_⟩
  · rw [if_pos (by omega)] at hK
    refine cvt8_n (by omega) ?_
    refine row_b fun t w1 ht hx => ?_
    exact (conv_bytes (e := U8) (by kernel_rfl) (by kernel_rfl) (by kernel_rfl) ht).2 (hK w1 hx)
  rw [if_neg (by omega)] at hK
  rw [bin_lss, condW_dec]
  refine ⟨fun h2 => ?_, fun h2 => ?_⟩
  · rw [if_pos (by omega)] at hK
    refine quo_n (b := 64) (by decide) (by omega) ?_
    refine add_n (a := 192) (by omega) ?_
    refine cvt8_n (by omega) ?_
    refine rem_n (b := 64) (by decide) ?_
    refine add_n (a := 128) (by omega) ?_
    refine cvt8_n (by omega) ?_
    refine row_b2 fun t w1 ht hx => ?_
    exact (conv_bytes (e := U8) (by kernel_rfl) (by kernel_rfl) (by kernel_rfl) ht).2 (hK w1 hx)
  rw [if_neg (by omega)] at hK
  rw [bin_lss, condW_dec]
  refine ⟨fun h3 => ?_, fun h3 => ?_⟩
  · rw [if_pos (by omega)] at hK
    refine quo_n (b := 4096) (by decide) (by omega) ?_
    refine add_n (a := 224) (by omega) ?_
    refine cvt8_n (by omega) ?_
    refine quo_n (b := 64) (by decide) (by omega) ?_
    refine rem_n (b := 64) (by decide) ?_
    refine add_n (a := 128) (by omega) ?_
    refine cvt8_n (by omega) ?_
    refine rem_n (b := 64) (by decide) ?_
    refine add_n (a := 128) (by omega) ?_
    refine cvt8_n (by omega) ?_
    refine row_b3 fun t w1 ht hx => ?_
    exact (conv_bytes (e := U8) (by kernel_rfl) (by kernel_rfl) (by kernel_rfl) ht).2 (hK w1 hx)
  rw [if_neg (by omega)] at hK
  refine quo_n (b := 262144) (by decide) (by omega) ?_
  refine add_n (a := 240) (by omega) ?_
  refine cvt8_n (by omega) ?_
  refine quo_n (b := 4096) (by decide) (by omega) ?_
  refine rem_n (b := 64) (by decide) ?_
  refine add_n (a := 128) (by omega) ?_
  refine cvt8_n (by omega) ?_
  refine quo_n (b := 64) (by decide) (by omega) ?_
  refine rem_n (b := 64) (by decide) ?_
  refine add_n (a := 128) (by omega) ?_
  refine cvt8_n (by omega) ?_
  refine rem_n (b := 64) (by decide) ?_
  refine add_n (a := 128) (by omega) ?_
  refine cvt8_n (by omega) ?_
  refine row_b4 fun t w1 ht hx => ?_
  exact (conv_bytes (e := U8) (by kernel_rfl) (by kernel_rfl) (by kernel_rfl) ht).2 (hK w1 hx)
theorem c_ref {s : Str} {i c : Nat} {e a : Int} {w : World} {K : Value → World → Prop} (hK : ∀ w', Ext w w' → K (i64 (byteM s i)) w') : callF Tryz.prog 116 [.agg (SS s i c e a).toArray] w K := by
  refine W116_ok ?_
  unfold W116
  refine cel_box fun p w1 hp h hx => ?_
  refine h.ld rfl ?_
  refine h.ld rfl ?_
  rw [lens_str, bin_geq]
  rcases Nat.lt_or_ge i s.length with hl | hl
  · rw [decide_eq_false (by omega), condW_false]
    refine h.ld rfl ?_
    refine h.ld rfl ?_
    obtain ⟨e1, e2⟩ := get_bt' hl
    rw [ixs_str]
    refine ⟨by omega, s[i], by simpa using e1, ?_⟩
    have hb := bt_lt s i
    rw [cvt_int, e2, wrap_id (by omega) (by omega)]
    have := hK w1 hx
    rw [byteM_in hl] at this
    exact this
  · rw [decide_eq_true (by omega), condW_true]
    have := hK w1 hx
    rw [byteM_out hl] at this
    exact this
theorem digit_ref {n : Int} {w : World} {K : Value → World → Prop} (hK : K (.bool (isDig n)) w) : callF Tryz.prog 117 [i64 n] w K := by
  refine W117_ok ?_
  unfold W117
  simp only [bin_geq, isB_t, bin_leq, GdW_pure, List.getD_cons_zero, pick_gd_and]
  intros
  exact hK
theorem fail_ref {s : Str} {i c : Nat} {e a code a2 : Int} {w : World} {K : Value → World → Prop} (hK : ∀ w', Ext w w' → K (.agg (SS s i c (if e = 0 then code else e) (if e = 0 then a2 else a)).toArray) w') : callF Tryz.prog 57 [.agg (SS s i c e a).toArray, i64 code, i64 a2] w K := by
  refine W57_ok ?_
  unfold W57
  refine cel_box fun p w1 hp h hx => ?_
  refine alloc_new fun b w2 hb hz2 hbb hx2 => ?_
  have h2 := h.ext hx2
  refine JoinW.cut (fun st w' => st = [] ∧ Cel w' p s i c (if e = 0 then code else e) (if e = 0 then a2 else a) ∧ Chg (Cr p) w2 w') ?_ ?_
  · refine h2.ld rfl ?_
    rw [bin_eql, condW_dec]
    refine ⟨fun e0 => ?_, fun e0 => ?_⟩
    · rw [if_pos e0, if_pos e0]
      refine h2.st3 fun w3 h3 hc3 _ => ?_
      refine h3.st4 fun w4 h4 hc4 _ => ?_
      exact ⟨rfl, h4, hc3.trans hc4⟩
    · rw [if_neg e0, if_neg e0]
      exact ⟨rfl, h2, Chg.refl _ _⟩
  rintro st g w3 ⟨rfl, h3, hc3⟩
  refine h3.all ?_
  have hlt := h.lt
  have hbb := hc3.at hbb fun e => by have e : b = p := e; omega
  refine ret_agg hbb rfl rfl rfl fun w4 hc4 => ?_
  exact hK w4 (((hx.trans hx2).new hc3 (by omega)).new hc4 (by have := hx.size; omega))
theorem blanks_ref {s : Str} {i c : Nat} {e a : Int} {w : World} {K : Value → World → Prop} (hi : i ≤ s.length) (hs : s.length ≤ 1000000) (hK : ∀ w', Ext w w' → K (.agg (SS s (blankM s i) c e a).toArray) w') : callF Tryz.prog 56 [.agg (SS s i c e a).toArray] w K := by
  refine W56_ok ?_
  unfold W56
  refine cel_box fun p w1 hp h hx => ?_
  refine alloc_new fun b w2 hb hz2 hbb hx2 => ?_
  have h2 := h.ext hx2
  have hlt := h.lt
  refine LoopW.go (fun st w' => st = [] ∧ ∃ j, Cel w' p s j c e a ∧ Chg (Cr p) w2 w' ∧ j ≤ s.length ∧ blankM s j = blankM s i) (fun _ w' => match w'.heap[p]? with | some (.cells cc _ _) => (match (cc[1]? : Option Value) with | some (Value.int _ i) => s.length - i.toNat | _ => 0) | _ => 0) ⟨rfl, i, h2, Chg.refl _ _, hi, rfl⟩ ?_
  rintro st g w3 ⟨rfl, j, h3, hc3, hj, hbl⟩
  refine h3.all ?_
  refine c_ref fun w4 hx4 => ?_
  rw [bin_eql]
  have look : ∀ {w' : World} {n : Int} {J : List Value → World → Prop} {Q : World}, Ext w3 w' → (∀ w'', Ext w3 w'' → J [.bool (decide (byteM s j = n))] w'') →
      ldW true 5 (.pointer (some ⟨p, 0, none⟩)) w' fun t => callF Tryz.prog 116 [t] w' fun t8 w7 => binW .eql t8 (.int .i64 n) fun t9 => J [t9] w7 := fun {w' n J Q} hx' hJ => by
    refine (h3.ext hx').all ?_
    refine c_ref fun w5 hx5 => ?_
    rw [bin_eql]
    exact hJ w5 (hx'.trans hx5)
  refine GdW.act (decide (byteM s j = 9)) (fun w' => Ext w3 w') (fun _ => hx4) (fun _ J hJ => look (Q := w4) hx4 hJ) ?_
  intro g2 w5 hx5
  simp only [List.getD_cons_zero, isB_f]
  rw [pick_gd_or]
  simp only [isB_f]
  refine GdW.act (decide (byteM s j = 10)) (fun w' => Ext w3 w') (fun _ => hx5) (fun _ J hJ => look (Q := w4) hx5 hJ) ?_
  intro g3 w6 hx6
  simp only [List.getD_cons_zero, isB_f]
  rw [pick_gd_or]
  simp only [isB_f]
  refine GdW.act (decide (byteM s j = 13)) (fun w' => Ext w3 w') (fun _ => hx6) (fun _ J hJ => look (Q := w4) hx6 hJ) ?_
  intro g4 w7 hx7
  simp only [List.getD_cons_zero, isB_f]
  rw [pick_gd_or, condW_b]
  have h7 := h3.ext hx7
  have hc7 : Chg (Cr p) w2 w7 := hc3.then hx7 fun _ _ e => e.elim
  have eb : isBlank (byteM s j) = (decide (byteM s j = 32) || decide (byteM s j = 9) || decide (byteM s j = 10) || decide (byteM s j = 13)) := rfl
  refine ⟨fun e => ?_, fun e => ?_⟩
  · rw [← eb] at e
    obtain ⟨g1, g2⟩ := blank_go e
    refine h7.go (k := 1) (by omega) fun w8 h8 hc8 hz8 => ?_
    refine ⟨⟨trivial, j + 1, h8, hc7.trans hc8, by omega, by rw [← hbl, g2]⟩, ?_⟩
    unfold Cel at h8 h3
    rw [h8, h3]
    simp
    omega
  · rw [← eb] at e
    rw [blank_stop e] at hbl
    subst hbl
    refine h7.all ?_
    have hbb := hc7.at hbb fun e => by have e : b = p := e; omega
    refine ret_agg hbb rfl rfl rfl fun w8 hc8 => ?_
    exact hK w8 (((hx.trans hx2).new hc7 (by omega)).new hc8 (by have := hx.size; omega))
theorem word_ref {s q : Str} {i c : Nat} {e a : Int} {w : World} {K : Value → World → Prop} (hi : i ≤ s.length) (hs : s.length ≤ 1000000) (hq : q.length ≤ 1000000) (hK : ∀ w', Ext w w' → K (.bool (wordM s i q)) w') : callF Tryz.prog 114 [.agg (SS s i c e a).toArray, str q] w K := by
  refine W114_ok ?_
  unfold W114
  refine cel_box fun p w1 hp h hx => ?_
  refine h.ld rfl ?_
  rw [lens_str]
  refine h.ld rfl ?_
  rw [bin_sub, wrap_id (by omega) (by omega), lens_str, bin_geq]
  refine GdW.look (wordM s i q) (fun hc J hJ => ?_) fun g => ?_
  · simp only [isB_t, decide_eq_true_eq] at hc
    refine h.ld rfl ?_
    refine h.ld rfl ?_
    refine h.ld rfl ?_
    rw [lens_str]
    refine add_n (by omega) ?_
    rw [sls_str, bd_some]
    refine ⟨by omega, by omega, ?_⟩
    rw [bd_some]
    refine ⟨by omega, by omega, ?_⟩
    simp only [Int.toNat_natCast]
    rw [List.drop_take, Nat.add_sub_cancel_left, bin_seq]
    exact hJ
  · simp only [isB_t, List.getD_cons_zero]
    rw [pick_gd_and]
    have : (decide ((q.length : Int) ≤ (s.length : Int) - (i : Int)) && wordM s i q) = wordM s i q := by
      by_cases hw : wordM s i q = true
      · rw [hw, Bool.and_true, decide_eq_true_iff]
        unfold wordM at hw
        have := congrArg List.length (of_decide_eq_true hw)
        rw [List.length_take, List.length_drop] at this
        omega
      · rw [Bool.not_eq_true] at hw
        rw [hw, Bool.and_false]
    rw [this]
    exact hK w1 hx
end
end Go.Proofs.YtcnjpcadejcenaaGreatDoor
namespace Go.Proofs.YtcnjpcadejcenaaGreatDoor
open Go Go.Eng Go.RowKit
set_option maxRecDepth 100000
def accH (s : Str) (a : Nat) : Nat → Int
  | 0 => 0
  | j + 1 => accH s a j * 16 + hexV (byteM s (a + 2 + j))
theorem accH_small {s : Str} {a j : Nat} (hj : j ≤ 3) (h : ∀ m, m < j → 0 ≤ hexV (byteM s (a + 2 + m))) : 0 ≤ accH s a j ∧ accH s a j ≤ 4095 := by
  have l0 := hexV_le (byteM s (a + 2 + 0))
  have l1 := hexV_le (byteM s (a + 2 + 1))
  have l2 := hexV_le (byteM s (a + 2 + 2))
  match j, hj with
  | 0, _ => simp only [accH]; omega
  | 1, _ => simp only [accH]; have := h 0 (by omega); omega
  | 2, _ => simp only [accH]; have := h 0 (by omega); have := h 1 (by omega); omega
  | 3, _ => simp only [accH]; have := h 0 (by omega); have := h 1 (by omega); have := h 2 (by omega); omega
section
variable [HX]
theorem hex_ref {s : Str} {a : Nat} {w : World} {K : Value → World → Prop} (ha : a ≤ 2000000) (hs : s.length ≤ 1000000) (hK : K (i64 (hexM s a)) w) : callF Tryz.prog 191 [str s, i64 (a : Nat)] w K := by
  refine W191_ok ?_
  unfold W191
  have e6 : IntKind.i64.wrap ((a : Int) + 6) = ((a + 6 : Nat) : Int) := upk (k := 6) (by omega)
  have e2 : IntKind.i64.wrap ((a : Int) + 2) = ((a + 2 : Nat) : Int) := upk (k := 2) (by omega)
  have e1 : IntKind.i64.wrap ((a : Int) + 1) = ((a + 1 : Nat) : Int) := upk (k := 1) (by omega)
  rw [bin_add, e6, lens_str, bin_gtr]
  have at_b : ∀ {i : Nat} {K : Value → Prop}, i < s.length → (∀ n : Nat, (n : Int) = byteM s i → K (.int .u8 (n : Nat))) → ixsW (str s) (i64 (i : Nat)) K := fun {i K} h hk => by
    obtain ⟨e1, e2⟩ := get_bt' h
    rw [ixs_str]
    refine ⟨by omega, s[i], by simpa using e1, ?_⟩
    exact hk _ (by rw [byteM_in h, ← e2])
  refine GdW.look (!decide (byteM s a = 92)) (fun hc J hJ => ?_) fun g => ?_
  · simp only [isB_f, Bool.not_eq_true', decide_eq_false_iff_not] at hc
    refine at_b (by omega) fun n hn => ?_
    rw [bin_neq]
    have : decide ((n : Int) ≠ 92) = !decide (byteM s a = 92) := by rw [hn]; simp
    rw [this]
    exact hJ
  simp only [isB_f, List.getD_cons_zero]
  rw [pick_gd_or]
  simp only [isB_f]
  refine GdW.look (!decide (byteM s (a + 1) = 117)) (fun hc J hJ => ?_) fun g => ?_
  · simp only [Bool.not_eq_true', Bool.or_eq_false_iff, decide_eq_false_iff_not] at hc
    rw [bin_add, e1]
    refine at_b (by omega) fun n hn => ?_
    rw [bin_neq]
    have : decide ((n : Int) ≠ 117) = !decide (byteM s (a + 1) = 117) := by rw [hn]; simp
    rw [this]
    exact hJ
  simp only [List.getD_cons_zero]
  rw [pick_gd_or, condW_b]
  refine ⟨fun e => ?_, fun e => ?_⟩
  · have : hexM s a = -1 := by
      unfold hexM
      rw [if_neg]
      rintro ⟨h1, h2, h3, _⟩
      rw [decide_eq_false (by omega), decide_eq_true h2, decide_eq_true h3] at e
      cases e
    rw [this] at hK
    exact hK
  simp only [Bool.or_eq_false_iff, decide_eq_false_iff_not, Bool.not_eq_false', decide_eq_true_iff] at e
  obtain ⟨⟨hl, b0⟩, b1⟩ := e
  have hl : a + 6 ≤ s.length := by omega
  rw [bin_add, e2]
  refine LoopW.go (fun st w' => ∃ j : Nat, j ≤ 4 ∧ st = [i64 (accH s a j), i64 ((a + 2 + j : Nat) : Int)] ∧ w' = w ∧ ∀ m, m < j → 0 ≤ hexV (byteM s (a + 2 + m))) (fun st _ => match st with | [_, .int _ i] => a + 6 - i.toNat | _ => 0) ⟨0, by omega, rfl, rfl, fun m hm => by omega⟩ ?_
  rintro st g2 w2 ⟨j, hj, rfl, rfl, hall⟩
  simp only [List.getD_cons_zero, List.getD_cons_succ]
  rw [bin_add, e6, bin_lss, condW_dec]
  refine ⟨fun hlt => ?_, fun hge => ?_⟩
  · have hj3 : j ≤ 3 := by omega
    have hsm := accH_small hj3 hall
    refine at_b (by omega) fun n hn => ?_
    have hbb := byteM_in (s := s) (i := a + 2 + j) (by omega)
    have hlt256 := bt_lt s (a + 2 + j)
    rw [cvt_int, wrap_id (by omega) (by omega), hn]
    have hK1 : 0 ≤ hexV (byteM s (a + 2 + j)) ∨ hexV (byteM s (a + 2 + j)) < 0 := by omega
    have hno : hexV (byteM s (a + 2 + j)) < 0 → K (i64 (-1)) w2 := fun h => by
      have : hexM s a = -1 := by
        unfold hexM
        rw [if_neg]
        rintro ⟨_, _, _, h2, h3, h4, h5⟩
        match j, hj3 with
        | 0, _ => exact absurd h2 (by simp only [Nat.add_zero] at h; omega)
        | 1, _ => exact absurd h3 (by have h : hexV (byteM s (a + 3)) < 0 := h; omega)
        | 2, _ => exact absurd h4 (by have h : hexV (byteM s (a + 4)) < 0 := h; omega)
        | 3, _ => exact absurd h5 (by have h : hexV (byteM s (a + 5)) < 0 := h; omega)
      rw [this] at hK
      exact hK
    have hv : hexV (byteM s (a + 2 + j)) = if 48 ≤ byteM s (a + 2 + j) ∧ byteM s (a + 2 + j) ≤ 57 then byteM s (a + 2 + j) - 48 else if 97 ≤ byteM s (a + 2 + j) ∧ byteM s (a + 2 + j) ≤ 102 then byteM s (a + 2 + j) - 87 else if 65 ≤ byteM s (a + 2 + j) ∧ byteM s (a + 2 + j) ≤ 70 then byteM s (a + 2 + j) - 55 else -1 := rfl
    have hx := hexV_le (byteM s (a + 2 + j))
    have hmore : ∀ m, m < j + 1 → 0 ≤ hexV (byteM s (a + 2 + j)) → 0 ≤ hexV (byteM s (a + 2 + m)) := fun m hm h => by
      rcases Nat.lt_or_ge m j with h1 | h1
      · exact hall m h1
      · obtain rfl : m = j := by omega
        exact h
    have hacc : accH s a (j + 1) = accH s a j * 16 + hexV (byteM s (a + 2 + j)) := rfl
    generalize hexV (byteM s (a + 2 + j)) = q at *
    generalize byteM s (a + 2 + j) = y at *
    refine JoinW.cut (fun st w' => st = [i64 q] ∧ w' = w2 ∧ 0 ≤ q) ?_ ?_
    · simp only [bin_geq, isB_t, bin_leq, GdW_pure, List.getD_cons_zero, pick_gd_and]
      intro _
      rw [condW_b]
      refine ⟨fun e => ?_, fun e => ?_⟩
      · rw [Bool.and_eq_true, decide_eq_true_iff, decide_eq_true_iff] at e
        rw [if_pos e] at hv
        rw [bin_sub, wrap_id (by omega) (by omega)]
        exact ⟨by rw [hv], trivial, by omega⟩
      have e : ¬ (48 ≤ y ∧ y ≤ 57) := fun h => by rw [decide_eq_true h.1, decide_eq_true h.2] at e; cases e
      rw [if_neg e] at hv
      intro _
      rw [condW_b]
      refine ⟨fun e => ?_, fun e => ?_⟩
      · rw [Bool.and_eq_true, decide_eq_true_iff, decide_eq_true_iff] at e
        rw [if_pos e] at hv
        rw [bin_sub, wrap_id (by omega) (by omega), bin_add, wrap_id (by omega) (by omega)]
        exact ⟨by rw [hv, show y - 97 + 10 = y - 87 by omega], trivial, by omega⟩
      have e : ¬ (97 ≤ y ∧ y ≤ 102) := fun h => by rw [decide_eq_true h.1, decide_eq_true h.2] at e; cases e
      rw [if_neg e] at hv
      intro _
      rw [condW_b]
      refine ⟨fun e => ?_, fun e => ?_⟩
      · rw [Bool.and_eq_true, decide_eq_true_iff, decide_eq_true_iff] at e
        rw [if_pos e] at hv
        rw [bin_sub, wrap_id (by omega) (by omega), bin_add, wrap_id (by omega) (by omega)]
        exact ⟨by rw [hv, show y - 65 + 10 = y - 55 by omega], trivial, by omega⟩
      have e : ¬ (65 ≤ y ∧ y ≤ 70) := fun h => by rw [decide_eq_true h.1, decide_eq_true h.2] at e; cases e
      rw [if_neg e] at hv
      exact hno (by omega)
    rintro st g3 w3 ⟨rfl, rfl, h0⟩
    simp only [List.getD_cons_zero]
    rw [bin_mul, wrap_id (by omega) (by omega), bin_add, wrap_id (by omega) (by omega), ← hacc, bin_add, up1 (by omega)]
    refine ⟨⟨j + 1, by omega, rfl, trivial, fun m hm => hmore m hm h0⟩, ?_⟩
    simp only [Int.toNat_natCast]
    omega
  · obtain rfl : j = 4 := by omega
    have : hexM s a = accH s a 4 := by
      unfold hexM
      rw [if_pos ⟨hl, b0, b1, hall 0 (by omega), hall 1 (by omega), hall 2 (by omega), hall 3 (by omega)⟩]
      have e0 : accH s a 4 = (((0 * 16 + hexV (byteM s (a + 2))) * 16 + hexV (byteM s (a + 3))) * 16 + hexV (byteM s (a + 4))) * 16 + hexV (byteM s (a + 5)) := rfl
      omega
    rw [this] at hK
    exact hK
theorem escape_ref {s : Str} {i : Nat} {w : World} {K : Value → World → Prop} (hi : i < s.length) (hs : s.length ≤ 1000000) (hok : ∀ t k, escM s i = some (t, k) → ∀ w', Ext w w' → K (.tuple #[str t, i64 (k : Nat)]) w') (hno : escM s i = none → ∀ w', Ext w w' → K (.tuple #[str [], i64 0]) w') :
    callF Tryz.prog 164 [str s, i64 (i : Nat)] w K := by
  refine W164_ok ?_
  unfold W164
  have e1 : IntKind.i64.wrap ((i : Int) + 1) = ((i + 1 : Nat) : Int) := upk (k := 1) (by omega)
  have e6 : IntKind.i64.wrap ((i : Int) + 6) = ((i + 6 : Nat) : Int) := upk (k := 6) (by omega)
  refine JoinW.cut (fun st w' => Ext w w' ∧ ∀ k : Fin 8, byteM s (i + 1) ≠ (((([34, 92, 47, 98, 102, 110, 114, 116] : Str)[k.val]'k.isLt).toNat : Nat) : Int)) ?_ ?_
  · rw [bin_add, e1, lens_str, bin_lss, condW_dec]
    refine ⟨fun hlt => ?_, fun hge => ?_⟩
    · have hlt : i + 1 < s.length := by omega
      refine LoopW.go (fun st w' => ∃ k : Nat, k ≤ 8 ∧ st = [i64 (k : Nat)] ∧ Ext w w' ∧ ∀ m : Fin 8, m.val < k → byteM s (i + 1) ≠ (((([34, 92, 47, 98, 102, 110, 114, 116] : Str)[m.val]'m.isLt).toNat : Nat) : Int)) (fun st _ => match st with | [.int _ k] => 8 - k.toNat | _ => 0) ⟨0, by omega, rfl, Chg.refl _ _, fun m hm => by omega⟩ ?_
      rintro st g w3 ⟨k, hk, rfl, hx, hall⟩
      have hxd : Ext w3 w3.drew := Chg.drew (Chg.refl (fun _ => False) w3)
      simp only [List.getD_cons_zero]
      rw [lens_str, bin_lss, condW_dec]
      refine ⟨fun hlt8 => ?_, fun hge8 => ?_⟩
      · have hlt8 : k < 8 := by
          have e : (([34, 92, 47, 98, 102, 110, 114, 116] : Str).length : Int) = 8 := rfl
          omega
        rw [bin_add, e1, ixs_str]
        obtain ⟨b1, b2⟩ := get_bt' hlt
        refine ⟨by omega, s[i + 1], by simpa using b1, ?_⟩
        rw [ixs_str]
        refine ⟨by omega, ([34, 92, 47, 98, 102, 110, 114, 116] : Str)[k]'hlt8, (by rw [Int.toNat_natCast]; exact List.getElem?_eq_getElem _), ?_⟩
        have hb : byteM s (i + 1) = (s[i + 1].toNat : Int) := by rw [byteM_in hlt, b2]
        rw [← hb, bin_eql, condW_dec]
        refine ⟨fun e => ?_, fun e => ?_⟩
        · rw [bin_add, up1 (by omega), sls_str, bd_some]
          refine ⟨by omega, ?_⟩
          rw [Int.toNat_natCast]
          refine ⟨by show ((k + 1 : Nat) : Int) ≤ 8; omega, ?_⟩
          rw [bd_some]
          refine ⟨by omega, by omega, ?_⟩
          rw [Int.toNat_natCast]
          refine hok _ 2 ?_ _ (hx.trans hxd)
          have key : ∀ m : Fin 8, byteM s (i + 1) = (((([34, 92, 47, 98, 102, 110, 114, 116] : Str)[m.val]'m.isLt).toNat : Nat) : Int) → escM s i = some ((([34, 92, 47, 8, 12, 10, 13, 9] : Str).take (m.val + 1)).drop m.val, 2) := fun m hm => by
            rw [escM_def]
            match m with
            | ⟨0, _⟩ => have hm : byteM s (i + 1) = 34 := hm; rw [hm]; rfl
            | ⟨1, _⟩ => have hm : byteM s (i + 1) = 92 := hm; rw [hm]; rfl
            | ⟨2, _⟩ => have hm : byteM s (i + 1) = 47 := hm; rw [hm]; rfl
            | ⟨3, _⟩ => have hm : byteM s (i + 1) = 98 := hm; rw [hm]; rfl
            | ⟨4, _⟩ => have hm : byteM s (i + 1) = 102 := hm; rw [hm]; rfl
            | ⟨5, _⟩ => have hm : byteM s (i + 1) = 110 := hm; rw [hm]; rfl
            | ⟨6, _⟩ => have hm : byteM s (i + 1) = 114 := hm; rw [hm]; rfl
            | ⟨7, _⟩ => have hm : byteM s (i + 1) = 116 := hm; rw [hm]; rfl
          exact key ⟨k, hlt8⟩ e
        · rw [bin_add, up1 (by omega)]
          refine ⟨⟨k + 1, by omega, rfl, hx.trans hxd, fun m hm => ?_⟩, by simp only [Int.toNat_natCast]; omega⟩
          rcases Nat.lt_or_ge m.val k with h | h
          · exact hall m h
          · have : m = ⟨k, hlt8⟩ := Fin.ext (by show m.val = k; omega)
            rw [this]
            exact e
      · have e : (([34, 92, 47, 98, 102, 110, 114, 116] : Str).length : Int) = 8 := rfl
        exact ⟨hx, fun m => hall m (by have := m.isLt; omega)⟩
    · refine ⟨Chg.refl _ _, fun m => ?_⟩
      rw [byteM_out (by omega)]
      omega
  rintro st g w4 ⟨hx4, hno8⟩
  have n34 : byteM s (i + 1) ≠ 34 := hno8 ⟨0, by omega⟩
  have n92 : byteM s (i + 1) ≠ 92 := hno8 ⟨1, by omega⟩
  have n47 : byteM s (i + 1) ≠ 47 := hno8 ⟨2, by omega⟩
  have n98 : byteM s (i + 1) ≠ 98 := hno8 ⟨3, by omega⟩
  have n102 : byteM s (i + 1) ≠ 102 := hno8 ⟨4, by omega⟩
  have n110 : byteM s (i + 1) ≠ 110 := hno8 ⟨5, by omega⟩
  have n114 : byteM s (i + 1) ≠ 114 := hno8 ⟨6, by omega⟩
  have n116 : byteM s (i + 1) ≠ 116 := hno8 ⟨7, by omega⟩
  rw [escM_def, if_neg n34, if_neg n92, if_neg n47, if_neg n98, if_neg n102, if_neg n110, if_neg n114, if_neg n116] at hok hno
  have hr1 := hexM_range s i
  have hr2 := hexM_range s (i + 6)
  refine hex_ref (by omega) hs ?_
  rw [bin_add, e6]
  refine hex_ref (by omega) hs ?_
  generalize hexM s i = x at *
  generalize hexM s (i + 6) = y at *
  rw [bin_lss]
  simp only [isB_f, isB_t, isB_gd_t, bin_geq, bin_leq, bin_lss, bin_gtr, GdW_pure, GdW_nest_and, List.getD_cons_zero, pick_gd_or]
  intros
  rw [condW_b]
  refine ⟨fun e => ?_, fun e => ?_⟩
  · rw [Bool.or_eq_true, Bool.and_eq_true, decide_eq_true_iff, decide_eq_true_iff, decide_eq_true_iff] at e
    rw [if_pos e] at hno
    exact hno rfl _ hx4
  have e : ¬ (x < 0 ∨ 56320 ≤ x ∧ x ≤ 57343) := by
    intro h
    rw [Bool.or_eq_false_iff, Bool.and_eq_false_iff, decide_eq_false_iff_not, decide_eq_false_iff_not, decide_eq_false_iff_not] at e
    omega
  rw [if_neg e] at hok hno
  intros
  rw [pick_gd_and, condW_b]
  refine ⟨fun e2 => ?_, fun e2 => ?_⟩
  · rw [Bool.and_eq_true, decide_eq_true_iff, decide_eq_true_iff] at e2
    rw [if_pos e2] at hok hno
    intros
    rw [condW_b]
    refine ⟨fun e3 => ?_, fun e3 => ?_⟩
    · rw [Bool.or_eq_true, decide_eq_true_iff, decide_eq_true_iff] at e3
      rw [if_pos e3] at hno
      exact hno rfl _ hx4
    rw [Bool.or_eq_false_iff, decide_eq_false_iff_not, decide_eq_false_iff_not] at e3
    rw [if_neg (by omega)] at hok
    rw [bin_sub, wrap_id (by omega) (by omega), bin_mul, wrap_id (by omega) (by omega), bin_add, wrap_id (by omega) (by omega), bin_add, wrap_id (by omega) (by omega), bin_sub, wrap_id (by omega) (by omega)]
    have en : (65536 + (x - 55296) * 1024 + y - 56320) = (((65536 + (x - 55296) * 1024 + y - 56320).toNat : Nat) : Int) := by omega
    rw [en]
    refine write_ref (by omega) fun w5 hx5 => ?_
    exact hok _ _ rfl _ (hx4.trans hx5)
  · have e2 : ¬ (55296 ≤ x ∧ x ≤ 56319) := fun h => by rw [decide_eq_true h.1, decide_eq_true h.2] at e2; cases e2
    rw [if_neg e2] at hok
    have en : x = ((x.toNat : Nat) : Int) := by omega
    rw [en]
    refine write_ref (by omega) fun w5 hx5 => ?_
    exact hok _ _ rfl _ (hx4.trans hx5)
end
end Go.Proofs.YtcnjpcadejcenaaGreatDoor
namespace Go.Proofs.YtcnjpcadejcenaaGreatDoor
open Go Go.Eng Go.RowKit
set_option maxRecDepth 100000
section
variable [HX]
theorem app_s {w : World} {B : Nat} {v : Value} {l m : Str} {K : Value → World → Prop} (h : Own w B U8 1 v l.length (u8s l)) (hl : l.length + m.length ≤ 100000000000) (hB : B ≤ w.heap.size) (hK : ∀ v' w', Own w' B U8 1 v' (l ++ m).length (u8s (l ++ m)) → Chg (fun q => B ≤ q) w w' → K v' w') :
    semE Tryz.prog (Builtin.append_ #[44, 9] 44 #[v, str m]) w K := by
  obtain ⟨i, z, hi, hzr, h2, h3, h4⟩ := elem_u8.get
  have hz0 : i.zero = some (.int .u8 0) := by
    have : (Tryz.prog.info? U8).map (·.zero) = some (some (.int .u8 0)) := by kernel_rfl
    rw [hi] at this; simpa using this
  obtain ⟨v', w3, hr, hO', hg, _⟩ := Lib.run_append_own_string (P := Tryz.prog) w B 44 9 44 U8 i elem_u8.und (by kernel_rfl) hi hz0 h2 h3 v l.length (u8s l) h (ofL m) (by rw [ofL_size]; unfold maxLen; omega) (by rw [ofL_size]; omega) (by omega)
  unfold semE
  rw [hr]
  dsimp only
  have hO2 : Own w3 B U8 1 v' (l ++ m).length (u8s (l ++ m)) := by
    rw [u8s_app, List.length_append]
    have e1 : Lib.strCells (ofL m) = u8s m := by unfold Lib.strCells u8s; rw [ofL_data]
    rw [ofL_size, e1] at hO'
    exact hO'
  have hc : Chg (fun k => v.ownBlock = some k) w w3 := Chg.of_grown hg fun k e => e
  exact hK v' w3 hO2 (hc.mono fun k _ e => (h.block k e).1)
def celAt (w : World) (p : Nat) : Nat := match w.heap[p]? with | some (.cells cc _ _) => (match (cc[1]? : Option Value) with | some (Value.int _ i) => i.toNat | _ => 0) | _ => 0
theorem Cel.at_ {w : World} {p i c : Nat} {e a : Int} {s : Str} (h : Cel w p s i c e a) : celAt w p = i := by
  unfold Cel at h
  unfold celAt
  rw [h]
  simp
theorem quoted_ref {s : Str} {i c : Nat} {w : World} {K : Value → World → Prop} (hi : i < s.length) (hs : s.length ≤ 1000000)
    (hok : ∀ t j c', quotM En s i c = .ok t j c' → ∀ w', Ext w w' → K (.tuple #[.agg (SS s j c' 0 0).toArray, str t]) w')
    (hbad : ∀ e j, quotM En s i c = .bad e j → ∀ i' w', e ≠ 0 → i' ≤ s.length → Ext w w' → K (.tuple #[.agg (SS s i' c e (j : Nat)).toArray, str []]) w') :
    callF Tryz.prog 119 [.agg (SS s i c 0 0).toArray] w K := by
  refine W119_ok ?_
  unfold W119
  refine cel_box fun p w1 hp h1 hx1 => ?_
  refine alloc_new fun b w2 hb hz2 hbb hx2 => ?_
  have h2 := h1.ext hx2
  have hlt := h1.lt
  have hxs := hx1.size
  refine h2.ld rfl ?_
  refine h2.go (k := 1) (by omega) fun w3 h3 hc3 hz3 => ?_
  have hx3 : Ext w w3 := (hx1.trans hx2).new hc3 (by omega)
  have hbb3 := hc3.at hbb fun e => by have e : b = p := e; omega
  have hBz : w2.heap.size ≤ w3.heap.size := by omega
  generalize hB : w2.heap.size = B at *
  have hpB : p < B := by omega
  have hbB : b < B := by omega
  have hwB : w.heap.size ≤ B := by omega
  refine LoopW.go (fun st w' => ∃ v j out n, st = [v] ∧ Cel w' p s j c 0 0 ∧ Own w' B U8 1 v out.length (u8s out) ∧ w'.heap[b]? = some (.cells zs.toArray StT (0, 0)) ∧ Ext w w' ∧ B ≤ w'.heap.size ∧ j ≤ s.length ∧ out.length ≤ 4 * j ∧ s.length + 1 ≤ n + j ∧ quotGo En s i n j out c = quotM En s i c) (fun _ w' => s.length - celAt w' p)
    ⟨_, i + 1, [], s.length + 1, rfl, h3, ⟨rfl, .inl ⟨rfl, rfl⟩⟩, hbb3, hx3, by omega, by omega, by simp, by omega, rfl⟩ ?_
  rintro st g w4 ⟨v, j, out, n, rfl, h4, hO, hbb, hx, hz, hj, hout, hn, hq⟩
  obtain ⟨n, rfl⟩ : ∃ m, n = m + 1 := ⟨n - 1, by omega⟩
  rw [quotGo] at hq
  simp only [List.getD_cons_zero]
  -- an error
  have err : ∀ {w' : World} {e : Int}, quotM En s i c = .bad e j → e ≠ 0 → Cel w' p s j c 0 0 → Ext w4 w' →
      ldW true 5 (.pointer (some ⟨p, 0, none⟩)) w' fun t27 => fldW 1 (.pointer (some ⟨p, 0, none⟩)) fun t47 => ldW false 1 t47 w' fun t48 => callF Tryz.prog 57 [t27, i64 e, t48] w' fun t31 w9 => stW 5 (.pointer (some ⟨b, 0, none⟩)) t31 w9 fun w10 => ldW true 5 (.pointer (some ⟨b, 0, none⟩)) w10 fun r11 => K (.tuple #[r11, str []]) w10 := fun {w' e} hqe he h' hx' => by
    refine h'.all ?_
    refine h'.ld rfl ?_
    refine fail_ref fun w9 hx9 => ?_
    rw [if_pos rfl, if_pos rfl]
    refine ret_agg ((hx'.trans hx9).at hbb id) rfl rfl rfl fun w10 hc10 => ?_
    exact hbad e j hqe j w10 he hj (((hx.trans hx').trans hx9).new hc10 (by omega))
  have hxd : ∀ w : World, Ext w w.drew := fun w => Chg.drew (Chg.refl (fun _ => False) w)
  refine h4.all ?_
  refine c_ref fun w5 hx5 => ?_
  have h5 := h4.ext hx5
  rw [bin_neq, condW_dec]
  refine ⟨fun e34 => ?_, fun e34 => ?_⟩
  · have e34 : byteM s j ≠ 34 := by simpa using e34
    rw [if_neg e34] at hq
    refine h5.ld rfl ?_
    refine h5.ld rfl ?_
    refine rune_ref (by omega) (by omega) ?_
    refine h5.all ?_
    refine c_ref fun w6 hx6 => ?_
    have h6 := h5.ext hx6
    rw [bin_lss, condW_dec]
    refine ⟨fun e0 => ?_, fun e0 => ?_⟩
    · rw [if_pos e0] at hq
      refine h6.all ?_
      refine h6.ld rfl ?_
      rw [lens_str]
      refine fail_ref fun w9 hx9 => ?_
      rw [if_pos rfl, if_pos rfl]
      refine ret_agg (((hx5.trans hx6).trans hx9).at hbb id) rfl rfl rfl fun w10 hc10 => ?_
      exact hbad _ _ hq.symm j w10 (by decide) hj (((hx.trans (hx5.trans hx6)).trans hx9).new hc10 (by omega))
    rw [if_neg e0] at hq
    have hlt := byte_lt (s := s) (i := j) (by omega)
    refine h6.all ?_
    refine c_ref fun w7 hx7 => ?_
    have h7 := h6.ext hx7
    have hx47 := hx5.trans (hx6.trans hx7)
    rw [bin_eql, condW_dec]
    refine ⟨fun e92 => ?_, fun e92 => ?_⟩
    · rw [if_pos e92] at hq
      refine h7.ld rfl ?_
      refine h7.ld rfl ?_
      refine escape_ref hlt hs (fun t k hk w8 hx8 => ?_) (fun hno w8 hx8 => ?_)
      · rw [hk] at hq
        simp only at hq
        have hfit := escM_fits hk
        have hk2 := (escM_rune hk).2.2
        have hrn := rn_len (escM_rune hk).1
        simp only [ext_tuple]
        refine ⟨_, rfl, _, rfl, ?_⟩
        rw [bin_eql, decide_eq_false (by omega), condW_false]
        have hx48 := hx47.trans hx8
        have h8 := h7.ext hx8
        refine app_s (own_chg hO hx48 fun _ _ e => e) (by omega) (by have := hx48.size; omega) fun v' w9 hO9 hc9 => ?_
        have h9 : Cel w9 p s j c 0 0 := h8.chg hc9 (by show ¬ B ≤ p; omega)
        refine h9.ld rfl ?_
        rw [bin_add, upk (by omega)]
        refine h9.st1 fun w10 h10 hc10 hz10 => ?_
        refine ⟨⟨v', j + k, out ++ t, n, rfl, h10, own_chg hO9 hc10 fun q hq e => by have := (own_in hO9 hq).1; have e : q = p := e; omega, hc10.at (hc9.at (hx48.at hbb id) (by show ¬ B ≤ b; omega)) (fun e => by have e : b = p := e; omega), ?_, by have := hx48.size; have := hc9.size; omega, hfit, by rw [List.length_append]; omega, by omega, hq⟩, ?_⟩
        · exact (((hx.trans hx48).then hc9 fun q hq e => by omega)).new hc10 (by omega)
        · rw [h10.at_, h4.at_]; omega
      · rw [hno] at hq
        simp only [ext_tuple]
        refine ⟨_, rfl, _, rfl, ?_⟩
        rw [bin_eql, decide_eq_true rfl, condW_true]
        have h8 := h7.ext hx8
        exact err hq.symm (by decide) h8 (hx47.trans hx8)
    rw [if_neg e92] at hq
    refine h7.all ?_
    refine c_ref fun w8 hx8 => ?_
    have h8 := h7.ext hx8
    have hx48 := hx47.trans hx8
    rw [bin_lss, condW_dec]
    refine ⟨fun e32 => ?_, fun e32 => ?_⟩
    · rw [if_pos e32] at hq
      exact err hq.symm (by decide) h8 hx48
    rw [if_neg e32] at hq
    rw [bin_eql, condW_dec]
    refine ⟨fun er => ?_, fun er => ?_⟩
    · rw [if_pos (by omega)] at hq
      exact err hq.symm (by decide) h8 hx48
    have hr0 : runeM s j ≠ 0 := by omega
    rw [if_neg hr0] at hq
    have hfit := rune_fits hr0
    obtain ⟨r, hr⟩ := rune_good hlt hr0
    have hsm := hr.small
    refine h8.ld rfl ?_
    refine h8.ld rfl ?_
    refine h8.ld rfl ?_
    rw [bin_add, upk (by omega), sls_str, bd_some]
    refine ⟨by omega, by omega, ?_⟩
    rw [bd_some]
    refine ⟨by omega, by omega, ?_⟩
    simp only [Int.toNat_natCast]
    rw [List.drop_take, Nat.add_sub_cancel_left]
    have htl : ((s.drop j).take (runeM s j)).length = runeM s j := by rw [List.length_take, List.length_drop]; omega
    refine app_s (own_chg hO hx48 fun _ _ e => e) (by omega) (by have := hx48.size; omega) fun v' w9 hO9 hc9 => ?_
    have h9 : Cel w9 p s j c 0 0 := h8.chg hc9 (by show ¬ B ≤ p; omega)
    refine h9.ld rfl ?_
    rw [bin_add, upk (by omega)]
    refine h9.st1 fun w10 h10 hc10 hz10 => ?_
    refine ⟨⟨v', j + runeM s j, out ++ (s.drop j).take (runeM s j), n, rfl, h10, own_chg hO9 hc10 fun q hq e => by have := (own_in hO9 hq).1; have e : q = p := e; omega, hc10.at (hc9.at (hx48.at hbb id) (by show ¬ B ≤ b; omega)) (fun e => by have e : b = p := e; omega), ?_, by have := hx48.size; have := hc9.size; omega, hfit, by rw [List.length_append]; omega, by omega, hq⟩, ?_⟩
    · exact (((hx.trans hx48).then hc9 fun q hq e => by omega)).new hc10 (by omega)
    · rw [h10.at_, h4.at_]; omega
  · have e34 : byteM s j = 34 := by simpa using e34
    rw [if_pos e34] at hq
    have hlt := byte_lt (s := s) (i := j) (by omega)
    refine h5.go (k := 1) (by omega) fun w6 h6 hc6 hz6 => ?_
    have hO6 : Own w6 B U8 1 v out.length (u8s out) := own_chg (own_chg hO hx5 fun _ _ e => e) hc6 fun q hq e => by have := (own_in hO hq).1; have e : q = p := e; omega
    have hbb6 := hc6.at (hx5.at hbb id) (fun e => by have e : b = p := e; omega)
    have hx6 : Ext w w6 := (hx.trans hx5).new hc6 (by omega)
    rw [lenl_at hO6.sl, bin_gtr, condW_dec]
    refine ⟨fun el => ?_, fun el => ?_⟩
    · rw [if_pos (by omega)] at hq
      refine h6.all ?_
      refine fail_ref fun w9 hx9 => ?_
      rw [if_pos rfl, if_pos rfl]
      refine ret_agg (hx9.at hbb6 id) rfl rfl rfl fun w10 hc10 => ?_
      exact hbad _ _ hq.symm (j + 1) w10 (by decide) (by omega) ((hx6.trans hx9).new hc10 (by omega))
    · rw [if_neg (by omega)] at hq
      refine h6.drew.all ?_
      have hO6d : Own w6.drew B U8 1 v out.length (u8s out) := own_chg hO6 (hxd w6) fun _ _ e => e
      refine (conv_bytes (e := U8) (by kernel_rfl) (by kernel_rfl) (by kernel_rfl) hO6d.sl).2 ?_
      have hbb6d : w6.drew.heap[b]? = some (.cells zs.toArray StT (0, 0)) := hbb6
      refine st_agg_at hbb6d rfl rfl rfl fun w7 hz7 hb7 hc7 => ?_
      have hO7 : Own w7 B U8 1 v out.length (u8s out) := own_chg hO6d hc7 fun q hq e => by have := (own_in hO6 hq).1; have e : q = b := e; omega
      refine ⟨(conv_bytes (e := U8) (by kernel_rfl) (by kernel_rfl) (by kernel_rfl) hO7.sl).2 rfl, ?_⟩
      refine ld_all hb7 rfl ?_
      exact hok _ _ _ hq.symm w7 (((hx6.trans (hxd w6)).new hc7 (by omega)))
end
end Go.Proofs.YtcnjpcadejcenaaGreatDoor
namespace Go.Proofs.YtcnjpcadejcenaaGreatDoor
open Go Go.Eng Go.RowKit
set_option maxRecDepth 100000
def BadR (s : Str) (e : Int) (j : Nat) (w : World) (K : Value → World → Prop) : Prop :=
  ∀ i' c' v cs w', e ≠ 0 → i' ≤ s.length → Ext w w' → VRepP (From w.heap.size) w' v cs → K (.tuple #[.agg (SS s i' c' e (j : Nat)).toArray, .agg cs.toArray]) w'
section
variable [HX]
theorem null_rep (G : Nat → Prop) (w : World) : VRepP G w JV.null [i64 0, .bool false, str [], .slice none 0 0, .slice none 0 0] := leaf_rep (k := 0) (b := false) (t := []) (by simp)
theorem number_ref {s : Str} {i c : Nat} {w : World} {K : Value → World → Prop} (hi : i ≤ s.length) (hs : s.length ≤ 1000000)
    (hok : ∀ v j c', numM En s i c = .ok v j c' → ∀ cs w', Ext w w' → VRepP (From w.heap.size) w' v cs → K (.tuple #[.agg (SS s j c' 0 0).toArray, .agg cs.toArray]) w')
    (hbad : ∀ e j, numM En s i c = .bad e j → BadR s e j w K) :
    callF Tryz.prog 118 [.agg (SS s i c 0 0).toArray] w K := by
  refine W118_ok ?_
  unfold W118
  refine cel_box fun p w1 hp h1 hx1 => ?_
  refine alloc_new fun b2 w2 hb2 hz2 hbb2 hx2 => ?_
  refine alloc_new fun b3 w3 hb3 hz3 hbb3 hx3 => ?_
  have h3 := (h1.ext hx2).ext hx3
  have hbb2 := hx3.at hbb2 id
  have hlt := h1.lt
  have hxs := hx1.size
  have hx03 : Ext w w3 := (hx1.trans hx2).trans hx3
  unfold numM at hok hbad
  simp only at hok hbad
  refine h3.ld rfl ?_
  refine JoinW.cut (fun st w' => st = [] ∧ ∃ first, first = (if byteM s i = 45 then i + 1 else i) ∧ first ≤ s.length ∧ Cel w' p s first c 0 0 ∧ Chg (Cr p) w3 w') ?_ ?_
  · refine h3.all ?_
    refine c_ref fun w4 hx4 => ?_
    have h4 := h3.ext hx4
    rw [bin_eql, condW_dec]
    refine ⟨fun e => ?_, fun e => ?_⟩
    · have := byte_lt (s := s) (i := i) (by omega)
      refine h4.go (k := 1) (by omega) fun w5 h5 hc5 _ => ?_
      exact ⟨rfl, i + 1, by rw [if_pos e], by omega, h5, (Chg.of_ext hx4).trans hc5⟩
    · exact ⟨rfl, i, by rw [if_neg e], hi, h4, Chg.of_ext hx4⟩
  rintro st g w4 ⟨rfl, first, hf, hfl, h4, hc4⟩
  rw [← hf] at hok hbad
  refine h4.ld rfl ?_
  refine JoinW.cut (fun st w' => st = [] ∧ ∃ stop, stop = (if byteM s first = 48 then first + 1 else digM s first) ∧ stop ≤ s.length ∧ Cel w' p s stop c 0 0 ∧ Chg (Cr p) w3 w') ?_ ?_
  · refine h4.all ?_
    refine c_ref fun w5 hx5 => ?_
    have h5 := h4.ext hx5
    have hc5 : Chg (Cr p) w3 w5 := hc4.then hx5 fun _ _ e => e.elim
    rw [bin_eql, condW_dec]
    refine ⟨fun e => ?_, fun e => ?_⟩
    · have := byte_lt (s := s) (i := first) (by omega)
      refine h5.go (k := 1) (by omega) fun w6 h6 hc6 _ => ?_
      exact ⟨rfl, first + 1, by rw [if_pos e], by omega, h6, hc5.trans hc6⟩
    · refine LoopW.go (fun st w' => st = [] ∧ ∃ j, Cel w' p s j c 0 0 ∧ Chg (Cr p) w3 w' ∧ j ≤ s.length ∧ digM s j = digM s first) (fun _ w' => s.length - celAt w' p) ⟨rfl, first, h5, hc5, hfl, rfl⟩ ?_
      rintro st g w6 ⟨rfl, j, h6, hc6, hj, hb⟩
      refine h6.all ?_
      refine c_ref fun w7 hx7 => ?_
      refine digit_ref ?_
      have h7 := h6.ext hx7
      have hc7 : Chg (Cr p) w3 w7 := hc6.then hx7 fun _ _ e => e.elim
      rw [condW_b]
      refine ⟨fun hd => ?_, fun hn => ?_⟩
      · have hg := dig_go' hd
        refine h7.go (k := 1) (by omega) fun w8 h8 hc8 _ => ?_
        refine ⟨⟨rfl, j + 1, h8, hc7.trans hc8, by omega, by rw [← hb, hg.2]⟩, ?_⟩
        rw [h8.at_, h6.at_]; omega
      · rw [dig_stop hn] at hb
        subst hb
        exact ⟨rfl, _, by rw [if_neg e], hj, h7, hc7⟩
  rintro st g w5 ⟨rfl, stop, hst, hsl, h5, hc5⟩
  rw [← hst] at hok hbad
  have hge : first ≤ stop := by rw [hst]; split; omega; exact digM_ge _ _
  have hif : i ≤ first ∧ first ≤ i + 1 := by rw [hf]; split <;> omega
  -- what is handed back
  have fin : ∀ {w' : World} {l cs : List Value}, Chg (Cr p) w3 w' → l.length = 5 → l.all one1 = true → cs.length = 5 → cs.all one1 = true → (∀ w'', Ext w w'' → K (.tuple #[.agg l.toArray, .agg cs.toArray]) w'') →
      stW 5 (.pointer (some ⟨b2, 0, none⟩)) (.agg l.toArray) w' fun w1 => stW 5 (.pointer (some ⟨b3, 0, none⟩)) (.agg cs.toArray) w1 fun w2 => ldW true 5 (.pointer (some ⟨b2, 0, none⟩)) w2 fun r => ldW true 5 (.pointer (some ⟨b3, 0, none⟩)) w2 fun q => K (.tuple #[r, q]) w2 := fun {w' l cs} hc hl hl1 hcl hc1 hk => by
    refine ret_two (hc.at hbb2 fun e => by have e : b2 = p := e; omega) rfl (hc.at hbb3 fun e => by have e : b3 = p := e; omega) rfl (by omega) hl hl1 hcl hc1 fun w'' hc'' => ?_
    refine hk w'' ((hx03.new hc (by omega)).then hc'' fun k hk e => by omega)
  have bad : ∀ {w' : World} {e : Int} {k : Nat}, Chg (Cr p) w3 w' → BadR s e k w K → e ≠ 0 →
      callF Tryz.prog 57 [.agg (SS s stop c 0 0).toArray, i64 e, i64 (k : Nat)] w' fun t39 w17 => putW [(.int .i64 0), (.bool false), (.string (ofL [])), (.slice none 0 0), (.slice none 0 0)] [] fun c18 => stW 5 (.pointer (some ⟨b2, 0, none⟩)) t39 w17 fun w19 => stW 5 (.pointer (some ⟨b3, 0, none⟩)) (.agg c18.toArray) w19 fun w20 => ldW true 5 (.pointer (some ⟨b2, 0, none⟩)) w20 fun r21 => ldW true 5 (.pointer (some ⟨b3, 0, none⟩)) w20 fun r22 => K (.tuple #[r21, r22]) w20 := fun {w' e k} hc hb he => by
    refine fail_ref fun w9 hx9 => ?_
    rw [if_pos rfl, if_pos rfl, put_nil]
    refine fin (hc.then hx9 fun _ _ e => e.elim) rfl rfl rfl rfl fun w'' hx'' => ?_
    exact hb stop c JV.null _ w'' he hsl hx'' (null_rep _ _)
  refine h5.ld rfl ?_
  rw [bin_eql, condW_dec]
  refine ⟨fun e => ?_, fun e => ?_⟩
  · have e : stop = first := by omega
    rw [if_pos e] at hbad
    refine h5.all ?_
    refine h5.ld rfl ?_
    exact bad hc5 (hbad _ _ rfl) (by decide)
  have hne : stop ≠ first := by omega
  rw [if_neg hne] at hok hbad
  refine h5.ld rfl ?_
  rw [bin_sub, bin_gtr, wrap_id (by omega) (by omega), condW_dec]
  refine ⟨fun e2 => ?_, fun e2 => ?_⟩
  · rw [if_pos (by omega)] at hbad
    refine h5.all ?_
    exact bad hc5 (hbad _ _ rfl) (by decide)
  rw [if_neg (by omega)] at hok hbad
  refine h5.all ?_
  refine c_ref fun w6 hx6 => ?_
  refine digit_ref ?_
  have look : ∀ {w' : World} {n : Int} {J : List Value → World → Prop}, Ext w5 w' → (∀ w'', Ext w5 w'' → J [.bool (decide (byteM s stop = n))] w'') →
      ldW true 5 (.pointer (some ⟨p, 0, none⟩)) w' fun t => callF Tryz.prog 116 [t] w' fun t8 w7 => binW .eql t8 (.int .i64 n) fun t9 => J [t9] w7 := fun {w' n J} hx' hJ => by
    refine (h5.ext hx').all ?_
    refine c_ref fun w5 hx5 => ?_
    rw [bin_eql]
    exact hJ w5 (hx'.trans hx5)
  refine GdW.act (decide (byteM s stop = 46)) (fun w' => Ext w5 w') (fun _ => hx6) (fun _ J hJ => look hx6 hJ) ?_
  intro g2 w7 hx7
  simp only [List.getD_cons_zero, isB_f]
  rw [pick_gd_or]
  simp only [isB_f]
  refine GdW.act (decide (byteM s stop = 101)) (fun w' => Ext w5 w') (fun _ => hx7) (fun _ J hJ => look hx7 hJ) ?_
  intro g3 w8 hx8
  simp only [List.getD_cons_zero, isB_f]
  rw [pick_gd_or]
  simp only [isB_f]
  refine GdW.act (decide (byteM s stop = 69)) (fun w' => Ext w5 w') (fun _ => hx8) (fun _ J hJ => look hx8 hJ) ?_
  intro g4 w9 hx9
  simp only [List.getD_cons_zero, isB_f]
  rw [pick_gd_or, condW_b]
  have h9 := h5.ext hx9
  have hc9 : Chg (Cr p) w3 w9 := hc5.then hx9 fun _ _ e => e.elim
  refine ⟨fun e3 => ?_, fun e3 => ?_⟩
  · rw [if_pos e3] at hbad
    refine h9.all ?_
    refine h9.ld rfl ?_
    exact bad hc9 (hbad _ _ rfl) (by decide)
  rw [if_neg (by rw [e3]; simp)] at hok
  refine h9.ld rfl ?_
  refine h9.ld rfl ?_
  rw [sls_str, bd_some]
  refine ⟨by omega, by omega, ?_⟩
  rw [bd_some]
  refine ⟨by omega, by omega, ?_⟩
  simp only [Int.toNat_natCast]
  rw [List.drop_take]
  have htl : ((s.drop i).take (stop - i)).length ≤ 1000000 := by rw [List.length_take, List.length_drop]; omega
  generalize ht : (s.drop i).take (stop - i) = t at *
  refine JoinW.cut (fun st w' => st = [str (if t = [45, 48] then [48] else t)] ∧ w' = w9) ?_ ?_
  · rw [bin_seq, condW_dec]
    refine ⟨fun e => ?_, fun e => ?_⟩
    · rw [if_pos e]; exact ⟨rfl, rfl⟩
    · rw [if_neg e]; exact ⟨rfl, rfl⟩
  rintro st g5 w10 ⟨rfl, rfl⟩
  refine h9.all ?_
  simp only [List.getD_cons_zero, put_int, put_str, put_nil, List.length_cons, List.length_nil, List.set_cons_zero, List.set_cons_succ]
  refine ⟨by omega, by omega, ?_⟩
  refine fin hc9 rfl rfl rfl rfl fun w'' hx'' => ?_
  exact hok _ _ _ rfl _ w'' hx'' (leaf_rep (by split <;> (first | simp | omega)))
end
end Go.Proofs.YtcnjpcadejcenaaGreatDoor
