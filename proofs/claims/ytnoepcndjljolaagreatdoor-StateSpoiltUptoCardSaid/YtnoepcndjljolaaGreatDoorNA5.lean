/- One plain sentence: weakest preconditions, contracts and plain laws that the claim rests on, text behind text. Conditions: those that each states. -/
import Derived.Test.YtnoepcndjljolaaGreatDoorNA4
import Derived.Test.YtnoepcndjljolaaGreatDoorNA2
import Derived.Lib.ItoaNum
import Derived.Test.YtnoepcndjljolaaGreatDoorNA1
import Derived.Lib.Atoi
import Derived.Lib.AtoiBound
import Derived.Lib.AtoiAll
import Derived.ArgAppend
import Derived.Test.YtnoepcndjljolaaGreatDoorNA3
import Derived.Lib.SlBytesConst
import Derived.Deep.Slices
import Derived.DataReads
import Derived.ChangeArms
import Derived.OpenShut
import Derived.Test.YtnoepcndjljolaaGreatDoorRows
import Derived.Below
import Derived.RowKit
import Derived.ChangeMaps5
import Derived.MakeChecks
import Derived.Lib.LaidU8T
import Derived.Lib.LaidTab
import Derived.JoinedCond
import Derived.Handed
set_option linter.all false
set_option linter.unusedSimpArgs false
set_option linter.unusedVariables false
set_option linter.unusedSectionVars false
namespace Go.Proofs.YtnoepcndjljolaaGreatDoor
open Go Go.Eng Go.Num Go.RowKit
set_option maxRecDepth 100000
abbrev zr : List Value := [.string (ofL []), .string (ofL []), .string (ofL []), .int .i64 0, .bool false, .string (ofL []), .slice none 0 0, .slice none 0 0, .slice none 0 0]
theorem elem_r : ElemT Tryz.prog 22 RT 9 152 := ⟨by kernel_rfl, by kernel_rfl, by decide⟩
section
variable [HX]
theorem row_r {w : World} {cs : List Value} {K : Value → World → Prop} (hc : cs.length = 9) (hK : ∀ t w', SlAt w' RT t 1 cs → Ext w w' → K t w') : bslW RT 1 zr [(0, 9, .agg cs.toArray)] w K := by
  unfold bslW
  have hp : ∀ K : List Value → Prop, K cs → putW zr [(0, 9, .agg cs.toArray)] K := by
    intro K hK
    refine ⟨by simp [Value.cells, hc], by simp, ?_⟩
    have : List.take 0 zr ++ ((Value.agg cs.toArray).cells.toList ++ List.drop (0 + 9) zr) = cs := by simp [Value.cells]
    rw [this]
    exact hK
  refine hp _ ?_
  exact hK _ _ (own_new (w := w) (base := w.heap.size) (e := RT) (size := 9) (n := 1) (cs := cs) (Nat.le_refl _) (by omega) (by omega)).sl (by repeat (first | assumption | exact Chg.refl _ _ | refine Chg.drew ?_ | refine Chg.alloc ?_ _ | refine Chg.set ?_ (by first | exact .inl rfl | exact .inr (by omega) | exact .inr (by simp only [size_set, size_alloc, size_drew]; omega) | (left; simp; done)) _ | exact Chg.of_ext (by assumption)))
theorem rec_at {G : Nat → Prop} {w : World} {T : TypeId} {sv : Value} {l : List RV} {L : List Value} {i : Nat} {x : RV} (h : SlAt w T sv l.length L) (hr : RRepsP G w l L) (hx : l[i]? = some x) :
    ∃ p : Addr, (∀ K : Value → Prop, K (.pointer (some p)) → ixaW none 9 sv (i64 (i : Nat)) K) ∧ (∀ (w' : World) (K : Value → Prop), w'.heap = w.heap → K (str x.addr) → ldW false 1 (.pointer (some (p.add 0))) w' K) ∧
      ∃ cs, RRepP G w x cs ∧ ∀ (w' : World) (K : Value → Prop), w'.heap = w.heap → K (.agg cs.toArray) → ldW true 9 (.pointer (some p)) w' K := by
  obtain ⟨hi, _⟩ := List.getElem?_eq_some_iff.1 hx
  have hlen := hr.len
  obtain ⟨q, cap, rfl, h1, h2, h3⟩ := h
  obtain ⟨b, off, c, fr, rfl, hb, hcs⟩ := h3 (by intro e; rw [e] at hlen; simp at hlen; omega)
  obtain ⟨cs, hc, hg⟩ := hr.get hx
  have hin : ∀ j, j < 9 → c[off + i * 9 + j]? = cs[j]? := fun j hj => by
    rw [← hg j hj, ← hcs (i * 9 + j) (by omega)]
    congr 1; omega
  refine ⟨⟨b, off + i * 9, none⟩, fun K hK => ?_, fun w' K hw hK => ?_, cs, hc, fun w' K hw hK => ld_cells (by rw [hw]; exact hb) hc.len hin hK⟩
  · rw [ixa_slice, Int.toNat_natCast, add_mk]
    exact ⟨by omega, by omega, hK⟩
  · have hds : cs[0]? = some (str x.addr) := by obtain ⟨vcs, dv, T, rfl, _⟩ := hc; rfl
    rw [ld_one]
    exact ⟨_, by rw [add_mk, cell_eq, hw, hb, cellO_some, ← hds, ← hin 0 (by omega)], hK⟩
structure GrowR (G : Nat → Prop) (w0 w : World) (p B : Nat) (ser : Int) (ov : Value) (xs : List RV) : Prop where
  ext : Ext w0 w
  hb : w.heap[p]? = some (.cells [i64 ser, ov].toArray StaT (0, 0))
  lo : w0.heap.size ≤ p
  lt : p < B
  le : B ≤ w.heap.size
  own : ∃ L, Own w B RT 9 ov xs.length L ∧ RRepsP (fun k => G k ∧ k < w0.heap.size) w xs L
theorem GrowR.more {G : Nat → Prop} {w0 w w' : World} {p B : Nat} {ser : Int} {ov : Value} {xs : List RV} (h : GrowR G w0 w p B ser ov xs) (hx : Ext w w') : GrowR G w0 w' p B ser ov xs :=
  ⟨h.ext.trans hx, hx.at h.hb id, h.lo, h.lt, Nat.le_trans h.le hx.size, let ⟨L, h1, h2⟩ := h.own; ⟨L, h1.ext hx, h2.ext hx⟩⟩
theorem GrowR.ld {G : Nat → Prop} {w0 w : World} {p B : Nat} {ser : Int} {ov : Value} {xs : List RV} {K : Value → Prop} (h : GrowR G w0 w p B ser ov xs) (hk : K ov) : ldW false 1 (.pointer (some ((⟨p, 0, none⟩ : Addr).add 1))) w K := by
  rw [ld_one]
  exact ⟨ov, by rw [add_mk, cell_eq, h.hb, cellO_some]; rfl, hk⟩
theorem GrowR.rep {G : Nat → Prop} {w0 w : World} {p B : Nat} {ser : Int} {ov : Value} {xs : List RV} (h : GrowR G w0 w p B ser ov xs) : StRepP G w ser xs [i64 ser, ov] := by
  obtain ⟨L, h1, h2⟩ := h.own
  exact ⟨ov, RT, L, rfl, h1.sl, h2.mono fun k _ hk => hk.1⟩
theorem GrowR.all {G : Nat → Prop} {w0 w : World} {p B : Nat} {ser : Int} {ov : Value} {xs : List RV} {K : Value → Prop} (h : GrowR G w0 w p B ser ov xs) (hk : K (.agg [i64 ser, ov].toArray)) : ldW true 2 (.pointer (some ⟨p, 0, none⟩)) w K := ld_all h.hb rfl hk
theorem GrowR.app {G : Nat → Prop} {w0 w : World} {p B : Nat} {ser : Int} {ov t : Value} {xs : List RV} {x : RV} {cs : List Value} {K : World → Prop} (h : GrowR G w0 w p B ser ov xs) (ht : SlAt w RT t 1 cs) (hx : RRepP (fun k => G k ∧ k < w0.heap.size) w x cs) (hl : xs.length ≤ 100000)
    (hK : ∀ ov' w', GrowR G w0 w' p B ser ov' (xs ++ [x]) → (∀ k, k < B → k ≠ p → w'.heap[k]? = w.heap[k]?) → K w') : semE Tryz.prog (Builtin.append_ #[22, 22] 22 #[ov, t]) w fun t2 w1 => stW 1 (.pointer (some ((⟨p, 0, none⟩ : Addr).add 1))) t2 w1 K := by
  obtain ⟨L, hO, hR⟩ := h.own
  have hlo := h.lo
  have hlt := h.lt
  refine append_own3 elem_r hO ht (m := 1) (by rw [hx.len]) hx.one (by omega) (by omega) h.le fun v' w1 hO1 hc1 _ => ?_
  have hno : ∀ k, ov.ownBlock = some k → B ≤ k := fun k hk => (own_in hO hk).1
  have hb1 := hc1.at h.hb fun e => by have := hno p e; omega
  have hR1 : RRepsP (fun k => G k ∧ k < w0.heap.size) w1 (xs ++ [x]) (L ++ cs) := RRepsP.chg hc1 (fun k hk _ e => by have := hno k e; omega) (hR.snoc hx)
  have hx1 : Ext w0 w1 := h.ext.then hc1 fun k hk e => by have := hno k e; omega
  rw [add_mk, Nat.zero_add]
  refine st_at hb1 (by obtain ⟨q, c, e, _⟩ := hO1.sl.shape; rw [e]; rfl) (by simp) fun w2 hz2 hb2 hc2 => ?_
  refine hK v' w2 ⟨hx1.new hc2 hlo, by rw [hb2]; simp, hlo, hlt, by have := h.le; have := hc1.size; omega, L ++ cs, ?_, RRepsP.chg hc2 (fun k hk _ e => by have := hk.2; have e : k = p := e; omega) hR1⟩ fun k hkB hkp => ?_
  · rw [List.length_append, List.length_singleton]
    exact hO1.chg hc2 fun k hk e => by have := hk.1; have e : k = p := e; omega
  · have := h.le
    have := hc1.size
    rw [hc2.heap k (by omega) hkp, hc1.heap k (by omega) fun e => by have := hno k e; omega]
theorem same15_ref {G G' : Nat → Prop} {s1 s2 : Int} {l m : List RV} {cs ds : List Value} {w : World} {K : Value → World → Prop} (h : StRepP G w s1 l cs) (h' : StRepP G' w s2 m ds) (hl : l.length ≤ 9223372036854775807) (hK : ∀ b w', (b = true ↔ s1 = s2 ∧ l = m) → Ext w w' → K (.bool b) w') :
    callF Tryz.prog 10 [.agg cs.toArray, .agg ds.toArray] w K := by
  refine W10_ok ?_
  unfold W10
  refine box_st h fun p w1 sv e1 hA hx1 hp => ?_
  refine box_st (h'.ext hx1) fun q w2 tv e2 hB hx2 hq => ?_
  have hA := hA.ext hx2
  have hx02 := hx1.trans hx2
  simp only [fld_ptr]
  refine hA.ser ?_
  refine hB.ser ?_
  rw [bin_neq]
  simp only [isB_f]
  refine GdW.look (decide (((l.length : Nat) : Int) ≠ ((m.length : Nat) : Int))) (fun _ J hJ => ?_) fun g => ?_
  · refine hA.recs ?_
    rw [hA.len]
    refine hB.recs ?_
    rw [hB.len, bin_neq]
    exact hJ
  simp only [List.getD_cons_zero]
  rw [pick_gd_or, condW_b]
  refine ⟨fun e => ?_, fun e => ?_⟩
  · refine hK false w2 ⟨(fun e => by cases e), fun ⟨e1, e2⟩ => ?_⟩ hx02
    have d1 : decide (s1 ≠ s2) = false := by rw [e1]; simp
    have d2 : decide (((l.length : Nat) : Int) ≠ ((m.length : Nat) : Int)) = false := by rw [e2]; simp
    rw [d1, d2] at e
    cases e
  simp only [Bool.or_eq_false_iff, decide_eq_false_iff_not, Decidable.not_not] at e
  obtain ⟨es, el⟩ := e
  have el : l.length = m.length := by omega
  refine hA.recs ?_
  rw [hA.len]
  refine loop_up l.length (fun i w' => Ext w2 w' ∧ l.take i = m.take i) ⟨Chg.refl _ _, rfl⟩ ?_ ?_
  · rintro i w6 g L hi ⟨hx6, ht⟩ hL
    have hxd : Ext w6 w6.drew := Chg.drew (Chg.refl (fun _ => False) w6)
    have hA6 := (hA.ext hx6).ext hxd
    have hB6 := (hB.ext hx6).ext hxd
    obtain ⟨a, ha⟩ : ∃ a, l[i]? = some a := ⟨_, List.getElem?_eq_getElem hi⟩
    obtain ⟨b, hb⟩ : ∃ b, m[i]? = some b := ⟨_, List.getElem?_eq_getElem (by omega)⟩
    simp only [List.getD_cons_zero]
    rw [bin_lss, decide_eq_true (by omega), condW_true]
    refine hA6.recs ?_
    obtain ⟨T1, L1, s1, r1⟩ := hA6.sl
    obtain ⟨T2, L2, s2, r2⟩ := hB6.sl
    refine rec_ld s1 r1 ha fun as1 h1 => ?_
    refine hB6.recs ?_
    refine rec_ld s2 r2 hb fun bs1 h2 => ?_
    refine rec15_ref h1 h2 fun w7 hx7 => ?_
    have hx27 := hx6.trans (hxd.trans hx7)
    rw [un_not, condW_b]
    refine ⟨fun e => ?_, fun e => ?_⟩
    · refine hK false w7 ⟨(fun e => by cases e), fun ⟨_, e2⟩ => ?_⟩ (hx02.trans hx27)
      subst e2
      rw [ha] at hb
      cases hb
      rw [(sameR_iff a a).2 rfl] at e
      cases e
    · rw [bin_add, up1 (by omega)]
      refine hL w7 ⟨hx27, ?_⟩
      have hab : a = b := (sameR_iff a b).1 (by simpa using e)
      rw [List.take_add_one, List.take_add_one, ht, ha, hb, hab]
  rintro w6 g L ⟨hx6, ht⟩
  simp only [List.getD_cons_zero]
  rw [bin_lss, decide_eq_false (by omega), condW_false]
  refine hK true w6 ⟨fun _ => ⟨es, ?_⟩, fun _ => rfl⟩ (hx02.trans hx6)
  rw [List.take_length, el, List.take_length] at ht
  exact ht
end
end Go.Proofs.YtnoepcndjljolaaGreatDoor

namespace Go.Eng
open Go
structure AV where
  mods : List Str
  typ : Str
  nm : Str
  kind : Int
  num : Int
  key : Str
  aside : Bool
def AV.zero : AV := ⟨[], [], [], 0, 0, [], false⟩
structure Lin {α : Type} (c : α → α → Int) : Prop where
  zero : ∀ a b, c a b = 0 ↔ a = b
  anti : ∀ a b, c b a = - c a b
  trans : ∀ a b d, c a b ≤ 0 → c b d ≤ 0 → c a d ≤ 0
theorem Lin.of {α β : Type} {c : β → β → Int} (f : α → β) (hf : ∀ a b, f a = f b → a = b) (h : Lin c) : Lin (fun a b => c (f a) (f b)) where
  zero a b := by rw [h.zero]; exact ⟨hf a b, fun e => by rw [e]⟩
  anti a b := h.anti _ _
  trans a b d := h.trans _ _ _
end Go.Eng


namespace Go.Proofs.YtnoepcndjljolaaGreatDoor
open Go Go.Eng Go.RowKit
set_option maxRecDepth 100000
section
variable [HX]
theorem dec_len : ∀ (k u : Nat), u < 10 ^ k → (Lib.decDigits u).length ≤ k + 1 := by
  intro k
  induction k with
  | zero => intro u h; rw [Lib.decDigits, dif_pos (by omega)]; simp
  | succ k ih =>
    intro u h
    rw [Lib.decDigits]
    split
    · simp
    · have := ih (u / 10) (by rw [Nat.pow_succ] at h; omega)
      rw [List.length_append, List.length_singleton]; omega
theorem ext_grow (w : World) (k : Nat) (os : Array Obj) : Ext w (Sort.grow (w.drewN k) os) :=
  ⟨rfl, rfl, rfl, by show w.heap.size ≤ (w.heap ++ os).size; simp, fun j hj _ => by show (w.heap ++ os)[j]? = _; rw [Array.getElem?_append_left hj]⟩
theorem itoa_p {n : Int} {w : World} {K : Value → World → Prop} (hT : Tabs w) (h1 : -9223372036854775808 ≤ n) (h2 : n ≤ 9223372036854775807) (hK : ∀ w', Ext w w' → K (str (Lib.itoa n)) w') : callF Tryz.prog 90 [i64 n] w K := by
  refine of_calls (args := #[i64 n]) Tryz.call90 ((Tryz.strconv_Itoa n h1 h2 w hT.pow).mono ?_)
  rintro e w' ⟨rfl, k, os, rfl⟩
  exact ⟨_, rfl, hK _ (ext_grow w k os)⟩
theorem itoa_len {n : Int} (h1 : -9223372036854775808 ≤ n) (h2 : n ≤ 9223372036854775807) : (Lib.itoa n).length ≤ 30 := by
  unfold Lib.itoa
  split
  · have := dec_len 19 n.natAbs (by omega)
    simp only [List.length_cons]; omega
  · have := dec_len 19 n.toNat (by omega)
    omega
theorem var_ext {P : Program} {w w' : World} {name : String} {c : Array Value} (hx : Ext w w') (h : w.var? P name = some c) : w'.var? P name = some c := by
  unfold World.var? at h ⊢
  cases hg : P.globalNamed name with
  | none => rw [hg] at h; cases h
  | some g =>
    rw [hg] at h
    simp only [Option.bind_some] at h ⊢
    cases hb : w.heap[g]? with
    | none => rw [hb] at h; cases h
    | some o => rw [hx.at hb id]; rw [hb] at h; exact h
theorem Tabs.ext {w w' : World} (h : Tabs w) (hx : Ext w w') : Tabs w' := ⟨h.utf.ext hx, cell_ext hx h.bru, var_ext hx h.pow⟩
section
variable {s f : Str} {c a : Int} {d : Nat}
end
end
end Go.Proofs.YtnoepcndjljolaaGreatDoor
namespace Go.Proofs.YtnoepcndjljolaaGreatDoor
open Go Go.Eng
set_option maxRecDepth 100000
variable [HX]
def plan60 : Plan := { js := [(14, ⟨[13], [4, 5], 13⟩)], ds := [(26, ⟨[0, 1, 2, 3, 4, 5, 6, 7, 8], [[], [], [0, 1], [0, 1, 2], [], [], [4, 5], [4, 5, 6], [0, 1, 2, 3, 4, 5, 6, 7]]⟩)] }
def W60 (v0 v1 : Value) (w : World) (K : Value → World → Prop) : Prop :=
  lenlW v0 fun t7 =>
  lenlW v1 fun t9 =>
  binW .neq t7 t9 fun t10 =>
  condW t10 (
    K (.bool false) w) (
    lenlW v0 fun t12 =>
    LoopW [(.int .i64 0)] w fun s1 _ w2 L1 =>
      binW .lss (s1.getD 0 undef) t12 fun t14 =>
      condW t14 (
        ixaW none 1 v0 (s1.getD 0 undef) fun t18 =>
        ldW false 1 t18 w2.drew fun t19 =>
        ixaW none 1 v1 (s1.getD 0 undef) fun t22 =>
        ldW false 1 t22 w2.drew fun t23 =>
        binW .neq t19 t23 fun t24 =>
        condW t24 (
          K (.bool false) w2.drew) (
          binW .add (s1.getD 0 undef) (.int .i64 1) fun t25 =>
          L1 [t25] w2.drew)) (
        K (.bool true) w2))
theorem W60_eq (v0 v1 : Value) (w : World) (K : Value → World → Prop) : funW Tryz.prog Tryz.f60 plan60 [v0, v1] w K = W60 v0 v1 w K := by kernel_rfl
theorem W60_chk : chkFun Tryz.prog Tryz.f60 plan60 2 = true := by kernel_rfl
theorem W60_ok {v0 v1 : Value} {w : World} {K : Value → World → Prop} (h : W60 v0 v1 w K) : callF Tryz.prog 60 [v0, v1] w K :=
  tie Tryz.prog 60 Tryz.f60 plan60 [v0, v1] w K 2 (W60 v0 v1 w K) rfl mixed Tryz.func60 W60_chk (W60_eq v0 v1 w K) Tryz.call60 h
end Go.Proofs.YtnoepcndjljolaaGreatDoor
namespace Go.Proofs.YtnoepcndjljolaaGreatDoor
open Go Go.Eng
set_option maxRecDepth 100000
variable [HX]
def plan61 : Plan := { js := [], ds := [] }
def W61 (v0 : Value) (w : World) (K : Value → World → Prop) : Prop :=
  callF Tryz.prog 120 [v0] w fun t8 w1 =>
  extW 0 t8 fun t9 =>
  extW 1 t8 fun t10 =>
  eqQ Tryz.prog .neq 103 false true t10 .nilIface w1 fun t12 =>
  condW t12 (
    callF Tryz.prog 121 [(.string (ofL [65, 116, 111, 105])), v0, (.int .i64 0), (.int .i64 0), t10] w1 fun t16 w2 =>
    K (.tuple #[t9, t16]) w2) (
    K (.tuple #[t9, .nilIface]) w1)
theorem W61_eq (v0 : Value) (w : World) (K : Value → World → Prop) : funW Tryz.prog Tryz.f61 plan61 [v0] w K = W61 v0 w K := by kernel_rfl
theorem W61_chk : chkFun Tryz.prog Tryz.f61 plan61 1 = true := by kernel_rfl
theorem W61_ok {v0 : Value} {w : World} {K : Value → World → Prop} (h : W61 v0 w K) : callF Tryz.prog 61 [v0] w K :=
  tie Tryz.prog 61 Tryz.f61 plan61 [v0] w K 1 (W61 v0 w K) rfl mixed Tryz.func61 W61_chk (W61_eq v0 w K) Tryz.call61 h
def plan120 : Plan := { js := [(30, ⟨[6, 49], [2, 3, 6, 8], 49⟩), (10, ⟨[0], [0, 2, 3], 6⟩), (12004, ⟨[38], [], 36⟩), (6002, ⟨[29], [], 22⟩), (6003, ⟨[28], [], 23⟩), (6005, ⟨[27], [], 26⟩), (6008, ⟨[25], [], 23⟩), (6009, ⟨[22], [], 22⟩), (6012, ⟨[19], [], 14⟩), (6014, ⟨[18], [], 17⟩), (6017, ⟨[16], [], 14⟩)], ds := [] }
def W120 (v0 : Value) (w : World) (K : Value → World → Prop) : Prop :=
  lensW v0 fun t12 =>
  GdW (isB (.bool false) true) [undef] w (fun J1 =>
    binW .lss (.int .i64 0) t12 fun t15 =>
    J1 [t15] w)
  fun s1 _ w2 =>
  GdW (isB (s1.getD 0 undef) true) [undef] w2 (fun J3 =>
    binW .lss t12 (.int .i64 10) fun t18 =>
    J3 [t18] w2)
  fun s3 _ w4 =>
  GdW (isB (.bool false) true) [undef] w4 (fun J5 =>
    pickW (s1.getD 0 undef) (s3.getD 0 undef) (.bool false) fun t19 =>
    J5 [t19] w4)
  fun s5 _ w6 =>
  pickW (.bool false) (s5.getD 0 undef) (.bool false) fun t20 =>
  GdW (isB t20 false) [undef] w6 (fun J7 =>
    J7 [(.bool true)] w6)
  fun s7 _ w8 =>
  GdW (isB (s7.getD 0 undef) true) [undef] w8 (fun J9 =>
    binW .lss (.int .i64 0) t12 fun t24 =>
    J9 [t24] w8)
  fun s9 _ w10 =>
  GdW (isB (s9.getD 0 undef) true) [undef] w10 (fun J11 =>
    binW .lss t12 (.int .i64 19) fun t27 =>
    J11 [t27] w10)
  fun s11 _ w12 =>
  GdW (isB (s7.getD 0 undef) true) [undef] w12 (fun J13 =>
    pickW (s9.getD 0 undef) (s11.getD 0 undef) (.bool false) fun t28 =>
    J13 [t28] w12)
  fun s13 _ w14 =>
  GdW (isB t20 false) [undef] w14 (fun J15 =>
    pickW (s7.getD 0 undef) (s13.getD 0 undef) (.bool false) fun t29 =>
    J15 [t29] w14)
  fun s15 _ w16 =>
  pickW t20 (.bool true) (s15.getD 0 undef) fun t30 =>
  condW t30 (
    JoinW (fun J17 =>
      ixsW v0 (.int .i64 0) fun t33 =>
      binW .eql t33 (.int .u8 45) fun t34 =>
      GdW (isB t34 false) [undef] w16 (fun J18 =>
        ixsW v0 (.int .i64 0) fun t37 =>
        binW .eql t37 (.int .u8 43) fun t38 =>
        J18 [t38] w16)
      fun s18 _ w19 =>
      pickW t34 (.bool true) (s18.getD 0 undef) fun t39 =>
      condW t39 (
        slsW v0 (some (.int .i64 1)) none fun t41 =>
        lensW t41 fun t43 =>
        binW .lss t43 (.int .i64 1) fun t44 =>
        condW t44 (
          K (.tuple #[(.int .i64 0), (.iface 201 (.int .i64 2))]) w19) (
          J17 [t41] w19)) (
        J17 [v0] w19))
    fun s17 _ w20 =>
    semE Tryz.prog (convert 9 27 (s17.getD 0 undef)) w20 fun t47 w21 =>
    lenlW t47 fun t48 =>
    LoopW [(.int .i64 0), (.int .i64 0)] w21 fun s22 _ w23 L22 =>
      binW .lss (s22.getD 1 undef) t48 fun t50 =>
      condW t50 (
        ixaW none 1 t47 (s22.getD 1 undef) fun t51 =>
        ldW false 1 t51 w23 fun t52 =>
        binW .sub t52 (.int .u8 48) fun t54 =>
        binW .gtr t54 (.int .u8 9) fun t56 =>
        condW t56 (
          K (.tuple #[(.int .i64 0), (.iface 201 (.int .i64 2))]) w23) (
          binW .mul (s22.getD 0 undef) (.int .i64 10) fun t59 =>
          cvtW .i64 t54 fun t61 =>
          binW .add t59 t61 fun t62 =>
          binW .add (s22.getD 1 undef) (.int .i64 1) fun t63 =>
          L22 [t62, t63] w23)) (
        ixsW v0 (.int .i64 0) fun t65 =>
        binW .eql t65 (.int .u8 45) fun t66 =>
        condW t66 (
          unW .neg (s22.getD 0 undef) fun t68 =>
          K (.tuple #[t68, .nilIface]) w23) (
          K (.tuple #[(s22.getD 0 undef), .nilIface]) w23))) (
    callF Tryz.prog 175 [v0, (.int .i64 10), (.int .i64 0)] w16 fun t72 w24 =>
    extW 0 t72 fun t73 =>
    extW 1 t72 fun t74 =>
    K (.tuple #[t73, t74]) w24)
theorem W120_eq (v0 : Value) (w : World) (K : Value → World → Prop) : funW Tryz.prog Tryz.f120 plan120 [v0] w K = W120 v0 w K := by kernel_rfl
theorem W120_chk : chkFun Tryz.prog Tryz.f120 plan120 1 = true := by kernel_rfl
theorem W120_ok {v0 : Value} {w : World} {K : Value → World → Prop} (h : W120 v0 w K) : callF Tryz.prog 120 [v0] w K :=
  tie Tryz.prog 120 Tryz.f120 plan120 [v0] w K 1 (W120 v0 w K) rfl mixed Tryz.func120 W120_chk (W120_eq v0 w K) Tryz.call120 h
end Go.Proofs.YtnoepcndjljolaaGreatDoor




namespace Go.Proofs.YtnoepcndjljolaaGreatDoor
open Go Go.Eng Go.RowKit
set_option maxRecDepth 100000
structure AFits (a : AV) : Prop where
  mods : a.mods.length ≤ 9223372036854775807
  typ : a.typ.length ≤ 9223372036854775807
  nm : a.nm.length ≤ 9223372036854775807
  key : a.key.length ≤ 9223372036854775807
  kind : -9223372036854775808 ≤ a.kind ∧ a.kind ≤ 9223372036854775807
  num : -9223372036854775808 ≤ a.num ∧ a.num ≤ 9223372036854775807
  each : ∀ m ∈ a.mods, m.length ≤ 9223372036854775807
abbrev acs (a : AV) (sv : Value) : List Value := [sv, str a.typ, str a.nm, i64 a.kind, i64 a.num, str a.key, .bool a.aside]
def ARep (w : World) (a : AV) (cs : List Value) : Prop := ∃ sv T, cs = acs a sv ∧ SlAt w T sv a.mods.length (a.mods.map str) ∧ AFits a
theorem ARep.ext {w w' : World} {a : AV} {cs : List Value} (h : ARep w a cs) (hx : Ext w w') : ARep w' a cs := by
  obtain ⟨sv, T, e, h1, h2⟩ := h
  exact ⟨sv, T, e, h1.ext hx, h2⟩
theorem ARep.len {w : World} {a : AV} {cs : List Value} (h : ARep w a cs) : cs.length = 7 := by obtain ⟨sv, T, rfl, _⟩ := h; rfl
theorem ARep.one {w : World} {a : AV} {cs : List Value} (h : ARep w a cs) : cs.all one1 = true := by
  obtain ⟨sv, T, rfl, h1, _⟩ := h
  obtain ⟨p, c, rfl, _⟩ := h1.shape
  rfl
structure AcB (T0 : TypeId) (w : World) (p : Nat) (a : AV) (sv : Value) : Prop where
  hb : w.heap[p]? = some (.cells (acs a sv).toArray T0 (0, 0))
  sl : ∃ T, SlAt w T sv a.mods.length (a.mods.map str)
  fits : AFits a
theorem AcB.ext {T0 : TypeId} {w w' : World} {p : Nat} {a : AV} {sv : Value} (h : AcB T0 w p a sv) (hx : Ext w w') : AcB T0 w' p a sv := ⟨hx.at h.hb id, let ⟨T, h1⟩ := h.sl; ⟨T, h1.ext hx⟩, h.fits⟩
theorem AcB.drew {T0 : TypeId} {w : World} {p : Nat} {a : AV} {sv : Value} (h : AcB T0 w p a sv) : AcB T0 w.drew p a sv := h.ext (Chg.drew (Chg.refl (fun _ => False) w))
theorem AcB.rep {T0 : TypeId} {w : World} {p : Nat} {a : AV} {sv : Value} (h : AcB T0 w p a sv) : ARep w a (acs a sv) := let ⟨T, h1⟩ := h.sl; ⟨sv, T, rfl, h1, h.fits⟩
theorem AcB.all {T0 : TypeId} {w : World} {p : Nat} {a : AV} {sv : Value} {K : Value → Prop} (h : AcB T0 w p a sv) (hk : K (.agg (acs a sv).toArray)) : ldW true 7 (.pointer (some ⟨p, 0, none⟩)) w K := ld_all h.hb rfl hk
theorem AcB.ld {T0 : TypeId} {w : World} {p off : Nat} {a : AV} {sv v : Value} {K : Value → Prop} (h : AcB T0 w p a sv) (hv : (acs a sv)[off]? = some v) (hk : K v) : fldW off (.pointer (some ⟨p, 0, none⟩)) fun t => ldW false 1 t w K := by
  rw [fld_ptr, ld_one]
  refine ⟨v, ?_, hk⟩
  rw [add_mk, cell_eq, h.hb, cellO_some, Nat.zero_add]
  simpa using hv
section
variable [HX]
end
end Go.Proofs.YtnoepcndjljolaaGreatDoor

namespace Go.Proofs.YtnoepcndjljolaaGreatDoor
open Go Go.Eng Go.RowKit
set_option maxRecDepth 100000
theorem AcB.st {T0 : TypeId} {w : World} {p off : Nat} {a a' : AV} {sv sv' v : Value} {K : World → Prop} (h : AcB T0 w p a sv) (h1 : one1 v = true) (ho : off < 7) (he : (acs a sv).set off v = acs a' sv') (hf : AFits a') (hs : ∃ T, ∀ w', Chg (Cr p) w w' → SlAt w' T sv' a'.mods.length (a'.mods.map str)) (hK : ∀ w', AcB T0 w' p a' sv' → Chg (Cr p) w w' → w'.heap.size = w.heap.size → K w') :
    fldW off (.pointer (some ⟨p, 0, none⟩)) fun t => stW 1 t v w K := by
  rw [fld_ptr, add_mk, Nat.zero_add]
  refine st_at h.hb h1 (by simpa using ho) fun w' hz hb hc => ?_
  obtain ⟨T, hs⟩ := hs
  refine hK w' ⟨?_, ⟨T, hs w' hc⟩, hf⟩ hc hz
  rw [hb, ← he]; simp
section
variable [HX]
structure TabA (w : World) : Prop where
  tabs : Tabs w
  err : TabE w
  rng : ∃ T v, w.cell? ⟨3, 0, none⟩ = some (.iface T v)
theorem TabA.ext {w w' : World} (h : TabA w) (hx : Ext w w') : TabA w' := ⟨h.tabs.ext hx, h.err.ext hx, let ⟨T, v, h1⟩ := h.rng; ⟨T, v, cell_ext hx h1⟩⟩
theorem TabA.j {w : World} (h : TabA w) : TabJ w := ⟨h.tabs.utf, h.tabs.bru, h.err⟩
theorem ne_nil_any (T : TypeId) (v : Value) (w : World) (K : Value → Prop) : eqQ Tryz.prog .neq 103 false true (.iface T v) .nilIface w K ↔ K (.bool true) := ne_nil_err T v w K
end
end Go.Proofs.YtnoepcndjljolaaGreatDoor

namespace Go.Proofs.YtnoepcndjljolaaGreatDoor
open Go Go.Eng Go.RowKit
set_option maxRecDepth 100000
section
variable [HX]
theorem equals_p {a b : List Str} {x y : Value} {T1 T2 : TypeId} {w : World} {K : Value → World → Prop} (h1 : SlAt w T1 x a.length (a.map str)) (h2 : SlAt w T2 y b.length (b.map str)) (ha : a.length ≤ 9223372036854775807)
    (hK : ∀ w', Ext w w' → K (.bool (decide (a = b))) w') : callF Tryz.prog 60 [x, y] w K := by
  refine W60_ok ?_
  unfold W60
  rw [lenl_at h1, lenl_at h2, bin_neq, condW_dec]
  refine ⟨fun hne => ?_, fun he => ?_⟩
  · have := hK w (Chg.refl _ _)
    rw [decide_eq_false (fun e => hne (by rw [e]))] at this
    exact this
  have he : a.length = b.length := by
    have : ¬ ((a.length : Int) ≠ (b.length : Int)) := he
    omega
  rw [lenl_at h1]
  refine loop_up a.length (fun i w' => Ext w w' ∧ a.take i = b.take i) ⟨Chg.refl _ _, rfl⟩ ?_ ?_
  · rintro i w2 g L hi ⟨hx2, ht⟩ hL
    have hxd : Ext w2 w2.drew := Chg.drew (Chg.refl (fun _ => False) w2)
    obtain ⟨u, hu⟩ : ∃ u, a[i]? = some u := ⟨_, List.getElem?_eq_getElem hi⟩
    obtain ⟨v, hv⟩ : ∃ v, b[i]? = some v := ⟨_, List.getElem?_eq_getElem (by omega)⟩
    simp only [List.getD_cons_zero]
    rw [bin_lss, decide_eq_true (by omega), condW_true]
    refine text_ld (h1.ext (hx2.trans hxd)) hu ?_
    refine text_ld (h2.ext (hx2.trans hxd)) hv ?_
    rw [bin_sne, condW_dec]
    refine ⟨fun hne => ?_, fun heq => ?_⟩
    · have := hK _ (hx2.trans hxd)
      rw [decide_eq_false (fun e => hne (by rw [e, hv] at hu; exact (Option.some.inj hu).symm))] at this
      exact this
    · have heq : u = v := Decidable.not_not.1 heq
      rw [bin_add, up1 (by omega)]
      refine hL _ ⟨hx2.trans hxd, ?_⟩
      rw [List.take_add_one, List.take_add_one, ht, hu, hv, heq]
  · rintro w2 g L ⟨hx2, ht⟩
    simp only [List.getD_cons_zero]
    rw [bin_lss, decide_eq_false (by omega), condW_false]
    have := hK w2 hx2
    rw [List.take_length, he, List.take_length] at ht
    rw [decide_eq_true ht] at this
    exact this
end
end Go.Proofs.YtnoepcndjljolaaGreatDoor
namespace Go.Proofs.YtnoepcndjljolaaGreatDoor
open Go Go.Eng Go.RowKit
set_option maxRecDepth 100000
abbrev AE := AV × Value
structure AE0 (x : AE) : Prop where
  mods : x.1.mods = []
  fits : AFits x.1
  sl : ∃ T, ∀ w, SlAt w T x.2 0 []
theorem AE0.rep {x : AE} (h : AE0 x) (w : World) : ARep w x.1 (acs x.1 x.2) := by
  obtain ⟨T, h1⟩ := h.sl
  refine ⟨x.2, T, rfl, ?_, h.fits⟩
  rw [h.mods]
  exact h1 w
section
variable [HX]
end
end Go.Proofs.YtnoepcndjljolaaGreatDoor
namespace Go.Proofs.YtnoepcndjljolaaGreatDoor
open Go Go.Eng Go.Num Go.RowKit
set_option maxRecDepth 100000
section
variable [HX]
structure GrowF (w0 w : World) (p B : Nat) (ser : Int) (ov : Value) (xs : List RV) : Prop where
  ext : Ext w0 w
  hb : w.heap[p]? = some (.cells [i64 ser, ov].toArray StaT (0, 0))
  lo : w0.heap.size ≤ p
  lt : p < B
  le : B ≤ w.heap.size
  own : ∃ L, Own w B RT 9 ov xs.length L ∧ RRepsP (fun k => B ≤ k ∧ ov.ownBlock ≠ some k) w xs L
theorem GrowF.more {w0 w w' : World} {p B : Nat} {ser : Int} {ov : Value} {xs : List RV} (h : GrowF w0 w p B ser ov xs) (hx : Ext w w') : GrowF w0 w' p B ser ov xs :=
  ⟨h.ext.trans hx, hx.at h.hb id, h.lo, h.lt, Nat.le_trans h.le hx.size, let ⟨L, h1, h2⟩ := h.own; ⟨L, h1.ext hx, h2.ext hx⟩⟩
theorem GrowF.ld {w0 w : World} {p B : Nat} {ser : Int} {ov : Value} {xs : List RV} {K : Value → Prop} (h : GrowF w0 w p B ser ov xs) (hk : K ov) : ldW false 1 (.pointer (some ((⟨p, 0, none⟩ : Addr).add 1))) w K := by
  rw [ld_one]
  exact ⟨ov, by rw [add_mk, cell_eq, h.hb, cellO_some]; rfl, hk⟩
theorem GrowF.all {w0 w : World} {p B : Nat} {ser : Int} {ov : Value} {xs : List RV} {K : Value → Prop} (h : GrowF w0 w p B ser ov xs) (hk : K (.agg [i64 ser, ov].toArray)) : ldW true 2 (.pointer (some ⟨p, 0, none⟩)) w K := ld_all h.hb rfl hk
theorem GrowF.olt {w0 w : World} {p B : Nat} {ser : Int} {ov : Value} {xs : List RV} (h : GrowF w0 w p B ser ov xs) : ∀ k, ov.ownBlock = some k → k < w.heap.size := fun k hk => by obtain ⟨L, hO, _⟩ := h.own; exact (own_in hO hk).2.1
theorem GrowF.app {w0 w : World} {p B n : Nat} {ser : Int} {ov t : Value} {xs : List RV} {x : RV} {cs : List Value} {K : World → Prop} (h : GrowF w0 w p B ser ov xs) (ht : SlAt w RT t 1 cs) (hx : RRepP (fun k => n ≤ k) w x cs) (hn : B ≤ n) (hno : ∀ k, ov.ownBlock = some k → k < n) (hl : xs.length ≤ 100000)
    (hK : ∀ ov' w', GrowF w0 w' p B ser ov' (xs ++ [x]) → (∀ k, k < B → k ≠ p → w'.heap[k]? = w.heap[k]?) → K w') : semE Tryz.prog (Builtin.append_ #[22, 22] 22 #[ov, t]) w fun t2 w1 => stW 1 (.pointer (some ((⟨p, 0, none⟩ : Addr).add 1))) t2 w1 K := by
  obtain ⟨L, hO, hR⟩ := h.own
  have hlo := h.lo
  have hlt := h.lt
  refine append_own3 elem_r hO ht (m := 1) (by rw [hx.len]) hx.one (by omega) (by omega) h.le fun v' w1 hO1 hc1 hb1' => ?_
  have hge : ∀ k, ov.ownBlock = some k → B ≤ k := fun k hk => (own_in hO hk).1
  have hb1 := hc1.at h.hb fun e => by have := hge p e; omega
  have hall : RRepsP (fun k => (B ≤ k ∧ ov.ownBlock ≠ some k) ∧ k < w.heap.size) w (xs ++ [x]) (L ++ cs) := (hR.snoc (hx.mono fun k _ hk => ⟨by omega, fun e => by have := hno k e; have hk : n ≤ k := hk; omega⟩)).mono fun k hlt hk => ⟨hk, hlt⟩
  have hR1 := RRepsP.chg hc1 (fun k hk _ e => hk.1.2 e) hall
  have hx1 : Ext w0 w1 := h.ext.then hc1 fun k hk e => by have := hge k e; omega
  rw [add_mk, Nat.zero_add]
  refine st_at hb1 (by obtain ⟨q, c, e, _⟩ := hO1.sl.shape; rw [e]; rfl) (by simp) fun w2 hz2 hb2 hc2 => ?_
  refine hK v' w2 ⟨hx1.new hc2 hlo, by rw [hb2]; simp, hlo, hlt, by have := h.le; have := hc1.size; omega, L ++ cs, ?_, (RRepsP.chg hc2 (fun k hk _ e => by have := hk.1.1; have e : k = p := e; omega) hR1).mono fun k _ hk => ⟨hk.1.1, fun e => ?_⟩⟩ fun k hkB hkp => ?_
  · rw [List.length_append, List.length_singleton]
    exact hO1.chg hc2 fun k hk e => by have := hk.1; have e : k = p := e; omega
  · have := h.le
    have := hc1.size
    rw [hc2.heap k (by omega) hkp, hc1.heap k (by omega) fun e => by have := hge k e; omega]
  · rcases hb1' k e with h | h
    · exact hk.1.2 h
    · omega
end
end Go.Proofs.YtnoepcndjljolaaGreatDoor



namespace Go.Proofs.YtnoepcndjljolaaGreatDoor
open Go Go.Eng Go.Num Go.RowKit
set_option maxRecDepth 100000
def attrsM (v : JV) : Bool := decide (v.k = 6) && goodM v && knownM v && decide ((encM 1 20 31 3 v).2 ≠ 31)
def prevOk (prev : Option Str) (d : Str) : Bool := match prev with | none => true | some p => Op.bytesLess p d
def depOk (prev : Option Str) : List Str → Bool
  | [] => true
  | d :: ds => nm15M d && prevOk prev d && depOk (some d) ds
def recOk1 (r : RV) : Bool := nm15M r.addr && nm15M r.typ && nm15M r.id && attrsM r.attrs && depOk none r.deps
def recsOk (prev : Option Str) : List RV → Bool
  | [] => true
  | r :: l => prevOk prev r.addr && recOk1 r && recsOk (some r.addr) l
def goodS (ser : Int) (l : List RV) : Bool := decide (0 ≤ ser) && decide (ser ≤ 1099511627776) && recsOk none l
def prevAt (l : List Str) : Nat → Option Str
  | 0 => none
  | i + 1 => l[i]?
theorem depOk_step {l : List Str} {i : Nat} {d : Str} (h : l[i]? = some d) : depOk (prevAt l i) (l.drop i) = (nm15M d && prevOk (prevAt l i) d && depOk (prevAt l (i + 1)) (l.drop (i + 1))) := by
  obtain ⟨hi, e⟩ := List.getElem?_eq_some_iff.1 h
  rw [List.drop_eq_getElem_cons hi, e]
  simp only [depOk, prevAt, h]
theorem recsOk_step {l : List RV} {i : Nat} {r : RV} (h : l[i]? = some r) : recsOk (prevAt (l.map RV.addr) i) (l.drop i) = (prevOk (prevAt (l.map RV.addr) i) r.addr && recOk1 r && recsOk (prevAt (l.map RV.addr) (i + 1)) (l.drop (i + 1))) := by
  obtain ⟨hi, e⟩ := List.getElem?_eq_some_iff.1 h
  rw [List.drop_eq_getElem_cons hi, e]
  simp only [recsOk, prevAt, List.getElem?_map, h, Option.map_some]
section
variable [HX]
theorem keep_r {G : Nat → Prop} {w : World} {r : RV} {cs : List Value} {K : Value → World → Prop} (h : RRepP G w r cs) (hK : ∀ p w' vcs dv, cs = rcs r vcs dv → RcB G RT w' p r vcs dv → Ext w w' → w.heap.size ≤ p → K (.pointer (some ⟨p, 0, none⟩)) w') :
    allocW RT zr w fun t1 w2 => stW 9 t1 (.agg cs.toArray) w2 fun w3 => K t1 w3 := by
  obtain ⟨vcs, dv, T, e, h1, h2, h3, h4⟩ := id h
  refine alloc_new fun p w1 hp hz hb hx => ?_
  refine st_agg_at hb h.len rfl h.all_one fun w2 hz2 hb2 hc2 => ?_
  have hx2 : Ext w w2 := hx.new hc2 (by omega)
  exact hK p w2 vcs dv e ⟨by rw [← e]; exact hb2, VRepP.chg hx2 (fun _ _ _ e => e) h1, ⟨T, h2.ext hx2⟩, h3, h4⟩ hx2 (by omega)
theorem name15_any {s : Str} {w : World} {K : Value → World → Prop} (hK : K (.bool (nm15M s)) w) : callF Tryz.prog 32 [str s] w K := by
  refine W32_ok ?_
  unfold W32
  rw [lens_str, bin_gtr]
  simp only [isB_t]
  refine GdW.look (decide (s.length ≤ 16384)) (fun _ J hJ => ?_) fun g => ?_
  · rw [lens_str, bin_leq, decide_eq_decide.2 (show ((s.length : Nat) : Int) ≤ 16384 ↔ s.length ≤ 16384 by omega)]
    exact hJ
  simp only [List.getD_cons_zero]
  rw [pick_gd_and]
  simp only [isB_t]
  refine GdW.look (utfM s) (fun hc J hJ => ?_) fun g => ?_
  · have hl : s.length ≤ 4611686018427387904 := by
      simp only [Bool.and_eq_true, decide_eq_true_eq] at hc
      omega
    refine bad_ref hl fun r hr => ?_
    have e : decide (r < 0) = utfM s := by
      have h1 : decide ((0 : Int) ≤ r) = !utfM s := hr
      by_cases h0 : (0 : Int) ≤ r
      · rw [decide_eq_true h0] at h1
        rw [decide_eq_false (by omega)]
        cases hu : utfM s with
        | false => rfl
        | true => rw [hu] at h1; cases h1
      · rw [decide_eq_false h0] at h1
        rw [decide_eq_true (by omega)]
        cases hu : utfM s with
        | true => rfl
        | false => rw [hu] at h1; cases h1
    rw [bin_lss, e]
    exact hJ
  simp only [List.getD_cons_zero]
  rw [pick_gd_and]
  have e : decide ((0 : Int) < ((s.length : Nat) : Int)) = decide (0 < s.length) := decide_eq_decide.2 (by omega)
  rw [e]
  exact hK
theorem attrs15_ref {v : JV} {cs : List Value} {w : World} {K : Value → World → Prop} (h : VRep w v cs) (hK : ∀ w', Ext w w' → K (.bool (attrsM v)) w') : callF Tryz.prog 33 [.agg cs.toArray] w K := by
  refine W33_ok ?_
  unfold W33
  refine box_val h fun a w1 sv kv hB hx1 _ => ?_
  refine hB.ld fun cs1 h1 => ?_
  refine encode_ref h1 fun w2 hx2 => ?_
  simp only [ext_tuple]
  refine ⟨_, rfl, _, rfl, ?_⟩
  have hB2 := hB.ext hx2
  simp only [fld_ptr]
  rw [ld_one]
  refine ⟨i64 v.k, by rw [add_mk, cell_eq, hB2.hb, cellO_some]; rfl, ?_⟩
  rw [bin_eql]
  simp only [isB_t]
  refine GdW.act (goodM v) (fun w' => Ext w2 w') (fun _ => Chg.refl _ _) (fun _ J hJ => ?_) fun g w5 hx5 => ?_
  · refine hB2.ld fun cs2 h2 => ?_
    exact good_ref h2 hJ
  simp only [List.getD_cons_zero]
  rw [pick_gd_and]
  simp only [isB_t]
  have hB5 := hB2.ext hx5
  refine GdW.act (knownM v) (fun w' => Ext w5 w') (fun _ => Chg.refl _ _) (fun _ J hJ => ?_) fun g w8 hx8 => ?_
  · refine hB5.ld fun cs2 h2 => ?_
    exact known_ref v h2 hJ
  simp only [List.getD_cons_zero]
  rw [pick_gd_and]
  simp only [isB_t]
  refine GdW.look (decide ((encM 1 20 31 3 v).2 ≠ 31)) (fun _ J hJ => ?_) fun g => ?_
  · rw [bin_neq]; exact hJ
  simp only [List.getD_cons_zero]
  rw [pick_gd_and]
  exact hK w8 (hx1.trans (hx2.trans (hx5.trans hx8)))
theorem text_at {w : World} {T : TypeId} {sv : Value} {l : List Str} {i : Nat} {x : Str} (h : SlAt w T sv l.length (l.map str)) (hx : l[i]? = some x) :
    ∃ p : Addr, (∀ K : Value → Prop, K (.pointer (some p)) → ixaW none 1 sv (i64 (i : Nat)) K) ∧ (∀ (w' : World) (K : Value → Prop), w'.heap = w.heap → K (str x) → ldW false 1 (.pointer (some p)) w' K) := by
  obtain ⟨hi, _⟩ := List.getElem?_eq_some_iff.1 hx
  obtain ⟨q, cap, rfl, h1, h2, h3⟩ := h
  obtain ⟨b, off, c, fr, rfl, hb, hcs⟩ := h3 (by intro e; have := congrArg List.length e; simp at this; rw [this] at hi; simp at hi)
  refine ⟨⟨b, off + i * 1, none⟩, fun K hK => ?_, fun w' K hw hK => ?_⟩
  · rw [ixa_slice, Int.toNat_natCast, add_mk]
    exact ⟨by omega, by omega, hK⟩
  · rw [ld_one]
    refine ⟨_, ?_, hK⟩
    rw [cell_eq, hw, hb, cellO_some]
    show c[off + i * 1]? = _
    have := hcs i (by simpa using hi)
    rw [Nat.mul_one, this, List.getElem?_map, hx]
    rfl
theorem good15_ref {G : Nat → Prop} {ser : Int} {l : List RV} {cs : List Value} {w : World} {K : Value → World → Prop} (h : StRepP G w ser l cs) (hl : l.length ≤ 9223372036854775807) (hK : ∀ w', Ext w w' → K (.bool (goodS ser l)) w') :
    callF Tryz.prog 11 [.agg cs.toArray] w K := by
  refine W11_ok ?_
  unfold W11
  refine box_st h fun p w1 sv e1 hA hx1 hp => ?_
  simp only [fld_ptr]
  refine hA.ser ?_
  rw [bin_lss]
  simp only [isB_f]
  refine GdW.look (decide (1099511627776 < ser)) (fun _ J hJ => ?_) fun g => ?_
  · refine hA.ser ?_
    rw [bin_gtr]
    exact hJ
  simp only [List.getD_cons_zero]
  rw [pick_gd_or, condW_b]
  refine ⟨fun e => ?_, fun e => ?_⟩
  · have eg : goodS ser l = false := by
      unfold goodS
      simp only [Bool.or_eq_true, decide_eq_true_eq] at e
      rcases e with e | e
      · rw [decide_eq_false (show ¬ (0 ≤ ser) by omega)]; rfl
      · rw [decide_eq_false (show ¬ (ser ≤ 1099511627776) by omega)]; simp
    have := hK w1 hx1
    rw [eg] at this
    exact this
  have eg : goodS ser l = recsOk none l := by
    unfold goodS
    simp only [Bool.or_eq_false_iff, decide_eq_false_iff_not] at e
    rw [decide_eq_true (show 0 ≤ ser by omega), decide_eq_true (show ser ≤ 1099511627776 by omega)]; simp
  rw [eg] at hK
  clear eg
  refine hA.recs ?_
  rw [hA.len]
  refine loop_up l.length (fun i w' => Ext w1 w' ∧ recsOk none l = recsOk (prevAt (l.map RV.addr) i) (l.drop i)) ⟨Chg.refl _ _, rfl⟩ ?_ ?_
  · rintro i w5 g L hi ⟨hx5, hr⟩ hL
    obtain ⟨x, hx⟩ : ∃ x, l[i]? = some x := ⟨_, List.getElem?_eq_getElem hi⟩
    rw [recsOk_step hx] at hr
    have hA5 := hA.ext hx5
    simp only [List.getD_cons_zero]
    rw [bin_lss, decide_eq_true (by omega), condW_true]
    refine hA5.recs ?_
    obtain ⟨T5, L5, s5, r5⟩ := hA5.sl
    refine rec_ld s5 r5 hx fun rs hrs => ?_
    refine keep_r hrs fun q w7 vcs dv er hB7 hx7 hq => ?_
    have hx57 := hx5.trans hx7
    have hxd : Ext w7 w7.drew := Chg.drew (Chg.refl (fun _ => False) w7)
    have hx1d := hx57.trans hxd
    have hAd := hA.ext hx1d
    have hBd := hB7.ext hxd
    have hfalse : ∀ {w' : World}, Ext w1 w' → recsOk none l = false → K (.bool false) w' := fun {w'} hx' hf => by
      have := hK w' (hx1.trans hx')
      rw [hf] at this
      exact this
    rw [bin_gtr]
    simp only [isB_t]
    -- the order
    have hord : ∀ {Q : Value → Prop}, Q (.bool (!prevOk (prevAt (l.map RV.addr) i) x.addr)) →
        (GqW (decide ((0 : Int) < (i : Int))) (fun k8 => k8 (.pointer (some ((⟨p, 0, none⟩ : Addr).add 1)))) fun t28 =>
        GqW (decide ((0 : Int) < (i : Int))) (fun k9 => ldW false 1 t28 w7.drew k9) fun t29 =>
        GqW (decide ((0 : Int) < (i : Int))) (fun k10 => k10 (i64 (i : Nat))) fun t30 =>
        GqW (decide ((0 : Int) < (i : Int))) (fun k11 => binW .sub t30 (.int .i64 1) k11) fun t31 =>
        GqW (decide ((0 : Int) < (i : Int))) (fun k12 => ixaW none 9 t29 t31 k12) fun t32 =>
        GqW (decide ((0 : Int) < (i : Int))) (fun k13 => fldW 0 t32 k13) fun t33 =>
        GqW (decide ((0 : Int) < (i : Int))) (fun k14 => ldW false 1 t33 w7.drew k14) fun t34 =>
        GqW (decide ((0 : Int) < (i : Int))) (fun k15 => fldW 0 (.pointer (some ⟨q, 0, none⟩)) k15) fun t35 =>
        GqW (decide ((0 : Int) < (i : Int))) (fun k16 => ldW false 1 t35 w7.drew k16) fun t36 =>
        GqW (decide ((0 : Int) < (i : Int))) (fun k17 => binW .geq t34 t36 k17) fun t37 =>
        pickW (.bool (decide ((0 : Int) < (i : Int)))) t37 (.bool false) Q) := by
      intro Q hQ
      cases i with
      | zero =>
        rw [decide_eq_false (show ¬ ((0 : Int) < ((0 : Nat) : Int)) by omega)]
        simp only [GqW_f, pick_f]
        exact hQ
      | succ j =>
        rw [decide_eq_true (show ((0 : Int) < ((j + 1 : Nat) : Int)) by omega)]
        simp only [GqW_t, pick_t, fld_ptr]
        obtain ⟨y, hy⟩ : ∃ y, l[j]? = some y := ⟨_, List.getElem?_eq_getElem (by omega)⟩
        obtain ⟨Td, Ld, sd, rd⟩ := hAd.sl
        obtain ⟨pa, h1, h2, _⟩ := rec_at sd rd hy
        refine ⟨_, rfl, _, hAd.recs rfl, _, rfl, i64 (j : Nat), ?_, _, h1 _ rfl, .pointer (some (pa.add 0)), rfl, _, h2 w7.drew _ rfl rfl, _, rfl, _, hBd.ld (off := 0) (v := str x.addr) rfl rfl, .bool (!Op.bytesLess y.addr x.addr), ?_, ?_⟩
        · rw [bin_sub, show ((j + 1 : Nat) : Int) - 1 = (j : Int) by omega, wrap_id (by omega) (by omega)]
        · rw [bin_sge]
        · simp only [prevAt, prevOk, List.getElem?_map, hy, Option.map_some] at hQ
          exact hQ
    refine hord ?_
    have hfl : ∀ {off : Nat} {K : Value → Prop}, K (.pointer (some ((⟨q, 0, none⟩ : Addr).add off))) → fldW off (.pointer (some ⟨q, 0, none⟩)) K := fun h => h
    have hdall : ∀ {w' : World}, Ext w7.drew w' → Ext w1 w' := fun h => hx1d.trans h
    cases h1 : prevOk (prevAt (l.map RV.addr) i) x.addr with
    | false =>
      rw [h1] at hr
      simp only [Bool.not_false, isB_f, Bool.not_true, GqW_f, GeW_f, pick_t, condW_true]
      exact hfalse (hdall (Chg.refl _ _)) hr
    | true =>
    simp only [Bool.not_true, isB_f, Bool.not_false, GqW_t, pick_f]
    rw [h1, Bool.true_and] at hr
    refine ⟨_, hfl rfl, _, hBd.ld (off := 0) (v := str x.addr) rfl rfl, ⟨fun _ => ?_, fun e => by cases e⟩⟩
    refine name15_any ?_
    refine ⟨_, rfl, ?_⟩
    unfold recOk1 at hr
    cases h2 : nm15M x.addr with
    | false =>
      rw [h2] at hr
      simp only [Bool.not_false, isB_f, Bool.not_true, GqW_f, GeW_f, pick_t, condW_true]
      exact hfalse (hdall (Chg.refl _ _)) hr
    | true =>
    simp only [Bool.not_true, isB_f, Bool.not_false, GqW_t, pick_f]
    rw [h2, Bool.true_and] at hr
    refine ⟨_, hfl rfl, _, hBd.ld (off := 1) (v := str x.typ) rfl rfl, ⟨fun _ => ?_, fun e => by cases e⟩⟩
    refine name15_any ?_
    refine ⟨_, rfl, ?_⟩
    cases h3 : nm15M x.typ with
    | false =>
      rw [h3] at hr
      simp only [Bool.not_false, isB_f, Bool.not_true, GqW_f, GeW_f, pick_t, condW_true]
      exact hfalse (hdall (Chg.refl _ _)) hr
    | true =>
    simp only [Bool.not_true, isB_f, Bool.not_false, GqW_t, pick_f]
    rw [h3, Bool.true_and] at hr
    refine ⟨_, hfl rfl, _, hBd.ld (off := 2) (v := str x.id) rfl rfl, ⟨fun _ => ?_, fun e => by cases e⟩⟩
    refine name15_any ?_
    refine ⟨_, rfl, ?_⟩
    cases h4 : nm15M x.id with
    | false =>
      rw [h4] at hr
      simp only [Bool.not_false, isB_f, Bool.not_true, GqW_f, GeW_f, pick_t, condW_true]
      exact hfalse (hdall (Chg.refl _ _)) hr
    | true =>
    simp only [Bool.not_true, isB_f, Bool.not_false, GqW_t, pick_f]
    rw [h4, Bool.true_and] at hr
    refine ⟨_, hfl rfl, _, hBd.attrs rfl, ⟨fun _ => ?_, fun e => by cases e⟩⟩
    refine attrs15_ref hBd.val.rep fun w9 hx9 => ?_
    refine ⟨_, rfl, ?_⟩
    have hx19 := hx1d.trans hx9
    cases h5 : attrsM x.attrs with
    | false =>
      rw [h5] at hr
      simp only [Bool.not_false, condW_true]
      exact hfalse hx19 hr
    | true =>
    simp only [Bool.not_true, condW_false]
    rw [h5, Bool.true_and] at hr
    have hd8 : (rcs x vcs dv)[8]? = some dv := by
      have h5 := hBd.val.rep.len
      show (vcs ++ [dv])[5]? = some dv
      rw [List.getElem?_append_right (by omega), h5]
      rfl
    have hB9 := hBd.ext hx9
    obtain ⟨Td, sd⟩ := hB9.sl
    have hdl := hB9.fits.deps
    refine hB9.ld (off := 8) hd8 ?_
    rw [(lenl_at sd _)]
    refine loop_up x.deps.length (fun k w' => Ext w9 w' ∧ depOk none x.deps = depOk (prevAt x.deps k) (x.deps.drop k)) ⟨Chg.refl _ _, rfl⟩ ?_ ?_
    · rintro k w10 g L2 hk ⟨hx10, hdk⟩ hL2
      obtain ⟨d, hd⟩ : ∃ d, x.deps[k]? = some d := ⟨_, List.getElem?_eq_getElem hk⟩
      rw [depOk_step hd] at hdk
      have hxd2 : Ext w10 w10.drew := Chg.drew (Chg.refl (fun _ => False) w10)
      have hx1d2 := hx19.trans (hx10.trans hxd2)
      have hBe := hB9.ext (hx10.trans hxd2)
      have se := sd.ext (hx10.trans hxd2)
      simp only [List.getD_cons_zero]
      rw [bin_lss, decide_eq_true (by omega), condW_true]
      refine hBe.ld (off := 8) hd8 ?_
      refine text_ld se hd ?_
      refine name15_any ?_
      rw [un_not]
      cases h6 : nm15M d with
      | false =>
        rw [h6] at hdk
        simp only [Bool.false_and] at hdk
        rw [hdk] at hr
        simp only [Bool.not_false, isB_f, isB_u, Bool.not_true, GqW_f, pick_t, condW_true]
        exact hfalse hx1d2 hr
      | true =>
      simp only [Bool.not_true, isB_f, Bool.not_false, GqW_t, pick_f]
      rw [h6, Bool.true_and] at hdk
      refine ⟨_, rfl, .bool (decide ((0 : Int) < (k : Int))), by rw [bin_gtr], _, rfl, ?_⟩
      simp only [isB_t]
      cases k with
      | zero =>
        rw [decide_eq_false (show ¬ ((0 : Int) < ((0 : Nat) : Int)) by omega)]
        simp only [GqW_f, pick_f]
        refine ⟨_, rfl, ?_⟩
        rw [condW_false, bin_add, up1 (by omega)]
        have hdk : depOk none x.deps = depOk (prevAt x.deps 1) (x.deps.drop 1) := by rw [hdk]; rfl
        exact hL2 _ ⟨hx10.trans hxd2, hdk⟩
      | succ j =>
        rw [decide_eq_true (show ((0 : Int) < ((j + 1 : Nat) : Int)) by omega)]
        simp only [GqW_t, pick_t]
        obtain ⟨y, hy⟩ : ∃ y, x.deps[j]? = some y := ⟨_, List.getElem?_eq_getElem (by omega)⟩
        obtain ⟨pa, a1, a2⟩ := text_at se hy
        obtain ⟨pb, b1, b2⟩ := text_at se hd
        refine ⟨_, hfl rfl, _, hBe.ld (off := 8) hd8 rfl, _, rfl, i64 (j : Nat), ?_, _, a1 _ rfl, _, a2 _ _ rfl rfl, _, hfl rfl, _, hBe.ld (off := 8) hd8 rfl, _, rfl, _, b1 _ rfl, _, b2 _ _ rfl rfl, .bool (!Op.bytesLess y d), by rw [bin_sge], _, rfl, ?_⟩
        · rw [bin_sub, show ((j + 1 : Nat) : Int) - 1 = (j : Int) by omega, wrap_id (by omega) (by omega)]
        have ep : prevOk (prevAt x.deps (j + 1)) d = Op.bytesLess y d := by simp only [prevAt, hy, prevOk]
        rw [ep] at hdk
        rw [condW_b]
        refine ⟨fun e => ?_, fun e => ?_⟩
        · have e : Op.bytesLess y d = false := by simpa using e
          rw [e] at hdk
          simp only [Bool.false_and] at hdk
          rw [hdk] at hr
          exact hfalse hx1d2 hr
        · have e : Op.bytesLess y d = true := by simpa using e
          rw [e, Bool.true_and] at hdk
          rw [bin_add, up1 (by omega)]
          exact hL2 _ ⟨hx10.trans hxd2, hdk⟩
    · rintro w10 g L2 ⟨hx10, hdk⟩
      simp only [List.getD_cons_zero]
      rw [bin_lss, decide_eq_false (by omega), condW_false]
      rw [List.drop_length] at hdk
      rw [hdk] at hr
      rw [bin_add, up1 (by omega)]
      exact hL w10 ⟨hx5.trans (hx7.trans (hxd.trans (hx9.trans hx10))), by rw [hr]; rfl⟩
  · rintro w5 g L ⟨hx5, hr⟩
    simp only [List.getD_cons_zero]
    rw [bin_lss, decide_eq_false (by omega), condW_false]
    have := hK w5 (hx1.trans hx5)
    rw [hr, List.drop_length] at this
    exact this
end
end Go.Proofs.YtnoepcndjljolaaGreatDoor
namespace Go.Proofs.YtnoepcndjljolaaGreatDoor
open Go Go.Eng Go.Num Go.RowKit
set_option maxRecDepth 100000
section
variable [HX]
theorem vobject_p {l : List (Str × JV)} {kv xv : Value} {T : TypeId} {w : World} {K : Value → World → Prop} (hk : SlAt w T kv (l.map (·.1)).length ((l.map (·.1)).map str)) (hx : ItemsAt w xv (l.map (·.2))) (hn : l.length ≤ 1000) (hr : Rise (l.map (·.1)))
    (hkl : ∀ p ∈ l, p.1.length ≤ 9223372036854775807) (hf : ∀ p ∈ l, fewW p.2 = true) (hK : ∀ cs w', Ext w w' → VRepP (From w.heap.size) w' (mkO l) cs → K (.tuple #[.agg cs.toArray, i64 0]) w') :
    callF Tryz.prog 50 [kv, xv] w K := by
  refine W50_ok ?_
  unfold W50
  have hkn : (l.map (·.1)).length = l.length := List.length_map _
  have hxn : (l.map (·.2)).length = l.length := List.length_map _
  refine alloc_new fun q w1 hq hz1 hbq hx1 => ?_
  rw [(lenl_at hk _), hx.len, bin_neq, decide_eq_false (by rw [hkn, hxn]; simp), condW_false]
  simp only [put_int, put_nil, List.length_cons, List.length_nil, List.set_cons_zero]
  refine ⟨by omega, ?_⟩
  refine alloc_new fun p w6 hp hz6 hbp hx6 => ?_
  refine st_agg_at (l := [i64 6, .bool false, str [], .slice none 0 0, .slice none 0 0]) hbp rfl rfl rfl fun w7 hz7 hbp7 hc7 => ?_
  have s1 := hx1.size
  have s6 := hx6.size
  have hx07 : Ext w w7 := (hx1.trans hx6).new hc7 (by omega)
  have hbq7 := hc7.at (hx6.at hbq id) fun e => by have e : q = p := e; omega
  have hplt := at_lt hbp7
  rw [(lenl_at hk _), hkn]
  refine LoopW.go (fun st w' => ∃ (i : Nat) (sv kv' : Value) (L : List Value), st = [i64 (i : Nat)] ∧ i ≤ l.length ∧ Ext w w' ∧ w'.heap[q]? = w7.heap[q]? ∧ w'.heap[p]? = some (.cells [i64 6, .bool false, str [], sv, kv'].toArray VT (0, 0)) ∧ w7.heap.size ≤ w'.heap.size ∧ OwnP w' w7.heap.size (mkO (l.take i)) sv kv' L)
    (fun st _ => match st with | [.int _ i] => l.length - i.toNat | _ => 0)
    ⟨0, .slice none 0 0, .slice none 0 0, [], rfl, Nat.zero_le _, hx07, rfl, hbp7, Nat.le_refl _, ⟨rfl, .inl ⟨rfl, rfl⟩⟩, by simp [mkO, JV.xs, VRepsP], ⟨rfl, .inl ⟨rfl, rfl⟩⟩, ⟨by simp [mkO, JV.xs], by simp [mkO, JV.ks], by simp [mkO, JV.t], fun s hs => by simp [mkO, JV.ks] at hs⟩⟩ ?_
  rintro st g w9 ⟨i, sv, kv', L, rfl, hi, hx9, hq9, hb9, s9, hO9⟩
  simp only [List.getD_cons_zero]
  have htl : (l.take i).length = i := by rw [List.length_take]; omega
  have htk : (l.take i).map (·.1) = (l.map (·.1)).take i := List.map_take
  have hrt : Rise ((l.take i).map (·.1)) := by rw [htk]; exact hr.sublist (List.take_sublist _ _)
  have hrep9 : VRep w9 (mkO (l.take i)) [i64 6, .bool false, str [], sv, kv'] := hO9.rep.rep
  have hone : [i64 6, .bool false, str [], sv, kv'].all one1 = true := hrep9.all_one
  rw [bin_lss, condW_dec]
  refine ⟨fun hlt => ?_, fun hge => ?_⟩
  · have hlt : i < l.length := by omega
    obtain ⟨y, hy⟩ : ∃ y, l[i]? = some y := ⟨_, List.getElem?_eq_getElem hlt⟩
    have hyk : (l.map (·.1))[i]? = some y.1 := by rw [List.getElem?_map, hy]; rfl
    have hyx : (l.map (·.2))[i]? = some y.2 := by rw [List.getElem?_map, hy]; rfl
    have hmem : y ∈ l := List.mem_of_getElem? hy
    have hlow : ∀ p ∈ l.take i, Op.bytesLess p.1 y.1 = true := fun p hp => by
      obtain ⟨j, hj⟩ := List.getElem?_of_mem hp
      have hji : j < i := by have := (List.getElem?_eq_some_iff.1 hj).1; omega
      rw [List.getElem?_take_of_lt hji] at hj
      exact rise_lt hr (i := j) (j := i) (by rw [List.getElem?_map, hj]; rfl) hyk hji
    have hno : y.1 ∉ (l.take i).map (·.1) := fun hm => by
      obtain ⟨p, hp, e⟩ := List.mem_map.1 hm
      have := hlow p hp
      rw [e, less_irr] at this
      cases this
    refine text_ld (hk.ext hx9) hyk ?_
    refine ld_all hb9 rfl ?_
    refine getnone_p hrep9 rfl (by simp [mkO, JV.ks]; omega) hrt (fun j hj => by rw [show idxK (mkO (l.take i)).ks y.1 = none from idxK_none.2 hno] at hj; cases hj) fun cs1 w10 hx10 hr10 => ?_
    simp only [ext_tuple]
    refine ⟨_, rfl, _, rfl, ?_⟩
    refine copy_new hr10 fun a12 w12 sv1 kv1 hB12 hx12 => ?_
    have hx912 := hx10.trans hx12
    rw [condW_false]
    have hxd : Ext w12 w12.drew := Chg.drew (Chg.refl (fun _ => False) w12)
    have hx9d := hx912.trans hxd
    have hbd := hx9d.at hb9 id
    refine ld_all hbd rfl ?_
    refine (hx.ext (hx9.trans hx9d)).at hyx fun cs2 h2 => ?_
    refine clone_w y.2 (hf y hmem) h2 fun cs3 w16 hx16 h3 => ?_
    have hx916 := hx9d.trans hx16
    refine ⟨ld_all (hx16.at hbd id) rfl rfl, ?_⟩
    have hO16 := hO9.ext hx916
    have s16 := hx16.size
    have s9d := hx9d.size
    have hlt9 : ∀ k, sv.ownBlock = some k ∨ kv'.ownBlock = some k → w7.heap.size ≤ k ∧ k < w9.heap.size := fun k hk => by
      rcases hk with hk | hk
      · exact ⟨(own_in hO9.items hk).1, (own_in hO9.items hk).2.1⟩
      · exact ⟨(own_in hO9.keys hk).1, (own_in hO9.keys hk).2.1⟩
    refine put_o hO16 (h3.mono fun k _ hk => ?_) hrt hno (by omega) (hkl y hmem) (by omega) fun sv2 kv2 L2 w17 hc17 hO17 => ?_
    · have hk : w12.drew.heap.size ≤ k := hk
      exact ⟨by omega, fun e => by have := (hlt9 k (.inl e)).2; omega, fun e => by have := (hlt9 k (.inr e)).2; omega⟩
    rw [insP_last hlow] at hO17
    have e17 : l.take i ++ [(y.1, y.2)] = l.take (i + 1) := by rw [List.take_add_one, hy]; rfl
    rw [e17] at hO17
    have hb17 := hc17.at (hx16.at hbd id) fun e => by have := (hlt9 p e).1; omega
    refine st_agg_at hb17 rfl rfl hO17.rep.rep.all_one fun w18 hz18 hb18 hc18 => ?_
    rw [bin_add, up1 (by omega)]
    have s17 := hc17.size
    refine ⟨⟨i + 1, sv2, kv2, L2, rfl, hlt, ?_, ?_, hb18, by omega, ?_⟩, by simp only [Int.toNat_natCast]; omega⟩
    · exact (hx9.trans hx916).then hc17 (fun k hk e => by have := (hlt9 k e).1; have := hx07.size; omega) |>.new hc18 (by omega)
    · rw [hc18.heap q (by omega) (fun e => by have e : q = p := e; omega), hc17.heap q (by omega) (fun e => by have := (hlt9 q e).1; omega), hx916.heap q (by omega) id, hq9]
    · exact ⟨own_chg hO17.items hc18 fun k hk e => by have := (own_in hO17.items hk).1; have e : k = p := e; omega, VRepsP.chg hc18 (fun k hk _ e => by have := hk.1; have e : k = p := e; omega) hO17.reps, own_chg hO17.keys hc18 fun k hk e => by have := (own_in hO17.keys hk).1; have e : k = p := e; omega, hO17.fits⟩
  · obtain rfl : i = l.length := by omega
    rw [List.take_length] at hO9 hrep9
    refine ld_all hb9 rfl ?_
    refine st_agg_at (by rw [hq9]; exact hbq7) rfl rfl hone fun w19 hz19 hb19 hc19 => ?_
    refine ld_all hb19 rfl ?_
    have s7 := hx07.size
    exact hK _ w19 (hx9.new hc19 (by omega)) ((VRepP.chg hc19 (fun k hk _ e => by have hk : w7.heap.size ≤ k := hk; have e : k = q := e; omega) hO9.rep).mono fun k _ hk => by have hk : w7.heap.size ≤ k := hk; show w.heap.size ≤ k; omega)
theorem sobject_p {l : List (Str × JV)} {kv xv : Value} {T : TypeId} {w : World} {K : Value → World → Prop} (hk : SlAt w T kv (l.map (·.1)).length ((l.map (·.1)).map str)) (hx : ItemsAt w xv (l.map (·.2))) (hn : l.length ≤ 1000) (hr : Rise (l.map (·.1)))
    (hkl : ∀ p ∈ l, p.1.length ≤ 9223372036854775807) (hf : ∀ p ∈ l, fewW p.2 = true) (hK : ∀ cs w', Ext w w' → VRepP (From w.heap.size) w' (mkO l) cs → K (.agg cs.toArray) w') :
    callF Tryz.prog 24 [kv, xv] w K := by
  refine W24_ok ?_
  unfold W24
  refine alloc_new fun q w1 hq hz1 hbq hx1 => ?_
  refine vobject_p (hk.ext hx1) (hx.ext hx1) hn hr hkl hf fun cs w2 hx2 hr2 => ?_
  simp only [ext_tuple]
  refine ⟨_, rfl, _, rfl, ?_⟩
  have hl5 := hr2.rep.len
  have ho5 := hr2.rep.all_one
  refine alloc_new fun a w3 ha hz3 hba hx3 => ?_
  refine st_agg_at hba hl5 rfl ho5 fun w4 hz4 hb4 hc4 => ?_
  have s1 := hx1.size
  have s2 := hx2.size
  have hx24 : Ext w2 w4 := hx3.new hc4 (by omega)
  refine ld_all hb4 hl5 ?_
  refine st_agg_at ((hx2.trans hx24).at hbq id) hl5 rfl ho5 fun w5 hz5 hb5 hc5 => ?_
  refine ld_all hb5 hl5 ?_
  have hx5 : Ext w w5 := (hx1.trans (hx2.trans hx24)).new hc5 (by omega)
  have hr4 : VRepP (From w1.heap.size) w4 (mkO l) cs := VRepP.chg hx24 (fun _ _ _ e => e) hr2
  exact hK _ w5 hx5 (VRepP.chg hc5 (fun k hk _ e => by have hk : w1.heap.size ≤ k := hk; have e : k = q := e; have := at_lt hbq; omega) hr4 |>.mono fun k _ hk => by have hk : w1.heap.size ≤ k := hk; show w.heap.size ≤ k; omega)
end
end Go.Proofs.YtnoepcndjljolaaGreatDoor
namespace Go.Proofs.YtnoepcndjljolaaGreatDoor
open Go Go.Eng Go.Num Go.RowKit
set_option maxRecDepth 100000
abbrev BsT : TypeId := 27
section
variable [HX]
theorem sint_p {n : Int} {w : World} {K : Value → World → Prop} (hT : Tabs w) (h1 : -9223372036854775808 ≤ n) (h2 : n ≤ 9223372036854775807) (hK : ∀ cs w', Ext w w' → (∀ w'', VRep w'' (.mk 3 false (Lib.itoa n) [] []) cs) → K (.agg cs.toArray) w') : callF Tryz.prog 26 [i64 n] w K := by
  refine W26_ok ?_
  unfold W26
  refine alloc_new fun b w1 hb hz hbb hx => ?_
  refine W55_ok ?_
  unfold W55
  refine itoa_p (hT.ext hx) h1 h2 fun w2 hx2 => ?_
  simp only [put_int, put_str, put_nil, List.length_cons, List.length_nil, List.set_cons_zero, List.set_cons_succ]
  refine ⟨by omega, by omega, ?_⟩
  refine st_agg_at (l := [i64 3, .bool false, str (Lib.itoa n), .slice none 0 0, .slice none 0 0]) (hx2.at hbb id) rfl rfl rfl fun w3 hz3 hb3 hc3 => ?_
  refine ld_all hb3 rfl ?_
  refine hK _ w3 ((hx.trans hx2).new hc3 (by omega)) fun w'' => ?_
  have hlen := itoa_len h1 h2
  exact VRep.mk (v := .mk 3 false (Lib.itoa n) [] []) (T1 := 0) (T2 := 0) (SlAt.nil w'' 0) (by simp [JV.xs, VReps]) (SlAt.nil w'' 0) ⟨by simp [JV.xs], by simp [JV.ks], by show (Lib.itoa n).length ≤ _; omega, by simp [JV.ks]⟩
theorem row_s2 {a b : Str} {w : World} {K : Value → World → Prop} (hK : ∀ t w', SlAt w' ST t 2 [str a, str b] → Ext w w' → K t w') : bslW ST 2 [.string (ofL []), .string (ofL [])] [(0, 1, str a), (1, 1, str b)] w K := by
  rw [bslW]
  simp only [put_str, put_nil, List.length_cons, List.length_nil, List.set_cons_zero, List.set_cons_succ]
  refine ⟨by omega, by omega, ?_⟩
  refine hK _ _ ⟨_, _, rfl, Nat.le_refl _, fun e => (by cases e), fun _ => ⟨_, _, _, _, rfl, heap_anew _ _ _ rfl, fun i _ => by rw [Nat.zero_add]; simp⟩⟩ (Chg.alloc (Chg.refl _ _) _)
abbrev zq5 : List Value := [(.int .i64 0), (.bool false), (.string (ofL [])), (.slice none 0 0), (.slice none 0 0)]
theorem row_v2 {u v : JV} {cs ds : List Value} {w : World} {K : Value → World → Prop} (h1 : VRep w u cs) (h2 : VRep w v ds) (hK : ∀ t w', ItemsAt w' t [u, v] → Ext w w' → K t w') :
    bslW VT 2 (zq5 ++ zq5) [(0, 5, .agg cs.toArray), (5, 5, .agg ds.toArray)] w K := by
  unfold bslW
  have l1 := h1.len
  have l2 := h2.len
  have hp : ∀ K : List Value → Prop, K (cs ++ ds) → putW (zq5 ++ zq5) [(0, 5, .agg cs.toArray), (5, 5, .agg ds.toArray)] K := by
    intro K hK
    refine ⟨by simp [Value.cells, l1], by simp, ?_⟩
    refine ⟨by simp [Value.cells, l2], by simp [Value.cells, l1], ?_⟩
    have : List.take 5 (List.take 0 (zq5 ++ zq5) ++ ((Value.agg cs.toArray).cells.toList ++ List.drop (0 + 5) (zq5 ++ zq5))) ++ ((Value.agg ds.toArray).cells.toList ++ List.drop (5 + 5) (List.take 0 (zq5 ++ zq5) ++ ((Value.agg cs.toArray).cells.toList ++ List.drop (0 + 5) (zq5 ++ zq5)))) = cs ++ ds := by
      simp [Value.cells, List.take_append, List.drop_append, l1]
    rw [this]
    exact hK
  refine hp _ ?_
  have hx : Ext w (w.alloc (.cells (cs ++ ds).toArray VT)) := Chg.alloc (Chg.refl _ _) _
  refine hK _ _ ⟨⟨VT, cs ++ (ds ++ []), ?_, ?_⟩, by simp⟩ hx
  · rw [List.append_nil]
    exact (own_new (w := w) (base := w.heap.size) (e := VT) (size := 5) (n := 2) (cs := cs ++ ds) (Nat.le_refl _) (by rw [List.length_append]; omega) (by omega)).sl
  · simp only [VReps]
    exact ⟨cs, ds ++ [], rfl, h1.ext hx, ds, [], rfl, h2.ext hx, rfl⟩
structure BytB (w : World) (b cap : Nat) (c : Array Value) (l : Str) : Prop where
  hb : w.heap[b]? = some (.cells c U8 (c.size, c.size + 1))
  le : l.length ≤ cap
  fits : l.length ≤ c.size
  get : ∀ i, i < l.length → c[i]? = (u8s l)[i]?
theorem BytB.ext {w w' : World} {b cap : Nat} {c : Array Value} {l : Str} (h : BytB w b cap c l) (hx : Ext w w') : BytB w' b cap c l := ⟨hx.at h.hb id, h.le, h.fits, h.get⟩
theorem BytB.byt {w : World} {b cap : Nat} {c : Array Value} {l : Str} (h : BytB w b cap c l) : Byt w U8 (.slice (some ⟨b, 0, none⟩) l.length cap) l :=
  ⟨_, _, rfl, h.le, fun e => (by cases e), fun _ => ⟨b, 0, _, _, rfl, h.hb, fun i hi => by rw [Nat.zero_add]; exact h.get i (by simpa [u8s_length] using hi)⟩⟩
theorem to_bytes_o {l : Str} {w : World} {src dst : TypeId} {K : Value → World → Prop} (hs : Tryz.prog.underlying src = some .string) (hd : Tryz.prog.underlying dst = some (.slice U8)) (he : Tryz.prog.underlying U8 = some (.int .u8))
    (hK : ∀ b cap c w', w.heap.size ≤ b → BytB w' b cap c l → Ext w w' → K (.slice (some ⟨b, 0, none⟩) l.length cap) w') : semE Tryz.prog (convert src dst (str l)) w K := by
  unfold semE
  rw [Lib.run_convert_string_bytes w src dst U8 (ofL l) hs hd he]
  have hle : (ofL l).size ≤ grownCap w (ofL l).size 0 U8 := grownCap_ge w (ofL l).size 0 U8
  have hsz : (Lib.bytesCells w U8 (ofL l)).size = grownCap w (ofL l).size 0 U8 := by
    unfold Lib.bytesCells
    simp only [Array.size_append, Array.size_map, Array.size_replicate]
    have : (ofL l).data.size = (ofL l).size := rfl
    omega
  have e : (ofL l).size = l.length := ofL_size l
  have hB : BytB (Lib.bytesWorld w U8 (ofL l)) w.heap.size (grownCap w (ofL l).size 0 U8) (Lib.bytesCells w U8 (ofL l)) l := by
    refine ⟨Lib.bytesWorld_at_new w U8 (ofL l), by rw [← e]; exact hle, by rw [hsz, ← e]; exact hle, fun i hi => ?_⟩
    have := Lib.bytesWorld_cell w U8 (ofL l) i (by rw [e]; exact hi)
    rw [cell_eq, Lib.bytesWorld_at_new, cellO_some] at this
    rw [this, u8s_get, ofL_data]
    simp [List.getD_eq_getElem?_getD, List.getElem?_eq_getElem hi]
  have := hK _ _ _ _ (Nat.le_refl _) hB (bytes_ext _ _ _)
  rw [e]
  rw [e] at this
  exact this
theorem set_byte {w : World} {b cap i : Nat} {c : Array Value} {l : Str} {y : UInt8} {K : World → Prop} (h : BytB w b cap c l) (hi : i < l.length)
    (hK : ∀ c' w', BytB w' b cap c' (l.set i y) → Chg (Cr b) w w' → w'.heap.size = w.heap.size → K w') : ixaW none 1 (.slice (some ⟨b, 0, none⟩) l.length cap) (i64 (i : Nat)) fun t => stW 1 t (.int .u8 (y.toNat : Nat)) w K := by
  rw [ixa_slice]
  refine ⟨by omega, by omega, ?_⟩
  rw [add_mk, Nat.zero_add, Int.toNat_natCast, Nat.mul_one]
  have hf := h.fits
  have hc2 : (Value.int .u8 (y.toNat : Nat)).cells = #[.int .u8 (y.toNat : Nat)] := rfl
  have hz : (⟨b, i, none⟩ : Addr).add 0 = ⟨b, i, none⟩ := rfl
  simp only [stW, hc2]
  refine ⟨rfl, ?_⟩
  simp only [stCells, hz]
  refine ⟨rfl, ?_, ?_, ?_⟩
  · rw [cell_eq, h.hb, cellO_some]; simp; omega
  · rw [frozen_eq, h.hb, frO_some]; simp; omega
  · refine hK (c.setIfInBounds i (.int .u8 (y.toNat : Nat))) _ ⟨?_, by rw [List.length_set]; exact h.le, by rw [List.length_set]; simpa using h.fits, fun j hj => ?_⟩ (Chg.set (S := fun k => k = b) (Chg.refl _ _) (.inl rfl) _) (by simp)
    · rw [heap_set_same, h.hb, setO_some]
      simp
    · rw [List.length_set] at hj
      have hg := h.get j hj
      simp only [u8s, List.map_set] at hg ⊢
      rw [Array.getElem?_setIfInBounds, List.getElem?_set]
      by_cases e : i = j
      · rw [if_pos e, if_pos e]
        subst e
        rw [if_pos (by omega), if_pos (by simpa using hj)]
      · rw [if_neg e, if_neg e]
        exact hg
def stV (lv : JV) (ser : Int) : JV := mkO [([114, 101, 99, 111, 114, 100, 115], lv), ([115, 101, 114, 105, 97, 108], .mk 3 false (Lib.itoa ser) [] [])]
theorem enc_end {G : Nat → Prop} {lv : JV} {cs : List Value} {ser : Int} {rl : List RV} {p q : Nat} {sv0 : Value} {w7 : World} {K : Value → World → Prop} (hT : TabA w7) (hA : StB G w7 p ser rl sv0) (h1 : 0 ≤ ser) (h2 : ser ≤ 1099511627776)
    (hb : w7.heap[q]? = some (.cells cs.toArray VT (0, 0))) (hr : VRep w7 lv cs) (hf : fewW lv = true)
    (hK1 : (encM 1 20 31 3 (stV lv ser)).2 ≠ 0 → ∀ w', Ext w7 w' → K (.tuple #[.slice none 0 0, i64 3]) w')
    (hK2 : (encM 1 20 31 3 (stV lv ser)).2 = 0 → ∀ b cap c w', Ext w7 w' → w7.heap.size ≤ b → BytB w' b cap c (encM 1 20 31 3 (stV lv ser)).1 → K (.tuple #[.slice (some ⟨b, 0, none⟩) (encM 1 20 31 3 (stV lv ser)).1.length cap, i64 0]) w') :
        JoinW (fun J60 =>
          ldW true 5 (.pointer (some ⟨q, 0, none⟩)) w7.drew fun t62 =>
          fldW 0 (.pointer (some ⟨p, 0, none⟩)) fun t63 =>
          ldW false 1 t63 w7.drew fun t64 =>
          (
           bslW ST 2 [(.string (ofL [])), (.string (ofL []))] [(0, 1, (.string (ofL [114, 101, 99, 111, 114, 100, 115]))), (1, 1, (.string (ofL [115, 101, 114, 105, 97, 108])))] w7.drew fun t61 w61 =>
           (ldW false 1 t63 w61 fun x => x = t64) ∧
           (ldW true 5 (.pointer (some ⟨q, 0, none⟩)) w61 fun x => x = t62) ∧
           callF Tryz.prog 26 [t64] w61 fun t65 w62 =>
           (ldW true 5 (.pointer (some ⟨q, 0, none⟩)) w62 fun x => x = t62) ∧
           bslW VT 2 [(.int .i64 0), (.bool false), (.string (ofL [])), (.slice none 0 0), (.slice none 0 0), (.int .i64 0), (.bool false), (.string (ofL [])), (.slice none 0 0), (.slice none 0 0)] [(0, 5, t62), (5, 5, t65)] w62 fun t66 w63 =>
           callF Tryz.prog 24 [t61, t66] w63 fun t67 w64 =>
           callF Tryz.prog 25 [t67] w64 fun t68 w65 =>
           extW 0 t68 fun t69 =>
           extW 1 t68 fun t70 =>
          J60 [t69, t70] w65) ∧
          (
           callF Tryz.prog 26 [t64] w7.drew fun t65 w66 =>
           (ldW true 5 (.pointer (some ⟨q, 0, none⟩)) w66 fun x => x = t62) ∧
           (
            bslW ST 2 [(.string (ofL [])), (.string (ofL []))] [(0, 1, (.string (ofL [114, 101, 99, 111, 114, 100, 115]))), (1, 1, (.string (ofL [115, 101, 114, 105, 97, 108])))] w66 fun t61 w67 =>
            (ldW true 5 (.pointer (some ⟨q, 0, none⟩)) w67 fun x => x = t62) ∧
            bslW VT 2 [(.int .i64 0), (.bool false), (.string (ofL [])), (.slice none 0 0), (.slice none 0 0), (.int .i64 0), (.bool false), (.string (ofL [])), (.slice none 0 0), (.slice none 0 0)] [(0, 5, t62), (5, 5, t65)] w67 fun t66 w68 =>
            callF Tryz.prog 24 [t61, t66] w68 fun t67 w69 =>
            callF Tryz.prog 25 [t67] w69 fun t68 w70 =>
            extW 0 t68 fun t69 =>
            extW 1 t68 fun t70 =>
          J60 [t69, t70] w70) ∧
           (
            bslW VT 2 [(.int .i64 0), (.bool false), (.string (ofL [])), (.slice none 0 0), (.slice none 0 0), (.int .i64 0), (.bool false), (.string (ofL [])), (.slice none 0 0), (.slice none 0 0)] [(0, 5, t62), (5, 5, t65)] w66 fun t66 w71 =>
            bslW ST 2 [(.string (ofL [])), (.string (ofL []))] [(0, 1, (.string (ofL [114, 101, 99, 111, 114, 100, 115]))), (1, 1, (.string (ofL [115, 101, 114, 105, 97, 108])))] w71 fun t61 w72 =>
            callF Tryz.prog 24 [t61, t66] w72 fun t67 w73 =>
            callF Tryz.prog 25 [t67] w73 fun t68 w74 =>
            extW 0 t68 fun t69 =>
            extW 1 t68 fun t70 =>
          J60 [t69, t70] w74)))
        fun s60 _ w75 =>
        binW .neq (s60.getD 1 undef) (.int .i64 0) fun t72 =>
        condW t72 (
          K (.tuple #[(.slice none 0 0), (.int .i64 3)]) w75) (
          semE Tryz.prog (convert 9 BsT (s60.getD 0 undef)) w75 fun t74 w76 =>
          K (.tuple #[t74, (.int .i64 0)]) w76) := by
  have hl5 := hr.len
  have hxd : Ext w7 w7.drew := Chg.drew (Chg.refl (fun _ => False) w7)
  refine JoinW.cut (fun st w' => st = [str (encM 1 20 31 3 (stV lv ser)).1, i64 (encM 1 20 31 3 (stV lv ser)).2] ∧ Ext w7 w') ?_ ?_
  · have hbd := hxd.at hb id
    -- the value is made and written
    have fin : ∀ {w : World} {kt xt : Value} {J : List Value → World → Prop}, SlAt w ST kt 2 [str [114, 101, 99, 111, 114, 100, 115], str [115, 101, 114, 105, 97, 108]] → ItemsAt w xt [lv, .mk 3 false (Lib.itoa ser) [] []] → Ext w7 w → (∀ w', Ext w7 w' → J [str (encM 1 20 31 3 (stV lv ser)).1, i64 (encM 1 20 31 3 (stV lv ser)).2] w') →
        callF Tryz.prog 24 [kt, xt] w fun t67 w64 => callF Tryz.prog 25 [t67] w64 fun t68 w65 => extW 0 t68 fun t69 => extW 1 t68 fun t70 => J [t69, t70] w65 := fun {w kt xt J} hk hx hx7 hJ => by
      refine sobject_p (l := [([114, 101, 99, 111, 114, 100, 115], lv), ([115, 101, 114, 105, 97, 108], .mk 3 false (Lib.itoa ser) [] [])]) hk hx (by simp) ?_ ?_ ?_ fun cs1 w1 hx1 hr1 => ?_
      · exact (by unfold Rise; decide : Rise [[114, 101, 99, 111, 114, 100, 115], [115, 101, 114, 105, 97, 108]])
      · intro p hp
        simp only [List.mem_cons, List.not_mem_nil, or_false] at hp
        rcases hp with rfl | rfl <;> simp
      · intro p hp
        simp only [List.mem_cons, List.not_mem_nil, or_false] at hp
        rcases hp with rfl | rfl
        · exact hf
        · rfl
      · have hT1 := hT.ext (hx7.trans hx1)
        refine encode_p hT1.tabs.utf (fmt_ok hT1.tabs.bru) hr1.rep fun w2 hx2 => ?_
        simp only [ext_tuple]
        exact ⟨_, rfl, _, rfl, hJ w2 (hx7.trans (hx1.trans hx2))⟩
    refine ld_all hbd hl5 ?_
    simp only [fld_ptr]
    have hAd := hA.ext hxd
    refine hAd.ser ⟨?_, ?_⟩
    · refine row_s2 fun t61 w61 hs61 hx61 => ?_
      have hx1 := hxd.trans hx61
      refine ⟨(hA.ext hx1).ser rfl, ld_all (hx1.at hb id) hl5 rfl, ?_⟩
      refine sint_p (hT.ext hx1).tabs (by omega) (by omega) fun ds w62 hx62 hr62 => ?_
      have hx2 := hx1.trans hx62
      refine ⟨ld_all (hx2.at hb id) hl5 rfl, ?_⟩
      refine row_v2 (hr.ext hx2) (hr62 w62) fun t66 w63 hi63 hx63 => ?_
      exact fin (J := fun st w' => st = [str (encM 1 20 31 3 (stV lv ser)).1, i64 (encM 1 20 31 3 (stV lv ser)).2] ∧ Ext w7 w') (hs61.ext (hx62.trans hx63)) hi63 (hx2.trans hx63) fun w' hx' => ⟨rfl, hx'⟩
    · refine sint_p (hT.ext hxd).tabs (by omega) (by omega) fun ds w66 hx66 hr66 => ?_
      have hx1 := hxd.trans hx66
      refine ⟨ld_all (hx1.at hb id) hl5 rfl, ?_, ?_⟩
      · refine row_s2 fun t61 w67 hs67 hx67 => ?_
        have hx2 := hx1.trans hx67
        refine ⟨ld_all (hx2.at hb id) hl5 rfl, ?_⟩
        refine row_v2 (hr.ext hx2) (hr66 w67) fun t66 w68 hi68 hx68 => ?_
        exact fin (J := fun st w' => st = [str (encM 1 20 31 3 (stV lv ser)).1, i64 (encM 1 20 31 3 (stV lv ser)).2] ∧ Ext w7 w') (hs67.ext hx68) hi68 (hx2.trans hx68) fun w' hx' => ⟨rfl, hx'⟩
      · refine row_v2 (hr.ext hx1) (hr66 w66) fun t66 w71 hi71 hx71 => ?_
        refine row_s2 fun t61 w72 hs72 hx72 => ?_
        exact fin (J := fun st w' => st = [str (encM 1 20 31 3 (stV lv ser)).1, i64 (encM 1 20 31 3 (stV lv ser)).2] ∧ Ext w7 w') hs72 (hi71.ext hx72) (hx1.trans (hx71.trans hx72)) fun w' hx' => ⟨rfl, hx'⟩
  rintro st g w75 ⟨rfl, hx75⟩
  simp only [List.getD_cons_zero, List.getD_cons_succ]
  rw [bin_neq, condW_dec]
  refine ⟨fun hne => hK1 hne w75 hx75, fun he => ?_⟩
  have he : (encM 1 20 31 3 (stV lv ser)).2 = 0 := Classical.byContradiction he
  refine to_bytes_o (by kernel_rfl) (by kernel_rfl) (by kernel_rfl) fun b cap c w76 hlo hB hx76 => ?_
  exact hK2 he b cap c w76 (hx75.trans hx76) (by have := hx75.size; omega) hB
end
end Go.Proofs.YtnoepcndjljolaaGreatDoor
namespace Go.Proofs.YtnoepcndjljolaaGreatDoor
open Go Go.Eng Go.Num Go.RowKit
set_option maxRecDepth 100000
theorem strep_nil (w : World) (ser : Int) : StRepP (fun _ => True) w ser [] [i64 ser, .slice none 0 0] := ⟨_, 0, [], rfl, SlAt.nil w 0, by simp [RRepsP]⟩
section
variable [HX]
theorem const_b {l : Str} {w : World} {K : Value → World → Prop} (hK : ∀ v w', Byt w' U8 v l → Ext w w' → K v w') :
    semE Tryz.prog (convert BsT BsT (.slice (some ⟨w.heap.size, 0, none⟩) l.length l.length)) (w.alloc (.cells (u8s l).toArray U8)) K := by
  unfold semE
  rw [Lib.run_convert_bytes_const (P := Tryz.prog) w BsT U8 _ _ _ (by kernel_rfl) (by kernel_rfl)]
  refine hK _ _ ⟨_, _, rfl, Nat.le_refl _, (by intro e; cases e), fun _ => ⟨w.heap.size, 0, _, _, rfl, heap_anew _ _ _ rfl, fun i hi => by simp⟩⟩ (by repeat (first | assumption | exact Chg.refl _ _ | refine Chg.drew ?_ | refine Chg.alloc ?_ _ | refine Chg.set ?_ (by first | exact .inl rfl | exact .inr (by omega) | exact .inr (by simp only [size_set, size_alloc, size_drew]; omega) | (left; simp; done)) _ | exact Chg.of_ext (by assumption)))
theorem sgood_nil {w : World} {K : Value → World → Prop} (hK : ∀ w', Ext w w' → K (.bool true) w') : callF Tryz.prog 22 [.agg [i64 0, .slice none 0 0].toArray] w K := by
  refine W22_ok ?_
  unfold W22
  refine box_st (strep_nil w 0) fun p w1 sv e hA hx hp => ?_
  simp only [fld_ptr]
  refine hA.recs ?_
  rw [hA.len]
  refine LoopW.go (fun st w' => st = [i64 0] ∧ w' = w1) (fun _ _ => 0) ⟨rfl, rfl⟩ ?_
  rintro st g w2 ⟨rfl, rfl⟩
  simp only [List.getD_cons_zero]
  rw [bin_lss, decide_eq_false (by simp), condW_false]
  refine hA.ser ?_
  rw [bin_geq]
  simp only [isB_t]
  refine GdW.look true (fun _ J hJ => ?_) fun g => ?_
  · refine hA.ser ?_
    rw [bin_leq]; exact hJ
  simp only [List.getD_cons_zero]
  rw [pick_gd_and]
  exact hK _ hx
abbrev enc0 : Str := [123, 34, 114, 101, 99, 111, 114, 100, 115, 34, 58, 91, 93, 44, 34, 115, 101, 114, 105, 97, 108, 34, 58, 48, 125]
theorem enc0_eq : encM 1 20 31 3 (stV (.mk 5 false [] [] []) 0) = (enc0, 0) := by kernel_rfl
theorem vrep_l0 (w : World) : VRep w (.mk 5 false [] [] []) [i64 5, .bool false, str [], .slice none 0 0, .slice none 0 0] :=
  VRep.mk (v := .mk 5 false [] [] []) (T1 := 0) (T2 := 0) (SlAt.nil w 0) (by simp [JV.xs, VReps]) (SlAt.nil w 0) ⟨by simp [JV.xs], by simp [JV.ks], by simp [JV.t], by simp [JV.ks]⟩
theorem sencode_nil {w : World} {K : Value → World → Prop} (hT : TabA w) (hK : ∀ t w', Ext w w' → Byt w' U8 t enc0 → K (.tuple #[t, i64 0]) w') : callF Tryz.prog 8 [.agg [i64 0, .slice none 0 0].toArray] w K := by
  refine W8_ok ?_
  unfold W8
  refine box_st (strep_nil w 0) fun p w1 sv e hA hx1 hp => ?_
  refine hA.all ?_
  injection e with _ e
  injection e with e _
  subst e
  refine sgood_nil fun w2 hx2 => ?_
  rw [un_not, Bool.not_true, condW_false]
  simp only [put_int, put_nil, List.length_cons, List.length_nil, List.set_cons_zero]
  refine ⟨by omega, ?_⟩
  refine alloc_new fun q w4 hq hz4 hbq hx4 => ?_
  refine st_agg_at (l := [i64 5, .bool false, str [], .slice none 0 0, .slice none 0 0]) hbq rfl rfl rfl fun w5 hz5 hb5 hc5 => ?_
  have s2 := hx2.size
  have hx25 : Ext w2 w5 := hx4.new hc5 (by omega)
  have hx15 := hx2.trans hx25
  have hA5 := hA.ext hx15
  rw [fld_ptr]
  refine hA5.recs ?_
  rw [hA5.len]
  refine LoopW.go (fun st w' => st = [i64 0] ∧ w' = w5) (fun _ _ => 0) ⟨rfl, rfl⟩ ?_
  rintro st g w7 ⟨rfl, rfl⟩
  simp only [List.getD_cons_zero]
  rw [bin_lss, decide_eq_false (by simp), condW_false]
  refine enc_end (lv := .mk 5 false [] [] []) (hT.ext (hx1.trans hx15)) hA5 (by omega) (by omega) hb5 (vrep_l0 _) (by rfl) (fun hne => ?_) (fun _ b cap c w' hx' _ hb' => ?_)
  · rw [enc0_eq] at hne
    exact absurd rfl hne
  · rw [enc0_eq] at hb' ⊢
    exact hK _ w' (hx1.trans (hx15.trans hx')) hb'.byt
theorem dec0 : decM En [123, 125] = .ok (.mk 6 false [] [] []) 2 1 := by kernel_rfl
theorem sdecode_br {t : Value} {w : World} {K : Value → World → Prop} (hT : TabA w) (ht : Byt w U8 t [123, 125]) (hK : ∀ w', Ext w w' → K (.tuple #[.agg [i64 0, .slice none 0 0].toArray, i64 150]) w') : callF Tryz.prog 9 [t] w K := by
  refine W9_ok ?_
  unfold W9
  refine alloc_new fun a w1 ha hz1 hba hx1 => ?_
  rw [conv_bytes (l := [123, 125]) (e := U8) (by kernel_rfl) (by kernel_rfl) (by kernel_rfl) (ht.ext hx1)]
  have hT1 := hT.ext hx1
  refine decode_p (s := [123, 125]) hT1.tabs.utf hT1.err (by decide) (fun v j c hv cs w2 hx2 hr2 => ?_) (fun e i hv => by rw [dec0] at hv; cases hv)
  rw [dec0] at hv
  cases hv
  simp only [ext_tuple]
  refine ⟨_, rfl, _, rfl, ?_⟩
  refine keep_val hr2.rep fun b w4 sv kv hB hx4 => ?_
  refine hB.ld fun cs1 h1 => ?_
  refine row_s2 fun t22 w5 hs5 hx5 => ?_
  refine W28_ok ?_
  unfold W28
  refine box_val (h1.ext hx5) fun b2 w6 sv2 kv2 hB2 hx6 _ => ?_
  have hxd : Ext w6 w6.drew := Chg.drew (Chg.refl (fun _ => False) w6)
  have hB2d := hB2.ext hxd
  simp only [fld_ptr, ld_one]
  refine ⟨sv2, by rw [add_mk, cell_eq, hB2d.hb, cellO_some]; rfl, i64 6, by rw [add_mk, cell_eq, hB2d.hb, cellO_some]; rfl, ?_⟩
  rw [bin_eql, decide_eq_true rfl]
  simp only [isB_t, GqW_t]
  refine ⟨_, rfl, kv2, by rw [ld_one]; exact ⟨kv2, by rw [add_mk, cell_eq, hB2d.hb, cellO_some]; rfl, rfl⟩, _, rfl, ⟨fun _ => ?_, fun e => by cases e⟩⟩
  obtain ⟨T2, hks⟩ := hB2d.keys
  refine equals_p (a := []) (b := [[114, 101, 99, 111, 114, 100, 115], [115, 101, 114, 105, 97, 108]]) hks ((hs5.ext hx6).ext hxd) (by simp) fun w7 hx7 => ?_
  have hB7 := hB2d.ext hx7
  refine ⟨⟨sv2, by rw [add_mk, cell_eq, hB7.hb, cellO_some]; rfl, rfl⟩, ?_⟩
  rw [decide_eq_false (by simp), pick_t]
  simp only [ext_tuple]
  refine ⟨_, rfl, _, rfl, ?_⟩
  rw [eqp_nn]
  have hx47 := hx5.trans (hx6.trans (hxd.trans hx7))
  have hxe := hx1.trans (hx2.trans (hx4.trans hx47))
  have hba7 := (hx2.trans (hx4.trans hx47)).at hba id
  simp only [isB_f, Bool.not_true]
  refine GdW.look true (fun _ J hJ => ?_) fun g => ?_
  · rw [un_not]; exact hJ
  simp only [List.getD_cons_zero]
  rw [pick_gd_or]
  simp only [isB_f, Bool.false_or, Bool.not_true, GdW_f]
  intro g2
  rw [pick_t]
  simp only [isB_f, Bool.not_true, GdW_f]
  intro g3
  rw [pick_t, condW_true]
  simp only [put_nil]
  refine st_agg_at (l := [i64 0, .slice none 0 0]) hba7 rfl rfl rfl fun w8 hz8 hb8 hc8 => ?_
  refine ld_all hb8 rfl ?_
  exact hK w8 (hxe.new hc8 (by omega))
theorem awake15 {w : World} {K : Value → World → Prop} (hT : TabA w) (hK : ∀ w', Ext w w' → K (.bool true) w') : callF Tryz.prog 6 [] w K := by
  refine W6_ok ?_
  unfold W6
  simp only [put_nil]
  refine sencode_nil hT fun t w2 hx2 hb2 => ?_
  simp only [ext_tuple]
  refine ⟨_, rfl, _, rfl, ?_⟩
  rw [bslW]
  simp only [put_int, put_nil, List.length_cons, List.length_nil, List.set_cons_zero, List.set_cons_succ]
  refine ⟨by omega, by omega, ?_⟩
  refine const_b (l := [123, 125]) fun t12 w4 hb4 hx4 => ?_
  have hx04 := hx2.trans hx4
  refine sdecode_br (hT.ext hx04) hb4 fun w5 hx5 => ?_
  simp only [ext_tuple]
  refine ⟨_, rfl, _, rfl, ?_⟩
  refine alloc_new fun a w6 ha hz6 hba hx6 => ?_
  refine st_agg_at (l := [i64 0, .slice none 0 0]) hba rfl rfl rfl fun w7 hz7 hb7 hc7 => ?_
  have hx57 : Ext w5 w7 := hx6.new hc7 (by omega)
  have hx27 := hx4.trans (hx5.trans hx57)
  rw [bin_eql, decide_eq_true rfl]
  simp only [isB_t]
  refine GdW.look true (fun _ J hJ => ?_) fun g => ?_
  · rw [conv_bytes (l := enc0) (e := U8) (by kernel_rfl) (by kernel_rfl) (by kernel_rfl) (hb2.ext hx27)]
    rw [bin_seq, decide_eq_true rfl]; exact hJ
  simp only [List.getD_cons_zero]
  rw [pick_gd_and]
  simp only [isB_t, Bool.and_true]
  refine GdW.look true (fun _ J hJ => ?_) fun g => ?_
  · rw [bin_eql, decide_eq_true rfl]; exact hJ
  simp only [List.getD_cons_zero]
  rw [pick_gd_and]
  exact hK w7 (hx2.trans hx27)
end
end Go.Proofs.YtnoepcndjljolaaGreatDoor
namespace Go.Proofs.YtnoepcndjljolaaGreatDoor
open Go Go.Eng Go.Num Go.RowKit
set_option maxRecDepth 100000
theorem recsOk_few : ∀ {l : List RV} {prev : Option Str}, recsOk prev l = true → ∀ r ∈ l, fewM r.attrs = true
  | [], _, _ => fun r hr => by cases hr
  | x :: l, prev, h => by
    simp only [recsOk, Bool.and_eq_true] at h
    obtain ⟨⟨h1, h2⟩, h3⟩ := h
    intro r hr
    rcases List.mem_cons.1 hr with rfl | hr
    · simp only [recOk1, attrsM, Bool.and_eq_true] at h2
      exact (good_v h2.1.2.1.1.2).few
    · exact recsOk_few h3 r hr
theorem goodS_recs {ser : Int} {l : List RV} (h : goodS ser l = true) : recsOk none l = true := by
  simp only [goodS, Bool.and_eq_true] at h
  exact h.2
section
variable [HX]
theorem rrep_zero (w : World) (G : Nat → Prop) : RRepP G w RV.zero zr := by
  refine ⟨[i64 0, .bool false, str [], .slice none 0 0, .slice none 0 0], .slice none 0 0, 0, rfl, ?_, SlAt.nil _ _, fun h => absurd rfl h, ⟨by simp [RV.zero], by simp [RV.zero], by simp [RV.zero], by simp [RV.zero], by simp [RV.zero]⟩⟩
  exact VRepP.mk (v := JV.null) (T1 := 0) (T2 := 0) (SlAt.nil w 0) (by simp [JV.null, JV.xs, VRepsP]) (SlAt.nil w 0) (by simp [Fits, JV.null, JV.xs, JV.ks, JV.t]) (fun h => absurd rfl h) (fun h => absurd rfl h)
end
end Go.Proofs.YtnoepcndjljolaaGreatDoor
namespace Go.Proofs.YtnoepcndjljolaaGreatDoor
open Go Go.Eng Go.Num Go.RowKit
set_option maxRecDepth 100000
theorem attrsM_texts (v : JV) : attrsM v = (decide (v.k = 6) && goodM v && knownM v && textsM v) := by
  unfold attrsM
  cases hg : goodM v with
  | false => simp
  | true =>
  cases hk : knownM v with
  | false => simp
  | true =>
  simp only [Bool.and_true]
  congr 1
  unfold encM
  rw [if_neg (by rw [hg]; decide), if_neg (by rw [hk]; decide)]
  cases ht : textsM v with
  | false => rw [if_pos rfl]; decide
  | true =>
    rw [if_neg (by decide)]
    split
    · exact (by decide : decide ((3 : Int) ≠ 31) = true)
    · exact (by decide : decide ((0 : Int) ≠ 31) = true)
section
variable [HX]
theorem sbad_p {s : Str} {w : World} {K : Value → World → Prop} (hT : TabU w) (hl : s.length ≤ 9223372036854775807) (hK : ∀ w', Ext w w' → K (.bool (!utfM s)) w') : callF Tryz.prog 104 [str s] w K := by
  refine W104_ok ?_
  unfold W104
  refine valid_p hT hl fun w1 hx1 => ?_
  rw [un_not]
  exact hK w1 hx1
theorem stexts_p (v : JV) : ∀ {w0 w : World} {cs : List Value} {K : Value → World → Prop}, TabU w0 → Ext w0 w → VRep w v cs → (∀ w', Ext w w' → K (.bool (textsM v)) w') → callF Tryz.prog 49 [.agg cs.toArray] w K := by
  induction v using JV.ind' with
  | h v ih =>
    intro w0 w cs K hT h0 h hK
    rw [textsM_eq] at hK
    refine W49_ok ?_
    unfold W49
    refine box_val h fun a w1 sv kv hB hx _ => ?_
    obtain ⟨f1, f2, f3, f4⟩ := hB.fits
    simp only [wsv, wsg, wsh, wsl, cond_true, cond_false, exists_eq_left', Option.some.injEq, Option.isSome_some, List.getElem?_toArray, List.getElem?_cons_zero, List.getElem?_cons_succ, List.length_cons, List.length_nil, List.set_cons_zero, List.set_cons_succ, List.getD_cons_zero, List.getD_cons_succ, Nat.zero_add, Nat.add_zero, Nat.reduceAdd, Nat.reduceLT, Nat.lt_add_one, Nat.zero_lt_succ, decide_true, decide_false, ne_eq, reduceCtorEq, wsh, hB.hb]
    refine callV_fn (sbad_p (hT.ext (h0.trans hx)) f3 fun w2 hx2 => ?_)
    have hB2 := hB.ext hx2
    have hx2' := hx.trans hx2
    obtain ⟨Tk, hkv⟩ := hB2.keys
    simp only [wsv, wsg, wsh, wsl, cond_true, cond_false, exists_eq_left', Option.some.injEq, Option.isSome_some, List.getElem?_toArray, List.getElem?_cons_zero, List.getElem?_cons_succ, List.length_cons, List.length_nil, List.set_cons_zero, List.set_cons_succ, List.getD_cons_zero, List.getD_cons_succ, Nat.zero_add, Nat.add_zero, Nat.reduceAdd, Nat.reduceLT, Nat.lt_add_one, Nat.zero_lt_succ, decide_true, decide_false, ne_eq, reduceCtorEq, Bool.not_not]
    refine GdW.act (v.ks.all utfM) (fun w' => Ext w2 w') (fun _ => Chg.refl _ _) ?_ ?_
    · intro hc J hJ
      simp only [wsv, wsg, wsh, wsl, cond_true, cond_false, exists_eq_left', Option.some.injEq, Option.isSome_some, List.getElem?_toArray, List.getElem?_cons_zero, List.getElem?_cons_succ, List.length_cons, List.length_nil, List.set_cons_zero, List.set_cons_succ, List.getD_cons_zero, List.getD_cons_succ, Nat.zero_add, Nat.add_zero, Nat.reduceAdd, Nat.reduceLT, Nat.lt_add_one, Nat.zero_lt_succ, decide_true, decide_false, ne_eq, reduceCtorEq, wsh, hB2.hb]
      refine contains_sx (p := fun s => !utfM s) hkv f2 (fun x hxm {w3 K} hx3 hK => callV_fn (sbad_p (hT.ext ((h0.trans hx2').trans hx3)) (f4 x hxm) hK)) fun w4 hx4 => ?_
      simp only [wsv, wsg, wsh, wsl, cond_true, cond_false, exists_eq_left', Option.some.injEq, Option.isSome_some, List.getElem?_toArray, List.getElem?_cons_zero, List.getElem?_cons_succ, List.length_cons, List.length_nil, List.set_cons_zero, List.set_cons_succ, List.getD_cons_zero, List.getD_cons_succ, Nat.zero_add, Nat.add_zero, Nat.reduceAdd, Nat.reduceLT, Nat.lt_add_one, Nat.zero_lt_succ, decide_true, decide_false, ne_eq, reduceCtorEq, any_not_utf]
      exact hJ w4 hx4
    intro g w4 hx4
    have hB4 := hB2.ext hx4
    have hx4' := hx2'.trans hx4
    simp only [wsv, wsg, wsh, wsl, cond_true, cond_false, exists_eq_left', Option.some.injEq, Option.isSome_some, List.getElem?_toArray, List.getElem?_cons_zero, List.getElem?_cons_succ, List.length_cons, List.length_nil, List.set_cons_zero, List.set_cons_succ, List.getD_cons_zero, List.getD_cons_succ, Nat.zero_add, Nat.add_zero, Nat.reduceAdd, Nat.reduceLT, Nat.lt_add_one, Nat.zero_lt_succ, decide_true, decide_false, ne_eq, reduceCtorEq]
    refine GdW.act (textsL v.xs) (fun w' => Ext w4 w') (fun _ => Chg.refl _ _) ?_ ?_
    · intro hc J hJ
      simp only [wsv, wsg, wsh, wsl, cond_true, cond_false, exists_eq_left', Option.some.injEq, Option.isSome_some, List.getElem?_toArray, List.getElem?_cons_zero, List.getElem?_cons_succ, List.length_cons, List.length_nil, List.set_cons_zero, List.set_cons_succ, List.getD_cons_zero, List.getD_cons_succ, Nat.zero_add, Nat.add_zero, Nat.reduceAdd, Nat.reduceLT, Nat.lt_add_one, Nat.zero_lt_succ, decide_true, decide_false, ne_eq, reduceCtorEq, wsh, hB4.hb]
      refine contains_x (p := fun x => !textsM x) hB4.itemsAt ?_ fun w5 hx5 => ?_
      · intro x hxm cs w5 K hx5 hr hK
        refine callV_fn ?_
        refine W105_ok ?_
        unfold W105
        refine box_val hr fun b w6 sv kv hB6 hx6 _ => ?_
        refine hB6.ld fun cs2 h2 => ?_
        refine ih x hxm hT (((h0.trans hx4').trans hx5).trans hx6) h2 fun w7 hx7 => ?_
        rw [un_not]
        exact hK w7 (hx6.trans hx7)
      · simp only [wsv, wsg, wsh, wsl, cond_true, cond_false, exists_eq_left', Option.some.injEq, Option.isSome_some, List.getElem?_toArray, List.getElem?_cons_zero, List.getElem?_cons_succ, List.length_cons, List.length_nil, List.set_cons_zero, List.set_cons_succ, List.getD_cons_zero, List.getD_cons_succ, Nat.zero_add, Nat.add_zero, Nat.reduceAdd, Nat.reduceLT, Nat.lt_add_one, Nat.zero_lt_succ, decide_true, decide_false, ne_eq, reduceCtorEq, any_not_texts]
        exact hJ w5 hx5
    intro g w5 hx5
    simp only [wsv, wsg, wsh, wsl, cond_true, cond_false, exists_eq_left', Option.some.injEq, Option.isSome_some, List.getElem?_toArray, List.getElem?_cons_zero, List.getElem?_cons_succ, List.length_cons, List.length_nil, List.set_cons_zero, List.set_cons_succ, List.getD_cons_zero, List.getD_cons_succ, Nat.zero_add, Nat.add_zero, Nat.reduceAdd, Nat.reduceLT, Nat.lt_add_one, Nat.zero_lt_succ, decide_true, decide_false, ne_eq, reduceCtorEq]
    exact hK w5 (hx4'.trans hx5)
theorem sname_p {s : Str} {w : World} {K : Value → World → Prop} (hT : TabU w) (hK : ∀ w', Ext w w' → K (.bool (nm15M s)) w') : callF Tryz.prog 46 [str s] w K := by
  refine W46_ok ?_
  unfold W46
  have e0 : (Value.string (ofL [])) = str [] := rfl
  rw [e0, bin_sne]
  simp only [isB_t]
  refine GdW.look (decide (s.length ≤ 16384)) (fun _ J hJ => ?_) fun g => ?_
  · rw [lens_str, bin_leq, decide_eq_decide.2 (show ((s.length : Nat) : Int) ≤ 16384 ↔ s.length ≤ 16384 by omega)]
    exact hJ
  simp only [List.getD_cons_zero]
  rw [pick_gd_and]
  simp only [isB_t]
  refine GdW.act (utfM s) (fun w' => Ext w w') (fun _ => Chg.refl _ _) (fun hc J hJ => ?_) fun g w' hx => ?_
  · have hl : s.length ≤ 16384 := by
      simp only [Bool.and_eq_true, decide_eq_true_eq] at hc
      exact hc.2
    exact valid_p hT (by omega) hJ
  simp only [List.getD_cons_zero]
  rw [pick_gd_and]
  have e : decide (s ≠ []) = decide (0 < s.length) := decide_eq_decide.2 (List.length_pos_iff).symm
  rw [e]
  exact hK w' hx
theorem sgood_p {G : Nat → Prop} {ser : Int} {l : List RV} {cs : List Value} {w : World} {K : Value → World → Prop} (hT : TabU w) (h : StRepP G w ser l cs) (hl : l.length ≤ 9223372036854775807) (hK : ∀ w', Ext w w' → K (.bool (goodS ser l)) w') :
    callF Tryz.prog 22 [.agg cs.toArray] w K := by
  refine W22_ok ?_
  unfold W22
  refine box_st h fun p w1 sv e1 hA hx1 hp => ?_
  simp only [fld_ptr]
  refine hA.recs ?_
  rw [hA.len]
  refine loop_up l.length (fun i w' => Ext w1 w' ∧ recsOk none l = recsOk (prevAt (l.map RV.addr) i) (l.drop i)) ⟨Chg.refl _ _, rfl⟩ ?_ ?_
  · rintro i w5 g L hi ⟨hx5, hr⟩ hL
    obtain ⟨x, hx⟩ : ∃ x, l[i]? = some x := ⟨_, List.getElem?_eq_getElem hi⟩
    rw [recsOk_step hx] at hr
    have hA5 := hA.ext hx5
    simp only [List.getD_cons_zero]
    rw [bin_lss, decide_eq_true (by omega), condW_true]
    obtain ⟨T5, L5, s5, r5⟩ := hA5.sl
    refine rec_ld s5 r5 hx fun rs hrs => ?_
    refine keep_r hrs fun q w7 vcs dv er hB7 hx7 hq => ?_
    have hx57 := hx5.trans hx7
    have hxd : Ext w7 w7.drew := Chg.drew (Chg.refl (fun _ => False) w7)
    have hx1d := hx57.trans hxd
    have hAd := hA.ext hx1d
    have hBd := hB7.ext hxd
    have hTd := (hT.ext hx1).ext hx1d
    have hfalse : ∀ {w' : World}, Ext w1 w' → recsOk none l = false → K (.bool false) w' := fun {w'} hx' hf => by
      have := hK w' (hx1.trans hx')
      have eg : goodS ser l = false := by unfold goodS; rw [hf, Bool.and_false]
      rw [eg] at this
      exact this
    rw [bin_gtr]
    simp only [isB_t]
    -- the order
    have hord : ∀ {Q : Value → Prop}, Q (.bool (!prevOk (prevAt (l.map RV.addr) i) x.addr)) →
        (GqW (decide ((0 : Int) < (i : Int))) (fun k8 => k8 (.pointer (some ((⟨p, 0, none⟩ : Addr).add 1)))) fun t28 =>
        GqW (decide ((0 : Int) < (i : Int))) (fun k9 => ldW false 1 t28 w7.drew k9) fun t29 =>
        GqW (decide ((0 : Int) < (i : Int))) (fun k10 => k10 (i64 (i : Nat))) fun t30 =>
        GqW (decide ((0 : Int) < (i : Int))) (fun k11 => binW .sub t30 (.int .i64 1) k11) fun t31 =>
        GqW (decide ((0 : Int) < (i : Int))) (fun k12 => ixaW none 9 t29 t31 k12) fun t32 =>
        GqW (decide ((0 : Int) < (i : Int))) (fun k13 => fldW 0 t32 k13) fun t33 =>
        GqW (decide ((0 : Int) < (i : Int))) (fun k14 => ldW false 1 t33 w7.drew k14) fun t34 =>
        GqW (decide ((0 : Int) < (i : Int))) (fun k15 => fldW 0 (.pointer (some ⟨q, 0, none⟩)) k15) fun t35 =>
        GqW (decide ((0 : Int) < (i : Int))) (fun k16 => ldW false 1 t35 w7.drew k16) fun t36 =>
        GqW (decide ((0 : Int) < (i : Int))) (fun k17 => binW .geq t34 t36 k17) fun t37 =>
        pickW (.bool (decide ((0 : Int) < (i : Int)))) t37 (.bool false) Q) := by
      intro Q hQ
      cases i with
      | zero =>
        rw [decide_eq_false (show ¬ ((0 : Int) < ((0 : Nat) : Int)) by omega)]
        simp only [GqW_f, pick_f]
        exact hQ
      | succ j =>
        rw [decide_eq_true (show ((0 : Int) < ((j + 1 : Nat) : Int)) by omega)]
        simp only [GqW_t, pick_t, fld_ptr]
        obtain ⟨y, hy⟩ : ∃ y, l[j]? = some y := ⟨_, List.getElem?_eq_getElem (by omega)⟩
        obtain ⟨Td, Ld, sd, rd⟩ := hAd.sl
        obtain ⟨pa, h1, h2, _⟩ := rec_at sd rd hy
        refine ⟨_, rfl, _, hAd.recs rfl, _, rfl, i64 (j : Nat), ?_, _, h1 _ rfl, .pointer (some (pa.add 0)), rfl, _, h2 w7.drew _ rfl rfl, _, rfl, _, hBd.ld (off := 0) (v := str x.addr) rfl rfl, .bool (!Op.bytesLess y.addr x.addr), ?_, ?_⟩
        · rw [bin_sub, show ((j + 1 : Nat) : Int) - 1 = (j : Int) by omega, wrap_id (by omega) (by omega)]
        · rw [bin_sge]
        · simp only [prevAt, prevOk, List.getElem?_map, hy, Option.map_some] at hQ
          exact hQ
    refine hord ?_
    have hfl : ∀ {off : Nat} {K : Value → Prop}, K (.pointer (some ((⟨q, 0, none⟩ : Addr).add off))) → fldW off (.pointer (some ⟨q, 0, none⟩)) K := fun h => h
    have hdall : ∀ {w' : World}, Ext w7.drew w' → Ext w1 w' := fun h => hx1d.trans h
    cases h1 : prevOk (prevAt (l.map RV.addr) i) x.addr with
    | false =>
      rw [h1] at hr
      simp only [Bool.not_false, isB_f, Bool.not_true, GqW_f, GeW_f, pick_t, condW_true]
      exact hfalse (hdall (Chg.refl _ _)) hr
    | true =>
    simp only [Bool.not_true, isB_f, Bool.not_false, GqW_t, pick_f]
    rw [h1, Bool.true_and] at hr
    refine ⟨_, hfl rfl, _, hBd.ld (off := 0) (v := str x.addr) rfl rfl, ⟨fun _ => ?_, fun e => by cases e⟩⟩
    refine sname_p hTd fun wa hxa => ?_
    have hBa := hBd.ext hxa
    have hTa := hTd.ext hxa
    refine ⟨_, rfl, ?_⟩
    unfold recOk1 at hr
    cases h2 : nm15M x.addr with
    | false =>
      rw [h2] at hr
      simp only [Bool.not_false, isB_f, Bool.not_true, GqW_f, GeW_f, pick_t, condW_true]
      exact hfalse (hdall hxa) hr
    | true =>
    simp only [Bool.not_true, isB_f, Bool.not_false, GqW_t, pick_f]
    rw [h2, Bool.true_and] at hr
    refine ⟨_, hfl rfl, _, hBa.ld (off := 1) (v := str x.typ) rfl rfl, ⟨fun _ => ?_, fun e => by cases e⟩⟩
    refine sname_p hTa fun wb hxb => ?_
    have hBb := hBa.ext hxb
    have hTb := hTa.ext hxb
    have hxab := hxa.trans hxb
    refine ⟨_, rfl, ?_⟩
    cases h3 : nm15M x.typ with
    | false =>
      rw [h3] at hr
      simp only [Bool.not_false, isB_f, Bool.not_true, GqW_f, GeW_f, pick_t, condW_true]
      exact hfalse (hdall hxab) hr
    | true =>
    simp only [Bool.not_true, isB_f, Bool.not_false, GqW_t, pick_f]
    rw [h3, Bool.true_and] at hr
    refine ⟨_, hfl rfl, _, hBb.ld (off := 2) (v := str x.id) rfl rfl, ⟨fun _ => ?_, fun e => by cases e⟩⟩
    refine sname_p hTb fun wc hxc => ?_
    have hBc := hBb.ext hxc
    have hTc := hTb.ext hxc
    have hxac := hxab.trans hxc
    have hx1c := hx1d.trans hxac
    refine ⟨_, rfl, ?_⟩
    cases h4 : nm15M x.id with
    | false =>
      rw [h4] at hr
      simp only [Bool.not_false, pick_t, condW_true]
      exact hfalse hx1c hr
    | true =>
    simp only [Bool.not_true, pick_f, condW_false]
    rw [h4, Bool.true_and, attrsM_texts] at hr
    have hav : ∀ {w' : World} {K : Value → Prop}, RcB (fun k => G k) RT w' q x vcs dv → K (i64 x.attrs.k) → ldW false 1 (.pointer (some (((⟨q, 0, none⟩ : Addr).add 3).add 0))) w' K := fun {w' K} hB hk => by
      have h5 := hB.val.rep
      obtain ⟨sv', kv', T1, T2, L', ev, _⟩ := h5.out
      rw [add_mk]
      refine RcB.ld (off := 3) hB ?_ hk
      show (vcs ++ [dv])[0]? = _
      rw [ev]; rfl
    refine hav hBc ?_
    rw [bin_neq]
    simp only [isB_f]
    have en : (!decide (x.attrs.k ≠ 6)) = decide (x.attrs.k = 6) := by simp
    rw [en]
    refine GdW.act (!goodM x.attrs) (fun w' => Ext wc w') (fun _ => Chg.refl _ _) (fun _ J hJ => ?_) fun g2 wd hxd2 => ?_
    · rw [fld_ptr]
      refine hBc.attrs ?_
      refine vgood_p hBc.val.rep fun w' hx' => ?_
      rw [un_not]
      exact hJ w' hx'
    have hBe := hBc.ext hxd2
    have hx1e := hx1c.trans hxd2
    simp only [List.getD_cons_zero]
    have epk : ∀ (c e : Bool) (Q : Value → Prop), pickW (.bool (decide (x.attrs.k ≠ 6))) (.bool true) (bif decide (x.attrs.k = 6) then .bool e else undef) Q ↔ Q (.bool (!(decide (x.attrs.k = 6) && !e))) := fun c e Q => by
      by_cases h6 : x.attrs.k = 6
      · rw [decide_eq_true h6, decide_eq_false (fun h => h h6), pick_f]
        simp
      · rw [decide_eq_false h6, decide_eq_true h6, pick_t]
        simp
    rw [epk false, Bool.not_not]
    simp only [isB_f, Bool.not_not]
    have epk2 : ∀ (c e : Bool) (Q : Value → Prop), pickW (.bool (!c)) (.bool true) (bif c then .bool (!e) else undef) Q ↔ Q (.bool (!(c && e))) := fun c e Q => by cases c <;> cases e <;> exact Iff.rfl
    refine GdW.act (!knownM x.attrs) (fun w' => Ext wd w') (fun _ => Chg.refl _ _) (fun _ J hJ => ?_) fun g3 we hxe => ?_
    · rw [fld_ptr]
      refine hBe.attrs ?_
      refine known_p x.attrs hBe.val.rep fun w' hx' => ?_
      rw [un_not]
      exact hJ w' hx'
    have hBf := hBe.ext hxe
    have hx1f := hx1e.trans hxe
    have hTf := ((hTc.ext hxd2).ext hxe)
    simp only [List.getD_cons_zero]
    rw [epk2]
    simp only [isB_f, Bool.not_not]
    refine GdW.act (!textsM x.attrs) (fun w' => Ext we w') (fun _ => Chg.refl _ _) (fun _ J hJ => ?_) fun g4 w9 hx9' => ?_
    · rw [fld_ptr]
      refine hBf.attrs ?_
      refine stexts_p x.attrs hTf (Chg.refl _ _) hBf.val.rep fun w' hx' => ?_
      rw [un_not]
      exact hJ w' hx'
    have hB9 := hBf.ext hx9'
    have hx19 := hx1f.trans hx9'
    have hT9 := hTf.ext hx9'
    simp only [List.getD_cons_zero]
    rw [epk2]
    cases h5 : (decide (x.attrs.k = 6) && goodM x.attrs && knownM x.attrs && textsM x.attrs) with
    | false =>
      rw [h5] at hr
      simp only [Bool.not_false, condW_true]
      exact hfalse hx19 hr
    | true =>
    simp only [Bool.not_true, condW_false]
    rw [h5, Bool.true_and] at hr
    have hd8 : (rcs x vcs dv)[8]? = some dv := by
      have h5 := hBd.val.rep.len
      show (vcs ++ [dv])[5]? = some dv
      rw [List.getElem?_append_right (by omega), h5]
      rfl
    obtain ⟨Td, sd⟩ := hB9.sl
    have hdl := hB9.fits.deps
    refine hB9.ld (off := 8) hd8 ?_
    rw [(lenl_at sd _)]
    refine loop_up x.deps.length (fun k w' => Ext w9 w' ∧ depOk none x.deps = depOk (prevAt x.deps k) (x.deps.drop k)) ⟨Chg.refl _ _, rfl⟩ ?_ ?_
    · rintro k w10 g L2 hk ⟨hx10, hdk⟩ hL2
      obtain ⟨d, hd⟩ : ∃ d, x.deps[k]? = some d := ⟨_, List.getElem?_eq_getElem hk⟩
      rw [depOk_step hd] at hdk
      have hx1d2 := hx19.trans hx10
      have hT10 := hT9.ext hx10
      have se0 := sd.ext hx10
      simp only [List.getD_cons_zero]
      rw [bin_lss, decide_eq_true (by omega), condW_true]
      refine text_ld se0 hd ?_
      refine sname_p hT10 fun w11 hx11 => ?_
      have hBe := hB9.ext (hx10.trans hx11)
      have se := se0.ext hx11
      have hx1g := hx1d2.trans hx11
      rw [un_not]
      simp only [isB_f, Bool.not_not]
      have hstep : depOk none x.deps = depOk (prevAt x.deps (k + 1)) (x.deps.drop (k + 1)) → L2 [i64 ((k + 1 : Nat) : Int)] w11 := fun e => hL2 _ ⟨hx10.trans hx11, e⟩
      refine GdW.look (decide (0 < k)) (fun _ J hJ => ?_) fun g5 => ?_
      · rw [bin_gtr, decide_eq_decide.2 (show (0 : Int) < ((k : Nat) : Int) ↔ 0 < k by omega)]
        exact hJ
      simp only [List.getD_cons_zero]
      rw [isB_gd_t]
      refine GdW.look (!prevOk (prevAt x.deps k) d) (fun hc J hJ => ?_) fun g6 => ?_
      · simp only [Bool.and_eq_true, decide_eq_true_eq] at hc
        obtain ⟨j, rfl⟩ : ∃ j, k = j + 1 := ⟨k - 1, by omega⟩
        obtain ⟨y, hy⟩ : ∃ y, x.deps[j]? = some y := ⟨_, List.getElem?_eq_getElem (by omega)⟩
        refine hBe.ld (off := 8) hd8 ?_
        rw [bin_sub, show ((j + 1 : Nat) : Int) - 1 = (j : Int) by omega, wrap_id (by omega) (by omega)]
        refine text_ld se hy ?_
        rw [bin_sge]
        have ep : prevOk (prevAt x.deps (j + 1)) d = Op.bytesLess y d := by simp only [prevAt, hy, prevOk]
        rw [ep] at hJ
        exact hJ
      simp only [List.getD_cons_zero]
      refine GdW.look (!prevOk (prevAt x.deps k) d) (fun hc J hJ => ?_) fun g7 => ?_
      · rw [hc]
        cases k with
        | zero => exact hJ
        | succ j => exact hJ
      simp only [List.getD_cons_zero]
      have epk3 : ∀ (c e : Bool) (Q : Value → Prop), pickW (.bool (!c)) (.bool true) (bif c then .bool (!e) else undef) Q ↔ Q (.bool (!(c && e))) := epk2
      rw [epk3, condW_b]
      refine ⟨fun e => ?_, fun e => ?_⟩
      · have e : (nm15M d && prevOk (prevAt x.deps k) d) = false := by rwa [Bool.not_eq_true'] at e
        rw [e] at hdk
        simp only [Bool.false_and] at hdk
        rw [hdk] at hr
        exact hfalse hx1g hr
      · have e : (nm15M d && prevOk (prevAt x.deps k) d) = true := by rwa [Bool.not_eq_false'] at e
        rw [e, Bool.true_and] at hdk
        rw [bin_add, up1 (by omega)]
        exact hstep hdk
    · rintro w10 g L2 ⟨hx10, hdk⟩
      simp only [List.getD_cons_zero]
      rw [bin_lss, decide_eq_false (by omega), condW_false, bin_add, up1 (by omega)]
      rw [List.drop_length, show depOk (prevAt x.deps x.deps.length) [] = true from by cases x.deps <;> rfl] at hdk
      rw [hdk, Bool.true_and] at hr
      exact hL _ ⟨hx19.trans hx10, hr⟩
  · rintro w5 g L ⟨hx5, hr⟩
    have hA5 := hA.ext hx5
    simp only [List.getD_cons_zero]
    rw [bin_lss, decide_eq_false (by omega), condW_false]
    have hrt : recsOk none l = true := by
      rw [hr, List.drop_length]
      cases l <;> rfl
    refine hA5.ser ?_
    rw [bin_geq]
    simp only [isB_t]
    refine GdW.look (decide (ser ≤ 1099511627776)) (fun _ J hJ => ?_) fun g => ?_
    · refine hA5.ser ?_
      rw [bin_leq]; exact hJ
    simp only [List.getD_cons_zero]
    rw [pick_gd_and]
    have := hK w5 (hx1.trans hx5)
    unfold goodS at this
    rw [hrt, Bool.and_true] at this
    exact this
end
end Go.Proofs.YtnoepcndjljolaaGreatDoor
namespace Go.Proofs.YtnoepcndjljolaaGreatDoor
open Go Go.Eng Go.Num Go.RowKit
set_option maxRecDepth 100000
def txtV (s : Str) : JV := .mk 4 false s [] []
def depsV (ds : List Str) : JV := .mk 5 false [] (ds.map txtV) []
abbrev kAddr : Str := [97, 100, 100, 114]
abbrev kAttrs : Str := [97, 116, 116, 114, 115]
abbrev kDeps : Str := [100, 101, 112, 115]
abbrev kId : Str := [105, 100]
abbrev kType : Str := [116, 121, 112, 101]
def recP (r : RV) : List (Str × JV) := [(kAddr, txtV r.addr), (kAttrs, r.attrs), (kDeps, depsV r.deps), (kId, txtV r.id), (kType, txtV r.typ)]
def recV (r : RV) : JV := mkO (recP r)
def listV (l : List RV) : JV := .mk 5 false [] (l.map recV) []
theorem fewW_txt (s : Str) : fewW (txtV s) = true := rfl
theorem fewW_list {xs : List JV} {t : Str} (h : xs.length ≤ 1000000) (hx : ∀ x ∈ xs, fewW x = true) : fewW (.mk 5 false t xs []) = true := by
  rw [fewW_eq, fewWL_all]
  simp only [JV.xs, JV.ks, List.length_nil, Bool.and_eq_true, decide_eq_true_eq, List.all_eq_true]
  exact ⟨⟨decide_eq_true h, rfl⟩, hx⟩
theorem fewW_deps {ds : List Str} (h : ds.length ≤ 1000000) : fewW (depsV ds) = true :=
  fewW_list (by rw [List.length_map]; exact h) fun x hx => by obtain ⟨s, _, rfl⟩ := List.mem_map.1 hx; exact fewW_txt s
theorem fewW_recP {r : RV} (hf : fewM r.attrs = true) (hd : r.deps.length ≤ 1000000) : ∀ p ∈ recP r, fewW p.2 = true := by
  intro p hp
  simp only [recP, List.mem_cons, List.not_mem_nil, or_false] at hp
  rcases hp with rfl | rfl | rfl | rfl | rfl
  · exact fewW_txt _
  · exact few_w _ hf
  · exact fewW_deps hd
  · exact fewW_txt _
  · exact fewW_txt _
theorem fewW_rec {r : RV} (hf : fewM r.attrs = true) (hd : r.deps.length ≤ 1000000) : fewW (recV r) = true := few_mkW (by simp [recP]) (fewW_recP hf hd)
theorem rise_recP (r : RV) : Rise ((recP r).map (·.1)) := (by unfold Rise; decide : Rise [kAddr, kAttrs, kDeps, kId, kType])
theorem repP_txt {G : Nat → Prop} {w : World} {s : Str} {cs : List Value} (h : VRep w (.mk 4 false s [] []) cs) : VRepP G w (txtV s) cs := by
  obtain ⟨sv, kv, T1, T2, L, rfl, h1, h2, h3, h4⟩ := h.out
  have hL : L = [] := by simpa only [JV.xs, VReps] using h2
  subst hL
  exact VRepP.mk (v := txtV s) (T1 := T1) (T2 := T2) h1 (by simp [txtV, JV.xs, VRepsP]) h3 h4 (fun h => absurd rfl h) (fun h => absurd rfl h)
structure GrowL (w0 w : World) (p B : Nat) (ov : Value) (xs : List JV) : Prop where
  ext : Ext w0 w
  hb : w.heap[p]? = some (.cells [i64 5, .bool false, str [], ov, .slice none 0 0].toArray VT (0, 0))
  lo : w0.heap.size ≤ p
  lt : p < B
  le : B ≤ w.heap.size
  own : ∃ L, Own w B VT 5 ov xs.length L ∧ VRepsP (fun k => B ≤ k ∧ ov.ownBlock ≠ some k) w xs L
theorem GrowL.more {w0 w w' : World} {p B : Nat} {ov : Value} {xs : List JV} (h : GrowL w0 w p B ov xs) (hx : Ext w w') : GrowL w0 w' p B ov xs :=
  ⟨h.ext.trans hx, hx.at h.hb id, h.lo, h.lt, Nat.le_trans h.le hx.size, let ⟨L, h1, h2⟩ := h.own; ⟨L, own_chg h1 hx fun _ _ e => e, VRepsP.chg hx (fun _ _ _ e => e) h2⟩⟩
theorem GrowL.ld {w0 w : World} {p B : Nat} {ov : Value} {xs : List JV} {K : Value → Prop} (h : GrowL w0 w p B ov xs) (hk : K ov) : ldW false 1 (.pointer (some ((⟨p, 0, none⟩ : Addr).add 3))) w K := by
  rw [ld_one]
  exact ⟨ov, by rw [add_mk, cell_eq, h.hb, cellO_some]; rfl, hk⟩
theorem GrowL.all {w0 w : World} {p B : Nat} {ov : Value} {xs : List JV} {K : Value → Prop} (h : GrowL w0 w p B ov xs) (hk : K (.agg [i64 5, .bool false, str [], ov, .slice none 0 0].toArray)) : ldW true 5 (.pointer (some ⟨p, 0, none⟩)) w K := ld_all h.hb rfl hk
theorem GrowL.olt {w0 w : World} {p B : Nat} {ov : Value} {xs : List JV} (h : GrowL w0 w p B ov xs) : ∀ k, ov.ownBlock = some k → k < w.heap.size := fun k hk => by obtain ⟨L, hO, _⟩ := h.own; exact (own_in hO hk).2.1
theorem GrowL.rep {w0 w : World} {p B : Nat} {ov : Value} {xs : List JV} (h : GrowL w0 w p B ov xs) (hl : xs.length ≤ 9223372036854775807) : VRep w (.mk 5 false [] xs []) [i64 5, .bool false, str [], ov, .slice none 0 0] := by
  obtain ⟨L, hO, hR⟩ := h.own
  exact (VRepP.mk (G := fun k => B ≤ k) (v := .mk 5 false [] xs []) (T2 := ST) hO.sl (VRepsP.mono (fun k _ hk => hk.1) hR) (SlAt.nil w ST) ⟨hl, by simp [JV.ks], by simp [JV.t], by simp [JV.ks]⟩ (fun _ k hk => (own_in hO hk).1) (fun h => absurd rfl h)).rep
theorem repsP_snoc {G : Nat → Prop} {w : World} : ∀ {xs : List JV} {x : JV} {L cs : List Value}, VRepsP G w xs L → VRepP G w x cs → VRepsP G w (xs ++ [x]) (L ++ cs)
  | [], x, L, cs, h, hx => by
    simp only [VRepsP] at h
    subst h
    simp only [List.nil_append, VRepsP]
    exact ⟨cs, [], (List.append_nil _).symm, hx, rfl⟩
  | y :: ys, x, L, cs, h, hx => by
    simp only [VRepsP] at h
    obtain ⟨c, r, rfl, h1, h2⟩ := h
    simp only [List.cons_append, VRepsP]
    exact ⟨c, r ++ cs, by rw [List.append_assoc], h1, repsP_snoc h2 hx⟩
section
variable [HX]
theorem row_v1 {cs : List Value} {w : World} {K : Value → World → Prop} (hc : cs.length = 5) (hK : ∀ t w', SlAt w' VT t 1 cs → Ext w w' → K t w') : bslW VT 1 zq5 [(0, 5, .agg cs.toArray)] w K := by
  unfold bslW
  have hp : ∀ K : List Value → Prop, K cs → putW zq5 [(0, 5, .agg cs.toArray)] K := by
    intro K hK
    refine ⟨by simp [Value.cells, hc], by simp, ?_⟩
    have : List.take 0 zq5 ++ ((Value.agg cs.toArray).cells.toList ++ List.drop (0 + 5) zq5) = cs := by simp [Value.cells]
    rw [this]
    exact hK
  refine hp _ ?_
  exact hK _ _ (own_new (w := w) (base := w.heap.size) (e := VT) (size := 5) (n := 1) (cs := cs) (Nat.le_refl _) (by omega) (by omega)).sl (by repeat (first | assumption | exact Chg.refl _ _ | refine Chg.drew ?_ | refine Chg.alloc ?_ _ | refine Chg.set ?_ (by first | exact .inl rfl | exact .inr (by omega) | exact .inr (by simp only [size_set, size_alloc, size_drew]; omega) | (left; simp; done)) _ | exact Chg.of_ext (by assumption)))
theorem GrowL.app {w0 w : World} {p B n : Nat} {ov t : Value} {xs : List JV} {x : JV} {cs : List Value} {K : World → Prop} (h : GrowL w0 w p B ov xs) (ht : SlAt w VT t 1 cs) (hx : VRepP (fun k => n ≤ k) w x cs) (hn : B ≤ n) (hno : ∀ k, ov.ownBlock = some k → k < n) (hl : xs.length ≤ 1000000)
    (hK : ∀ ov' w', GrowL w0 w' p B ov' (xs ++ [x]) → (∀ k, k < B → k ≠ p → w'.heap[k]? = w.heap[k]?) → w.heap.size ≤ w'.heap.size → K w') : semE Tryz.prog (Builtin.append_ #[37, 37] 37 #[ov, t]) w fun t2 w1 => stW 1 (.pointer (some ((⟨p, 0, none⟩ : Addr).add 3))) t2 w1 K := by
  obtain ⟨L, hO, hR⟩ := h.own
  have hlo := h.lo
  have hlt := h.lt
  refine append_own3 elem_v hO ht (m := 1) (by rw [hx.rep.len]) hx.rep.one (by omega) (by omega) h.le fun v' w1 hO1 hc1 hb1' => ?_
  have hge : ∀ k, ov.ownBlock = some k → B ≤ k := fun k hk => (own_in hO hk).1
  have hb1 := hc1.at h.hb fun e => by have := hge p e; omega
  have hall : VRepsP (fun k => (B ≤ k ∧ ov.ownBlock ≠ some k) ∧ k < w.heap.size) w (xs ++ [x]) (L ++ cs) := VRepsP.mono (fun k hlt hk => ⟨hk, hlt⟩) (repsP_snoc hR (VRepP.mono (fun k _ hk => ⟨by omega, fun e => by have := hno k e; have hk : n ≤ k := hk; omega⟩) hx))
  have hR1 := VRepsP.chg hc1 (fun k hk _ e => hk.1.2 e) hall
  have hx1 : Ext w0 w1 := h.ext.then hc1 fun k hk e => by have := hge k e; omega
  rw [add_mk, Nat.zero_add]
  refine st_at hb1 (by obtain ⟨q, c, e, _⟩ := hO1.sl.shape; rw [e]; rfl) (by simp) fun w2 hz2 hb2 hc2 => ?_
  refine hK v' w2 ⟨hx1.new hc2 hlo, by rw [hb2]; simp, hlo, hlt, by have := h.le; have := hc1.size; omega, L ++ cs, ?_, VRepsP.mono (fun k _ hk => ⟨hk.1.1, fun e => ?_⟩) (VRepsP.chg hc2 (fun k hk _ e => by have := hk.1.1; have e : k = p := e; omega) hR1)⟩ (fun k hkB hkp => ?_) (by have := hc1.size; omega)
  · rw [List.length_append, List.length_singleton]
    exact own_chg hO1 hc2 fun k hk e => by have := (own_in hO1 hk).1; have e : k = p := e; omega
  · have := h.le
    have := hc1.size
    rw [hc2.heap k (by omega) hkp, hc1.heap k (by omega) fun e => by have := hge k e; omega]
  · rcases hb1' k e with h | h
    · exact hk.1.2 h
    · omega
theorem row_s5 {a b c d e : Str} {w : World} {K : Value → World → Prop} (hK : ∀ t w', SlAt w' ST t 5 [str a, str b, str c, str d, str e] → Ext w w' → K t w') : bslW ST 5 [.string (ofL []), .string (ofL []), .string (ofL []), .string (ofL []), .string (ofL [])] [(0, 1, str a), (1, 1, str b), (2, 1, str c), (3, 1, str d), (4, 1, str e)] w K := by
  rw [bslW]
  simp only [put_str, put_nil, List.length_cons, List.length_nil, List.set_cons_zero, List.set_cons_succ]
  refine ⟨by omega, by omega, by omega, by omega, by omega, ?_⟩
  refine hK _ _ ⟨_, _, rfl, Nat.le_refl _, fun e => (by cases e), fun _ => ⟨_, _, _, _, rfl, heap_anew _ _ _ rfl, fun i _ => by rw [Nat.zero_add]; simp⟩⟩ (Chg.alloc (Chg.refl _ _) _)
theorem put_next {A z cs : List Value} {i n : Nat} {r : List (Nat × Nat × Value)} {K : List Value → Prop} (hA : A.length = i) (hz : z.length = n) (hc : cs.length = n) {rest : List Value} (hK : putW (A ++ cs ++ rest) r K) : putW (A ++ (z ++ rest)) ((i, n, .agg cs.toArray) :: r) K := by
  refine ⟨by simp [Value.cells, hc], by simp only [List.length_append]; omega, ?_⟩
  have e : List.take i (A ++ (z ++ rest)) ++ ((Value.agg cs.toArray).cells.toList ++ List.drop (i + n) (A ++ (z ++ rest))) = A ++ cs ++ rest := by
    have h1 : List.take i (A ++ (z ++ rest)) = A := by rw [← hA, List.take_left']; rfl
    have h2 : List.drop (i + n) (A ++ (z ++ rest)) = rest := by
      rw [← List.drop_drop, ← hA, List.drop_left', ← hz, List.drop_left'] <;> rfl
    rw [h1, h2]
    simp [Value.cells]
  rw [e]
  exact hK
theorem row_v5 {v1 v2 v3 v4 v5 : JV} {c1 c2 c3 c4 c5 : List Value} {w : World} {K : Value → World → Prop} (h1 : VRep w v1 c1) (h2 : VRep w v2 c2) (h3 : VRep w v3 c3) (h4 : VRep w v4 c4) (h5 : VRep w v5 c5) (hK : ∀ t w', ItemsAt w' t [v1, v2, v3, v4, v5] → Ext w w' → K t w') :
    bslW VT 5 (zq5 ++ (zq5 ++ (zq5 ++ (zq5 ++ (zq5 ++ []))))) [(0, 5, .agg c1.toArray), (5, 5, .agg c2.toArray), (10, 5, .agg c3.toArray), (15, 5, .agg c4.toArray), (20, 5, .agg c5.toArray)] w K := by
  unfold bslW
  have l1 := h1.len
  have l2 := h2.len
  have l3 := h3.len
  have l4 := h4.len
  have l5 := h5.len
  refine put_next (A := []) (z := zq5) rfl rfl l1 ?_
  refine put_next (z := zq5) (by simp [l1]) rfl l2 ?_
  refine put_next (z := zq5) (by simp [l1, l2]) rfl l3 ?_
  refine put_next (z := zq5) (by simp [l1, l2, l3]) rfl l4 ?_
  refine put_next (z := zq5) (by simp [l1, l2, l3, l4]) rfl l5 ?_
  simp only [List.nil_append, List.append_nil, put_nil]
  have hx : Ext w (w.alloc (.cells (c1 ++ c2 ++ c3 ++ c4 ++ c5).toArray VT)) := Chg.alloc (Chg.refl _ _) _
  refine hK _ _ ⟨⟨VT, c1 ++ (c2 ++ (c3 ++ (c4 ++ (c5 ++ [])))), ?_, ?_⟩, by simp⟩ hx
  · have e : c1 ++ (c2 ++ (c3 ++ (c4 ++ (c5 ++ [])))) = c1 ++ c2 ++ c3 ++ c4 ++ c5 := by simp
    rw [e]
    exact (own_new (w := w) (base := w.heap.size) (e := VT) (size := 5) (n := 5) (cs := c1 ++ c2 ++ c3 ++ c4 ++ c5) (Nat.le_refl _) (by simp only [List.length_append]; omega) (by omega)).sl
  · simp only [VReps]
    exact ⟨c1, _, rfl, h1.ext hx, c2, _, rfl, h2.ext hx, c3, _, rfl, h3.ext hx, c4, _, rfl, h4.ext hx, c5, [], rfl, h5.ext hx, rfl⟩
end
end Go.Proofs.YtnoepcndjljolaaGreatDoor
namespace Go.Proofs.YtnoepcndjljolaaGreatDoor
open Go Go.Eng Go.Num Go.RowKit
set_option maxRecDepth 100000
theorem rec_nm {l : List RV} {prev : Option Str} : recsOk prev l = true → ∀ r ∈ l, r.addr.length ≤ 16384 ∧ r.typ.length ≤ 16384 ∧ r.id.length ≤ 16384 := by
  intro h r hr
  induction l generalizing prev with
  | nil => cases hr
  | cons x l ih =>
    simp only [recsOk, Bool.and_eq_true] at h
    rcases List.mem_cons.1 hr with rfl | hr
    · have := h.1.2
      simp only [recOk1, nm15M, Bool.and_eq_true, decide_eq_true_eq] at this
      exact ⟨this.1.1.1.1.1.2, this.1.1.1.2.1.2, this.1.1.2.1.2⟩
    · exact ih h.2 hr
section
variable [HX]
set_option maxHeartbeats 1000000 in
theorem sencode_p {G : Nat → Prop} {ser : Int} {l : List RV} {cs : List Value} {w : World} {K : Value → World → Prop} (hT : TabA w) (h : StRepP G w ser l cs) (hl : l.length ≤ 1000) (hd0 : goodS ser l = true → ∀ x ∈ l, x.deps.length ≤ 1000000)
    (hbad : goodS ser l = false → ∀ w', Ext w w' → K (.tuple #[.slice none 0 0, i64 150]) w')
    (hlong : goodS ser l = true → (encM 1 20 31 3 (stV (listV l) ser)).2 ≠ 0 → ∀ w', Ext w w' → K (.tuple #[.slice none 0 0, i64 3]) w')
    (hok : goodS ser l = true → (encM 1 20 31 3 (stV (listV l) ser)).2 = 0 → ∀ b cap c w', Ext w w' → w.heap.size ≤ b → BytB w' b cap c (encM 1 20 31 3 (stV (listV l) ser)).1 → K (.tuple #[.slice (some ⟨b, 0, none⟩) (encM 1 20 31 3 (stV (listV l) ser)).1.length cap, i64 0]) w') :
    callF Tryz.prog 8 [.agg cs.toArray] w K := by
  refine W8_ok ?_
  unfold W8
  refine box_st h fun p w1 sv e hA hx1 hp => ?_
  refine hA.all ?_
  refine sgood_p (hT.ext hx1).tabs.utf hA.rep (by omega) fun w2 hx2 => ?_
  have hx02 := hx1.trans hx2
  rw [un_not, condW_b]
  refine ⟨fun hg => hbad (by simpa using hg) w2 hx02, fun hg => ?_⟩
  have hg : goodS ser l = true := by simpa using hg
  have hd := hd0 hg
  have hser : 0 ≤ ser ∧ ser ≤ 1099511627776 := by
    simp only [goodS, Bool.and_eq_true, decide_eq_true_eq] at hg
    exact hg.1
  have hrecs := goodS_recs hg
  simp only [put_int, put_nil, List.length_cons, List.length_nil, List.set_cons_zero]
  refine ⟨by omega, ?_⟩
  refine alloc_new fun q w4 hq hz4 hbq hx4 => ?_
  refine st_agg_at (l := [i64 5, .bool false, str [], .slice none 0 0, .slice none 0 0]) hbq rfl rfl rfl fun w5 hz5 hb5 hc5 => ?_
  have s2 := hx2.size
  have hx25 : Ext w2 w5 := hx4.new hc5 (by omega)
  have hx15 := hx2.trans hx25
  have hA5 := hA.ext hx15
  have hT2 := hT.ext hx02
  rw [fld_ptr]
  refine hA5.recs ?_
  rw [hA5.len]
  have hG5 : GrowL w2 w5 q w5.heap.size (.slice none 0 0) ((l.take 0).map recV) := ⟨hx25, hb5, by omega, at_lt hb5, Nat.le_refl _, [], ⟨rfl, .inl ⟨rfl, rfl⟩⟩, by simp [VRepsP]⟩
  refine loop_up l.length (fun i w' => ∃ ov, GrowL w2 w' q w5.heap.size ov ((l.take i).map recV)) ⟨_, hG5⟩ ?_ ?_
  · rintro i w7 g L hi ⟨ov, hG7⟩ hL
    obtain ⟨x, hx⟩ : ∃ x, l[i]? = some x := ⟨_, List.getElem?_eq_getElem hi⟩
    have hxm : x ∈ l := List.mem_of_getElem? hx
    have hxd := hd x hxm
    have hxf := recsOk_few hrecs x hxm
    obtain ⟨n1, n2, n3⟩ := rec_nm hrecs x hxm
    have hx27 := hG7.ext
    have hA7 := hA.ext (hx2.trans hx27)
    simp only [List.getD_cons_zero]
    rw [bin_lss, decide_eq_true (by omega), condW_true]
    refine JoinW.cut (fun st w' => ∃ ov', GrowL w2 w' q w5.heap.size ov' ((l.take (i + 1)).map recV)) ?_ ?_
    · obtain ⟨T7, L7, s7, r7⟩ := hA7.sl
      have s7' : SlAt w7 T7 sv l.length L7 := s7
      refine rec_ld s7' r7 hx fun rs hrs => ?_
      refine keep_r hrs fun o w10 vcs dv er hB10 hx10 ho => ?_
      simp only [put_int, put_nil, List.length_cons, List.length_nil, List.set_cons_zero]
      refine ⟨by omega, ?_⟩
      refine alloc_new fun o2 w12 ho2 hz12 hb12 hx12 => ?_
      refine st_agg_at (l := [i64 5, .bool false, str [], .slice none 0 0, .slice none 0 0]) hb12 rfl rfl rfl fun w13 hz13 hb13 hc13 => ?_
      have hx1013 : Ext w10 w13 := hx12.new hc13 (by omega)
      have hB13 := hB10.ext hx1013
      have hd8 : (rcs x vcs dv)[8]? = some dv := by
        have h5 := hB10.val.rep.len
        show (vcs ++ [dv])[5]? = some dv
        rw [List.getElem?_append_right (by omega), h5]
        rfl
      simp only [fld_ptr]
      refine hB13.ld (off := 8) hd8 ?_
      obtain ⟨Td, sd⟩ := hB13.sl
      rw [(lenl_at sd _)]
      have hG13 : GrowL w10 w13 o2 w13.heap.size (.slice none 0 0) ((x.deps.take 0).map txtV) := ⟨hx1013, hb13, by omega, at_lt hb13, Nat.le_refl _, [], ⟨rfl, .inl ⟨rfl, rfl⟩⟩, by simp [VRepsP]⟩
      have hx7_10 : Ext w7 w10 := hx10
      refine loop_up x.deps.length (fun k w' => ∃ ov', GrowL w10 w' o2 w13.heap.size ov' ((x.deps.take k).map txtV) ∧ w13.heap.size ≤ w'.heap.size ∧ ∀ k, k < w13.heap.size → k ≠ o2 → w'.heap[k]? = w13.heap[k]?) ⟨_, hG13, Nat.le_refl _, fun _ _ _ => rfl⟩ ?_ ?_
      · rintro k w15 g2 L2 hk ⟨ov2, hG15, hs15, hk15⟩ hL2
        obtain ⟨d, hdk⟩ : ∃ d, x.deps[k]? = some d := ⟨_, List.getElem?_eq_getElem hk⟩
        obtain ⟨T15, sd15⟩ := (hB10.ext hG15.ext).sl
        simp only [List.getD_cons_zero]
        rw [bin_lss, decide_eq_true (by omega), condW_true]
        refine text_ld sd15 hdk ?_
        have hxdr : Ext w15 w15.drew := Chg.drew (Chg.refl (fun _ => False) w15)
        have hG15d := hG15.more hxdr
        refine hG15d.ld ?_
        refine text_p (hB10.fits.each d (List.mem_of_getElem? hdk)) fun c1 w16 hx16 hr16 => ?_
        have hG16 := hG15d.more hx16
        refine ⟨hG16.ld rfl, ?_⟩
        refine row_v1 (hr16 w16).len fun t w17 ht17 hx17 => ?_
        have hG17 := hG16.more hx17
        refine ⟨hG17.ld rfl, ?_⟩
        have hle := hG17.le
        refine hG17.app (n := w17.heap.size) ht17 (repP_txt (hr16 w17)) hle hG17.olt (by rw [List.length_map, List.length_take]; omega) fun ov3 w19 hG19 hk19 hs19 => ?_
        rw [bin_add, up1 (by omega)]
        refine hL2 _ ⟨ov3, ?_, ?_, ?_⟩
        · rw [List.take_add_one, hdk]
          simpa using hG19
        · have := hx16.size
          have := hx17.size
          have e : w15.drew.heap.size = w15.heap.size := rfl
          omega
        · intro j hj hne
          have e : w15.drew.heap = w15.heap := rfl
          have h16 := hx16.size
          have h17 := hx17.size
          rw [hk19 j hj hne, hx17.heap j (by rw [e] at h16; omega) id, hx16.heap j (by rw [e]; omega) id, e, hk15 j hj hne]
      · rintro w15 g2 L2 ⟨ov2, hG15, hs15, hk15⟩
        rw [List.take_length] at hG15
        simp only [List.getD_cons_zero]
        rw [bin_lss, decide_eq_false (by omega), condW_false]
        have hxdr : Ext w15 w15.drew := Chg.drew (Chg.refl (fun _ => False) w15)
        have hx10d := hG15.ext.trans hxdr
        have hx7d := hx7_10.trans hx10d
        have hGo := hG7.more hx7d
        have hGi := hG15.more hxdr
        have hBd := hB10.ext hx10d
        have hTd := hT2.ext (hx27.trans hx7d)
        refine hGo.ld ?_
        refine hBd.ld (off := 0) (v := str x.addr) rfl ?_
        refine hBd.attrs ?_
        refine hGi.all ?_
        refine hBd.ld (off := 2) (v := str x.id) rfl ?_
        refine hBd.ld (off := 1) (v := str x.typ) rfl ?_
        -- re-reading
        have r51 : ∀ {w' : World}, Ext w15.drew w' → (ldW false 1 (.pointer (some ((⟨o, 0, none⟩ : Addr).add 1))) w' fun y => y = str x.typ) := fun hx' => (hBd.ext hx').ld (off := 1) (v := str x.typ) rfl rfl
        have r48 : ∀ {w' : World}, Ext w15.drew w' → (ldW false 1 (.pointer (some ((⟨o, 0, none⟩ : Addr).add 2))) w' fun y => y = str x.id) := fun hx' => (hBd.ext hx').ld (off := 2) (v := str x.id) rfl rfl
        have r42 : ∀ {w' : World}, Ext w15.drew w' → (ldW false 1 (.pointer (some ((⟨o, 0, none⟩ : Addr).add 0))) w' fun y => y = str x.addr) := fun hx' => (hBd.ext hx').ld (off := 0) (v := str x.addr) rfl rfl
        have r45 : ∀ {w' : World}, Ext w15.drew w' → (ldW true 5 (.pointer (some ((⟨o, 0, none⟩ : Addr).add 3))) w' fun y => y = .agg vcs.toArray) := fun hx' => (hBd.ext hx').attrs rfl
        have r47 : ∀ {w' : World}, Ext w15.drew w' → (ldW true 5 (.pointer (some ⟨o2, 0, none⟩)) w' fun y => y = .agg [i64 5, .bool false, str [], ov2, .slice none 0 0].toArray) := fun hx' => (hGi.more hx').all rfl
        have r39 : ∀ {w' : World}, Ext w15.drew w' → (ldW false 1 (.pointer (some ((⟨q, 0, none⟩ : Addr).add 3))) w' fun y => y = ov) := fun hx' => (hGo.more hx').ld rfl
        have hvd : VRep w15.drew (depsV x.deps) [i64 5, .bool false, str [], ov2, .slice none 0 0] := hGi.rep (by rw [List.length_map]; omega)
        have hva : VRep w15.drew x.attrs vcs := hBd.val.rep
        -- the record's value is made and put behind the list
        have fin : ∀ {w0 : World} {kt xt : Value} {J : List Value → World → Prop}, Ext w15.drew w0 → SlAt w0 ST kt 5 [str kAddr, str kAttrs, str kDeps, str kId, str kType] → ItemsAt w0 xt [txtV x.addr, x.attrs, depsV x.deps, txtV x.id, txtV x.typ] →
            (∀ w', (∃ ov', GrowL w2 w' q w5.heap.size ov' ((l.take (i + 1)).map recV)) → J [] w') →
            (ldW false 1 (.pointer (some ((⟨q, 0, none⟩ : Addr).add 3))) w0 fun y => y = ov) ∧ callF Tryz.prog 24 [kt, xt] w0 fun t55 w25 =>
            (ldW false 1 (.pointer (some ((⟨q, 0, none⟩ : Addr).add 3))) w25 fun y => y = ov) ∧
            bslW VT 1 [(.int .i64 0), (.bool false), (.string (ofL [])), (.slice none 0 0), (.slice none 0 0)] [(0, 5, t55)] w25 fun t56 w26 =>
            (ldW false 1 (.pointer (some ((⟨q, 0, none⟩ : Addr).add 3))) w26 fun y => y = ov) ∧
            semE Tryz.prog (Builtin.append_ #[37, 37] 37 #[ov, t56]) w26 fun t57 w27 =>
            stW 1 (.pointer (some ((⟨q, 0, none⟩ : Addr).add 3))) t57 w27 fun w28 => J [] w28 := fun {w0 kt xt J} hx0 hk hxi hJ => by
          refine ⟨r39 hx0, ?_⟩
          refine sobject_p (l := recP x) hk hxi (by simp [recP]) (rise_recP x) ?_ (fewW_recP hxf hxd) fun c2 w25 hx25 hr25 => ?_
          · intro p hp
            simp only [recP, List.mem_cons, List.not_mem_nil, or_false] at hp
            rcases hp with rfl | rfl | rfl | rfl | rfl <;> simp
          have hx0' := hx0.trans hx25
          refine ⟨r39 hx0', ?_⟩
          refine row_v1 hr25.rep.len fun t w26 ht26 hx26 => ?_
          have hG26 := hGo.more (hx0'.trans hx26)
          refine ⟨hG26.ld rfl, ?_⟩
          have h0le := (hGo.more hx0).le
          have h0lt := (hGo.more hx0).olt
          refine hG26.app (n := w0.heap.size) ht26 (VRepP.chg (G := From w0.heap.size) hx26 (fun _ _ _ e => e) hr25) h0le h0lt (by rw [List.length_map, List.length_take]; omega) fun ov3 w28 hG28 _ _ => ?_
          refine hJ w28 ⟨ov3, ?_⟩
          rw [List.take_add_one, hx]
          simpa [recV] using hG28
        have n1' : x.addr.length ≤ 9223372036854775807 := by omega
        have n2' : x.typ.length ≤ 9223372036854775807 := by omega
        have n3' : x.id.length ≤ 9223372036854775807 := by omega
        refine ⟨?_, ?_⟩
        · refine row_s5 fun kt w20 hk20 hx20 => ?_
          refine ⟨r51 hx20, r48 hx20, r47 hx20, r45 hx20, r42 hx20, r39 hx20, ?_⟩
          refine text_p n1' fun ca w21 hx21 ha => ?_
          have hx21' := hx20.trans hx21
          refine ⟨r51 hx21', r48 hx21', r47 hx21', r45 hx21', r39 hx21', ?_⟩
          refine text_p n3' fun ci w22 hx22 hid => ?_
          have hx22' := hx21'.trans hx22
          refine ⟨r51 hx22', r47 hx22', r45 hx22', r39 hx22', ?_⟩
          refine text_p n2' fun ct w23 hx23 ht => ?_
          have hx23' := hx22'.trans hx23
          refine ⟨r47 hx23', r45 hx23', r39 hx23', ?_⟩
          refine row_v5 (ha w23) (hva.ext hx23') (hvd.ext hx23') (hid w23) (ht w23) fun xt w24 hi24 hx24 => ?_
          exact fin (J := fun _ w' => ∃ ov', GrowL w2 w' q w5.heap.size ov' ((l.take (i + 1)).map recV)) (hx23'.trans hx24) (hk20.ext (hx21.trans (hx22.trans (hx23.trans hx24)))) hi24 fun w' h => h
        · refine text_p n1' fun ca w29 hx29 ha => ?_
          refine ⟨r51 hx29, r48 hx29, r47 hx29, r45 hx29, r39 hx29, ?_, ?_⟩
          · refine row_s5 fun kt w30 hk30 hx30 => ?_
            have hx30' := hx29.trans hx30
            refine ⟨r51 hx30', r48 hx30', r47 hx30', r45 hx30', r39 hx30', ?_⟩
            refine text_p n3' fun ci w31 hx31 hid => ?_
            have hx31' := hx30'.trans hx31
            refine ⟨r51 hx31', r47 hx31', r45 hx31', r39 hx31', ?_⟩
            refine text_p n2' fun ct w32 hx32 ht => ?_
            have hx32' := hx31'.trans hx32
            refine ⟨r47 hx32', r45 hx32', r39 hx32', ?_⟩
            refine row_v5 (ha w32) (hva.ext hx32') (hvd.ext hx32') (hid w32) (ht w32) fun xt w33 hi33 hx33 => ?_
            exact fin (J := fun _ w' => ∃ ov', GrowL w2 w' q w5.heap.size ov' ((l.take (i + 1)).map recV)) (hx32'.trans hx33) (hk30.ext (hx31.trans (hx32.trans hx33))) hi33 fun w' h => h
          · refine text_p n3' fun ci w38 hx38 hid => ?_
            have hx38' := hx29.trans hx38
            refine ⟨r51 hx38', r47 hx38', r45 hx38', r39 hx38', ?_, ?_⟩
            · refine row_s5 fun kt w39 hk39 hx39 => ?_
              have hx39' := hx38'.trans hx39
              refine ⟨r51 hx39', r47 hx39', r45 hx39', r39 hx39', ?_⟩
              refine text_p n2' fun ct w40 hx40 ht => ?_
              have hx40' := hx39'.trans hx40
              refine ⟨r47 hx40', r45 hx40', r39 hx40', ?_⟩
              refine row_v5 (ha w40) (hva.ext hx40') (hvd.ext hx40') (hid w40) (ht w40) fun xt w41 hi41 hx41 => ?_
              exact fin (J := fun _ w' => ∃ ov', GrowL w2 w' q w5.heap.size ov' ((l.take (i + 1)).map recV)) (hx40'.trans hx41) (hk39.ext (hx40.trans hx41)) hi41 fun w' h => h
            · refine text_p n2' fun ct w46 hx46 ht => ?_
              have hx46' := hx38'.trans hx46
              refine ⟨r47 hx46', r45 hx46', r39 hx46', ?_, ?_⟩
              · refine row_s5 fun kt w47 hk47 hx47 => ?_
                have hx47' := hx46'.trans hx47
                refine ⟨r47 hx47', r45 hx47', r39 hx47', ?_⟩
                refine row_v5 (ha w47) (hva.ext hx47') (hvd.ext hx47') (hid w47) (ht w47) fun xt w48 hi48 hx48 => ?_
                exact fin (J := fun _ w' => ∃ ov', GrowL w2 w' q w5.heap.size ov' ((l.take (i + 1)).map recV)) (hx47'.trans hx48) (hk47.ext hx48) hi48 fun w' h => h
              · refine row_v5 (ha w46) (hva.ext hx46') (hvd.ext hx46') (hid w46) (ht w46) fun xt w53 hi53 hx53 => ?_
                have hx53' := hx46'.trans hx53
                refine ⟨r39 hx53', ?_⟩
                refine row_s5 fun kt w54 hk54 hx54 => ?_
                exact fin (J := fun _ w' => ∃ ov', GrowL w2 w' q w5.heap.size ov' ((l.take (i + 1)).map recV)) (hx53'.trans hx54) hk54 (hi53.ext hx54) fun w' h => h
    rintro st g3 w59 ⟨ov', hG59⟩
    rw [bin_add, up1 (by omega)]
    exact hL _ ⟨ov', hG59⟩
  · rintro w7 g L ⟨ov, hG7⟩
    rw [List.take_length] at hG7
    simp only [List.getD_cons_zero]
    rw [bin_lss, decide_eq_false (by omega), condW_false]
    have hx27 := hG7.ext
    have hx07 := hx02.trans hx27
    have hfl : fewW (listV l) = true := fewW_list (by rw [List.length_map]; omega) fun y hy => by
      obtain ⟨r, hr, rfl⟩ := List.mem_map.1 hy
      exact fewW_rec (recsOk_few hrecs r hr) (hd r hr)
    refine enc_end (lv := listV l) (hT.ext hx07) (hA.ext (hx2.trans hx27)) hser.1 hser.2 hG7.hb (hG7.rep (by rw [List.length_map]; omega)) hfl (fun hne w' hx' => hlong hg hne w' (hx07.trans hx')) (fun he b cap c w' hx' hlo hb' => ?_)
    exact hok hg he b cap c w' (hx07.trans hx') (by have := hx07.size; omega) hb'
end
end Go.Proofs.YtnoepcndjljolaaGreatDoor
namespace Go.Proofs.YtnoepcndjljolaaGreatDoor
open Go Go.Eng Go.Num Go.RowKit
set_option maxRecDepth 100000
theorem from_fold : ∀ (d : Str) (acc : Nat), d.all Num.isDig = true → Lib.decFrom acc d = some (d.foldl (fun n c => n * 10 + Num.dval c) acc)
  | [], acc, _ => rfl
  | c :: d, acc, h => by
    simp only [List.all_cons, Bool.and_eq_true] at h
    have hc := h.1
    simp only [Num.isDig, Bool.and_eq_true, decide_eq_true_eq] at hc
    simp only [Lib.decFrom, Lib.digitVal, if_pos hc, List.foldl_cons]
    exact from_fold d _ h.2
theorem parse_fold : ∀ (d : Str) (acc u : Nat), Lib.parseUint10 acc d = .ok u → u = d.foldl (fun n c => n * 10 + Num.dval c) acc
  | [], acc, u, h => by
    simp only [Lib.parseUint10] at h
    injection h with h
    exact h.symm
  | c :: d, acc, u, h => by
    simp only [Lib.parseUint10] at h
    split at h
    · split at h
      · cases h
      · split at h
        · cases h
        · exact parse_fold d _ u h
    · cases h
theorem dec_pos {c : UInt8} {d : Str} (h : (c :: d).all Num.isDig = true) (h48 : c ≠ 48) : 1 ≤ Num.dec (c :: d) := by
  rw [Num.dec_cons]
  simp only [List.all_cons, Bool.and_eq_true] at h
  have hc := h.1
  simp only [Num.isDig, Bool.and_eq_true, decide_eq_true_eq] at hc
  have : c.toNat ≠ 48 := fun e => h48 (by apply UInt8.toNat_inj.1; exact e)
  have hv : 1 ≤ Num.dval c := by unfold Num.dval; omega
  have := Nat.pow_pos (n := d.length) (show 0 < 10 by omega)
  have := Nat.mul_le_mul hv this
  omega
theorem dec_back_digits : ∀ (n : Nat) (d : Str), d.length ≤ n → d ≠ [] → d.all Num.isDig = true → (d.head? = some 48 → d = [48]) → Lib.decDigits (Num.dec d) = d := by
  intro n
  induction n with
  | zero => intro d h h0 _ _; exact absurd (List.eq_nil_of_length_eq_zero (by omega)) h0
  | succ n ih =>
    intro d hl h0 ha h48
    obtain ⟨l, c, rfl⟩ : ∃ l c, d = l ++ [c] := ⟨d.dropLast, d.getLast h0, (List.dropLast_concat_getLast h0).symm⟩
    simp only [List.all_append, List.all_cons, List.all_nil, Bool.and_true, Bool.and_eq_true] at ha
    have hc := ha.2
    simp only [Num.isDig, Bool.and_eq_true, decide_eq_true_eq] at hc
    have ec : UInt8.ofNat (48 + Num.dval c) = c := by
      unfold Num.dval
      rw [show 48 + (c.toNat - 48) = c.toNat by omega, UInt8.ofNat_toNat]
    have hv : Num.dval c < 10 := by unfold Num.dval; omega
    have h1 : Num.dec [c] = Num.dval c := by simp [Num.dec]
    rw [Num.dec_app, h1, List.length_singleton, Nat.pow_one, Lib.decDigits]
    cases l with
    | nil =>
      rw [show Num.dec [] = 0 from rfl, Nat.zero_mul, Nat.zero_add, dif_pos hv, ec]
      rfl
    | cons a l =>
      have ha48 : a ≠ 48 := fun e => by
        subst e
        have := h48 rfl
        simp at this
      have hp := dec_pos ha.1 ha48
      rw [dif_neg (by omega), show (Num.dec (a :: l) * 10 + Num.dval c) / 10 = Num.dec (a :: l) by omega, show (Num.dec (a :: l) * 10 + Num.dval c) % 10 = Num.dval c by omega, ec,
        ih (a :: l) (by simp at hl ⊢; omega) (by simp) ha.1 fun e => by simp only [List.head?_cons, Option.some.injEq] at e; exact absurd e ha48]
theorem parseMag_dec {d : Str} {u : Nat} (h : Lib.parseMag d = .ok u) : u = Num.dec d := by
  unfold Lib.parseMag at h
  split at h
  · cases h
  · exact parse_fold d 0 u h
theorem decNat_dec {d : Str} {u : Nat} (ha : d.all Num.isDig = true) (h : Lib.decNat d = some u) : u = Num.dec d := by
  unfold Lib.decNat at h
  split at h
  · cases h
  · rw [from_fold d 0 ha] at h
    exact (Option.some.inj h).symm
theorem itoa_of {s : Str} {n : Int} (hg : goodN s = true) (hn : (s.head? = some 45 ∧ n = -((Num.dec (Num.dig s) : Nat) : Int)) ∨ (s.head? ≠ some 45 ∧ n = ((Num.dec (Num.dig s) : Nat) : Int))) : Lib.itoa n = s := by
  obtain ⟨g1, g2, g3, g4⟩ := goodN_out hg
  have hne : Num.dig s ≠ [] := fun e => by rw [e] at g1; simp at g1
  rcases hn with ⟨h45, rfl⟩ | ⟨h45, rfl⟩
  · cases s with
    | nil => simp at h45
    | cons a r =>
      simp only [List.head?_cons, Option.some.injEq] at h45
      subst h45
      have ed : Num.dig (45 :: r) = r := by simp [Num.dig]
      rw [ed] at g1 g3 g4 hne ⊢
      have hd : Lib.decDigits (Num.dec r) = r := dec_back_digits _ r (Nat.le_refl _) hne g4 fun e => by have := g3 e; cases this
      have hp : 1 ≤ Num.dec r := by
        cases r with
        | nil => exact absurd rfl hne
        | cons c d => exact dec_pos g4 fun e => by subst e; have := g3 rfl; cases this
      unfold Lib.itoa
      rw [if_pos (by omega), show (-((Num.dec r : Nat) : Int)).natAbs = Num.dec r by omega, hd]
  · have ed : Num.dig s = s := by
      cases s with
      | nil => rfl
      | cons a r =>
        have : a ≠ 45 := fun e => h45 (by rw [e]; rfl)
        simp [Num.dig, this]
    rw [ed] at g1 g3 g4 hne ⊢
    have hd : Lib.decDigits (Num.dec s) = s := dec_back_digits _ s (Nat.le_refl _) hne g4 g3
    unfold Lib.itoa
    rw [if_neg (by omega), show ((Num.dec s : Nat) : Int).toNat = Num.dec s by omega, hd]
theorem atoi_back {s : Str} {n : Int} (hg : goodN s = true) (h : Lib.atoi s = some n ∨ Lib.atoiAll s = .ok n) : Lib.itoa n = s := by
  obtain ⟨g1, g2, g3, g4⟩ := goodN_out hg
  refine itoa_of hg ?_
  cases s with
  | nil => simp [Num.dig] at g1
  | cons b r =>
    by_cases h45 : b = 45
    · subst h45
      refine .inl ⟨rfl, ?_⟩
      have ed : Num.dig (45 :: r) = r := by simp [Num.dig]
      rw [ed] at g4 ⊢
      rcases h with h | h
      · simp only [Lib.atoi, beq_self_eq_true, if_true, Option.map_eq_some_iff] at h
        obtain ⟨u, hu, rfl⟩ := h
        rw [decNat_dec g4 hu]
      · unfold Lib.atoiAll at h
        simp only [show (45 : UInt8).toNat = 45 from rfl, or_true, if_true, not_true_eq_false, false_and, if_false, true_and] at h
        split at h
        · cases h
        · cases h
        · rename_i u hu
          split at h
          · cases h
          · simp only [Lib.NumEnd.ok.injEq] at h
            rw [← h, parseMag_dec hu]
    · refine .inr ⟨fun e => h45 (by simpa using e), ?_⟩
      have ed : Num.dig (b :: r) = b :: r := by simp [Num.dig, h45]
      rw [ed] at g4 ⊢
      have hb := g4
      simp only [List.all_cons, Bool.and_eq_true, Num.isDig, decide_eq_true_eq] at hb
      have hb45 : (b == 45) = false := beq_eq_false_iff_ne.2 h45
      have hb43 : (b == 43) = false := beq_eq_false_iff_ne.2 fun e => by
        subst e
        have := hb.1.1
        revert this; decide
      rcases h with h | h
      · simp only [Lib.atoi, hb45, hb43, Bool.false_eq_true, if_false, Option.map_eq_some_iff] at h
        obtain ⟨u, hu, rfl⟩ := h
        rw [decNat_dec g4 hu]
      · unfold Lib.atoiAll at h
        have n43 : ¬ b.toNat = 43 := by omega
        have n45 : ¬ b.toNat = 45 := by omega
        simp only [n43, n45, or_self, if_false, not_false_eq_true, true_and, false_and] at h
        split at h
        · cases h
        · cases h
        · rename_i u hu
          split at h
          · cases h
          · simp only [Lib.NumEnd.ok.injEq] at h
            rw [← h, parseMag_dec hu]
section
variable [HX]
theorem inner_g {s : Str} {w : World} {K : Value → World → Prop} (hl : s.length ≤ 100000)
    (hK : ∀ n e w', -9223372036854775808 ≤ n → n ≤ 9223372036854775807 → Ext w w' → ((e = .nilIface ∧ (Lib.atoi s = some n ∨ Lib.atoiAll s = .ok n)) ∨ e = .iface 201 (.int .i64 2) ∨ e = .iface 201 (.int .i64 1)) → K (.tuple #[i64 n, e]) w') :
    callF Tryz.prog 120 [str s] w K := by
  by_cases h18 : s.length ≤ 18
  · cases ha : Lib.atoi s with
    | some n =>
      refine of_calls (args := #[str s]) Tryz.call120 ((Tryz.internal_strconv_Atoi (ofL s) n (by rw [ofL_size]; exact h18) (by rw [ofL_data]; exact ha) w).mono ?_)
      rintro e w' ⟨rfl, t, rfl⟩
      refine ⟨_, rfl, hK n _ _ ?_ ?_ (bytes_ext _ _ _) (.inl ⟨rfl, .inl ha⟩)⟩
      · have := Lib.atoi_bound ha h18; omega
      · have := Lib.atoi_bound ha h18; omega
    | none =>
      refine of_calls (args := #[str s]) Tryz.call120 ((Tryz.internal_strconv_Atoi_fail (ofL s) (by rw [ofL_size]; exact h18) (by rw [ofL_data]; exact ha) w).mono ?_)
      rintro e w' ⟨rfl, hw⟩
      refine ⟨_, rfl, hK 0 _ _ (by omega) (by omega) ?_ (.inr (.inl rfl))⟩
      rcases hw with rfl | ⟨t, rfl⟩
      · exact Chg.refl _ _
      · exact bytes_ext _ _ _
  · refine W120_ok ?_
    unfold W120
    rw [lens_str]
    have hb1 : decide ((0 : Int) < (s.length : Int)) = true := decide_eq_true (by omega)
    have hb2 : decide ((s.length : Int) < 10) = false := decide_eq_false (by omega)
    have hb3 : decide ((s.length : Int) < 19) = false := decide_eq_false (by omega)
    simp only [bin_lss, hb1, hb2, hb3, isB_t, isB_f, isB_u, GdW_pure, GdW_f, cond_true, cond_false, List.getD_cons_zero, pick_t, pick_f, Bool.not_true, Bool.not_false]
    intros
    rw [condW_false]
    refine of_calls (args := #[str s, i64 10, i64 0]) Tryz.call175 ((Tryz.internal_strconv_ParseInt_10 (ofL s) (by rw [ofL_size]; omega) (by rw [ofL_size]; omega) w).mono ?_)
    rintro e w' ⟨rfl, hw⟩
    refine ⟨_, rfl, ?_⟩
    have hx : Ext w w' := by
      rcases hw with rfl | ⟨t, rfl⟩
      · exact Chg.refl _ _
      · exact bytes_ext _ _ _
    rw [ofL_data]
    rcases hA : Lib.atoiAll s with n | _ | _
    · simp only [Lib.intTuple, ext_tuple]
      refine ⟨_, rfl, _, rfl, hK n _ w' ?_ ?_ hx (.inl ⟨rfl, .inr hA⟩)⟩
      · exact (Lib.atoiAll_bounds hA).1
      · exact (Lib.atoiAll_bounds hA).2
    · simp only [Lib.intTuple, ext_tuple]
      exact ⟨_, rfl, _, rfl, hK 0 _ w' (by omega) (by omega) hx (.inr (.inl rfl))⟩
    · simp only [Lib.intTuple, ext_tuple]
      refine ⟨_, rfl, _, rfl, hK _ _ w' ?_ ?_ hx (.inr (.inr rfl))⟩
      · unfold Lib.atoiSat; split <;> omega
      · unfold Lib.atoiSat; split <;> omega
theorem atoi_g {s : Str} {w : World} {K : Value → World → Prop} (hT : TabA w) (hl : s.length ≤ 100000)
    (hK : ∀ n e w', -9223372036854775808 ≤ n → n ≤ 9223372036854775807 → Ext w w' → ((e = .nilIface ∧ (Lib.atoi s = some n ∨ Lib.atoiAll s = .ok n)) ∨ ∃ T v, e = .iface T v) → K (.tuple #[i64 n, e]) w') :
    callF Tryz.prog 61 [str s] w K := by
  refine W61_ok ?_
  unfold W61
  refine inner_g hl fun n e w1 h1 h2 hx1 he => ?_
  simp only [ext_tuple]
  refine ⟨_, rfl, _, rfl, ?_⟩
  have hT1 := hT.ext hx1
  rcases he with ⟨rfl, hn⟩ | rfl | rfl
  · rw [eq_nil_err, condW_false]
    exact hK n _ w1 h1 h2 hx1 (.inl ⟨rfl, hn⟩)
  · rw [ne_nil_any, condW_true]
    obtain ⟨T, v, hv⟩ := hT1.err
    refine of_calls (args := #[str [65, 116, 111, 105], str s, i64 0, i64 0, .iface 201 (.int .i64 2)]) Tryz.call121 ((Tryz.strconv_toError_syntax (ofL [65, 116, 111, 105]) (ofL s) 0 0 _ w1 (by rw [ofL_size]; omega) hv (.inr ⟨T, v, rfl⟩)).mono ?_)
    rintro e w' ⟨N, rfl, _, _, hb⟩
    exact ⟨_, rfl, hK n _ w' h1 h2 (hx1.trans (Chg.of_below hb)) (.inr ⟨_, _, rfl⟩)⟩
  · rw [ne_nil_any, condW_true]
    obtain ⟨T, v, hv⟩ := hT1.rng
    refine of_calls (args := #[str [65, 116, 111, 105], str s, i64 0, i64 0, .iface 201 (.int .i64 1)]) Tryz.call121 ((Tryz.strconv_toError_range (ofL [65, 116, 111, 105]) (ofL s) 0 0 _ w1 (by rw [ofL_size]; omega) hv (.inr ⟨T, v, rfl⟩)).mono ?_)
    rintro e w' ⟨N, rfl, _, _, hb⟩
    exact ⟨_, rfl, hK n _ w' h1 h2 (hx1.trans (Chg.of_below hb)) (.inr ⟨_, _, rfl⟩)⟩
theorem numint_p {s : Str} {w : World} {K : Value → World → Prop} (hT : TabA w) (hl : s.length ≤ 100000)
    (hK : ∀ n ok w', Ext w w' → -9223372036854775808 ≤ n → n ≤ 9223372036854775807 → (ok = true → Lib.itoa n = s) → K (.tuple #[i64 n, .bool ok]) w') : callF Tryz.prog 29 [str s] w K := by
  refine W29_ok ?_
  unfold W29
  refine atoi_g hT hl fun n e w1 h1 h2 hx1 he => ?_
  simp only [ext_tuple]
  refine ⟨_, rfl, _, rfl, ?_⟩
  rcases he with ⟨rfl, hn⟩ | ⟨T, v, rfl⟩
  · rw [eq_nil_err]
    simp only [isB_f, Bool.not_false]
    refine GdW.act (!goodN s) (fun w' => Ext w1 w') (fun _ => Chg.refl _ _) (fun _ J hJ => ?_) fun g w4 hx4 => ?_
    · refine numgood_ref (by omega) fun w3 hx3 => ?_
      rw [un_not]
      exact hJ w3 hx3
    simp only [List.getD_cons_zero, pick_f, cond_true]
    rw [condW_b]
    have hx := hx1.trans hx4
    refine ⟨fun _ => hK 0 false w4 hx (by omega) (by omega) (fun h => by cases h), fun hg => ?_⟩
    exact hK n true w4 hx h1 h2 fun _ => atoi_back (by simpa using hg) hn
  · rw [ne_nil_any]
    simp only [isB_f, Bool.not_true, GdW_f]
    intro g
    rw [pick_t, condW_true]
    exact hK 0 false w1 hx1 (by omega) (by omega) (fun h => by cases h)
end
end Go.Proofs.YtnoepcndjljolaaGreatDoor
namespace Go.Proofs.YtnoepcndjljolaaGreatDoor
open Go Go.Eng Go.Num Go.RowKit
set_option maxRecDepth 100000
theorem plain_head {v : JV} (h : plainM v = true) : headOk v.k v.b v.t v.xs.length v.ks = true ∧ ∀ x ∈ v.xs, plainM x = true := by
  cases v with
  | mk k b t xs ks =>
    simp only [plainM, plainL_all, Bool.and_eq_true, List.all_eq_true] at h
    exact h
theorem plain_txt {x : JV} (h : plainM x = true) (hk : x.k = 4) : x = txtV x.t := by
  have h1 := (plain_head h).1
  cases x with
  | mk k b t xs ks =>
    simp only [JV.k] at hk
    subst hk
    simp only [JV.k, JV.b, JV.t, JV.xs, JV.ks, headOk, Bool.and_eq_true, Bool.or_eq_true, decide_eq_true_eq, Bool.not_eq_true', show ¬ (4 : Int) = 2 by decide, show ¬ (4 : Int) = 6 by decide, show ¬ (5 : Int) ≤ 4 by decide, decide_false, Bool.or_false, or_false, false_or] at h1
    obtain ⟨⟨⟨⟨⟨⟨⟨⟨⟨_, _⟩, hb⟩, _⟩, hx⟩, hks⟩, _⟩, _⟩, _⟩, _⟩ := h1
    have ex : xs = [] := List.eq_nil_of_length_eq_zero (of_decide_eq_true hx)
    have ek : ks = [] := of_decide_eq_true (hks.resolve_left (by decide))
    have eb : b = false := by simpa using hb
    subst eb ex ek
    rfl
theorem plain_list {x : JV} (h : plainM x = true) (hk : x.k = 5) : x = .mk 5 false [] x.xs [] := by
  have h1 := (plain_head h).1
  cases x with
  | mk k b t xs ks =>
    simp only [JV.k] at hk
    subst hk
    simp only [JV.k, JV.b, JV.t, JV.xs, JV.ks, headOk, Bool.and_eq_true, Bool.or_eq_true, decide_eq_true_eq, Bool.not_eq_true', show ¬ (5 : Int) = 2 by decide, show ¬ (5 : Int) = 6 by decide, show ¬ (5 : Int) = 3 by decide, show ¬ (5 : Int) = 4 by decide, decide_false, Bool.or_false, or_false, false_or] at h1
    obtain ⟨⟨⟨⟨⟨⟨⟨⟨⟨_, _⟩, hb⟩, ht⟩, _⟩, hks⟩, _⟩, _⟩, _⟩, _⟩ := h1
    have et : t = [] := of_decide_eq_true ht
    have ek : ks = [] := of_decide_eq_true (hks.resolve_left (by decide))
    have eb : b = false := by simpa using hb
    subst eb et ek
    rfl
theorem plain_obj {x : JV} (h : plainM x = true) (hk : x.k = 6) : x = .mk 6 false [] x.xs x.ks ∧ x.ks.length = x.xs.length := by
  have h1 := (plain_head h).1
  cases x with
  | mk k b t xs ks =>
    simp only [JV.k] at hk
    subst hk
    simp only [JV.k, JV.b, JV.t, JV.xs, JV.ks, headOk, Bool.and_eq_true, Bool.or_eq_true, decide_eq_true_eq, Bool.not_eq_true', show ¬ (6 : Int) = 2 by decide, show ¬ (6 : Int) = 3 by decide, show ¬ (6 : Int) = 4 by decide, decide_false, decide_true, Bool.or_false, or_false, false_or, Bool.not_true, Bool.false_eq_true] at h1
    obtain ⟨⟨⟨⟨⟨⟨⟨⟨⟨_, _⟩, hb⟩, ht⟩, _⟩, _⟩, _⟩, _⟩, hn⟩, _⟩ := h1
    have et : t = [] := of_decide_eq_true ht
    have eb : b = false := by simpa using hb
    subst eb et
    exact ⟨rfl, of_decide_eq_true hn⟩
theorem rec_of {v x0 x1 x2 x3 x4 : JV} (h : plainM v = true) (hk : v.k = 6) (hks : v.ks = [kAddr, kAttrs, kDeps, kId, kType]) (hxs : v.xs = [x0, x1, x2, x3, x4]) (k0 : x0.k = 4) (k2 : x2.k = 5) (k3 : x3.k = 4) (k4 : x4.k = 4) (hd : ∀ d ∈ x2.xs, d.k = 4) :
    v = recV ⟨x0.t, x4.t, x3.t, x1, x2.xs.map JV.t⟩ := by
  obtain ⟨_, hp⟩ := plain_head h
  rw [hxs] at hp
  have e := (plain_obj h hk).1
  rw [e, hxs, hks]
  have e0 := plain_txt (hp x0 (by simp)) k0
  have e2 := plain_list (hp x2 (by simp)) k2
  have e3 := plain_txt (hp x3 (by simp)) k3
  have e4 := plain_txt (hp x4 (by simp)) k4
  have ed : x2.xs = (x2.xs.map JV.t).map txtV := by
    rw [List.map_map]
    refine (List.map_id _).symm.trans (List.map_congr_left fun d hdm => ?_)
    exact plain_txt ((plain_head (hp x2 (by simp))).2 d hdm) (hd d hdm)
  show JV.mk 6 false [] [x0, x1, x2, x3, x4] [kAddr, kAttrs, kDeps, kId, kType] = JV.mk 6 false [] [txtV x0.t, x1, depsV (x2.xs.map JV.t), txtV x3.t, txtV x4.t] [kAddr, kAttrs, kDeps, kId, kType]
  have e2' : x2 = depsV (x2.xs.map JV.t) := by
    unfold depsV
    rw [← ed]
    exact e2
  rw [← e0, ← e3, ← e4, ← e2']
structure ItemsP (G : Nat → Prop) (w : World) (sv : Value) (xs : List JV) : Prop where
  it : ∃ T L, SlAt w T sv xs.length L ∧ VRepsP G w xs L
  few : xs.length ≤ 9223372036854775807
theorem ItemsP.rep {G : Nat → Prop} {w : World} {sv : Value} {xs : List JV} (h : ItemsP G w sv xs) : ItemsAt w sv xs := ⟨let ⟨T, L, h1, h2⟩ := h.it; ⟨T, L, h1, VRepsP.rep h2⟩, h.few⟩
theorem ItemsP.ext {G : Nat → Prop} {w w' : World} {sv : Value} {xs : List JV} (h : ItemsP G w sv xs) (hx : Ext w w') : ItemsP G w' sv xs := ⟨let ⟨T, L, h1, h2⟩ := h.it; ⟨T, L, h1.ext hx, VRepsP.chg hx (fun _ _ _ e => e) h2⟩, h.few⟩
theorem itm_at {G : Nat → Prop} {w : World} {sv : Value} {xs : List JV} {i : Nat} {x : JV} (h : ItemsP G w sv xs) (hx : xs[i]? = some x) :
    ∃ (p : Addr) (cs : List Value), VRepP G w x cs ∧ (∀ K : Value → Prop, K (.pointer (some p)) → ixaW none 5 sv (i64 (i : Nat)) K) ∧ (∀ (w' : World) (off : Nat) (v : Value) (K : Value → Prop), Ext w w' → cs[off]? = some v → K v → ldW false 1 (.pointer (some (p.add off))) w' K) ∧
      (∀ (w' : World) (K : Value → Prop), Ext w w' → K (.agg cs.toArray) → ldW true 5 (.pointer (some p)) w' K) := by
  obtain ⟨T, L, hS, hR⟩ := h.it
  obtain ⟨hi, _⟩ := List.getElem?_eq_some_iff.1 hx
  have hlen := hR.len
  obtain ⟨cs, hc, hg⟩ := hR.get hx
  obtain ⟨q, cap, rfl, h1, h2, h3⟩ := hS
  obtain ⟨b, off, c, fr, rfl, hb, hcs⟩ := h3 (by intro e; rw [e] at hlen; simp at hlen; omega)
  have hin : ∀ j, j < 5 → c[off + i * 5 + j]? = cs[j]? := fun j hj => by
    rw [← hg j hj, ← hcs (i * 5 + j) (by omega)]
    congr 1; omega
  refine ⟨⟨b, off + i * 5, none⟩, cs, hc, fun K hK => ?_, fun w' o v K hx' hv hK => ?_, fun w' K hx' hK => ld_cells (hx'.at hb id) hc.rep.len hin hK⟩
  · rw [ixa_slice, Int.toNat_natCast, add_mk]
    exact ⟨by omega, by omega, hK⟩
  · have ho : o < 5 := by have := (List.getElem?_eq_some_iff.1 hv).1; rw [hc.rep.len] at this; exact this
    rw [ld_one]
    exact ⟨_, by rw [add_mk, cell_eq, hx'.at hb id, cellO_some, ← hv, ← hin o ho], hK⟩
theorem cs_k {w : World} {x : JV} {cs : List Value} (h : VRep w x cs) : cs[0]? = some (i64 x.k) := by obtain ⟨sv, kv, T1, T2, L, rfl, _⟩ := h.out; rfl
theorem cs_t {w : World} {x : JV} {cs : List Value} (h : VRep w x cs) : cs[2]? = some (str x.t) := by obtain ⟨sv, kv, T1, T2, L, rfl, _⟩ := h.out; rfl
theorem cs_x {G : Nat → Prop} {w : World} {x : JV} {cs : List Value} (h : VRepP G w x cs) : ∃ sv, cs[3]? = some sv ∧ ItemsP G w sv x.xs := by
  obtain ⟨sv, kv, T1, T2, L, rfl, h1, h2, _, h4, _⟩ := h.out
  exact ⟨sv, rfl, ⟨T1, L, h1, h2⟩, h4.1⟩
structure GrowD (w0 w : World) (p B : Nat) (r : RV) (vcs : List Value) (dv : Value) : Prop where
  ext : Ext w0 w
  hb : w.heap[p]? = some (.cells (rcs r vcs dv).toArray RT (0, 0))
  lo : w0.heap.size ≤ p
  lt : p < B
  le : B ≤ w.heap.size
  own : Own w B ST 1 dv r.deps.length (r.deps.map str)
theorem GrowD.more {w0 w w' : World} {p B : Nat} {r : RV} {vcs : List Value} {dv : Value} (h : GrowD w0 w p B r vcs dv) (hx : Ext w w') : GrowD w0 w' p B r vcs dv :=
  ⟨h.ext.trans hx, hx.at h.hb id, h.lo, h.lt, Nat.le_trans h.le hx.size, own_chg h.own hx fun _ _ e => e⟩
section
variable [HX]
theorem GrowD.app {w0 w : World} {p B : Nat} {r : RV} {vcs : List Value} {dv t : Value} {d : Str} {K : World → Prop} (h : GrowD w0 w p B r vcs dv) (hv : vcs.length = 5) (ht : SlAt w ST t 1 [str d]) (hl : r.deps.length ≤ 1000000)
    (hK : ∀ dv' w', GrowD w0 w' p B { r with deps := r.deps ++ [d] } vcs dv' → (∀ k, k < B → k ≠ p → w'.heap[k]? = w.heap[k]?) → w.heap.size ≤ w'.heap.size → K w') :
    semE Tryz.prog (Builtin.append_ #[38, 38] 38 #[dv, t]) w fun t2 w1 => stW 1 (.pointer (some ((⟨p, 0, none⟩ : Addr).add 8))) t2 w1 K := by
  have hlo := h.lo
  have hlt := h.lt
  refine append_own3 elem_s h.own ht (m := 1) rfl (by intro u hu; rw [List.mem_singleton.1 hu]; rfl) (by omega) (by omega) h.le fun v' w1 hO1 hc1 hb1' => ?_
  have hge : ∀ k, dv.ownBlock = some k → B ≤ k := fun k hk => (own_in h.own hk).1
  have hb1 := hc1.at h.hb fun e => by have := hge p e; omega
  have hx1 : Ext w0 w1 := h.ext.then hc1 fun k hk e => by have := hge k e; omega
  rw [add_mk, Nat.zero_add]
  refine st_at hb1 (by obtain ⟨q, c, e, _⟩ := hO1.sl.shape; rw [e]; rfl) (by simp [hv]) fun w2 hz2 hb2 hc2 => ?_
  refine hK v' w2 ⟨hx1.new hc2 hlo, ?_, hlo, hlt, by have := h.le; have := hc1.size; omega, ?_⟩ (fun k hkB hkp => ?_) (by have := hc1.size; omega)
  · rw [hb2]
    have e : (rcs r vcs dv).set 8 v' = rcs { r with deps := r.deps ++ [d] } vcs v' := by
      show (str r.addr :: str r.typ :: str r.id :: (vcs ++ [dv])).set 8 v' = str r.addr :: str r.typ :: str r.id :: (vcs ++ [v'])
      simp only [List.set_cons_succ]
      rw [List.set_append_right _ _ (by omega), hv]
      rfl
    rw [← e]
    simp
  · have hO2 := own_chg hO1 hc2 fun k hk e => by have := (own_in hO1 hk).1; have e : k = p := e; omega
    have : (r.deps ++ [d]).length = r.deps.length + 1 := by simp
    simp only [List.length_append, List.length_singleton, List.map_append, List.map_cons, List.map_nil]
    exact hO2
  · have := h.le
    have := hc1.size
    rw [hc2.heap k (by omega) hkp, hc1.heap k (by omega) fun e => by have := hge k e; omega]
theorem stake_p {v : JV} {sv kv2 : Value} {ks : List Str} {kv : Value} {T : TypeId} {w : World} {K : Value → World → Prop} (h : VRep w v [i64 v.k, .bool v.b, str v.t, sv, kv2]) (hk : SlAt w T kv ks.length (ks.map str))
    (hK : ∀ w', Ext w w' → K (.tuple #[sv, .bool (decide (v.k = 6) && decide (v.ks = ks))]) w') : callF Tryz.prog 28 [.agg [i64 v.k, .bool v.b, str v.t, sv, kv2].toArray, kv] w K := by
  refine W28_ok ?_
  unfold W28
  obtain ⟨sv', kv', T1, T2, L, e, g1, g2, g3, hfit⟩ := h.out
  simp only [List.cons.injEq, true_and, and_true] at e
  obtain ⟨rfl, rfl⟩ := e
  refine box_new fun b w1 _ _ hb hx1 => ?_
  have hB : ValB w1 b v sv kv2 := ⟨hb, ⟨T1, L, g1.ext hx1, g2.ext hx1⟩, ⟨T2, g3.ext hx1⟩, hfit⟩
  have hxd : Ext w1 w1.drew := Chg.drew (Chg.refl (fun _ => False) w1)
  have hBd := hB.ext hxd
  simp only [fld_ptr, ld_one]
  refine ⟨sv, by rw [add_mk, cell_eq, hBd.hb, cellO_some]; rfl, i64 v.k, by rw [add_mk, cell_eq, hBd.hb, cellO_some]; rfl, ?_⟩
  rw [bin_eql]
  simp only [isB_t]
  by_cases h6 : v.k = 6
  · rw [decide_eq_true h6]
    simp only [GqW_t]
    refine ⟨_, rfl, kv2, by rw [ld_one]; exact ⟨kv2, by rw [add_mk, cell_eq, hBd.hb, cellO_some]; rfl, rfl⟩, _, rfl, ⟨fun _ => ?_, fun e => by cases e⟩⟩
    obtain ⟨T2, hks⟩ := hBd.keys
    refine equals_p hks ((hk.ext hx1).ext hxd) hfit.2.1 fun w7 hx7 => ?_
    have hB7 := hBd.ext hx7
    refine ⟨⟨sv, by rw [add_mk, cell_eq, hB7.hb, cellO_some]; rfl, rfl⟩, ?_⟩
    rw [pick_t]
    have := hK w7 (hx1.trans (hxd.trans hx7))
    rw [decide_eq_true h6, Bool.true_and] at this
    exact this
  · rw [decide_eq_false h6]
    simp only [GqW_f, GeW_f]
    refine ⟨⟨sv, by rw [add_mk, cell_eq, hBd.hb, cellO_some]; rfl, rfl⟩, ?_⟩
    rw [pick_f]
    have := hK w1.drew (hx1.trans hxd)
    rw [decide_eq_false h6, Bool.false_and] at this
    exact this
end
end Go.Proofs.YtnoepcndjljolaaGreatDoor
namespace Go.Proofs.YtnoepcndjljolaaGreatDoor
open Go Go.Eng Go.Num Go.RowKit
set_option maxRecDepth 100000
section
variable [HX]
set_option maxHeartbeats 1000000 in
theorem srec_p {G : Nat → Prop} {v : JV} {cs : List Value} {w : World} {K : Value → World → Prop} (hp : plainM v = true) (hn : ∀ x ∈ v.xs, x.xs.length ≤ 100000) (h : VRepP G w v cs)
    (hbad : ∀ w', Ext w w' → K (.tuple #[.agg zr.toArray, .bool false]) w')
    (hok : ∀ r rs w', v = recV r → Ext w w' → RRepP (fun k => G k ∨ w.heap.size ≤ k) w' r rs → K (.tuple #[.agg rs.toArray, .bool true]) w') :
    callF Tryz.prog 30 [.agg cs.toArray] w K := by
  refine W30_ok ?_
  unfold W30
  obtain ⟨sv, kv, T1, T2, L, rfl, g1, g2, g3, hfit, _⟩ := id h.out
  have hit : ItemsP G w sv v.xs := ⟨⟨T1, L, g1, g2⟩, hfit.1⟩
  refine box_new fun b w1 _ _ hbb hx1 => ?_
  refine alloc_new fun o w2 ho hz2 hbo hx2 => ?_
  refine ld_all (hx2.at hbb id) rfl ?_
  refine row_s5 fun kt w3 hk3 hx3 => ?_
  refine stake_p (ks := [kAddr, kAttrs, kDeps, kId, kType]) (h.rep.ext (hx1.trans (hx2.trans hx3))) hk3 fun w4 hx4 => ?_
  simp only [ext_tuple]
  refine ⟨_, rfl, _, rfl, ?_⟩
  have hx24 := hx3.trans hx4
  have hx04 := hx1.trans (hx2.trans hx24)
  have hbo4 := hx24.at hbo id
  have s1 := hx1.size
  -- nothing is handed back
  have bad : ∀ {w' : World}, Ext w4 w' → w'.heap[o]? = some (.cells zr.toArray RT (0, 0)) → (stW 9 (.pointer (some ⟨o, 0, none⟩)) (.agg zr.toArray) w' fun w14 => ldW true 9 (.pointer (some ⟨o, 0, none⟩)) w14 fun r15 => K (.tuple #[r15, .bool false]) w14) := fun {w'} hx' hb' => by
    refine st_agg_at (l := zr) hb' rfl rfl rfl fun w14 hz14 hb14 hc14 => ?_
    refine ld_all hb14 rfl ?_
    exact hbad w14 ((hx04.trans hx').new hc14 (by omega))
  rw [un_not]
  cases hc : (decide (v.k = 6) && decide (v.ks = [kAddr, kAttrs, kDeps, kId, kType])) with
  | false =>
    simp only [Bool.not_false, isB_f, Bool.not_true, GdW_f, pick_t, condW_true, put_nil]
    intros
    exact bad (Chg.refl _ _) hbo4
  | true =>
  simp only [Bool.and_eq_true, decide_eq_true_eq] at hc
  obtain ⟨h6, hks⟩ := hc
  have hxl : v.xs.length = 5 := by rw [← (plain_obj hp h6).2, hks]; rfl
  obtain ⟨x0, x1, x2, x3, x4, hxs⟩ : ∃ x0 x1 x2 x3 x4, v.xs = [x0, x1, x2, x3, x4] := by
    match hv : v.xs, hxl with
    | [a, b, c, d, e], _ => exact ⟨a, b, c, d, e, rfl⟩
  rw [hxs] at hit hn
  obtain ⟨p0, q0, r0, i0, f0, _⟩ := itm_at (i := 0) hit rfl
  obtain ⟨p1, q1, r1, i1, _, a1⟩ := itm_at (i := 1) hit rfl
  obtain ⟨p2, q2, r2, i2, f2, _⟩ := itm_at (i := 2) hit rfl
  obtain ⟨p3, q3, r3, i3, f3, _⟩ := itm_at (i := 3) hit rfl
  obtain ⟨p4, q4, r4, i4, f4, _⟩ := itm_at (i := 4) hit rfl
  simp only [Bool.not_true, isB_f, Bool.not_false]
  refine GdW.look (decide (x0.k ≠ 4)) (fun _ J hJ => ?_) fun g => ?_
  · refine i0 _ ?_
    rw [fld_ptr]
    refine f0 _ 0 _ _ hx04 (cs_k r0.rep) ?_
    rw [bin_neq]; exact hJ
  simp only [List.getD_cons_zero, pick_f, cond_true]
  refine (Classical.em (x0.k = 4)).symm.elim (fun k0 => ?_) fun k0 => ?_
  · rw [decide_eq_true k0]
    simp only [isB_f, Bool.not_true, GdW_f, pick_t, condW_true, put_nil]
    intros
    exact bad (Chg.refl _ _) hbo4
  rw [decide_eq_false (fun e => e k0)]
  simp only [isB_f, Bool.not_false]
  refine GdW.look (decide (x2.k ≠ 5)) (fun _ J hJ => ?_) fun g => ?_
  · refine i2 _ ?_
    rw [fld_ptr]
    refine f2 _ 0 _ _ hx04 (cs_k r2.rep) ?_
    rw [bin_neq]; exact hJ
  simp only [List.getD_cons_zero, pick_f, cond_true]
  refine (Classical.em (x2.k = 5)).symm.elim (fun k2 => ?_) fun k2 => ?_
  · rw [decide_eq_true k2]
    simp only [isB_f, Bool.not_true, GdW_f, pick_t, condW_true, put_nil]
    intros
    exact bad (Chg.refl _ _) hbo4
  rw [decide_eq_false (fun e => e k2)]
  simp only [isB_f, Bool.not_false]
  refine GdW.look (decide (x3.k ≠ 4)) (fun _ J hJ => ?_) fun g => ?_
  · refine i3 _ ?_
    rw [fld_ptr]
    refine f3 _ 0 _ _ hx04 (cs_k r3.rep) ?_
    rw [bin_neq]; exact hJ
  simp only [List.getD_cons_zero, pick_f, cond_true]
  refine (Classical.em (x3.k = 4)).symm.elim (fun k3 => ?_) fun k3 => ?_
  · rw [decide_eq_true k3]
    simp only [isB_f, Bool.not_true, GdW_f, pick_t, condW_true, put_nil]
    intros
    exact bad (Chg.refl _ _) hbo4
  rw [decide_eq_false (fun e => e k3)]
  simp only [isB_f, Bool.not_false]
  refine GdW.look (decide (x4.k ≠ 4)) (fun _ J hJ => ?_) fun g => ?_
  · refine i4 _ ?_
    rw [fld_ptr]
    refine f4 _ 0 _ _ hx04 (cs_k r4.rep) ?_
    rw [bin_neq]; exact hJ
  simp only [List.getD_cons_zero, pick_f, cond_true]
  refine (Classical.em (x4.k = 4)).symm.elim (fun k4 => ?_) fun k4 => ?_
  · rw [decide_eq_true k4]
    simp only [condW_true, put_nil]
    exact bad (Chg.refl _ _) hbo4
  rw [decide_eq_false (fun e => e k4), condW_false]
  have hxd : Ext w4 w4.drew := Chg.drew (Chg.refl (fun _ => False) w4)
  refine i0 _ ?_
  simp only [fld_ptr]
  refine f0 _ 2 _ _ (hx04.trans hxd) (cs_t r0.rep) ?_
  refine i1 _ ?_
  refine a1 _ _ (hx04.trans hxd) ?_
  refine i3 _ ?_
  refine f3 _ 2 _ _ (hx04.trans hxd) (cs_t r3.rep) ?_
  refine i4 _ ?_
  refine f4 _ 2 _ _ (hx04.trans hxd) (cs_t r4.rep) ?_
  simp only [put_str, List.length_cons, List.length_nil, List.set_cons_zero]
  refine ⟨by omega, ?_⟩
  have l1 := r1.rep.len
  refine put_next (A := [str x0.t, str [], str []]) (z := zq5) (rest := [.slice none 0 0]) rfl rfl l1 ?_
  show putW (str x0.t :: str [] :: str [] :: (q1 ++ [.slice none 0 0])) _ _
  simp only [put_str, put_nil, List.length_cons, List.set_cons_succ, List.set_cons_zero]
  refine ⟨by omega, by omega, ?_⟩
  refine alloc_new fun o6 w17 ho6 hz17 hb17 hx17 => ?_
  refine ⟨f4 _ 2 _ _ (hx04.trans (hxd.trans hx17)) (cs_t r4.rep) rfl, f3 _ 2 _ _ (hx04.trans (hxd.trans hx17)) (cs_t r3.rep) rfl, a1 _ _ (hx04.trans (hxd.trans hx17)) rfl, f0 _ 2 _ _ (hx04.trans (hxd.trans hx17)) (cs_t r0.rep) rfl, ?_⟩
  have hq1 : ∀ u ∈ q1, one1 u = true := r1.rep.one
  refine st_agg_at (l := rcs ⟨x0.t, x4.t, x3.t, x1, []⟩ q1 (.slice none 0 0)) hb17 (by simp [l1]) (by simp [zr]) (by simp only [List.all_cons, List.all_append, List.all_nil, Bool.and_true]; rw [List.all_eq_true.2 hq1]; rfl) fun w18 hz18 hb18 hc18 => ?_
  have hx18 : Ext w4.drew w18 := hx17.new hc18 (by omega)
  have hx418 := hxd.trans hx18
  refine i2 _ ?_
  obtain ⟨dv2, hd2, hit2⟩ := cs_x r2
  refine f2 _ 3 _ _ (hx04.trans hx418) hd2 ?_
  have hit18 := hit2.ext (hx04.trans hx418)
  rw [hit18.rep.len]
  have hlt18 := at_lt hb18
  have hn2 : x2.xs.length ≤ 100000 := hn x2 (by simp)
  have hG0 : GrowD w4.drew w18 o6 w18.heap.size ⟨x0.t, x4.t, x3.t, x1, ((x2.xs.take 0).map JV.t)⟩ q1 (.slice none 0 0) := ⟨hx18, hb18, by omega, hlt18, Nat.le_refl _, ⟨rfl, .inl ⟨rfl, rfl⟩⟩⟩
  have hoo : o < o6 := by have := at_lt hbo4; have e : w4.drew.heap.size = w4.heap.size := rfl; omega
  refine loop_up x2.xs.length (fun i w' => ∃ dv, GrowD w4.drew w' o6 w18.heap.size ⟨x0.t, x4.t, x3.t, x1, ((x2.xs.take i).map JV.t)⟩ q1 dv ∧ ∀ d ∈ x2.xs.take i, d.k = 4) ⟨_, hG0, fun d hd => by simp at hd⟩ ?_ ?_
  · rintro i w20 g L hi ⟨dv, hG, hall⟩ hL
    obtain ⟨d, hd⟩ : ∃ d, x2.xs[i]? = some d := ⟨_, List.getElem?_eq_getElem hi⟩
    simp only [List.getD_cons_zero]
    rw [bin_lss, decide_eq_true (by omega), condW_true]
    have hx420 := hxd.trans hG.ext
    have hit20 := hit2.ext (hx04.trans hx420)
    refine hit20.rep.at hd fun c8 h8 => ?_
    refine keep_val h8 fun o8 w22 sv8 kv8 hB8 hx22 => ?_
    have hG22 := hG.more hx22
    have hx422 := hx420.trans hx22
    simp only [fld_ptr, ld_one]
    refine ⟨i64 d.k, by rw [add_mk, cell_eq, hB8.hb, cellO_some]; rfl, ?_⟩
    rw [bin_neq, condW_dec]
    refine ⟨fun hne => ?_, fun he => ?_⟩
    · exact bad hx422 (hx422.at hbo4 id)
    have he : d.k = 4 := Classical.byContradiction he
    refine ⟨dv, ?_, str d.t, by rw [add_mk, cell_eq, hB8.hb, cellO_some]; rfl, ?_⟩
    · rw [add_mk, cell_eq, hG22.hb, cellO_some]
      show (rcs _ q1 dv).toArray[0 + 8]? = _
      simp only [List.getElem?_toArray]
      show (q1 ++ [dv])[5]? = _
      rw [List.getElem?_append_right (by omega), l1]
      rfl
    refine rowS fun a9 w26 ha9 hz26 hb26 hx26 => ?_
    have hG26 := hG22.more hx26
    refine hG26.app (d := d.t) l1 (t := .slice (some ⟨a9, 0, none⟩) 1 1) ⟨_, _, rfl, Nat.le_refl _, fun e => (by cases e), fun _ => ⟨_, _, _, _, rfl, hb26, fun i _ => by simp⟩⟩ (by rw [List.length_map, List.length_take]; omega) fun dv' w28 hG28 _ _ => ?_
    rw [bin_add, up1 (by omega)]
    refine hL _ ⟨dv', ?_, ?_⟩
    · rw [List.take_add_one, hd]
      simpa using hG28
    · intro y hy
      rw [List.take_add_one, hd] at hy
      rcases List.mem_append.1 hy with hy | hy
      · exact hall y hy
      · rw [Option.toList_some, List.mem_singleton] at hy
        rw [hy]; exact he
  · rintro w20 g L ⟨dv, hG, hall⟩
    rw [List.take_length] at hG hall
    simp only [List.getD_cons_zero]
    rw [bin_lss, decide_eq_false (by omega), condW_false]
    have hx420 := hxd.trans hG.ext
    have hl9 : (rcs ⟨x0.t, x4.t, x3.t, x1, x2.xs.map JV.t⟩ q1 dv).length = 9 := by simp [l1]
    have hdv1 : one1 dv = true := by obtain ⟨q, c, e, _⟩ := hG.own.sl.shape; rw [e]; rfl
    have hone : (rcs ⟨x0.t, x4.t, x3.t, x1, x2.xs.map JV.t⟩ q1 dv).all one1 = true := by
      simp only [List.all_cons, List.all_append, List.all_nil, Bool.and_true]
      rw [List.all_eq_true.2 hq1, hdv1]; rfl
    refine ld_all hG.hb hl9 ?_
    refine st_agg_at (hx420.at hbo4 id) hl9 (by simp [zr]) hone fun w29 hz29 hb29 hc29 => ?_
    refine ld_all hb29 hl9 ?_
    have hx29 : Ext w w29 := (hx04.trans hx420).new hc29 (by omega)
    refine hok _ _ w29 (rec_of hp h6 hks hxs k0 k2 k3 k4 hall) hx29 ?_
    have hxg : Chg (Cr o) w20 w29 := hc29
    obtain ⟨f1, f2', f3', f4'⟩ := id (show Fits x0.xs.length x0.ks x0.t from by obtain ⟨_, _, _, _, _, _, _, _, _, hf⟩ := r0.rep.out; exact hf)
    obtain ⟨g1, g2, g3, g4⟩ := id (show Fits x4.xs.length x4.ks x4.t from by obtain ⟨_, _, _, _, _, _, _, _, _, hf⟩ := r4.rep.out; exact hf)
    obtain ⟨e1, e2, e3, e4⟩ := id (show Fits x3.xs.length x3.ks x3.t from by obtain ⟨_, _, _, _, _, _, _, _, _, hf⟩ := r3.rep.out; exact hf)
    have hown := own_chg hG.own hxg fun k hk e => by have := (own_in hG.own hk).1; have e : k = o := e; omega
    have hv29 : VRepP (fun k => G k ∨ w.heap.size ≤ k) w29 x1 q1 := by
      have h0 : VRepP (fun k => G k ∧ k < w.heap.size) w x1 q1 := VRepP.mono (fun k hlt hk => ⟨hk, hlt⟩) r1
      exact VRepP.mono (fun k _ hk => .inl hk.1) (VRepP.chg hxg (fun k hk _ e => by have hk := hk.2; have e : k = o := e; omega) (VRepP.chg (hx04.trans hx420) (fun _ _ _ e => e) h0))
    refine ⟨q1, dv, ST, rfl, hv29, hown.sl, fun _ k hk => .inr ?_, ⟨f3', g3, e3, ?_, ?_⟩⟩
    · have := (own_in hown hk).1
      have := hx04.size
      have := hx418.size
      omega
    · show (x2.xs.map JV.t).length ≤ _
      rw [List.length_map]; omega
    · intro s hs
      obtain ⟨d, hdm, rfl⟩ := List.mem_map.1 hs
      obtain ⟨i, hi⟩ := List.getElem?_of_mem hdm
      obtain ⟨_, cd, rd, _⟩ := itm_at hit2 hi
      obtain ⟨_, _, _, _, _, _, _, _, _, hf⟩ := rd.rep.out
      exact hf.2.2.1
end
end Go.Proofs.YtnoepcndjljolaaGreatDoor
namespace Go.Proofs.YtnoepcndjljolaaGreatDoor
open Go Go.Eng Go.Num Go.RowKit
set_option maxRecDepth 100000
abbrev kRecs : Str := [114, 101, 99, 111, 114, 100, 115]
abbrev kSer : Str := [115, 101, 114, 105, 97, 108]
theorem plain_num {x : JV} (h : plainM x = true) (hk : x.k = 3) : x = .mk 3 false x.t [] [] ∧ goodN x.t = true := by
  have h1 := (plain_head h).1
  cases x with
  | mk k b t xs ks =>
    simp only [JV.k] at hk
    subst hk
    simp only [JV.k, JV.b, JV.t, JV.xs, JV.ks, headOk, Bool.and_eq_true, Bool.or_eq_true, decide_eq_true_eq, Bool.not_eq_true', show ¬ (3 : Int) = 2 by decide, show ¬ (3 : Int) = 6 by decide, show ¬ (5 : Int) ≤ 3 by decide, decide_false, Bool.or_false, or_false, false_or] at h1
    obtain ⟨⟨⟨⟨⟨⟨⟨⟨⟨_, _⟩, hb⟩, _⟩, hx⟩, hks⟩, hg⟩, _⟩, _⟩, _⟩ := h1
    have ex : xs = [] := List.eq_nil_of_length_eq_zero (of_decide_eq_true hx)
    have ek : ks = [] := of_decide_eq_true (hks.resolve_left (by decide))
    have eb : b = false := by simpa using hb
    subst eb ex ek
    exact ⟨rfl, hg.resolve_left (by decide)⟩
theorem few_xs {v : JV} (h : fewM v = true) : v.xs.length ≤ 100000 ∧ ∀ x ∈ v.xs, fewM x = true := by
  rw [fewM_eq, fewL_all] at h
  simp only [Bool.and_eq_true, decide_eq_true_eq, List.all_eq_true] at h
  exact ⟨h.1.1, h.2⟩
theorem num_short {t : Str} (h : goodN t = true) : t.length ≤ 101 := by
  obtain ⟨_, g2, _, _⟩ := goodN_out h
  cases t with
  | nil => simp
  | cons a r =>
    unfold Num.dig at g2
    split at g2
    · rename_i e; cases e
    · rename_i c d e
      cases e
      split at g2
      · simp; omega
      · simp at g2 ⊢; omega
theorem st_of {v x0 x1 : JV} {n : Int} {rl : List RV} (h : plainM v = true) (hk : v.k = 6) (hks : v.ks = [kRecs, kSer]) (hxs : v.xs = [x0, x1]) (k0 : x0.k = 5) (k1 : x1.k = 3) (hr : x0.xs = rl.map recV) (hn : Lib.itoa n = x1.t) :
    v = stV (listV rl) n := by
  obtain ⟨_, hp⟩ := plain_head h
  rw [hxs] at hp
  have e := (plain_obj h hk).1
  have e0 := plain_list (hp x0 (by simp)) k0
  have e1 := (plain_num (hp x1 (by simp)) k1).1
  rw [hr] at e0
  rw [← hn] at e1
  rw [e, hxs, hks, e0, e1]
  rfl
structure GrowM (A : Nat) (w0 w : World) (p B : Nat) (ser : Int) (ov : Value) (xs : List RV) : Prop where
  ext : Ext w0 w
  hb : w.heap[p]? = some (.cells [i64 ser, ov].toArray StaT (0, 0))
  lo : w0.heap.size ≤ p
  lt : p < B
  le : B ≤ w.heap.size
  own : ∃ L, Own w B RT 9 ov xs.length L ∧ RRepsP (fun k => (ov.ownBlock ≠ some k ∧ k ≠ p) ∧ A ≤ k) w xs L
theorem GrowM.more {A : Nat} {w0 w w' : World} {p B : Nat} {ser : Int} {ov : Value} {xs : List RV} (h : GrowM A w0 w p B ser ov xs) (hx : Ext w w') : GrowM A w0 w' p B ser ov xs :=
  ⟨h.ext.trans hx, hx.at h.hb id, h.lo, h.lt, Nat.le_trans h.le hx.size, let ⟨L, h1, h2⟩ := h.own; ⟨L, own_chg h1 hx fun _ _ e => e, h2.ext hx⟩⟩
theorem GrowM.ld {A : Nat} {w0 w : World} {p B : Nat} {ser : Int} {ov : Value} {xs : List RV} {K : Value → Prop} (h : GrowM A w0 w p B ser ov xs) (hk : K ov) : ldW false 1 (.pointer (some ((⟨p, 0, none⟩ : Addr).add 1))) w K := by
  rw [ld_one]
  exact ⟨ov, by rw [add_mk, cell_eq, h.hb, cellO_some]; rfl, hk⟩
theorem GrowM.all {A : Nat} {w0 w : World} {p B : Nat} {ser : Int} {ov : Value} {xs : List RV} {K : Value → Prop} (h : GrowM A w0 w p B ser ov xs) (hk : K (.agg [i64 ser, ov].toArray)) : ldW true 2 (.pointer (some ⟨p, 0, none⟩)) w K := ld_all h.hb rfl hk
theorem GrowM.rep {A : Nat} {w0 w : World} {p B : Nat} {ser : Int} {ov : Value} {xs : List RV} (h : GrowM A w0 w p B ser ov xs) : StRepP (fun _ => True) w ser xs [i64 ser, ov] := by
  obtain ⟨L, hO, hR⟩ := h.own
  exact ⟨ov, RT, L, rfl, hO.sl, hR.mono fun _ _ _ => trivial⟩
theorem GrowM.olt {A : Nat} {w0 w : World} {p B : Nat} {ser : Int} {ov : Value} {xs : List RV} (h : GrowM A w0 w p B ser ov xs) : ∀ k, ov.ownBlock = some k → B ≤ k ∧ k < w.heap.size := fun k hk => by obtain ⟨L, hO, _⟩ := h.own; exact ⟨(own_in hO hk).1, (own_in hO hk).2.1⟩
section
variable [HX]
theorem GrowM.app {A : Nat} {w0 w : World} {p B : Nat} {ser : Int} {ov t : Value} {xs : List RV} {x : RV} {cs : List Value} {K : World → Prop} (h : GrowM A w0 w p B ser ov xs) (ht : SlAt w RT t 1 cs) (hx : RRepP (fun k => (ov.ownBlock ≠ some k ∧ k ≠ p) ∧ A ≤ k) w x cs) (hl : xs.length ≤ 1000000)
    (hK : ∀ ov' w', GrowM A w0 w' p B ser ov' (xs ++ [x]) → K w') : semE Tryz.prog (Builtin.append_ #[22, 22] 22 #[ov, t]) w fun t2 w1 => stW 1 (.pointer (some ((⟨p, 0, none⟩ : Addr).add 1))) t2 w1 K := by
  obtain ⟨L, hO, hR⟩ := h.own
  have hlo := h.lo
  have hlt := h.lt
  refine append_own3 elem_r hO ht (m := 1) (by rw [hx.len]) hx.one (by omega) (by omega) h.le fun v' w1 hO1 hc1 hb1' => ?_
  have hge : ∀ k, ov.ownBlock = some k → B ≤ k := fun k hk => (own_in hO hk).1
  have hb1 := hc1.at h.hb fun e => by have := hge p e; omega
  have hall : RRepsP (fun k => ((ov.ownBlock ≠ some k ∧ k ≠ p) ∧ A ≤ k) ∧ k < w.heap.size) w (xs ++ [x]) (L ++ cs) := (hR.snoc hx).mono fun k hlt hk => ⟨hk, hlt⟩
  have hR1 := RRepsP.chg hc1 (fun k hk _ e => hk.1.1.1 e) hall
  have hx1 : Ext w0 w1 := h.ext.then hc1 fun k hk e => by have := hge k e; omega
  rw [add_mk, Nat.zero_add]
  refine st_at hb1 (by obtain ⟨q, c, e, _⟩ := hO1.sl.shape; rw [e]; rfl) (by simp) fun w2 hz2 hb2 hc2 => ?_
  refine hK v' w2 ⟨hx1.new hc2 hlo, by rw [hb2]; simp, hlo, hlt, by have := h.le; have := hc1.size; omega, L ++ cs, ?_, (RRepsP.chg hc2 (fun k hk _ e => hk.1.1.2 e) hR1).mono fun k _ hk => ⟨⟨fun e => ?_, hk.1.1.2⟩, hk.1.2⟩⟩
  · rw [List.length_append, List.length_singleton]
    exact own_chg hO1 hc2 fun k hk e => by have := (own_in hO1 hk).1; have e : k = p := e; omega
  · rcases hb1' k e with h | h
    · exact hk.1.1.1 h
    · have := hk.2; omega
set_option maxHeartbeats 1000000 in
theorem sdecode_s {s : Str} {t : Value} {w : World} {K : Value → World → Prop} (hT : TabA w) (ht : Byt w U8 t s) (hs : s.length ≤ 9223372036854775807)
    (hbad : ∀ w', Ext w w' → K (.tuple #[.agg [i64 0, .slice none 0 0].toArray, i64 150]) w')
    (hok : ∀ ser l cs w', (∃ j c, decM En s = .ok (stV (listV l) ser) j c) → goodS ser l = true → l.length ≤ 100000 → Ext w w' → StRepP (fun _ => True) w' ser l cs → K (.tuple #[.agg cs.toArray, i64 0]) w') :
    callF Tryz.prog 9 [t] w K := by
  refine W9_ok ?_
  unfold W9
  refine alloc_new fun a w1 ha hz1 hba hx1 => ?_
  rw [conv_bytes (l := s) (e := U8) (by kernel_rfl) (by kernel_rfl) (by kernel_rfl) (ht.ext hx1)]
  have hT1 := hT.ext hx1
  -- nothing is handed back
  have bad : ∀ {w' : World}, Ext w1 w' → (stW 2 (.pointer (some ⟨a, 0, none⟩)) (.agg [i64 0, .slice none 0 0].toArray) w' fun w14 => ldW true 2 (.pointer (some ⟨a, 0, none⟩)) w14 fun r15 => K (.tuple #[r15, i64 150]) w14) := fun {w'} hx' => by
    refine st_agg_at (l := [i64 0, .slice none 0 0]) (hx'.at hba id) rfl rfl rfl fun w14 hz14 hb14 hc14 => ?_
    refine ld_all hb14 rfl ?_
    exact hbad w14 ((hx1.trans hx').new hc14 (by omega))
  refine decode_p (s := s) hT1.tabs.utf hT1.err hs (fun v j c hv cs w2 hx2 hr2 => ?_) (fun e i hv d w2 hx2 hd hbd => ?_)
  rotate_left
  · simp only [ext_tuple]
    refine ⟨_, rfl, _, rfl, ?_⟩
    refine alloc_new fun b w3 hb hz3 hbb hx3 => ?_
    refine st_agg_at (l := [i64 0, .bool false, str [], .slice none 0 0, .slice none 0 0]) hbb rfl rfl rfl fun w4 hz4 hb4 hc4 => ?_
    refine ld_all hb4 rfl ?_
    refine row_s2 fun t22 w5 hs5 hx5 => ?_
    refine stake_p (v := JV.null) (ks := [kRecs, kSer]) (vrep_null w5) hs5 fun w6 hx6 => ?_
    simp only [ext_tuple]
    refine ⟨_, rfl, _, rfl, ?_⟩
    rw [eqp_sn]
    simp only [isB_f, Bool.not_true, GdW_f, pick_t, condW_true, put_nil]
    intros
    exact bad (hx2.trans ((hx3.new hc4 (by omega)).trans (hx5.trans hx6)))
  obtain ⟨hitem, hcnt, hl1, hl2⟩ := dec_back hv
  have hp := hitem.plain
  have hfew := few_cnt v hp (by omega)
  simp only [ext_tuple]
  refine ⟨_, rfl, _, rfl, ?_⟩
  obtain ⟨sv, kv, T1, T2, L, rfl, g1, g2, g3, hfit, _⟩ := id hr2.out
  have g2' : VRepsP (fun k => w1.heap.size ≤ k ∧ k < w2.heap.size) w2 v.xs L := VRepsP.mono (fun k hlt hk => ⟨hk, hlt⟩) g2
  have hit : ItemsP (fun k => w1.heap.size ≤ k ∧ k < w2.heap.size) w2 sv v.xs := ⟨⟨T1, L, g1, g2'⟩, hfit.1⟩
  refine alloc_new fun b w3 hb hz3 hbb hx3 => ?_
  refine st_agg_at (l := [i64 v.k, .bool v.b, str v.t, sv, kv]) hbb rfl rfl hr2.rep.all_one fun w4 hz4 hb4 hc4 => ?_
  have hx24 : Ext w2 w4 := hx3.new hc4 (by omega)
  refine ld_all hb4 rfl ?_
  refine row_s2 fun t22 w5 hs5 hx5 => ?_
  refine stake_p (ks := [kRecs, kSer]) (hr2.rep.ext (hx24.trans hx5)) hs5 fun w6 hx6 => ?_
  have hx26 := hx24.trans (hx5.trans hx6)
  have hx16 := hx2.trans hx26
  simp only [ext_tuple]
  refine ⟨_, rfl, _, rfl, ?_⟩
  rw [eqp_nn]
  simp only [isB_f, Bool.not_true, Bool.not_false]
  refine GdW.look (!(decide (v.k = 6) && decide (v.ks = [kRecs, kSer]))) (fun _ J hJ => ?_) fun g => ?_
  · rw [un_not]; exact hJ
  simp only [List.getD_cons_zero, pick_f, cond_true]
  cases hc : (decide (v.k = 6) && decide (v.ks = [kRecs, kSer])) with
  | false =>
    simp only [Bool.not_false, isB_f, Bool.not_true, GdW_f, pick_t, condW_true, put_nil]
    intros
    exact bad hx16
  | true =>
  simp only [Bool.and_eq_true, decide_eq_true_eq] at hc
  obtain ⟨h6, hks⟩ := hc
  have hxl : v.xs.length = 2 := by rw [← (plain_obj hp h6).2, hks]; rfl
  obtain ⟨x0, x1, hxs⟩ : ∃ x0 x1, v.xs = [x0, x1] := by
    match hv : v.xs, hxl with
    | [a, b], _ => exact ⟨a, b, rfl⟩
  have hfx := (few_xs hfew).2
  have hpx := (plain_head hp).2
  rw [hxs] at hit hfx hpx
  have hf0 := few_xs (hfx x0 (by simp))
  have hp0 := hpx x0 (by simp)
  have hp1 := hpx x1 (by simp)
  obtain ⟨p0, q0, r0, i0, f0, _⟩ := itm_at (i := 0) hit rfl
  obtain ⟨p1, q1, r1, i1, f1, _⟩ := itm_at (i := 1) hit rfl
  simp only [Bool.not_true, isB_f, Bool.not_false]
  refine GdW.look (decide (x0.k ≠ 5)) (fun _ J hJ => ?_) fun g => ?_
  · refine i0 _ ?_
    rw [fld_ptr]
    refine f0 _ 0 _ _ hx26 (cs_k r0.rep) ?_
    rw [bin_neq]; exact hJ
  simp only [List.getD_cons_zero, pick_f, cond_true]
  refine (Classical.em (x0.k = 5)).symm.elim (fun k0 => ?_) fun k0 => ?_
  · rw [decide_eq_true k0]
    simp only [isB_f, Bool.not_true, GdW_f, pick_t, condW_true, put_nil]
    intros
    exact bad hx16
  rw [decide_eq_false (fun e => e k0)]
  simp only [isB_f, Bool.not_false]
  refine GdW.look (decide (x1.k ≠ 3)) (fun _ J hJ => ?_) fun g => ?_
  · refine i1 _ ?_
    rw [fld_ptr]
    refine f1 _ 0 _ _ hx26 (cs_k r1.rep) ?_
    rw [bin_neq]; exact hJ
  simp only [List.getD_cons_zero, pick_f, cond_true]
  refine (Classical.em (x1.k = 3)).symm.elim (fun k1 => ?_) fun k1 => ?_
  · rw [decide_eq_true k1]
    simp only [condW_true, put_nil]
    exact bad hx16
  rw [decide_eq_false (fun e => e k1), condW_false]
  refine i1 _ ?_
  rw [fld_ptr]
  refine f1 _ 2 _ _ hx26 (cs_t r1.rep) ?_
  have hsh := num_short (plain_num hp1 k1).2
  refine numint_p (hT1.ext hx16) (by omega) fun n okn w16 hx616 hn1 hn2 hnn => ?_
  simp only [ext_tuple]
  refine ⟨_, rfl, _, rfl, ?_⟩
  simp only [put_int, put_nil, List.length_cons, List.length_nil, List.set_cons_zero]
  refine ⟨by omega, ?_⟩
  refine alloc_new fun p w18 hp18 hz18 hb18 hx18 => ?_
  refine st_agg_at (l := [i64 n, .slice none 0 0]) hb18 rfl rfl rfl fun w19 hz19 hb19 hc19 => ?_
  have hx1619 : Ext w16 w19 := hx18.new hc19 (by omega)
  have hx216 := hx26.trans hx616
  have hx219 := hx216.trans hx1619
  refine i0 _ ?_
  rw [fld_ptr]
  obtain ⟨sv0, hs0, hit0⟩ := cs_x r0
  refine f0 _ 3 _ _ hx219 hs0 ?_
  rw [(hit0.ext hx219).rep.len]
  have hG19 : GrowM w1.heap.size w16 w19 p w19.heap.size n (.slice none 0 0) [] := ⟨hx1619, hb19, by omega, at_lt hb19, Nat.le_refl _, [], ⟨rfl, .inl ⟨rfl, rfl⟩⟩, by simp [RRepsP]⟩
  refine LoopW.go (fun st w' => ∃ (bb : Bool) (i : Nat) (ov : Value) (rl : List RV), st = [.bool bb, i64 (i : Nat)] ∧ i ≤ x0.xs.length ∧ GrowM w1.heap.size w16 w' p w19.heap.size n ov rl ∧ rl.length = i ∧ (bb = true → okn = true ∧ x0.xs.take i = rl.map recV))
    (fun st _ => match st with | [_, .int _ i] => x0.xs.length - i.toNat | _ => 0) ⟨okn, 0, _, [], rfl, Nat.zero_le _, hG19, rfl, fun h => ⟨h, rfl⟩⟩ ?_
  rintro st g w21 ⟨bb, i, ov, rl, rfl, hi, hG, hrl, hbb2⟩
  simp only [List.getD_cons_zero, List.getD_cons_succ]
  have hx221 := hx216.trans hG.ext
  rw [bin_lss, condW_dec]
  refine ⟨fun hlt => ?_, fun hge => ?_⟩
  · have hlt : i < x0.xs.length := by omega
    obtain ⟨x, hx⟩ : ∃ x, x0.xs[i]? = some x := ⟨_, List.getElem?_eq_getElem hlt⟩
    have hxm : x ∈ x0.xs := List.mem_of_getElem? hx
    obtain ⟨pi, ci, ri, ii, _, ai⟩ := itm_at hit0 hx
    refine ii _ ?_
    refine ai _ _ hx221 ?_
    refine alloc_new fun o w22 ho hz22 hbo hx22 => ?_
    refine st_agg_at hbo ri.rep.len rfl ri.rep.all_one fun w23 hz23 hb23 hc23 => ?_
    have hx2123 : Ext w21 w23 := hx22.new hc23 (by omega)
    refine ld_all hb23 ri.rep.len ?_
    have hx223 := hx221.trans hx2123
    have hri : VRepP (fun k => w1.heap.size ≤ k ∧ k < w2.heap.size) w23 x ci := VRepP.chg hx223 (fun _ _ _ e => e) ri
    -- the record is put behind the others, whatever it is
    have fin : ∀ {w24 : World} {r : RV} {rs : List Value} {is : Bool}, Ext w23 w24 → RRepP (fun k => (w1.heap.size ≤ k ∧ k < w2.heap.size) ∨ w23.heap.size ≤ k) w24 r rs → (is = true → x = recV r) →
        extW 0 (.tuple #[.agg rs.toArray, .bool is]) fun t69 => extW 1 (.tuple #[.agg rs.toArray, .bool is]) fun t70 =>
        allocW RT zr w24 fun t12 w25 => stW 9 t12 t69 w25 fun w26 =>
        GdW (isB (.bool bb) true) [undef] w26 (fun J27 => J27 [t70] w26)
        fun s27 _ w28 =>
        pickW (.bool bb) (s27.getD 0 undef) (.bool false) fun t74 =>
        fldW 1 (.pointer (some ⟨p, 0, none⟩)) fun t75 =>
        ldW false 1 t75 w28 fun t76 =>
        ldW true 9 t12 w28 fun t77 =>
        bslW RT 1 zr [(0, 9, t77)] w28 fun t78 w29 =>
        semE Tryz.prog (Builtin.append_ #[22, 22] 22 #[t76, t78]) w29 fun t79 w30 =>
        fldW 1 (.pointer (some ⟨p, 0, none⟩)) fun t80 =>
        stW 1 t80 t79 w30 fun w31 =>
        binW .add (i64 (i : Nat)) (.int .i64 1) fun t81 =>
        (∃ (bb : Bool) (i_1 : Nat) (ov : Value) (rl : List RV), [t74, t81] = [.bool bb, i64 (i_1 : Nat)] ∧ i_1 ≤ x0.xs.length ∧ GrowM w1.heap.size w16 w31 p w19.heap.size n ov rl ∧ rl.length = i_1 ∧ (bb = true → okn = true ∧ x0.xs.take i_1 = rl.map recV)) ∧
          (match [t74, t81] with | [_, .int _ i] => x0.xs.length - i.toNat | _ => 0) < x0.xs.length - ((i : Nat) : Int).toNat := fun {w24 r rs is} hx24' hrr his => by
      simp only [ext_tuple]
      refine ⟨_, rfl, _, rfl, ?_⟩
      refine keep_r hrr fun o2 w26 vcs dv er hC hx26' ho2 => ?_
      simp only [isB_t]
      refine GdW.look is (fun _ J hJ => hJ) fun g => ?_
      simp only [List.getD_cons_zero]
      rw [pick_gd_and]
      simp only [fld_ptr]
      have hx2126 := hx2123.trans (hx24'.trans hx26')
      have hG26 := hG.more hx2126
      refine hG26.ld ?_
      refine hC.all ?_
      refine row_r hC.rep.len fun t29 w29 ht29 hx29 => ?_
      have hG29 := hG26.more hx29
      have s23 := hx2123.size
      have hC29 := hC.rep.ext hx29
      have s2 := hx216.size
      have hlo := hG.lo
      have hlt2 := hG.lt
      have hle := hG.le
      refine hG29.app ht29 (hC29.mono fun k _ hk => ⟨⟨fun e => ?_, fun e => ?_⟩, ?_⟩) (by omega) fun ov' w31 hG31 => ?_
      · rw [bin_add, up1 (by omega)]
        refine ⟨⟨bb && is, i + 1, ov', rl ++ [r], rfl, hlt, hG31, by rw [List.length_append, hrl]; rfl, fun hb => ?_⟩, by simp only [Int.toNat_natCast]; omega⟩
        simp only [Bool.and_eq_true] at hb
        obtain ⟨h1, h2⟩ := hbb2 hb.1
        refine ⟨h1, ?_⟩
        rw [List.take_add_one, hx, h2, his hb.2]
        simp
      · have h1 := hG.olt k e
        rcases hk with hk | hk <;> omega
      · rcases hk with hk | hk <;> omega
      · have := hx2.size
        rcases hk with hk | hk <;> omega
    refine srec_p ((plain_head hp0).2 x hxm) (fun y hy => (few_xs ((few_xs (hf0.2 x hxm)).2 y hy)).1) hri (fun w24 hx24' => ?_) (fun r rs w24 hxr hx24' hrr => ?_)
    · exact fin hx24' (rrep_zero w24 _) (fun h => by cases h)
    · exact fin hx24' hrr (fun _ => hxr)
  · obtain rfl : i = x0.xs.length := by omega
    rw [un_not]
    simp only [isB_f, Bool.not_not]
    refine GdW.act (!goodS n rl) (fun w' => Ext w21 w') (fun _ => Chg.refl _ _) (fun _ J hJ => ?_) fun g w34 hx34 => ?_
    · refine hG.all ?_
      refine sgood_p (hT1.ext (hx2.trans hx221)).tabs.utf hG.rep (by omega) fun w33 hx33 => ?_
      rw [un_not]
      exact hJ w33 hx33
    have hx134 := (hx2.trans hx221).trans hx34
    simp only [List.getD_cons_zero]
    have epk2 : ∀ (c e : Bool) (Q : Value → Prop), pickW (.bool (!c)) (.bool true) (bif c then .bool (!e) else undef) Q ↔ Q (.bool (!(c && e))) := fun c e Q => by cases c <;> cases e <;> exact Iff.rfl
    rw [epk2]
    cases hfin : (bb && goodS n rl) with
    | false =>
      simp only [Bool.not_false, condW_true, put_nil]
      exact bad hx134
    | true =>
      simp only [Bool.and_eq_true] at hfin
      obtain ⟨hb1, hg1⟩ := hfin
      obtain ⟨hokn, htk⟩ := hbb2 hb1
      rw [List.take_length] at htk
      simp only [Bool.not_true, condW_false]
      have hG34 := hG.more hx34
      refine hG34.all ?_
      have hone : [i64 n, ov].all one1 = true := by
        obtain ⟨L', hO, _⟩ := hG34.own
        obtain ⟨q, c, e, _⟩ := hO.sl.shape
        rw [e]; rfl
      refine st_agg_at (l := [i64 n, ov]) (hx134.at hba id) rfl rfl hone fun w38 hz38 hb38 hc38 => ?_
      refine ld_all hb38 rfl ?_
      have hane : a < w16.heap.size := by
        have := at_lt (hx16.trans hx616 |>.at hba id)
        exact this
      refine hok n rl [i64 n, ov] w38 ?_ hg1 (by have := hf0.1; omega) ((hx1.trans hx134).new hc38 (by omega)) ?_
      · have e := st_of hp h6 hks hxs k0 k1 htk (hnn hokn)
        exact ⟨j, c, by rw [← e]; exact hv⟩
      · have := hG34.rep
        obtain ⟨L', hO, hR⟩ := hG34.own
        have hlt := hG.lt
        have hlo := hG.lo
        have hle := hG.le
        refine ⟨ov, RT, L', rfl, (own_chg hO hc38 fun k hk e => by have := (own_in hO hk).1; have e : k = a := e; omega).sl, (RRepsP.chg hc38 (fun k hk _ e => by have := hk.2; have e : k = a := e; omega) hR).mono fun _ _ _ => trivial⟩
end
end Go.Proofs.YtnoepcndjljolaaGreatDoor
namespace Go.Eng
open Go Go.Num
def od : Str → Nat
  | [] => 0
  | c :: l => c.toNat % 2 + od l
theorem od_app (a b : Str) : od (a ++ b) = od a + od b := by
  induction a with
  | nil => simp [od]
  | cons c l ih => simp only [List.cons_append, od, ih]; omega
def pd (s : Str) (i : Nat) : Nat := od (s.take i)
theorem pd_add (s : Str) (i k : Nat) : pd s (i + k) = pd s i + od ((s.drop i).take k) := by
  unfold pd
  rw [List.take_add, od_app]
theorem pd_byte {s : Str} {i : Nat} {n : Nat} (h : byteM s i = (n : Int)) : pd s (i + 1) = pd s i + n % 2 := by
  have hlt := byte_lt (s := s) (i := i) (by omega)
  rw [pd_add, drop_here hlt]
  have e : byteM s i = (s[i].toNat : Int) := by unfold byteM; rw [List.getElem?_eq_getElem hlt]
  have : s[i].toNat = n := by omega
  simp only [List.take_succ_cons, List.take_zero, od, this]
  omega
theorem pd_word {s w : Str} {i : Nat} (h : wordM s i w = true) : pd s (i + w.length) = pd s i + od w := by
  rw [pd_add]
  unfold wordM at h
  rw [of_decide_eq_true h]
theorem hexV_par {c : Int} (h : 0 ≤ hexV c) : 0 ≤ c ∧ c % 2 = (if hexV c < 10 then hexV c % 2 else (hexV c + 1) % 2) := by
  unfold hexV at *
  split at h
  · rename_i h1
    rw [if_pos h1, if_pos (by omega)]; omega
  rename_i h1
  rw [if_neg h1]
  split at h
  · rename_i h2
    rw [if_pos h2, if_neg (by omega)]; omega
  rename_i h2
  rw [if_neg h2]
  split at h
  · rename_i h3
    rw [if_pos h3, if_neg (by omega)]; omega
  · omega
theorem od_b8 {n : Nat} (h : n < 256) : (b8 n).toNat = n := by unfold b8; rw [UInt8.toNat_ofNat']; omega
theorem hexD_par {n : Nat} (h : n < 16) : (hexD n).toNat % 2 = if n < 10 then n % 2 else (n + 1) % 2 := by
  unfold hexD
  split
  · rw [od_b8 (by omega)]; omega
  · rw [od_b8 (by omega)]; omega
theorem hexM_out {s : Str} {i : Nat} (h : 0 ≤ hexM s i) : byteM s i = 92 ∧ byteM s (i + 1) = 117 ∧ 0 ≤ hexV (byteM s (i + 2)) ∧ 0 ≤ hexV (byteM s (i + 3)) ∧ 0 ≤ hexV (byteM s (i + 4)) ∧ 0 ≤ hexV (byteM s (i + 5)) ∧
    hexM s i = ((hexV (byteM s (i + 2)) * 16 + hexV (byteM s (i + 3))) * 16 + hexV (byteM s (i + 4))) * 16 + hexV (byteM s (i + 5)) := by
  unfold hexM at h ⊢
  split at h
  · rename_i hc
    rw [if_pos hc]
    exact ⟨hc.2.1, hc.2.2.1, hc.2.2.2.1, hc.2.2.2.2.1, hc.2.2.2.2.2.1, hc.2.2.2.2.2.2, rfl⟩
  · omega
theorem escB_six {c : UInt8} (h : (escB c).length = 6) : c.toNat < 32 ∧ escB c = [92, 117, 48, 48, b8 (48 + c.toNat / 16), hexD (c.toNat % 16)] := by
  unfold escB at *
  split at h
  · simp at h
  rename_i h1; rw [if_neg h1]
  split at h
  · simp at h
  rename_i h2; rw [if_neg h2]
  split at h
  · simp at h
  rename_i h3; rw [if_neg h3]
  split at h
  · simp at h
  rename_i h4; rw [if_neg h4]
  split at h
  · simp at h
  rename_i h5; rw [if_neg h5]
  split at h
  · simp at h
  rename_i h6; rw [if_neg h6]
  split at h
  · rename_i h7
    rw [if_pos h7]
    exact ⟨h7, rfl⟩
  · simp at h
theorem hex_arith {m h2 h3 h4 h5 : Int} (a2 : 0 ≤ h2) (a3 : 0 ≤ h3) (a4 : 0 ≤ h4) (a5 : 0 ≤ h5) (b5 : h5 ≤ 15) (b4 : h4 ≤ 15) (b3 : h3 ≤ 15) (e : m = ((h2 * 16 + h3) * 16 + h4) * 16 + h5) (hm : m < 32) : h2 = 0 ∧ h3 = 0 ∧ h4 = m / 16 ∧ h5 = m % 16 := by
  have e2 : h2 = 0 := by omega
  subst e2
  have e3 : h3 = 0 := by omega
  subst e3
  omega
theorem par_six {s : Str} {i : Nat} {c2 c3 c4 c5 : Nat} (b0 : byteM s i = 92) (b1 : byteM s (i + 1) = 117) (b2 : byteM s (i + 2) = (c2 : Int)) (b3 : byteM s (i + 3) = (c3 : Int)) (b4 : byteM s (i + 4) = (c4 : Int)) (b5 : byteM s (i + 5) = (c5 : Int)) :
    pd s (i + 6) = pd s i + 1 + c2 % 2 + c3 % 2 + c4 % 2 + c5 % 2 := by
  have t0 := pd_byte (s := s) (i := i) (n := 92) b0
  have t1 := pd_byte (s := s) (i := i + 1) (n := 117) b1
  have t2 := pd_byte b2
  have t3 := pd_byte b3
  have t4 := pd_byte b4
  have t5 := pd_byte b5
  rw [t5, t4, t3, t2, t1, t0]
theorem hex_par {s : Str} {i : Nat} (h : 0 ≤ hexM s i) (hsur : ¬ (55296 ≤ hexM s i ∧ hexM s i ≤ 57343)) (hk : ((wrM (hexM s i).toNat).flatMap escB).length = 6) : od ((wrM (hexM s i).toNat).flatMap escB) + pd s i = pd s (i + 6) := by
  have hr := hexM_range s i
  obtain ⟨b0, b1, g2, g3, g4, g5, e⟩ := hexM_out h
  have hn := rn_wr (n := (hexM s i).toNat) (by omega)
  rcases hn.cases with ⟨c, hc, hc2⟩ | hh
  · rw [hc] at hk ⊢
    simp only [List.flatMap_cons, List.flatMap_nil, List.append_nil] at hk ⊢
    obtain ⟨q1, q2⟩ := escB_six hk
    have ha : (hexM s i).toNat = c.toNat := by
      clear e g2 g3 g4 g5 hr hsur
      unfold wrM at hc
      split at hc
      · simp only [List.cons.injEq, and_true] at hc
        rw [← hc, od_b8 (by omega)]
      split at hc
      · simp at hc
      split at hc <;> simp at hc
    have ha : hexM s i = (c.toNat : Int) := by omega
    rw [ha] at e
    obtain ⟨v2, v3, v4, v5⟩ := hex_arith g2 g3 g4 g5 (hexV_le _) (hexV_le _) (hexV_le _) e (by omega)
    obtain ⟨p2, r2⟩ := hexV_par g2
    obtain ⟨p3, r3⟩ := hexV_par g3
    obtain ⟨p4, r4⟩ := hexV_par g4
    obtain ⟨p5, r5⟩ := hexV_par g5
    have hs := par_six b0 b1 (Int.toNat_of_nonneg p2).symm (Int.toNat_of_nonneg p3).symm (Int.toNat_of_nonneg p4).symm (Int.toNat_of_nonneg p5).symm
    have hd := hexD_par (n := c.toNat % 16) (by omega)
    have h8 := od_b8 (n := 48 + c.toNat / 16) (by omega)
    rw [q2]
    simp only [od, hd, h8, show (92 : UInt8).toNat = 92 from rfl, show (117 : UInt8).toNat = 117 from rfl, show (48 : UInt8).toNat = 48 from rfl]
    rw [v2] at r2
    rw [v3] at r3
    rw [v4] at r4
    rw [v5] at r5
    rw [hs]
    clear hs e v2 v3 v4 v5 g2 g3 g4 g5 hd h8 q2 ha hk hc hsur hr
    generalize c.toNat = m at *
    generalize byteM s (i + 2) = z2 at *
    generalize byteM s (i + 3) = z3 at *
    generalize byteM s (i + 4) = z4 at *
    generalize byteM s (i + 5) = z5 at *
    generalize pd s i = P at *
    rw [if_pos (by omega)] at r2 r3
    rw [if_pos (by omega)] at r4
    have e2 : z2.toNat % 2 = 0 := by omega
    have e3 : z3.toNat % 2 = 0 := by omega
    have e4 : z4.toNat % 2 = (m / 16) % 2 := by omega
    rw [e2, e3, e4]
    by_cases h10 : m % 16 < 10
    · rw [if_pos (by omega)] at r5
      rw [if_pos h10]
      omega
    · rw [if_neg (by omega)] at r5
      rw [if_neg h10]
      omega
  · rw [esc_high hh] at hk
    have := rn_len hn
    omega
theorem escM_par {s : Str} {i k : Nat} {t : Str} (h : escM s i = some (t, k)) (h92 : byteM s i = 92) (hk : (t.flatMap escB).length = k) : od (t.flatMap escB) + pd s i = pd s (i + k) := by
  have long : ∀ {u : Str}, Rn u → (u.flatMap escB).length ≤ 6 := fun {u} hu => by
    rcases hu.cases with ⟨c, rfl, _⟩ | hh
    · simpa using escB_le c
    · rw [esc_high hh]; have := rn_len hu; omega
  have hr := hexM_range s i
  have hr2 := hexM_range s (i + 6)
  have t0 := pd_byte (s := s) (i := i) (n := 92) h92
  have one : ∀ (d c : UInt8), byteM s (i + 1) = (c.toNat : Int) → escB d = [92, c] → some ([d], 2) = some (t, k) → od (t.flatMap escB) + pd s i = pd s (i + k) := fun d c hb hd he => by
    cases he
    have t1 := pd_byte (s := s) (i := i + 1) hb
    simp only [List.flatMap_cons, List.flatMap_nil, List.append_nil, hd, od, show (92 : UInt8).toNat = 92 from rfl]
    rw [show i + 2 = i + 1 + 1 from rfl]
    omega
  rw [escM_def] at h
  by_cases q0 : byteM s (i + 1) = 34
  · rw [if_pos q0] at h; exact one 34 34 q0 (by decide) h
  rw [if_neg q0] at h
  by_cases q1 : byteM s (i + 1) = 92
  · rw [if_pos q1] at h; exact one 92 92 q1 (by decide) h
  rw [if_neg q1] at h
  by_cases q2 : byteM s (i + 1) = 47
  · rw [if_pos q2] at h
    cases h
    exact absurd hk (by decide)
  rw [if_neg q2] at h
  by_cases q3 : byteM s (i + 1) = 98
  · rw [if_pos q3] at h; exact one 8 98 q3 (by decide) h
  rw [if_neg q3] at h
  by_cases q4 : byteM s (i + 1) = 102
  · rw [if_pos q4] at h; exact one 12 102 q4 (by decide) h
  rw [if_neg q4] at h
  by_cases q5 : byteM s (i + 1) = 110
  · rw [if_pos q5] at h; exact one 10 110 q5 (by decide) h
  rw [if_neg q5] at h
  by_cases q6 : byteM s (i + 1) = 114
  · rw [if_pos q6] at h; exact one 13 114 q6 (by decide) h
  rw [if_neg q6] at h
  by_cases q7 : byteM s (i + 1) = 116
  · rw [if_pos q7] at h; exact one 9 116 q7 (by decide) h
  rw [if_neg q7] at h
  by_cases a1 : hexM s i < 0 ∨ 56320 ≤ hexM s i ∧ hexM s i ≤ 57343
  · rw [if_pos a1] at h; cases h
  rw [if_neg a1] at h
  by_cases a2 : 55296 ≤ hexM s i ∧ hexM s i ≤ 56319
  · rw [if_pos a2] at h
    by_cases a3 : hexM s (i + 6) < 56320 ∨ 57343 < hexM s (i + 6)
    · rw [if_pos a3] at h; cases h
    rw [if_neg a3] at h
    have hn := rn_wr (n := (65536 + (hexM s i - 55296) * 1024 + hexM s (i + 6) - 56320).toNat) (by omega)
    generalize wrM (65536 + (hexM s i - 55296) * 1024 + hexM s (i + 6) - 56320).toNat = z at *
    simp only [Option.some.injEq, Prod.mk.injEq] at h
    obtain ⟨rfl, rfl⟩ := h
    have := long hn
    omega
  · rw [if_neg a2] at h
    simp only [Option.some.injEq, Prod.mk.injEq] at h
    obtain ⟨rfl, rfl⟩ := h
    exact hex_par (by omega) (by omega) hk
theorem quot_par {E : ErrNo} {s : Str} {start cnt : Nat} : ∀ {n i : Nat} {out t : Str} {j c : Nat}, quotGo E s start n i out cnt = .ok t j c → Utf out →
    (t.flatMap escB).length + 1 + i = (out.flatMap escB).length + j → od (t.flatMap escB) + pd s i = od (out.flatMap escB) + pd s j := by
  intro n
  induction n with
  | zero => intro i out t j c h _; rw [quotGo] at h; cases h
  | succ n ih =>
    intro i out t j c h hu he
    rw [quotGo] at h
    split at h
    · rename_i h34
      split at h
      · cases h
      · cases h
        have := pd_byte (s := s) (i := i) (n := 34) h34
        omega
    split at h
    · cases h
    split at h
    · rename_i h92
      split at h
      · cases h
      · rename_i u k hes
        obtain ⟨h1, h2, h3⟩ := escM_rune hes
        obtain ⟨a1, a2, a3, a4, a5, a6⟩ := quot_back h (hu.app (.one h1))
        have hih := ih h (hu.app (.one h1))
        rw [List.flatMap_append, List.length_append] at a6 hih
        have hp := escM_par hes h92 (by omega)
        have := hih (by omega)
        rw [od_app] at this
        omega
    split at h
    · cases h
    split at h
    · cases h
    · rename_i n34 nneg n92 n32 hr
      have hn := Rn.of hr
      have hl : ((s.drop i).take (runeM s i)).length = runeM s i := by rw [List.length_take, List.length_drop]; have := rune_fits hr; omega
      have hq := quot_back h (hu.app (.one hn))
      have hih := ih h (hu.app (.one hn))
      obtain ⟨a1, a2, a3, a4, a5, a6⟩ := hq
      rw [List.flatMap_append, List.length_append] at a6 hih
      have hw : ((s.drop i).take (runeM s i)).flatMap escB = (s.drop i).take (runeM s i) := by
        have hb0 : byteM s i = ((((s.drop i).take (runeM s i))[0]'(by omega)).toNat : Int) := by
          have := byte_pref (s := s) (i := i) (j := 0) (u := (s.drop i).take (runeM s i)) (r := (s.drop i).drop (runeM s i)) (List.take_append_drop _ _).symm (by omega)
          rwa [Nat.add_zero] at this
        rcases hn.cases with ⟨d, hd, hd2⟩ | hh
        · rw [hd] at hl ⊢
          simp only [hd, List.getElem_cons_zero] at hb0
          simp only [List.flatMap_cons, List.flatMap_nil, List.append_nil]
          have q : ∀ x : UInt8, d = x → byteM s i = x.toNat := fun x e => by rw [hb0, e]
          unfold escB
          rw [if_neg (by rintro (e | e); exact n34 (q _ e); exact n92 (q _ e)), if_neg (fun e => n32 (by rw [q _ e]; decide)), if_neg (fun e => n32 (by rw [q _ e]; decide)), if_neg (fun e => n32 (by rw [q _ e]; decide)), if_neg (fun e => n32 (by rw [q _ e]; decide)), if_neg (fun e => n32 (by rw [q _ e]; decide)), if_neg (by
            intro e
            have e2 : d.toNat < 32 := e
            exact n32 (by rw [hb0]; omega))]
        · rw [esc_high hh]
      rw [hw] at a6 hih
      have := hih (by omega)
      have hpa := pd_add s i (runeM s i)
      rw [od_app] at this
      omega
theorem num_par {E : ErrNo} {s : Str} {i cnt j c : Nat} {v : JV} (h : numM E s i cnt = .ok v j c) (he : (showM v).length + i = j) : od (showM v) + pd s i = pd s j := by
  unfold numM at h
  simp only at h
  generalize hf : (if byteM s i = 45 then i + 1 else i) = first at *
  generalize hs : (if byteM s first = 48 then first + 1 else digM s first) = stop at *
  split at h
  · cases h
  split at h
  · cases h
  split at h
  · cases h
  rename_i h1 h2 h3
  obtain ⟨hg, hl, hlt⟩ := num_good hf.symm hs.symm h1 h2
  have hpa := pd_add s i (stop - i)
  have htl : ((s.drop i).take (stop - i)).length = stop - i := by rw [List.length_take, List.length_drop]; omega
  generalize ht : (s.drop i).take (stop - i) = t at *
  rw [show i + (stop - i) = stop by omega] at hpa
  cases h
  rw [showM_eq] at he ⊢
  simp only [show ¬ (3 : Int) = 0 by decide, show ¬ (3 : Int) = 2 by decide, if_false, if_true] at he ⊢
  split at he
  · rename_i hz
    rw [hz] at htl
    simp at htl he
    omega
  · rename_i hz
    rw [if_neg hz]
    omega
def lod : List JV → Nat
  | [] => 0
  | x :: l => od (showM x) + lod l
def oodd : List (Str × JV) → Nat
  | [] => 0
  | (k, x) :: l => od (quoteM k) + od (showM x) + oodd l
theorem lod_join : ∀ (xs : List JV), od (joinM (showL xs)) = lod xs
  | [] => rfl
  | [x] => by simp [showL, joinM, lod]
  | x :: y :: r => by
    have := lod_join (y :: r)
    simp only [showL, join_two, lod, od_app] at this ⊢
    rw [this]
    simp [od]
theorem oodd_join : ∀ (l : List (Str × JV)), od (joinM (List.zipWith (fun a b => quoteM a ++ [58] ++ b) (l.map (·.1)) (showL (l.map (·.2))))) = oodd l
  | [] => rfl
  | [(k, x)] => by simp [showL, joinM, oodd, od_app, od]
  | (k, x) :: (k', y) :: r => by
    have := oodd_join ((k', y) :: r)
    simp only [List.map_cons, showL, List.zipWith_cons_cons, join_two, oodd, od_app] at this ⊢
    rw [this]
    simp [od]
theorem ins_oodd (l : List (Str × JV)) (k : Str) (x : JV) : oodd (insP l k x) = od (quoteM k) + od (showM x) + oodd l := by
  induction l with
  | nil => rfl
  | cons q r ih =>
    obtain ⟨a, y⟩ := q
    simp only [insP]
    split
    · rfl
    · simp only [oodd, ih]; omega
theorem mkO_inj {l l' : List (Str × JV)} (h : mkO l = mkO l') : l = l' := by
  have h1 : l.map (·.1) = l'.map (·.1) := congrArg JV.ks h
  have h2 : l.map (·.2) = l'.map (·.2) := congrArg JV.xs h
  rw [← zip_maps l, ← zip_maps l', h1, h2]
theorem od_quote (k : Str) : od (quoteM k) = od (k.flatMap escB) := by
  simp [quoteM, od_app, od]
set_option maxHeartbeats 1000000 in
theorem par_all (E : ErrNo) (s : Str) : ∀ n,
    (∀ {deep i cnt v j c}, i ≤ s.length → cnt ≤ 2000 → valM E s n deep i cnt = .ok v j c → (showM v).length + i = j → od (showM v) + pd s i = pd s j) ∧
    (∀ {deep i cnt acc ys j c}, i ≤ s.length → cnt ≤ 2000 → listM E s n deep i cnt acc = .ok (.mk 5 false [] (acc ++ ys) []) j c → lsum ys + i = j → lod ys + 1 + pd s i = pd s j) ∧
    (∀ {deep i cnt l l' j c}, i ≤ s.length → cnt ≤ 2000 → objM E s n deep i cnt (mkO l) = .ok (mkO l') j c → Rise (l.map (·.1)) → (∀ p ∈ l, ItemP (24 - deep) p) → osum l' + i = osum l + j → oodd l' + 1 + pd s i = oodd l + pd s j) := by
  intro n
  induction n with
  | zero =>
    refine ⟨fun _ _ h => ?_, fun _ _ h => ?_, fun _ _ h => ?_⟩
    · rw [valM] at h; cases h
    · rw [listM] at h; cases h
    · rw [objM] at h; cases h
  | succ n ih =>
    obtain ⟨ihv, ihl, iho⟩ := ih
    refine ⟨fun {deep i cnt v j c} hi hc h he => ?_, fun {deep i cnt acc ys j c} hi hc h he => ?_, fun {deep i cnt l l' j c} hi hc h hr hp he => ?_⟩
    · rw [valM] at h
      try simp only at h
      have hb1 := blank_ge s i
      have hb2 := blank_le hi
      generalize blankM s i = i' at *
      have word : ∀ {w : Str}, wordM s i' w = true → i' + w.length ≤ s.length := fun {w} hw => by
        unfold wordM at hw
        have := congrArg List.length (of_decide_eq_true hw)
        rw [List.length_take, List.length_drop] at this
        omega
      split at h
      · cases h
      rename_i hdeep
      split at h
      · cases h
      rename_i hcnt
      split at h
      · rename_i hw
        have hp : pd s (i' + 4) = pd s i' + od [110, 117, 108, 108] := pd_word hw
        cases h
        have e : showM JV.null = [110, 117, 108, 108] := by rw [JV.null, showM_eq]; rfl
        rw [e] at he ⊢
        simp only [List.length_cons, List.length_nil] at he
        obtain rfl : i' = i := by omega
        omega
      split at h
      · rename_i hw
        have hp : pd s (i' + 4) = pd s i' + od [116, 114, 117, 101] := pd_word hw
        cases h
        have e : showM (.mk 2 true [] [] []) = [116, 114, 117, 101] := by rw [showM_eq]; rfl
        rw [e] at he ⊢
        simp only [List.length_cons, List.length_nil] at he
        obtain rfl : i' = i := by omega
        omega
      split at h
      · rename_i hw
        have hp : pd s (i' + 5) = pd s i' + od [102, 97, 108, 115, 101] := pd_word hw
        cases h
        have e : showM (.mk 2 false [] [] []) = [102, 97, 108, 115, 101] := by rw [showM_eq]; rfl
        rw [e] at he ⊢
        simp only [List.length_cons, List.length_nil] at he
        obtain rfl : i' = i := by omega
        omega
      split at h
      · obtain ⟨h1, h2, h3, h4, h5⟩ := num_back (m := 24 - deep) h
        obtain rfl : i' = i := by omega
        exact num_par h he
      split at h
      · rename_i h34
        split at h
        · rename_i t j' c' hq
          cases h
          unfold quotM at hq
          obtain ⟨a1, a2, a3, a4, a5, a6⟩ := quot_back hq .nil
          have hqp := quot_par hq .nil
          have e : showM (.mk 4 false t [] []) = quoteM t := by rw [showM_eq]; rfl
          have hql : (quoteM t).length = (t.flatMap escB).length + 2 := by simp [quoteM]
          rw [e] at he ⊢
          simp only [List.flatMap_nil, List.length_nil, Nat.zero_add, od] at a6 hqp
          obtain rfl : i' = i := by omega
          have := hqp (by omega)
          have hb := pd_byte (s := s) (i := i') (n := 34) h34
          rw [od_quote]
          omega
        · cases h
      split at h
      · rename_i h91
        have hlt := byte_lt (s := s) (i := i') (by omega)
        have hb := pd_byte (s := s) (i := i') (n := 91) h91
        split at h
        · rename_i h93
          have hlt2 := byte_lt (s := s) (i := blankM s (i' + 1)) (by omega)
          have hg := blank_ge s (i' + 1)
          have hb9 := pd_byte (s := s) (i := blankM s (i' + 1)) (n := 93) h93
          cases h
          have e : showM (.mk 5 false [] [] []) = [91, 93] := by rw [showM_eq]; rfl
          rw [e] at he ⊢
          simp only [List.length_cons, List.length_nil] at he
          obtain rfl : i' = i := by omega
          have e2 : blankM s (i' + 1) = i' + 1 := by omega
          rw [e2] at hb9 ⊢
          have : od ([91, 93] : Str) = 2 := rfl
          omega
        · have hg := blank_ge s (i' + 1)
          obtain ⟨ys, y1, rfl, y3, y4, y5, y6, y7⟩ := (back_all E s n).2.1 (blank_le (by omega)) (by omega) h
          have hlp := ihl (ys := ys) (blank_le (by omega)) (by omega) h
          have hj := lsum_join ys y1
          have hjo := lod_join ys
          simp only [List.nil_append] at he ⊢
          have e : showM (.mk 5 false [] ys []) = [91] ++ joinM (showL ys) ++ [93] := by rw [showM_eq]; rfl
          rw [e] at he ⊢
          simp only [List.length_append, List.length_cons, List.length_nil] at he
          obtain rfl : i' = i := by omega
          have e2 : blankM s (i' + 1) = i' + 1 := by omega
          rw [e2] at hlp
          have := hlp (by omega)
          rw [od_app, od_app, hjo]
          have e3 : od ([91] : Str) = 1 := rfl
          have e4 : od ([93] : Str) = 1 := rfl
          omega
      split at h
      · rename_i h123
        have hlt := byte_lt (s := s) (i := i') (by omega)
        have hb := pd_byte (s := s) (i := i') (n := 123) h123
        split at h
        · rename_i h125
          have hlt2 := byte_lt (s := s) (i := blankM s (i' + 1)) (by omega)
          have hg := blank_ge s (i' + 1)
          have hb9 := pd_byte (s := s) (i := blankM s (i' + 1)) (n := 125) h125
          cases h
          have e : showM (.mk 6 false [] [] []) = [123, 125] := by rw [showM_eq]; rfl
          rw [e] at he ⊢
          simp only [List.length_cons, List.length_nil] at he
          obtain rfl : i' = i := by omega
          have e2 : blankM s (i' + 1) = i' + 1 := by omega
          rw [e2] at hb9 ⊢
          have : od ([123, 125] : Str) = 2 := rfl
          omega
        · have hg := blank_ge s (i' + 1)
          obtain ⟨l', y1, rfl, y2, y3, y4, y5, y6, y7⟩ := (back_all E s n).2.2 (l := []) (blank_le (by omega)) (by omega) h List.Pairwise.nil (fun p hp => by cases hp)
          have hop := iho (l := []) (l' := l') (blank_le (by omega)) (by omega) h List.Pairwise.nil (fun p hp => by cases hp)
          have hj := osum_join l' y1
          have hjo := oodd_join l'
          simp only [osum, oodd] at y6 hop
          have e : showM (mkO l') = [123] ++ joinM (List.zipWith (fun a b => quoteM a ++ [58] ++ b) (l'.map (·.1)) (showL (l'.map (·.2)))) ++ [125] := by unfold mkO; rw [showM_eq]; rfl
          rw [e] at he ⊢
          simp only [List.length_append, List.length_cons, List.length_nil] at he hj
          obtain rfl : i' = i := by omega
          have e2 : blankM s (i' + 1) = i' + 1 := by omega
          rw [e2] at hop
          have := hop (by omega)
          rw [od_app, od_app, hjo]
          have e3 : od ([123] : Str) = 1 := rfl
          have e4 : od ([125] : Str) = 1 := rfl
          omega
      · cases h
    · rw [listM] at h
      split at h
      · cases h
      rename_i x j1 c1 hv
      obtain ⟨v1, v2, v3, v4, v5, v6⟩ := (back_all E s n).1 hi hc hv
      have hvp := ihv hi hc hv
      have hg := blank_ge s j1
      split at h
      · rename_i h93
        have hb9 := pd_byte (s := s) (i := blankM s j1) (n := 93) h93
        simp only [RR.ok.injEq, JV.mk.injEq, List.append_cancel_left_eq, true_and, and_true] at h
        obtain ⟨rfl, rfl, rfl⟩ := h
        simp only [lsum, lod] at he ⊢
        have e2 : blankM s j1 = j1 := by omega
        rw [e2] at hb9 he ⊢
        have := hvp (by omega)
        omega
      split at h
      · rename_i h44
        have hlt := byte_lt (s := s) (i := blankM s j1) (by omega)
        have hb4 := pd_byte (s := s) (i := blankM s j1) (n := 44) h44
        obtain ⟨zs, y1, hz, y3, y4, y5, y6, y7⟩ := (back_all E s n).2.1 (by omega) v4 h
        have hlp := ihl (acc := acc ++ [x]) (ys := zs) (by omega) v4 (h.trans (by rw [hz]))
        have : ys = x :: zs := by
          simp only [JV.mk.injEq, List.append_assoc, List.append_cancel_left_eq, true_and, and_true] at hz
          exact hz
        subst this
        simp only [lsum, lod] at he ⊢
        have e2 : blankM s j1 = j1 := by omega
        rw [e2] at hb4 hlp
        have h1 := hvp (by omega)
        have h2 := hlp (by omega)
        omega
      · cases h
    · rw [objM] at h
      try simp only at h
      have hb1 := blank_ge s i
      have hb2 := blank_le hi
      generalize blankM s i = i' at *
      split at h
      · cases h
      rename_i h34
      have h34 : byteM s i' = 34 := Classical.byContradiction h34
      split at h
      · cases h
      rename_i key j1 c1 hq
      unfold quotM at hq
      obtain ⟨a1, a2, a3, a4, a5, a6⟩ := quot_back hq .nil
      have hqp := quot_par hq .nil
      simp only [List.flatMap_nil, List.length_nil, Nat.zero_add, od] at a6 hqp
      have hql : (quoteM key).length = (key.flatMap escB).length + 2 := by simp [quoteM]
      have hqo := od_quote key
      have hb0 := pd_byte (s := s) (i := i') (n := 34) h34
      split at h
      · cases h
      rename_i hget
      have hn := get_none (by simpa using hget)
      have hg1 := blank_ge s j1
      split at h
      · cases h
      rename_i h58
      have h58 : byteM s (blankM s j1) = 58 := Classical.byContradiction h58
      have hb5 := pd_byte (s := s) (i := blankM s j1) (n := 58) h58
      have hlt := byte_lt (s := s) (i := blankM s j1) (by omega)
      split at h
      · cases h
      rename_i x j2 c2 hv
      obtain ⟨v1, v2, v3, v4, v5, v6⟩ := (back_all E s n).1 (by omega) (by omega) hv
      have hvp := ihv (by omega) (by omega) hv
      rw [show 25 - (deep + 1) = 24 - deep by omega] at v2
      have hg2 := blank_ge s j2
      rw [put_mkO hn] at h
      have hr' := rise_ins (x := x) hr hn
      have hp' : ∀ p ∈ insP l key x, ItemP (24 - deep) p := fun p hpm => by
        rcases (ins_mem p).1 hpm with rfl | hpm
        · exact ⟨a3, (utf_iff key).2 a2, v2⟩
        · exact hp p hpm
      split at h
      · rename_i h125
        have hlt2 := byte_lt (s := s) (i := blankM s j2) (by omega)
        have hb9 := pd_byte (s := s) (i := blankM s j2) (n := 125) h125
        simp only [RR.ok.injEq] at h
        obtain ⟨h, rfl, rfl⟩ := h
        have hll := mkO_inj h
        subst hll
        rw [ins_osum] at he
        rw [ins_oodd]
        obtain rfl : i' = i := by omega
        have e1 : blankM s j1 = j1 := by omega
        have e2 : blankM s j2 = j2 := by omega
        rw [e1] at hvp hb5 v5
        rw [e2] at hb9 ⊢
        have q1 := hqp (by omega)
        have q2 := hvp (by omega)
        omega
      split at h
      · rename_i h44
        have hlt2 := byte_lt (s := s) (i := blankM s j2) (by omega)
        have hb9 := pd_byte (s := s) (i := blankM s j2) (n := 44) h44
        obtain ⟨l2, y1, hl2, y2, y3, y4, y5, y6, y7⟩ := (back_all E s n).2.2 (by omega) v4 h hr' hp'
        have hop := iho (l' := l') (by omega) v4 h hr' hp'
        have hll := mkO_inj hl2
        subst hll
        rw [ins_osum] at y6 hop
        rw [ins_oodd] at hop
        obtain rfl : i' = i := by omega
        have e1 : blankM s j1 = j1 := by omega
        have e2 : blankM s j2 = j2 := by omega
        rw [e1] at hvp hb5 v5
        rw [e2] at hb9 hop y6
        have q1 := hqp (by omega)
        have q2 := hvp (by omega)
        have q3 := hop (by omega)
        omega
      · cases h
theorem dec_par {E : ErrNo} {s : Str} {v : JV} {j c : Nat} (h : decM E s = .ok v j c) (hl : s.length = (showM v).length) : od s = od (showM v) := by
  unfold decM at h
  split at h
  · cases h
  split at h
  · cases h
  rename_i _ v' i' c' hv
  split at h
  · cases h
  cases h
  have hb := val_back (Nat.zero_le _) (Nat.zero_le _) hv
  have h1 := hb.len
  have h2 := hb.fits
  have := (par_all E s _).1 (Nat.zero_le _) (Nat.zero_le _) hv (by omega)
  rw [show pd s 0 = 0 from rfl] at this
  have e : pd s s.length = od s := by
    unfold pd
    rw [List.take_of_length_le (Nat.le_refl _)]
  have ej : j = s.length := by omega
  rw [ej] at this
  omega
end Go.Eng
namespace Go.Proofs.YtnoepcndjljolaaGreatDoor
open Go Go.Eng Go.Num Go.RowKit
set_option maxRecDepth 100000
theorem od_set : ∀ {l : Str} {k : Nat} {c y : UInt8}, l[k]? = some c → od (l.set k y) + c.toNat % 2 = od l + y.toNat % 2
  | [], k, c, y, h => by simp at h
  | a :: l, 0, c, y, h => by
    simp only [List.getElem?_cons_zero, Option.some.injEq] at h
    subst h
    simp only [List.set_cons_zero, od]
    omega
  | a :: l, k + 1, c, y, h => by
    simp only [List.getElem?_cons_succ] at h
    have := od_set (y := y) h
    simp only [List.set_cons_succ, od]
    omega
theorem or_one : ∀ a : Fin 256, ∃ b : Fin 256, IntKind.u8.wrap ((BitVec.ofInt IntKind.u8.bits ((a.val : Nat) : Int) ||| BitVec.ofInt IntKind.u8.bits 1).toNat : Int) = ((b.val : Nat) : Int) ∧ b.val % 2 = 1 := by decide +kernel
theorem xor_odd (c b : Nat) (hb2 : b < 256) (hb : b % 2 = 1) (hc : c < 256) : ∃ y : UInt8, IntKind.u8.wrap ((BitVec.ofInt IntKind.u8.bits ((c : Nat) : Int) ^^^ BitVec.ofInt IntKind.u8.bits ((b : Nat) : Int)).toNat : Int) = ((y.toNat : Nat) : Int) ∧ y.toNat % 2 ≠ c % 2 := by
  have e8 : IntKind.u8.bits = 8 := rfl
  have h1 : (BitVec.ofInt IntKind.u8.bits ((c : Nat) : Int)).toNat = c := by
    rw [BitVec.toNat_ofInt, e8]
    omega
  have h2 : (BitVec.ofInt IntKind.u8.bits ((b : Nat) : Int)).toNat = b := by
    rw [BitVec.toNat_ofInt, e8]
    omega
  rw [BitVec.toNat_xor, h1, h2]
  have hlt : c ^^^ b < 256 := Nat.xor_lt_two_pow (n := 8) hc hb2
  have hp : (c ^^^ b) % 2 ≠ c % 2 := by
    have h := @Nat.xor_mod_two_eq_one c b
    by_cases h1 : c % 2 = 1
    · have := mt h.1 (by simp [h1, hb])
      omega
    · have := h.2 (by simp [h1, hb])
      omega
  refine ⟨UInt8.ofNat (c ^^^ b), ?_, ?_⟩
  · have e1 : (2 : Int) ^ 8 = 256 := by decide
    simp only [IntKind.wrap, IntKind.bits, IntKind.signed, Bool.false_and, e1]
    rw [UInt8.toNat_ofNat']
    simp
  · rw [UInt8.toNat_ofNat']
    omega
theorem depOk_pos : ∀ {ds : List Str} {prev : Option Str}, depOk prev ds = true → ∀ d ∈ ds, 0 < d.length
  | [], _, _ => fun d hd => by cases hd
  | x :: ds, prev, h => by
    simp only [depOk, Bool.and_eq_true] at h
    intro d hd
    rcases List.mem_cons.1 hd with rfl | hd
    · have := h.1.1
      simp only [nm15M, Bool.and_eq_true, decide_eq_true_eq] at this
      exact this.1.1
    · exact depOk_pos h.2 d hd
theorem deps_pos {l : List RV} {prev : Option Str} : recsOk prev l = true → ∀ r ∈ l, ∀ d ∈ r.deps, 0 < d.length := by
  intro h r hr
  induction l generalizing prev with
  | nil => cases hr
  | cons x l ih =>
    simp only [recsOk, Bool.and_eq_true] at h
    rcases List.mem_cons.1 hr with rfl | hr
    · have := h.1.2
      simp only [recOk1, Bool.and_eq_true] at this
      exact depOk_pos this.2
    · exact ih h.2 hr
theorem spoilt_plain {E : ErrNo} {v : JV} {k : Nat} {c y : UInt8} {j n : Nat} (hc : (showM v)[k]? = some c) (hy : y.toNat % 2 ≠ c.toNat % 2) (h : decM E ((showM v).set k y) = .ok v j n) : False := by
  have h1 := dec_par h (by rw [List.length_set])
  have h2 := od_set (y := y) hc
  omega
section
variable [HX]
theorem spoilt_true {G : Nat → Prop} {ser : Int} {l : List RV} {cs : List Value} {a : Int} {b : UInt8} {w : World} {K : Value → World → Prop} (hT : TabA w) (h : StRepP G w ser l cs) (hl : l.length ≤ 9223372036854775807) (hd : ∀ x ∈ l, (∀ d ∈ x.deps, 0 < d.length) → x.deps.length ≤ 1000000)
    (ha : -9223372036854775808 ≤ a ∧ a ≤ 9223372036854775807) (hK : ∀ w', Ext w w' → K (.bool true) w') : callF Tryz.prog 3 [.agg cs.toArray, i64 a, .int .u8 (b.toNat : Nat)] w K := by
  refine W3_ok ?_
  unfold W3
  refine box_st h fun p w1 sv e1 hA1 hx1 hp => ?_
  refine awake15 (hT.ext hx1) fun w3 hx3 => ?_
  have hA3 := hA1.ext hx3
  rw [un_not]
  simp only [isB_f, Bool.not_true, Bool.not_false]
  refine GdW.act (!decide (l.length ≤ 200)) (fun w' => Ext w3 w') (fun _ => Chg.refl _ _) (fun _ J hJ => ?_) fun g w6 hx6 => ?_
  · refine hA3.all ?_
    refine few15_p hA3.rep fun w5 hx5 => ?_
    rw [un_not]
    exact hJ w5 hx5
  simp only [List.getD_cons_zero, pick_f, cond_true]
  have hx06 := hx1.trans (hx3.trans hx6)
  have hA6 := hA3.ext hx6
  rw [condW_b]
  refine ⟨fun _ => awake15 (hT.ext hx06) fun w7 hx7 => hK w7 (hx06.trans hx7), fun hn => ?_⟩
  have hn : l.length ≤ 200 := by simpa using hn
  have hT6 := hT.ext hx06
  refine hA6.all ?_
  refine sencode_p hT6 hA6.rep (by omega) (fun hg x hx => hd x hx (deps_pos (goodS_recs hg) x hx)) (fun hg w7 hx7 => ?_) (fun hg hne w7 hx7 => ?_) (fun hg he q cap c w7 hx7 hlo hB => ?_)
  · simp only [ext_tuple]
    refine ⟨_, rfl, _, rfl, ?_⟩
    rw [bin_neq, decide_eq_true (by decide), condW_true]
    exact hK w7 (hx06.trans hx7)
  · simp only [ext_tuple]
    refine ⟨_, rfl, _, rfl, ?_⟩
    rw [bin_neq, decide_eq_true (by decide), condW_true]
    exact hK w7 (hx06.trans hx7)
  obtain ⟨hI, hcn, hlen, heq⟩ := enc_ok he
  simp only [ext_tuple]
  refine ⟨_, rfl, _, rfl, ?_⟩
  rw [bin_neq, decide_eq_false (by decide), condW_false]
  have es : (encM 1 20 31 3 (stV (listV l) ser)).1 = showM (stV (listV l) ser) := by rw [heq]
  rw [es] at hB ⊢
  have hpos : 0 < (showM (stV (listV l) ser)).length := by
    unfold stV mkO
    rw [showM_eq]
    simp
  generalize hV : stV (listV l) ser = V at *
  generalize hs : showM V = s at *
  have hlen2 : s.length ≤ 65536 := hlen
  rw [lenl_sl, bin_eql, decide_eq_false (by omega), condW_false, cvt_int]
  obtain ⟨u, hu⟩ : ∃ u : Nat, IntKind.u64.wrap a = (u : Int) := ⟨(IntKind.u64.wrap a).toNat, by rw [IntKind.wrap_u64]; omega⟩
  have hul : u < 18446744073709551616 := by have := hu; rw [IntKind.wrap_u64] at this; omega
  have hlu : IntKind.u64.wrap ((s.length : Nat) : Int) = ((s.length : Nat) : Int) := by rw [IntKind.wrap_u64]; omega
  rw [hu, lenl_sl, cvt_int, hlu, bin_rem]
  refine ⟨by omega, ?_⟩
  have hk : u % s.length < s.length := Nat.mod_lt _ hpos
  have e : ((u : Nat) : Int).tmod ((s.length : Nat) : Int) = ((u % s.length : Nat) : Int) := by rw [Int.tmod_eq_emod_of_nonneg (by omega)]; omega
  rw [e, cvt_int, wrap_id (by omega) (by omega)]
  generalize hkk : u % s.length = k at *
  obtain ⟨x, hx⟩ : ∃ x, s[k]? = some x := ⟨_, List.getElem?_eq_getElem hk⟩
  have hx7' := hx06.trans hx7
  refine ixa_ld (x := .int .u8 (x.toNat : Nat)) hB.byt (by simp [u8s]) (by simp [u8s, hx]) ?_
  rw [bin_or]
  obtain ⟨o, ho, ho2⟩ := or_one ⟨b.toNat, UInt8.toNat_lt b⟩
  rw [ho, bin_xor]
  obtain ⟨y, hy, hy2⟩ := xor_odd x.toNat o.val o.isLt ho2 (UInt8.toNat_lt x)
  rw [hy]
  refine set_byte (y := y) hB hk fun c' w8 hB8 hc8 hz8 => ?_
  have hx68 : Ext w6 w8 := hx7.new hc8 hlo
  have hx08 := hx06.trans hx68
  have hA8 := hA6.ext hx68
  have hlen8 : (s.set k y).length = s.length := List.length_set
  have hbyt : Byt w8 U8 (.slice (some ⟨q, 0, none⟩) s.length cap) (s.set k y) := by
    have := hB8.byt
    rw [hlen8] at this
    exact this
  have hT8 := hT.ext hx08
  refine sdecode_s hT8 hbyt (by rw [hlen8]; omega) (fun w9 hx9 => ?_) (fun ser' l' cs' w9 hdec hg' hl' hx9 hr' => ?_)
  · simp only [ext_tuple]
    refine ⟨_, rfl, _, rfl, ?_⟩
    refine alloc_new fun p2 w10 hp2 hz10 hb10 hx10 => ?_
    refine st_agg_at (l := [i64 0, .slice none 0 0]) hb10 rfl rfl rfl fun w11 hz11 hb11 hc11 => ?_
    rw [bin_neq, decide_eq_true (by decide), condW_true, bin_eql, decide_eq_true rfl]
    exact hK w11 (hx08.trans (hx9.trans (hx10.new hc11 (by omega))))
  · simp only [ext_tuple]
    refine ⟨_, rfl, _, rfl, ?_⟩
    obtain ⟨sv2, T2, L2, rfl, hS2, hR2⟩ := id hr'
    refine alloc_new fun p2 w10 hp2 hz10 hb10 hx10 => ?_
    have hone : [i64 ser', sv2].all one1 = true := hr'.one
    refine st_agg_at (l := [i64 ser', sv2]) hb10 rfl rfl hone fun w11 hz11 hb11 hc11 => ?_
    have hx911 : Ext w9 w11 := hx10.new hc11 (by omega)
    rw [bin_neq, decide_eq_false (by decide), condW_false]
    have hC : StB (fun _ => True) w11 p2 ser' l' sv2 := ⟨hb11, T2, L2, hS2.ext hx911, hR2.ext hx911⟩
    have hA11 := hA8.ext (hx9.trans hx911)
    refine hC.all ?_
    refine hA11.all ?_
    refine same15_ref hC.rep hA11.rep (by omega) fun same w12 hsame hx12 => ?_
    have hsf : same = false := by
      cases hs' : same with
      | false => rfl
      | true =>
        obtain ⟨e1, e2⟩ := hsame.1 hs'
        obtain ⟨j, n, hj⟩ := hdec
        rw [e1, e2, hV] at hj
        rw [← hs] at hj hx
        exact (spoilt_plain hx hy2 hj).elim
    rw [hsf, un_not]
    simp only [isB_t, Bool.not_false]
    have hC12 := hC.ext hx12
    refine GdW.act true (fun w' => Ext w12 w') (fun h => by cases h) (fun _ J hJ => ?_) fun g w15 hx15 => ?_
    · refine hC12.all ?_
      refine good15_ref hC12.rep (by omega) fun w14 hx14 => ?_
      rw [hg']
      exact hJ w14 hx14
    simp only [List.getD_cons_zero, cond_true, pick_t]
    exact hK w15 (hx08.trans (hx9.trans (hx911.trans (hx12.trans hx15))))
end
end Go.Proofs.YtnoepcndjljolaaGreatDoor
namespace Go.Eng
open Go Go.Deep
theorem flat_get {k : Nat} : ∀ (L : List (List Value)) (i r : Nat) (y : List Value), (∀ z ∈ L, z.length = k) → r < k → L[i]? = some y → L.flatten[i * k + r]? = y[r]?
  | [], i, _, _, _, _, h => by simp at h
  | z :: L, 0, r, y, hl, hr, h => by
    simp only [List.getElem?_cons_zero, Option.some.injEq] at h
    subst h
    simp only [List.flatten_cons, Nat.zero_mul, Nat.zero_add]
    rw [List.getElem?_append_left (by rw [hl z List.mem_cons_self]; exact hr)]
  | z :: L, i + 1, r, y, hl, hr, h => by
    simp only [List.getElem?_cons_succ] at h
    have := flat_get L i r y (fun u hu => hl u (List.mem_cons_of_mem _ hu)) hr h
    rw [← this]
    simp only [List.flatten_cons]
    have hz := hl z List.mem_cons_self
    rw [List.getElem?_append_right (by rw [hz, Nat.add_mul]; omega)]
    congr 1
    rw [hz, Nat.add_mul]
    omega
theorem flat_len {k : Nat} : ∀ (L : List (List Value)), (∀ z ∈ L, z.length = k) → L.flatten.length = L.length * k
  | [], _ => by simp
  | z :: L, hl => by
    rw [List.flatten_cons, List.length_append, flat_len L fun u hu => hl u (List.mem_cons_of_mem _ hu), hl z List.mem_cons_self, List.length_cons, Nat.add_mul]
    omega
section
variable {H : Type} {enc : TypeId × Value → H} {P : Program} {w : World} {base : Nat} {spare : Nat → Bool} {held : Bool}
theorem open_rows {t e : TypeId} {k fuel : Nat} {v : Value} {d : DataW H} {ps : List MemPlace} (ht : P.underlying t = some (.slice e)) (hk : P.cellsOf e = k) (hk0 : 0 < k) (h : DataW.trod enc P w base spare held fuel t [v] = some (d, ps)) :
    ∃ p n c T m, ∃ (f : Nat → List Value) (D : Nat → DataW H) (Pl : Nat → List MemPlace), v = .slice p n c ∧ SlAt w T (.slice p n c) n ((List.range n).map f).flatten ∧
      (∀ i, i < n → (f i).length = k ∧ DataW.trod enc P w base spare held m e (f i) = some (D i, Pl i)) ∧ ((n = 0 ∧ d = .nil) ∨ ∃ rest, d = .slice ((List.range n).map D) rest) := by
  rcases open_slice ht h with ⟨hc, hx⟩ | ⟨a, len, cap, m, n, D, Pl, hc, _, hl, hm, hme, hx, hel⟩
  · cases hc
    cases hx
    refine ⟨none, 0, 0, 0, 0, fun _ => [], fun _ => .nil, fun _ => [], rfl, ?_, fun i hi => by omega, .inl ⟨rfl, rfl⟩⟩
    simpa using SlAt.nil w 0
  · cases hc
    cases hx
    have hlm : len ≤ m := by rw [hme]; split <;> omega
    obtain ⟨f, hf⟩ := choose_lt (n := len) fun i hi => hel i (by omega)
    have hfl : ∀ i, i < len → (f i).length = k := fun i hi => by rw [(World.cells?_some (hf i hi).1).2.1, hk]
    have hall : ∀ z ∈ (List.range len).map f, z.length = k := by
      intro z hz
      obtain ⟨i, hi, rfl⟩ := List.mem_map.1 hz
      exact hfl i (List.mem_range.1 hi)
    have hcell : ∀ i r, i < len → r < k → w.cell? (a.add (i * k + r)) = (f i)[r]? := by
      intro i r hi hr
      have := (World.cells?_some (hf i hi).1).2.2 r (by omega)
      rw [add_add, hk] at this
      exact this
    by_cases h0 : len = 0
    · subst h0
      refine ⟨some a, 0, cap, 0, n, f, D, Pl, rfl, ⟨some a, cap, rfl, Nat.zero_le _, (by intro e; cases e), (by simp)⟩, fun i hi => by omega, .inr ⟨_, rfl⟩⟩
    have h00 := hcell 0 0 (by omega) hk0
    have hf0 := hfl 0 (by omega)
    rw [List.getElem?_eq_getElem (by omega)] at h00
    obtain ⟨c, T, fr, hb, hsp⟩ : ∃ c T fr, w.heap[a.block]? = some (.cells c T fr) ∧ a.spot = none := by
      unfold World.cell? at h00
      have e1 : (a.add (0 * k + 0)).block = a.block := by unfold Addr.add; split <;> rfl
      have e2 : (a.add (0 * k + 0)) = a := by unfold Addr.add; simp
      rw [e2] at h00
      split at h00
      · rename_i c T fr hb
        refine ⟨c, T, fr, hb, ?_⟩
        cases hs : a.spot with
        | none => rfl
        | some _ => simp [hs] at h00
      · cases h00
    obtain ⟨b, off, sp⟩ := a
    simp only at hsp hb
    subst hsp
    refine ⟨some ⟨b, off, none⟩, len, cap, T, n, f, D, Pl, rfl, ⟨_, _, rfl, hl, (by intro e; cases e), fun _ => ⟨b, off, c, fr, rfl, hb, fun j hj => ?_⟩⟩, fun i hi => ⟨hfl i hi, (hf i hi).2⟩, .inr ⟨_, rfl⟩⟩
    rw [flat_len _ hall, List.length_map, List.length_range] at hj
    have hi : j / k < len := by rw [Nat.div_lt_iff_lt_mul hk0]; exact hj
    have hr : j % k < k := Nat.mod_lt _ hk0
    have hjj : j / k * k + j % k = j := by rw [Nat.mul_comm]; exact Nat.div_add_mod j k
    have h1 := hcell (j / k) (j % k) hi hr
    rw [hjj, add_mk, cell_eq, hb, cellO_some] at h1
    have h2 := flat_get ((List.range len).map f) (j / k) (j % k) (f (j / k)) hall hr (by simp [hi])
    rw [hjj] at h2
    rw [h1, h2]
end
end Go.Eng
namespace Go.Proofs.YtnoepcndjljolaaGreatDoor
open Go Go.Eng Go.Num Go.Deep
set_option maxRecDepth 100000
instance : Inhabited JV := ⟨JV.null⟩
theorem vreps_map {w : World} {X : Nat → JV} {f : Nat → List Value} : ∀ (l : List Nat), (∀ i ∈ l, VRep w (X i) (f i)) → VReps w (l.map X) (l.map f).flatten
  | [], _ => by simp [VReps]
  | i :: l, h => by
    simp only [List.map_cons, List.flatten_cons, VReps]
    exact ⟨_, _, rfl, h i List.mem_cons_self, vreps_map l fun j hj => h j (List.mem_cons_of_mem _ hj)⟩
section
variable {H : Type} {enc : TypeId × Value → H} {w : World} {base : Nat} {spare : Nat → Bool} {held : Bool}
theorem open_len {P : Program} {t e : TypeId} {fuel : Nat} {p : Option Addr} {n c : Nat} {x : DataW H × List MemPlace} (ht : P.underlying t = some (.slice e)) (h : DataW.trod enc P w base spare held fuel t [.slice p n c] = some x) : n ≤ 9223372036854775807 := by
  rcases Deep.open_slice ht h with ⟨hc, _⟩ | ⟨a, len, cap, m, n', D, Pl, hc, _, hl, hm, _⟩
  · cases hc; omega
  · cases hc; unfold maxLen at hm; omega
theorem open_texts {P : Program} {t e : TypeId} {fuel : Nat} {v : Value} {d : DataW H} {ps : List MemPlace} (ht : P.underlying t = some (.slice e)) (he : P.underlying e = some .string) (hk : P.cellsOf e = 1) (h : DataW.trod enc P w base spare held fuel t [v] = some (d, ps)) :
    ∃ (T : TypeId) (l : List Str), SlAt w T v l.length (l.map str) ∧ l.length ≤ 9223372036854775807 ∧ ∀ s ∈ l, s.length ≤ 9223372036854775807 := by
  obtain ⟨p, n, c, T, m, f, D, Pl, rfl, hs, hf, hd⟩ := open_rows ht hk (by omega) h
  have hn := open_len ht h
  have hex : ∀ i, i < n → ∃ b : Str, f i = [str b] ∧ b.length ≤ 9223372036854775807 := by
    intro i hi
    obtain ⟨s, hx, _, hw⟩ := DataW.trod_string he (hf i hi).2
    refine ⟨s.data.toList, by rw [hx]; simp [ofL], ?_⟩
    unfold maxLen at hw
    simpa using hw
  obtain ⟨g, hg⟩ := choose_lt hex
  have hfl : ((List.range n).map f).flatten = ((List.range n).map g).map str := by
    have : (List.range n).map f = (List.range n).map fun i => [str (g i)] := List.map_congr_left fun i hi => (hg i (List.mem_range.1 hi)).1
    rw [this]
    simp only [List.map_map]
    generalize List.range n = L
    induction L with
    | nil => rfl
    | cons a L ih => simp only [List.map_cons, List.flatten_cons, ih, Function.comp_apply]; rfl
  rw [hfl] at hs
  refine ⟨T, (List.range n).map g, by simpa using hs, by simpa using hn, fun s hs => ?_⟩
  obtain ⟨i, hi, rfl⟩ := List.mem_map.1 hs
  exact (hg i (List.mem_range.1 hi)).2
theorem open_val : ∀ (N fuel : Nat) (cs : List Value) (d : DataW H) (ps : List MemPlace), SizeOf.sizeOf d < N → DataW.trod enc Tryz.prog w base spare held fuel VT cs = some (d, ps) → ∃ v : JV, VRep w v cs
  | 0, _, _, _, _, h, _ => by omega
  | N + 1, fuel, cs, d, ps, hN, h => by
    obtain ⟨xs, n, hn, hx, hl, hlen, hf⟩ := DataW.trod_struct Tryz.underlying40 h
    have hl5 : cs.length = 5 := hl.trans (show Tryz.prog.cellsOf VT = 5 by kernel_rfl)
    have k0 : Tryz.prog.cellsOf 36 = 1 := by kernel_rfl
    have k1 : Tryz.prog.cellsOf 4 = 1 := by kernel_rfl
    have k2 : Tryz.prog.cellsOf 9 = 1 := by kernel_rfl
    have k3 : Tryz.prog.cellsOf 37 = 1 := by kernel_rfl
    have k4 : Tryz.prog.cellsOf 38 = 1 := by kernel_rfl
    match cs, hl5 with
    | [c0, c1, c2, c3, c4], _ =>
    have f0 : DataW.trod enc Tryz.prog w base spare held n 36 (([c0, c1, c2, c3, c4].drop 0).take (Tryz.prog.cellsOf 36)) = xs[0]? := hf 0 _ rfl
    rw [k0] at f0
    have f0 : DataW.trod enc Tryz.prog w base spare held n 36 [c0] = xs[0]? := f0
    have f1 : DataW.trod enc Tryz.prog w base spare held n 4 (([c0, c1, c2, c3, c4].drop 1).take (Tryz.prog.cellsOf 4)) = xs[1]? := hf 1 _ rfl
    rw [k1] at f1
    have f1 : DataW.trod enc Tryz.prog w base spare held n 4 [c1] = xs[1]? := f1
    have f2 : DataW.trod enc Tryz.prog w base spare held n 9 (([c0, c1, c2, c3, c4].drop 2).take (Tryz.prog.cellsOf 9)) = xs[2]? := hf 2 _ rfl
    rw [k2] at f2
    have f2 : DataW.trod enc Tryz.prog w base spare held n 9 [c2] = xs[2]? := f2
    have f3 : DataW.trod enc Tryz.prog w base spare held n 37 (([c0, c1, c2, c3, c4].drop 3).take (Tryz.prog.cellsOf 37)) = xs[3]? := hf 3 _ rfl
    rw [k3] at f3
    have f3 : DataW.trod enc Tryz.prog w base spare held n 37 [c3] = xs[3]? := f3
    have f4 : DataW.trod enc Tryz.prog w base spare held n 38 (([c0, c1, c2, c3, c4].drop 4).take (Tryz.prog.cellsOf 38)) = xs[4]? := hf 4 _ rfl
    rw [k4] at f4
    have f4 : DataW.trod enc Tryz.prog w base spare held n 38 [c4] = xs[4]? := f4
    have hlen : xs.length = 5 := hlen
    match xs, hlen with
    | [y0, y1, y2, y3, y4], _ =>
    simp only [List.getElem?_cons_zero, List.getElem?_cons_succ] at f0 f1 f2 f3 f4
    obtain ⟨a0, h0, _, _⟩ := DataW.trod_int Tryz.underlying36 f0
    obtain ⟨a1, h1, _⟩ := DataW.trod_bool Tryz.underlying4 f1
    obtain ⟨a2, h2, _, w2⟩ := DataW.trod_string Tryz.underlying9 f2
    obtain ⟨T4, ks, h4, l4, b4⟩ := open_texts Tryz.underlying38 Tryz.underlying9 k2 f4
    obtain ⟨p, m, c, T3, m3, f, D, Pl, rfl, h3, hel, hd⟩ := open_rows (k := 5) Tryz.underlying37 (by kernel_rfl) (by omega) f3
    have l3 := open_len Tryz.underlying37 f3
    cases h0; cases h1; cases h2
    have hd3 : SizeOf.sizeOf y3.1 < SizeOf.sizeOf d := by
      have : d = .agg [y0.1, y1.1, y2.1, y3.1, y4.1] := by cases hx; rfl
      rw [this]
      simp
      omega
    have each : ∀ i, i < m → ∃ v : JV, VRep w v (f i) := fun i hi => by
      refine open_val N m3 (f i) (D i) (Pl i) ?_ (hel i hi).2
      rcases hd with ⟨e, _⟩ | ⟨rest, e⟩
      · omega
      · have hmem : D i ∈ (List.range m).map D := List.mem_map.2 ⟨i, List.mem_range.2 hi, rfl⟩
        have h1 := List.sizeOf_lt_of_mem hmem
        rw [e] at hd3
        simp at hd3
        omega
    obtain ⟨X, hX⟩ := choose_lt each
    have hreps : VReps w ((List.range m).map X) ((List.range m).map f).flatten := vreps_map _ fun i hi => hX i (List.mem_range.1 hi)
    have ea : (Value.string a2) = str a2.data.toList := by simp [ofL]
    rw [ea]
    refine ⟨.mk a0 a1 a2.data.toList ((List.range m).map X) ks, VRep.mk (v := .mk a0 a1 a2.data.toList ((List.range m).map X) ks) (by simpa [JV.xs] using h3) hreps h4 ⟨by simpa [JV.xs] using l3, l4, ?_, b4⟩⟩
    unfold maxLen at w2
    simpa [JV.t] using w2
end
end Go.Proofs.YtnoepcndjljolaaGreatDoor
namespace Go.Proofs.YtnoepcndjljolaaGreatDoor
open Go.RowKit Go.Eng
set_option maxRecDepth 100000
theorem tab_reads {P : Program} {w : World} {name : String} {k : IntKind} {zs : List Int} {g : Nat} {t e : TypeId} {n : Nat} (hg : P.globalNamed name = some g) (hty : (P.globals[g]?).map (·.type) = some t) (ht : P.underlying t = some (.array n e)) (he : P.underlying e = some (.int k)) (hce : P.cellsOf e = 1) (hct : P.cellsOf t = n)
    (h : Lib.VarReads P w name (Lib.tabData k zs)) : Lib.TabIs P w name k zs := by
  obtain ⟨g', t', cs, fuel, p, hg', ht', hvar, hd⟩ := h
  obtain rfl := Option.some.inj (hg.symm.trans hg')
  obtain rfl := Option.some.inj (hty.symm.trans ht')
  unfold Lib.TabIs
  rw [hvar, ← Lib.cells_of_tab ht he hce hct hd]
def bruTab : List Int := [0, 1, 56, 2, 57, 49, 28, 3, 61, 58, 42, 50, 38, 29, 17, 4, 62, 47, 59, 36, 45, 43, 51, 22, 53, 39, 33, 30, 24, 18, 12, 5, 63, 55, 48, 27, 60, 41, 37, 16, 46, 35, 44, 21, 52, 32, 23, 11, 54, 26, 40, 15, 34, 20, 31, 10, 25, 14, 19, 9, 13, 8, 7, 6]
theorem tabs_of {w : World} (hL : laidMetH Tryz.prog Rows.stateKeepsRow.laid w) : Tabs w := by
  have h : laidMet Tryz.prog Rows.stateKeepsRow.laid w := by
    rw [Go.MakeChecks.laidMetH_plain _ _ _ (by kernel_rfl)] at hL
    exact hL
  have r : ∀ n d, (n, d) ∈ Rows.stateKeepsRow.laid → Lib.VarReads Tryz.prog w n d := fun n d hm => Lib.laidMet.reads h hm
  have r1 : Lib.VarReads Tryz.prog w "math/bits.deBruijn64tab" (Lib.tabData .u8 bruTab) := r _ _ (.tail _ (.head _))
  have r2 : Lib.VarReads Tryz.prog w "internal/strconv.uint64pow10" (Lib.tabData .u64 Lib.pow10Tab) := r _ _ (.tail _ (.tail _ (.head _)))
  have r3 : Lib.VarReads Tryz.prog w "unicode/utf8.acceptRanges" Lib.acceptData := r _ _ (.tail _ (.tail _ (.tail _ (.head _))))
  have r4 : Lib.VarReads Tryz.prog w "unicode/utf8.first" Lib.firstData := r _ _ (.tail _ (.tail _ (.tail _ (.tail _ (.tail _ (.tail _ (.head _)))))))
  refine ⟨?_, ?_, ?_⟩
  · exact Go.Proofs.utf8Tabs_of_readsT (Go.Proofs.U8Types.of196 Tryz.laysValid) ⟨by kernel_rfl, by kernel_rfl, by kernel_rfl, by kernel_rfl, by kernel_rfl, by kernel_rfl, by kernel_rfl⟩ r4 r3
  · have := tab_reads (g := 7) (t := 261) (e := U8) (n := 64) (by kernel_rfl) (by kernel_rfl) (by kernel_rfl) (by kernel_rfl) (by kernel_rfl) (by kernel_rfl) r1
    exact Lib.TabIs.cell this (by kernel_rfl) 15 (by decide)
  · exact tab_reads (g := 5) (t := 250) (e := U64) (n := 20) (by kernel_rfl) (by kernel_rfl) (by kernel_rfl) (by kernel_rfl) (by kernel_rfl) (by kernel_rfl) r2
section
variable {H : Type} {enc : TypeId × Value → H} {w : World} {base : Nat} {spare : Nat → Bool} {held : Bool}
theorem open_i {v : Value} {d : DataW H} {ps : List MemPlace} {r : Reach} {b0 : Nat} (hval : Value.okWide Tryz.prog w r b0 3 v) (h : DataW.Trod enc Tryz.prog w base spare held 3 v d ps) : ∃ n : Int, v = i64 n ∧ -9223372036854775808 ≤ n ∧ n ≤ 9223372036854775807 := by
  obtain ⟨n, rfl, _, _, hw⟩ := Go.ChangeShapes.open_int Tryz.underlying3 hval h
  refine ⟨n, rfl, ?_⟩
  have e1 : IntKind.i64.min = -9223372036854775808 := by decide
  have e2 : IntKind.i64.max = 9223372036854775807 := by decide
  simp only [Lit.wf, Bool.and_eq_true, decide_eq_true_eq, e1, e2] at hw
  exact hw
end
end Go.Proofs.YtnoepcndjljolaaGreatDoor
namespace Go.Proofs.YtnoepcndjljolaaGreatDoor
open Go.RowKit Go.Eng
set_option maxRecDepth 100000
theorem trod_iface {P : Program} {w : World} {fuel : Nat} {t : TypeId} {cs : List Value} {s : String} {x : DataW Unit} {p : List MemPlace} {m : Array TypeId} (ht : ∃ m, P.underlying t = some (.interface m)) (h : DataW.trod (fun _ => ()) P w 0 (fun _ => true) false fuel t cs = some (.iface s x, p)) : ∃ u v, cs = [.iface u v] := by
  obtain ⟨m, ht⟩ := ht
  cases fuel with
  | zero => cases h
  | succ fuel =>
    unfold DataW.trod at h
    rw [ht] at h
    match cs, h with
    | [], h => cases h
    | [v], h =>
      cases v with
      | iface u v => exact ⟨u, v, rfl⟩
      | _ => cases h
    | a :: b :: r, h => simp at h
theorem tabe_of {w : World} {x : DataW Unit} {s : String} (h : Lib.VarReads Tryz.prog w "strconv.ErrSyntax" (.iface s x)) : TabE w := by
  obtain ⟨g', t', cs, fuel, p, hg', ht', hvar, hd⟩ := h
  have hg : Tryz.prog.globalNamed "strconv.ErrSyntax" = some 2 := by kernel_rfl
  have hty : (Tryz.prog.globals[2]?).map (·.type) = some 103 := by kernel_rfl
  obtain rfl := Option.some.inj (hg.symm.trans hg')
  obtain rfl := Option.some.inj (hty.symm.trans ht')
  obtain ⟨u, v, hcs⟩ := trod_iface (m := #[]) ⟨_, Tryz.underlying103⟩ hd
  have := World.var?_cell hg hvar 0
  refine ⟨u, v, ?_⟩
  rw [this]
  have e : cs = #[.iface u v] := by
    apply Array.ext'
    rw [hcs]
  rw [e]; rfl
theorem tabsj_of {w : World} (hL : laidMetH Tryz.prog Rows.stateKeepsRow.laid w) : TabJ w := by
  have h : laidMet Tryz.prog Rows.stateKeepsRow.laid w := by
    rw [Go.MakeChecks.laidMetH_plain _ _ _ (by kernel_rfl)] at hL
    exact hL
  have r : ∀ n d, (n, d) ∈ Rows.stateKeepsRow.laid → Lib.VarReads Tryz.prog w n d := fun n d hm => Lib.laidMet.reads h hm
  have hT := tabs_of (w := w) hL
  have r5 : Lib.VarReads Tryz.prog w "strconv.ErrSyntax" Rows.laid_strconv_ErrSyntax := r _ _ (.tail _ (.tail _ (.tail _ (.tail _ (.tail _ (.head _))))))
  exact ⟨hT.utf, hT.bru, tabe_of r5⟩
section
variable {H : Type} {enc : TypeId × Value → H} {w : World} {base : Nat} {spare : Nat → Bool} {held : Bool}
end
end Go.Proofs.YtnoepcndjljolaaGreatDoor
namespace Go.Proofs.YtnoepcndjljolaaGreatDoor
open Go Go.RowKit Go.Eng
set_option maxRecDepth 100000
theorem tabr_of {w : World} {x : DataW Unit} {s : String} (h : Lib.VarReads Tryz.prog w "strconv.ErrRange" (.iface s x)) : ∃ T v, w.cell? ⟨3, 0, none⟩ = some (.iface T v) := by
  obtain ⟨g', t', cs, fuel, p, hg', ht', hvar, hd⟩ := h
  have hg : Tryz.prog.globalNamed "strconv.ErrRange" = some 3 := by kernel_rfl
  have hty : (Tryz.prog.globals[3]?).map (·.type) = some 103 := by kernel_rfl
  obtain rfl := Option.some.inj (hg.symm.trans hg')
  obtain rfl := Option.some.inj (hty.symm.trans ht')
  obtain ⟨u, v, hcs⟩ := trod_iface (m := #[]) ⟨_, Tryz.underlying103⟩ hd
  have := World.var?_cell hg hvar 0
  refine ⟨u, v, ?_⟩
  rw [this]
  have e : cs = #[.iface u v] := by
    apply Array.ext'
    rw [hcs]
  rw [e]; rfl
theorem taba_of {w : World} (hL : laidMetH Tryz.prog Rows.stateKeepsRow.laid w) : TabA w := by
  have h : laidMet Tryz.prog Rows.stateKeepsRow.laid w := by
    rw [Go.MakeChecks.laidMetH_plain _ _ _ (by kernel_rfl)] at hL
    exact hL
  have r : ∀ n d, (n, d) ∈ Rows.stateKeepsRow.laid → Lib.VarReads Tryz.prog w n d := fun n d hm => Lib.laidMet.reads h hm
  have hT := tabs_of (w := w) hL
  have hJ := tabsj_of (w := w) hL
  have r4 : Lib.VarReads Tryz.prog w "strconv.ErrRange" Rows.laid_strconv_ErrRange := r _ _ (.tail _ (.tail _ (.tail _ (.tail _ (.head _)))))
  exact ⟨hT, hJ.err, tabr_of r4⟩
section
variable {H : Type} {enc : TypeId × Value → H} {w : World} {base : Nat} {spare : Nat → Bool} {held : Bool}
end
end Go.Proofs.YtnoepcndjljolaaGreatDoor
namespace Go.Proofs.YtnoepcndjljolaaGreatDoor
open Go Go.RowKit Go.Eng Go.Deep
set_option maxRecDepth 100000
instance : Inhabited RV := ⟨RV.zero⟩
theorem rreps_map {G : Nat → Prop} {w : World} {X : Nat → RV} {f : Nat → List Value} : ∀ (l : List Nat), (∀ i ∈ l, RRepP G w (X i) (f i)) → RRepsP G w (l.map X) (l.map f).flatten
  | [], _ => by simp [RRepsP]
  | i :: l, h => by
    simp only [List.map_cons, List.flatten_cons, RRepsP]
    exact ⟨_, _, rfl, h i List.mem_cons_self, rreps_map l fun j hj => h j (List.mem_cons_of_mem _ hj)⟩
section
variable {H : Type} {enc : TypeId × Value → H} {w : World} {base : Nat} {spare : Nat → Bool} {held : Bool}
end
end Go.Proofs.YtnoepcndjljolaaGreatDoor
namespace Go.Proofs.YtnoepcndjljolaaGreatDoor
open Go Go.RowKit Go.Eng Go.Deep Go.ChangeShapes
set_option maxRecDepth 100000
theorem bulk_mem {H : Type} : ∀ (l : List (DataW H)) (d : DataW H), d ∈ l → Rows.uptoBulk d ≤ Rows.uptoBulkAll l
  | [], d, h => by cases h
  | x :: r, d, h => by
    rcases List.mem_cons.1 h with rfl | h
    · simp only [Rows.uptoBulkAll]; omega
    · have := bulk_mem r d h; simp only [Rows.uptoBulkAll]; omega
theorem bulk_lits {H : Type} : ∀ (l : List Str), (∀ s ∈ l, 0 < s.length) → l.length * 2 ≤ Rows.uptoBulkAll (l.map fun s => (DataW.lit (.string s) : DataW H))
  | [], _ => Nat.zero_le _
  | s :: l, h => by
    have h1 := bulk_lits (H := H) l fun x hx => h x (List.mem_cons_of_mem _ hx)
    have h2 := h s List.mem_cons_self
    simp only [List.map_cons, Rows.uptoBulkAll, Rows.uptoBulk, List.length_cons]
    omega
section
variable {H : Type} {enc : TypeId × Value → H} {w : World} {base : Nat} {spare : Nat → Bool} {held : Bool}
theorem open_textsb {P : Program} {t e : TypeId} {fuel : Nat} {v : Value} {d : DataW H} {ps : List MemPlace} (ht : P.underlying t = some (.slice e)) (he : P.underlying e = some .string) (hk : P.cellsOf e = 1) (h : DataW.trod enc P w base spare held fuel t [v] = some (d, ps)) :
    ∃ (T : TypeId) (l : List Str), SlAt w T v l.length (l.map str) ∧ l.length ≤ 9223372036854775807 ∧ (∀ s ∈ l, s.length ≤ 9223372036854775807) ∧ ((l = [] ∧ d = .nil) ∨ ∃ rest, d = .slice (l.map fun s => DataW.lit (.string s)) rest) := by
  obtain ⟨p, n, c, T, m, f, D, Pl, rfl, hs, hf, hd⟩ := open_rows ht hk (by omega) h
  have hn := open_len ht h
  have hex : ∀ i, i < n → ∃ b : Str, f i = [str b] ∧ b.length ≤ 9223372036854775807 ∧ D i = .lit (.string b) := by
    intro i hi
    obtain ⟨s, hx, hz, hw⟩ := DataW.trod_string he (hf i hi).2
    refine ⟨s.data.toList, by rw [hx]; simp [ofL], ?_, congrArg Prod.fst hz⟩
    unfold maxLen at hw
    simpa using hw
  obtain ⟨g, hg⟩ := choose_lt hex
  have hfl : ((List.range n).map f).flatten = ((List.range n).map g).map str := by
    have : (List.range n).map f = (List.range n).map fun i => [str (g i)] := List.map_congr_left fun i hi => (hg i (List.mem_range.1 hi)).1
    rw [this]
    simp only [List.map_map]
    generalize List.range n = L
    induction L with
    | nil => rfl
    | cons a L ih => simp only [List.map_cons, List.flatten_cons, ih, Function.comp_apply]; rfl
  rw [hfl] at hs
  refine ⟨T, (List.range n).map g, by simpa using hs, by simpa using hn, (fun s hs => ?_), ?_⟩
  · obtain ⟨i, hi, rfl⟩ := List.mem_map.1 hs
    exact (hg i (List.mem_range.1 hi)).2.1
  · rcases hd with ⟨rfl, hd⟩ | ⟨rest, hd⟩
    · exact .inl ⟨rfl, hd⟩
    · refine .inr ⟨rest, ?_⟩
      rw [hd, List.map_map]
      congr 1
      exact List.map_congr_left fun i hi => (hg i (List.mem_range.1 hi)).2.2
theorem open_recb {fuel : Nat} {cs : List Value} {d : DataW H} {ps : List MemPlace} (h : DataW.trod enc Tryz.prog w base spare held fuel RT cs = some (d, ps)) (hw : Rows.uptoBulk d ≤ 1048576) :
    ∃ r : RV, RRepP (fun k => k < w.heap.size) w r cs ∧ ((∀ s ∈ r.deps, 0 < s.length) → r.deps.length ≤ 1000000) := by
  obtain ⟨xs, n, hn, hx, hl, hlen, hf⟩ := DataW.trod_struct Tryz.underlying42 h
  have hl9 : cs.length = 9 := hl.trans (show Tryz.prog.cellsOf RT = 9 by kernel_rfl)
  have k1 : Tryz.prog.cellsOf 9 = 1 := by kernel_rfl
  have k5 : Tryz.prog.cellsOf VT = 5 := by kernel_rfl
  have k0 : Tryz.prog.cellsOf 38 = 1 := by kernel_rfl
  match cs, hl9 with
  | [c0, c1, c2, c3, c4, c5, c6, c7, c8], _ =>
  have f0 : DataW.trod enc Tryz.prog w base spare held n 9 (([c0, c1, c2, c3, c4, c5, c6, c7, c8].drop 0).take (Tryz.prog.cellsOf 9)) = xs[0]? := hf 0 _ rfl
  rw [k1] at f0
  have f0 : DataW.trod enc Tryz.prog w base spare held n 9 [c0] = xs[0]? := f0
  have f1 : DataW.trod enc Tryz.prog w base spare held n 9 (([c0, c1, c2, c3, c4, c5, c6, c7, c8].drop 1).take (Tryz.prog.cellsOf 9)) = xs[1]? := hf 1 _ rfl
  rw [k1] at f1
  have f1 : DataW.trod enc Tryz.prog w base spare held n 9 [c1] = xs[1]? := f1
  have f2 : DataW.trod enc Tryz.prog w base spare held n 9 (([c0, c1, c2, c3, c4, c5, c6, c7, c8].drop 2).take (Tryz.prog.cellsOf 9)) = xs[2]? := hf 2 _ rfl
  rw [k1] at f2
  have f2 : DataW.trod enc Tryz.prog w base spare held n 9 [c2] = xs[2]? := f2
  have f3 : DataW.trod enc Tryz.prog w base spare held n VT (([c0, c1, c2, c3, c4, c5, c6, c7, c8].drop 3).take (Tryz.prog.cellsOf VT)) = xs[3]? := hf 3 _ rfl
  rw [k5] at f3
  have f3 : DataW.trod enc Tryz.prog w base spare held n VT [c3, c4, c5, c6, c7] = xs[3]? := f3
  have f4 : DataW.trod enc Tryz.prog w base spare held n 38 (([c0, c1, c2, c3, c4, c5, c6, c7, c8].drop 8).take (Tryz.prog.cellsOf 38)) = xs[4]? := hf 4 _ rfl
  rw [k0] at f4
  have f4 : DataW.trod enc Tryz.prog w base spare held n 38 [c8] = xs[4]? := f4
  have hlen : xs.length = 5 := hlen
  match xs, hlen with
  | [y0, y1, y2, y3, y4], _ =>
  simp only [List.getElem?_cons_zero, List.getElem?_cons_succ] at f0 f1 f2 f3 f4
  obtain ⟨a0, h0, z0, w0⟩ := DataW.trod_string Tryz.underlying9 f0
  obtain ⟨a1, h1, z1, w1⟩ := DataW.trod_string Tryz.underlying9 f1
  obtain ⟨a2, h2, z2, w2⟩ := DataW.trod_string Tryz.underlying9 f2
  obtain ⟨v, hv⟩ := open_val _ n _ y3.1 y3.2 (Nat.lt_succ_self _) f3
  obtain ⟨T4, ks, h4, l4, b4, d4⟩ := open_textsb Tryz.underlying38 Tryz.underlying9 k1 f4
  cases h0; cases h1; cases h2
  unfold maxLen at w0 w1 w2
  have ea : ∀ a : ByteArray, (Value.string a) = str a.data.toList := fun a => by simp [ofL]
  refine ⟨⟨a0.data.toList, a1.data.toList, a2.data.toList, v, ks⟩, ⟨_, c8, T4, by rw [ea a0, ea a1, ea a2]; rfl, vrep_lt hv, h4, slat_lt h4, ⟨by simpa using w0, by simpa using w1, by simpa using w2, l4, b4⟩⟩, fun hpos => ?_⟩
  show ks.length ≤ 1000000
  have ed : d = .agg [y0.1, y1.1, y2.1, y3.1, y4.1] := by cases hx; rfl
  rw [ed] at hw
  rcases d4 with ⟨rfl, _⟩ | ⟨rest, e4⟩
  · simp
  have h2 := bulk_lits (H := H) ks hpos
  have h3 := bulk_mem [y0.1, y1.1, y2.1, y3.1, y4.1] y4.1 (by simp)
  rw [e4] at h3
  rw [e4] at hw
  simp only [Rows.uptoBulk] at hw h3
  omega
theorem open_stb {v : Value} {d : DataW H} {ps : List MemPlace} {r : Reach} {b0 : Nat} (hval : Value.okWide Tryz.prog w r b0 StaT v) (h : DataW.Trod enc Tryz.prog w base spare held StaT v d ps) (hw : Rows.uptoBulk d ≤ 1048576) :
    ∃ (ser : Int) (l : List RV) (cs : List Value), v = .agg cs.toArray ∧ StRepP (fun k => k < w.heap.size) w ser l cs ∧ l.length ≤ 9223372036854775807 ∧ ∀ x ∈ l, (∀ s ∈ x.deps, 0 < s.length) → x.deps.length ≤ 1000000 := by
  obtain ⟨fuel, h⟩ := h
  obtain ⟨xs, n, hn, hx, hl, hlen, hf⟩ := DataW.trod_struct Tryz.underlying24 h
  have hl2 : v.cells.toList.length = 2 := hl.trans (show Tryz.prog.cellsOf StaT = 2 by kernel_rfl)
  have k1 : Tryz.prog.cellsOf 3 = 1 := by kernel_rfl
  have k2 : Tryz.prog.cellsOf 22 = 1 := by kernel_rfl
  have k9 : Tryz.prog.cellsOf RT = 9 := by kernel_rfl
  cases v with
  | agg arr =>
    obtain ⟨cs⟩ := arr
    simp only [Value.cells] at hl2 hf
    match cs, hl2 with
    | [c0, c1], _ =>
    have f0 : DataW.trod enc Tryz.prog w base spare held n 3 (([c0, c1].drop 0).take (Tryz.prog.cellsOf 3)) = xs[0]? := hf 0 _ rfl
    rw [k1] at f0
    have f0 : DataW.trod enc Tryz.prog w base spare held n 3 [c0] = xs[0]? := f0
    have f1 : DataW.trod enc Tryz.prog w base spare held n 22 (([c0, c1].drop 1).take (Tryz.prog.cellsOf 22)) = xs[1]? := hf 1 _ rfl
    rw [k2] at f1
    have f1 : DataW.trod enc Tryz.prog w base spare held n 22 [c1] = xs[1]? := f1
    have hlen : xs.length = 2 := hlen
    match xs, hlen with
    | [y0, y1], _ =>
    simp only [List.getElem?_cons_zero, List.getElem?_cons_succ] at f0 f1
    obtain ⟨a0, h0, z0, w0⟩ := DataW.trod_int Tryz.underlying3 f0
    obtain ⟨p, m, c, T3, m3, f, D, Pl, rfl, h3, hel, hd⟩ := open_rows (k := 9) Tryz.underlying22 k9 (by omega) f1
    have l3 := open_len Tryz.underlying22 f1
    cases h0
    have ed : d = .agg [y0.1, y1.1] := by cases hx; rfl
    rw [ed] at hw
    have each : ∀ i, i < m → ∃ r : RV, RRepP (fun k => k < w.heap.size) w r (f i) ∧ ((∀ s ∈ r.deps, 0 < s.length) → r.deps.length ≤ 1000000) := fun i hi => by
      refine open_recb (hel i hi).2 ?_
      rcases hd with ⟨e, _⟩ | ⟨rest, e⟩
      · omega
      · have hmem : D i ∈ (List.range m).map D := List.mem_map.2 ⟨i, List.mem_range.2 hi, rfl⟩
        have h1 := bulk_mem _ _ hmem
        have h2 := bulk_mem [y0.1, y1.1] y1.1 (by simp)
        rw [e] at h2 hw
        simp only [Rows.uptoBulk] at h2 hw
        omega
    obtain ⟨X, hX⟩ := choose_lt each
    have hreps : RRepsP (fun k => k < w.heap.size) w ((List.range m).map X) ((List.range m).map f).flatten := rreps_map _ fun i hi => (hX i (List.mem_range.1 hi)).1
    refine ⟨a0, (List.range m).map X, _, rfl, ⟨_, T3, _, rfl, by simpa using h3, hreps⟩, by simpa using l3, fun x hx => ?_⟩
    obtain ⟨i, hi, rfl⟩ := List.mem_map.1 hx
    exact (hX i (List.mem_range.1 hi)).2
  | _ => simp [Value.cells] at hl2
theorem open_u8 {v : Value} {d : DataW H} {ps : List MemPlace} {r : Reach} {b0 : Nat} (hval : Value.okWide Tryz.prog w r b0 U8 v) (h : DataW.Trod enc Tryz.prog w base spare held U8 v d ps) : ∃ b : UInt8, v = .int .u8 (b.toNat : Nat) := by
  obtain ⟨n, rfl, _, _, hw⟩ := Go.ChangeShapes.open_int Tryz.underlying5 hval h
  have h2 : 0 ≤ n ∧ n ≤ 255 := by simpa [Lit.wf, IntKind.min, IntKind.max, IntKind.signed, IntKind.bits] using hw
  refine ⟨UInt8.ofNat n.toNat, ?_⟩
  have : (UInt8.ofNat n.toNat).toNat = n.toNat := by simp [UInt8.toNat_ofNat']; omega
  rw [this, Int.toNat_of_nonneg h2.1]
end
theorem handed_upto {H : Type} {enc : TypeId × Value → H} {a : Assume} {C : Checked} {os : Os} {f : FuncId} {fn : Func} {s : OpenSpec} {k : (H : Type) → List (DataW H) → Bool} (hk : s.cond = some k) {F : Stop.Interp} {conds : List PathCond} {apart fresh handsOn again : Bool} {X : World → Array Value → Prop}
    (hX : ∀ (w w' : World) (args : Array Value), w.heap = w'.heap → X w args → X w' args)
    (own : ownKnob C.prog.godebug = none) (started : os.Started) (noInit : C.prog.inits.idxOf? f = none) (hfn : C.prog.funcs[f]? = some fn)
    (witness : ∃ (w : World) (tape : Tape) (i : Input), w.os = os ∧ (w.forCall tape i).Shaped C.prog ∧ i.vars = [] ∧ Input.okWide C.prog (w.forCall tape i) .any w.heap.size f i ∧
      ((s.pre enc C.prog fn conds apart (w.forCall tape i).memory i.args ∧ X (w.forCall tape i).memory i.args) ∧ sizedMet enc C.prog fn s apart (w.forCall tape i).memory i.args) ∧ a.holds C.prog (lone (Frame.enter C.prog f i.args .normal) [] (w.forCall tape i)))
    (contract : ∀ (W : World) (base : Nat) (args : Array Value) (ds gs : List (DataW H)) (before : List MemPlace),
      (∀ (j : Nat) t v, fn.params[j]? = some t → args[j]? = some v → Value.okWide C.prog W .any base t v) →
      DataW.Whole enc C.prog fn.params.toList s.vars apart W args.toList ds gs before → k H (ds ++ gs) = true → X W args →
      Calls C.prog f args W fun e W' => ∃ v, e = .returned v ∧ (s.at F).post enc C.prog fn apart fresh handsOn again W args v W') :
    ReturnsInHanded a C os f .any (fun w args => (s.pre enc C.prog fn conds apart w args ∧ X w args) ∧ sizedMet enc C.prog fn s apart w args) ((s.at F).post enc C.prog fn apart fresh handsOn again) := by
  refine returnsInHanded_of_calls own started noInit witness ?_
  intro w tape i _ _ _ hok hpre hholds
  obtain ⟨_, _, _, fn', hfn', _, _, _, _, hval⟩ := hok
  have e : fn' = fn := Option.some.inj (hfn'.symm.trans hfn)
  subst e
  obtain ⟨⟨hp0, hx⟩, hz⟩ := hpre
  obtain ⟨ds, gs, before, hw, _, hkk⟩ := (OpenSpec.pre_some hk conds apart _ _).1 hp0
  have hw' := DataW.Whole.of_heap (w' := w.forCall tape i) (by rfl) hw
  refine (contract (w.forCall tape i) w.heap.size i.args ds gs before hval hw' hkk (hX _ _ _ (by rfl) hx)).mono fun e W' ⟨v, he, hp⟩ => ?_
  subst he
  exact ChangeSpec.post_blind hp
theorem witness_upto {H : Type} {enc : TypeId × Value → H} {C : Checked} {os : Os} {f : FuncId} {fn : Func} {s : OpenSpec} {k : (H : Type) → List (DataW H) → Bool} (hk : s.cond = some k) {apart : Bool} {X : World → Array Value → Prop} (w0 : World) (args : Array Value) (fuel : Nat) (hos : w0.os = os)
    (hv : (w0.forCall (fun _ _ => 0) ⟨#[], args, []⟩).variablesB C.prog = true)
    (hr : ((w0.forCall (fun _ _ => 0) ⟨#[], args, []⟩).heap.toList.drop C.prog.globals.size).take ((begin C.prog (fun _ _ => 0) default).world.heap.size - C.prog.globals.size) =
      (begin C.prog (fun _ _ => 0) default).world.heap.toList.drop C.prog.globals.size)
    (hok : Input.okWideB C.prog (w0.forCall (fun _ _ => 0) ⟨#[], args, []⟩) f ⟨#[], args, []⟩ = true)
    {x : List (DataW H) × List (DataW H) × List MemPlace} (hx : DataW.whole enc C.prog (w0.forCall (fun _ _ => 0) ⟨#[], args, []⟩).memory fn.params.toList s.vars apart args.toList fuel = some x)
    (hkk : k H (x.1 ++ x.2.1) = true)
    (hsz : s.bare.sizedB enc C.prog fn apart (w0.forCall (fun _ _ => 0) ⟨#[], args, []⟩).memory args fuel = true)
    (hxx : X (w0.forCall (fun _ _ => 0) ⟨#[], args, []⟩).memory args) :
    ∃ (w : World) (tape : Tape) (i : Input), w.os = os ∧ (w.forCall tape i).Shaped C.prog ∧ i.vars = [] ∧ Input.okWide C.prog (w.forCall tape i) .any w.heap.size f i ∧
      ((s.pre enc C.prog fn [] apart (w.forCall tape i).memory i.args ∧ X (w.forCall tape i).memory i.args) ∧ sizedMet enc C.prog fn s apart (w.forCall tape i).memory i.args) ∧ ({} : Assume).holds C.prog (lone (Frame.enter C.prog f i.args .normal) [] (w.forCall tape i)) :=
  ⟨w0, fun _ _ => 0, ⟨#[], args, []⟩, hos, World.shaped_of_B hv hr, (Input.okWide_of_okWideB (base := 0) hok).1, (Input.okWide_of_okWideB hok).2,
    ⟨⟨(OpenSpec.pre_some hk [] apart _ _).2 ⟨x.1, x.2.1, x.2.2, DataW.Whole_of_whole hx, rfl, hkk⟩, hxx⟩, sizedMet_of_sizedB hsz⟩, by
    simp only [Assume.holds]
    exact ⟨by simp, by simp, fun _ => Modest.zero, by simp, by simp⟩⟩
end Go.Proofs.YtnoepcndjljolaaGreatDoor
