/- One plain sentence: weakest preconditions, contracts and plain laws that the claim rests on, text behind text. Conditions: those that each states. -/
import Derived.Test.YtnoepcndjljolaaGreatDoorMZ4
import Derived.Test.YtnoepcndjljolaaGreatDoorMZ1
import Derived.Test.YtnoepcndjljolaaGreatDoorMZ3
import Derived.Test.YtnoepcndjljolaaGreatDoorMZ2
import Derived.Lib.ItoaNum
import Derived.Lib.Atoi
import Derived.Lib.AtoiBound
import Derived.Lib.AtoiAll
import Derived.ArgAppend
import Derived.Lib.SlBytesConst
import Derived.Deep.Slices
import Derived.DataReads
import Derived.ChangeArms
import Derived.OpenShut
import Derived.Test.YtnoepcndjljolaaGreatDoorRows
import Derived.Below
import Derived.RowKit
import Derived.ChangeMaps5
import Derived.MakeChecks
import Derived.Lib.LaidU8T
import Derived.Lib.LaidTab
set_option linter.all false
set_option linter.unusedSimpArgs false
set_option linter.unusedVariables false
set_option linter.unusedSectionVars false
namespace Go.Proofs.YtnoepcndjljolaaGreatDoor
open Go Go.Eng Go.Num
set_option maxRecDepth 100000
theorem VRepsP.get {G : Nat → Prop} {w : World} : ∀ {xs : List JV} {L : List Value} {i : Nat} {x : JV}, VRepsP G w xs L → xs[i]? = some x → ∃ cs, VRepP G w x cs ∧ ∀ j, j < 5 → L[i * 5 + j]? = cs[j]?
  | [], _, _, _, _, h => by simp at h
  | y :: xs, L, 0, x, h, hx => by
    simp only [List.getElem?_cons_zero, Option.some.injEq] at hx
    subst hx
    simp only [VRepsP] at h
    obtain ⟨c, r, rfl, hc, hr⟩ := h
    refine ⟨c, hc, fun j hj => ?_⟩
    rw [Nat.zero_mul, Nat.zero_add, List.getElem?_append_left (by rw [hc.rep.len]; exact hj)]
  | y :: xs, L, i + 1, x, h, hx => by
    simp only [List.getElem?_cons_succ] at hx
    simp only [VRepsP] at h
    obtain ⟨c, r, rfl, hc, hr⟩ := h
    obtain ⟨cs, h1, h2⟩ := VRepsP.get hr hx
    refine ⟨cs, h1, fun j hj => ?_⟩
    rw [List.getElem?_append_right (by rw [hc.rep.len]; omega), hc.rep.len, ← h2 j hj]
    congr 1; omega
theorem VRepP.out {G : Nat → Prop} {w : World} {v : JV} {cs : List Value} (h : VRepP G w v cs) : ∃ sv kv T1 T2 L, cs = [i64 v.k, .bool v.b, str v.t, sv, kv] ∧ SlAt w T1 sv v.xs.length L ∧ VRepsP G w v.xs L ∧ SlAt w T2 kv v.ks.length (v.ks.map str) ∧ Fits v.xs.length v.ks v.t ∧ (L ≠ [] → inG G sv) ∧ (v.ks.map str ≠ [] → inG G kv) := by
  cases v with
  | mk k b t xs ks => simpa only [VRepP, JV.k, JV.b, JV.t, JV.xs, JV.ks] using h
structure ValIP (G : Nat → Prop) (w : World) (v : JV) (sv kv : Value) : Prop where
  items : ∃ T L, SlAt w T sv v.xs.length L ∧ VRepsP G w v.xs L ∧ (L ≠ [] → inG G sv)
  keys : ∃ T, SlAt w T kv v.ks.length (v.ks.map str)
  fits : Fits v.xs.length v.ks v.t
  kin : v.ks.map str ≠ [] → inG G kv
theorem ValIP.rep {G : Nat → Prop} {w : World} {v : JV} {sv kv : Value} (h : ValIP G w v sv kv) : VRepP G w v [i64 v.k, .bool v.b, str v.t, sv, kv] := by
  obtain ⟨T, L, h1, h2, h3⟩ := h.items
  obtain ⟨T', h4⟩ := h.keys
  exact VRepP.mk h1 h2 h4 h.fits h3 h.kin
theorem ValIP.item_old {G : Nat → Prop} {w0 w : World} {v : JV} {sv kv : Value} {k : IntKind} {i : Nat} {x : JV} {K : Value → Prop} (h : ValIP G w0 v sv kv) (hx : Ext w0 w) (hi : v.xs[i]? = some x) (hK : ∀ cs, VRepP G w0 x cs → K (.agg cs.toArray)) : ixaW none 5 sv (.int k i) fun p => ldW true 5 p w K := by
  obtain ⟨T, L, h1, h2, _⟩ := h.items
  obtain ⟨cs, hc, hg⟩ := h2.get hi
  refine ixa_at (size := 5) (h1.ext hx) h2.len (by omega) (List.getElem?_eq_some_iff.1 hi).1 fun b o c fr hb hcc => ?_
  exact ld_cells hb hc.rep.len (fun j hj => (hcc j hj).trans (hg j hj)) (hK cs hc)
section
variable [HX]
structure GrowP (GG : Nat → Prop) (w0 w : World) (b base : Nat) (sv0 kv0 sv kv : Value) (xs : List JV) (ks : List Str) : Prop where
  ext : Ext w0 w
  hb : w.heap[b]? = some (.cells [i64 6, .bool false, str [], sv0, kv0].toArray VT (0, 0))
  low : w0.heap.size ≤ b
  lt : b < base
  le : base ≤ w.heap.size
  items : ∃ L, Own w base VT 5 sv xs.length L ∧ VRepsP GG w0 xs L
  keys : Own w base ST 1 kv ks.length (ks.map str)
theorem GrowP.more {GG : Nat → Prop} {w0 w w' : World} {b base : Nat} {sv0 kv0 sv kv : Value} {xs : List JV} {ks : List Str} (h : GrowP GG w0 w b base sv0 kv0 sv kv xs ks) (hx : Ext w w') : GrowP GG w0 w' b base sv0 kv0 sv kv xs ks :=
  ⟨h.ext.trans hx, hx.at h.hb id, h.low, h.lt, Nat.le_trans h.le hx.size, let ⟨L, h1, h2⟩ := h.items; ⟨L, h1.ext hx, h2⟩, h.keys.ext hx⟩
theorem GrowP.chg {GG : Nat → Prop} {w0 w w' : World} {b b' base : Nat} {sv0 kv0 sv kv : Value} {xs : List JV} {ks : List Str} (h : GrowP GG w0 w b base sv0 kv0 sv kv xs ks) (hc : Chg (fun k => k = b') w w') (h1 : b' ≠ b) (h2 : b' < base) (h3 : w0.heap.size ≤ b') : GrowP GG w0 w' b base sv0 kv0 sv kv xs ks :=
  ⟨h.ext.new hc h3, hc.at h.hb (fun e => h1 e.symm), h.low, h.lt, Nat.le_trans h.le hc.size, let ⟨L, g1, g2⟩ := h.items; ⟨L, g1.chg hc fun k hk e => by have := hk.1; omega, g2⟩, h.keys.chg hc fun k hk e => by have := hk.1; omega⟩
theorem GrowP.set {GG : Nat → Prop} {w0 w : World} {b base off : Nat} {sv0 kv0 sv kv v sv1 kv1 : Value} {xs : List JV} {ks : List Str} {K : World → Prop} (h : GrowP GG w0 w b base sv0 kv0 sv kv xs ks) (h1 : one1 v = true) (ho : off < 5)
    (he : ([i64 6, .bool false, str [], sv0, kv0] : List Value).set off v = [i64 6, .bool false, str [], sv1, kv1]) (hK : ∀ w', GrowP GG w0 w' b base sv1 kv1 sv kv xs ks → Chg (fun k => k = b) w w' → K w') : stW 1 (.pointer (some ⟨b, off, none⟩)) v w K := by
  refine st_at h.hb h1 (by simpa using ho) fun w' hz hb' hc => ?_
  refine hK w' ⟨h.ext.new hc h.low, ?_, h.low, h.lt, by rw [hz]; exact h.le, ?_, h.keys.chg hc fun k hk e => ?_⟩ hc
  · rw [hb', ← he]; simp
  · obtain ⟨L, h1, h2⟩ := h.items
    exact ⟨L, h1.chg hc fun k hk e => by have := hk.1; have := h.lt; omega, h2⟩
  · have := hk.1; have := h.lt; omega
theorem GrowP.one {GG : Nat → Prop} {w0 w : World} {b base : Nat} {sv0 kv0 sv kv : Value} {xs : List JV} {ks : List Str} (h : GrowP GG w0 w b base sv0 kv0 sv kv xs ks) : one1 sv = true ∧ one1 kv = true := by
  obtain ⟨L, h1, _⟩ := h.items
  obtain ⟨p, c, rfl, _⟩ := h1.sl.shape
  obtain ⟨p', c', rfl, _⟩ := h.keys.sl.shape
  exact ⟨rfl, rfl⟩
structure OwnVP (GG : Nat → Prop) (w0 w : World) (base : Nat) (v : JV) (sv kv : Value) : Prop where
  items : ∃ L, Own w base VT 5 sv v.xs.length L ∧ VRepsP GG w0 v.xs L
  keys : Own w base ST 1 kv v.ks.length (v.ks.map str)
  fits : Fits v.xs.length v.ks v.t
theorem OwnVP.chg {GG : Nat → Prop} {w0 w w' : World} {base : Nat} {v : JV} {sv kv : Value} {S : Nat → Prop} (h : OwnVP GG w0 w base v sv kv) (hc : Chg S w w') (hS : ∀ k, base ≤ k → k < w.heap.size → ¬ S k) : OwnVP GG w0 w' base v sv kv :=
  ⟨let ⟨L, h1, h2⟩ := h.items; ⟨L, h1.chg hc fun k hk => hS k hk.1 (by obtain ⟨_, c, hk⟩ := hk; exact at_lt hk), h2⟩, h.keys.chg hc fun k hk => hS k hk.1 (by obtain ⟨_, c, hk⟩ := hk; exact at_lt hk), h.fits⟩
theorem OwnVP.one {GG : Nat → Prop} {w0 w : World} {base : Nat} {v : JV} {sv kv : Value} (h : OwnVP GG w0 w base v sv kv) : one1 sv = true ∧ one1 kv = true := by
  obtain ⟨L, h1, _⟩ := h.items
  obtain ⟨p, c, rfl, _⟩ := h1.sl.shape
  obtain ⟨p', c', rfl, _⟩ := h.keys.sl.shape
  exact ⟨rfl, rfl⟩
theorem GrowP.own {GG : Nat → Prop} {w0 w : World} {b base : Nat} {sv kv : Value} {l : List (Str × JV)} (h : GrowP GG w0 w b base sv kv sv kv (l.map (·.2)) (l.map (·.1))) (hl : l.length ≤ 1000000) (hk : ∀ p ∈ l, p.1.length ≤ 9223372036854775807) : OwnVP GG w0 w base (mkO l) sv kv := by
  refine ⟨h.items, h.keys, ?_, ?_, ?_, ?_⟩
  · simp only [mkO, JV.xs, List.length_map]; omega
  · simp only [mkO, JV.ks, List.length_map]; omega
  · simp [mkO, JV.t]
  · intro s hs
    simp only [mkO, JV.ks, List.mem_map] at hs
    obtain ⟨p, hp, rfl⟩ := hs
    exact hk p hp
theorem OwnVP.item_old {GG : Nat → Prop} {w0 w : World} {base : Nat} {v : JV} {sv kv : Value} {k : IntKind} {i : Nat} {x : JV} {K : Value → Prop} (h : OwnVP GG w0 w base v sv kv) (hi : v.xs[i]? = some x) (hK : ∀ cs, VRepP GG w0 x cs → K (.agg cs.toArray)) : ixaW none 5 sv (.int k i) fun p => ldW true 5 p w K := by
  obtain ⟨L, h1, h2⟩ := h.items
  obtain ⟨cs, hc, hg⟩ := h2.get hi
  refine ixa_at (size := 5) h1.sl h2.len (by omega) (List.getElem?_eq_some_iff.1 hi).1 fun b o c fr hb hcc => ?_
  exact ld_cells hb hc.rep.len (fun j hj => (hcc j hj).trans (hg j hj)) (hK cs hc)
end
end Go.Proofs.YtnoepcndjljolaaGreatDoor
namespace Go.Proofs.YtnoepcndjljolaaGreatDoor
open Go Go.Eng Go.RowKit
set_option maxRecDepth 100000
def OutR (s : Str) (r : RR JV) (w : World) (v : Value) (w' : World) : Prop :=
  Ext w w' ∧ ∃ x cs j c e a, v = .tuple #[.agg (SS s j c e a).toArray, .agg cs.toArray] ∧ VRepP (From w.heap.size) w' x cs ∧ j ≤ s.length ∧ ((e = 0 ∧ a = 0 ∧ r = .ok x j c) ∨ (e ≠ 0 ∧ ∃ k : Nat, a = (k : Int) ∧ r = .bad e k))
theorem OutR.bad {s : Str} {r : RR JV} {w w' : World} {x : JV} {cs : List Value} {j c k : Nat} {e : Int} (hr : r = .bad e k) (he : e ≠ 0) (hx : Ext w w') (h : VRepP (From w.heap.size) w' x cs) (hj : j ≤ s.length) : OutR s r w (.tuple #[.agg (SS s j c e (k : Nat)).toArray, .agg cs.toArray]) w' :=
  ⟨hx, x, cs, j, c, e, k, rfl, h, hj, .inr ⟨he, k, rfl, hr⟩⟩
section
variable [HX]
end
end Go.Proofs.YtnoepcndjljolaaGreatDoor




namespace Go.Proofs.YtnoepcndjljolaaGreatDoor
open Go Go.Eng Go.Num Go.RowKit
set_option maxRecDepth 100000
abbrev RT : TypeId := 42
abbrev StaT : TypeId := 24
def sameR (a b : RV) : Bool := decide (a.addr = b.addr) && decide (a.typ = b.typ) && decide (a.id = b.id) && sameM a.attrs b.attrs && decide (a.deps = b.deps)
theorem sameR_iff (a b : RV) : sameR a b = true ↔ a = b := by
  unfold sameR
  cases a; cases b
  simp only [Bool.and_eq_true, decide_eq_true_eq, same_iff, RV.mk.injEq]
  constructor
  · rintro ⟨⟨⟨⟨h1, h2⟩, h3⟩, h4⟩, h5⟩; exact ⟨h1, h2, h3, h4, h5⟩
  · rintro ⟨h1, h2, h3, h4, h5⟩; exact ⟨⟨⟨⟨h1, h2⟩, h3⟩, h4⟩, h5⟩
def nm15M (s : Str) : Bool := decide (0 < s.length) && decide (s.length ≤ 16384) && utfM s
structure StB (G : Nat → Prop) (w : World) (p : Nat) (ser : Int) (l : List RV) (sv : Value) : Prop where
  hb : w.heap[p]? = some (.cells [i64 ser, sv].toArray StaT (0, 0))
  sl : ∃ T L, SlAt w T sv l.length L ∧ RRepsP G w l L
def StRepP (G : Nat → Prop) (w : World) (ser : Int) (l : List RV) (cs : List Value) : Prop := ∃ sv T L, cs = [i64 ser, sv] ∧ SlAt w T sv l.length L ∧ RRepsP G w l L
theorem StRepP.ext {G : Nat → Prop} {w w' : World} {ser : Int} {l : List RV} {cs : List Value} (h : StRepP G w ser l cs) (hx : Ext w w') : StRepP G w' ser l cs := by
  obtain ⟨sv, T, L, e, h1, h2⟩ := h
  exact ⟨sv, T, L, e, h1.ext hx, h2.ext hx⟩
theorem StRepP.low {G : Nat → Prop} {w : World} {ser : Int} {l : List RV} {cs : List Value} (h : StRepP G w ser l cs) : StRepP (fun k => G k ∧ k < w.heap.size) w ser l cs := by
  obtain ⟨sv, T, L, e, h1, h2⟩ := h
  exact ⟨sv, T, L, e, h1, h2.mono fun k hlt hg => ⟨hg, hlt⟩⟩
theorem StRepP.len {G : Nat → Prop} {w : World} {ser : Int} {l : List RV} {cs : List Value} (h : StRepP G w ser l cs) : cs.length = 2 := by obtain ⟨sv, T, L, rfl, _⟩ := h; rfl
theorem StRepP.one {G : Nat → Prop} {w : World} {ser : Int} {l : List RV} {cs : List Value} (h : StRepP G w ser l cs) : cs.all one1 = true := by
  obtain ⟨sv, T, L, rfl, h1, _⟩ := h
  obtain ⟨p, c, rfl, _⟩ := h1.shape
  rfl
theorem StB.ext {G : Nat → Prop} {w w' : World} {p : Nat} {ser : Int} {l : List RV} {sv : Value} (h : StB G w p ser l sv) (hx : Ext w w') : StB G w' p ser l sv := ⟨hx.at h.hb id, let ⟨T, L, h1, h2⟩ := h.sl; ⟨T, L, h1.ext hx, h2.ext hx⟩⟩
theorem StB.rep {G : Nat → Prop} {w : World} {p : Nat} {ser : Int} {l : List RV} {sv : Value} (h : StB G w p ser l sv) : StRepP G w ser l [i64 ser, sv] := let ⟨T, L, h1, h2⟩ := h.sl; ⟨sv, T, L, rfl, h1, h2⟩
theorem StB.all {G : Nat → Prop} {w : World} {p : Nat} {ser : Int} {l : List RV} {sv : Value} {K : Value → Prop} (h : StB G w p ser l sv) (hk : K (.agg [i64 ser, sv].toArray)) : ldW true 2 (.pointer (some ⟨p, 0, none⟩)) w K := ld_all h.hb rfl hk
theorem StB.ser {G : Nat → Prop} {w : World} {p : Nat} {ser : Int} {l : List RV} {sv : Value} {K : Value → Prop} (h : StB G w p ser l sv) (hk : K (i64 ser)) : ldW false 1 (.pointer (some ((⟨p, 0, none⟩ : Addr).add 0))) w K := by
  rw [ld_one]
  exact ⟨i64 ser, by rw [add_mk, cell_eq, h.hb, cellO_some]; rfl, hk⟩
theorem StB.recs {G : Nat → Prop} {w : World} {p : Nat} {ser : Int} {l : List RV} {sv : Value} {K : Value → Prop} (h : StB G w p ser l sv) (hk : K sv) : ldW false 1 (.pointer (some ((⟨p, 0, none⟩ : Addr).add 1))) w K := by
  rw [ld_one]
  exact ⟨sv, by rw [add_mk, cell_eq, h.hb, cellO_some]; rfl, hk⟩
theorem StB.len {G : Nat → Prop} {w : World} {p : Nat} {ser : Int} {l : List RV} {sv : Value} (h : StB G w p ser l sv) (K : Value → Prop) : lenlW sv K ↔ K (i64 (l.length : Nat)) := by obtain ⟨T, L, h1, _⟩ := h.sl; exact lenl_at h1 K
theorem box_st {G : Nat → Prop} {w : World} {ser : Int} {l : List RV} {cs : List Value} {K : Value → World → Prop} (h : StRepP G w ser l cs) (hK : ∀ p w' sv, cs = [i64 ser, sv] → StB G w' p ser l sv → Ext w w' → p = w.heap.size → K (.pointer (some ⟨p, 0, none⟩)) w') : boxW StaT (.agg cs.toArray) w K := by
  obtain ⟨sv, T, L, rfl, h1, h2⟩ := h
  exact box_new fun p w' hp hz hb hx => hK p w' sv rfl ⟨hb, T, L, h1.ext hx, h2.ext hx⟩ hx hp
section
variable [HX]
theorem rec15_ref {G G' : Nat → Prop} {a b : RV} {cs ds : List Value} {w : World} {K : Value → World → Prop} (h : RRepP G w a cs) (h' : RRepP G' w b ds) (hK : ∀ w', Ext w w' → K (.bool (sameR a b)) w') :
    callF Tryz.prog 31 [.agg cs.toArray, .agg ds.toArray] w K := by
  refine W31_ok ?_
  unfold W31
  refine box_r h fun p w1 vcs dv e1 hA hx1 hp => ?_
  refine box_r (h'.ext hx1) fun q w2 vds ev e2 hB hx2 hq => ?_
  have hA := hA.ext hx2
  simp only [fld_ptr]
  refine hA.ld (off := 0) (v := str a.addr) rfl ?_
  refine hB.ld (off := 0) (v := str b.addr) rfl ?_
  rw [bin_seq]
  simp only [isB_t]
  refine GdW.look (decide (a.typ = b.typ)) (fun _ J hJ => ?_) fun g => ?_
  · refine hA.ld (off := 1) (v := str a.typ) rfl ?_
    refine hB.ld (off := 1) (v := str b.typ) rfl ?_
    rw [bin_seq]; exact hJ
  simp only [List.getD_cons_zero]
  rw [pick_gd_and]
  simp only [isB_t]
  refine GdW.look (decide (a.id = b.id)) (fun _ J hJ => ?_) fun g => ?_
  · refine hA.ld (off := 2) (v := str a.id) rfl ?_
    refine hB.ld (off := 2) (v := str b.id) rfl ?_
    rw [bin_seq]; exact hJ
  simp only [List.getD_cons_zero]
  rw [pick_gd_and]
  simp only [isB_t]
  refine GdW.act (sameM a.attrs b.attrs) (fun w' => Ext w2 w') (fun _ => Chg.refl _ _) (fun _ J hJ => ?_) fun g w9 hx9 => ?_
  · refine hA.attrs ?_
    refine hB.attrs ?_
    exact same_ref _ hA.val.rep hB.val.rep hJ
  simp only [List.getD_cons_zero]
  rw [pick_gd_and]
  simp only [isB_t]
  have hA9 := hA.ext hx9
  have hB9 := hB.ext hx9
  have hd : ∀ (r : RV) (vs : List Value) (d : Value), vs.length = 5 → (rcs r vs d)[8]? = some d := fun r vs d h5 => by
    show (vs ++ [d])[5]? = some d
    rw [List.getElem?_append_right (by omega), h5]
    rfl
  refine GdW.act (decide (a.deps = b.deps)) (fun w' => Ext w9 w') (fun _ => Chg.refl _ _) (fun _ J hJ => ?_) fun g w12 hx12 => ?_
  · refine hA9.ld (hd _ _ _ hA9.val.rep.len) ?_
    refine hB9.ld (hd _ _ _ hB9.val.rep.len) ?_
    obtain ⟨T1, s1⟩ := hA9.sl
    obtain ⟨T2, s2⟩ := hB9.sl
    exact texts_ref s1 s2 hA9.fits.deps hJ
  simp only [List.getD_cons_zero]
  rw [pick_gd_and]
  exact hK w12 (hx1.trans (hx2.trans (hx9.trans hx12)))
theorem sameRec_ref {G G' : Nat → Prop} {a b : RV} {cs ds : List Value} {w : World} {K : Value → World → Prop} (h : RRepP G w a cs) (h' : RRepP G' w b ds) (hK : ∀ w', Ext w w' → K (.bool (sameR a b)) w') :
    callF Tryz.prog 13 [.agg cs.toArray, .agg ds.toArray] w K := by
  refine W13_ok ?_
  unfold W13
  refine box_r h fun p w1 vcs dv e1 hA hx1 hp => ?_
  refine box_r (h'.ext hx1) fun q w2 vds ev e2 hB hx2 hq => ?_
  have hA := hA.ext hx2
  refine hA.all ?_
  refine hB.all ?_
  exact rec15_ref hA.rep hB.rep fun w3 hx3 => hK w3 (hx1.trans (hx2.trans hx3))
theorem few15_p {G : Nat → Prop} {ser : Int} {l : List RV} {cs : List Value} {w : World} {K : Value → World → Prop} (h : StRepP G w ser l cs) (hK : ∀ w', Ext w w' → K (.bool (decide (l.length ≤ 200))) w') : callF Tryz.prog 7 [.agg cs.toArray] w K := by
  refine W7_ok ?_
  unfold W7
  refine box_st h fun p w1 sv e hA hx1 hp => ?_
  simp only [fld_ptr]
  refine hA.recs ?_
  rw [hA.len, bin_leq, decide_eq_decide.2 (show ((l.length : Nat) : Int) ≤ 200 ↔ l.length ≤ 200 by omega)]
  exact hK w1 hx1
end
end Go.Proofs.YtnoepcndjljolaaGreatDoor
namespace Go.Proofs.YtnoepcndjljolaaGreatDoor
open Go Go.Eng Go.Num Go.RowKit
set_option maxRecDepth 100000
abbrev zr : List Value := [.string (ofL []), .string (ofL []), .string (ofL []), .int .i64 0, .bool false, .string (ofL []), .slice none 0 0, .slice none 0 0, .slice none 0 0]
theorem elem_r : ElemT Tryz.prog 22 RT 9 152 := ⟨by kernel_rfl, by kernel_rfl, by decide⟩
section
variable [HX]
theorem row_r {w : World} {cs : List Value} {K : Value → World → Prop} (hc : cs.length = 9) (hK : ∀ t w', SlAt w' RT t 1 cs → Ext w w' → K t w') : bslW RT 1 zr [(0, 9, .agg cs.toArray)] w K := by
  unfold bslW
  have hp : ∀ K : List Value → Prop, K cs → putW zr [(0, 9, .agg cs.toArray)] K := by
    intro K hK
    refine ⟨by simp [Value.cells, hc], by simp, ?_⟩
    have : List.take 0 zr ++ ((Value.agg cs.toArray).cells.toList ++ List.drop (0 + 9) zr) = cs := by simp [Value.cells]
    rw [this]
    exact hK
  refine hp _ ?_
  exact hK _ _ (own_new (w := w) (base := w.heap.size) (e := RT) (size := 9) (n := 1) (cs := cs) (Nat.le_refl _) (by omega) (by omega)).sl (by repeat (first | assumption | exact Chg.refl _ _ | refine Chg.drew ?_ | refine Chg.alloc ?_ _ | refine Chg.set ?_ (by first | exact .inl rfl | exact .inr (by omega) | exact .inr (by simp only [size_set, size_alloc, size_drew]; omega) | (left; simp; done)) _ | exact Chg.of_ext (by assumption)))
theorem rec_at {G : Nat → Prop} {w : World} {T : TypeId} {sv : Value} {l : List RV} {L : List Value} {i : Nat} {x : RV} (h : SlAt w T sv l.length L) (hr : RRepsP G w l L) (hx : l[i]? = some x) :
    ∃ p : Addr, (∀ K : Value → Prop, K (.pointer (some p)) → ixaW none 9 sv (i64 (i : Nat)) K) ∧ (∀ (w' : World) (K : Value → Prop), w'.heap = w.heap → K (str x.addr) → ldW false 1 (.pointer (some (p.add 0))) w' K) ∧
      ∃ cs, RRepP G w x cs ∧ ∀ (w' : World) (K : Value → Prop), w'.heap = w.heap → K (.agg cs.toArray) → ldW true 9 (.pointer (some p)) w' K := by
  obtain ⟨hi, _⟩ := List.getElem?_eq_some_iff.1 hx
  have hlen := hr.len
  obtain ⟨q, cap, rfl, h1, h2, h3⟩ := h
  obtain ⟨b, off, c, fr, rfl, hb, hcs⟩ := h3 (by intro e; rw [e] at hlen; simp at hlen; omega)
  obtain ⟨cs, hc, hg⟩ := hr.get hx
  have hin : ∀ j, j < 9 → c[off + i * 9 + j]? = cs[j]? := fun j hj => by
    rw [← hg j hj, ← hcs (i * 9 + j) (by omega)]
    congr 1; omega
  refine ⟨⟨b, off + i * 9, none⟩, fun K hK => ?_, fun w' K hw hK => ?_, cs, hc, fun w' K hw hK => ld_cells (by rw [hw]; exact hb) hc.len hin hK⟩
  · rw [ixa_slice, Int.toNat_natCast, add_mk]
    exact ⟨by omega, by omega, hK⟩
  · have hds : cs[0]? = some (str x.addr) := by obtain ⟨vcs, dv, T, rfl, _⟩ := hc; rfl
    rw [ld_one]
    exact ⟨_, by rw [add_mk, cell_eq, hw, hb, cellO_some, ← hds, ← hin 0 (by omega)], hK⟩
structure GrowR (G : Nat → Prop) (w0 w : World) (p B : Nat) (ser : Int) (ov : Value) (xs : List RV) : Prop where
  ext : Ext w0 w
  hb : w.heap[p]? = some (.cells [i64 ser, ov].toArray StaT (0, 0))
  lo : w0.heap.size ≤ p
  lt : p < B
  le : B ≤ w.heap.size
  own : ∃ L, Own w B RT 9 ov xs.length L ∧ RRepsP (fun k => G k ∧ k < w0.heap.size) w xs L
theorem GrowR.more {G : Nat → Prop} {w0 w w' : World} {p B : Nat} {ser : Int} {ov : Value} {xs : List RV} (h : GrowR G w0 w p B ser ov xs) (hx : Ext w w') : GrowR G w0 w' p B ser ov xs :=
  ⟨h.ext.trans hx, hx.at h.hb id, h.lo, h.lt, Nat.le_trans h.le hx.size, let ⟨L, h1, h2⟩ := h.own; ⟨L, h1.ext hx, h2.ext hx⟩⟩
theorem GrowR.ld {G : Nat → Prop} {w0 w : World} {p B : Nat} {ser : Int} {ov : Value} {xs : List RV} {K : Value → Prop} (h : GrowR G w0 w p B ser ov xs) (hk : K ov) : ldW false 1 (.pointer (some ((⟨p, 0, none⟩ : Addr).add 1))) w K := by
  rw [ld_one]
  exact ⟨ov, by rw [add_mk, cell_eq, h.hb, cellO_some]; rfl, hk⟩
theorem GrowR.rep {G : Nat → Prop} {w0 w : World} {p B : Nat} {ser : Int} {ov : Value} {xs : List RV} (h : GrowR G w0 w p B ser ov xs) : StRepP G w ser xs [i64 ser, ov] := by
  obtain ⟨L, h1, h2⟩ := h.own
  exact ⟨ov, RT, L, rfl, h1.sl, h2.mono fun k _ hk => hk.1⟩
theorem GrowR.all {G : Nat → Prop} {w0 w : World} {p B : Nat} {ser : Int} {ov : Value} {xs : List RV} {K : Value → Prop} (h : GrowR G w0 w p B ser ov xs) (hk : K (.agg [i64 ser, ov].toArray)) : ldW true 2 (.pointer (some ⟨p, 0, none⟩)) w K := ld_all h.hb rfl hk
theorem GrowR.app {G : Nat → Prop} {w0 w : World} {p B : Nat} {ser : Int} {ov t : Value} {xs : List RV} {x : RV} {cs : List Value} {K : World → Prop} (h : GrowR G w0 w p B ser ov xs) (ht : SlAt w RT t 1 cs) (hx : RRepP (fun k => G k ∧ k < w0.heap.size) w x cs) (hl : xs.length ≤ 100000)
    (hK : ∀ ov' w', GrowR G w0 w' p B ser ov' (xs ++ [x]) → (∀ k, k < B → k ≠ p → w'.heap[k]? = w.heap[k]?) → K w') : semE Tryz.prog (Builtin.append_ #[22, 22] 22 #[ov, t]) w fun t2 w1 => stW 1 (.pointer (some ((⟨p, 0, none⟩ : Addr).add 1))) t2 w1 K := by
  obtain ⟨L, hO, hR⟩ := h.own
  have hlo := h.lo
  have hlt := h.lt
  refine append_own3 elem_r hO ht (m := 1) (by rw [hx.len]) hx.one (by omega) (by omega) h.le fun v' w1 hO1 hc1 _ => ?_
  have hno : ∀ k, ov.ownBlock = some k → B ≤ k := fun k hk => (own_in hO hk).1
  have hb1 := hc1.at h.hb fun e => by have := hno p e; omega
  have hR1 : RRepsP (fun k => G k ∧ k < w0.heap.size) w1 (xs ++ [x]) (L ++ cs) := RRepsP.chg hc1 (fun k hk _ e => by have := hno k e; omega) (hR.snoc hx)
  have hx1 : Ext w0 w1 := h.ext.then hc1 fun k hk e => by have := hno k e; omega
  rw [add_mk, Nat.zero_add]
  refine st_at hb1 (by obtain ⟨q, c, e, _⟩ := hO1.sl.shape; rw [e]; rfl) (by simp) fun w2 hz2 hb2 hc2 => ?_
  refine hK v' w2 ⟨hx1.new hc2 hlo, by rw [hb2]; simp, hlo, hlt, by have := h.le; have := hc1.size; omega, L ++ cs, ?_, RRepsP.chg hc2 (fun k hk _ e => by have := hk.2; have e : k = p := e; omega) hR1⟩ fun k hkB hkp => ?_
  · rw [List.length_append, List.length_singleton]
    exact hO1.chg hc2 fun k hk e => by have := hk.1; have e : k = p := e; omega
  · have := h.le
    have := hc1.size
    rw [hc2.heap k (by omega) hkp, hc1.heap k (by omega) fun e => by have := hno k e; omega]
theorem same15_ref {G G' : Nat → Prop} {s1 s2 : Int} {l m : List RV} {cs ds : List Value} {w : World} {K : Value → World → Prop} (h : StRepP G w s1 l cs) (h' : StRepP G' w s2 m ds) (hl : l.length ≤ 9223372036854775807) (hK : ∀ b w', (b = true ↔ s1 = s2 ∧ l = m) → Ext w w' → K (.bool b) w') :
    callF Tryz.prog 10 [.agg cs.toArray, .agg ds.toArray] w K := by
  refine W10_ok ?_
  unfold W10
  refine box_st h fun p w1 sv e1 hA hx1 hp => ?_
  refine box_st (h'.ext hx1) fun q w2 tv e2 hB hx2 hq => ?_
  have hA := hA.ext hx2
  have hx02 := hx1.trans hx2
  simp only [fld_ptr]
  refine hA.ser ?_
  refine hB.ser ?_
  rw [bin_neq]
  simp only [isB_f]
  refine GdW.look (decide (((l.length : Nat) : Int) ≠ ((m.length : Nat) : Int))) (fun _ J hJ => ?_) fun g => ?_
  · refine hA.recs ?_
    rw [hA.len]
    refine hB.recs ?_
    rw [hB.len, bin_neq]
    exact hJ
  simp only [List.getD_cons_zero]
  rw [pick_gd_or, condW_b]
  refine ⟨fun e => ?_, fun e => ?_⟩
  · refine hK false w2 ⟨(fun e => by cases e), fun ⟨e1, e2⟩ => ?_⟩ hx02
    have d1 : decide (s1 ≠ s2) = false := by rw [e1]; simp
    have d2 : decide (((l.length : Nat) : Int) ≠ ((m.length : Nat) : Int)) = false := by rw [e2]; simp
    rw [d1, d2] at e
    cases e
  simp only [Bool.or_eq_false_iff, decide_eq_false_iff_not, Decidable.not_not] at e
  obtain ⟨es, el⟩ := e
  have el : l.length = m.length := by omega
  refine hA.recs ?_
  rw [hA.len]
  refine loop_up l.length (fun i w' => Ext w2 w' ∧ l.take i = m.take i) ⟨Chg.refl _ _, rfl⟩ ?_ ?_
  · rintro i w6 g L hi ⟨hx6, ht⟩ hL
    have hxd : Ext w6 w6.drew := Chg.drew (Chg.refl (fun _ => False) w6)
    have hA6 := (hA.ext hx6).ext hxd
    have hB6 := (hB.ext hx6).ext hxd
    obtain ⟨a, ha⟩ : ∃ a, l[i]? = some a := ⟨_, List.getElem?_eq_getElem hi⟩
    obtain ⟨b, hb⟩ : ∃ b, m[i]? = some b := ⟨_, List.getElem?_eq_getElem (by omega)⟩
    simp only [List.getD_cons_zero]
    rw [bin_lss, decide_eq_true (by omega), condW_true]
    refine hA6.recs ?_
    obtain ⟨T1, L1, s1, r1⟩ := hA6.sl
    obtain ⟨T2, L2, s2, r2⟩ := hB6.sl
    refine rec_ld s1 r1 ha fun as1 h1 => ?_
    refine hB6.recs ?_
    refine rec_ld s2 r2 hb fun bs1 h2 => ?_
    refine rec15_ref h1 h2 fun w7 hx7 => ?_
    have hx27 := hx6.trans (hxd.trans hx7)
    rw [un_not, condW_b]
    refine ⟨fun e => ?_, fun e => ?_⟩
    · refine hK false w7 ⟨(fun e => by cases e), fun ⟨_, e2⟩ => ?_⟩ (hx02.trans hx27)
      subst e2
      rw [ha] at hb
      cases hb
      rw [(sameR_iff a a).2 rfl] at e
      cases e
    · rw [bin_add, up1 (by omega)]
      refine hL w7 ⟨hx27, ?_⟩
      have hab : a = b := (sameR_iff a b).1 (by simpa using e)
      rw [List.take_add_one, List.take_add_one, ht, ha, hb, hab]
  rintro w6 g L ⟨hx6, ht⟩
  simp only [List.getD_cons_zero]
  rw [bin_lss, decide_eq_false (by omega), condW_false]
  refine hK true w6 ⟨fun _ => ⟨es, ?_⟩, fun _ => rfl⟩ (hx02.trans hx6)
  rw [List.take_length, el, List.take_length] at ht
  exact ht
theorem without15_ref {G : Nat → Prop} {ser : Int} {l : List RV} {a : Str} {cs : List Value} {w : World} {K : Value → World → Prop} (h : StRepP G w ser l cs) (hl : l.length ≤ 10000)
    (hK : ∀ ov L w', Ext w w' → SlAt w' RT ov (dropR l a).length L → RRepsP (fun k => G k ∧ k < w.heap.size) w' (dropR l a) L → K (.agg [i64 ser, ov].toArray) w') : callF Tryz.prog 17 [.agg cs.toArray, str a] w K := by
  refine W17_ok ?_
  unfold W17
  have h' := h.low
  refine box_st h' fun p w1 sv e1 hA hx1 hp => ?_
  refine alloc_new fun q w2 hq hz2 hbq hx2 => ?_
  have hA2 := hA.ext hx2
  have hx02 := hx1.trans hx2
  simp only [fld_ptr]
  refine hA2.ser ?_
  rw [put_int, put_nil]
  refine ⟨by simp, ?_⟩
  simp only [List.set_cons_zero]
  refine alloc_new fun r w4 hr hz4 hbr hx4 => ?_
  refine st_agg_at (l := [i64 ser, .slice none 0 0]) hbr rfl rfl rfl fun w5 hz5 hb5 hc5 => ?_
  have s1 := hx1.size
  have s2 := hx2.size
  have s4 := hx4.size
  have hx05 : Ext w w5 := (hx02.trans hx4).new hc5 (by omega)
  have hplt := at_lt hA.hb
  have hqlt := at_lt hbq
  have hsl : ∃ T L, SlAt w T sv l.length L ∧ RRepsP (fun k => G k ∧ k < w.heap.size) w l L := by
    obtain ⟨sv0, T0, L0, e0, h6, h7⟩ := h'
    rw [e1] at e0
    cases e0
    exact ⟨T0, L0, h6, h7⟩
  have hA5 : StB (fun k => G k ∧ k < w.heap.size) w5 p ser l sv := by
    obtain ⟨T0, L0, h6, h7⟩ := hsl
    exact ⟨hc5.at (hx4.at hA2.hb id) (fun e => by have e : p = r := e; omega), T0, L0, h6.ext hx05, h7.ext hx05⟩
  have hG5 : GrowR G w w5 r (r + 1) ser (.slice none 0 0) [] := ⟨hx05, hb5, by omega, by omega, by have := at_lt hb5; omega, [], ⟨rfl, .inl ⟨rfl, rfl⟩⟩, rfl⟩
  have hbq5 := hc5.at (hx4.at hbq id) fun e => by have e : q = r := e; omega
  refine hA5.recs ?_
  rw [hA5.len]
  refine LoopW.go (fun st w' => ∃ (i : Nat) (ov : Value), st = [i64 (i : Nat)] ∧ i ≤ l.length ∧ GrowR G w w' r (r + 1) ser ov (dropR (l.take i) a) ∧ w'.heap[p]? = w5.heap[p]? ∧ w'.heap[q]? = w5.heap[q]?) (fun st _ => match st with | [.int _ i] => l.length - i.toNat | _ => 0)
    ⟨0, _, rfl, Nat.zero_le _, hG5, rfl, rfl⟩ ?_
  rintro st g w7 ⟨i, ov, rfl, hi, hG, hp7, hq7⟩
  have hA7 : StB (fun k => G k ∧ k < w.heap.size) w7 p ser l sv := by
    obtain ⟨T0, L0, h6, h7⟩ := hsl
    exact ⟨by rw [hp7]; exact hA5.hb, T0, L0, h6.ext hG.ext, h7.ext hG.ext⟩
  simp only [List.getD_cons_zero]
  rw [bin_lss, condW_dec]
  refine ⟨fun hlt => ?_, fun hge => ?_⟩
  · have hlt : i < l.length := by omega
    obtain ⟨x, hx⟩ : ∃ x, l[i]? = some x := ⟨_, List.getElem?_eq_getElem hlt⟩
    have htk : dropR (l.take (i + 1)) a = dropR (l.take i) a ++ (if x.addr = a then [] else [x]) := by
      rw [List.take_add_one, hx]
      unfold dropR
      rw [List.filter_append]
      congr 1
      by_cases hxa : x.addr = a
      · simp [hxa]
      · simp [hxa]
    have hdl : (dropR (l.take i) a).length ≤ 10000 := by
      have := List.length_filter_le (fun r : RV => decide (r.addr ≠ a)) (l.take i)
      rw [List.length_take] at this
      unfold dropR
      omega
    refine JoinW.cut (fun st w' => ∃ ov', st = [] ∧ GrowR G w w' r (r + 1) ser ov' (dropR (l.take (i + 1)) a) ∧ w'.heap[p]? = w5.heap[p]? ∧ w'.heap[q]? = w5.heap[q]?) ?_ ?_
    · refine hA7.recs ?_
      obtain ⟨T1, L1, s1, r1⟩ := hA7.sl
      obtain ⟨ds, hd, hg⟩ := r1.get hx
      refine ixa_at (size := 9) s1 r1.len (by omega) hlt fun b o c fr hb hcc => ?_
      have hds : ds[0]? = some (str x.addr) := by obtain ⟨vcs, dv, T, rfl, _⟩ := hd; rfl
      rw [fld_ptr, ld_one]
      refine ⟨str x.addr, ?_, ?_⟩
      · rw [add_mk, cell_eq, hb, cellO_some, ← hds, ← hg 0 (by omega), ← hcc 0 (by omega)]
      rw [bin_sne, condW_dec]
      refine ⟨fun hne => ?_, fun he => ?_⟩
      · have hxd : Ext w7 w7.drew := Chg.drew (Chg.refl (fun _ => False) w7)
        have hGd := hG.more hxd
        have hAd := hA7.ext hxd
        refine hGd.ld ?_
        refine hAd.recs ?_
        obtain ⟨T2, L2, s2, r2⟩ := hAd.sl
        refine rec_ld s2 r2 hx fun es he => ?_
        refine row_r he.len fun t w9 ht hx9 => ?_
        have hG9 := hGd.more hx9
        refine ⟨hG9.ld rfl, ?_⟩
        rw [htk, if_neg hne]
        refine hG9.app ht (he.ext hx9) (by omega) fun ov' w11 hG11 hk11 => ?_
        have hx79 := hxd.trans hx9
        exact ⟨ov', rfl, hG11, by rw [hk11 p (by omega) (by omega), hx79.heap p (by have := hG.le; omega) id, hp7], by rw [hk11 q (by omega) (by omega), hx79.heap q (by have := hG.le; omega) id, hq7]⟩
      · have he : x.addr = a := Decidable.not_not.1 he
        rw [htk, if_pos he, List.append_nil]
        exact ⟨ov, rfl, hG, hp7, hq7⟩
    rintro st g w12 ⟨ov', rfl, hG', hp12, hq12⟩
    rw [bin_add, up1 (by omega)]
    refine ⟨⟨i + 1, ov', rfl, by omega, hG', hp12, hq12⟩, ?_⟩
    simp only [Int.toNat_natCast]; omega
  · obtain rfl : i = l.length := by omega
    rw [List.take_length] at hG
    refine hG.all ?_
    refine st_agg_at (by rw [hq7]; exact hbq5) rfl rfl hG.rep.one fun w13 hz13 hb13 hc13 => ?_
    refine ld_all hb13 rfl ?_
    have hx13 : Ext w w13 := hG.ext.new hc13 (by omega)
    obtain ⟨L, h1, h2⟩ := hG.own
    exact hK ov L w13 hx13 (h1.chg hc13 fun k hk e => by have := hk.1; have e : k = q := e; omega).sl (RRepsP.chg hc13 (fun k hk _ e => by have := hk.2; have e : k = q := e; omega) h2)
end
end Go.Proofs.YtnoepcndjljolaaGreatDoor
namespace Go.Proofs.YtnoepcndjljolaaGreatDoor
open Go Go.Eng Go.Num Go.RowKit
set_option maxRecDepth 100000
theorem chg_of {w w8 w' : World} {o : Nat} (hx0 : Ext w w8) (hx : Ext w w') (hs : w8.heap.size ≤ w'.heap.size) (hk : ∀ k, k < w8.heap.size → k ≠ o → w'.heap[k]? = w8.heap[k]?) : Chg (Cr o) w8 w' :=
  ⟨hx.os.trans hx0.os.symm, hx.tape.trans hx0.tape.symm, hx.output.trans hx0.output.symm, hs, fun k hlt hn => hk k hlt hn⟩
section
variable [HX]
theorem with15_ref {G H : Nat → Prop} {ser : Int} {l : List RV} {r : RV} {cs rs : List Value} {w : World} {K : Value → World → Prop} (h : StRepP G w ser l cs) (hr : RRepP H w r rs) (hl : l.length ≤ 10000)
    (hK : ∀ cs' w', Ext w w' → StRepP (fun k => k < w.heap.size) w' ser (putR l r) cs' → K (.agg cs'.toArray) w') : callF Tryz.prog 15 [.agg cs.toArray, .agg rs.toArray] w K := by
  refine W15_ok ?_
  unfold W15
  have h' : StRepP (fun k => True ∧ k < w.heap.size) w ser l cs := by
    obtain ⟨sv, T, L, e, h1, h2⟩ := h
    exact ⟨sv, T, L, e, h1, h2.mono fun k hlt _ => ⟨trivial, hlt⟩⟩
  have hr' : RRepP (fun k => True ∧ k < w.heap.size) w r rs := hr.mono fun k hlt _ => ⟨trivial, hlt⟩
  refine box_st h' fun p w1 sv e1 hA hx1 hp => ?_
  refine box_r (hr'.ext hx1) fun pr w2 vcs dv e2 hB hx2 hpr => ?_
  refine alloc_new fun q w3 hq hz3 hbq hx3 => ?_
  have hA3 := (hA.ext hx2).ext hx3
  have hB3 := hB.ext hx3
  simp only [fld_ptr]
  refine hA3.ser ?_
  rw [put_int, put_nil]
  refine ⟨by simp, ?_⟩
  simp only [List.set_cons_zero]
  refine alloc_new fun o w5 ho hz5 hbo hx5 => ?_
  refine st_agg_at (l := [i64 ser, .slice none 0 0]) hbo rfl rfl rfl fun w6 hz6 hb6 hc6 => ?_
  have s1 := hx1.size
  have s2 := hx2.size
  have s3 := hx3.size
  have s5 := hx5.size
  have hplt := at_lt hA.hb
  have hprlt := at_lt hB.hb
  have hqlt := at_lt hbq
  have hx06 : Ext w w6 := (hx1.trans (hx2.trans (hx3.trans hx5))).new hc6 (by omega)
  have hx36 : ∀ k, k < w3.heap.size → w6.heap[k]? = w3.heap[k]? := fun k hk => by
    rw [hc6.heap k (by omega) fun e => by have e : k = o := e; omega, hx5.heap k hk id]
  have hsl : ∃ T L, SlAt w T sv l.length L ∧ RRepsP (fun k => True ∧ k < w.heap.size) w l L := by
    obtain ⟨sv0, T0, L0, e0, h6, h7⟩ := h'
    rw [e1] at e0
    cases e0
    exact ⟨T0, L0, h6, h7⟩
  have hA6 : StB (fun k => True ∧ k < w.heap.size) w6 p ser l sv := by
    obtain ⟨T0, L0, h6, h7⟩ := hsl
    exact ⟨by rw [hx36 p (by omega)]; exact hA3.hb, T0, L0, h6.ext hx06, h7.ext hx06⟩
  have hrec : ∀ {w' : World}, Ext w w' → w'.heap[pr]? = w3.heap[pr]? → RcB (fun k => True ∧ k < w.heap.size) RT w' pr r vcs dv := fun {w'} hx hp => by
    obtain ⟨vcs0, dv0, T, e0, h1, h2, h3, h4⟩ := hr'
    rw [e2] at e0
    have hl5 := hB.val.rep.len
    have hl50 := h1.rep.len
    simp only [rcs, List.cons.injEq, true_and] at e0
    obtain ⟨rfl, e3⟩ := List.append_inj e0 (by omega)
    cases e3
    exact ⟨by rw [hp]; exact hB3.hb, VRepP.chg hx (fun _ _ _ e => e) h1, ⟨T, h2.ext hx⟩, h3, h4⟩
  have hB6 := hrec hx06 (hx36 pr (by omega))
  refine hA6.all ?_
  refine hB6.ld (off := 0) (v := str r.addr) rfl ?_
  refine without15_ref hA6.rep hl fun sv7 L7 w7 hx7 h71 h72 => ?_
  have s7 := hx7.size
  have hA7 := hA6.ext hx7
  refine st_agg_at (l := [i64 ser, sv7]) hA7.hb rfl rfl (by obtain ⟨q, c, e, _⟩ := h71.shape; rw [e]; rfl) fun w8 hz8 hb8 hc8 => ?_
  have hx08 : Ext w w8 := (hx06.trans hx7).new hc8 (by omega)
  have hL7 : RRepsP (fun k => True ∧ k < w.heap.size) w8 (dropR l r.addr) L7 := (RRepsP.chg hc8 (fun k hk _ e => by have := hk.1.2; have e : k = p := e; omega) h72).mono fun k _ hk => hk.1
  have hdl := dropR_len l r.addr
  have h8 : SlAt w8 RT sv7 (dropR l r.addr).length L7 := h71.chg hc8 fun k c fr hk e => by
    have hk : k = p := hk
    subst hk
    rw [hA7.hb] at e
    simp only [Option.some.injEq, Obj.cells.injEq] at e
    exact absurd e.2.1 (by decide)
  generalize hD : dropR l r.addr = D at *
  have hput : putR l r = insR r D := by unfold putR; rw [hD]
  rw [hput] at hK
  -- the worlds behind: what stays
  have keep8 : ∀ k, k < w3.heap.size → k ≠ p → w8.heap[k]? = w3.heap[k]? := fun k hk hkp => by
    rw [hc8.heap k (by omega) hkp, hx7.heap k (by omega) id, hx36 k hk]
  have hoo : o = w3.heap.size := ho
  have hbo8 : w8.heap[o]? = some (.cells [i64 ser, .slice none 0 0].toArray StaT (0, 0)) := by
    rw [hc8.heap o (by omega) (fun e => by have e : o = p := e; omega), hx7.heap o (by omega) id]
    exact hb6
  have hG8 : GrowR (fun _ => True) w w8 o w8.heap.size ser (.slice none 0 0) [] := ⟨hx08, hbo8, by omega, by omega, Nat.le_refl _, [], ⟨rfl, .inl ⟨rfl, rfl⟩⟩, rfl⟩
  have ldr : ∀ {w' : World} {K : Value → Prop}, w'.heap[p]? = w8.heap[p]? → K sv7 → ldW false 1 (.pointer (some ((⟨p, 0, none⟩ : Addr).add 1))) w' K := fun {w' K} hp hk => by
    rw [ld_one]
    exact ⟨sv7, by rw [add_mk, cell_eq, hp, hb8, cellO_some]; rfl, hk⟩
  refine ldr rfl ?_
  rw [lenl_at h8]
  refine LoopW.go (fun st w' => ∃ (done : Bool) (i : Nat) (ov : Value) (acc : List RV), st = [.bool done, i64 (i : Nat)] ∧ i ≤ D.length ∧ GrowR (fun _ => True) w w' o w8.heap.size ser ov acc ∧ (∀ k, k < w8.heap.size → k ≠ o → w'.heap[k]? = w8.heap[k]?) ∧ acc.length ≤ i + 1 ∧
      ((done = true ∧ acc = insR r (D.take i) ∧ ∃ b ∈ D.take i, Op.bytesLess r.addr b.addr = true) ∨ (done = false ∧ acc = D.take i ∧ ∀ b ∈ D.take i, Op.bytesLess r.addr b.addr = false))) (fun st _ => match st with | [_, .int _ i] => D.length - i.toNat | _ => 0)
    ⟨false, 0, _, [], rfl, Nat.zero_le _, hG8, fun _ _ _ => rfl, by simp, .inr ⟨rfl, rfl, fun b hb => by simp at hb⟩⟩ ?_
  rintro st g w10 ⟨done, i, ov, acc, rfl, hi, hG, hk10, hacc, hd⟩
  have at10 : ∀ {w' : World}, Ext w w' → w8.heap.size ≤ w'.heap.size → (∀ k, k < w8.heap.size → k ≠ o → w'.heap[k]? = w8.heap[k]?) → SlAt w' RT sv7 D.length L7 ∧ RRepsP (fun k => True ∧ k < w.heap.size) w' D L7 ∧ RcB (fun k => True ∧ k < w.heap.size) RT w' pr r vcs dv ∧ w'.heap[p]? = w8.heap[p]? := fun {w'} hx hs hk => by
    have hC := chg_of hx08 hx hs hk
    refine ⟨h8.chg hC fun k c fr hko e => ?_, RRepsP.chg hC (fun k hk _ e => by have := hk.2; have e : k = o := e; omega) hL7, hrec hx ?_, hk p (by omega) (by omega)⟩
    · have hko : k = o := hko
      subst hko
      rw [hbo8] at e
      simp only [Option.some.injEq, Obj.cells.injEq] at e
      exact absurd e.2.1 (by decide)
    · rw [hk pr (by omega) (by omega), keep8 pr (by omega) (by omega)]
  have hle10 := hG.le
  obtain ⟨hS10, hL10, hB10, hp10⟩ := at10 hG.ext hle10 hk10
  have hxd : Ext w10 w10.drew := Chg.drew (Chg.refl (fun _ => False) w10)
  simp only [List.getD_cons_zero, List.getD_cons_succ]
  rw [bin_lss, condW_dec]
  refine ⟨fun hlt => ?_, fun hge => ?_⟩
  · have hlt : i < D.length := by omega
    obtain ⟨x, hx⟩ : ∃ x, D[i]? = some x := ⟨_, List.getElem?_eq_getElem hlt⟩
    have htk : D.take (i + 1) = D.take i ++ [x] := by rw [List.take_add_one, hx]; rfl
    obtain ⟨ad, ad1, ad2, es, he, ad3⟩ := rec_at hS10 hL10 hx
    refine JoinW.cut (fun st w' => ∃ (d1 : Bool) (ov1 : Value) (acc1 : List RV), st = [.bool d1] ∧ GrowR (fun _ => True) w w' o w8.heap.size ser ov1 acc1 ∧ (∀ k, k < w8.heap.size → k ≠ o → w'.heap[k]? = w8.heap[k]?) ∧ acc1.length ≤ i + 1 ∧
      ((d1 = true ∧ acc1 ++ [x] = insR r (D.take (i + 1)) ∧ ∃ b ∈ D.take (i + 1), Op.bytesLess r.addr b.addr = true) ∨ (d1 = false ∧ acc1 = D.take i ∧ ∀ b ∈ D.take (i + 1), Op.bytesLess r.addr b.addr = false))) ?_ ?_
    · rw [un_not]
      rcases hd with ⟨rfl, hm, hex⟩ | ⟨rfl, hm, hall⟩
      · rw [Bool.not_true]
        simp only [isB_t, GqW_f]
        rw [pick_f, condW_false]
        refine ⟨true, ov, acc, rfl, hG.more hxd, hk10, ?_, .inl ⟨rfl, ?_, ?_⟩⟩
        · rw [hm, insR_len, List.length_take]; omega
        · rw [hm, htk]; exact (insR_done hex [x]).symm
        · obtain ⟨b, hb, h⟩ := hex
          exact ⟨b, by rw [htk]; exact List.mem_append.2 (.inl hb), h⟩
      · rw [Bool.not_false]
        have hBd := hB10.ext hxd
        have hGd := hG.more hxd
        simp only [isB_t, GqW_t]
        refine ⟨_, rfl, _, hBd.ld (off := 0) (v := str r.addr) rfl rfl, _, rfl, _, ldr (w' := w10.drew) hp10 rfl, _, rfl, _, ad1 _ rfl, _, rfl, _, ad2 w10.drew _ rfl rfl, ?_⟩
        refine ⟨.bool (Op.bytesLess r.addr x.addr), by rw [bin_slt], ?_⟩
        rw [pick_t, condW_b]
        refine ⟨fun hlt => ?_, fun hge => ?_⟩
        · refine hGd.ld ?_
          refine hBd.all ?_
          refine row_r hBd.rep.len fun t w21 ht hx21 => ?_
          refine (hGd.more hx21).app ht (hBd.ext hx21).rep (by rw [hm, List.length_take]; omega) fun ov' w23 hG23 hk23 => ?_
          refine ⟨true, ov', acc ++ [r], rfl, hG23, fun k hk hko => ?_, ?_, .inl ⟨rfl, ?_, x, by rw [htk]; simp, hlt⟩⟩
          · rw [hk23 k (by omega) hko, hx21.heap k (by show k < w10.heap.size; omega) id]
            exact hk10 k hk hko
          · rw [hm, List.length_append, List.length_take, List.length_singleton]; omega
          · rw [hm, htk, insR_hit hlt hall]; simp
        · refine ⟨false, ov, acc, rfl, hGd, hk10, ?_, .inr ⟨rfl, hm, fun b hb => ?_⟩⟩
          · rw [hm, List.length_take]; omega
          · rw [htk] at hb
            rcases List.mem_append.1 hb with hb | hb
            · exact hall b hb
            · rw [List.mem_singleton.1 hb]; exact hge
    rintro st g w24 ⟨d1, ov1, acc1, rfl, hG24, hk24, hacc1, hd1⟩
    have hle24 := hG24.le
    have hxd24 : Ext w24 w24.drew := Chg.drew (Chg.refl (fun _ => False) w24)
    have hG24d := hG24.more hxd24
    obtain ⟨hS24, hL24, hB24, hp24⟩ := at10 hG24d.ext hle24 hk24
    simp only [List.getD_cons_zero]
    refine hG24d.ld ?_
    refine ldr hp24 ?_
    obtain ⟨ae, ae1, ae2, fs, hf, ae3⟩ := rec_at hS24 hL24 hx
    refine ae1 _ ?_
    refine ae3 w24.drew _ rfl ?_
    refine row_r hf.len fun t w25 ht hx25 => ?_
    have hG25 := hG24d.more hx25
    refine ⟨hG25.ld rfl, ?_⟩
    refine hG25.app ht (hf.ext hx25) (by omega) fun ov' w27 hG27 hk27 => ?_
    rw [bin_add, up1 (by omega)]
    refine ⟨⟨d1, i + 1, ov', acc1 ++ [x], rfl, by omega, hG27, fun k hk hko => ?_, by rw [List.length_append, List.length_singleton]; omega, ?_⟩, ?_⟩
    · rw [hk27 k (by omega) hko, hx25.heap k (by show k < w24.heap.size; omega) id]
      exact hk24 k hk hko
    · rcases hd1 with ⟨rfl, h1, h2⟩ | ⟨rfl, h1, h2⟩
      · exact .inl ⟨rfl, h1, h2⟩
      · exact .inr ⟨rfl, by rw [h1, htk], h2⟩
    · simp only [Int.toNat_natCast]; omega
  · obtain rfl : i = D.length := by omega
    rw [List.take_length] at hd
    refine JoinW.cut (fun st w' => ∃ ov1, st = [] ∧ GrowR (fun _ => True) w w' o w8.heap.size ser ov1 (insR r D) ∧ (∀ k, k < w8.heap.size → k ≠ o → w'.heap[k]? = w8.heap[k]?)) ?_ ?_
    · rw [un_not]
      rcases hd with ⟨rfl, hm, hex⟩ | ⟨rfl, hm, hall⟩
      · rw [Bool.not_true, condW_false]
        exact ⟨ov, rfl, by rw [← hm]; exact hG, hk10⟩
      · rw [Bool.not_false, condW_true]
        refine hG.ld ?_
        refine hB10.all ?_
        refine row_r hB10.rep.len fun t w29 ht hx29 => ?_
        refine (hG.more hx29).app ht (hB10.ext hx29).rep (by omega) fun ov' w31 hG31 hk31 => ?_
        refine ⟨ov', rfl, by rw [insR_not hall, ← hm]; exact hG31, fun k hk hko => ?_⟩
        rw [hk31 k (by omega) hko, hx29.heap k (by omega) id]
        exact hk10 k hk hko
    rintro st g w32 ⟨ov1, rfl, hG32, hk32⟩
    refine hG32.all ?_
    have hbq32 : w32.heap[q]? = some (.cells [i64 0, .slice none 0 0].toArray StaT (0, 0)) := by
      rw [hk32 q (by omega) (by omega), keep8 q (by omega) (by omega)]
      exact hbq
    refine st_agg_at hbq32 rfl rfl hG32.rep.one fun w33 hz33 hb33 hc33 => ?_
    refine ld_all hb33 rfl ?_
    have hle32 := hG32.le
    refine hK _ w33 (hG32.ext.new hc33 (by omega)) ?_
    obtain ⟨L, g1, g2⟩ := hG32.own
    exact ⟨ov1, RT, L, rfl, (g1.chg hc33 fun k hk e => by have := hk.1; have e : k = q := e; omega).sl, (RRepsP.chg hc33 (fun k hk _ e => by have := hk.2; have e : k = q := e; omega) g2).mono fun k _ hk => hk.2⟩
end
end Go.Proofs.YtnoepcndjljolaaGreatDoor
namespace Go.Eng
open Go
structure AV where
  mods : List Str
  typ : Str
  nm : Str
  kind : Int
  num : Int
  key : Str
  aside : Bool
def AV.zero : AV := ⟨[], [], [], 0, 0, [], false⟩
structure Lin {α : Type} (c : α → α → Int) : Prop where
  zero : ∀ a b, c a b = 0 ↔ a = b
  anti : ∀ a b, c b a = - c a b
  trans : ∀ a b d, c a b ≤ 0 → c b d ≤ 0 → c a d ≤ 0
theorem Lin.of {α β : Type} {c : β → β → Int} (f : α → β) (hf : ∀ a b, f a = f b → a = b) (h : Lin c) : Lin (fun a b => c (f a) (f b)) where
  zero a b := by rw [h.zero]; exact ⟨hf a b, fun e => by rw [e]⟩
  anti a b := h.anti _ _
  trans a b d := h.trans _ _ _
end Go.Eng


namespace Go.Proofs.YtnoepcndjljolaaGreatDoor
open Go Go.Eng Go.RowKit
set_option maxRecDepth 100000
section
variable [HX]
theorem dec_len : ∀ (k u : Nat), u < 10 ^ k → (Lib.decDigits u).length ≤ k + 1 := by
  intro k
  induction k with
  | zero => intro u h; rw [Lib.decDigits, dif_pos (by omega)]; simp
  | succ k ih =>
    intro u h
    rw [Lib.decDigits]
    split
    · simp
    · have := ih (u / 10) (by rw [Nat.pow_succ] at h; omega)
      rw [List.length_append, List.length_singleton]; omega
theorem ext_grow (w : World) (k : Nat) (os : Array Obj) : Ext w (Sort.grow (w.drewN k) os) :=
  ⟨rfl, rfl, rfl, by show w.heap.size ≤ (w.heap ++ os).size; simp, fun j hj _ => by show (w.heap ++ os)[j]? = _; rw [Array.getElem?_append_left hj]⟩
theorem itoa_p {n : Int} {w : World} {K : Value → World → Prop} (hT : Tabs w) (h1 : -9223372036854775808 ≤ n) (h2 : n ≤ 9223372036854775807) (hK : ∀ w', Ext w w' → K (str (Lib.itoa n)) w') : callF Tryz.prog 90 [i64 n] w K := by
  refine of_calls (args := #[i64 n]) Tryz.call90 ((Tryz.strconv_Itoa n h1 h2 w hT.pow).mono ?_)
  rintro e w' ⟨rfl, k, os, rfl⟩
  exact ⟨_, rfl, hK _ (ext_grow w k os)⟩
theorem itoa_len {n : Int} (h1 : -9223372036854775808 ≤ n) (h2 : n ≤ 9223372036854775807) : (Lib.itoa n).length ≤ 30 := by
  unfold Lib.itoa
  split
  · have := dec_len 19 n.natAbs (by omega)
    simp only [List.length_cons]; omega
  · have := dec_len 19 n.toNat (by omega)
    omega
theorem var_ext {P : Program} {w w' : World} {name : String} {c : Array Value} (hx : Ext w w') (h : w.var? P name = some c) : w'.var? P name = some c := by
  unfold World.var? at h ⊢
  cases hg : P.globalNamed name with
  | none => rw [hg] at h; cases h
  | some g =>
    rw [hg] at h
    simp only [Option.bind_some] at h ⊢
    cases hb : w.heap[g]? with
    | none => rw [hb] at h; cases h
    | some o => rw [hx.at hb id]; rw [hb] at h; exact h
theorem Tabs.ext {w w' : World} (h : Tabs w) (hx : Ext w w') : Tabs w' := ⟨h.utf.ext hx, cell_ext hx h.bru, var_ext hx h.pow⟩
section
variable {s f : Str} {c a : Int} {d : Nat}
end
end
end Go.Proofs.YtnoepcndjljolaaGreatDoor
namespace Go.Proofs.YtnoepcndjljolaaGreatDoor
open Go Go.Eng
set_option maxRecDepth 100000
variable [HX]
def plan60 : Plan := { js := [(14, ⟨[13], [4, 5], 13⟩)], ds := [(26, ⟨[0, 1, 2, 3, 4, 5, 6, 7, 8], [[], [], [0, 1], [0, 1, 2], [], [], [4, 5], [4, 5, 6], [0, 1, 2, 3, 4, 5, 6, 7]]⟩)] }
def W60 (v0 v1 : Value) (w : World) (K : Value → World → Prop) : Prop :=
  lenlW v0 fun t7 =>
  lenlW v1 fun t9 =>
  binW .neq t7 t9 fun t10 =>
  condW t10 (
    K (.bool false) w) (
    lenlW v0 fun t12 =>
    LoopW [(.int .i64 0)] w fun s1 _ w2 L1 =>
      binW .lss (s1.getD 0 undef) t12 fun t14 =>
      condW t14 (
        ixaW none 1 v0 (s1.getD 0 undef) fun t18 =>
        ldW false 1 t18 w2.drew fun t19 =>
        ixaW none 1 v1 (s1.getD 0 undef) fun t22 =>
        ldW false 1 t22 w2.drew fun t23 =>
        binW .neq t19 t23 fun t24 =>
        condW t24 (
          K (.bool false) w2.drew) (
          binW .add (s1.getD 0 undef) (.int .i64 1) fun t25 =>
          L1 [t25] w2.drew)) (
        K (.bool true) w2))
theorem W60_eq (v0 v1 : Value) (w : World) (K : Value → World → Prop) : funW Tryz.prog Tryz.f60 plan60 [v0, v1] w K = W60 v0 v1 w K := by kernel_rfl
theorem W60_chk : chkFun Tryz.prog Tryz.f60 plan60 2 = true := by kernel_rfl
theorem W60_ok {v0 v1 : Value} {w : World} {K : Value → World → Prop} (h : W60 v0 v1 w K) : callF Tryz.prog 60 [v0, v1] w K :=
  tie Tryz.prog 60 Tryz.f60 plan60 [v0, v1] w K 2 (W60 v0 v1 w K) rfl mixed Tryz.func60 W60_chk (W60_eq v0 v1 w K) Tryz.call60 h
end Go.Proofs.YtnoepcndjljolaaGreatDoor





namespace Go.Proofs.YtnoepcndjljolaaGreatDoor
open Go Go.Eng Go.RowKit
set_option maxRecDepth 100000
structure AFits (a : AV) : Prop where
  mods : a.mods.length ≤ 9223372036854775807
  typ : a.typ.length ≤ 9223372036854775807
  nm : a.nm.length ≤ 9223372036854775807
  key : a.key.length ≤ 9223372036854775807
  kind : -9223372036854775808 ≤ a.kind ∧ a.kind ≤ 9223372036854775807
  num : -9223372036854775808 ≤ a.num ∧ a.num ≤ 9223372036854775807
  each : ∀ m ∈ a.mods, m.length ≤ 9223372036854775807
abbrev acs (a : AV) (sv : Value) : List Value := [sv, str a.typ, str a.nm, i64 a.kind, i64 a.num, str a.key, .bool a.aside]
def ARep (w : World) (a : AV) (cs : List Value) : Prop := ∃ sv T, cs = acs a sv ∧ SlAt w T sv a.mods.length (a.mods.map str) ∧ AFits a
theorem ARep.ext {w w' : World} {a : AV} {cs : List Value} (h : ARep w a cs) (hx : Ext w w') : ARep w' a cs := by
  obtain ⟨sv, T, e, h1, h2⟩ := h
  exact ⟨sv, T, e, h1.ext hx, h2⟩
theorem ARep.len {w : World} {a : AV} {cs : List Value} (h : ARep w a cs) : cs.length = 7 := by obtain ⟨sv, T, rfl, _⟩ := h; rfl
theorem ARep.one {w : World} {a : AV} {cs : List Value} (h : ARep w a cs) : cs.all one1 = true := by
  obtain ⟨sv, T, rfl, h1, _⟩ := h
  obtain ⟨p, c, rfl, _⟩ := h1.shape
  rfl
structure AcB (T0 : TypeId) (w : World) (p : Nat) (a : AV) (sv : Value) : Prop where
  hb : w.heap[p]? = some (.cells (acs a sv).toArray T0 (0, 0))
  sl : ∃ T, SlAt w T sv a.mods.length (a.mods.map str)
  fits : AFits a
theorem AcB.ext {T0 : TypeId} {w w' : World} {p : Nat} {a : AV} {sv : Value} (h : AcB T0 w p a sv) (hx : Ext w w') : AcB T0 w' p a sv := ⟨hx.at h.hb id, let ⟨T, h1⟩ := h.sl; ⟨T, h1.ext hx⟩, h.fits⟩
theorem AcB.drew {T0 : TypeId} {w : World} {p : Nat} {a : AV} {sv : Value} (h : AcB T0 w p a sv) : AcB T0 w.drew p a sv := h.ext (Chg.drew (Chg.refl (fun _ => False) w))
theorem AcB.rep {T0 : TypeId} {w : World} {p : Nat} {a : AV} {sv : Value} (h : AcB T0 w p a sv) : ARep w a (acs a sv) := let ⟨T, h1⟩ := h.sl; ⟨sv, T, rfl, h1, h.fits⟩
theorem AcB.all {T0 : TypeId} {w : World} {p : Nat} {a : AV} {sv : Value} {K : Value → Prop} (h : AcB T0 w p a sv) (hk : K (.agg (acs a sv).toArray)) : ldW true 7 (.pointer (some ⟨p, 0, none⟩)) w K := ld_all h.hb rfl hk
theorem AcB.ld {T0 : TypeId} {w : World} {p off : Nat} {a : AV} {sv v : Value} {K : Value → Prop} (h : AcB T0 w p a sv) (hv : (acs a sv)[off]? = some v) (hk : K v) : fldW off (.pointer (some ⟨p, 0, none⟩)) fun t => ldW false 1 t w K := by
  rw [fld_ptr, ld_one]
  refine ⟨v, ?_, hk⟩
  rw [add_mk, cell_eq, h.hb, cellO_some, Nat.zero_add]
  simpa using hv
section
variable [HX]
end
end Go.Proofs.YtnoepcndjljolaaGreatDoor

namespace Go.Proofs.YtnoepcndjljolaaGreatDoor
open Go Go.Eng Go.RowKit
set_option maxRecDepth 100000
theorem AcB.st {T0 : TypeId} {w : World} {p off : Nat} {a a' : AV} {sv sv' v : Value} {K : World → Prop} (h : AcB T0 w p a sv) (h1 : one1 v = true) (ho : off < 7) (he : (acs a sv).set off v = acs a' sv') (hf : AFits a') (hs : ∃ T, ∀ w', Chg (Cr p) w w' → SlAt w' T sv' a'.mods.length (a'.mods.map str)) (hK : ∀ w', AcB T0 w' p a' sv' → Chg (Cr p) w w' → w'.heap.size = w.heap.size → K w') :
    fldW off (.pointer (some ⟨p, 0, none⟩)) fun t => stW 1 t v w K := by
  rw [fld_ptr, add_mk, Nat.zero_add]
  refine st_at h.hb h1 (by simpa using ho) fun w' hz hb hc => ?_
  obtain ⟨T, hs⟩ := hs
  refine hK w' ⟨?_, ⟨T, hs w' hc⟩, hf⟩ hc hz
  rw [hb, ← he]; simp
section
variable [HX]
structure TabA (w : World) : Prop where
  tabs : Tabs w
  err : TabE w
  rng : ∃ T v, w.cell? ⟨3, 0, none⟩ = some (.iface T v)
theorem TabA.ext {w w' : World} (h : TabA w) (hx : Ext w w') : TabA w' := ⟨h.tabs.ext hx, h.err.ext hx, let ⟨T, v, h1⟩ := h.rng; ⟨T, v, cell_ext hx h1⟩⟩
theorem TabA.j {w : World} (h : TabA w) : TabJ w := ⟨h.tabs.utf, h.tabs.bru, h.err⟩
end
end Go.Proofs.YtnoepcndjljolaaGreatDoor

namespace Go.Proofs.YtnoepcndjljolaaGreatDoor
open Go Go.Eng Go.RowKit
set_option maxRecDepth 100000
section
variable [HX]
theorem equals_p {a b : List Str} {x y : Value} {T1 T2 : TypeId} {w : World} {K : Value → World → Prop} (h1 : SlAt w T1 x a.length (a.map str)) (h2 : SlAt w T2 y b.length (b.map str)) (ha : a.length ≤ 9223372036854775807)
    (hK : ∀ w', Ext w w' → K (.bool (decide (a = b))) w') : callF Tryz.prog 60 [x, y] w K := by
  refine W60_ok ?_
  unfold W60
  rw [lenl_at h1, lenl_at h2, bin_neq, condW_dec]
  refine ⟨fun hne => ?_, fun he => ?_⟩
  · have := hK w (Chg.refl _ _)
    rw [decide_eq_false (fun e => hne (by rw [e]))] at this
    exact this
  have he : a.length = b.length := by
    have : ¬ ((a.length : Int) ≠ (b.length : Int)) := he
    omega
  rw [lenl_at h1]
  refine loop_up a.length (fun i w' => Ext w w' ∧ a.take i = b.take i) ⟨Chg.refl _ _, rfl⟩ ?_ ?_
  · rintro i w2 g L hi ⟨hx2, ht⟩ hL
    have hxd : Ext w2 w2.drew := Chg.drew (Chg.refl (fun _ => False) w2)
    obtain ⟨u, hu⟩ : ∃ u, a[i]? = some u := ⟨_, List.getElem?_eq_getElem hi⟩
    obtain ⟨v, hv⟩ : ∃ v, b[i]? = some v := ⟨_, List.getElem?_eq_getElem (by omega)⟩
    simp only [List.getD_cons_zero]
    rw [bin_lss, decide_eq_true (by omega), condW_true]
    refine text_ld (h1.ext (hx2.trans hxd)) hu ?_
    refine text_ld (h2.ext (hx2.trans hxd)) hv ?_
    rw [bin_sne, condW_dec]
    refine ⟨fun hne => ?_, fun heq => ?_⟩
    · have := hK _ (hx2.trans hxd)
      rw [decide_eq_false (fun e => hne (by rw [e, hv] at hu; exact (Option.some.inj hu).symm))] at this
      exact this
    · have heq : u = v := Decidable.not_not.1 heq
      rw [bin_add, up1 (by omega)]
      refine hL _ ⟨hx2.trans hxd, ?_⟩
      rw [List.take_add_one, List.take_add_one, ht, hu, hv, heq]
  · rintro w2 g L ⟨hx2, ht⟩
    simp only [List.getD_cons_zero]
    rw [bin_lss, decide_eq_false (by omega), condW_false]
    have := hK w2 hx2
    rw [List.take_length, he, List.take_length] at ht
    rw [decide_eq_true ht] at this
    exact this
end
end Go.Proofs.YtnoepcndjljolaaGreatDoor
namespace Go.Proofs.YtnoepcndjljolaaGreatDoor
open Go Go.Eng Go.RowKit
set_option maxRecDepth 100000
theorem st_mid {a : Nat} {T : TypeId} : ∀ (new old pre post : List Value) (o i : Nat) {w : World} {K : World → Prop}, w.heap[a]? = some (.cells (pre ++ old ++ post).toArray T (0, 0)) → o + i = pre.length → old.length = new.length → (∀ v ∈ new, one1 v = true) →
    (∀ w', w'.heap.size = w.heap.size → w'.heap[a]? = some (.cells (pre ++ new ++ post).toArray T (0, 0)) → Chg (fun k => k = a) w w' → K w') → stCells ⟨a, o, none⟩ new i w K
  | [], old, pre, post, o, i, w, K, hb, _, hl, _, hK => by
    have : old = [] := List.eq_nil_of_length_eq_zero hl
    subst this
    exact hK w rfl hb (Chg.refl _ _)
  | v :: r, [], pre, post, o, i, w, K, hb, ho, hl, h1, hK => by simp at hl
  | v :: r, u :: old, pre, post, o, i, w, K, hb, ho, hl, h1, hK => by
    have hadd : (⟨a, o, none⟩ : Addr).add i = ⟨a, pre.length, none⟩ := by rw [add_mk, ho]
    simp only [List.length_cons, Nat.add_right_cancel_iff] at hl
    simp only [stCells, hadd]
    refine ⟨h1 v List.mem_cons_self, ?_, ?_, ?_⟩
    · rw [cell_eq, hb, cellO_some]; simp
    · rw [frozen_eq, hb, frO_zero]
    · have e : (pre ++ (u :: old) ++ post).set pre.length v = (pre ++ [v]) ++ old ++ post := by
        rw [List.append_assoc, List.set_append_right _ _ (Nat.le_refl _)]
        simp
      have hb' : (w.setCell ⟨a, pre.length, none⟩ v).heap[a]? = some (.cells ((pre ++ [v]) ++ old ++ post).toArray T (0, 0)) := by
        rw [heap_set_same, hb, setO_some, ← e]; simp
      refine st_mid r old (pre ++ [v]) post o (i + 1) hb' (by rw [List.length_append, List.length_singleton]; omega) hl (fun x hx => h1 x (List.mem_cons_of_mem _ hx)) fun w' hz hb2 hc => ?_
      refine hK w' (by rw [hz]; simp) ?_ ((Chg.set (S := fun k => k = a) (Chg.refl _ _) (.inl rfl) _).trans hc)
      rw [hb2]
      simp
theorem st_agg_mid {a o n : Nat} {T : TypeId} {new old pre post : List Value} {w : World} {K : World → Prop} (hb : w.heap[a]? = some (.cells (pre ++ old ++ post).toArray T (0, 0))) (ho : o = pre.length) (hn : new.length = n) (hl : old.length = n) (h1 : new.all one1 = true)
    (hK : ∀ w', w'.heap.size = w.heap.size → w'.heap[a]? = some (.cells (pre ++ new ++ post).toArray T (0, 0)) → Chg (fun k => k = a) w w' → K w') : stW n (.pointer (some ⟨a, o, none⟩)) (.agg new.toArray) w K := by
  rw [st_agg]
  exact ⟨hn, st_mid new old pre post o 0 hb (by omega) (by omega) (fun v hv => List.all_eq_true.1 h1 v hv) hK⟩
abbrev AE := AV × Value
structure AE0 (x : AE) : Prop where
  mods : x.1.mods = []
  fits : AFits x.1
  sl : ∃ T, ∀ w, SlAt w T x.2 0 []
theorem AE0.rep {x : AE} (h : AE0 x) (w : World) : ARep w x.1 (acs x.1 x.2) := by
  obtain ⟨T, h1⟩ := h.sl
  refine ⟨x.2, T, rfl, ?_, h.fits⟩
  rw [h.mods]
  exact h1 w
section
variable [HX]
end
end Go.Proofs.YtnoepcndjljolaaGreatDoor
namespace Go.Proofs.YtnoepcndjljolaaGreatDoor
open Go Go.Eng Go.Num Go.RowKit
set_option maxRecDepth 100000
section
variable [HX]
theorem clone_sb {v : Value} {T : TypeId} {l : List Str} {w : World} {K : Value → World → Prop} (h : SlAt w T v l.length (l.map str)) (hl : l.length ≤ 8796093022208)
    (hK : ∀ v' w', Ext w w' → SlAt w' ST v' l.length (l.map str) → inG (From w.heap.size) v' → K v' w') : callF Tryz.prog 72 [v] w K := by
  refine W72_ok ?_
  unfold W72
  obtain ⟨p, cap, rfl, hcap, hp, hc⟩ := h
  cases p with
  | none =>
    obtain ⟨h0, rfl⟩ := hp rfl
    have : l = [] := List.eq_nil_of_length_eq_zero h0
    subst this
    have e : ∀ K : Value → Prop, eqW .slice false (.slice none ([] : List Str).length 0) (.slice none 0 0) K ↔ K (.bool true) := fun K => Iff.rfl
    rw [e]
    simp only [wsv, wsg, wsh, wsl, cond_true, cond_false, exists_eq_left', Option.some.injEq, Option.isSome_some, List.getElem?_toArray, List.getElem?_cons_zero, List.getElem?_cons_succ, List.length_cons, List.length_nil, List.set_cons_zero, List.set_cons_succ, List.getD_cons_zero, List.getD_cons_succ, Nat.zero_add, Nat.add_zero, Nat.reduceAdd, Nat.reduceLT, Nat.lt_add_one, Nat.zero_lt_succ, decide_true, decide_false, ne_eq, reduceCtorEq]
    exact hK _ w (Chg.refl _ _) (SlAt.nil _ _) (by intro k hk; cases hk)
  | some a =>
    have e : ∀ K : Value → Prop, eqW .slice false (.slice (some a) l.length cap) (.slice none 0 0) K ↔ K (.bool false) := fun K => Iff.rfl
    rw [e]
    unfold bslW
    simp only [wsv, wsg, wsh, wsl, cond_true, cond_false, exists_eq_left', Option.some.injEq, Option.isSome_some, List.getElem?_toArray, List.getElem?_cons_zero, List.getElem?_cons_succ, List.length_cons, List.length_nil, List.set_cons_zero, List.set_cons_succ, List.getD_cons_zero, List.getD_cons_succ, Nat.zero_add, Nat.add_zero, Nat.reduceAdd, Nat.reduceLT, Nat.lt_add_one, Nat.zero_lt_succ, decide_true, decide_false, ne_eq, reduceCtorEq]
    refine append_own3 elem_s (base := w.heap.size) (own_new (w := w) (base := w.heap.size) (e := ST) (size := 1) (n := 0) (cs := []) (Nat.le_refl _) rfl (by omega)) (x := .slice (some a) l.length cap) (T := T) (m := l.length) (news := l.map str) ?_ (by simp) ?_ (by omega) (by omega) (by rw [size_alloc]; omega) fun v' w' h' hc' hb' => ?_
    · have hx : Ext w (w.alloc (.cells ([] : List Value).toArray ST)) := (by repeat (first | assumption | exact Chg.refl _ _ | refine Chg.drew ?_ | refine Chg.alloc ?_ _ | refine Chg.set ?_ (by first | exact .inl rfl | exact .inr (by omega) | exact .inr (by simp only [size_set, size_alloc, size_drew]; omega) | (left; simp; done)) _ | exact Chg.of_ext (by assumption)))
      exact SlAt.ext ⟨some a, cap, rfl, hcap, hp, hc⟩ hx
    · intro u hu
      obtain ⟨s, _, rfl⟩ := List.mem_map.1 hu
      rfl
    · have hx : Ext w (w.alloc (.cells ([] : List Value).toArray ST)) := (by repeat (first | assumption | exact Chg.refl _ _ | refine Chg.drew ?_ | refine Chg.alloc ?_ _ | refine Chg.set ?_ (by first | exact .inl rfl | exact .inr (by omega) | exact .inr (by simp only [size_set, size_alloc, size_drew]; omega) | (left; simp; done)) _ | exact Chg.of_ext (by assumption)))
      refine hK v' w' (hx.then hc' fun k hk e => ?_) (by simpa using h'.sl) fun k hk => (h'.block k hk).1
      simp only [Value.ownBlock, Option.some.injEq] at e
      omega
theorem own_p {G : Nat → Prop} {r : RV} {cs : List Value} {w : World} {K : Value → World → Prop} (h : RRepP G w r cs) (hf : fewM r.attrs = true) (hd : r.deps.length ≤ 8796093022208)
    (hK : ∀ cs' w', Ext w w' → RRepP (From w.heap.size) w' r cs' → K (.agg cs'.toArray) w') : callF Tryz.prog 35 [.agg cs.toArray] w K := by
  refine W35_ok ?_
  unfold W35
  refine box_r h fun p w1 vcs dv e1 hA hx1 hp => ?_
  refine alloc_new fun q w2 hq hz2 hbq hx2 => ?_
  have hA2 := hA.ext hx2
  have hxd : Ext w2 w2.drew := Chg.drew (Chg.refl (fun _ => False) w2)
  have hAd := hA2.ext hxd
  have s1 := hx1.size
  have s2 := hx2.size
  have hplt := at_lt hA.hb
  have hqlt := at_lt hbq
  have h5 := hA.val.rep.len
  have hd8 : ∀ (r : RV) (vs : List Value) (d : Value), vs.length = 5 → (rcs r vs d)[8]? = some d := fun r vs d h5 => by
    show (vs ++ [d])[5]? = some d
    rw [List.getElem?_append_right (by omega), h5]
    rfl
  simp only [fld_ptr]
  refine hAd.attrs ?_
  refine hAd.ld (off := 8) (hd8 _ _ _ h5) ?_
  refine clone_p r.attrs hf hAd.val.rep fun vcs' w3 hx3 hv3 => ?_
  have hA3 := hAd.ext hx3
  have s3 := hx3.size
  refine ⟨hA3.ld (off := 8) (hd8 _ _ _ h5) rfl, ?_⟩
  obtain ⟨T3, hs3⟩ := hA3.sl
  refine clone_sb hs3 hd fun dv' w4 hx4 hs4 hg4 => ?_
  have hA4 := hA3.ext hx4
  have s4 := hx4.size
  have hv4 : VRepP (From w.heap.size) w4 r.attrs vcs' := (VRepP.chg hx4 (fun _ _ _ e => e) hv3).mono fun k _ hk => by
    have hk : w2.drew.heap.size ≤ k := hk
    have e : w2.drew.heap.size = w2.heap.size := rfl
    show w.heap.size ≤ k
    omega
  have h5' := hv4.rep.len
  have e9 : rcs r vcs dv = [str r.addr, str r.typ, str r.id] ++ vcs ++ [dv] := rfl
  have hb4 := hA4.hb
  rw [e9] at hb4
  rw [add_mk, Nat.zero_add]
  refine st_agg_mid (pre := [str r.addr, str r.typ, str r.id]) (post := [dv]) hb4 rfl h5' h5 hv4.rep.all_one fun w5 hz5 hb5 hc5 => ?_
  rw [add_mk, Nat.zero_add]
  refine st_at hb5 (by obtain ⟨q, c, e, _⟩ := hs4.shape; rw [e]; rfl) (by simp; omega) fun w6 hz6 hb6 hc6 => ?_
  have hb6 : w6.heap[p]? = some (.cells (rcs r vcs' dv').toArray RT (0, 0)) := by
    rw [hb6]
    have : (([str r.addr, str r.typ, str r.id] ++ vcs' ++ [dv]).toArray.setIfInBounds 8 dv') = (rcs r vcs' dv').toArray := by
      rw [List.setIfInBounds_toArray]
      congr 1
      have e : [str r.addr, str r.typ, str r.id] ++ vcs' ++ [dv] = str r.addr :: str r.typ :: str r.id :: (vcs' ++ [dv]) := by simp
      rw [e]
      simp only [List.set_cons_succ, rcs]
      rw [List.set_append_right _ _ (by omega), h5']
      rfl
    rw [this]
  have hcc : Chg (Cr p) w4 w6 := hc5.trans hc6
  have hx06 : Ext w w6 := (hx1.trans (hx2.trans (hxd.trans (hx3.trans hx4)))).new hcc (by omega)
  have hnop : ∀ k, From w.heap.size k → k < w4.heap.size → k ≠ p → ¬ Cr p k := fun k _ _ hn e => hn e
  have hgp : VRepP (fun k => w.heap.size ≤ k ∧ k ≠ p) w4 r.attrs vcs' := (VRepP.chg hx4 (fun _ _ _ e => e) hv3).mono fun k _ hk => by
    have hk : w2.drew.heap.size ≤ k := hk
    have e : w2.drew.heap.size = w2.heap.size := rfl
    exact ⟨by omega, by omega⟩
  have hv6 := VRepP.chg hcc (fun k hk _ e => hk.2 e) hgp
  have hs6 : SlAt w6 ST dv' r.deps.length (r.deps.map str) := hs4.chg hcc fun k c fr hk e => by
    have hk : k = p := hk
    subst hk
    rw [hA4.hb] at e
    simp only [Option.some.injEq, Obj.cells.injEq] at e
    exact absurd e.2.1 (by decide)
  have hl9 : (rcs r vcs' dv').length = 9 := by simp [h5']
  have hone : (rcs r vcs' dv').all one1 = true := by
    rw [List.all_eq_true]
    intro u hu
    simp only [List.mem_cons, List.mem_append, List.not_mem_nil, or_false] at hu
    rcases hu with rfl | rfl | rfl | hu | rfl
    · rfl
    · rfl
    · rfl
    · exact hv6.rep.one u hu
    · obtain ⟨q, c, e, _⟩ := hs6.shape; rw [e]; rfl
  refine ld_all hb6 hl9 ?_
  have hbq6 := hcc.at (hx4.at (hx3.at (hxd.at hbq id) id) id) fun e => by have e : q = p := e; omega
  refine st_agg_at hbq6 hl9 rfl hone fun w7 hz7 hb7 hc7 => ?_
  refine ld_all hb7 hl9 ?_
  have hgq : VRepP (fun k => w.heap.size ≤ k ∧ k ≠ q) w6 r.attrs vcs' := by
    have h1 : VRepP (fun k => w2.heap.size ≤ k) w6 r.attrs vcs' := VRepP.chg hcc (fun k hk _ e => by have e : k = p := e; have hk : w2.heap.size ≤ k := hk; omega) ((VRepP.chg hx4 (fun _ _ _ e => e) hv3).mono fun k _ hk => hk)
    exact h1.mono fun k _ hk => by
      have hk : w2.heap.size ≤ k := hk
      exact ⟨by omega, by omega⟩
  refine hK _ w7 (hx06.new hc7 (by omega)) ⟨vcs', dv', ST, rfl, (VRepP.chg hc7 (fun k hk _ e => hk.2 e) hgq).mono fun k _ hk => hk.1, hs6.chg hc7 fun k c fr hk e => ?_, fun _ k hk => by have := hg4 k hk; show w.heap.size ≤ k; have e : From w3.heap.size k := this; have e : w3.heap.size ≤ k := e; have e0 : w2.drew.heap.size = w2.heap.size := rfl; omega, hA.fits⟩
  have hk : k = q := hk
  subst hk
  rw [hbq6] at e
  simp only [Option.some.injEq, Obj.cells.injEq] at e
  exact absurd e.2.1 (by decide)
structure GrowF (w0 w : World) (p B : Nat) (ser : Int) (ov : Value) (xs : List RV) : Prop where
  ext : Ext w0 w
  hb : w.heap[p]? = some (.cells [i64 ser, ov].toArray StaT (0, 0))
  lo : w0.heap.size ≤ p
  lt : p < B
  le : B ≤ w.heap.size
  own : ∃ L, Own w B RT 9 ov xs.length L ∧ RRepsP (fun k => B ≤ k ∧ ov.ownBlock ≠ some k) w xs L
theorem GrowF.more {w0 w w' : World} {p B : Nat} {ser : Int} {ov : Value} {xs : List RV} (h : GrowF w0 w p B ser ov xs) (hx : Ext w w') : GrowF w0 w' p B ser ov xs :=
  ⟨h.ext.trans hx, hx.at h.hb id, h.lo, h.lt, Nat.le_trans h.le hx.size, let ⟨L, h1, h2⟩ := h.own; ⟨L, h1.ext hx, h2.ext hx⟩⟩
theorem GrowF.ld {w0 w : World} {p B : Nat} {ser : Int} {ov : Value} {xs : List RV} {K : Value → Prop} (h : GrowF w0 w p B ser ov xs) (hk : K ov) : ldW false 1 (.pointer (some ((⟨p, 0, none⟩ : Addr).add 1))) w K := by
  rw [ld_one]
  exact ⟨ov, by rw [add_mk, cell_eq, h.hb, cellO_some]; rfl, hk⟩
theorem GrowF.all {w0 w : World} {p B : Nat} {ser : Int} {ov : Value} {xs : List RV} {K : Value → Prop} (h : GrowF w0 w p B ser ov xs) (hk : K (.agg [i64 ser, ov].toArray)) : ldW true 2 (.pointer (some ⟨p, 0, none⟩)) w K := ld_all h.hb rfl hk
theorem GrowF.olt {w0 w : World} {p B : Nat} {ser : Int} {ov : Value} {xs : List RV} (h : GrowF w0 w p B ser ov xs) : ∀ k, ov.ownBlock = some k → k < w.heap.size := fun k hk => by obtain ⟨L, hO, _⟩ := h.own; exact (own_in hO hk).2.1
theorem GrowF.app {w0 w : World} {p B n : Nat} {ser : Int} {ov t : Value} {xs : List RV} {x : RV} {cs : List Value} {K : World → Prop} (h : GrowF w0 w p B ser ov xs) (ht : SlAt w RT t 1 cs) (hx : RRepP (fun k => n ≤ k) w x cs) (hn : B ≤ n) (hno : ∀ k, ov.ownBlock = some k → k < n) (hl : xs.length ≤ 100000)
    (hK : ∀ ov' w', GrowF w0 w' p B ser ov' (xs ++ [x]) → (∀ k, k < B → k ≠ p → w'.heap[k]? = w.heap[k]?) → K w') : semE Tryz.prog (Builtin.append_ #[22, 22] 22 #[ov, t]) w fun t2 w1 => stW 1 (.pointer (some ((⟨p, 0, none⟩ : Addr).add 1))) t2 w1 K := by
  obtain ⟨L, hO, hR⟩ := h.own
  have hlo := h.lo
  have hlt := h.lt
  refine append_own3 elem_r hO ht (m := 1) (by rw [hx.len]) hx.one (by omega) (by omega) h.le fun v' w1 hO1 hc1 hb1' => ?_
  have hge : ∀ k, ov.ownBlock = some k → B ≤ k := fun k hk => (own_in hO hk).1
  have hb1 := hc1.at h.hb fun e => by have := hge p e; omega
  have hall : RRepsP (fun k => (B ≤ k ∧ ov.ownBlock ≠ some k) ∧ k < w.heap.size) w (xs ++ [x]) (L ++ cs) := (hR.snoc (hx.mono fun k _ hk => ⟨by omega, fun e => by have := hno k e; have hk : n ≤ k := hk; omega⟩)).mono fun k hlt hk => ⟨hk, hlt⟩
  have hR1 := RRepsP.chg hc1 (fun k hk _ e => hk.1.2 e) hall
  have hx1 : Ext w0 w1 := h.ext.then hc1 fun k hk e => by have := hge k e; omega
  rw [add_mk, Nat.zero_add]
  refine st_at hb1 (by obtain ⟨q, c, e, _⟩ := hO1.sl.shape; rw [e]; rfl) (by simp) fun w2 hz2 hb2 hc2 => ?_
  refine hK v' w2 ⟨hx1.new hc2 hlo, by rw [hb2]; simp, hlo, hlt, by have := h.le; have := hc1.size; omega, L ++ cs, ?_, (RRepsP.chg hc2 (fun k hk _ e => by have := hk.1.1; have e : k = p := e; omega) hR1).mono fun k _ hk => ⟨hk.1.1, fun e => ?_⟩⟩ fun k hkB hkp => ?_
  · rw [List.length_append, List.length_singleton]
    exact hO1.chg hc2 fun k hk e => by have := hk.1; have e : k = p := e; omega
  · have := h.le
    have := hc1.size
    rw [hc2.heap k (by omega) hkp, hc1.heap k (by omega) fun e => by have := hge k e; omega]
  · rcases hb1' k e with h | h
    · exact hk.1.2 h
    · omega
def fewR (l : List RV) : Prop := l.length ≤ 10000 ∧ ∀ r ∈ l, fewM r.attrs = true ∧ r.deps.length ≤ 8796093022208
theorem sclone15_p {G : Nat → Prop} {ser : Int} {l : List RV} {cs : List Value} {w : World} {K : Value → World → Prop} (h : StRepP G w ser l cs) (hf : fewR l)
    (hK : ∀ ov L B w', Ext w w' → w.heap.size ≤ B → B ≤ w'.heap.size → Own w' B RT 9 ov l.length L → RRepsP (fun k => B ≤ k ∧ ov.ownBlock ≠ some k) w' l L → K (.agg [i64 ser, ov].toArray) w') : callF Tryz.prog 36 [.agg cs.toArray] w K := by
  obtain ⟨hl, hfr⟩ := hf
  refine W36_ok ?_
  unfold W36
  have h' := h.low
  refine box_st h' fun p w1 sv e1 hA hx1 hp => ?_
  refine alloc_new fun q w2 hq hz2 hbq hx2 => ?_
  have hA2 := hA.ext hx2
  have s1 := hx1.size
  have hplt := at_lt hA.hb
  have hqlt := at_lt hbq
  have hsl : ∃ T L, SlAt w T sv l.length L ∧ RRepsP (fun k => G k ∧ k < w.heap.size) w l L := by
    obtain ⟨sv0, T0, L0, e0, h6, h7⟩ := h'
    rw [e1] at e0
    cases e0
    exact ⟨T0, L0, h6, h7⟩
  obtain ⟨T0, L0, h6, h7⟩ := hsl
  simp only [fld_ptr]
  refine hA2.recs ?_
  rw [add_mk, Nat.zero_add]
  refine st_at hA2.hb rfl (by simp) fun w3 hz3 hb3 hc3 => ?_
  have hb3 : w3.heap[p]? = some (.cells [i64 ser, .slice none 0 0].toArray StaT (0, 0)) := by rw [hb3]; simp
  have hx03 : Ext w w3 := (hx1.trans hx2).new hc3 (by omega)
  have hbq3 := hc3.at hbq fun e => by have e : q = p := e; omega
  have hG3 : GrowF w w3 p w3.heap.size ser (.slice none 0 0) [] := ⟨hx03, hb3, by omega, by omega, Nat.le_refl _, [], ⟨rfl, .inl ⟨rfl, rfl⟩⟩, rfl⟩
  have hlen : ∀ K : Value → Prop, lenlW sv K ↔ K (i64 (l.length : Nat)) := fun K => lenl_at h6 K
  rw [hlen]
  refine LoopW.go (fun st w' => ∃ (i : Nat) (ov : Value), st = [i64 (i : Nat)] ∧ i ≤ l.length ∧ GrowF w w' p w3.heap.size ser ov (l.take i) ∧ (∀ k, k < w3.heap.size → k ≠ p → w'.heap[k]? = w3.heap[k]?)) (fun st _ => match st with | [.int _ i] => l.length - i.toNat | _ => 0)
    ⟨0, _, rfl, Nat.zero_le _, hG3, fun _ _ _ => rfl⟩ ?_
  rintro st g w5 ⟨i, ov, rfl, hi, hG, hk5⟩
  have hle5 := hG.le
  simp only [List.getD_cons_zero]
  rw [bin_lss, condW_dec]
  refine ⟨fun hlt => ?_, fun hge => ?_⟩
  · have hlt : i < l.length := by omega
    obtain ⟨x, hx⟩ : ∃ x, l[i]? = some x := ⟨_, List.getElem?_eq_getElem hlt⟩
    have htk : l.take (i + 1) = l.take i ++ [x] := by rw [List.take_add_one, hx]; rfl
    obtain ⟨hfx, hdx⟩ := hfr x (List.mem_of_getElem? hx)
    refine rec_ld (h6.ext hG.ext) (h7.ext hG.ext) hx fun es he => ?_
    obtain ⟨vcs, dv, Td, rfl, hv1, hd1, hd2, hd3⟩ := he
    have hone : (rcs x vcs dv).all one1 = true := RRepP.all_one (G := fun k => G k ∧ k < w.heap.size) ⟨vcs, dv, Td, rfl, hv1, hd1, hd2, hd3⟩
    have hl9 : (rcs x vcs dv).length = 9 := RRepP.len (G := fun k => G k ∧ k < w.heap.size) (w := w5) (r := x) ⟨vcs, dv, Td, rfl, hv1, hd1, hd2, hd3⟩
    refine alloc_new fun b w6 hb hz6 hbb hx6 => ?_
    refine st_agg_at hbb hl9 rfl hone fun w7 hz7 hb7 hc7 => ?_
    have hx57 : Ext w5 w7 := hx6.new hc7 (by omega)
    have hxd : Ext w7 w7.drew := Chg.drew (Chg.refl (fun _ => False) w7)
    have hx57d := hx57.trans hxd
    have hGd := hG.more hx57d
    have s57 := hx57.size
    have hB7 : RRepP (fun k => G k ∧ k < w.heap.size) w7.drew x (rcs x vcs dv) := ⟨vcs, dv, Td, rfl, VRepP.chg hx57d (fun _ _ _ e => e) hv1, hd1.ext hx57d, hd2, hd3⟩
    refine hGd.ld ?_
    refine ld_all (show w7.drew.heap[b]? = _ from hb7) hl9 ?_
    refine own_p hB7 hfx hdx fun es' w8 hx8 hr8 => ?_
    have hG8 := hGd.more hx8
    refine ⟨hG8.ld rfl, ?_⟩
    refine row_r hr8.len fun t w9 ht hx9 => ?_
    have hG9 := hG8.more hx9
    refine ⟨hG9.ld rfl, ?_⟩
    have e7 : w7.drew.heap.size = w7.heap.size := rfl
    refine hG9.app (n := w7.drew.heap.size) ht ((hr8.ext hx9).mono fun k _ hk => hk) (by omega) (fun k hk => by have := hG.olt k hk; omega) (by rw [List.length_take]; omega) fun ov' w11 hG11 hk11 => ?_
    rw [bin_add, up1 (by omega)]
    refine ⟨⟨i + 1, ov', rfl, by omega, by rw [htk]; exact hG11, fun k hk hkp => ?_⟩, ?_⟩
    · have s8 := hx8.size
      have s9 := hx9.size
      rw [hk11 k hk hkp, hx9.heap k (by omega) id, hx8.heap k (by omega) id, hx57d.heap k (by omega) id]
      exact hk5 k hk hkp
    · simp only [Int.toNat_natCast]; omega
  · obtain rfl : i = l.length := by omega
    rw [List.take_length] at hG
    refine hG.all ?_
    obtain ⟨L, g1, g2⟩ := hG.own
    refine st_agg_at (l := [i64 ser, ov]) (by rw [hk5 q (by omega) (by omega)]; exact hbq3) rfl rfl (by obtain ⟨q, c, e, _⟩ := g1.sl.shape; rw [e]; rfl) fun w12 hz12 hb12 hc12 => ?_
    refine ld_all hb12 rfl ?_
    exact hK ov L w3.heap.size w12 (hG.ext.new hc12 (by omega)) (by omega) (by omega) (g1.chg hc12 fun k hk e => by have := hk.1; have e : k = q := e; omega) (RRepsP.chg hc12 (fun k hk _ e => by have := hk.1; have e : k = q := e; omega) g2)
end
end Go.Proofs.YtnoepcndjljolaaGreatDoor
namespace Go.Proofs.YtnoepcndjljolaaGreatDoor
open Go Go.Eng Go.Num Go.RowKit
set_option maxRecDepth 100000
theorem zero_r : (Tryz.prog.info? RT).bind (·.zero) = some (.agg zr.toArray) := by kernel_rfl
section
variable [HX]
theorem cmpat_p {G : Nat → Prop} {x : RV} {a : Str} {cs : List Value} {w : World} {K : Value → World → Prop} (h : RRepP G w x cs) (hK : ∀ w', Ext w w' → K (i64 (cmpB x.addr a)) w') : callV Tryz.prog (.func (.func 69) #[] #[]) [.agg cs.toArray, str a] w K := by
  refine callV_fn ?_
  refine W69_ok ?_
  unfold W69
  refine box_r h fun p w1 vcs dv e1 hA hx1 hp => ?_
  simp only [fld_ptr]
  refine hA.ld (off := 0) (v := str x.addr) rfl ?_
  exact cmp_s (hK w1 hx1)
theorem rise_ltR {l : List RV} (h : RiseR l) {i j : Nat} {a b : RV} (ha : l[i]? = some a) (hb : l[j]? = some b) (hij : i < j) : Op.bytesLess a.addr b.addr = true := by
  obtain ⟨h1, e1⟩ := List.getElem?_eq_some_iff.1 ha
  obtain ⟨h2, e2⟩ := List.getElem?_eq_some_iff.1 hb
  have := List.pairwise_iff_getElem.1 h i j h1 h2 hij
  rw [e1, e2] at this
  exact this
def thereR (l : List RV) (a : Str) (i : Nat) : Bool := match l[i]? with | some x => decide (x.addr = a) | none => false
theorem rsearch_p {G : Nat → Prop} {T : TypeId} {sv : Value} {l : List RV} {L : List Value} {a : Str} {w : World} {K : Value → World → Prop} (h : SlAt w T sv l.length L) (hR : RRepsP G w l L) (hl : l.length ≤ 100000) (hr : RiseR l)
    (hK : ∀ i w', Ext w w' → AtR l a i → K (.tuple #[i64 (i : Nat), .bool (thereR l a i)]) w') : callF Tryz.prog 34 [sv, str a] w K := by
  refine W34_ok ?_
  unfold W34
  refine W68_ok ?_
  unfold W68
  rw [lenl_at h]
  refine LoopW.go (fun s w' => ∃ lo hi : Nat, lo ≤ hi ∧ hi ≤ l.length ∧ s = [i64 (lo : Nat), i64 (hi : Nat)] ∧ Ext w w' ∧ (∀ j x, j < lo → l[j]? = some x → Op.bytesLess x.addr a = true) ∧ (∀ j x, hi ≤ j → l[j]? = some x → Op.bytesLess x.addr a = false))
    (fun s _ => match s with | [.int _ lo, .int _ hi] => hi.toNat - lo.toNat | _ => 0) ⟨0, l.length, by omega, by omega, rfl, Chg.refl _ _, fun j x h => by omega, fun j x hj hx => by have := (List.getElem?_eq_some_iff.1 hx).1; omega⟩ ?_
  rintro s g w2 ⟨lo, hi, hle, hhi, rfl, hx2, h1, h2⟩
  simp only [List.getD_cons_zero, List.getD_cons_succ]
  rcases Nat.lt_or_ge lo hi with hlt | hge
  · have e1 : IntKind.i64.wrap ((lo : Int) + (hi : Int)) = ((lo + hi : Nat) : Int) := by rw [wrap_id (by omega) (by omega)]; omega
    have e2 : IntKind.u64.wrap ((lo + hi : Nat) : Int) = ((lo + hi : Nat) : Int) := u64_wrap (by omega) (by omega)
    have e3 : (((lo + hi : Nat) : Int).fdiv (2 ^ min (1 : Int).toNat IntKind.u64.bits)) = (((lo + hi) / 2 : Nat) : Int) := by
      have : (2 : Int) ^ min (1 : Int).toNat IntKind.u64.bits = 2 := by decide
      rw [this, Int.fdiv_eq_ediv_of_nonneg _ (by omega)]; omega
    have e4 : IntKind.i64.wrap (((lo + hi) / 2 : Nat) : Int) = (((lo + hi) / 2 : Nat) : Int) := wrap_id (by omega) (by omega)
    rw [bin_lss, decide_eq_true (by omega), condW_true, bin_add, e1, cvt_int, e2, bin_shr]
    refine ⟨by decide, ?_⟩
    rw [e3, cvt_int, e4]
    generalize hm : (lo + hi) / 2 = m at *
    obtain ⟨u, hu⟩ : ∃ u, l[m]? = some u := ⟨_, List.getElem?_eq_getElem (by omega)⟩
    refine rec_ld (h.ext hx2) (hR.ext hx2) hu fun cs hc => ?_
    refine cmpat_p hc fun w3 hx3 => ?_
    have hx23 := hx2.trans hx3
    rw [bin_lss, condW_dec]
    have hcmp : cmpB u.addr a < 0 ↔ Op.bytesLess u.addr a = true := by
      unfold cmpB
      by_cases e : Op.bytesLess u.addr a = true
      · rw [if_pos e]; simp [e]
      · rw [if_neg e]
        constructor
        · intro h; split at h <;> omega
        · intro h; exact absurd h e
    refine ⟨fun hl => ?_, fun hn => ?_⟩
    · rw [hcmp] at hl
      rw [bin_add, up1 (by omega)]
      refine ⟨⟨m + 1, hi, by omega, hhi, rfl, hx23, fun j x hj hx => ?_, h2⟩, by simp only [Int.toNat_natCast]; omega⟩
      rcases Nat.lt_or_ge j m with hj2 | hj2
      · exact less_trans (rise_ltR hr hx hu hj2) hl
      · obtain rfl : j = m := by omega
        rw [hu] at hx; cases hx; exact hl
    · rw [hcmp] at hn
      have hn : Op.bytesLess u.addr a = false := by simpa using hn
      refine ⟨⟨lo, m, by omega, by omega, rfl, hx23, h1, fun j x hj hx => ?_⟩, by simp only [Int.toNat_natCast]; omega⟩
      rcases Nat.lt_or_ge m j with hj2 | hj2
      · cases hb : Op.bytesLess x.addr a with
        | false => rfl
        | true => have := less_trans (rise_ltR hr hu hx hj2) hb; rw [hn] at this; cases this
      · obtain rfl : j = m := by omega
        rw [hu] at hx; cases hx; exact hn
  · obtain rfl : lo = hi := by omega
    have hat : AtR l a lo := ⟨hhi, fun r hr => by
      obtain ⟨j, hj, e⟩ := List.getElem_of_mem hr
      rw [List.length_take] at hj
      refine h1 j r (by omega) ?_
      rw [List.getElem_take] at e
      rw [List.getElem?_eq_getElem (by omega), e], fun r hr => by
      obtain ⟨j, hj, e⟩ := List.getElem_of_mem hr
      rw [List.length_drop] at hj
      refine h2 (lo + j) r (by omega) ?_
      rw [List.getElem_drop] at e
      rw [List.getElem?_eq_getElem (by omega), e]⟩
    rw [bin_lss, decide_eq_false (by omega), condW_false, bin_lss]
    simp only [isB_t]
    have hth : thereR l a lo = (decide ((lo : Int) < (l.length : Int)) && thereR l a lo) := by
      unfold thereR
      by_cases hlt : lo < l.length
      · rw [decide_eq_true (by omega), Bool.true_and]
      · rw [List.getElem?_eq_none (by omega)]
        simp
    refine GdW.act (thereR l a lo) (fun w' => Ext w2 w') (fun _ => Chg.refl _ _) (fun e J hJ => ?_) fun g w6 hx6 => ?_
    · simp only [decide_eq_true_eq] at e
      obtain ⟨u, hu⟩ : ∃ u, l[lo]? = some u := ⟨_, List.getElem?_eq_getElem (by omega)⟩
      refine rec_ld (h.ext hx2) (hR.ext hx2) hu fun cs hc => ?_
      refine cmpat_p hc fun w5 hx5 => ?_
      have e : decide (cmpB u.addr a = 0) = thereR l a lo := by
        unfold thereR
        rw [hu]
        exact decide_eq_decide.2 (cmpB_zero _ _)
      rw [bin_eql, e]
      exact hJ w5 hx5
    simp only [List.getD_cons_zero]
    rw [pick_gd_and, ← hth]
    simp only [ext_tuple]
    refine ⟨_, rfl, _, rfl, ?_⟩
    exact hK lo w6 (hx2.trans hx6) hat
theorem sfind_p {G : Nat → Prop} {ser : Int} {l : List RV} {a : Str} {cs : List Value} {w : World} {K : Value → World → Prop} (h : StRepP G w ser l cs) (hf : fewR l) (hr : RiseR l)
    (hK : ∀ i x cs' w', Ext w w' → AtR l a i → ((thereR l a i = true ∧ l[i]? = some x) ∨ (thereR l a i = false ∧ x = RV.zero)) → RRepP (fun k => w.heap.size ≤ k) w' x cs' → K (.tuple #[.agg cs'.toArray, .bool (thereR l a i)]) w') : callF Tryz.prog 12 [.agg cs.toArray, str a] w K := by
  obtain ⟨hl, hfr⟩ := hf
  refine W12_ok ?_
  unfold W12
  refine box_st h fun p w1 sv e1 hA hx1 hp => ?_
  refine alloc_new fun q w2 hq hz2 hbq hx2 => ?_
  have hA2 := hA.ext hx2
  have s1 := hx1.size
  have hplt := at_lt hA.hb
  have hqlt := at_lt hbq
  simp only [fld_ptr]
  refine hA2.recs ?_
  obtain ⟨T, L, g1, g2⟩ := hA2.sl
  refine rsearch_p g1 g2 (by omega) hr fun i w3 hx3 hat => ?_
  have hA3 := hA2.ext hx3
  have hx03 := hx1.trans (hx2.trans hx3)
  have s3 := hx3.size
  simp only [ext_tuple]
  refine ⟨_, rfl, _, rfl, ?_⟩
  rw [un_not, condW_b]
  have hbq3 := hx3.at hbq id
  refine ⟨fun e => ?_, fun e => ?_⟩
  · have e : thereR l a i = false := by simpa using e
    rw [put_nil]
    refine st_agg_at (l := zr) hbq3 rfl rfl rfl fun w5 hz5 hb5 hc5 => ?_
    refine ld_all hb5 rfl ?_
    have := hK i RV.zero zr w5 (hx03.new hc5 (by omega)) hat (.inr ⟨e, rfl⟩) ⟨[i64 0, .bool false, str [], .slice none 0 0, .slice none 0 0], .slice none 0 0, 0, rfl, ?_, SlAt.nil _ _, fun h => absurd rfl h, ⟨by simp [RV.zero], by simp [RV.zero], by simp [RV.zero], by simp [RV.zero], by simp [RV.zero]⟩⟩
    · rw [e] at this
      exact this
    · exact VRepP.mk (v := JV.null) (T1 := 0) (T2 := 0) (L := []) (SlAt.nil _ _) rfl (SlAt.nil _ _) (by simp [Fits, JV.null, JV.xs, JV.ks, JV.t]) (fun h => absurd rfl h) (fun h => absurd rfl h)
  · have e : thereR l a i = true := by simpa using e
    obtain ⟨x, hx⟩ : ∃ x, l[i]? = some x := by
      unfold thereR at e
      cases hx : l[i]? with
      | none => rw [hx] at e; cases e
      | some x => exact ⟨x, rfl⟩
    obtain ⟨hfx, hdx⟩ := hfr x (List.mem_of_getElem? hx)
    refine hA3.recs ?_
    obtain ⟨T3, L3, g3, g4⟩ := hA3.sl
    refine rec_ld g3 g4 hx fun es he => ?_
    refine own_p he hfx hdx fun es' w7 hx7 hr7 => ?_
    have hbq7 := hx7.at hbq3 id
    refine st_agg_at hbq7 hr7.len rfl hr7.all_one fun w8 hz8 hb8 hc8 => ?_
    refine ld_all hb8 hr7.len ?_
    have := hK i x es' w8 ((hx03.trans hx7).new hc8 (by omega)) hat (.inl ⟨e, hx⟩) ((RRepP.chg hc8 (fun k hk _ e => by have hk : w3.heap.size ≤ k := hk; have e : k = q := e; omega) hr7).mono fun k _ hk => by have hk : w3.heap.size ≤ k := hk; show w.heap.size ≤ k; omega)
    rw [e] at this
    exact this
theorem ov_r {w : World} {a b oa ob la ca lb cb : Nat} {x y : List Value} {T1 T2 : TypeId} {K : Value → World → Prop} (hne : a ≠ b) (ha : w.heap[a]? = some (.cells x.toArray T1 (0, 0))) (hb : w.heap[b]? = some (.cells y.toArray T2 (0, 0))) (hy : y ≠ []) (hK : K (.bool false) w) :
    callF Tryz.prog 73 [.slice (some ⟨a, oa, none⟩) la ca, .slice (some ⟨b, ob, none⟩) lb cb] w K := by
  unfold callF
  rw [run_callFunc_extern Tryz.func73 (by kernel_rfl) (by kernel_rfl) (by kernel_rfl) (e := Extern.SlicesOverlaps.overlaps #[22, 22] #[4]) (by kernel_rfl),
    Lib.run_overlaps_apart w 22 4 RT (by kernel_rfl) 9 (fun w => by kernel_rfl) ⟨a, oa, none⟩ ⟨b, ob, none⟩ la ca lb cb hne T1 T2 x.length y.length (shape_of ha) (shape_of hb) (fun e => hy (List.eq_nil_of_length_eq_zero e)) (by rw [frozen_eq, ha, frO_zero]) (by rw [frozen_eq, ha, frO_zero])]
  exact hK
theorem insert_r {w : World} {base tb n i : Nat} {v : Value} {xs c : List Value} {T2 : TypeId} {K : Value → World → Prop} (hown : Own w base RT 9 v n xs) (ht : w.heap[tb]? = some (.cells c.toArray T2 (0, 0))) (hc : c.length = 9) (h1 : ∀ u ∈ c, one1 u = true) (hx1 : ∀ u ∈ xs, one1 u = true)
    (hne : v.ownBlock ≠ some tb) (hi : i ≤ n) (hn : n ≤ 1000000) (hbase : base ≤ w.heap.size)
    (hK : ∀ v' w', Own w' base RT 9 v' (n + 1) (xs.take (i * 9) ++ c ++ xs.drop (i * 9)) → Chg (fun k => v.ownBlock = some k) w w' → (∀ k, v'.ownBlock = some k → v.ownBlock = some k ∨ w.heap.size ≤ k) → K v' w') :
    callF Tryz.prog 37 [v, i64 (i : Nat), .slice (some ⟨tb, 0, none⟩) 1 1] w K := by
  refine W37_ok ?_
  show InsW Tryz.prog 9 22 3 73 74 _ _ _ _ _
  exact insert_q elem_r (by kernel_rfl) ov_r hown ht hc h1 hx1 hne hi hn (by decide) hbase hK
end
end Go.Proofs.YtnoepcndjljolaaGreatDoor
namespace Go.Proofs.YtnoepcndjljolaaGreatDoor
open Go Go.Eng Go.Num Go.RowKit
set_option maxRecDepth 100000
section
variable [HX]
theorem delete_r {w : World} {base n i : Nat} {v : Value} {xs : List Value} {K : Value → World → Prop} (hown : Own w base RT 9 v n xs) (hx1 : ∀ u ∈ xs, one1 u = true) (hi : i < n) (hn : n ≤ 1000000)
    (hK : ∀ v' w', Own w' base RT 9 v' (n - 1) (xs.take (i * 9) ++ xs.drop ((i + 1) * 9)) → Chg (fun k => v.ownBlock = some k) w w' → v'.ownBlock = v.ownBlock → K v' w') :
    callF Tryz.prog 38 [v, i64 (i : Nat), i64 ((i + 1 : Nat) : Int)] w K := by
  obtain ⟨hl, ⟨rfl, h0⟩ | ⟨g, cap, cur, rfl, hb, hg, hnc, hcm, hsz, htk⟩⟩ := hown
  · omega
  refine W38_ok ?_
  unfold W38
  have hcl : cur.toList.length = cap * 9 := by simpa using hsz
  have hg2 : w.heap[g]? = some (.cells cur.toList.toArray RT (0, 0)) := by simpa using hg
  have mk : ∀ (v' : Value) (w' : World) (cs : List Value), v' = .slice (some ⟨g, 0, none⟩) (n - 1) cap → w'.heap[g]? = some (.cells cs.toArray RT (0, 0)) → cs.length = cap * 9 → cs.take ((n - 1) * 9) = xs.take (i * 9) ++ xs.drop ((i + 1) * 9) → Own w' base RT 9 v' (n - 1) (xs.take (i * 9) ++ xs.drop ((i + 1) * 9)) := fun v' w' cs hv hh hc ht =>
    ⟨by rw [List.length_append, List.length_take, List.length_drop, hl]; omega, .inr ⟨g, cap, cs.toArray, hv, hb, hh, by omega, hcm, by simpa using hc, ht⟩⟩
  simp only [lenl_sl]
  rw [sll_sl, bd_some]
  refine ⟨by omega, by omega, ?_⟩
  rw [bd_some]
  refine ⟨by omega, by omega, ?_⟩
  rw [bd_some]
  refine ⟨by omega, by omega, ?_⟩
  rw [bin_eql, decide_eq_false (by omega), condW_false]
  have hlo : ∀ K : Value → Prop, K (.slice (if cap = i + 1 then some ⟨g, 0, none⟩ else some ⟨g, (i + 1) * 9, none⟩) (n - (i + 1)) (cap - (i + 1))) → sllW 9 (.slice (some ⟨g, 0, none⟩) n cap) (some (i64 ((i + 1 : Nat) : Int))) none none K := fun K h => by
    rw [sll_sl, bd_none, bd_none, bd_some]
    refine ⟨by omega, by omega, ?_⟩
    rw [Int.toNat_natCast]
    by_cases e : cap = i + 1
    · rw [if_pos e] at h ⊢; exact h
    · rw [if_neg e] at h ⊢
      simpa [add_mk] using h
  have hhi : ∀ K : Value → Prop, K (.slice (some ⟨g, 0, none⟩) i cap) → sllW 9 (.slice (some ⟨g, 0, none⟩) n cap) none (some (i64 (i : Nat))) none K := fun K h => by
    rw [sll_sl, bd_none, bd_some]
    refine ⟨by omega, by omega, ?_⟩
    rw [bd_none, Int.toNat_natCast, if_neg (by omega)]
    simpa [add_mk] using h
  have hnews : (xs.drop ((i + 1) * 9)).length = (n - (i + 1)) * 9 := by rw [List.length_drop, hl, Nat.sub_mul]
  have hxcur : ∀ j, j < n * 9 → cur.toList[j]? = xs[j]? := fun j hj => by rw [← htk, List.getElem?_take, if_pos hj]
  obtain ⟨ti, tz, ht1, ht2, ht3, ht4, ht5⟩ := elem_r.get
  have app : ∀ J : Value → World → Prop, J (.slice (some ⟨g, 0, none⟩) (n - 1) cap) (w.drew.setCells g (i * 9) (xs.drop ((i + 1) * 9))) →
      semE Tryz.prog (Builtin.append_ #[22, 22] 22 #[.slice (some ⟨g, 0, none⟩) i cap, .slice (if cap = i + 1 then some ⟨g, 0, none⟩ else some ⟨g, (i + 1) * 9, none⟩) (n - (i + 1)) (cap - (i + 1))]) w.drew J := fun J hJ => by
    have hsrc : ∃ a : Addr, (if cap = i + 1 then some (⟨g, 0, none⟩ : Addr) else some ⟨g, (i + 1) * 9, none⟩) = some a ∧ ∀ j u, (xs.drop ((i + 1) * 9))[j]? = some u → w.drew.cell? (a.add j) = some u := by
      by_cases e : cap = i + 1
      · refine ⟨⟨g, 0, none⟩, by rw [if_pos e], fun j u hu => ?_⟩
        have hz0 : n - (i + 1) = 0 := by omega
        have hnil : xs.drop ((i + 1) * 9) = [] := List.eq_nil_of_length_eq_zero (by rw [hnews, hz0])
        rw [hnil] at hu
        simp at hu
      · refine ⟨⟨g, (i + 1) * 9, none⟩, by rw [if_neg e], fun j u hu => ?_⟩
        have hj := (List.getElem?_eq_some_iff.1 hu).1
        rw [hnews] at hj
        have hsum : (i + 1) * 9 + (n - (i + 1)) * 9 = n * 9 := by rw [← Nat.add_mul]; congr 1; omega
        rw [add_mk, cell_eq, heap_drew, hg2, cellO_some, List.getElem?_toArray, hxcur _ (by omega), ← hu, List.getElem?_drop]
    obtain ⟨a, ea, hcell⟩ := hsrc
    rw [ea]
    unfold semE
    have hr := run_append_room_cells (P := Tryz.prog) (w := w.drew) 22 22 RT ti elem_r.und ht1 g 0 i cap a (n - (i + 1)) (cap - (i + 1)) (xs.drop ((i + 1) * 9)) (by rw [ht3]; exact hnews) hcell (fun u hu => one1_oneCell' (hx1 u (List.mem_of_mem_drop hu))) (by omega)
      (fun j hj => by
        rw [cell_eq, heap_drew, hg2, cellO_some, ht3]
        rw [hnews] at hj
        have : 0 + i * 9 + j < cap * 9 := by
          have h2 : i * 9 + (n - (i + 1)) * 9 = (n - 1) * 9 := by rw [← Nat.add_mul]; congr 1; omega
          have h3 : (n - 1) * 9 ≤ cap * 9 := Nat.mul_le_mul_right _ (by omega)
          omega
        simp only [List.getElem?_toArray]
        rw [List.getElem?_eq_getElem (by omega)]
        rfl) (fun j hj => by rw [frozen_eq, heap_drew, hg2, frO_zero])
    rw [hr, ht3, Nat.zero_add, show i + (n - (i + 1)) = n - 1 by omega]
    exact hJ
  have hfit : i * 9 + (xs.drop ((i + 1) * 9)).length ≤ cur.toList.length := by
    rw [hnews, hcl, ← Nat.add_mul]
    exact Nat.mul_le_mul_right _ (by omega)
  obtain ⟨q1, q2, q3⟩ := set_cells (xs.drop ((i + 1) * 9)) (i * 9) w.drew cur.toList hg2 hfit
  have hn1 : (n - 1) * 9 = i * 9 + (xs.drop ((i + 1) * 9)).length := by rw [hnews, ← Nat.add_mul]; congr 1; omega
  generalize hcs2 : cur.toList.take (i * 9) ++ xs.drop ((i + 1) * 9) ++ cur.toList.drop (i * 9 + (xs.drop ((i + 1) * 9)).length) = cs2 at *
  have hcs2l : cs2.length = cap * 9 := by
    rw [← hcs2]
    simp only [List.length_append, List.length_take, List.length_drop, hcl]
    rw [hl]
    have : i * 9 ≤ cap * 9 := Nat.mul_le_mul_right _ (by omega)
    rw [List.length_drop, hl, hcl] at hfit
    omega
  have hcs2t : cs2.take ((n - 1) * 9) = xs.take (i * 9) ++ xs.drop ((i + 1) * 9) := by
    have hle : i * 9 ≤ cur.toList.length := by rw [hcl]; exact Nat.mul_le_mul_right _ (by omega)
    have hlA : (cur.toList.take (i * 9) ++ xs.drop ((i + 1) * 9)).length = i * 9 + (xs.drop ((i + 1) * 9)).length := by rw [List.length_append, List.length_take, Nat.min_eq_left hle]
    rw [← hcs2, hn1, List.take_append_of_le_length (by omega), List.take_of_length_le (by omega)]
    congr 1
    rw [← htk, List.take_take, Nat.min_eq_left (Nat.mul_le_mul_right _ (by omega))]
  refine JoinW.cut (fun st w' => st = [.slice (some ⟨g, 0, none⟩) (n - 1) cap] ∧ w' = w.drew.setCells g (i * 9) (xs.drop ((i + 1) * 9))) ?_ ?_
  · refine ⟨?_, ?_⟩
    · refine hhi _ ?_
      refine hlo _ ?_
      exact app _ ⟨rfl, rfl⟩
    · refine hlo _ ?_
      refine hhi _ ?_
      exact app _ ⟨rfl, rfl⟩
  rintro st gg w4 ⟨rfl, rfl⟩
  simp only [List.getD_cons_zero]
  rw [lenl_sl, sll_sl, bd_none, bd_some]
  refine ⟨by omega, by omega, ?_⟩
  rw [bd_some]
  refine ⟨by omega, by rw [Int.toNat_natCast]; omega, ?_⟩
  rw [Int.toNat_natCast, Int.toNat_natCast, if_neg (by omega), show n - (n - 1) = 1 by omega]
  have hz : tz = .agg zr.toArray := by
    have h1 := zero_r
    rw [ht1] at h1
    simp only [Option.bind_some] at h1
    rw [ht2] at h1
    exact Option.some.inj h1
  generalize hW4 : w.drew.setCells g (i * 9) (xs.drop ((i + 1) * 9)) = w4 at *
  have hzc : (Builtin.zeroCells tz.cells 1).toList = zr := by rw [hz]; kernel_rfl
  have hoff : ((some (⟨g, 0, none⟩ : Addr)).map (·.add ((n - 1) * 9))) = some ⟨g, (n - 1) * 9, none⟩ := by simp [add_mk]
  rw [hoff]
  have hfit2 : (n - 1) * 9 + zr.length ≤ cs2.length := by
    rw [hcs2l]
    have h3 : (n - 1) * 9 + 9 ≤ cap * 9 := by rw [← Nat.succ_mul]; exact Nat.mul_le_mul_right _ (by omega)
    exact h3
  obtain ⟨c1, c2, c3⟩ := set_cells zr ((n - 1) * 9) w4 cs2 q1 hfit2
  have hone : ∀ v ∈ zr, v.oneCell' = true := fun v hv => one1_oneCell' (List.all_eq_true.1 (show zr.all one1 = true by rfl) v hv)
  have hst := run_storeCells_cells (P := Tryz.prog) g ((n - 1) * 9) zr 0 w4 (fun j hj => by
      rw [cell_eq, q1, cellO_some, List.getElem?_toArray, List.getElem?_eq_getElem (by rw [Nat.add_zero]; omega)]
      rfl) (fun j hj => by rw [frozen_eq, q1, frO_zero]) hone
  have hzv : (zeroValue RT).run Tryz.prog w4 = .ok tz w4 := by rw [hz]; kernel_rfl
  have hr : (Builtin.clear_ #[22] 0 #[.slice (some ⟨g, (n - 1) * 9, none⟩) 1 (cap - (n - 1))]).run Tryz.prog w4 = .ok (.tuple #[]) (w4.setCells g ((n - 1) * 9) zr) := by
    simp only [Nat.add_zero] at hst
    simp [Builtin.clear_, run_bind, run_underlying' elem_r.und, hzv, hzc, hst, run_pure]
  unfold semE
  rw [hr]
  refine hK _ _ (mk _ _ _ rfl c1 (by simp only [List.length_append, List.length_take, List.length_drop]; omega) ?_) ?_ rfl
  · rw [List.append_assoc, List.take_append_of_le_length (by rw [List.length_take]; omega), List.take_take, Nat.min_self]
    exact hcs2t
  · have hxd : Ext w w.drew := Chg.drew (Chg.refl (fun _ => False) w)
    have h12 : Chg (fun k => k = g) w (w4.setCells g ((n - 1) * 9) zr) := ((Chg.of_ext hxd).trans q2).trans c2
    exact h12.mono fun k _ e => by rw [e]; rfl
end
end Go.Proofs.YtnoepcndjljolaaGreatDoor
namespace Go.Proofs.YtnoepcndjljolaaGreatDoor
open Go Go.Eng Go.Num Go.RowKit
set_option maxRecDepth 100000
theorem there_t {l : List RV} {a : Str} {i : Nat} (h : thereR l a i = true) : ∃ x, l[i]? = some x ∧ x.addr = a := by
  unfold thereR at h
  cases hx : l[i]? with
  | none => rw [hx] at h; cases h
  | some x => rw [hx] at h; exact ⟨x, rfl, by simpa using h⟩
theorem there_f {l : List RV} {a : Str} {i : Nat} (h : thereR l a i = false) : ∀ x, l[i]? = some x → x.addr ≠ a := fun x hx => by
  unfold thereR at h
  rw [hx] at h
  simpa using h
section
variable [HX]
theorem row_rb {w : World} {cs : List Value} {K : Value → World → Prop} (hc : cs.length = 9) (hK : ∀ a w', a = w.heap.size → w'.heap.size = w.heap.size + 1 → w'.heap[a]? = some (.cells cs.toArray RT (0, 0)) → Ext w w' → K (.slice (some ⟨a, 0, none⟩) 1 1) w') : bslW RT 1 zr [(0, 9, .agg cs.toArray)] w K := by
  unfold bslW
  have hp : ∀ K : List Value → Prop, K cs → putW zr [(0, 9, .agg cs.toArray)] K := by
    intro K hK
    refine ⟨by simp [Value.cells, hc], by simp, ?_⟩
    have : List.take 0 zr ++ ((Value.agg cs.toArray).cells.toList ++ List.drop (0 + 9) zr) = cs := by simp [Value.cells]
    rw [this]
    exact hK
  refine hp _ ?_
  exact row_new fun a w' h1 h2 h3 h4 _ => hK a w' h1 h2 h3 h4
theorem set_r {w : World} {B n i : Nat} {v : Value} {xs c : List Value} {K : World → Prop} (hO : Own w B RT 9 v n xs) (hi : i < n) (hc : c.length = 9) (h1 : c.all one1 = true)
    (hK : ∀ w', Own w' B RT 9 v n (xs.take (i * 9) ++ c ++ xs.drop ((i + 1) * 9)) → Chg (fun k => v.ownBlock = some k) w w' → K w') : ixaW none 9 v (i64 (i : Nat)) fun t => stW 9 t (.agg c.toArray) w K := by
  obtain ⟨hl, ⟨rfl, h0⟩ | ⟨g, cap, cur, rfl, hb, hg, hnc, hcm, hsz, htk⟩⟩ := hO
  · omega
  have hcl : cur.toList.length = cap * 9 := by simpa using hsz
  have h9 : i * 9 + 9 = (i + 1) * 9 := by omega
  have hle : (i + 1) * 9 ≤ n * 9 := Nat.mul_le_mul_right _ hi
  have hle2 : n * 9 ≤ cap * 9 := Nat.mul_le_mul_right _ hnc
  have e : cur.toList = cur.toList.take (i * 9) ++ (cur.toList.drop (i * 9)).take 9 ++ cur.toList.drop ((i + 1) * 9) := by
    conv => lhs; rw [← List.take_append_drop (i * 9) cur.toList, ← List.take_append_drop 9 (cur.toList.drop (i * 9))]
    rw [List.drop_drop, h9, List.append_assoc]
  have hg2 : w.heap[g]? = some (.cells (cur.toList.take (i * 9) ++ (cur.toList.drop (i * 9)).take 9 ++ cur.toList.drop ((i + 1) * 9)).toArray RT (0, 0)) := by rw [← e]; simpa using hg
  rw [ixa_slice]
  refine ⟨by omega, by omega, ?_⟩
  rw [add_mk, Nat.zero_add, Int.toNat_natCast]
  refine st_agg_mid (pre := cur.toList.take (i * 9)) (post := cur.toList.drop ((i + 1) * 9)) hg2 (by rw [List.length_take]; omega) hc (by rw [List.length_take, List.length_drop]; omega) h1 fun w' hz' hb' hc' => ?_
  refine hK w' ⟨by simp only [List.length_append, List.length_take, List.length_drop]; omega, .inr ⟨g, cap, _, rfl, hb, hb', hnc, hcm, ?_, ?_⟩⟩ (hc'.mono fun k _ e => by rw [e]; rfl)
  · simp only [List.size_toArray, List.length_append, List.length_take, List.length_drop]; omega
  · have h2 : (cur.toList.drop ((i + 1) * 9)).take (n * 9 - (i + 1) * 9) = xs.drop ((i + 1) * 9) := by
      rw [← htk, List.drop_take]
    have h3 : cur.toList.take (i * 9) = xs.take (i * 9) := by rw [← htk, List.take_take, Nat.min_eq_left (by omega)]
    show (cur.toList.take (i * 9) ++ c ++ cur.toList.drop ((i + 1) * 9)).take (n * 9) = _
    rw [List.take_append, List.take_of_length_le (by simp only [List.length_append, List.length_take]; omega)]
    have h4 : n * 9 - (cur.toList.take (i * 9) ++ c).length = n * 9 - (i + 1) * 9 := by simp only [List.length_append, List.length_take]; omega
    rw [h4, h2, h3]
theorem without_p {G : Nat → Prop} {ser : Int} {l : List RV} {a : Str} {cs : List Value} {w : World} {K : Value → World → Prop} (h : StRepP G w ser l cs) (hf : fewR l) (hr : RiseR l)
    (hK : ∀ cs' w', Ext w w' → StRepP (fun _ => True) w' ser (dropR l a) cs' → K (.agg cs'.toArray) w') : callF Tryz.prog 16 [.agg cs.toArray, str a] w K := by
  have hl := hf.1
  refine W16_ok ?_
  unfold W16
  refine box_st h fun p w1 sv e1 hA hx1 hp => ?_
  refine alloc_new fun q w2 hq hz2 hbq hx2 => ?_
  have hA2 := hA.ext hx2
  have s1 := hx1.size
  have hplt := at_lt hA.hb
  have hqlt := at_lt hbq
  refine hA2.all ?_
  refine sclone15_p hA2.rep hf fun ov L B w3 hx3 hB hB3 hO3 hR3 => ?_
  have hA3 := hA2.ext hx3
  have hone3 : [i64 ser, ov].all one1 = true := by obtain ⟨q, c, e, _⟩ := hO3.sl.shape; rw [e]; rfl
  refine st_agg_at (l := [i64 ser, ov]) hA3.hb rfl rfl hone3 fun w4 hz4 hb4 hc4 => ?_
  have hx04 : Ext w w4 := (hx1.trans (hx2.trans hx3)).new hc4 (by omega)
  have hO4 := hO3.chg hc4 fun k hk e => by have := hk.1; have e : k = p := e; omega
  have hR4 := RRepsP.chg hc4 (fun k hk _ e => by have := hk.1; have e : k = p := e; omega) hR3
  have hbq4 := hc4.at (hx3.at hbq id) fun e => by have e : q = p := e; omega
  have ldo : ∀ {w' : World} {u : Value} {K : Value → Prop}, w'.heap[p]? = some (.cells [i64 ser, u].toArray StaT (0, 0)) → K u → ldW false 1 (.pointer (some ((⟨p, 0, none⟩ : Addr).add 1))) w' K := fun {w' u K} hb hk => by
    rw [ld_one]
    exact ⟨u, by rw [add_mk, cell_eq, hb, cellO_some]; rfl, hk⟩
  simp only [fld_ptr]
  refine JoinW.cut (fun st w' => ∃ (ov' : Value) (L' : List Value), st = [] ∧ Ext w w' ∧ w'.heap[p]? = some (.cells [i64 ser, ov'].toArray StaT (0, 0)) ∧ w'.heap[q]? = w4.heap[q]? ∧ Own w' B RT 9 ov' (dropR l a).length L' ∧ RRepsP (fun k => B ≤ k) w' (dropR l a) L') ?_ ?_
  · refine ldo hb4 ?_
    refine rsearch_p hO4.sl hR4 (by omega) hr fun i w6 hx6 hat => ?_
    simp only [ext_tuple]
    refine ⟨_, rfl, _, rfl, ?_⟩
    have hb6 := hx6.at hb4 id
    have hO6 := hO4.ext hx6
    have hR6 := hR4.ext hx6
    rw [condW_b]
    refine ⟨fun e => ?_, fun e => ?_⟩
    · obtain ⟨x, hx, hxa⟩ := there_t e
      obtain ⟨hi, _⟩ := List.getElem?_eq_some_iff.1 hx
      refine ldo hb6 ?_
      rw [bin_add, up1 (by omega)]
      refine delete_r hO6 hR6.one hi (by omega) fun ov' w7 hO7 hc7 hob => ?_
      have hb7 := hc7.at hb6 fun e => by have := (own_in hO6 e).1; omega
      have hno : ∀ k, k < B → ¬ (ov.ownBlock = some k) := fun k hk e => by have := (own_in hO6 e).1; omega
      obtain ⟨r1, r2⟩ := RRepsP.cut i hR6
      obtain ⟨r3, r4⟩ := RRepsP.cut (i + 1) hR6
      have hR7 := RRepsP.chg hc7 (fun k hk _ e => hk.2 e) (r1.app r4)
      rw [drop_there hr hat hx hxa] at hR7
      have hlen : l.length - 1 = (dropR l a).length := by
        rw [← drop_there hr hat hx hxa, List.length_append, List.length_take, List.length_drop]; omega
      rw [hlen] at hO7
      rw [add_mk, Nat.zero_add]
      refine st_at hb7 (by obtain ⟨q, c, e, _⟩ := hO7.sl.shape; rw [e]; rfl) (by simp) fun w8 hz8 hb8 hc8 => ?_
      have hx07 : Ext w w7 := (hx04.trans hx6).then hc7 fun k hk => hno k (by have := hx04.size; omega)
      refine ⟨ov', _, trivial, hx07.new hc8 (by omega), by rw [hb8]; simp, ?_, hO7.chg hc8 fun k hk e => by have := hk.1; have e : k = p := e; omega, (RRepsP.chg hc8 (fun k hk _ e => by have := hk.1; have e : k = p := e; omega) hR7).mono fun k _ hk => hk.1⟩
      have s6 := hx6.size
      have s7 := hc7.size
      rw [hc8.heap q (by omega) (fun e => by have e : q = p := e; omega), hc7.heap q (by omega) (hno q (by omega)), hx6.heap q (by omega) id]
    · rw [← drop_none hr hat (there_f e)]
      exact ⟨ov, L, trivial, hx04.trans hx6, hb6, hx6.heap q (by omega) id, hO6, hR6.mono fun k _ hk => hk.1⟩
  rintro st g w9 ⟨ov', L', rfl, hx9, hb9, hq9, hO9, hR9⟩
  refine ld_all hb9 rfl ?_
  refine st_agg_at (l := [i64 ser, ov']) (by rw [hq9]; exact hbq4) rfl rfl (by obtain ⟨q, c, e, _⟩ := hO9.sl.shape; rw [e]; rfl) fun w10 hz10 hb10 hc10 => ?_
  refine ld_all hb10 rfl ?_
  refine hK _ w10 (hx9.new hc10 (by omega)) ⟨ov', RT, L', rfl, (hO9.chg hc10 fun k hk e => by have := hk.1; have e : k = q := e; omega).sl, (RRepsP.chg hc10 (fun k hk _ e => by have hk : B ≤ k := hk; have e : k = q := e; omega) hR9).mono fun k _ _ => trivial⟩
theorem with_p {G H : Nat → Prop} {ser : Int} {l : List RV} {r : RV} {cs rs : List Value} {w : World} {K : Value → World → Prop} (h : StRepP G w ser l cs) (hrr : RRepP H w r rs) (hf : fewR l) (hfr : fewM r.attrs = true ∧ r.deps.length ≤ 8796093022208) (hr : RiseR l)
    (hK : ∀ cs' w', Ext w w' → StRepP (fun _ => True) w' ser (putR l r) cs' → K (.agg cs'.toArray) w') : callF Tryz.prog 14 [.agg cs.toArray, .agg rs.toArray] w K := by
  have hl := hf.1
  refine W14_ok ?_
  unfold W14
  refine box_st h fun p w1 sv e1 hA hx1 hp => ?_
  refine box_r (hrr.low.ext hx1) fun pr w2 vcs dv e2 hB hx2 hpr => ?_
  refine alloc_new fun q w3 hq hz3 hbq hx3 => ?_
  have hA3 := (hA.ext hx2).ext hx3
  have hB3 := hB.ext hx3
  have s1 := hx1.size
  have s2 := hx2.size
  have hplt := at_lt hA.hb
  have hprlt := at_lt hB.hb
  have hqlt := at_lt hbq
  refine hA3.all ?_
  refine sclone15_p hA3.rep hf fun ov L B w4 hx4 hB4 hBw4 hO4 hR4 => ?_
  have hA4 := hA3.ext hx4
  have hone4 : [i64 ser, ov].all one1 = true := by obtain ⟨q, c, e, _⟩ := hO4.sl.shape; rw [e]; rfl
  refine st_agg_at (l := [i64 ser, ov]) hA4.hb rfl rfl hone4 fun w5 hz5 hb5 hc5 => ?_
  have hx05 : Ext w w5 := (hx1.trans (hx2.trans (hx3.trans hx4))).new hc5 (by omega)
  have hO5 := hO4.chg hc5 fun k hk e => by have := hk.1; have e : k = p := e; omega
  have hR5 := RRepsP.chg hc5 (fun k hk _ e => by have := hk.1; have e : k = p := e; omega) hR4
  have hbq5 := hc5.at (hx4.at hbq id) fun e => by have e : q = p := e; omega
  have hrec : ∀ {w' : World}, Ext w w' → w'.heap[pr]? = w3.heap[pr]? → RcB (fun k => H k ∧ k < w.heap.size) RT w' pr r vcs dv := fun {w'} hx hp => by
    obtain ⟨vcs0, dv0, T, e0, h1, h2, h3, h4⟩ := hrr.low
    rw [e2] at e0
    have hl5 := hB.val.rep.len
    have hl50 := h1.rep.len
    simp only [rcs, List.cons.injEq, true_and] at e0
    obtain ⟨rfl, e3⟩ := List.append_inj e0 (by omega)
    cases e3
    exact ⟨by rw [hp]; exact hB3.hb, VRepP.chg hx (fun _ _ _ e => e) h1, ⟨T, h2.ext hx⟩, h3, h4⟩
  have hpr5 : w5.heap[pr]? = w3.heap[pr]? := by rw [hc5.heap pr (by omega) (fun e => by have e : pr = p := e; omega), hx4.heap pr (by omega) id]
  have hB5 := hrec hx05 hpr5
  have ldo : ∀ {w' : World} {u : Value} {K : Value → Prop}, w'.heap[p]? = some (.cells [i64 ser, u].toArray StaT (0, 0)) → K u → ldW false 1 (.pointer (some ((⟨p, 0, none⟩ : Addr).add 1))) w' K := fun {w' u K} hb hk => by
    rw [ld_one]
    exact ⟨u, by rw [add_mk, cell_eq, hb, cellO_some]; rfl, hk⟩
  simp only [fld_ptr]
  refine ldo hb5 ?_
  refine hB5.ld (off := 0) (v := str r.addr) rfl ?_
  refine rsearch_p hO5.sl hR5 (by omega) hr fun i w6 hx6 hat => ?_
  simp only [ext_tuple]
  refine ⟨_, rfl, _, rfl, ?_⟩
  have hxd : Ext w6 w6.drew := Chg.drew (Chg.refl (fun _ => False) w6)
  have hx5d := hx6.trans hxd
  have hx0d := hx05.trans hx5d
  have hbd := hx5d.at hb5 id
  have hOd := hO5.ext hx5d
  have hRd := hR5.ext hx5d
  have hBd := hB5.ext hx5d
  have hno : ∀ k, k < B → ¬ (ov.ownBlock = some k) := fun k hk e => by have := (own_in hO5 e).1; omega
  have holt : ∀ k, ov.ownBlock = some k → k < w5.heap.size := fun k hk => (own_in hO5 hk).2.1
  have s5d := hx5d.size
  refine JoinW.cut (fun st w' => ∃ (ov' : Value) (L' : List Value), st = [] ∧ Ext w w' ∧ w'.heap[p]? = some (.cells [i64 ser, ov'].toArray StaT (0, 0)) ∧ w'.heap[q]? = w5.heap[q]? ∧ Own w' B RT 9 ov' (putR l r).length L' ∧ RRepsP (fun k => B ≤ k) w' (putR l r) L') ?_ ?_
  · rw [condW_b]
    refine ⟨fun e => ?_, fun e => ?_⟩
    · obtain ⟨x, hx, hxa⟩ := there_t e
      obtain ⟨hi, _⟩ := List.getElem?_eq_some_iff.1 hx
      refine ldo hbd ?_
      refine hBd.all ?_
      refine own_p hBd.rep hfr.1 hfr.2 fun es w8 hx8 hr8 => ?_
      have hb8 := hx8.at hbd id
      refine ⟨ldo hb8 rfl, ?_⟩
      have hO8 := hOd.ext hx8
      have hR8 := hRd.ext hx8
      refine set_r hO8 hi hr8.len hr8.all_one fun w9 hO9 hc9 => ?_
      have s8 := hx8.size
      obtain ⟨r1, _⟩ := RRepsP.cut i hR8
      obtain ⟨_, r4⟩ := RRepsP.cut (i + 1) hR8
      have hr8' : RRepP (fun k => B ≤ k ∧ ov.ownBlock ≠ some k) w8 r es := hr8.mono fun k _ hk => by
        have hk : w6.drew.heap.size ≤ k := hk
        exact ⟨by omega, fun e => by have := holt k e; omega⟩
      have hall := (r1.snoc hr8').app r4
      have hR9 := RRepsP.chg hc9 (fun k hk _ e => hk.2 e) hall
      have hput := put_there hr hat hx hxa
      have hput2 : l.take i ++ [r] ++ l.drop (i + 1) = putR l r := by rw [← hput]; simp
      rw [hput2] at hR9
      have hlen : l.length = (putR l r).length := by rw [← hput2]; simp only [List.length_append, List.length_take, List.length_drop, List.length_singleton]; omega
      rw [hlen] at hO9
      refine ⟨ov, _, rfl, (hx0d.trans hx8).then hc9 fun k hk => hno k (by have := hx05.size; omega), hc9.at hb8 (hno p (by omega)), ?_, hO9, hR9.mono fun k _ hk => hk.1⟩
      rw [hc9.heap q (by omega) (hno q (by omega)), hx8.heap q (by omega) id, hx5d.heap q (by omega) id]
    · refine ldo hbd ?_
      refine hBd.all ?_
      refine own_p hBd.rep hfr.1 hfr.2 fun es w10 hx10 hr10 => ?_
      have hb10 := hx10.at hbd id
      refine ⟨ldo hb10 rfl, ?_⟩
      refine row_rb hr10.len fun tb w11 htb hz11 hbt hx11 => ?_
      have hb11 := hx11.at hb10 id
      refine ⟨ldo hb11 rfl, ?_⟩
      have hx1011 := hx10.trans hx11
      have hO11 := hOd.ext hx1011
      have hR11 := hRd.ext hx1011
      have s10 := hx10.size
      have s11 := hx11.size
      refine insert_r hO11 hbt hr10.len hr10.one hR11.one (fun e => by have := holt tb e; omega) hat.le (by omega) (by omega) fun ov' w12 hO12 hc12 hob => ?_
      obtain ⟨r1, r2⟩ := RRepsP.cut i hR11
      have hr11 : RRepP (fun k => B ≤ k ∧ ov.ownBlock ≠ some k) w11 r es := (hr10.ext hx11).mono fun k _ hk => by
        have hk : w6.drew.heap.size ≤ k := hk
        exact ⟨by omega, fun e => by have := holt k e; omega⟩
      have hall := (r1.snoc hr11).app r2
      have hR12 := RRepsP.chg hc12 (fun k hk _ e => hk.2 e) hall
      have hput := put_new hr hat (there_f e)
      have hput2 : l.take i ++ [r] ++ l.drop i = putR l r := by rw [← hput]; simp
      rw [hput2] at hR12
      have hlen : l.length + 1 = (putR l r).length := by rw [← hput2]; have := hat.le; simp only [List.length_append, List.length_take, List.length_drop, List.length_singleton]; omega
      rw [hlen] at hO12
      have hb12 := hc12.at hb11 (hno p (by omega))
      rw [add_mk, Nat.zero_add]
      refine st_at hb12 (by obtain ⟨q, c, e, _⟩ := hO12.sl.shape; rw [e]; rfl) (by simp) fun w13 hz13 hb13 hc13 => ?_
      have hx12 : Ext w w12 := (hx0d.trans hx1011).then hc12 fun k hk => hno k (by have := hx05.size; omega)
      have s12 := hc12.size
      refine ⟨ov', _, rfl, hx12.new hc13 (by omega), by rw [hb13]; simp, ?_, hO12.chg hc13 fun k hk e => by have := hk.1; have e : k = p := e; omega, (RRepsP.chg hc13 (fun k hk _ e => by have := hk.1; have e : k = p := e; omega) hR12).mono fun k _ hk => hk.1⟩
      rw [hc13.heap q (by omega) (fun e => by have e : q = p := e; omega), hc12.heap q (by omega) (hno q (by omega)), hx1011.heap q (by omega) id, hx5d.heap q (by omega) id]
  rintro st g w14 ⟨ov', L', rfl, hx14, hb14, hq14, hO14, hR14⟩
  refine ld_all hb14 rfl ?_
  refine st_agg_at (l := [i64 ser, ov']) (by rw [hq14]; exact hbq5) rfl rfl (by obtain ⟨q, c, e, _⟩ := hO14.sl.shape; rw [e]; rfl) fun w15 hz15 hb15 hc15 => ?_
  refine ld_all hb15 rfl ?_
  refine hK _ w15 (hx14.new hc15 (by omega)) ⟨ov', RT, L', rfl, (hO14.chg hc15 fun k hk e => by have := hk.1; have e : k = q := e; omega).sl, (RRepsP.chg hc15 (fun k hk _ e => by have hk : B ≤ k := hk; have e : k = q := e; omega) hR14).mono fun k _ _ => trivial⟩
end
end Go.Proofs.YtnoepcndjljolaaGreatDoor
namespace Go.Proofs.YtnoepcndjljolaaGreatDoor
open Go Go.Eng Go.Num Go.RowKit
set_option maxRecDepth 100000
def attrsM (v : JV) : Bool := decide (v.k = 6) && goodM v && knownM v && decide ((encM 1 20 31 3 v).2 ≠ 31)
def prevOk (prev : Option Str) (d : Str) : Bool := match prev with | none => true | some p => Op.bytesLess p d
def depOk (prev : Option Str) : List Str → Bool
  | [] => true
  | d :: ds => nm15M d && prevOk prev d && depOk (some d) ds
def recOk1 (r : RV) : Bool := nm15M r.addr && nm15M r.typ && nm15M r.id && attrsM r.attrs && depOk none r.deps
def recsOk (prev : Option Str) : List RV → Bool
  | [] => true
  | r :: l => prevOk prev r.addr && recOk1 r && recsOk (some r.addr) l
def goodS (ser : Int) (l : List RV) : Bool := decide (0 ≤ ser) && decide (ser ≤ 1099511627776) && recsOk none l
def prevAt (l : List Str) : Nat → Option Str
  | 0 => none
  | i + 1 => l[i]?
theorem depOk_step {l : List Str} {i : Nat} {d : Str} (h : l[i]? = some d) : depOk (prevAt l i) (l.drop i) = (nm15M d && prevOk (prevAt l i) d && depOk (prevAt l (i + 1)) (l.drop (i + 1))) := by
  obtain ⟨hi, e⟩ := List.getElem?_eq_some_iff.1 h
  rw [List.drop_eq_getElem_cons hi, e]
  simp only [depOk, prevAt, h]
theorem recsOk_step {l : List RV} {i : Nat} {r : RV} (h : l[i]? = some r) : recsOk (prevAt (l.map RV.addr) i) (l.drop i) = (prevOk (prevAt (l.map RV.addr) i) r.addr && recOk1 r && recsOk (prevAt (l.map RV.addr) (i + 1)) (l.drop (i + 1))) := by
  obtain ⟨hi, e⟩ := List.getElem?_eq_some_iff.1 h
  rw [List.drop_eq_getElem_cons hi, e]
  simp only [recsOk, prevAt, List.getElem?_map, h, Option.map_some]
section
variable [HX]
theorem keep_r {G : Nat → Prop} {w : World} {r : RV} {cs : List Value} {K : Value → World → Prop} (h : RRepP G w r cs) (hK : ∀ p w' vcs dv, cs = rcs r vcs dv → RcB G RT w' p r vcs dv → Ext w w' → w.heap.size ≤ p → K (.pointer (some ⟨p, 0, none⟩)) w') :
    allocW RT zr w fun t1 w2 => stW 9 t1 (.agg cs.toArray) w2 fun w3 => K t1 w3 := by
  obtain ⟨vcs, dv, T, e, h1, h2, h3, h4⟩ := id h
  refine alloc_new fun p w1 hp hz hb hx => ?_
  refine st_agg_at hb h.len rfl h.all_one fun w2 hz2 hb2 hc2 => ?_
  have hx2 : Ext w w2 := hx.new hc2 (by omega)
  exact hK p w2 vcs dv e ⟨by rw [← e]; exact hb2, VRepP.chg hx2 (fun _ _ _ e => e) h1, ⟨T, h2.ext hx2⟩, h3, h4⟩ hx2 (by omega)
theorem name15_any {s : Str} {w : World} {K : Value → World → Prop} (hK : K (.bool (nm15M s)) w) : callF Tryz.prog 32 [str s] w K := by
  refine W32_ok ?_
  unfold W32
  rw [lens_str, bin_gtr]
  simp only [isB_t]
  refine GdW.look (decide (s.length ≤ 16384)) (fun _ J hJ => ?_) fun g => ?_
  · rw [lens_str, bin_leq, decide_eq_decide.2 (show ((s.length : Nat) : Int) ≤ 16384 ↔ s.length ≤ 16384 by omega)]
    exact hJ
  simp only [List.getD_cons_zero]
  rw [pick_gd_and]
  simp only [isB_t]
  refine GdW.look (utfM s) (fun hc J hJ => ?_) fun g => ?_
  · have hl : s.length ≤ 4611686018427387904 := by
      simp only [Bool.and_eq_true, decide_eq_true_eq] at hc
      omega
    refine bad_ref hl fun r hr => ?_
    have e : decide (r < 0) = utfM s := by
      have h1 : decide ((0 : Int) ≤ r) = !utfM s := hr
      by_cases h0 : (0 : Int) ≤ r
      · rw [decide_eq_true h0] at h1
        rw [decide_eq_false (by omega)]
        cases hu : utfM s with
        | false => rfl
        | true => rw [hu] at h1; cases h1
      · rw [decide_eq_false h0] at h1
        rw [decide_eq_true (by omega)]
        cases hu : utfM s with
        | true => rfl
        | false => rw [hu] at h1; cases h1
    rw [bin_lss, e]
    exact hJ
  simp only [List.getD_cons_zero]
  rw [pick_gd_and]
  have e : decide ((0 : Int) < ((s.length : Nat) : Int)) = decide (0 < s.length) := decide_eq_decide.2 (by omega)
  rw [e]
  exact hK
theorem attrs15_ref {v : JV} {cs : List Value} {w : World} {K : Value → World → Prop} (h : VRep w v cs) (hK : ∀ w', Ext w w' → K (.bool (attrsM v)) w') : callF Tryz.prog 33 [.agg cs.toArray] w K := by
  refine W33_ok ?_
  unfold W33
  refine box_val h fun a w1 sv kv hB hx1 _ => ?_
  refine hB.ld fun cs1 h1 => ?_
  refine encode_ref h1 fun w2 hx2 => ?_
  simp only [ext_tuple]
  refine ⟨_, rfl, _, rfl, ?_⟩
  have hB2 := hB.ext hx2
  simp only [fld_ptr]
  rw [ld_one]
  refine ⟨i64 v.k, by rw [add_mk, cell_eq, hB2.hb, cellO_some]; rfl, ?_⟩
  rw [bin_eql]
  simp only [isB_t]
  refine GdW.act (goodM v) (fun w' => Ext w2 w') (fun _ => Chg.refl _ _) (fun _ J hJ => ?_) fun g w5 hx5 => ?_
  · refine hB2.ld fun cs2 h2 => ?_
    exact good_ref h2 hJ
  simp only [List.getD_cons_zero]
  rw [pick_gd_and]
  simp only [isB_t]
  have hB5 := hB2.ext hx5
  refine GdW.act (knownM v) (fun w' => Ext w5 w') (fun _ => Chg.refl _ _) (fun _ J hJ => ?_) fun g w8 hx8 => ?_
  · refine hB5.ld fun cs2 h2 => ?_
    exact known_ref v h2 hJ
  simp only [List.getD_cons_zero]
  rw [pick_gd_and]
  simp only [isB_t]
  refine GdW.look (decide ((encM 1 20 31 3 v).2 ≠ 31)) (fun _ J hJ => ?_) fun g => ?_
  · rw [bin_neq]; exact hJ
  simp only [List.getD_cons_zero]
  rw [pick_gd_and]
  exact hK w8 (hx1.trans (hx2.trans (hx5.trans hx8)))
theorem text_at {w : World} {T : TypeId} {sv : Value} {l : List Str} {i : Nat} {x : Str} (h : SlAt w T sv l.length (l.map str)) (hx : l[i]? = some x) :
    ∃ p : Addr, (∀ K : Value → Prop, K (.pointer (some p)) → ixaW none 1 sv (i64 (i : Nat)) K) ∧ (∀ (w' : World) (K : Value → Prop), w'.heap = w.heap → K (str x) → ldW false 1 (.pointer (some p)) w' K) := by
  obtain ⟨hi, _⟩ := List.getElem?_eq_some_iff.1 hx
  obtain ⟨q, cap, rfl, h1, h2, h3⟩ := h
  obtain ⟨b, off, c, fr, rfl, hb, hcs⟩ := h3 (by intro e; have := congrArg List.length e; simp at this; rw [this] at hi; simp at hi)
  refine ⟨⟨b, off + i * 1, none⟩, fun K hK => ?_, fun w' K hw hK => ?_⟩
  · rw [ixa_slice, Int.toNat_natCast, add_mk]
    exact ⟨by omega, by omega, hK⟩
  · rw [ld_one]
    refine ⟨_, ?_, hK⟩
    rw [cell_eq, hw, hb, cellO_some]
    show c[off + i * 1]? = _
    have := hcs i (by simpa using hi)
    rw [Nat.mul_one, this, List.getElem?_map, hx]
    rfl
theorem good15_ref {G : Nat → Prop} {ser : Int} {l : List RV} {cs : List Value} {w : World} {K : Value → World → Prop} (h : StRepP G w ser l cs) (hl : l.length ≤ 9223372036854775807) (hK : ∀ w', Ext w w' → K (.bool (goodS ser l)) w') :
    callF Tryz.prog 11 [.agg cs.toArray] w K := by
  refine W11_ok ?_
  unfold W11
  refine box_st h fun p w1 sv e1 hA hx1 hp => ?_
  simp only [fld_ptr]
  refine hA.ser ?_
  rw [bin_lss]
  simp only [isB_f]
  refine GdW.look (decide (1099511627776 < ser)) (fun _ J hJ => ?_) fun g => ?_
  · refine hA.ser ?_
    rw [bin_gtr]
    exact hJ
  simp only [List.getD_cons_zero]
  rw [pick_gd_or, condW_b]
  refine ⟨fun e => ?_, fun e => ?_⟩
  · have eg : goodS ser l = false := by
      unfold goodS
      simp only [Bool.or_eq_true, decide_eq_true_eq] at e
      rcases e with e | e
      · rw [decide_eq_false (show ¬ (0 ≤ ser) by omega)]; rfl
      · rw [decide_eq_false (show ¬ (ser ≤ 1099511627776) by omega)]; simp
    have := hK w1 hx1
    rw [eg] at this
    exact this
  have eg : goodS ser l = recsOk none l := by
    unfold goodS
    simp only [Bool.or_eq_false_iff, decide_eq_false_iff_not] at e
    rw [decide_eq_true (show 0 ≤ ser by omega), decide_eq_true (show ser ≤ 1099511627776 by omega)]; simp
  rw [eg] at hK
  clear eg
  refine hA.recs ?_
  rw [hA.len]
  refine loop_up l.length (fun i w' => Ext w1 w' ∧ recsOk none l = recsOk (prevAt (l.map RV.addr) i) (l.drop i)) ⟨Chg.refl _ _, rfl⟩ ?_ ?_
  · rintro i w5 g L hi ⟨hx5, hr⟩ hL
    obtain ⟨x, hx⟩ : ∃ x, l[i]? = some x := ⟨_, List.getElem?_eq_getElem hi⟩
    rw [recsOk_step hx] at hr
    have hA5 := hA.ext hx5
    simp only [List.getD_cons_zero]
    rw [bin_lss, decide_eq_true (by omega), condW_true]
    refine hA5.recs ?_
    obtain ⟨T5, L5, s5, r5⟩ := hA5.sl
    refine rec_ld s5 r5 hx fun rs hrs => ?_
    refine keep_r hrs fun q w7 vcs dv er hB7 hx7 hq => ?_
    have hx57 := hx5.trans hx7
    have hxd : Ext w7 w7.drew := Chg.drew (Chg.refl (fun _ => False) w7)
    have hx1d := hx57.trans hxd
    have hAd := hA.ext hx1d
    have hBd := hB7.ext hxd
    have hfalse : ∀ {w' : World}, Ext w1 w' → recsOk none l = false → K (.bool false) w' := fun {w'} hx' hf => by
      have := hK w' (hx1.trans hx')
      rw [hf] at this
      exact this
    rw [bin_gtr]
    simp only [isB_t]
    -- the order
    have hord : ∀ {Q : Value → Prop}, Q (.bool (!prevOk (prevAt (l.map RV.addr) i) x.addr)) →
        (GqW (decide ((0 : Int) < (i : Int))) (fun k8 => k8 (.pointer (some ((⟨p, 0, none⟩ : Addr).add 1)))) fun t28 =>
        GqW (decide ((0 : Int) < (i : Int))) (fun k9 => ldW false 1 t28 w7.drew k9) fun t29 =>
        GqW (decide ((0 : Int) < (i : Int))) (fun k10 => k10 (i64 (i : Nat))) fun t30 =>
        GqW (decide ((0 : Int) < (i : Int))) (fun k11 => binW .sub t30 (.int .i64 1) k11) fun t31 =>
        GqW (decide ((0 : Int) < (i : Int))) (fun k12 => ixaW none 9 t29 t31 k12) fun t32 =>
        GqW (decide ((0 : Int) < (i : Int))) (fun k13 => fldW 0 t32 k13) fun t33 =>
        GqW (decide ((0 : Int) < (i : Int))) (fun k14 => ldW false 1 t33 w7.drew k14) fun t34 =>
        GqW (decide ((0 : Int) < (i : Int))) (fun k15 => fldW 0 (.pointer (some ⟨q, 0, none⟩)) k15) fun t35 =>
        GqW (decide ((0 : Int) < (i : Int))) (fun k16 => ldW false 1 t35 w7.drew k16) fun t36 =>
        GqW (decide ((0 : Int) < (i : Int))) (fun k17 => binW .geq t34 t36 k17) fun t37 =>
        pickW (.bool (decide ((0 : Int) < (i : Int)))) t37 (.bool false) Q) := by
      intro Q hQ
      cases i with
      | zero =>
        rw [decide_eq_false (show ¬ ((0 : Int) < ((0 : Nat) : Int)) by omega)]
        simp only [GqW_f, pick_f]
        exact hQ
      | succ j =>
        rw [decide_eq_true (show ((0 : Int) < ((j + 1 : Nat) : Int)) by omega)]
        simp only [GqW_t, pick_t, fld_ptr]
        obtain ⟨y, hy⟩ : ∃ y, l[j]? = some y := ⟨_, List.getElem?_eq_getElem (by omega)⟩
        obtain ⟨Td, Ld, sd, rd⟩ := hAd.sl
        obtain ⟨pa, h1, h2, _⟩ := rec_at sd rd hy
        refine ⟨_, rfl, _, hAd.recs rfl, _, rfl, i64 (j : Nat), ?_, _, h1 _ rfl, .pointer (some (pa.add 0)), rfl, _, h2 w7.drew _ rfl rfl, _, rfl, _, hBd.ld (off := 0) (v := str x.addr) rfl rfl, .bool (!Op.bytesLess y.addr x.addr), ?_, ?_⟩
        · rw [bin_sub, show ((j + 1 : Nat) : Int) - 1 = (j : Int) by omega, wrap_id (by omega) (by omega)]
        · rw [bin_sge]
        · simp only [prevAt, prevOk, List.getElem?_map, hy, Option.map_some] at hQ
          exact hQ
    refine hord ?_
    have hfl : ∀ {off : Nat} {K : Value → Prop}, K (.pointer (some ((⟨q, 0, none⟩ : Addr).add off))) → fldW off (.pointer (some ⟨q, 0, none⟩)) K := fun h => h
    have hdall : ∀ {w' : World}, Ext w7.drew w' → Ext w1 w' := fun h => hx1d.trans h
    cases h1 : prevOk (prevAt (l.map RV.addr) i) x.addr with
    | false =>
      rw [h1] at hr
      simp only [Bool.not_false, isB_f, Bool.not_true, GqW_f, GeW_f, pick_t, condW_true]
      exact hfalse (hdall (Chg.refl _ _)) hr
    | true =>
    simp only [Bool.not_true, isB_f, Bool.not_false, GqW_t, pick_f]
    rw [h1, Bool.true_and] at hr
    refine ⟨_, hfl rfl, _, hBd.ld (off := 0) (v := str x.addr) rfl rfl, ⟨fun _ => ?_, fun e => by cases e⟩⟩
    refine name15_any ?_
    refine ⟨_, rfl, ?_⟩
    unfold recOk1 at hr
    cases h2 : nm15M x.addr with
    | false =>
      rw [h2] at hr
      simp only [Bool.not_false, isB_f, Bool.not_true, GqW_f, GeW_f, pick_t, condW_true]
      exact hfalse (hdall (Chg.refl _ _)) hr
    | true =>
    simp only [Bool.not_true, isB_f, Bool.not_false, GqW_t, pick_f]
    rw [h2, Bool.true_and] at hr
    refine ⟨_, hfl rfl, _, hBd.ld (off := 1) (v := str x.typ) rfl rfl, ⟨fun _ => ?_, fun e => by cases e⟩⟩
    refine name15_any ?_
    refine ⟨_, rfl, ?_⟩
    cases h3 : nm15M x.typ with
    | false =>
      rw [h3] at hr
      simp only [Bool.not_false, isB_f, Bool.not_true, GqW_f, GeW_f, pick_t, condW_true]
      exact hfalse (hdall (Chg.refl _ _)) hr
    | true =>
    simp only [Bool.not_true, isB_f, Bool.not_false, GqW_t, pick_f]
    rw [h3, Bool.true_and] at hr
    refine ⟨_, hfl rfl, _, hBd.ld (off := 2) (v := str x.id) rfl rfl, ⟨fun _ => ?_, fun e => by cases e⟩⟩
    refine name15_any ?_
    refine ⟨_, rfl, ?_⟩
    cases h4 : nm15M x.id with
    | false =>
      rw [h4] at hr
      simp only [Bool.not_false, isB_f, Bool.not_true, GqW_f, GeW_f, pick_t, condW_true]
      exact hfalse (hdall (Chg.refl _ _)) hr
    | true =>
    simp only [Bool.not_true, isB_f, Bool.not_false, GqW_t, pick_f]
    rw [h4, Bool.true_and] at hr
    refine ⟨_, hfl rfl, _, hBd.attrs rfl, ⟨fun _ => ?_, fun e => by cases e⟩⟩
    refine attrs15_ref hBd.val.rep fun w9 hx9 => ?_
    refine ⟨_, rfl, ?_⟩
    have hx19 := hx1d.trans hx9
    cases h5 : attrsM x.attrs with
    | false =>
      rw [h5] at hr
      simp only [Bool.not_false, condW_true]
      exact hfalse hx19 hr
    | true =>
    simp only [Bool.not_true, condW_false]
    rw [h5, Bool.true_and] at hr
    have hd8 : (rcs x vcs dv)[8]? = some dv := by
      have h5 := hBd.val.rep.len
      show (vcs ++ [dv])[5]? = some dv
      rw [List.getElem?_append_right (by omega), h5]
      rfl
    have hB9 := hBd.ext hx9
    obtain ⟨Td, sd⟩ := hB9.sl
    have hdl := hB9.fits.deps
    refine hB9.ld (off := 8) hd8 ?_
    rw [(lenl_at sd _)]
    refine loop_up x.deps.length (fun k w' => Ext w9 w' ∧ depOk none x.deps = depOk (prevAt x.deps k) (x.deps.drop k)) ⟨Chg.refl _ _, rfl⟩ ?_ ?_
    · rintro k w10 g L2 hk ⟨hx10, hdk⟩ hL2
      obtain ⟨d, hd⟩ : ∃ d, x.deps[k]? = some d := ⟨_, List.getElem?_eq_getElem hk⟩
      rw [depOk_step hd] at hdk
      have hxd2 : Ext w10 w10.drew := Chg.drew (Chg.refl (fun _ => False) w10)
      have hx1d2 := hx19.trans (hx10.trans hxd2)
      have hBe := hB9.ext (hx10.trans hxd2)
      have se := sd.ext (hx10.trans hxd2)
      simp only [List.getD_cons_zero]
      rw [bin_lss, decide_eq_true (by omega), condW_true]
      refine hBe.ld (off := 8) hd8 ?_
      refine text_ld se hd ?_
      refine name15_any ?_
      rw [un_not]
      cases h6 : nm15M d with
      | false =>
        rw [h6] at hdk
        simp only [Bool.false_and] at hdk
        rw [hdk] at hr
        simp only [Bool.not_false, isB_f, isB_u, Bool.not_true, GqW_f, pick_t, condW_true]
        exact hfalse hx1d2 hr
      | true =>
      simp only [Bool.not_true, isB_f, Bool.not_false, GqW_t, pick_f]
      rw [h6, Bool.true_and] at hdk
      refine ⟨_, rfl, .bool (decide ((0 : Int) < (k : Int))), by rw [bin_gtr], _, rfl, ?_⟩
      simp only [isB_t]
      cases k with
      | zero =>
        rw [decide_eq_false (show ¬ ((0 : Int) < ((0 : Nat) : Int)) by omega)]
        simp only [GqW_f, pick_f]
        refine ⟨_, rfl, ?_⟩
        rw [condW_false, bin_add, up1 (by omega)]
        have hdk : depOk none x.deps = depOk (prevAt x.deps 1) (x.deps.drop 1) := by rw [hdk]; rfl
        exact hL2 _ ⟨hx10.trans hxd2, hdk⟩
      | succ j =>
        rw [decide_eq_true (show ((0 : Int) < ((j + 1 : Nat) : Int)) by omega)]
        simp only [GqW_t, pick_t]
        obtain ⟨y, hy⟩ : ∃ y, x.deps[j]? = some y := ⟨_, List.getElem?_eq_getElem (by omega)⟩
        obtain ⟨pa, a1, a2⟩ := text_at se hy
        obtain ⟨pb, b1, b2⟩ := text_at se hd
        refine ⟨_, hfl rfl, _, hBe.ld (off := 8) hd8 rfl, _, rfl, i64 (j : Nat), ?_, _, a1 _ rfl, _, a2 _ _ rfl rfl, _, hfl rfl, _, hBe.ld (off := 8) hd8 rfl, _, rfl, _, b1 _ rfl, _, b2 _ _ rfl rfl, .bool (!Op.bytesLess y d), by rw [bin_sge], _, rfl, ?_⟩
        · rw [bin_sub, show ((j + 1 : Nat) : Int) - 1 = (j : Int) by omega, wrap_id (by omega) (by omega)]
        have ep : prevOk (prevAt x.deps (j + 1)) d = Op.bytesLess y d := by simp only [prevAt, hy, prevOk]
        rw [ep] at hdk
        rw [condW_b]
        refine ⟨fun e => ?_, fun e => ?_⟩
        · have e : Op.bytesLess y d = false := by simpa using e
          rw [e] at hdk
          simp only [Bool.false_and] at hdk
          rw [hdk] at hr
          exact hfalse hx1d2 hr
        · have e : Op.bytesLess y d = true := by simpa using e
          rw [e, Bool.true_and] at hdk
          rw [bin_add, up1 (by omega)]
          exact hL2 _ ⟨hx10.trans hxd2, hdk⟩
    · rintro w10 g L2 ⟨hx10, hdk⟩
      simp only [List.getD_cons_zero]
      rw [bin_lss, decide_eq_false (by omega), condW_false]
      rw [List.drop_length] at hdk
      rw [hdk] at hr
      rw [bin_add, up1 (by omega)]
      exact hL w10 ⟨hx5.trans (hx7.trans (hxd.trans (hx9.trans hx10))), by rw [hr]; rfl⟩
  · rintro w5 g L ⟨hx5, hr⟩
    simp only [List.getD_cons_zero]
    rw [bin_lss, decide_eq_false (by omega), condW_false]
    have := hK w5 (hx1.trans hx5)
    rw [hr, List.drop_length] at this
    exact this
end
end Go.Proofs.YtnoepcndjljolaaGreatDoor
namespace Go.Proofs.YtnoepcndjljolaaGreatDoor
open Go Go.Eng Go.Num Go.RowKit
set_option maxRecDepth 100000
section
variable [HX]
theorem vobject_p {l : List (Str × JV)} {kv xv : Value} {T : TypeId} {w : World} {K : Value → World → Prop} (hk : SlAt w T kv (l.map (·.1)).length ((l.map (·.1)).map str)) (hx : ItemsAt w xv (l.map (·.2))) (hn : l.length ≤ 1000) (hr : Rise (l.map (·.1)))
    (hkl : ∀ p ∈ l, p.1.length ≤ 9223372036854775807) (hf : ∀ p ∈ l, fewW p.2 = true) (hK : ∀ cs w', Ext w w' → VRepP (From w.heap.size) w' (mkO l) cs → K (.tuple #[.agg cs.toArray, i64 0]) w') :
    callF Tryz.prog 50 [kv, xv] w K := by
  refine W50_ok ?_
  unfold W50
  have hkn : (l.map (·.1)).length = l.length := List.length_map _
  have hxn : (l.map (·.2)).length = l.length := List.length_map _
  refine alloc_new fun q w1 hq hz1 hbq hx1 => ?_
  rw [(lenl_at hk _), hx.len, bin_neq, decide_eq_false (by rw [hkn, hxn]; simp), condW_false]
  simp only [put_int, put_nil, List.length_cons, List.length_nil, List.set_cons_zero]
  refine ⟨by omega, ?_⟩
  refine alloc_new fun p w6 hp hz6 hbp hx6 => ?_
  refine st_agg_at (l := [i64 6, .bool false, str [], .slice none 0 0, .slice none 0 0]) hbp rfl rfl rfl fun w7 hz7 hbp7 hc7 => ?_
  have s1 := hx1.size
  have s6 := hx6.size
  have hx07 : Ext w w7 := (hx1.trans hx6).new hc7 (by omega)
  have hbq7 := hc7.at (hx6.at hbq id) fun e => by have e : q = p := e; omega
  have hplt := at_lt hbp7
  rw [(lenl_at hk _), hkn]
  refine LoopW.go (fun st w' => ∃ (i : Nat) (sv kv' : Value) (L : List Value), st = [i64 (i : Nat)] ∧ i ≤ l.length ∧ Ext w w' ∧ w'.heap[q]? = w7.heap[q]? ∧ w'.heap[p]? = some (.cells [i64 6, .bool false, str [], sv, kv'].toArray VT (0, 0)) ∧ w7.heap.size ≤ w'.heap.size ∧ OwnP w' w7.heap.size (mkO (l.take i)) sv kv' L)
    (fun st _ => match st with | [.int _ i] => l.length - i.toNat | _ => 0)
    ⟨0, .slice none 0 0, .slice none 0 0, [], rfl, Nat.zero_le _, hx07, rfl, hbp7, Nat.le_refl _, ⟨rfl, .inl ⟨rfl, rfl⟩⟩, by simp [mkO, JV.xs, VRepsP], ⟨rfl, .inl ⟨rfl, rfl⟩⟩, ⟨by simp [mkO, JV.xs], by simp [mkO, JV.ks], by simp [mkO, JV.t], fun s hs => by simp [mkO, JV.ks] at hs⟩⟩ ?_
  rintro st g w9 ⟨i, sv, kv', L, rfl, hi, hx9, hq9, hb9, s9, hO9⟩
  simp only [List.getD_cons_zero]
  have htl : (l.take i).length = i := by rw [List.length_take]; omega
  have htk : (l.take i).map (·.1) = (l.map (·.1)).take i := List.map_take
  have hrt : Rise ((l.take i).map (·.1)) := by rw [htk]; exact hr.sublist (List.take_sublist _ _)
  have hrep9 : VRep w9 (mkO (l.take i)) [i64 6, .bool false, str [], sv, kv'] := hO9.rep.rep
  have hone : [i64 6, .bool false, str [], sv, kv'].all one1 = true := hrep9.all_one
  rw [bin_lss, condW_dec]
  refine ⟨fun hlt => ?_, fun hge => ?_⟩
  · have hlt : i < l.length := by omega
    obtain ⟨y, hy⟩ : ∃ y, l[i]? = some y := ⟨_, List.getElem?_eq_getElem hlt⟩
    have hyk : (l.map (·.1))[i]? = some y.1 := by rw [List.getElem?_map, hy]; rfl
    have hyx : (l.map (·.2))[i]? = some y.2 := by rw [List.getElem?_map, hy]; rfl
    have hmem : y ∈ l := List.mem_of_getElem? hy
    have hlow : ∀ p ∈ l.take i, Op.bytesLess p.1 y.1 = true := fun p hp => by
      obtain ⟨j, hj⟩ := List.getElem?_of_mem hp
      have hji : j < i := by have := (List.getElem?_eq_some_iff.1 hj).1; omega
      rw [List.getElem?_take_of_lt hji] at hj
      exact rise_lt hr (i := j) (j := i) (by rw [List.getElem?_map, hj]; rfl) hyk hji
    have hno : y.1 ∉ (l.take i).map (·.1) := fun hm => by
      obtain ⟨p, hp, e⟩ := List.mem_map.1 hm
      have := hlow p hp
      rw [e, less_irr] at this
      cases this
    refine text_ld (hk.ext hx9) hyk ?_
    refine ld_all hb9 rfl ?_
    refine getnone_p hrep9 rfl (by simp [mkO, JV.ks]; omega) hrt (fun j hj => by rw [show idxK (mkO (l.take i)).ks y.1 = none from idxK_none.2 hno] at hj; cases hj) fun cs1 w10 hx10 hr10 => ?_
    simp only [ext_tuple]
    refine ⟨_, rfl, _, rfl, ?_⟩
    refine copy_new hr10 fun a12 w12 sv1 kv1 hB12 hx12 => ?_
    have hx912 := hx10.trans hx12
    rw [condW_false]
    have hxd : Ext w12 w12.drew := Chg.drew (Chg.refl (fun _ => False) w12)
    have hx9d := hx912.trans hxd
    have hbd := hx9d.at hb9 id
    refine ld_all hbd rfl ?_
    refine (hx.ext (hx9.trans hx9d)).at hyx fun cs2 h2 => ?_
    refine clone_w y.2 (hf y hmem) h2 fun cs3 w16 hx16 h3 => ?_
    have hx916 := hx9d.trans hx16
    refine ⟨ld_all (hx16.at hbd id) rfl rfl, ?_⟩
    have hO16 := hO9.ext hx916
    have s16 := hx16.size
    have s9d := hx9d.size
    have hlt9 : ∀ k, sv.ownBlock = some k ∨ kv'.ownBlock = some k → w7.heap.size ≤ k ∧ k < w9.heap.size := fun k hk => by
      rcases hk with hk | hk
      · exact ⟨(own_in hO9.items hk).1, (own_in hO9.items hk).2.1⟩
      · exact ⟨(own_in hO9.keys hk).1, (own_in hO9.keys hk).2.1⟩
    refine put_o hO16 (h3.mono fun k _ hk => ?_) hrt hno (by omega) (hkl y hmem) (by omega) fun sv2 kv2 L2 w17 hc17 hO17 => ?_
    · have hk : w12.drew.heap.size ≤ k := hk
      exact ⟨by omega, fun e => by have := (hlt9 k (.inl e)).2; omega, fun e => by have := (hlt9 k (.inr e)).2; omega⟩
    rw [insP_last hlow] at hO17
    have e17 : l.take i ++ [(y.1, y.2)] = l.take (i + 1) := by rw [List.take_add_one, hy]; rfl
    rw [e17] at hO17
    have hb17 := hc17.at (hx16.at hbd id) fun e => by have := (hlt9 p e).1; omega
    refine st_agg_at hb17 rfl rfl hO17.rep.rep.all_one fun w18 hz18 hb18 hc18 => ?_
    rw [bin_add, up1 (by omega)]
    have s17 := hc17.size
    refine ⟨⟨i + 1, sv2, kv2, L2, rfl, hlt, ?_, ?_, hb18, by omega, ?_⟩, by simp only [Int.toNat_natCast]; omega⟩
    · exact (hx9.trans hx916).then hc17 (fun k hk e => by have := (hlt9 k e).1; have := hx07.size; omega) |>.new hc18 (by omega)
    · rw [hc18.heap q (by omega) (fun e => by have e : q = p := e; omega), hc17.heap q (by omega) (fun e => by have := (hlt9 q e).1; omega), hx916.heap q (by omega) id, hq9]
    · exact ⟨own_chg hO17.items hc18 fun k hk e => by have := (own_in hO17.items hk).1; have e : k = p := e; omega, VRepsP.chg hc18 (fun k hk _ e => by have := hk.1; have e : k = p := e; omega) hO17.reps, own_chg hO17.keys hc18 fun k hk e => by have := (own_in hO17.keys hk).1; have e : k = p := e; omega, hO17.fits⟩
  · obtain rfl : i = l.length := by omega
    rw [List.take_length] at hO9 hrep9
    refine ld_all hb9 rfl ?_
    refine st_agg_at (by rw [hq9]; exact hbq7) rfl rfl hone fun w19 hz19 hb19 hc19 => ?_
    refine ld_all hb19 rfl ?_
    have s7 := hx07.size
    exact hK _ w19 (hx9.new hc19 (by omega)) ((VRepP.chg hc19 (fun k hk _ e => by have hk : w7.heap.size ≤ k := hk; have e : k = q := e; omega) hO9.rep).mono fun k _ hk => by have hk : w7.heap.size ≤ k := hk; show w.heap.size ≤ k; omega)
theorem sobject_p {l : List (Str × JV)} {kv xv : Value} {T : TypeId} {w : World} {K : Value → World → Prop} (hk : SlAt w T kv (l.map (·.1)).length ((l.map (·.1)).map str)) (hx : ItemsAt w xv (l.map (·.2))) (hn : l.length ≤ 1000) (hr : Rise (l.map (·.1)))
    (hkl : ∀ p ∈ l, p.1.length ≤ 9223372036854775807) (hf : ∀ p ∈ l, fewW p.2 = true) (hK : ∀ cs w', Ext w w' → VRepP (From w.heap.size) w' (mkO l) cs → K (.agg cs.toArray) w') :
    callF Tryz.prog 24 [kv, xv] w K := by
  refine W24_ok ?_
  unfold W24
  refine alloc_new fun q w1 hq hz1 hbq hx1 => ?_
  refine vobject_p (hk.ext hx1) (hx.ext hx1) hn hr hkl hf fun cs w2 hx2 hr2 => ?_
  simp only [ext_tuple]
  refine ⟨_, rfl, _, rfl, ?_⟩
  have hl5 := hr2.rep.len
  have ho5 := hr2.rep.all_one
  refine alloc_new fun a w3 ha hz3 hba hx3 => ?_
  refine st_agg_at hba hl5 rfl ho5 fun w4 hz4 hb4 hc4 => ?_
  have s1 := hx1.size
  have s2 := hx2.size
  have hx24 : Ext w2 w4 := hx3.new hc4 (by omega)
  refine ld_all hb4 hl5 ?_
  refine st_agg_at ((hx2.trans hx24).at hbq id) hl5 rfl ho5 fun w5 hz5 hb5 hc5 => ?_
  refine ld_all hb5 hl5 ?_
  have hx5 : Ext w w5 := (hx1.trans (hx2.trans hx24)).new hc5 (by omega)
  have hr4 : VRepP (From w1.heap.size) w4 (mkO l) cs := VRepP.chg hx24 (fun _ _ _ e => e) hr2
  exact hK _ w5 hx5 (VRepP.chg hc5 (fun k hk _ e => by have hk : w1.heap.size ≤ k := hk; have e : k = q := e; have := at_lt hbq; omega) hr4 |>.mono fun k _ hk => by have hk : w1.heap.size ≤ k := hk; show w.heap.size ≤ k; omega)
end
end Go.Proofs.YtnoepcndjljolaaGreatDoor
namespace Go.Proofs.YtnoepcndjljolaaGreatDoor
open Go Go.Eng Go.Num Go.RowKit
set_option maxRecDepth 100000
abbrev BsT : TypeId := 27
section
variable [HX]
theorem sint_p {n : Int} {w : World} {K : Value → World → Prop} (hT : Tabs w) (h1 : -9223372036854775808 ≤ n) (h2 : n ≤ 9223372036854775807) (hK : ∀ cs w', Ext w w' → (∀ w'', VRep w'' (.mk 3 false (Lib.itoa n) [] []) cs) → K (.agg cs.toArray) w') : callF Tryz.prog 26 [i64 n] w K := by
  refine W26_ok ?_
  unfold W26
  refine alloc_new fun b w1 hb hz hbb hx => ?_
  refine W55_ok ?_
  unfold W55
  refine itoa_p (hT.ext hx) h1 h2 fun w2 hx2 => ?_
  simp only [put_int, put_str, put_nil, List.length_cons, List.length_nil, List.set_cons_zero, List.set_cons_succ]
  refine ⟨by omega, by omega, ?_⟩
  refine st_agg_at (l := [i64 3, .bool false, str (Lib.itoa n), .slice none 0 0, .slice none 0 0]) (hx2.at hbb id) rfl rfl rfl fun w3 hz3 hb3 hc3 => ?_
  refine ld_all hb3 rfl ?_
  refine hK _ w3 ((hx.trans hx2).new hc3 (by omega)) fun w'' => ?_
  have hlen := itoa_len h1 h2
  exact VRep.mk (v := .mk 3 false (Lib.itoa n) [] []) (T1 := 0) (T2 := 0) (SlAt.nil w'' 0) (by simp [JV.xs, VReps]) (SlAt.nil w'' 0) ⟨by simp [JV.xs], by simp [JV.ks], by show (Lib.itoa n).length ≤ _; omega, by simp [JV.ks]⟩
theorem row_s2 {a b : Str} {w : World} {K : Value → World → Prop} (hK : ∀ t w', SlAt w' ST t 2 [str a, str b] → Ext w w' → K t w') : bslW ST 2 [.string (ofL []), .string (ofL [])] [(0, 1, str a), (1, 1, str b)] w K := by
  rw [bslW]
  simp only [put_str, put_nil, List.length_cons, List.length_nil, List.set_cons_zero, List.set_cons_succ]
  refine ⟨by omega, by omega, ?_⟩
  refine hK _ _ ⟨_, _, rfl, Nat.le_refl _, fun e => (by cases e), fun _ => ⟨_, _, _, _, rfl, heap_anew _ _ _ rfl, fun i _ => by rw [Nat.zero_add]; simp⟩⟩ (Chg.alloc (Chg.refl _ _) _)
abbrev zq5 : List Value := [(.int .i64 0), (.bool false), (.string (ofL [])), (.slice none 0 0), (.slice none 0 0)]
theorem row_v2 {u v : JV} {cs ds : List Value} {w : World} {K : Value → World → Prop} (h1 : VRep w u cs) (h2 : VRep w v ds) (hK : ∀ t w', ItemsAt w' t [u, v] → Ext w w' → K t w') :
    bslW VT 2 (zq5 ++ zq5) [(0, 5, .agg cs.toArray), (5, 5, .agg ds.toArray)] w K := by
  unfold bslW
  have l1 := h1.len
  have l2 := h2.len
  have hp : ∀ K : List Value → Prop, K (cs ++ ds) → putW (zq5 ++ zq5) [(0, 5, .agg cs.toArray), (5, 5, .agg ds.toArray)] K := by
    intro K hK
    refine ⟨by simp [Value.cells, l1], by simp, ?_⟩
    refine ⟨by simp [Value.cells, l2], by simp [Value.cells, l1], ?_⟩
    have : List.take 5 (List.take 0 (zq5 ++ zq5) ++ ((Value.agg cs.toArray).cells.toList ++ List.drop (0 + 5) (zq5 ++ zq5))) ++ ((Value.agg ds.toArray).cells.toList ++ List.drop (5 + 5) (List.take 0 (zq5 ++ zq5) ++ ((Value.agg cs.toArray).cells.toList ++ List.drop (0 + 5) (zq5 ++ zq5)))) = cs ++ ds := by
      simp [Value.cells, List.take_append, List.drop_append, l1]
    rw [this]
    exact hK
  refine hp _ ?_
  have hx : Ext w (w.alloc (.cells (cs ++ ds).toArray VT)) := Chg.alloc (Chg.refl _ _) _
  refine hK _ _ ⟨⟨VT, cs ++ (ds ++ []), ?_, ?_⟩, by simp⟩ hx
  · rw [List.append_nil]
    exact (own_new (w := w) (base := w.heap.size) (e := VT) (size := 5) (n := 2) (cs := cs ++ ds) (Nat.le_refl _) (by rw [List.length_append]; omega) (by omega)).sl
  · simp only [VReps]
    exact ⟨cs, ds ++ [], rfl, h1.ext hx, ds, [], rfl, h2.ext hx, rfl⟩
def stV (lv : JV) (ser : Int) : JV := mkO [([114, 101, 99, 111, 114, 100, 115], lv), ([115, 101, 114, 105, 97, 108], .mk 3 false (Lib.itoa ser) [] [])]
theorem enc_end {G : Nat → Prop} {lv : JV} {cs : List Value} {ser : Int} {rl : List RV} {p q : Nat} {sv0 : Value} {w7 : World} {K : Value → World → Prop} (hT : TabA w7) (hA : StB G w7 p ser rl sv0) (h1 : 0 ≤ ser) (h2 : ser ≤ 1099511627776)
    (hb : w7.heap[q]? = some (.cells cs.toArray VT (0, 0))) (hr : VRep w7 lv cs) (hf : fewW lv = true)
    (hK1 : (encM 1 20 31 3 (stV lv ser)).2 ≠ 0 → ∀ w', Ext w7 w' → K (.tuple #[.slice none 0 0, i64 3]) w')
    (hK2 : (encM 1 20 31 3 (stV lv ser)).2 = 0 → ∀ t w', Ext w7 w' → Byt w' U8 t (encM 1 20 31 3 (stV lv ser)).1 → K (.tuple #[t, i64 0]) w') :
        JoinW (fun J60 =>
          ldW true 5 (.pointer (some ⟨q, 0, none⟩)) w7.drew fun t62 =>
          fldW 0 (.pointer (some ⟨p, 0, none⟩)) fun t63 =>
          ldW false 1 t63 w7.drew fun t64 =>
          (
           bslW ST 2 [(.string (ofL [])), (.string (ofL []))] [(0, 1, (.string (ofL [114, 101, 99, 111, 114, 100, 115]))), (1, 1, (.string (ofL [115, 101, 114, 105, 97, 108])))] w7.drew fun t61 w61 =>
           (ldW false 1 t63 w61 fun x => x = t64) ∧
           (ldW true 5 (.pointer (some ⟨q, 0, none⟩)) w61 fun x => x = t62) ∧
           callF Tryz.prog 26 [t64] w61 fun t65 w62 =>
           (ldW true 5 (.pointer (some ⟨q, 0, none⟩)) w62 fun x => x = t62) ∧
           bslW VT 2 [(.int .i64 0), (.bool false), (.string (ofL [])), (.slice none 0 0), (.slice none 0 0), (.int .i64 0), (.bool false), (.string (ofL [])), (.slice none 0 0), (.slice none 0 0)] [(0, 5, t62), (5, 5, t65)] w62 fun t66 w63 =>
           callF Tryz.prog 24 [t61, t66] w63 fun t67 w64 =>
           callF Tryz.prog 25 [t67] w64 fun t68 w65 =>
           extW 0 t68 fun t69 =>
           extW 1 t68 fun t70 =>
          J60 [t69, t70] w65) ∧
          (
           callF Tryz.prog 26 [t64] w7.drew fun t65 w66 =>
           (ldW true 5 (.pointer (some ⟨q, 0, none⟩)) w66 fun x => x = t62) ∧
           (
            bslW ST 2 [(.string (ofL [])), (.string (ofL []))] [(0, 1, (.string (ofL [114, 101, 99, 111, 114, 100, 115]))), (1, 1, (.string (ofL [115, 101, 114, 105, 97, 108])))] w66 fun t61 w67 =>
            (ldW true 5 (.pointer (some ⟨q, 0, none⟩)) w67 fun x => x = t62) ∧
            bslW VT 2 [(.int .i64 0), (.bool false), (.string (ofL [])), (.slice none 0 0), (.slice none 0 0), (.int .i64 0), (.bool false), (.string (ofL [])), (.slice none 0 0), (.slice none 0 0)] [(0, 5, t62), (5, 5, t65)] w67 fun t66 w68 =>
            callF Tryz.prog 24 [t61, t66] w68 fun t67 w69 =>
            callF Tryz.prog 25 [t67] w69 fun t68 w70 =>
            extW 0 t68 fun t69 =>
            extW 1 t68 fun t70 =>
          J60 [t69, t70] w70) ∧
           (
            bslW VT 2 [(.int .i64 0), (.bool false), (.string (ofL [])), (.slice none 0 0), (.slice none 0 0), (.int .i64 0), (.bool false), (.string (ofL [])), (.slice none 0 0), (.slice none 0 0)] [(0, 5, t62), (5, 5, t65)] w66 fun t66 w71 =>
            bslW ST 2 [(.string (ofL [])), (.string (ofL []))] [(0, 1, (.string (ofL [114, 101, 99, 111, 114, 100, 115]))), (1, 1, (.string (ofL [115, 101, 114, 105, 97, 108])))] w71 fun t61 w72 =>
            callF Tryz.prog 24 [t61, t66] w72 fun t67 w73 =>
            callF Tryz.prog 25 [t67] w73 fun t68 w74 =>
            extW 0 t68 fun t69 =>
            extW 1 t68 fun t70 =>
          J60 [t69, t70] w74)))
        fun s60 _ w75 =>
        binW .neq (s60.getD 1 undef) (.int .i64 0) fun t72 =>
        condW t72 (
          K (.tuple #[(.slice none 0 0), (.int .i64 3)]) w75) (
          semE Tryz.prog (convert 9 BsT (s60.getD 0 undef)) w75 fun t74 w76 =>
          K (.tuple #[t74, (.int .i64 0)]) w76) := by
  have hl5 := hr.len
  have hxd : Ext w7 w7.drew := Chg.drew (Chg.refl (fun _ => False) w7)
  refine JoinW.cut (fun st w' => st = [str (encM 1 20 31 3 (stV lv ser)).1, i64 (encM 1 20 31 3 (stV lv ser)).2] ∧ Ext w7 w') ?_ ?_
  · have hbd := hxd.at hb id
    -- the value is made and written
    have fin : ∀ {w : World} {kt xt : Value} {J : List Value → World → Prop}, SlAt w ST kt 2 [str [114, 101, 99, 111, 114, 100, 115], str [115, 101, 114, 105, 97, 108]] → ItemsAt w xt [lv, .mk 3 false (Lib.itoa ser) [] []] → Ext w7 w → (∀ w', Ext w7 w' → J [str (encM 1 20 31 3 (stV lv ser)).1, i64 (encM 1 20 31 3 (stV lv ser)).2] w') →
        callF Tryz.prog 24 [kt, xt] w fun t67 w64 => callF Tryz.prog 25 [t67] w64 fun t68 w65 => extW 0 t68 fun t69 => extW 1 t68 fun t70 => J [t69, t70] w65 := fun {w kt xt J} hk hx hx7 hJ => by
      refine sobject_p (l := [([114, 101, 99, 111, 114, 100, 115], lv), ([115, 101, 114, 105, 97, 108], .mk 3 false (Lib.itoa ser) [] [])]) hk hx (by simp) ?_ ?_ ?_ fun cs1 w1 hx1 hr1 => ?_
      · exact (by unfold Rise; decide : Rise [[114, 101, 99, 111, 114, 100, 115], [115, 101, 114, 105, 97, 108]])
      · intro p hp
        simp only [List.mem_cons, List.not_mem_nil, or_false] at hp
        rcases hp with rfl | rfl <;> simp
      · intro p hp
        simp only [List.mem_cons, List.not_mem_nil, or_false] at hp
        rcases hp with rfl | rfl
        · exact hf
        · rfl
      · have hT1 := hT.ext (hx7.trans hx1)
        refine encode_p hT1.tabs.utf (fmt_ok hT1.tabs.bru) hr1.rep fun w2 hx2 => ?_
        simp only [ext_tuple]
        exact ⟨_, rfl, _, rfl, hJ w2 (hx7.trans (hx1.trans hx2))⟩
    refine ld_all hbd hl5 ?_
    simp only [fld_ptr]
    have hAd := hA.ext hxd
    refine hAd.ser ⟨?_, ?_⟩
    · refine row_s2 fun t61 w61 hs61 hx61 => ?_
      have hx1 := hxd.trans hx61
      refine ⟨(hA.ext hx1).ser rfl, ld_all (hx1.at hb id) hl5 rfl, ?_⟩
      refine sint_p (hT.ext hx1).tabs (by omega) (by omega) fun ds w62 hx62 hr62 => ?_
      have hx2 := hx1.trans hx62
      refine ⟨ld_all (hx2.at hb id) hl5 rfl, ?_⟩
      refine row_v2 (hr.ext hx2) (hr62 w62) fun t66 w63 hi63 hx63 => ?_
      exact fin (J := fun st w' => st = [str (encM 1 20 31 3 (stV lv ser)).1, i64 (encM 1 20 31 3 (stV lv ser)).2] ∧ Ext w7 w') (hs61.ext (hx62.trans hx63)) hi63 (hx2.trans hx63) fun w' hx' => ⟨rfl, hx'⟩
    · refine sint_p (hT.ext hxd).tabs (by omega) (by omega) fun ds w66 hx66 hr66 => ?_
      have hx1 := hxd.trans hx66
      refine ⟨ld_all (hx1.at hb id) hl5 rfl, ?_, ?_⟩
      · refine row_s2 fun t61 w67 hs67 hx67 => ?_
        have hx2 := hx1.trans hx67
        refine ⟨ld_all (hx2.at hb id) hl5 rfl, ?_⟩
        refine row_v2 (hr.ext hx2) (hr66 w67) fun t66 w68 hi68 hx68 => ?_
        exact fin (J := fun st w' => st = [str (encM 1 20 31 3 (stV lv ser)).1, i64 (encM 1 20 31 3 (stV lv ser)).2] ∧ Ext w7 w') (hs67.ext hx68) hi68 (hx2.trans hx68) fun w' hx' => ⟨rfl, hx'⟩
      · refine row_v2 (hr.ext hx1) (hr66 w66) fun t66 w71 hi71 hx71 => ?_
        refine row_s2 fun t61 w72 hs72 hx72 => ?_
        exact fin (J := fun st w' => st = [str (encM 1 20 31 3 (stV lv ser)).1, i64 (encM 1 20 31 3 (stV lv ser)).2] ∧ Ext w7 w') hs72 (hi71.ext hx72) (hx1.trans (hx71.trans hx72)) fun w' hx' => ⟨rfl, hx'⟩
  rintro st g w75 ⟨rfl, hx75⟩
  simp only [List.getD_cons_zero, List.getD_cons_succ]
  rw [bin_neq, condW_dec]
  refine ⟨fun hne => hK1 hne w75 hx75, fun he => ?_⟩
  have he : (encM 1 20 31 3 (stV lv ser)).2 = 0 := Classical.byContradiction he
  refine to_bytes (by kernel_rfl) (by kernel_rfl) (by kernel_rfl) fun t w76 hb76 hx76 => ?_
  exact hK2 he t w76 (hx75.trans hx76) hb76
end
end Go.Proofs.YtnoepcndjljolaaGreatDoor
namespace Go.Proofs.YtnoepcndjljolaaGreatDoor
open Go Go.Eng Go.Num Go.RowKit
set_option maxRecDepth 100000
theorem strep_nil (w : World) (ser : Int) : StRepP (fun _ => True) w ser [] [i64 ser, .slice none 0 0] := ⟨_, 0, [], rfl, SlAt.nil w 0, by simp [RRepsP]⟩
section
variable [HX]
theorem const_b {l : Str} {w : World} {K : Value → World → Prop} (hK : ∀ v w', Byt w' U8 v l → Ext w w' → K v w') :
    semE Tryz.prog (convert BsT BsT (.slice (some ⟨w.heap.size, 0, none⟩) l.length l.length)) (w.alloc (.cells (u8s l).toArray U8)) K := by
  unfold semE
  rw [Lib.run_convert_bytes_const (P := Tryz.prog) w BsT U8 _ _ _ (by kernel_rfl) (by kernel_rfl)]
  refine hK _ _ ⟨_, _, rfl, Nat.le_refl _, (by intro e; cases e), fun _ => ⟨w.heap.size, 0, _, _, rfl, heap_anew _ _ _ rfl, fun i hi => by simp⟩⟩ (by repeat (first | assumption | exact Chg.refl _ _ | refine Chg.drew ?_ | refine Chg.alloc ?_ _ | refine Chg.set ?_ (by first | exact .inl rfl | exact .inr (by omega) | exact .inr (by simp only [size_set, size_alloc, size_drew]; omega) | (left; simp; done)) _ | exact Chg.of_ext (by assumption)))
theorem sgood_nil {w : World} {K : Value → World → Prop} (hK : ∀ w', Ext w w' → K (.bool true) w') : callF Tryz.prog 22 [.agg [i64 0, .slice none 0 0].toArray] w K := by
  refine W22_ok ?_
  unfold W22
  refine box_st (strep_nil w 0) fun p w1 sv e hA hx hp => ?_
  simp only [fld_ptr]
  refine hA.recs ?_
  rw [hA.len]
  refine LoopW.go (fun st w' => st = [i64 0] ∧ w' = w1) (fun _ _ => 0) ⟨rfl, rfl⟩ ?_
  rintro st g w2 ⟨rfl, rfl⟩
  simp only [List.getD_cons_zero]
  rw [bin_lss, decide_eq_false (by simp), condW_false]
  refine hA.ser ?_
  rw [bin_geq]
  simp only [isB_t]
  refine GdW.look true (fun _ J hJ => ?_) fun g => ?_
  · refine hA.ser ?_
    rw [bin_leq]; exact hJ
  simp only [List.getD_cons_zero]
  rw [pick_gd_and]
  exact hK _ hx
abbrev enc0 : Str := [123, 34, 114, 101, 99, 111, 114, 100, 115, 34, 58, 91, 93, 44, 34, 115, 101, 114, 105, 97, 108, 34, 58, 48, 125]
theorem enc0_eq : encM 1 20 31 3 (stV (.mk 5 false [] [] []) 0) = (enc0, 0) := by kernel_rfl
theorem vrep_l0 (w : World) : VRep w (.mk 5 false [] [] []) [i64 5, .bool false, str [], .slice none 0 0, .slice none 0 0] :=
  VRep.mk (v := .mk 5 false [] [] []) (T1 := 0) (T2 := 0) (SlAt.nil w 0) (by simp [JV.xs, VReps]) (SlAt.nil w 0) ⟨by simp [JV.xs], by simp [JV.ks], by simp [JV.t], by simp [JV.ks]⟩
theorem sencode_nil {w : World} {K : Value → World → Prop} (hT : TabA w) (hK : ∀ t w', Ext w w' → Byt w' U8 t enc0 → K (.tuple #[t, i64 0]) w') : callF Tryz.prog 8 [.agg [i64 0, .slice none 0 0].toArray] w K := by
  refine W8_ok ?_
  unfold W8
  refine box_st (strep_nil w 0) fun p w1 sv e hA hx1 hp => ?_
  refine hA.all ?_
  injection e with _ e
  injection e with e _
  subst e
  refine sgood_nil fun w2 hx2 => ?_
  rw [un_not, Bool.not_true, condW_false]
  simp only [put_int, put_nil, List.length_cons, List.length_nil, List.set_cons_zero]
  refine ⟨by omega, ?_⟩
  refine alloc_new fun q w4 hq hz4 hbq hx4 => ?_
  refine st_agg_at (l := [i64 5, .bool false, str [], .slice none 0 0, .slice none 0 0]) hbq rfl rfl rfl fun w5 hz5 hb5 hc5 => ?_
  have s2 := hx2.size
  have hx25 : Ext w2 w5 := hx4.new hc5 (by omega)
  have hx15 := hx2.trans hx25
  have hA5 := hA.ext hx15
  rw [fld_ptr]
  refine hA5.recs ?_
  rw [hA5.len]
  refine LoopW.go (fun st w' => st = [i64 0] ∧ w' = w5) (fun _ _ => 0) ⟨rfl, rfl⟩ ?_
  rintro st g w7 ⟨rfl, rfl⟩
  simp only [List.getD_cons_zero]
  rw [bin_lss, decide_eq_false (by simp), condW_false]
  refine enc_end (lv := .mk 5 false [] [] []) (hT.ext (hx1.trans hx15)) hA5 (by omega) (by omega) hb5 (vrep_l0 _) (by rfl) (fun hne => ?_) (fun _ t w' hx' hb' => ?_)
  · rw [enc0_eq] at hne
    exact absurd rfl hne
  · rw [enc0_eq] at hb'
    exact hK t w' (hx1.trans (hx15.trans hx')) hb'
theorem dec0 : decM En [123, 125] = .ok (.mk 6 false [] [] []) 2 1 := by kernel_rfl
theorem sdecode_br {t : Value} {w : World} {K : Value → World → Prop} (hT : TabA w) (ht : Byt w U8 t [123, 125]) (hK : ∀ w', Ext w w' → K (.tuple #[.agg [i64 0, .slice none 0 0].toArray, i64 150]) w') : callF Tryz.prog 9 [t] w K := by
  refine W9_ok ?_
  unfold W9
  refine alloc_new fun a w1 ha hz1 hba hx1 => ?_
  rw [conv_bytes (l := [123, 125]) (e := U8) (by kernel_rfl) (by kernel_rfl) (by kernel_rfl) (ht.ext hx1)]
  have hT1 := hT.ext hx1
  refine decode_p (s := [123, 125]) hT1.tabs.utf hT1.err (by decide) (fun v j c hv cs w2 hx2 hr2 => ?_) (fun e i hv => by rw [dec0] at hv; cases hv)
  rw [dec0] at hv
  cases hv
  simp only [ext_tuple]
  refine ⟨_, rfl, _, rfl, ?_⟩
  refine keep_val hr2.rep fun b w4 sv kv hB hx4 => ?_
  refine hB.ld fun cs1 h1 => ?_
  refine row_s2 fun t22 w5 hs5 hx5 => ?_
  refine W28_ok ?_
  unfold W28
  refine box_val (h1.ext hx5) fun b2 w6 sv2 kv2 hB2 hx6 _ => ?_
  have hxd : Ext w6 w6.drew := Chg.drew (Chg.refl (fun _ => False) w6)
  have hB2d := hB2.ext hxd
  simp only [fld_ptr, ld_one]
  refine ⟨sv2, by rw [add_mk, cell_eq, hB2d.hb, cellO_some]; rfl, i64 6, by rw [add_mk, cell_eq, hB2d.hb, cellO_some]; rfl, ?_⟩
  rw [bin_eql, decide_eq_true rfl]
  simp only [isB_t, GqW_t]
  refine ⟨_, rfl, kv2, by rw [ld_one]; exact ⟨kv2, by rw [add_mk, cell_eq, hB2d.hb, cellO_some]; rfl, rfl⟩, _, rfl, ⟨fun _ => ?_, fun e => by cases e⟩⟩
  obtain ⟨T2, hks⟩ := hB2d.keys
  refine equals_p (a := []) (b := [[114, 101, 99, 111, 114, 100, 115], [115, 101, 114, 105, 97, 108]]) hks ((hs5.ext hx6).ext hxd) (by simp) fun w7 hx7 => ?_
  have hB7 := hB2d.ext hx7
  refine ⟨⟨sv2, by rw [add_mk, cell_eq, hB7.hb, cellO_some]; rfl, rfl⟩, ?_⟩
  rw [decide_eq_false (by simp), pick_t]
  simp only [ext_tuple]
  refine ⟨_, rfl, _, rfl, ?_⟩
  rw [eqp_nn]
  have hx47 := hx5.trans (hx6.trans (hxd.trans hx7))
  have hxe := hx1.trans (hx2.trans (hx4.trans hx47))
  have hba7 := (hx2.trans (hx4.trans hx47)).at hba id
  simp only [isB_f, Bool.not_true]
  refine GdW.look true (fun _ J hJ => ?_) fun g => ?_
  · rw [un_not]; exact hJ
  simp only [List.getD_cons_zero]
  rw [pick_gd_or]
  simp only [isB_f, Bool.false_or, Bool.not_true, GdW_f]
  intro g2
  rw [pick_t]
  simp only [isB_f, Bool.not_true, GdW_f]
  intro g3
  rw [pick_t, condW_true]
  simp only [put_nil]
  refine st_agg_at (l := [i64 0, .slice none 0 0]) hba7 rfl rfl rfl fun w8 hz8 hb8 hc8 => ?_
  refine ld_all hb8 rfl ?_
  exact hK w8 (hxe.new hc8 (by omega))
theorem awake15 {w : World} {K : Value → World → Prop} (hT : TabA w) (hK : ∀ w', Ext w w' → K (.bool true) w') : callF Tryz.prog 6 [] w K := by
  refine W6_ok ?_
  unfold W6
  simp only [put_nil]
  refine sencode_nil hT fun t w2 hx2 hb2 => ?_
  simp only [ext_tuple]
  refine ⟨_, rfl, _, rfl, ?_⟩
  rw [bslW]
  simp only [put_int, put_nil, List.length_cons, List.length_nil, List.set_cons_zero, List.set_cons_succ]
  refine ⟨by omega, by omega, ?_⟩
  refine const_b (l := [123, 125]) fun t12 w4 hb4 hx4 => ?_
  have hx04 := hx2.trans hx4
  refine sdecode_br (hT.ext hx04) hb4 fun w5 hx5 => ?_
  simp only [ext_tuple]
  refine ⟨_, rfl, _, rfl, ?_⟩
  refine alloc_new fun a w6 ha hz6 hba hx6 => ?_
  refine st_agg_at (l := [i64 0, .slice none 0 0]) hba rfl rfl rfl fun w7 hz7 hb7 hc7 => ?_
  have hx57 : Ext w5 w7 := hx6.new hc7 (by omega)
  have hx27 := hx4.trans (hx5.trans hx57)
  rw [bin_eql, decide_eq_true rfl]
  simp only [isB_t]
  refine GdW.look true (fun _ J hJ => ?_) fun g => ?_
  · rw [conv_bytes (l := enc0) (e := U8) (by kernel_rfl) (by kernel_rfl) (by kernel_rfl) (hb2.ext hx27)]
    rw [bin_seq, decide_eq_true rfl]; exact hJ
  simp only [List.getD_cons_zero]
  rw [pick_gd_and]
  simp only [isB_t, Bool.and_true]
  refine GdW.look true (fun _ J hJ => ?_) fun g => ?_
  · rw [bin_eql, decide_eq_true rfl]; exact hJ
  simp only [List.getD_cons_zero]
  rw [pick_gd_and]
  exact hK w7 (hx2.trans hx27)
end
end Go.Proofs.YtnoepcndjljolaaGreatDoor
namespace Go.Proofs.YtnoepcndjljolaaGreatDoor
open Go Go.Eng Go.Num Go.RowKit
set_option maxRecDepth 100000
theorem recsOk_rise : ∀ {l : List RV} {prev : Option Str}, recsOk prev l = true → RiseR l ∧ ∀ p, prev = some p → ∀ r ∈ l, Op.bytesLess p r.addr = true
  | [], prev, _ => ⟨List.Pairwise.nil, fun _ _ r hr => by cases hr⟩
  | x :: l, prev, h => by
    simp only [recsOk, Bool.and_eq_true] at h
    obtain ⟨⟨h1, h2⟩, h3⟩ := h
    obtain ⟨i1, i2⟩ := recsOk_rise h3
    have hx := i2 _ rfl
    refine ⟨List.pairwise_cons.2 ⟨hx, i1⟩, fun p hp r hr => ?_⟩
    subst hp
    have h1 : Op.bytesLess p x.addr = true := h1
    rcases List.mem_cons.1 hr with rfl | hr
    · exact h1
    · exact less_trans h1 (hx r hr)
theorem recsOk_few : ∀ {l : List RV} {prev : Option Str}, recsOk prev l = true → ∀ r ∈ l, fewM r.attrs = true
  | [], _, _ => fun r hr => by cases hr
  | x :: l, prev, h => by
    simp only [recsOk, Bool.and_eq_true] at h
    obtain ⟨⟨h1, h2⟩, h3⟩ := h
    intro r hr
    rcases List.mem_cons.1 hr with rfl | hr
    · simp only [recOk1, attrsM, Bool.and_eq_true] at h2
      exact (good_v h2.1.2.1.1.2).few
    · exact recsOk_few h3 r hr
theorem goodS_recs {ser : Int} {l : List RV} (h : goodS ser l = true) : recsOk none l = true := by
  simp only [goodS, Bool.and_eq_true] at h
  exact h.2
section
variable [HX]
theorem rrep_zero (w : World) (G : Nat → Prop) : RRepP G w RV.zero zr := by
  refine ⟨[i64 0, .bool false, str [], .slice none 0 0, .slice none 0 0], .slice none 0 0, 0, rfl, ?_, SlAt.nil _ _, fun h => absurd rfl h, ⟨by simp [RV.zero], by simp [RV.zero], by simp [RV.zero], by simp [RV.zero], by simp [RV.zero]⟩⟩
  exact VRepP.mk (v := JV.null) (T1 := 0) (T2 := 0) (SlAt.nil w 0) (by simp [JV.null, JV.xs, VRepsP]) (SlAt.nil w 0) (by simp [Fits, JV.null, JV.xs, JV.ks, JV.t]) (fun h => absurd rfl h) (fun h => absurd rfl h)
theorem keeps_true {G1 G2 : Nat → Prop} {ser : Int} {l : List RV} {r : RV} {a : Str} {cs ds : List Value} {w : World} {K : Value → World → Prop} (hT : TabA w) (h : StRepP G1 w ser l cs) (hl : l.length ≤ 9223372036854775807)
    (hd : ∀ x ∈ l, x.deps.length ≤ 8796093022208) (h' : RRepP G2 w r ds) (hdr : r.deps.length ≤ 8796093022208) (_ : a.length ≤ 9223372036854775807) (hK : ∀ w', Ext w w' → K (.bool true) w') : callF Tryz.prog 4 [.agg cs.toArray, .agg ds.toArray, str a] w K := by
  refine W4_ok ?_
  unfold W4
  refine box_st h fun p w1 sv e1 hA1 hx1 hp => ?_
  refine box_r (h'.ext hx1) fun q w2 vcs dv e2 hB2 hx2 hq => ?_
  have hA2 := hA1.ext hx2
  have hx02 := hx1.trans hx2
  refine awake15 (hT.ext hx02) fun w3 hx3 => ?_
  have hA3 := hA2.ext hx3
  rw [un_not]
  simp only [isB_f, Bool.not_true, Bool.not_false]
  refine GdW.act (!decide (l.length ≤ 200)) (fun w' => Ext w3 w') (fun _ => Chg.refl _ _) (fun _ J hJ => ?_) fun g w6 hx6 => ?_
  · refine hA3.all ?_
    refine few15_p hA3.rep fun w5 hx5 => ?_
    rw [un_not]
    exact hJ w5 hx5
  simp only [List.getD_cons_zero, pick_f, cond_true]
  have hx06 := hx02.trans (hx3.trans hx6)
  have hA6 := hA3.ext hx6
  have hB6 := hB2.ext (hx3.trans hx6)
  rw [condW_b]
  refine ⟨fun _ => awake15 (hT.ext hx06) fun w7 hx7 => hK w7 (hx06.trans hx7), fun hn => ?_⟩
  have hn : l.length ≤ 200 := by simpa using hn
  refine hA6.all ?_
  refine good15_ref hA6.rep hl fun w8 hx8 => ?_
  have hA8 := hA6.ext hx8
  have hB8 := hB6.ext hx8
  have hx08 := hx06.trans hx8
  rw [un_not]
  simp only [isB_f, Bool.not_not]
  refine GdW.act (!goodS 0 [r]) (fun w' => Ext w8 w') (fun _ => Chg.refl _ _) (fun _ J hJ => ?_) fun g w13 hx13 => ?_
  · refine hB8.all ?_
    refine row_r hB8.rep.len fun t w10 ht hx10 => ?_
    obtain ⟨tp, tc, rfl, _⟩ := id ht.shape
    simp only [put_slice, put_nil, List.length_cons, List.length_nil, List.set_cons_zero, List.set_cons_succ]
    refine ⟨by omega, ?_⟩
    refine good15_ref (G := G2) (l := [r]) ⟨_, _, _, rfl, ht, RRepsP.one' (hB8.rep.ext hx10)⟩ (by simp) fun w12 hx12 => ?_
    rw [un_not]
    exact hJ w12 (hx10.trans hx12)
  simp only [List.getD_cons_zero]
  have epick : ∀ (Q : Value → Prop), pickW (.bool (!goodS ser l)) (.bool true) (bif goodS ser l then .bool (!goodS 0 [r]) else undef) Q ↔ Q (.bool (!goodS ser l || !goodS 0 [r])) := fun Q => by cases goodS ser l <;> exact Iff.rfl
  rw [epick, condW_b]
  have hx013 := hx08.trans hx13
  refine ⟨fun _ => hK w13 hx013, fun hg => ?_⟩
  simp only [Bool.or_eq_false_iff, Bool.not_eq_false'] at hg
  obtain ⟨hg1, hg2⟩ := hg
  have hA13 := hA8.ext hx13
  have hB13 := hB8.ext hx13
  have hrise := (recsOk_rise (goodS_recs hg1)).1
  have hfew : fewR l := ⟨by omega, fun x hx => ⟨recsOk_few (goodS_recs hg1) x hx, hd x hx⟩⟩
  have hfr : fewM r.attrs = true ∧ r.deps.length ≤ 8796093022208 := ⟨recsOk_few (goodS_recs hg2) r (List.mem_singleton.2 rfl), hdr⟩
  refine hA13.all ?_
  refine sfind_p hA13.rep hfew hrise fun i0 x xcs w14 hx14 hat hxc hxr => ?_
  simp only [ext_tuple]
  refine ⟨_, rfl, _, rfl, ?_⟩
  refine keep_r hxr fun o w16 ucs ev eo hC16 hx16 ho => ?_
  have hx1316 := hx14.trans hx16
  have hx016 := hx013.trans hx1316
  have hA16 := hA13.ext hx1316
  have hB16 := hB13.ext hx1316
  simp only [fld_ptr]
  refine hA16.recs ?_
  rw [hA16.len]
  refine LoopW.go (fun st w' => ∃ i : Nat, st = [.bool (decide (i0 < i) && thereR l a i0), i64 (i : Nat)] ∧ i ≤ l.length ∧ Ext w16 w') (fun st _ => match st with | [_, .int _ i] => l.length - i.toNat | _ => 0)
    ⟨0, by rw [decide_eq_false (Nat.not_lt_zero _)]; rfl, Nat.zero_le _, Chg.refl _ _⟩ ?_
  rintro st g w18 ⟨i, rfl, hi, hx18⟩
  simp only [List.getD_cons_zero, List.getD_cons_succ]
  have hA18 := hA16.ext hx18
  have hB18 := hB16.ext hx18
  have hC18 := hC16.ext hx18
  rw [bin_lss, condW_dec]
  refine ⟨fun hlt => ?_, fun hge => ?_⟩
  · have hlt : i < l.length := by omega
    obtain ⟨y, hy⟩ : ∃ y, l[i]? = some y := ⟨_, List.getElem?_eq_getElem hlt⟩
    refine JoinW.cut (fun st w' => st = [.bool (decide (i0 < i + 1) && thereR l a i0)] ∧ Ext w16 w') ?_ ?_
    · refine hA18.recs ?_
      obtain ⟨T, L, hS, hR⟩ := hA18.sl
      obtain ⟨pa, k1, k2, ycs, k3, k4⟩ := rec_at hS hR hy
      refine k1 _ ?_
      simp only [fld_ptr]
      refine k2 w18 _ rfl ?_
      rw [bin_seq, condW_dec]
      refine ⟨fun he => ?_, fun he => ?_⟩
      · have hii := find_one hrise hat hy he
        have hth : thereR l a i0 = true := by
          unfold thereR
          rw [← hii, hy]
          exact decide_eq_true he
        have hxy : x = y := by
          rcases hxc with ⟨_, h2⟩ | ⟨h1, _⟩
          · rw [← hii, hy] at h2
            exact (Option.some.inj h2).symm
          · rw [hth] at h1; cases h1
        have hxd : Ext w18 w18.drew := Chg.drew (Chg.refl (fun _ => False) w18)
        refine (hC18.ext hxd).all ?_
        refine (hA18.ext hxd).recs ?_
        refine k1 _ ?_
        refine k4 w18.drew _ rfl ?_
        refine sameRec_ref (hC18.ext hxd).rep (k3.ext hxd) fun w20 hx20 => ?_
        rw [un_not, (sameR_iff x y).2 hxy, Bool.not_true, condW_false]
        refine ⟨?_, hx18.trans (hxd.trans hx20)⟩
        rw [hth, decide_eq_true (show i0 < i + 1 by omega)]
        rfl
      · refine ⟨?_, hx18⟩
        cases hth : thereR l a i0 with
        | false => rw [Bool.and_false, Bool.and_false]
        | true =>
          have hne : i0 ≠ i := fun e => by
            obtain ⟨z, hz, hza⟩ := there_t hth
            rw [e, hy] at hz
            cases hz
            exact he hza
          rw [Bool.and_true, Bool.and_true, decide_eq_decide.2 (show i0 < i ↔ i0 < i + 1 by omega)]
    rintro st g w21 ⟨rfl, hx21⟩
    simp only [List.getD_cons_zero]
    rw [bin_add, up1 (by omega)]
    refine ⟨⟨i + 1, rfl, hlt, hx21⟩, ?_⟩
    show l.length - ((i + 1 : Nat) : Int).toNat < l.length - ((i : Nat) : Int).toNat
    simp only [Int.toNat_natCast]
    omega
  · obtain rfl : i = l.length := by omega
    have hxd : Ext w18 w18.drew := Chg.drew (Chg.refl (fun _ => False) w18)
    have hAd := hA18.ext hxd
    have hBd := hB18.ext hxd
    have hCd := hC18.ext hxd
    have hxd0 := hx016.trans (hx18.trans hxd)
    have hok : (decide (i0 < l.length) && thereR l a i0) = thereR l a i0 := by
      cases hth : thereR l a i0 with
      | false => rw [Bool.and_false]
      | true =>
        obtain ⟨z, hz, _⟩ := there_t hth
        rw [decide_eq_true (List.getElem?_eq_some_iff.1 hz).1]
        rfl
    rw [hok, eq_bb]
    simp only [beq_self_eq_true, isB_t, GqW_t]
    refine ⟨_, rfl, _, rfl, ?_⟩
    -- what With and Without answer
    have fin : ∀ {w27 : World}, Ext w18.drew w27 → 
          (∃ v, (ldW true 2 (.pointer (some ⟨p, 0, none⟩)) w27 fun x => x = v) ∧ ∃ v1, (ldW true 9 (.pointer (some ⟨q, 0, none⟩)) w27 fun x => x = v1) ∧ ∃ v2, (ldW true 2 (.pointer (some ⟨p, 0, none⟩)) w27 fun x => x = v2) ∧ ∃ v3, (ldW true 9 (.pointer (some ⟨q, 0, none⟩)) w27 fun x => x = v3) ∧
          GeW true w27 (fun k33 => callF Tryz.prog 14 [v, v1] w27 k33) fun t72 w34 =>
          (True → ldW true 9 (.pointer (some ⟨q, 0, none⟩)) w34 fun x => x = v3) ∧
          (True → ldW true 2 (.pointer (some ⟨p, 0, none⟩)) w34 fun x => x = v2) ∧
          GeW true w34 (fun k35 => callF Tryz.prog 15 [v2, v3] w34 k35) fun t75 w36 =>
          GeW true w36 (fun k37 => callF Tryz.prog 10 [t72, t75] w36 k37) fun t76 w38 =>
          pickW (.bool true) t76 (.bool false) fun t77 =>
          GqW (isB t77 true) (fun k39 => ldW true 2 (.pointer (some ⟨p, 0, none⟩)) w38 k39) fun t79 =>
          GqW (isB t77 true) (fun k40 => k40 (str a)) fun t80 =>
          GqW (isB t77 true) (fun k41 => ldW true 2 (.pointer (some ⟨p, 0, none⟩)) w38 k41) fun t82 =>
          GqW (isB t77 true) (fun k42 => k42 (str a)) fun t83 =>
          GeW (isB t77 true) w38 (fun k43 => callF Tryz.prog 16 [t79, t80] w38 k43) fun t81 w44 =>
          ((isB t77 true) = true → ldW true 2 (.pointer (some ⟨p, 0, none⟩)) w44 fun x => x = t82) ∧
          GeW (isB t77 true) w44 (fun k45 => callF Tryz.prog 17 [t82, t83] w44 k45) fun t84 w46 =>
          GeW (isB t77 true) w46 (fun k47 => callF Tryz.prog 10 [t81, t84] w46 k47) fun t85 w48 =>
          pickW t77 t85 (.bool false) fun t86 =>
          K t86 w48) := fun {w27} hx27 => by
      have hA27 := hAd.ext hx27
      have hB27 := hBd.ext hx27
      refine ⟨_, hA27.all rfl, _, hB27.all rfl, _, hA27.all rfl, _, hB27.all rfl, ⟨fun _ => ?_, fun e => by cases e⟩⟩
      refine with_p hA27.rep hB27.rep hfew hfr hrise fun c1 w34 hx34 r34 => ?_
      have hA34 := hA27.ext hx34
      have hB34 := hB27.ext hx34
      refine ⟨fun _ => hB34.all rfl, fun _ => hA34.all rfl, ⟨fun _ => ?_, fun e => by cases e⟩⟩
      refine with15_ref hA34.rep hB34.rep (by omega) fun c2 w36 hx36 r36 => ?_
      refine ⟨fun _ => ?_, fun e => by cases e⟩
      have hpl : (putR l r).length ≤ 9223372036854775807 := by
        unfold putR
        rw [insR_len]
        have := dropR_len l r.addr
        omega
      refine same15_ref (r34.ext hx36) r36 hpl fun b w38 hb hx38 => ?_
      have hb : b = true := hb.2 ⟨rfl, rfl⟩
      subst hb
      rw [pick_t]
      simp only [isB_t, GqW_t]
      have hx2738 := hx34.trans (hx36.trans hx38)
      have hA38 := hA27.ext hx2738
      refine ⟨_, hA38.all rfl, _, rfl, _, hA38.all rfl, _, rfl, ⟨fun _ => ?_, fun e => by cases e⟩⟩
      refine without_p hA38.rep hfew hrise fun c3 w44 hx44 r44 => ?_
      have hA44 := hA38.ext hx44
      refine ⟨fun _ => hA44.all rfl, ⟨fun _ => ?_, fun e => by cases e⟩⟩
      refine without15_ref hA44.rep (by omega) fun ov L w46 hx46 s46 r46 => ?_
      refine ⟨fun _ => ?_, fun e => by cases e⟩
      refine same15_ref (r44.ext hx46) ⟨ov, _, L, rfl, s46, r46⟩ (by have := dropR_len l a; omega) fun b w48 hb hx48 => ?_
      have hb : b = true := hb.2 ⟨rfl, rfl⟩
      subst hb
      rw [pick_t]
      exact hK w48 (hxd0.trans (hx27.trans (hx2738.trans (hx44.trans (hx46.trans hx48)))))
    cases hth : thereR l a i0 with
    | true =>
      simp only [isB_f, Bool.not_true, GqW_f, GeW_f, GqW_t, pick_t]
      refine ⟨_, rfl, ?_⟩
      simp only [isB_t, GqW_t]
      exact fin (Chg.refl _ _)
    | false =>
      have hx0 : x = RV.zero := by
        rcases hxc with ⟨h1, _⟩ | ⟨_, h2⟩
        · rw [hth] at h1; cases h1
        · exact h2
      simp only [isB_f, Bool.not_false, GqW_t, put_nil, pick_t, pick_f]
      refine ⟨_, hCd.all rfl, _, rfl, ⟨fun _ => ?_, fun e => by cases e⟩⟩
      refine sameRec_ref hCd.rep (rrep_zero _ (fun _ => True)) fun w27 hx27 => ?_
      rw [(sameR_iff x RV.zero).2 hx0]
      refine ⟨_, rfl, ?_⟩
      simp only [isB_t, GqW_t]
      exact fin hx27
end
end Go.Proofs.YtnoepcndjljolaaGreatDoor
namespace Go.Eng
open Go Go.Deep
theorem flat_get {k : Nat} : ∀ (L : List (List Value)) (i r : Nat) (y : List Value), (∀ z ∈ L, z.length = k) → r < k → L[i]? = some y → L.flatten[i * k + r]? = y[r]?
  | [], i, _, _, _, _, h => by simp at h
  | z :: L, 0, r, y, hl, hr, h => by
    simp only [List.getElem?_cons_zero, Option.some.injEq] at h
    subst h
    simp only [List.flatten_cons, Nat.zero_mul, Nat.zero_add]
    rw [List.getElem?_append_left (by rw [hl z List.mem_cons_self]; exact hr)]
  | z :: L, i + 1, r, y, hl, hr, h => by
    simp only [List.getElem?_cons_succ] at h
    have := flat_get L i r y (fun u hu => hl u (List.mem_cons_of_mem _ hu)) hr h
    rw [← this]
    simp only [List.flatten_cons]
    have hz := hl z List.mem_cons_self
    rw [List.getElem?_append_right (by rw [hz, Nat.add_mul]; omega)]
    congr 1
    rw [hz, Nat.add_mul]
    omega
theorem flat_len {k : Nat} : ∀ (L : List (List Value)), (∀ z ∈ L, z.length = k) → L.flatten.length = L.length * k
  | [], _ => by simp
  | z :: L, hl => by
    rw [List.flatten_cons, List.length_append, flat_len L fun u hu => hl u (List.mem_cons_of_mem _ hu), hl z List.mem_cons_self, List.length_cons, Nat.add_mul]
    omega
section
variable {H : Type} {enc : TypeId × Value → H} {P : Program} {w : World} {base : Nat} {spare : Nat → Bool} {held : Bool}
theorem open_rows {t e : TypeId} {k fuel : Nat} {v : Value} {d : DataW H} {ps : List MemPlace} (ht : P.underlying t = some (.slice e)) (hk : P.cellsOf e = k) (hk0 : 0 < k) (h : DataW.trod enc P w base spare held fuel t [v] = some (d, ps)) :
    ∃ p n c T m, ∃ (f : Nat → List Value) (D : Nat → DataW H) (Pl : Nat → List MemPlace), v = .slice p n c ∧ SlAt w T (.slice p n c) n ((List.range n).map f).flatten ∧
      (∀ i, i < n → (f i).length = k ∧ DataW.trod enc P w base spare held m e (f i) = some (D i, Pl i)) ∧ ((n = 0 ∧ d = .nil) ∨ ∃ rest, d = .slice ((List.range n).map D) rest) := by
  rcases open_slice ht h with ⟨hc, hx⟩ | ⟨a, len, cap, m, n, D, Pl, hc, _, hl, hm, hme, hx, hel⟩
  · cases hc
    cases hx
    refine ⟨none, 0, 0, 0, 0, fun _ => [], fun _ => .nil, fun _ => [], rfl, ?_, fun i hi => by omega, .inl ⟨rfl, rfl⟩⟩
    simpa using SlAt.nil w 0
  · cases hc
    cases hx
    have hlm : len ≤ m := by rw [hme]; split <;> omega
    obtain ⟨f, hf⟩ := choose_lt (n := len) fun i hi => hel i (by omega)
    have hfl : ∀ i, i < len → (f i).length = k := fun i hi => by rw [(World.cells?_some (hf i hi).1).2.1, hk]
    have hall : ∀ z ∈ (List.range len).map f, z.length = k := by
      intro z hz
      obtain ⟨i, hi, rfl⟩ := List.mem_map.1 hz
      exact hfl i (List.mem_range.1 hi)
    have hcell : ∀ i r, i < len → r < k → w.cell? (a.add (i * k + r)) = (f i)[r]? := by
      intro i r hi hr
      have := (World.cells?_some (hf i hi).1).2.2 r (by omega)
      rw [add_add, hk] at this
      exact this
    by_cases h0 : len = 0
    · subst h0
      refine ⟨some a, 0, cap, 0, n, f, D, Pl, rfl, ⟨some a, cap, rfl, Nat.zero_le _, (by intro e; cases e), (by simp)⟩, fun i hi => by omega, .inr ⟨_, rfl⟩⟩
    have h00 := hcell 0 0 (by omega) hk0
    have hf0 := hfl 0 (by omega)
    rw [List.getElem?_eq_getElem (by omega)] at h00
    obtain ⟨c, T, fr, hb, hsp⟩ : ∃ c T fr, w.heap[a.block]? = some (.cells c T fr) ∧ a.spot = none := by
      unfold World.cell? at h00
      have e1 : (a.add (0 * k + 0)).block = a.block := by unfold Addr.add; split <;> rfl
      have e2 : (a.add (0 * k + 0)) = a := by unfold Addr.add; simp
      rw [e2] at h00
      split at h00
      · rename_i c T fr hb
        refine ⟨c, T, fr, hb, ?_⟩
        cases hs : a.spot with
        | none => rfl
        | some _ => simp [hs] at h00
      · cases h00
    obtain ⟨b, off, sp⟩ := a
    simp only at hsp hb
    subst hsp
    refine ⟨some ⟨b, off, none⟩, len, cap, T, n, f, D, Pl, rfl, ⟨_, _, rfl, hl, (by intro e; cases e), fun _ => ⟨b, off, c, fr, rfl, hb, fun j hj => ?_⟩⟩, fun i hi => ⟨hfl i hi, (hf i hi).2⟩, .inr ⟨_, rfl⟩⟩
    rw [flat_len _ hall, List.length_map, List.length_range] at hj
    have hi : j / k < len := by rw [Nat.div_lt_iff_lt_mul hk0]; exact hj
    have hr : j % k < k := Nat.mod_lt _ hk0
    have hjj : j / k * k + j % k = j := by rw [Nat.mul_comm]; exact Nat.div_add_mod j k
    have h1 := hcell (j / k) (j % k) hi hr
    rw [hjj, add_mk, cell_eq, hb, cellO_some] at h1
    have h2 := flat_get ((List.range len).map f) (j / k) (j % k) (f (j / k)) hall hr (by simp [hi])
    rw [hjj] at h2
    rw [h1, h2]
end
end Go.Eng
namespace Go.Proofs.YtnoepcndjljolaaGreatDoor
open Go Go.Eng Go.Num Go.Deep
set_option maxRecDepth 100000
instance : Inhabited JV := ⟨JV.null⟩
theorem vreps_map {w : World} {X : Nat → JV} {f : Nat → List Value} : ∀ (l : List Nat), (∀ i ∈ l, VRep w (X i) (f i)) → VReps w (l.map X) (l.map f).flatten
  | [], _ => by simp [VReps]
  | i :: l, h => by
    simp only [List.map_cons, List.flatten_cons, VReps]
    exact ⟨_, _, rfl, h i List.mem_cons_self, vreps_map l fun j hj => h j (List.mem_cons_of_mem _ hj)⟩
section
variable {H : Type} {enc : TypeId × Value → H} {w : World} {base : Nat} {spare : Nat → Bool} {held : Bool}
theorem open_len {P : Program} {t e : TypeId} {fuel : Nat} {p : Option Addr} {n c : Nat} {x : DataW H × List MemPlace} (ht : P.underlying t = some (.slice e)) (h : DataW.trod enc P w base spare held fuel t [.slice p n c] = some x) : n ≤ 9223372036854775807 := by
  rcases Deep.open_slice ht h with ⟨hc, _⟩ | ⟨a, len, cap, m, n', D, Pl, hc, _, hl, hm, _⟩
  · cases hc; omega
  · cases hc; unfold maxLen at hm; omega
theorem open_texts {P : Program} {t e : TypeId} {fuel : Nat} {v : Value} {d : DataW H} {ps : List MemPlace} (ht : P.underlying t = some (.slice e)) (he : P.underlying e = some .string) (hk : P.cellsOf e = 1) (h : DataW.trod enc P w base spare held fuel t [v] = some (d, ps)) :
    ∃ (T : TypeId) (l : List Str), SlAt w T v l.length (l.map str) ∧ l.length ≤ 9223372036854775807 ∧ ∀ s ∈ l, s.length ≤ 9223372036854775807 := by
  obtain ⟨p, n, c, T, m, f, D, Pl, rfl, hs, hf, hd⟩ := open_rows ht hk (by omega) h
  have hn := open_len ht h
  have hex : ∀ i, i < n → ∃ b : Str, f i = [str b] ∧ b.length ≤ 9223372036854775807 := by
    intro i hi
    obtain ⟨s, hx, _, hw⟩ := DataW.trod_string he (hf i hi).2
    refine ⟨s.data.toList, by rw [hx]; simp [ofL], ?_⟩
    unfold maxLen at hw
    simpa using hw
  obtain ⟨g, hg⟩ := choose_lt hex
  have hfl : ((List.range n).map f).flatten = ((List.range n).map g).map str := by
    have : (List.range n).map f = (List.range n).map fun i => [str (g i)] := List.map_congr_left fun i hi => (hg i (List.mem_range.1 hi)).1
    rw [this]
    simp only [List.map_map]
    generalize List.range n = L
    induction L with
    | nil => rfl
    | cons a L ih => simp only [List.map_cons, List.flatten_cons, ih, Function.comp_apply]; rfl
  rw [hfl] at hs
  refine ⟨T, (List.range n).map g, by simpa using hs, by simpa using hn, fun s hs => ?_⟩
  obtain ⟨i, hi, rfl⟩ := List.mem_map.1 hs
  exact (hg i (List.mem_range.1 hi)).2
theorem open_val : ∀ (N fuel : Nat) (cs : List Value) (d : DataW H) (ps : List MemPlace), SizeOf.sizeOf d < N → DataW.trod enc Tryz.prog w base spare held fuel VT cs = some (d, ps) → ∃ v : JV, VRep w v cs
  | 0, _, _, _, _, h, _ => by omega
  | N + 1, fuel, cs, d, ps, hN, h => by
    obtain ⟨xs, n, hn, hx, hl, hlen, hf⟩ := DataW.trod_struct Tryz.underlying40 h
    have hl5 : cs.length = 5 := hl.trans (show Tryz.prog.cellsOf VT = 5 by kernel_rfl)
    have k0 : Tryz.prog.cellsOf 36 = 1 := by kernel_rfl
    have k1 : Tryz.prog.cellsOf 4 = 1 := by kernel_rfl
    have k2 : Tryz.prog.cellsOf 9 = 1 := by kernel_rfl
    have k3 : Tryz.prog.cellsOf 37 = 1 := by kernel_rfl
    have k4 : Tryz.prog.cellsOf 38 = 1 := by kernel_rfl
    match cs, hl5 with
    | [c0, c1, c2, c3, c4], _ =>
    have f0 : DataW.trod enc Tryz.prog w base spare held n 36 (([c0, c1, c2, c3, c4].drop 0).take (Tryz.prog.cellsOf 36)) = xs[0]? := hf 0 _ rfl
    rw [k0] at f0
    have f0 : DataW.trod enc Tryz.prog w base spare held n 36 [c0] = xs[0]? := f0
    have f1 : DataW.trod enc Tryz.prog w base spare held n 4 (([c0, c1, c2, c3, c4].drop 1).take (Tryz.prog.cellsOf 4)) = xs[1]? := hf 1 _ rfl
    rw [k1] at f1
    have f1 : DataW.trod enc Tryz.prog w base spare held n 4 [c1] = xs[1]? := f1
    have f2 : DataW.trod enc Tryz.prog w base spare held n 9 (([c0, c1, c2, c3, c4].drop 2).take (Tryz.prog.cellsOf 9)) = xs[2]? := hf 2 _ rfl
    rw [k2] at f2
    have f2 : DataW.trod enc Tryz.prog w base spare held n 9 [c2] = xs[2]? := f2
    have f3 : DataW.trod enc Tryz.prog w base spare held n 37 (([c0, c1, c2, c3, c4].drop 3).take (Tryz.prog.cellsOf 37)) = xs[3]? := hf 3 _ rfl
    rw [k3] at f3
    have f3 : DataW.trod enc Tryz.prog w base spare held n 37 [c3] = xs[3]? := f3
    have f4 : DataW.trod enc Tryz.prog w base spare held n 38 (([c0, c1, c2, c3, c4].drop 4).take (Tryz.prog.cellsOf 38)) = xs[4]? := hf 4 _ rfl
    rw [k4] at f4
    have f4 : DataW.trod enc Tryz.prog w base spare held n 38 [c4] = xs[4]? := f4
    have hlen : xs.length = 5 := hlen
    match xs, hlen with
    | [y0, y1, y2, y3, y4], _ =>
    simp only [List.getElem?_cons_zero, List.getElem?_cons_succ] at f0 f1 f2 f3 f4
    obtain ⟨a0, h0, _, _⟩ := DataW.trod_int Tryz.underlying36 f0
    obtain ⟨a1, h1, _⟩ := DataW.trod_bool Tryz.underlying4 f1
    obtain ⟨a2, h2, _, w2⟩ := DataW.trod_string Tryz.underlying9 f2
    obtain ⟨T4, ks, h4, l4, b4⟩ := open_texts Tryz.underlying38 Tryz.underlying9 k2 f4
    obtain ⟨p, m, c, T3, m3, f, D, Pl, rfl, h3, hel, hd⟩ := open_rows (k := 5) Tryz.underlying37 (by kernel_rfl) (by omega) f3
    have l3 := open_len Tryz.underlying37 f3
    cases h0; cases h1; cases h2
    have hd3 : SizeOf.sizeOf y3.1 < SizeOf.sizeOf d := by
      have : d = .agg [y0.1, y1.1, y2.1, y3.1, y4.1] := by cases hx; rfl
      rw [this]
      simp
      omega
    have each : ∀ i, i < m → ∃ v : JV, VRep w v (f i) := fun i hi => by
      refine open_val N m3 (f i) (D i) (Pl i) ?_ (hel i hi).2
      rcases hd with ⟨e, _⟩ | ⟨rest, e⟩
      · omega
      · have hmem : D i ∈ (List.range m).map D := List.mem_map.2 ⟨i, List.mem_range.2 hi, rfl⟩
        have h1 := List.sizeOf_lt_of_mem hmem
        rw [e] at hd3
        simp at hd3
        omega
    obtain ⟨X, hX⟩ := choose_lt each
    have hreps : VReps w ((List.range m).map X) ((List.range m).map f).flatten := vreps_map _ fun i hi => hX i (List.mem_range.1 hi)
    have ea : (Value.string a2) = str a2.data.toList := by simp [ofL]
    rw [ea]
    refine ⟨.mk a0 a1 a2.data.toList ((List.range m).map X) ks, VRep.mk (v := .mk a0 a1 a2.data.toList ((List.range m).map X) ks) (by simpa [JV.xs] using h3) hreps h4 ⟨by simpa [JV.xs] using l3, l4, ?_, b4⟩⟩
    unfold maxLen at w2
    simpa [JV.t] using w2
end
end Go.Proofs.YtnoepcndjljolaaGreatDoor
namespace Go.Proofs.YtnoepcndjljolaaGreatDoor
open Go.RowKit Go.Eng
set_option maxRecDepth 100000
theorem tab_reads {P : Program} {w : World} {name : String} {k : IntKind} {zs : List Int} {g : Nat} {t e : TypeId} {n : Nat} (hg : P.globalNamed name = some g) (hty : (P.globals[g]?).map (·.type) = some t) (ht : P.underlying t = some (.array n e)) (he : P.underlying e = some (.int k)) (hce : P.cellsOf e = 1) (hct : P.cellsOf t = n)
    (h : Lib.VarReads P w name (Lib.tabData k zs)) : Lib.TabIs P w name k zs := by
  obtain ⟨g', t', cs, fuel, p, hg', ht', hvar, hd⟩ := h
  obtain rfl := Option.some.inj (hg.symm.trans hg')
  obtain rfl := Option.some.inj (hty.symm.trans ht')
  unfold Lib.TabIs
  rw [hvar, ← Lib.cells_of_tab ht he hce hct hd]
def bruTab : List Int := [0, 1, 56, 2, 57, 49, 28, 3, 61, 58, 42, 50, 38, 29, 17, 4, 62, 47, 59, 36, 45, 43, 51, 22, 53, 39, 33, 30, 24, 18, 12, 5, 63, 55, 48, 27, 60, 41, 37, 16, 46, 35, 44, 21, 52, 32, 23, 11, 54, 26, 40, 15, 34, 20, 31, 10, 25, 14, 19, 9, 13, 8, 7, 6]
theorem tabs_of {w : World} (hL : laidMetH Tryz.prog Rows.stateKeepsRow.laid w) : Tabs w := by
  have h : laidMet Tryz.prog Rows.stateKeepsRow.laid w := by
    rw [Go.MakeChecks.laidMetH_plain _ _ _ (by kernel_rfl)] at hL
    exact hL
  have r : ∀ n d, (n, d) ∈ Rows.stateKeepsRow.laid → Lib.VarReads Tryz.prog w n d := fun n d hm => Lib.laidMet.reads h hm
  have r1 : Lib.VarReads Tryz.prog w "math/bits.deBruijn64tab" (Lib.tabData .u8 bruTab) := r _ _ (.tail _ (.head _))
  have r2 : Lib.VarReads Tryz.prog w "internal/strconv.uint64pow10" (Lib.tabData .u64 Lib.pow10Tab) := r _ _ (.tail _ (.tail _ (.head _)))
  have r3 : Lib.VarReads Tryz.prog w "unicode/utf8.acceptRanges" Lib.acceptData := r _ _ (.tail _ (.tail _ (.tail _ (.head _))))
  have r4 : Lib.VarReads Tryz.prog w "unicode/utf8.first" Lib.firstData := r _ _ (.tail _ (.tail _ (.tail _ (.tail _ (.tail _ (.tail _ (.head _)))))))
  refine ⟨?_, ?_, ?_⟩
  · exact Go.Proofs.utf8Tabs_of_readsT (Go.Proofs.U8Types.of196 Tryz.laysValid) ⟨by kernel_rfl, by kernel_rfl, by kernel_rfl, by kernel_rfl, by kernel_rfl, by kernel_rfl, by kernel_rfl⟩ r4 r3
  · have := tab_reads (g := 7) (t := 261) (e := U8) (n := 64) (by kernel_rfl) (by kernel_rfl) (by kernel_rfl) (by kernel_rfl) (by kernel_rfl) (by kernel_rfl) r1
    exact Lib.TabIs.cell this (by kernel_rfl) 15 (by decide)
  · exact tab_reads (g := 5) (t := 250) (e := U64) (n := 20) (by kernel_rfl) (by kernel_rfl) (by kernel_rfl) (by kernel_rfl) (by kernel_rfl) (by kernel_rfl) r2
section
variable {H : Type} {enc : TypeId × Value → H} {w : World} {base : Nat} {spare : Nat → Bool} {held : Bool}
theorem open_s {v : Value} {d : DataW H} {ps : List MemPlace} {r : Reach} {b0 : Nat} (hval : Value.okWide Tryz.prog w r b0 9 v) (h : DataW.Trod enc Tryz.prog w base spare held 9 v d ps) : ∃ s : Str, v = str s ∧ s.length ≤ 9223372036854775807 := by
  obtain ⟨s, rfl, _, _, hs⟩ := Go.ChangeMaps.open_string Tryz.underlying9 hval h
  exact ⟨s.data.toList, by simp [ofL], by unfold maxLen at hs; simpa using hs⟩
end
end Go.Proofs.YtnoepcndjljolaaGreatDoor
namespace Go.Proofs.YtnoepcndjljolaaGreatDoor
open Go.RowKit Go.Eng
set_option maxRecDepth 100000
theorem trod_iface {P : Program} {w : World} {fuel : Nat} {t : TypeId} {cs : List Value} {s : String} {x : DataW Unit} {p : List MemPlace} {m : Array TypeId} (ht : ∃ m, P.underlying t = some (.interface m)) (h : DataW.trod (fun _ => ()) P w 0 (fun _ => true) false fuel t cs = some (.iface s x, p)) : ∃ u v, cs = [.iface u v] := by
  obtain ⟨m, ht⟩ := ht
  cases fuel with
  | zero => cases h
  | succ fuel =>
    unfold DataW.trod at h
    rw [ht] at h
    match cs, h with
    | [], h => cases h
    | [v], h =>
      cases v with
      | iface u v => exact ⟨u, v, rfl⟩
      | _ => cases h
    | a :: b :: r, h => simp at h
theorem tabe_of {w : World} {x : DataW Unit} {s : String} (h : Lib.VarReads Tryz.prog w "strconv.ErrSyntax" (.iface s x)) : TabE w := by
  obtain ⟨g', t', cs, fuel, p, hg', ht', hvar, hd⟩ := h
  have hg : Tryz.prog.globalNamed "strconv.ErrSyntax" = some 2 := by kernel_rfl
  have hty : (Tryz.prog.globals[2]?).map (·.type) = some 103 := by kernel_rfl
  obtain rfl := Option.some.inj (hg.symm.trans hg')
  obtain rfl := Option.some.inj (hty.symm.trans ht')
  obtain ⟨u, v, hcs⟩ := trod_iface (m := #[]) ⟨_, Tryz.underlying103⟩ hd
  have := World.var?_cell hg hvar 0
  refine ⟨u, v, ?_⟩
  rw [this]
  have e : cs = #[.iface u v] := by
    apply Array.ext'
    rw [hcs]
  rw [e]; rfl
theorem tabsj_of {w : World} (hL : laidMetH Tryz.prog Rows.stateKeepsRow.laid w) : TabJ w := by
  have h : laidMet Tryz.prog Rows.stateKeepsRow.laid w := by
    rw [Go.MakeChecks.laidMetH_plain _ _ _ (by kernel_rfl)] at hL
    exact hL
  have r : ∀ n d, (n, d) ∈ Rows.stateKeepsRow.laid → Lib.VarReads Tryz.prog w n d := fun n d hm => Lib.laidMet.reads h hm
  have hT := tabs_of (w := w) hL
  have r5 : Lib.VarReads Tryz.prog w "strconv.ErrSyntax" Rows.laid_strconv_ErrSyntax := r _ _ (.tail _ (.tail _ (.tail _ (.tail _ (.tail _ (.head _))))))
  exact ⟨hT.utf, hT.bru, tabe_of r5⟩
section
variable {H : Type} {enc : TypeId × Value → H} {w : World} {base : Nat} {spare : Nat → Bool} {held : Bool}
end
end Go.Proofs.YtnoepcndjljolaaGreatDoor
namespace Go.Proofs.YtnoepcndjljolaaGreatDoor
open Go Go.RowKit Go.Eng
set_option maxRecDepth 100000
theorem tabr_of {w : World} {x : DataW Unit} {s : String} (h : Lib.VarReads Tryz.prog w "strconv.ErrRange" (.iface s x)) : ∃ T v, w.cell? ⟨3, 0, none⟩ = some (.iface T v) := by
  obtain ⟨g', t', cs, fuel, p, hg', ht', hvar, hd⟩ := h
  have hg : Tryz.prog.globalNamed "strconv.ErrRange" = some 3 := by kernel_rfl
  have hty : (Tryz.prog.globals[3]?).map (·.type) = some 103 := by kernel_rfl
  obtain rfl := Option.some.inj (hg.symm.trans hg')
  obtain rfl := Option.some.inj (hty.symm.trans ht')
  obtain ⟨u, v, hcs⟩ := trod_iface (m := #[]) ⟨_, Tryz.underlying103⟩ hd
  have := World.var?_cell hg hvar 0
  refine ⟨u, v, ?_⟩
  rw [this]
  have e : cs = #[.iface u v] := by
    apply Array.ext'
    rw [hcs]
  rw [e]; rfl
theorem taba_of {w : World} (hL : laidMetH Tryz.prog Rows.stateKeepsRow.laid w) : TabA w := by
  have h : laidMet Tryz.prog Rows.stateKeepsRow.laid w := by
    rw [Go.MakeChecks.laidMetH_plain _ _ _ (by kernel_rfl)] at hL
    exact hL
  have r : ∀ n d, (n, d) ∈ Rows.stateKeepsRow.laid → Lib.VarReads Tryz.prog w n d := fun n d hm => Lib.laidMet.reads h hm
  have hT := tabs_of (w := w) hL
  have hJ := tabsj_of (w := w) hL
  have r4 : Lib.VarReads Tryz.prog w "strconv.ErrRange" Rows.laid_strconv_ErrRange := r _ _ (.tail _ (.tail _ (.tail _ (.tail _ (.head _)))))
  exact ⟨hT, hJ.err, tabr_of r4⟩
section
variable {H : Type} {enc : TypeId × Value → H} {w : World} {base : Nat} {spare : Nat → Bool} {held : Bool}
end
end Go.Proofs.YtnoepcndjljolaaGreatDoor
namespace Go.Proofs.YtnoepcndjljolaaGreatDoor
open Go Go.RowKit Go.Eng Go.Deep
set_option maxRecDepth 100000
instance : Inhabited RV := ⟨RV.zero⟩
theorem rreps_map {G : Nat → Prop} {w : World} {X : Nat → RV} {f : Nat → List Value} : ∀ (l : List Nat), (∀ i ∈ l, RRepP G w (X i) (f i)) → RRepsP G w (l.map X) (l.map f).flatten
  | [], _ => by simp [RRepsP]
  | i :: l, h => by
    simp only [List.map_cons, List.flatten_cons, RRepsP]
    exact ⟨_, _, rfl, h i List.mem_cons_self, rreps_map l fun j hj => h j (List.mem_cons_of_mem _ hj)⟩
theorem weigh_mem {H : Type} {P : Program} {e : TypeId} {d : DataW H} : ∀ {l : List (DataW H)}, d ∈ l → ∀ x ∈ d.weights P e, x ∈ DataW.weightsAll P e l
  | [], h, _, _ => by cases h
  | y :: l, h, x, hx => by
    simp only [DataW.weightsAll, List.mem_append]
    rcases List.mem_cons.1 h with rfl | h
    · exact .inl hx
    · exact .inr (weigh_mem h x hx)
theorem weigh3 {H : Type} {P : Program} {t0 t1 t2 : TypeId} {d0 d1 d2 : DataW H} (h : (DataW.weightsEach P [t0, t1, t2] [d0, d1, d2]).all (fun x => decide (x ≤ reachBytes)) = true) :
    (∀ x ∈ d0.weights P t0, x ≤ reachBytes) ∧ (∀ x ∈ d1.weights P t1, x ≤ reachBytes) ∧ (∀ x ∈ d2.weights P t2, x ≤ reachBytes) := by
  simp only [DataW.weightsEach, List.all_append, Bool.and_eq_true, List.all_eq_true, decide_eq_true_eq] at h
  exact ⟨h.1, h.2.1, h.2.2.1⟩
section
variable {H : Type} {enc : TypeId × Value → H} {w : World} {base : Nat} {spare : Nat → Bool} {held : Bool}
theorem open_textsd {P : Program} {t e : TypeId} {fuel : Nat} {v : Value} {d : DataW H} {ps : List MemPlace} (ht : P.underlying t = some (.slice e)) (he : P.underlying e = some .string) (hk : P.cellsOf e = 1) (h : DataW.trod enc P w base spare held fuel t [v] = some (d, ps)) :
    ∃ (T : TypeId) (l : List Str), SlAt w T v l.length (l.map str) ∧ l.length ≤ 9223372036854775807 ∧ (∀ s ∈ l, s.length ≤ 9223372036854775807) ∧ ((l = [] ∧ d = .nil) ∨ ∃ ds rest, d = .slice ds rest ∧ ds.length = l.length) := by
  obtain ⟨p, n, c, T, m, f, D, Pl, rfl, hs, hf, hd⟩ := open_rows ht hk (by omega) h
  have hn := open_len ht h
  have hex : ∀ i, i < n → ∃ b : Str, f i = [str b] ∧ b.length ≤ 9223372036854775807 := by
    intro i hi
    obtain ⟨s, hx, _, hw⟩ := DataW.trod_string he (hf i hi).2
    refine ⟨s.data.toList, by rw [hx]; simp [ofL], ?_⟩
    unfold maxLen at hw
    simpa using hw
  obtain ⟨g, hg⟩ := choose_lt hex
  have hfl : ((List.range n).map f).flatten = ((List.range n).map g).map str := by
    have : (List.range n).map f = (List.range n).map fun i => [str (g i)] := List.map_congr_left fun i hi => (hg i (List.mem_range.1 hi)).1
    rw [this]
    simp only [List.map_map]
    generalize List.range n = L
    induction L with
    | nil => rfl
    | cons a L ih => simp only [List.map_cons, List.flatten_cons, ih, Function.comp_apply]; rfl
  rw [hfl] at hs
  refine ⟨T, (List.range n).map g, by simpa using hs, by simpa using hn, (fun s hs => ?_), ?_⟩
  · obtain ⟨i, hi, rfl⟩ := List.mem_map.1 hs
    exact (hg i (List.mem_range.1 hi)).2
  · rcases hd with ⟨rfl, hd⟩ | ⟨rest, hd⟩
    · exact .inl ⟨rfl, hd⟩
    · exact .inr ⟨_, rest, hd, by simp⟩
theorem open_rec {fuel : Nat} {cs : List Value} {d : DataW H} {ps : List MemPlace} (h : DataW.trod enc Tryz.prog w base spare held fuel RT cs = some (d, ps)) (hw : ∀ x ∈ d.weights Tryz.prog RT, x ≤ reachBytes) :
    ∃ r : RV, RRepP (fun k => k < w.heap.size) w r cs ∧ r.deps.length ≤ 8796093022208 := by
  obtain ⟨xs, n, hn, hx, hl, hlen, hf⟩ := DataW.trod_struct Tryz.underlying42 h
  have hl9 : cs.length = 9 := hl.trans (show Tryz.prog.cellsOf RT = 9 by kernel_rfl)
  have k1 : Tryz.prog.cellsOf 9 = 1 := by kernel_rfl
  have k5 : Tryz.prog.cellsOf VT = 5 := by kernel_rfl
  have k0 : Tryz.prog.cellsOf 38 = 1 := by kernel_rfl
  have kb : Tryz.prog.bytesOf 9 = 16 := by kernel_rfl
  have eb : reachBytes = 140737488351232 := by decide
  match cs, hl9 with
  | [c0, c1, c2, c3, c4, c5, c6, c7, c8], _ =>
  have f0 : DataW.trod enc Tryz.prog w base spare held n 9 (([c0, c1, c2, c3, c4, c5, c6, c7, c8].drop 0).take (Tryz.prog.cellsOf 9)) = xs[0]? := hf 0 _ rfl
  rw [k1] at f0
  have f0 : DataW.trod enc Tryz.prog w base spare held n 9 [c0] = xs[0]? := f0
  have f1 : DataW.trod enc Tryz.prog w base spare held n 9 (([c0, c1, c2, c3, c4, c5, c6, c7, c8].drop 1).take (Tryz.prog.cellsOf 9)) = xs[1]? := hf 1 _ rfl
  rw [k1] at f1
  have f1 : DataW.trod enc Tryz.prog w base spare held n 9 [c1] = xs[1]? := f1
  have f2 : DataW.trod enc Tryz.prog w base spare held n 9 (([c0, c1, c2, c3, c4, c5, c6, c7, c8].drop 2).take (Tryz.prog.cellsOf 9)) = xs[2]? := hf 2 _ rfl
  rw [k1] at f2
  have f2 : DataW.trod enc Tryz.prog w base spare held n 9 [c2] = xs[2]? := f2
  have f3 : DataW.trod enc Tryz.prog w base spare held n VT (([c0, c1, c2, c3, c4, c5, c6, c7, c8].drop 3).take (Tryz.prog.cellsOf VT)) = xs[3]? := hf 3 _ rfl
  rw [k5] at f3
  have f3 : DataW.trod enc Tryz.prog w base spare held n VT [c3, c4, c5, c6, c7] = xs[3]? := f3
  have f4 : DataW.trod enc Tryz.prog w base spare held n 38 (([c0, c1, c2, c3, c4, c5, c6, c7, c8].drop 8).take (Tryz.prog.cellsOf 38)) = xs[4]? := hf 4 _ rfl
  rw [k0] at f4
  have f4 : DataW.trod enc Tryz.prog w base spare held n 38 [c8] = xs[4]? := f4
  have hlen : xs.length = 5 := hlen
  match xs, hlen with
  | [y0, y1, y2, y3, y4], _ =>
  simp only [List.getElem?_cons_zero, List.getElem?_cons_succ] at f0 f1 f2 f3 f4
  obtain ⟨a0, h0, z0, w0⟩ := DataW.trod_string Tryz.underlying9 f0
  obtain ⟨a1, h1, z1, w1⟩ := DataW.trod_string Tryz.underlying9 f1
  obtain ⟨a2, h2, z2, w2⟩ := DataW.trod_string Tryz.underlying9 f2
  obtain ⟨v, hv⟩ := open_val _ n _ y3.1 y3.2 (Nat.lt_succ_self _) f3
  obtain ⟨T4, ks, h4, l4, b4, d4⟩ := open_textsd Tryz.underlying38 Tryz.underlying9 k1 f4
  cases h0; cases h1; cases h2
  unfold maxLen at w0 w1 w2
  have ea : ∀ a : ByteArray, (Value.string a) = str a.data.toList := fun a => by simp [ofL]
  refine ⟨⟨a0.data.toList, a1.data.toList, a2.data.toList, v, ks⟩, ⟨_, c8, T4, by rw [ea a0, ea a1, ea a2]; rfl, vrep_lt hv, h4, slat_lt h4, ⟨by simpa using w0, by simpa using w1, by simpa using w2, l4, b4⟩⟩, ?_⟩
  show ks.length ≤ 8796093022208
  have ed : d = .agg [y0.1, y1.1, y2.1, y3.1, y4.1] := by cases hx; rfl
  rw [ed] at hw
  rcases d4 with ⟨rfl, _⟩ | ⟨es, rest, e4, hl4⟩
  · simp
  have hu := Tryz.underlying42
  have hu4 := Tryz.underlying38
  have hw := hw ((es.length + rest.length) * 16) (by
    rw [e4]
    simp only [DataW.weights, DataW.weightsEach, hu, hu4, kb, List.map_cons, List.map_nil, List.mem_append, List.mem_cons, true_or, or_true])
  omega
theorem open_st {v : Value} {d : DataW H} {ps : List MemPlace} {r : Reach} {b0 : Nat} (hval : Value.okWide Tryz.prog w r b0 StaT v) (h : DataW.Trod enc Tryz.prog w base spare held StaT v d ps) (hw : ∀ x ∈ d.weights Tryz.prog StaT, x ≤ reachBytes) :
    ∃ (ser : Int) (l : List RV) (cs : List Value), v = .agg cs.toArray ∧ StRepP (fun k => k < w.heap.size) w ser l cs ∧ l.length ≤ 9223372036854775807 ∧ ∀ x ∈ l, x.deps.length ≤ 8796093022208 := by
  obtain ⟨fuel, h⟩ := h
  obtain ⟨xs, n, hn, hx, hl, hlen, hf⟩ := DataW.trod_struct Tryz.underlying24 h
  have hl2 : v.cells.toList.length = 2 := hl.trans (show Tryz.prog.cellsOf StaT = 2 by kernel_rfl)
  have k1 : Tryz.prog.cellsOf 3 = 1 := by kernel_rfl
  have k2 : Tryz.prog.cellsOf 22 = 1 := by kernel_rfl
  have k9 : Tryz.prog.cellsOf RT = 9 := by kernel_rfl
  cases v with
  | agg arr =>
    obtain ⟨cs⟩ := arr
    simp only [Value.cells] at hl2 hf
    match cs, hl2 with
    | [c0, c1], _ =>
    have f0 : DataW.trod enc Tryz.prog w base spare held n 3 (([c0, c1].drop 0).take (Tryz.prog.cellsOf 3)) = xs[0]? := hf 0 _ rfl
    rw [k1] at f0
    have f0 : DataW.trod enc Tryz.prog w base spare held n 3 [c0] = xs[0]? := f0
    have f1 : DataW.trod enc Tryz.prog w base spare held n 22 (([c0, c1].drop 1).take (Tryz.prog.cellsOf 22)) = xs[1]? := hf 1 _ rfl
    rw [k2] at f1
    have f1 : DataW.trod enc Tryz.prog w base spare held n 22 [c1] = xs[1]? := f1
    have hlen : xs.length = 2 := hlen
    match xs, hlen with
    | [y0, y1], _ =>
    simp only [List.getElem?_cons_zero, List.getElem?_cons_succ] at f0 f1
    obtain ⟨a0, h0, z0, w0⟩ := DataW.trod_int Tryz.underlying3 f0
    obtain ⟨p, m, c, T3, m3, f, D, Pl, rfl, h3, hel, hd⟩ := open_rows (k := 9) Tryz.underlying22 k9 (by omega) f1
    have l3 := open_len Tryz.underlying22 f1
    cases h0
    have ed : d = .agg [y0.1, y1.1] := by cases hx; rfl
    rw [ed] at hw
    have hu := Tryz.underlying24
    have hur := Tryz.underlying22
    have each : ∀ i, i < m → ∃ r : RV, RRepP (fun k => k < w.heap.size) w r (f i) ∧ r.deps.length ≤ 8796093022208 := fun i hi => by
      refine open_rec (hel i hi).2 fun x hxw => hw x ?_
      rcases hd with ⟨e, _⟩ | ⟨rest, e⟩
      · omega
      · have hmem : D i ∈ (List.range m).map D := List.mem_map.2 ⟨i, List.mem_range.2 hi, rfl⟩
        have hm := weigh_mem (P := Tryz.prog) (e := RT) hmem x hxw
        rw [e]
        simp only [DataW.weights, DataW.weightsEach, hu, hur, List.map_cons, List.map_nil, List.mem_append, List.mem_cons]
        simp only [hm, true_or, or_true]
    obtain ⟨X, hX⟩ := choose_lt each
    have hreps : RRepsP (fun k => k < w.heap.size) w ((List.range m).map X) ((List.range m).map f).flatten := rreps_map _ fun i hi => (hX i (List.mem_range.1 hi)).1
    refine ⟨a0, (List.range m).map X, _, rfl, ⟨_, T3, _, rfl, by simpa using h3, hreps⟩, by simpa using l3, fun x hx => ?_⟩
    obtain ⟨i, hi, rfl⟩ := List.mem_map.1 hx
    exact (hX i (List.mem_range.1 hi)).2
  | _ => simp [Value.cells] at hl2
theorem open_rc {v : Value} {d : DataW H} {ps : List MemPlace} {r : Reach} {b0 : Nat} (hval : Value.okWide Tryz.prog w r b0 RT v) (h : DataW.Trod enc Tryz.prog w base spare held RT v d ps) (hw : ∀ x ∈ d.weights Tryz.prog RT, x ≤ reachBytes) :
    ∃ (x : RV) (cs : List Value), v = .agg cs.toArray ∧ RRepP (fun k => k < w.heap.size) w x cs ∧ x.deps.length ≤ 8796093022208 := by
  obtain ⟨fuel, hf⟩ := h
  obtain ⟨x, hx, hd⟩ := open_rec hf hw
  have hl := hx.len
  refine ⟨x, v.cells.toList, ?_, hx, hd⟩
  cases v with
  | agg a => simp [Value.cells]
  | _ => simp [Value.cells] at hl
end
end Go.Proofs.YtnoepcndjljolaaGreatDoor
