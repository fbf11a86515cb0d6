/- One plain sentence: weakest preconditions, contracts and plain laws that the claim rests on, text behind text. Conditions: those that each states. -/
import Derived.Test.YtcnjpcadejcenaaGreatDoorMT4
import Derived.Test.YtcnjpcadejcenaaGreatDoorMT1
import Derived.Deep.Slices
import Derived.DataReads
import Derived.ChangeArms
import Derived.Test.YtcnjpcadejcenaaGreatDoorMT3
import Derived.OpenShut
import Derived.Test.YtcnjpcadejcenaaGreatDoorRows
import Derived.Below
import Derived.RowKit
import Derived.ChangeMaps5
import Derived.MakeChecks
import Derived.Lib.LaidU8T
import Derived.Lib.LaidTab
set_option linter.all false
set_option linter.unusedSimpArgs false
set_option linter.unusedVariables false
set_option linter.unusedSectionVars false
namespace Go.Proofs.YtcnjpcadejcenaaGreatDoor
open Go Go.Eng Go.Num
set_option maxRecDepth 100000
theorem VRepsP.get {G : Nat → Prop} {w : World} : ∀ {xs : List JV} {L : List Value} {i : Nat} {x : JV}, VRepsP G w xs L → xs[i]? = some x → ∃ cs, VRepP G w x cs ∧ ∀ j, j < 5 → L[i * 5 + j]? = cs[j]?
  | [], _, _, _, _, h => by simp at h
  | y :: xs, L, 0, x, h, hx => by
    simp only [List.getElem?_cons_zero, Option.some.injEq] at hx
    subst hx
    simp only [VRepsP] at h
    obtain ⟨c, r, rfl, hc, hr⟩ := h
    refine ⟨c, hc, fun j hj => ?_⟩
    rw [Nat.zero_mul, Nat.zero_add, List.getElem?_append_left (by rw [hc.rep.len]; exact hj)]
  | y :: xs, L, i + 1, x, h, hx => by
    simp only [List.getElem?_cons_succ] at hx
    simp only [VRepsP] at h
    obtain ⟨c, r, rfl, hc, hr⟩ := h
    obtain ⟨cs, h1, h2⟩ := VRepsP.get hr hx
    refine ⟨cs, h1, fun j hj => ?_⟩
    rw [List.getElem?_append_right (by rw [hc.rep.len]; omega), hc.rep.len, ← h2 j hj]
    congr 1; omega
theorem VRepP.out {G : Nat → Prop} {w : World} {v : JV} {cs : List Value} (h : VRepP G w v cs) : ∃ sv kv T1 T2 L, cs = [i64 v.k, .bool v.b, str v.t, sv, kv] ∧ SlAt w T1 sv v.xs.length L ∧ VRepsP G w v.xs L ∧ SlAt w T2 kv v.ks.length (v.ks.map str) ∧ Fits v.xs.length v.ks v.t ∧ (L ≠ [] → inG G sv) ∧ (v.ks.map str ≠ [] → inG G kv) := by
  cases v with
  | mk k b t xs ks => simpa only [VRepP, JV.k, JV.b, JV.t, JV.xs, JV.ks] using h
structure ValIP (G : Nat → Prop) (w : World) (v : JV) (sv kv : Value) : Prop where
  items : ∃ T L, SlAt w T sv v.xs.length L ∧ VRepsP G w v.xs L ∧ (L ≠ [] → inG G sv)
  keys : ∃ T, SlAt w T kv v.ks.length (v.ks.map str)
  fits : Fits v.xs.length v.ks v.t
  kin : v.ks.map str ≠ [] → inG G kv
theorem ValIP.toI {G : Nat → Prop} {w : World} {v : JV} {sv kv : Value} (h : ValIP G w v sv kv) : ValI w v sv kv := by
  obtain ⟨T, L, h1, h2, _⟩ := h.items
  exact ⟨⟨T, L, h1, VRepsP.rep h2⟩, h.keys, h.fits⟩
theorem ValIP.rep {G : Nat → Prop} {w : World} {v : JV} {sv kv : Value} (h : ValIP G w v sv kv) : VRepP G w v [i64 v.k, .bool v.b, str v.t, sv, kv] := by
  obtain ⟨T, L, h1, h2, h3⟩ := h.items
  obtain ⟨T', h4⟩ := h.keys
  exact VRepP.mk h1 h2 h4 h.fits h3 h.kin
theorem box_valiP {G : Nat → Prop} {w0 w : World} {v : JV} {cs : List Value} {K : Value → World → Prop} (h : VRepP G w0 v cs) (hK : ∀ a w' sv kv, w'.heap[a]? = some (.cells [i64 v.k, .bool v.b, str v.t, sv, kv].toArray VT (0, 0)) → ValIP G w0 v sv kv → Ext w w' → w.heap.size ≤ a → w'.heap.size = a + 1 → K (.pointer (some ⟨a, 0, none⟩)) w') : boxW VT (.agg cs.toArray) w K := by
  obtain ⟨sv, kv, T1, T2, L, rfl, h1, h2, h3, h4, h5, h6⟩ := h.out
  refine box_new fun a w' ha hz hb hx => hK a w' sv kv hb ⟨⟨T1, L, h1, h2, h5⟩, ⟨T2, h3⟩, h4, h6⟩ hx (by omega) (by omega)
theorem ValIP.item_old {G : Nat → Prop} {w0 w : World} {v : JV} {sv kv : Value} {k : IntKind} {i : Nat} {x : JV} {K : Value → Prop} (h : ValIP G w0 v sv kv) (hx : Ext w0 w) (hi : v.xs[i]? = some x) (hK : ∀ cs, VRepP G w0 x cs → K (.agg cs.toArray)) : ixaW none 5 sv (.int k i) fun p => ldW true 5 p w K := by
  obtain ⟨T, L, h1, h2, _⟩ := h.items
  obtain ⟨cs, hc, hg⟩ := h2.get hi
  refine ixa_at (size := 5) (h1.ext hx) h2.len (by omega) (List.getElem?_eq_some_iff.1 hi).1 fun b o c fr hb hcc => ?_
  exact ld_cells hb hc.rep.len (fun j hj => (hcc j hj).trans (hg j hj)) (hK cs hc)
section
variable [HX]
structure GrowP (GG : Nat → Prop) (w0 w : World) (b base : Nat) (sv0 kv0 sv kv : Value) (xs : List JV) (ks : List Str) : Prop where
  ext : Ext w0 w
  hb : w.heap[b]? = some (.cells [i64 6, .bool false, str [], sv0, kv0].toArray VT (0, 0))
  low : w0.heap.size ≤ b
  lt : b < base
  le : base ≤ w.heap.size
  items : ∃ L, Own w base VT 5 sv xs.length L ∧ VRepsP GG w0 xs L
  keys : Own w base ST 1 kv ks.length (ks.map str)
theorem GrowP.more {GG : Nat → Prop} {w0 w w' : World} {b base : Nat} {sv0 kv0 sv kv : Value} {xs : List JV} {ks : List Str} (h : GrowP GG w0 w b base sv0 kv0 sv kv xs ks) (hx : Ext w w') : GrowP GG w0 w' b base sv0 kv0 sv kv xs ks :=
  ⟨h.ext.trans hx, hx.at h.hb id, h.low, h.lt, Nat.le_trans h.le hx.size, let ⟨L, h1, h2⟩ := h.items; ⟨L, h1.ext hx, h2⟩, h.keys.ext hx⟩
theorem GrowP.chg {GG : Nat → Prop} {w0 w w' : World} {b b' base : Nat} {sv0 kv0 sv kv : Value} {xs : List JV} {ks : List Str} (h : GrowP GG w0 w b base sv0 kv0 sv kv xs ks) (hc : Chg (fun k => k = b') w w') (h1 : b' ≠ b) (h2 : b' < base) (h3 : w0.heap.size ≤ b') : GrowP GG w0 w' b base sv0 kv0 sv kv xs ks :=
  ⟨h.ext.new hc h3, hc.at h.hb (fun e => h1 e.symm), h.low, h.lt, Nat.le_trans h.le hc.size, let ⟨L, g1, g2⟩ := h.items; ⟨L, g1.chg hc fun k hk e => by have := hk.1; omega, g2⟩, h.keys.chg hc fun k hk e => by have := hk.1; omega⟩
theorem GrowP.appk {GG : Nat → Prop} {w0 w : World} {b base : Nat} {sv0 kv0 sv kv t : Value} {xs : List JV} {ks : List Str} {x : Str} {T : TypeId} {K : Value → World → Prop} (h : GrowP GG w0 w b base sv0 kv0 sv kv xs ks) (ht : SlAt w T t 1 [str x]) (hl : ks.length ≤ 1000000)
    (hK : ∀ kv' w', GrowP GG w0 w' b base sv0 kv0 sv kv' xs (ks ++ [x]) → Chg (fun k => base ≤ k) w w' → K kv' w') : semE Tryz.prog (Builtin.append_ #[24, 24] 24 #[kv, t]) w K := by
  refine append_own2 elem_s h.keys ht (m := 1) rfl (fun u hu => by simp only [List.mem_singleton] at hu; subst hu; rfl) (by omega) (by omega) h.le fun v' w' h' hc _ => ?_
  refine hK v' w' ⟨h.ext.then hc fun k hk e => ?_, hc.at h.hb fun e => ?_, h.low, h.lt, Nat.le_trans h.le hc.size, ?_, by simpa using h'⟩ (hc.mono fun k _ e => (own_ge h.keys e).1)
  · have := (own_ge h.keys e).1; have := h.low; have := h.lt; omega
  · have := (own_ge h.keys e).1; have := h.lt; omega
  · obtain ⟨L, h1, h2⟩ := h.items
    refine ⟨L, h1.chg hc fun k hk e => ?_, h2⟩
    obtain ⟨_, c, hc1⟩ := hk
    obtain ⟨_, c', hc2⟩ := own_ge h.keys e
    rw [hc1] at hc2; cases hc2
theorem GrowP.appx {GG : Nat → Prop} {w0 w : World} {b base : Nat} {sv0 kv0 sv kv t : Value} {xs : List JV} {ks : List Str} {x : JV} {cs : List Value} {T : TypeId} {K : Value → World → Prop} (h : GrowP GG w0 w b base sv0 kv0 sv kv xs ks) (ht : SlAt w T t 1 cs) (hx : VRepP GG w0 x cs) (hl : xs.length ≤ 1000000)
    (hK : ∀ sv' w', GrowP GG w0 w' b base sv0 kv0 sv' kv (xs ++ [x]) ks → Chg (fun k => base ≤ k) w w' → K sv' w') : semE Tryz.prog (Builtin.append_ #[23, 23] 23 #[sv, t]) w K := by
  obtain ⟨L, h1, h2⟩ := h.items
  refine append_own2 elem_v h1 ht (m := 1) (by rw [hx.rep.len]) hx.rep.one (by omega) (by omega) h.le fun v' w' h' hc _ => ?_
  refine hK v' w' ⟨h.ext.then hc fun k hk e => ?_, hc.at h.hb fun e => ?_, h.low, h.lt, Nat.le_trans h.le hc.size, ⟨L ++ cs, by simpa using h', h2.snoc hx⟩, h.keys.chg hc fun k hk e => ?_⟩ (hc.mono fun k _ e => (own_ge h1 e).1)
  · have := (own_ge h1 e).1; have := h.low; have := h.lt; omega
  · have := (own_ge h1 e).1; have := h.lt; omega
  · obtain ⟨_, c, hc1⟩ := hk
    obtain ⟨_, c', hc2⟩ := own_ge h1 e
    rw [hc1] at hc2; cases hc2
theorem GrowP.set {GG : Nat → Prop} {w0 w : World} {b base off : Nat} {sv0 kv0 sv kv v sv1 kv1 : Value} {xs : List JV} {ks : List Str} {K : World → Prop} (h : GrowP GG w0 w b base sv0 kv0 sv kv xs ks) (h1 : one1 v = true) (ho : off < 5)
    (he : ([i64 6, .bool false, str [], sv0, kv0] : List Value).set off v = [i64 6, .bool false, str [], sv1, kv1]) (hK : ∀ w', GrowP GG w0 w' b base sv1 kv1 sv kv xs ks → Chg (fun k => k = b) w w' → K w') : stW 1 (.pointer (some ⟨b, off, none⟩)) v w K := by
  refine st_at h.hb h1 (by simpa using ho) fun w' hz hb' hc => ?_
  refine hK w' ⟨h.ext.new hc h.low, ?_, h.low, h.lt, by rw [hz]; exact h.le, ?_, h.keys.chg hc fun k hk e => ?_⟩ hc
  · rw [hb', ← he]; simp
  · obtain ⟨L, h1, h2⟩ := h.items
    exact ⟨L, h1.chg hc fun k hk e => by have := hk.1; have := h.lt; omega, h2⟩
  · have := hk.1; have := h.lt; omega
theorem GrowP.one {GG : Nat → Prop} {w0 w : World} {b base : Nat} {sv0 kv0 sv kv : Value} {xs : List JV} {ks : List Str} (h : GrowP GG w0 w b base sv0 kv0 sv kv xs ks) : one1 sv = true ∧ one1 kv = true := by
  obtain ⟨L, h1, _⟩ := h.items
  obtain ⟨p, c, rfl, _⟩ := h1.sl.shape
  obtain ⟨p', c', rfl, _⟩ := h.keys.sl.shape
  exact ⟨rfl, rfl⟩
structure OwnVP (GG : Nat → Prop) (w0 w : World) (base : Nat) (v : JV) (sv kv : Value) : Prop where
  items : ∃ L, Own w base VT 5 sv v.xs.length L ∧ VRepsP GG w0 v.xs L
  keys : Own w base ST 1 kv v.ks.length (v.ks.map str)
  fits : Fits v.xs.length v.ks v.t
theorem OwnVP.chg {GG : Nat → Prop} {w0 w w' : World} {base : Nat} {v : JV} {sv kv : Value} {S : Nat → Prop} (h : OwnVP GG w0 w base v sv kv) (hc : Chg S w w') (hS : ∀ k, base ≤ k → k < w.heap.size → ¬ S k) : OwnVP GG w0 w' base v sv kv :=
  ⟨let ⟨L, h1, h2⟩ := h.items; ⟨L, h1.chg hc fun k hk => hS k hk.1 (by obtain ⟨_, c, hk⟩ := hk; exact at_lt hk), h2⟩, h.keys.chg hc fun k hk => hS k hk.1 (by obtain ⟨_, c, hk⟩ := hk; exact at_lt hk), h.fits⟩
theorem OwnVP.one {GG : Nat → Prop} {w0 w : World} {base : Nat} {v : JV} {sv kv : Value} (h : OwnVP GG w0 w base v sv kv) : one1 sv = true ∧ one1 kv = true := by
  obtain ⟨L, h1, _⟩ := h.items
  obtain ⟨p, c, rfl, _⟩ := h1.sl.shape
  obtain ⟨p', c', rfl, _⟩ := h.keys.sl.shape
  exact ⟨rfl, rfl⟩
theorem GrowP.own {GG : Nat → Prop} {w0 w : World} {b base : Nat} {sv kv : Value} {l : List (Str × JV)} (h : GrowP GG w0 w b base sv kv sv kv (l.map (·.2)) (l.map (·.1))) (hl : l.length ≤ 1000000) (hk : ∀ p ∈ l, p.1.length ≤ 9223372036854775807) : OwnVP GG w0 w base (mkO l) sv kv := by
  refine ⟨h.items, h.keys, ?_, ?_, ?_, ?_⟩
  · simp only [mkO, JV.xs, List.length_map]; omega
  · simp only [mkO, JV.ks, List.length_map]; omega
  · simp [mkO, JV.t]
  · intro s hs
    simp only [mkO, JV.ks, List.mem_map] at hs
    obtain ⟨p, hp, rfl⟩ := hs
    exact hk p hp
theorem GrowP.rebase {GG : Nat → Prop} {w0 w : World} {b base base' : Nat} (h : GrowP GG w0 w b base (.slice none 0 0) (.slice none 0 0) (.slice none 0 0) (.slice none 0 0) [] []) (h1 : b < base') (h2 : base' ≤ w.heap.size) : GrowP GG w0 w b base' (.slice none 0 0) (.slice none 0 0) (.slice none 0 0) (.slice none 0 0) [] [] :=
  ⟨h.ext, h.hb, h.low, h1, h2, ⟨[], ⟨rfl, .inl ⟨rfl, rfl⟩⟩, by simp [VRepsP]⟩, ⟨rfl, .inl ⟨rfl, rfl⟩⟩⟩
theorem grow_keyP {GG : Nat → Prop} {w0 w : World} {g base : Nat} {sv kv : Value} {xs : List JV} {ks : List Str} {x : Str} {K : World → Prop} (G : GrowP GG w0 w g base sv kv sv kv xs ks) (hl : ks.length ≤ 1000000)
    (hK : ∀ kv' w', GrowP GG w0 w' g base sv kv' sv kv' xs (ks ++ [x]) → Low g base w w' → K w') :
    bslW ST 1 [.string (ofL [])] [(0, 1, str x)] w fun t w1 => semE Tryz.prog (Builtin.append_ #[24, 24] 24 #[kv, t]) w1 fun t2 w2 => stW 1 (.pointer (some ⟨g, 4, none⟩)) t2 w2 K := by
  refine row_s fun t6 w6 ht6 hx6 => ?_
  refine (G.more hx6).appk ht6 hl fun kv2 w7 G7 hb7 => ?_
  refine G7.set (sv1 := sv) (kv1 := kv2) G7.one.2 (by omega) rfl fun w8 G8 hb8 => ?_
  exact hK kv2 w8 G8 (low_set (low_step (Chg.of_ext hx6) hb7) hb8)
theorem grow_keyP' {GG : Nat → Prop} {w0 w : World} {g base : Nat} {sv kv : Value} {xs : List JV} {ks : List Str} {x : Str} {K : World → Prop} (G : GrowP GG w0 w g base sv kv sv kv xs ks) (hl : ks.length ≤ 1000000)
    (hK : ∀ kv' w', GrowP GG w0 w' g base sv kv' sv kv' xs (ks ++ [x]) → Low g base w w' → K w') :
    bslW ST 1 [.string (ofL [])] [(0, 1, str x)] w fun t w1 => (∃ v, cellO w1.heap[g]? 4 = some v ∧ v = kv) ∧ semE Tryz.prog (Builtin.append_ #[24, 24] 24 #[kv, t]) w1 fun t2 w2 => stW 1 (.pointer (some ⟨g, 4, none⟩)) t2 w2 K := by
  refine row_s fun t6 w6 ht6 hx6 => ⟨⟨kv, by rw [(G.more hx6).hb]; rfl, rfl⟩, ?_⟩
  refine (G.more hx6).appk ht6 hl fun kv2 w7 G7 hb7 => ?_
  refine G7.set (sv1 := sv) (kv1 := kv2) G7.one.2 (by omega) rfl fun w8 G8 hb8 => ?_
  exact hK kv2 w8 G8 (low_set (low_step (Chg.of_ext hx6) hb7) hb8)
theorem grow_itemP {GG : Nat → Prop} {w0 w : World} {g base : Nat} {sv kv : Value} {xs : List JV} {ks : List Str} {x : JV} {cs : List Value} {K : World → Prop} (G : GrowP GG w0 w g base sv kv sv kv xs ks) (hx : VRepP GG w0 x cs) (hl : xs.length ≤ 1000000)
    (hK : ∀ sv' w', GrowP GG w0 w' g base sv' kv sv' kv (xs ++ [x]) ks → Low g base w w' → K w') :
    bslW VT 1 [(.int .i64 0), (.bool false), (.string (ofL [])), (.slice none 0 0), (.slice none 0 0)] [(0, 5, .agg cs.toArray)] w fun t w1 => semE Tryz.prog (Builtin.append_ #[23, 23] 23 #[sv, t]) w1 fun t2 w2 => stW 1 (.pointer (some ⟨g, 3, none⟩)) t2 w2 K := by
  refine row_v hx.rep.len fun t6 w6 ht6 hx6 => ?_
  refine (G.more hx6).appx ht6 hx hl fun sv2 w7 G7 hb7 => ?_
  refine G7.set (sv1 := sv2) (kv1 := kv) G7.one.1 (by omega) rfl fun w8 G8 hb8 => ?_
  exact hK sv2 w8 G8 (low_set (low_step (Chg.of_ext hx6) hb7) hb8)
theorem grow_itemP' {GG : Nat → Prop} {w0 w : World} {g base : Nat} {sv kv : Value} {xs : List JV} {ks : List Str} {x : JV} {cs : List Value} {K : World → Prop} (G : GrowP GG w0 w g base sv kv sv kv xs ks) (hx : VRepP GG w0 x cs) (hl : xs.length ≤ 1000000)
    (hK : ∀ sv' w', GrowP GG w0 w' g base sv' kv sv' kv (xs ++ [x]) ks → Low g base w w' → K w') :
    bslW VT 1 [(.int .i64 0), (.bool false), (.string (ofL [])), (.slice none 0 0), (.slice none 0 0)] [(0, 5, .agg cs.toArray)] w fun t w1 => (∃ v, cellO w1.heap[g]? 3 = some v ∧ v = sv) ∧ semE Tryz.prog (Builtin.append_ #[23, 23] 23 #[sv, t]) w1 fun t2 w2 => stW 1 (.pointer (some ⟨g, 3, none⟩)) t2 w2 K := by
  refine row_v hx.rep.len fun t6 w6 ht6 hx6 => ⟨⟨sv, by rw [(G.more hx6).hb]; rfl, rfl⟩, ?_⟩
  refine (G.more hx6).appx ht6 hx hl fun sv2 w7 G7 hb7 => ?_
  refine G7.set (sv1 := sv2) (kv1 := kv) G7.one.1 (by omega) rfl fun w8 G8 hb8 => ?_
  exact hK sv2 w8 G8 (low_set (low_step (Chg.of_ext hx6) hb7) hb8)
theorem OwnVP.item_old {GG : Nat → Prop} {w0 w : World} {base : Nat} {v : JV} {sv kv : Value} {k : IntKind} {i : Nat} {x : JV} {K : Value → Prop} (h : OwnVP GG w0 w base v sv kv) (hi : v.xs[i]? = some x) (hK : ∀ cs, VRepP GG w0 x cs → K (.agg cs.toArray)) : ixaW none 5 sv (.int k i) fun p => ldW true 5 p w K := by
  obtain ⟨L, h1, h2⟩ := h.items
  obtain ⟨cs, hc, hg⟩ := h2.get hi
  refine ixa_at (size := 5) h1.sl h2.len (by omega) (List.getElem?_eq_some_iff.1 hi).1 fun b o c fr hb hcc => ?_
  exact ld_cells hb hc.rep.len (fun j hj => (hcc j hj).trans (hg j hj)) (hK cs hc)
theorem drop_refP {GG : Nat → Prop} {v : JV} {cs : List Value} {k : Str} {w0 w : World} {K : Value → World → Prop} (h : VRepP GG w0 v cs) (h0 : Ext w0 w) (he : v.k = 6) (hl : v.ks.length = v.xs.length) (hfew : v.ks.length ≤ 100000)
    (hK : ∀ sv kv base w', Ext w w' → w.heap.size ≤ base → OwnVP GG w0 w' base (mkO (dropP (v.ks.zip v.xs) k)) sv kv → K (.agg [i64 6, .bool false, str [], sv, kv].toArray) w') : callF Tryz.prog 123 [.agg cs.toArray, str k] w K := by
  refine W123_ok ?_
  unfold W123
  refine box_valiP h fun a w1 sv kv hba I hx ha hz1 => ?_
  refine alloc_new fun b w2 hb hz2 hbb hx2 => ?_
  have hB := I.toI.box (h0.trans (hx.trans hx2)) (hx2.at hba id)
  have hB0 := I.toI.box (h0.trans hx) hba
  simp only [wsv, wsg, wsh, wsl, cond_true, cond_false, exists_eq_left', Option.some.injEq, Option.isSome_some, List.getElem?_toArray, List.getElem?_cons_zero, List.getElem?_cons_succ, List.length_cons, List.length_nil, List.set_cons_zero, List.set_cons_succ, List.getD_cons_zero, List.getD_cons_succ, Nat.zero_add, Nat.add_zero, Nat.reduceAdd, Nat.reduceLT, Nat.lt_add_one, Nat.zero_lt_succ, decide_true, decide_false, ne_eq, reduceCtorEq, wsh, hB.hb, condW_dec]
  refine ⟨fun hne => absurd he hne, fun _ => ?_⟩
  · skip
    refine alloc_new fun g w3 hg hz3 hgg hx3 => ?_
    refine st_agg_at (l := [i64 6, .bool false, str [], .slice none 0 0, .slice none 0 0]) hgg rfl rfl rfl fun w4 hz4 hg4 hc4 => ?_
    have hx14 : Ext w w4 := (hx.trans (hx2.trans hx3)).new hc4 (by have := hx.size; omega)
    have hsz := hx.size
    have hx24 : Ext w2 w4 := hx3.new hc4 (by omega)
    have hbb := hx24.at hbb id
    have hB := hB.ext hx24
    have hba4 := (hx2.trans hx24).at hba id
    have h00 := h0.size
    have G0 : GrowP GG w0 w4 g (g + 1) (.slice none 0 0) (.slice none 0 0) (.slice none 0 0) (.slice none 0 0) [] [] := ⟨h0.trans hx14, hg4, by omega, by omega, by omega, ⟨[], ⟨rfl, .inl ⟨rfl, rfl⟩⟩, by simp [VRepsP]⟩, ⟨rfl, .inl ⟨rfl, rfl⟩⟩⟩
    simp only [wsv, wsg, wsh, wsl, cond_true, cond_false, exists_eq_left', Option.some.injEq, Option.isSome_some, List.getElem?_toArray, List.getElem?_cons_zero, List.getElem?_cons_succ, List.length_cons, List.length_nil, List.set_cons_zero, List.set_cons_succ, List.getD_cons_zero, List.getD_cons_succ, Nat.zero_add, Nat.add_zero, Nat.reduceAdd, Nat.reduceLT, Nat.lt_add_one, Nat.zero_lt_succ, decide_true, decide_false, ne_eq, reduceCtorEq, wsh, hB.hb]
    rw [hB.lenk]
    refine loop_up v.ks.length (fun i w' => ∃ sv kv, GrowP GG w0 w' g (g + 1) sv kv sv kv ((dropP ((v.ks.zip v.xs).take i) k).map (·.2)) ((dropP ((v.ks.zip v.xs).take i) k).map (·.1)) ∧ Low g (g + 1) w4 w') ⟨_, _, G0, Chg.refl _ _⟩ ?_ ?_
    · rintro i w5 gg L hi ⟨sv1, kv1, G, lo⟩ hL
      have hB := I.toI.box G.ext (low_get lo (by omega) (by omega) hba4)
      obtain ⟨u, hu⟩ : ∃ u, v.ks[i]? = some u := ⟨_, List.getElem?_eq_getElem hi⟩
      obtain ⟨x, hx'⟩ : ∃ x, v.xs[i]? = some x := ⟨_, List.getElem?_eq_getElem (by omega)⟩
      have hz := zip_get hu hx'
      have hnx := dropP_take (k := k) hz
      have hcnt : (dropP ((v.ks.zip v.xs).take i) k).length ≤ 1000000 := by
        have h1 : (dropP ((v.ks.zip v.xs).take i) k).length ≤ ((v.ks.zip v.xs).take i).length := List.length_filter_le _ _
        rw [List.length_take] at h1
        omega
      have hlt : ((i : Int) < (v.ks.length : Int)) := by omega
      simp only [wsv, wsg, wsh, wsl, cond_true, cond_false, exists_eq_left', Option.some.injEq, Option.isSome_some, List.getElem?_toArray, List.getElem?_cons_zero, List.getElem?_cons_succ, List.length_cons, List.length_nil, List.set_cons_zero, List.set_cons_succ, List.getD_cons_zero, List.getD_cons_succ, Nat.zero_add, Nat.add_zero, Nat.reduceAdd, Nat.reduceLT, Nat.lt_add_one, Nat.zero_lt_succ, decide_true, decide_false, ne_eq, reduceCtorEq, wsh, hB.hb, hlt]
      refine JoinW.cut (fun s w' => s = [] ∧ ∃ sv kv, GrowP GG w0 w' g (g + 1) sv kv sv kv ((dropP ((v.ks.zip v.xs).take (i + 1)) k).map (·.2)) ((dropP ((v.ks.zip v.xs).take (i + 1)) k).map (·.1)) ∧ Low g (g + 1) w4 w') ?_ ?_
      · refine hB.key hu ?_
        simp only [wsv, wsg, wsh, wsl, cond_true, cond_false, exists_eq_left', Option.some.injEq, Option.isSome_some, List.getElem?_toArray, List.getElem?_cons_zero, List.getElem?_cons_succ, List.length_cons, List.length_nil, List.set_cons_zero, List.set_cons_succ, List.getD_cons_zero, List.getD_cons_succ, Nat.zero_add, Nat.add_zero, Nat.reduceAdd, Nat.reduceLT, Nat.lt_add_one, Nat.zero_lt_succ, decide_true, decide_false, ne_eq, reduceCtorEq, condW_dec]
        refine ⟨fun hne => ?_, fun he => ⟨sv1, kv1, ?_, lo⟩⟩
        · have hne : u ≠ k := by simpa using hne
          rw [if_neg hne] at hnx
          have hxd : Ext w5 w5.drew := Chg.drew (Chg.refl (fun _ => False) w5)
          have Gd := G.more hxd
          have hBd := hB.ext hxd
          (try simp only [wsv, wsg, wsh, wsl, cond_true, cond_false, exists_eq_left', Option.some.injEq, Option.isSome_some, List.getElem?_toArray, List.getElem?_cons_zero, List.getElem?_cons_succ, List.length_cons, List.length_nil, List.set_cons_zero, List.set_cons_succ, List.getD_cons_zero, List.getD_cons_succ, Nat.zero_add, Nat.add_zero, Nat.reduceAdd, Nat.reduceLT, Nat.lt_add_one, Nat.zero_lt_succ, decide_true, decide_false, ne_eq, reduceCtorEq, wsh, G.hb])
          refine ValB.key hBd hu ?_
          refine row_s fun t6 w6 ht6 hx6 => ?_
          have lo := low_ext (low_ext lo hxd) hx6
          have G := Gd.more hx6
          (try simp only [wsv, wsg, wsh, wsl, cond_true, cond_false, exists_eq_left', Option.some.injEq, Option.isSome_some, List.getElem?_toArray, List.getElem?_cons_zero, List.getElem?_cons_succ, List.length_cons, List.length_nil, List.set_cons_zero, List.set_cons_succ, List.getD_cons_zero, List.getD_cons_succ, Nat.zero_add, Nat.add_zero, Nat.reduceAdd, Nat.reduceLT, Nat.lt_add_one, Nat.zero_lt_succ, decide_true, decide_false, ne_eq, reduceCtorEq, wsh, G.hb])
          refine G.appk ht6 (by rw [List.length_map]; exact hcnt) fun kv2 w7 G7 hb7 => ?_
          have lo := low_step lo hb7
          refine G7.set (sv1 := sv1) (kv1 := kv2) G7.one.2 (by omega) rfl fun w8 G8 hb8 => ?_
          have lo := low_set lo hb8
          have hB8 := I.toI.box G8.ext (low_get lo (by omega) (by omega) hba4)
          (try simp only [wsv, wsg, wsh, wsl, cond_true, cond_false, exists_eq_left', Option.some.injEq, Option.isSome_some, List.getElem?_toArray, List.getElem?_cons_zero, List.getElem?_cons_succ, List.length_cons, List.length_nil, List.set_cons_zero, List.set_cons_succ, List.getD_cons_zero, List.getD_cons_succ, Nat.zero_add, Nat.add_zero, Nat.reduceAdd, Nat.reduceLT, Nat.lt_add_one, Nat.zero_lt_succ, decide_true, decide_false, ne_eq, reduceCtorEq, wsh, G8.hb])
          have hxd8 : Ext w8 w8.drew := Chg.drew (Chg.refl (fun _ => False) w8)
          have G := G8.more hxd8
          have lo := low_ext lo hxd8
          (try simp only [wsv, wsg, wsh, wsl, cond_true, cond_false, exists_eq_left', Option.some.injEq, Option.isSome_some, List.getElem?_toArray, List.getElem?_cons_zero, List.getElem?_cons_succ, List.length_cons, List.length_nil, List.set_cons_zero, List.set_cons_succ, List.getD_cons_zero, List.getD_cons_succ, Nat.zero_add, Nat.add_zero, Nat.reduceAdd, Nat.reduceLT, Nat.lt_add_one, Nat.zero_lt_succ, decide_true, decide_false, ne_eq, reduceCtorEq, wsh, hB8.hb])
          refine I.item_old G.ext hx' fun cs2 h2 => ?_
          refine row_v h2.rep.len fun t9 w9 ht9 hx9 => ?_
          have lo := low_ext lo hx9
          have G := G.more hx9
          (try simp only [wsv, wsg, wsh, wsl, cond_true, cond_false, exists_eq_left', Option.some.injEq, Option.isSome_some, List.getElem?_toArray, List.getElem?_cons_zero, List.getElem?_cons_succ, List.length_cons, List.length_nil, List.set_cons_zero, List.set_cons_succ, List.getD_cons_zero, List.getD_cons_succ, Nat.zero_add, Nat.add_zero, Nat.reduceAdd, Nat.reduceLT, Nat.lt_add_one, Nat.zero_lt_succ, decide_true, decide_false, ne_eq, reduceCtorEq, wsh, G.hb])
          refine G.appx ht9 h2 (by rw [List.length_map]; exact hcnt) fun sv2 w10 G10 hb10 => ?_
          have lo := low_step lo hb10
          refine G10.set (sv1 := sv2) (kv1 := kv2) G10.one.1 (by omega) rfl fun w11 G11 hb11 => ?_
          have lo := low_set lo hb11
          refine ⟨sv2, kv2, ?_, lo⟩
          rw [hnx, List.map_append, List.map_append]
          exact G11
        · have he : u = k := by simpa using he
          rw [if_pos he] at hnx
          rw [hnx]; exact G
      · rintro s g' w6 ⟨rfl, sv2, kv2, G2, lo⟩
        rw [up1 (by omega)]
        exact hL w6 ⟨sv2, kv2, G2, lo⟩
    · rintro w5 gg L ⟨sv1, kv1, G, lo⟩
      rw [List.take_of_length_le (by rw [List.length_zip]; omega)] at G
      simp only [wsv, wsg, wsh, wsl, cond_true, cond_false, exists_eq_left', Option.some.injEq, Option.isSome_some, List.getElem?_toArray, List.getElem?_cons_zero, List.getElem?_cons_succ, List.length_cons, List.length_nil, List.set_cons_zero, List.set_cons_succ, List.getD_cons_zero, List.getD_cons_succ, Nat.zero_add, Nat.add_zero, Nat.reduceAdd, Nat.reduceLT, Nat.lt_add_one, Nat.zero_lt_succ, decide_true, decide_false, ne_eq, reduceCtorEq, Int.lt_irrefl]
      have hcnt : (dropP (v.ks.zip v.xs) k).length ≤ 1000000 := by
        have h1 : (dropP (v.ks.zip v.xs) k).length ≤ (v.ks.zip v.xs).length := List.length_filter_le _ _
        rw [List.length_zip] at h1
        omega
      have hbb := low_get lo (by omega) (by omega) hbb
      have hO := G.own hcnt fun p hp => I.fits.2.2.2 _ (List.of_mem_zip (List.mem_filter.1 hp).1).1
      refine ld_all G.hb rfl ?_
      have h1 := hO.one
      refine ret_agg hbb rfl rfl (obj_one h1.1 h1.2) fun w6 hc6 => ?_
      exact hK _ _ (g + 1) w6 ((low_new hx14 (by omega) (by omega) lo).new hc6 (by omega)) (by omega) (hO.chg hc6 fun k hk _ e => by omega)
theorem put_refP0 {GG : Nat → Prop} {v x : JV} {cs ds : List Value} {k : Str} {w0 w : World} {K : Value → World → Prop} (h : VRepP GG w0 v cs) (hd : VRepP GG w0 x ds) (h0 : Ext w0 w) (hl : v.k = 6 → v.ks.length = v.xs.length) (hfew : v.ks.length ≤ 100000) (hk : k.length ≤ 9223372036854775807)
    (hK : ∀ sv kv base w', Ext w w' → w.heap.size ≤ base → OwnVP GG w0 w' base (putM v k x) sv kv → K (.agg [i64 6, .bool false, str [], sv, kv].toArray) w') : callF Tryz.prog 62 [.agg cs.toArray, str k, .agg ds.toArray] w K := by
  refine W62_ok ?_
  unfold W62
  refine box_valiP h fun a w1 sv kv hba I hx ha hz1 => ?_
  refine box_valiP hd fun c w2 sv' kv' hbc Ix hx2 hc hz2 => ?_
  refine alloc_new fun b w3 hb hz3 hbb hx3 => ?_
  simp only [wsv, wsg, wsh, wsl, cond_true, cond_false, exists_eq_left', Option.some.injEq, Option.isSome_some, List.getElem?_toArray, List.getElem?_cons_zero, List.getElem?_cons_succ, List.length_cons, List.length_nil, List.set_cons_zero, List.set_cons_succ, List.getD_cons_zero, List.getD_cons_succ, Nat.zero_add, Nat.add_zero, Nat.reduceAdd, Nat.reduceLT, Nat.lt_add_one, Nat.zero_lt_succ, decide_true, decide_false, ne_eq, reduceCtorEq]
  refine alloc_new fun g w4 hg hz4 hgg hx4 => ?_
  refine st_agg_at (l := [i64 6, .bool false, str [], .slice none 0 0, .slice none 0 0]) hgg rfl rfl rfl fun w5 hz5 hg5 hc5 => ?_
  have hw5 : Ext w w5 := (((hx.trans hx2).trans hx3).trans hx4).new hc5 (by omega)
  have hba5 := hc5.at (hx4.at (hx3.at (hx2.at hba id) id) id) (by omega)
  have hbc5 := hc5.at (hx4.at (hx3.at hbc id) id) (by omega)
  have hbb5 := hc5.at (hx4.at hbb id) (by omega)
  clear hgg hbb hbc hc5
  have h00 := h0.size
  have hxs := hx.size
  have G0 : GrowP GG w0 w5 g (g + 1) (.slice none 0 0) (.slice none 0 0) (.slice none 0 0) (.slice none 0 0) [] [] := ⟨h0.trans hw5, hg5, by omega, by omega, by omega, ⟨[], ⟨rfl, .inl ⟨rfl, rfl⟩⟩, by simp [VRepsP]⟩, ⟨rfl, .inl ⟨rfl, rfl⟩⟩⟩
  have hB := I.toI.box (h0.trans hw5) hba5
  -- the one key more
  let P : List (Str × JV) := if v.k = 6 then dropP (v.ks.zip v.xs) k else []
  have hP : putM v k x = mkO (insP P k x) := by
    show putM v k x = mkO (insP (if v.k = 6 then dropP (v.ks.zip v.xs) k else []) k x)
    unfold putM; split <;> rfl
  have hPl : P.length ≤ 100000 := by
    show (if v.k = 6 then dropP (v.ks.zip v.xs) k else []).length ≤ 100000
    split
    · have h1 : (dropP (v.ks.zip v.xs) k).length ≤ (v.ks.zip v.xs).length := List.length_filter_le _ _
      rw [List.length_zip] at h1; omega
    · simp
  have hPk : ∀ p ∈ P, p.1.length ≤ 9223372036854775807 := by
    intro p hp
    have hp : p ∈ (if v.k = 6 then dropP (v.ks.zip v.xs) k else []) := hp
    split at hp
    · exact I.fits.2.2.2 _ (List.of_mem_zip (List.mem_filter.1 hp).1).1
    · simp at hp
  rw [hP] at hK
  refine JoinW.cut (fun s w' => ∃ sv kv base, s = [.bool (putGo P k x P.length).2] ∧ b < base ∧ c < base ∧ GrowP GG w0 w' g base sv kv sv kv ((putGo P k x P.length).1.map (·.2)) ((putGo P k x P.length).1.map (·.1)) ∧ w'.heap[c]? = some (.cells [i64 x.k, .bool x.b, str x.t, sv', kv'].toArray VT (0, 0)) ∧ w'.heap[b]? = some (.cells zv.toArray VT (0, 0)) ∧ Ext w w') ?_ ?_
  · simp only [wsv, wsg, wsh, wsl, cond_true, cond_false, exists_eq_left', Option.some.injEq, Option.isSome_some, List.getElem?_toArray, List.getElem?_cons_zero, List.getElem?_cons_succ, List.length_cons, List.length_nil, List.set_cons_zero, List.set_cons_succ, List.getD_cons_zero, List.getD_cons_succ, Nat.zero_add, Nat.add_zero, Nat.reduceAdd, Nat.reduceLT, Nat.lt_add_one, Nat.zero_lt_succ, decide_true, decide_false, ne_eq, reduceCtorEq, wsh, hB.hb, condW_dec]
    refine ⟨fun he => ?_, fun hne => ?_⟩
    · have hPe : P = dropP (v.ks.zip v.xs) k := if_pos he
      refine ld_all hB.hb rfl ?_
      refine drop_refP (GG := GG) (w0 := w0) (v := v) (cs := [i64 v.k, .bool v.b, str v.t, sv, kv]) ?_ (h0.trans hw5) he (hl he) hfew fun sw kw base0 w6 hx6 hbase0 hO => ?_
      · exact I.rep
      have hs6 := hx6.size
      rw [← hPe] at hO
      have hba6 := hx6.at hba5 id
      refine st_agg_at (l := [i64 6, .bool false, str [], sw, kw]) hba6 rfl rfl (obj_one hO.one.1 hO.one.2) fun w7 hz7 hba7 hc7 => ?_
      have hO := hO.chg hc7 fun j hj _ e => by omega
      have hbc7 := hc7.at (hx6.at hbc5 id) (by omega)
      have hbb7 := hc7.at (hx6.at hbb5 id) (by omega)
      have hw7 : Ext w w7 := (hw5.trans hx6).new hc7 (by omega)
      have G7 := ((G0.more hx6).chg hc7 (by omega) (by omega) (by omega)).rebase (base' := w7.heap.size) (by omega) (Nat.le_refl _)
      have hPx : (mkO P).xs = P.map (·.2) := rfl
      have hPks : (mkO P).ks = P.map (·.1) := rfl
      simp only [wsv, wsg, wsh, wsl, cond_true, cond_false, exists_eq_left', Option.some.injEq, Option.isSome_some, List.getElem?_toArray, List.getElem?_cons_zero, List.getElem?_cons_succ, List.length_cons, List.length_nil, List.set_cons_zero, List.set_cons_succ, List.getD_cons_zero, List.getD_cons_succ, Nat.zero_add, Nat.add_zero, Nat.reduceAdd, Nat.reduceLT, Nat.lt_add_one, Nat.zero_lt_succ, decide_true, decide_false, ne_eq, reduceCtorEq, wsh, hba7]
      rw [lenl_at hO.keys.sl, hPks, List.length_map]
      refine ⟨fun s w' => ∃ i sv kv, i ≤ P.length ∧ s = [.bool (putGo P k x i).2, i64 (i : Nat)] ∧ GrowP GG w0 w' g w7.heap.size sv kv sv kv ((putGo P k x i).1.map (·.2)) ((putGo P k x i).1.map (·.1)) ∧ Low g w7.heap.size w7 w', fun s _ => match s with | [_, .int _ i] => P.length - i.toNat | _ => 0, ⟨0, _, _, Nat.zero_le _, rfl, G7, Chg.refl _ _⟩, ?_⟩
      rintro s gg w8 ⟨i, sv8, kv8, hi, rfl, G8, lo8⟩
      rcases Nat.lt_or_ge i P.length with hlt | hge
      · have hltI : ((i : Int) < (P.length : Int)) := by omega
        have hlen8 := putGo_len P k x i
        obtain ⟨p, hp⟩ : ∃ p, P[i]? = some p := ⟨_, List.getElem?_eq_getElem hlt⟩
        have hstay : ∀ {w9 : World}, Low g w7.heap.size w7 w9 → w9.heap[a]? = some (.cells [i64 6, .bool false, str [], sw, kw].toArray VT (0, 0)) ∧ w9.heap[c]? = some (.cells [i64 x.k, .bool x.b, str x.t, sv', kv'].toArray VT (0, 0)) ∧ OwnVP GG w0 w9 base0 (mkO P) sw kw := fun lo =>
          ⟨low_get lo (by omega) (by omega) hba7, low_get lo (by omega) (by omega) hbc7, hO.chg lo fun k hk hk2 e => by omega⟩
        obtain ⟨hba8, hbc8, hO8⟩ := hstay lo8
        have hkey : ∀ {w9 : World} {KK : Value → Prop}, OwnVP GG w0 w9 base0 (mkO P) sw kw → KK (str p.1) → ixaW none 1 kw (.int .i64 i) fun q => ldW false 1 q w9 KK := fun h hk => text_ld h.keys.sl (by rw [hPks]; simp [hp]) hk
        simp only [wsv, wsg, wsh, wsl, cond_true, cond_false, exists_eq_left', Option.some.injEq, Option.isSome_some, List.getElem?_toArray, List.getElem?_cons_zero, List.getElem?_cons_succ, List.length_cons, List.length_nil, List.set_cons_zero, List.set_cons_succ, List.getD_cons_zero, List.getD_cons_succ, Nat.zero_add, Nat.add_zero, Nat.reduceAdd, Nat.reduceLT, Nat.lt_add_one, Nat.zero_lt_succ, decide_true, decide_false, ne_eq, reduceCtorEq, wsh, hltI, hba8]
        refine JoinW.cut (fun s w' => ∃ sv kv, s = [.bool (putGo P k x (i + 1)).2] ∧ GrowP GG w0 w' g w7.heap.size sv kv sv kv ((if (!(putGo P k x i).2 && Op.bytesLess k p.1) then (putGo P k x i).1 ++ [(k, x)] else (putGo P k x i).1).map (·.2)) ((if (!(putGo P k x i).2 && Op.bytesLess k p.1) then (putGo P k x i).1 ++ [(k, x)] else (putGo P k x i).1).map (·.1)) ∧ Low g w7.heap.size w7 w') ?_ ?_
        · refine GdW.look (Op.bytesLess k p.1) ?_ ?_
          · intro _ J hJ
            refine hkey hO8 ?_
            simp only [wsv, wsg, wsh, wsl, cond_true, cond_false, exists_eq_left', Option.some.injEq, Option.isSome_some, List.getElem?_toArray, List.getElem?_cons_zero, List.getElem?_cons_succ, List.length_cons, List.length_nil, List.set_cons_zero, List.set_cons_succ, List.getD_cons_zero, List.getD_cons_succ, Nat.zero_add, Nat.add_zero, Nat.reduceAdd, Nat.reduceLT, Nat.lt_add_one, Nat.zero_lt_succ, decide_true, decide_false, ne_eq, reduceCtorEq]
            exact hJ
          · intro gd
            simp only [wsv, wsg, wsh, wsl, cond_true, cond_false, exists_eq_left', Option.some.injEq, Option.isSome_some, List.getElem?_toArray, List.getElem?_cons_zero, List.getElem?_cons_succ, List.length_cons, List.length_nil, List.set_cons_zero, List.set_cons_succ, List.getD_cons_zero, List.getD_cons_succ, Nat.zero_add, Nat.add_zero, Nat.reduceAdd, Nat.reduceLT, Nat.lt_add_one, Nat.zero_lt_succ, decide_true, decide_false, ne_eq, reduceCtorEq, condW_b]
            refine ⟨fun hc => ?_, fun hc => ?_⟩
            · simp only [wsv, wsg, wsh, wsl, cond_true, cond_false, exists_eq_left', Option.some.injEq, Option.isSome_some, List.getElem?_toArray, List.getElem?_cons_zero, List.getElem?_cons_succ, List.length_cons, List.length_nil, List.set_cons_zero, List.set_cons_succ, List.getD_cons_zero, List.getD_cons_succ, Nat.zero_add, Nat.add_zero, Nat.reduceAdd, Nat.reduceLT, Nat.lt_add_one, Nat.zero_lt_succ, decide_true, decide_false, ne_eq, reduceCtorEq, wsh, G8.hb]
              rw [if_pos hc]
              refine grow_keyP G8 (by rw [List.length_map]; omega) fun kv9 w9 G9 lo9 => ?_
              obtain ⟨hba9, hbc9, hO9⟩ := hstay (lo8.trans lo9)
              simp only [wsv, wsg, wsh, wsl, cond_true, cond_false, exists_eq_left', Option.some.injEq, Option.isSome_some, List.getElem?_toArray, List.getElem?_cons_zero, List.getElem?_cons_succ, List.length_cons, List.length_nil, List.set_cons_zero, List.set_cons_succ, List.getD_cons_zero, List.getD_cons_succ, Nat.zero_add, Nat.add_zero, Nat.reduceAdd, Nat.reduceLT, Nat.lt_add_one, Nat.zero_lt_succ, decide_true, decide_false, ne_eq, reduceCtorEq, wsh, G9.hb]
              refine ld_all hbc9 rfl ?_
              refine grow_itemP G9 (?_ : VRepP GG w0 x _) (by rw [List.length_map]; omega) fun sv10 w10 G10 lo10 => ?_
              · exact Ix.rep
              refine ⟨sv10, kv9, ?_, ?_, (lo8.trans lo9).trans lo10⟩
              · simp only [putGo, hp, hc, if_true]
              · rw [List.map_append, List.map_append]; exact G10
            · rw [if_neg (by rw [hc]; simp)]
              refine ⟨sv8, kv8, ?_, G8, lo8⟩
              simp only [putGo, hp, hc, Bool.false_eq_true, if_false]
        · rintro s gd w9 ⟨sv9, kv9, rfl, G9, lo9⟩
          have hxd : Ext w9 w9.drew := Chg.drew (Chg.refl (fun _ => False) w9)
          obtain ⟨hba9, hbc9, hO9⟩ := hstay lo9
          obtain ⟨_, _, hO9d⟩ := hstay (low_ext lo9 hxd)
          have hl9 : (if (!(putGo P k x i).2 && Op.bytesLess k p.1) then (putGo P k x i).1 ++ [(k, x)] else (putGo P k x i).1).length ≤ 2 * i + 1 := by split <;> (first | omega | (simp; omega))
          simp only [wsv, wsg, wsh, wsl, cond_true, cond_false, exists_eq_left', Option.some.injEq, Option.isSome_some, List.getElem?_toArray, List.getElem?_cons_zero, List.getElem?_cons_succ, List.length_cons, List.length_nil, List.set_cons_zero, List.set_cons_succ, List.getD_cons_zero, List.getD_cons_succ, Nat.zero_add, Nat.add_zero, Nat.reduceAdd, Nat.reduceLT, Nat.lt_add_one, Nat.zero_lt_succ, decide_true, decide_false, ne_eq, reduceCtorEq, wsh, G9.hb, hba9]
          refine hkey hO9d ?_
          refine grow_keyP' (G9.more hxd) (by rw [List.length_map]; omega) fun kv10 w10 G10 lo10 => ?_
          have lo10 := (low_ext lo9 hxd).trans lo10
          obtain ⟨hba10, hbc10, hO10⟩ := hstay lo10
          have hxd10 : Ext w10 w10.drew := Chg.drew (Chg.refl (fun _ => False) w10)
          obtain ⟨_, _, hO10d⟩ := hstay (low_ext lo10 hxd10)
          simp only [wsv, wsg, wsh, wsl, cond_true, cond_false, exists_eq_left', Option.some.injEq, Option.isSome_some, List.getElem?_toArray, List.getElem?_cons_zero, List.getElem?_cons_succ, List.length_cons, List.length_nil, List.set_cons_zero, List.set_cons_succ, List.getD_cons_zero, List.getD_cons_succ, Nat.zero_add, Nat.add_zero, Nat.reduceAdd, Nat.reduceLT, Nat.lt_add_one, Nat.zero_lt_succ, decide_true, decide_false, ne_eq, reduceCtorEq, wsh, G10.hb, hba10]
          refine hO10d.item_old (by rw [hPx]; simp only [List.getElem?_map, hp]; rfl) fun cs2 h2 => ?_
          refine grow_itemP' (G10.more hxd10) h2 (by rw [List.length_map]; omega) fun sv11 w11 G11 lo11 => ?_
          rw [up1 (by omega)]
          refine ⟨⟨i + 1, sv11, kv10, hlt, rfl, ?_, (low_ext lo10 hxd10).trans lo11⟩, by simp only [Int.toNat_natCast]; omega⟩
          have e : (putGo P k x (i + 1)).1 = (if (!(putGo P k x i).2 && Op.bytesLess k p.1) then (putGo P k x i).1 ++ [(k, x)] else (putGo P k x i).1) ++ [p] := by
            simp only [putGo, hp]; split <;> rfl
          rw [e, List.map_append, List.map_append]
          exact G11
      · obtain rfl : i = P.length := by omega
        simp only [wsv, wsg, wsh, wsl, cond_true, cond_false, exists_eq_left', Option.some.injEq, Option.isSome_some, List.getElem?_toArray, List.getElem?_cons_zero, List.getElem?_cons_succ, List.length_cons, List.length_nil, List.set_cons_zero, List.set_cons_succ, List.getD_cons_zero, List.getD_cons_succ, Nat.zero_add, Nat.add_zero, Nat.reduceAdd, Nat.reduceLT, Nat.lt_add_one, Nat.zero_lt_succ, decide_true, decide_false, ne_eq, reduceCtorEq, Int.lt_irrefl]
        exact ⟨sv8, kv8, w7.heap.size, by omega, by omega, G8, low_get lo8 (by omega) (by omega) hbc7, low_get lo8 (by omega) (by omega) hbb7, low_new hw7 (by omega) (by have := hw7.size; omega) lo8⟩
    · have hPe : P = [] := if_neg hne
      rw [hPe]
      exact ⟨_, _, g + 1, rfl, by omega, by omega, G0, hbc5, hbb5, hw5⟩
  · rintro s g' w6 ⟨sv6, kv6, base, rfl, hbb0, hcc0, G6, hbc6, hbb6, hw6⟩
    have hlen := putGo_len P k x P.length
    have hins : ∀ p ∈ insP P k x, p.1.length ≤ 9223372036854775807 := by
      intro p hp
      rw [putGo_end] at hp
      have hgo : ∀ i, ∀ p ∈ (putGo P k x i).1, p.1.length ≤ 9223372036854775807 := by
        intro i
        induction i with
        | zero => intro p hp; simp [putGo] at hp
        | succ i ih =>
          intro p hp
          simp only [putGo] at hp
          split at hp
          · exact ih p hp
          · rename_i q hq
            have hq' := hPk q (List.mem_of_getElem? hq)
            split at hp <;> simp only [List.mem_append, List.mem_cons, List.not_mem_nil, or_false] at hp
            · rcases hp with (hp | rfl) | rfl
              · exact ih p hp
              · exact hk
              · exact hq'
            · rcases hp with hp | rfl
              · exact ih p hp
              · exact hq'
      split at hp
      · exact hgo _ p hp
      · rcases List.mem_append.1 hp with hp | hp
        · exact hgo _ p hp
        · rw [List.mem_singleton.1 hp]; exact hk
    have hil : (insP P k x).length ≤ 1000000 := by rw [putGo_end]; split <;> (first | omega | (simp; omega))
    refine JoinW.cut (fun s w' => ∃ sv kv, s = [] ∧ GrowP GG w0 w' g base sv kv sv kv ((insP P k x).map (·.2)) ((insP P k x).map (·.1)) ∧ w'.heap[b]? = some (.cells zv.toArray VT (0, 0)) ∧ Ext w w') ?_ ?_
    · simp only [wsv, wsg, wsh, wsl, cond_true, cond_false, exists_eq_left', Option.some.injEq, Option.isSome_some, List.getElem?_toArray, List.getElem?_cons_zero, List.getElem?_cons_succ, List.length_cons, List.length_nil, List.set_cons_zero, List.set_cons_succ, List.getD_cons_zero, List.getD_cons_succ, Nat.zero_add, Nat.add_zero, Nat.reduceAdd, Nat.reduceLT, Nat.lt_add_one, Nat.zero_lt_succ, decide_true, decide_false, ne_eq, reduceCtorEq, condW_b]
      refine ⟨fun hn => ?_, fun hy => ?_⟩
      · have hn : (putGo P k x P.length).2 = false := by simpa using hn
        rw [putGo_end, if_neg (by rw [hn]; simp), List.map_append, List.map_append]
        simp only [wsv, wsg, wsh, wsl, cond_true, cond_false, exists_eq_left', Option.some.injEq, Option.isSome_some, List.getElem?_toArray, List.getElem?_cons_zero, List.getElem?_cons_succ, List.length_cons, List.length_nil, List.set_cons_zero, List.set_cons_succ, List.getD_cons_zero, List.getD_cons_succ, Nat.zero_add, Nat.add_zero, Nat.reduceAdd, Nat.reduceLT, Nat.lt_add_one, Nat.zero_lt_succ, decide_true, decide_false, ne_eq, reduceCtorEq, wsh, G6.hb]
        refine grow_keyP G6 (by rw [List.length_map]; omega) fun kv9 w9 G9 lo9 => ?_
        have hbc9 := low_get lo9 hcc0 (by omega) hbc6
        simp only [wsv, wsg, wsh, wsl, cond_true, cond_false, exists_eq_left', Option.some.injEq, Option.isSome_some, List.getElem?_toArray, List.getElem?_cons_zero, List.getElem?_cons_succ, List.length_cons, List.length_nil, List.set_cons_zero, List.set_cons_succ, List.getD_cons_zero, List.getD_cons_succ, Nat.zero_add, Nat.add_zero, Nat.reduceAdd, Nat.reduceLT, Nat.lt_add_one, Nat.zero_lt_succ, decide_true, decide_false, ne_eq, reduceCtorEq, wsh, G9.hb]
        refine ld_all hbc9 rfl ?_
        refine grow_itemP G9 (?_ : VRepP GG w0 x _) (by rw [List.length_map]; omega) fun sv10 w10 G10 lo10 => ?_
        · exact Ix.rep
        exact ⟨sv10, kv9, G10, low_get (lo9.trans lo10) hbb0 (by omega) hbb6, low_new hw6 (by omega) (by omega) (lo9.trans lo10)⟩
      · have hy : (putGo P k x P.length).2 = true := by simpa using hy
        rw [putGo_end, if_pos hy]
        exact ⟨sv6, kv6, G6, hbb6, hw6⟩
    · rintro s gd w9 ⟨sv9, kv9, rfl, G9, hbb9, hw9⟩
      have hO := G9.own hil hins
      refine ld_all G9.hb rfl ?_
      refine ret_agg hbb9 rfl rfl (obj_one hO.one.1 hO.one.2) fun w10 hc10 => ?_
      have hsz := hx.size
      exact hK _ _ base w10 (hw9.new hc10 (by omega)) (by omega) (hO.chg hc10 fun k hk _ e => by omega)
theorem put_refP {v x : JV} {cs ds : List Value} {k : Str} {B : Nat} {w : World} {K : Value → World → Prop} (h : VRepP (From B) w v cs) (hd : VRepP (From B) w x ds) (hB : B ≤ w.heap.size) (hl : v.k = 6 → v.ks.length = v.xs.length) (hfew : v.ks.length ≤ 100000) (hk : k.length ≤ 9223372036854775807)
    (hK : ∀ cs' w', Ext w w' → VRepP (From B) w' (putM v k x) cs' → K (.agg cs'.toArray) w') : callF Tryz.prog 62 [.agg cs.toArray, str k, .agg ds.toArray] w K := by
  refine put_refP0 h hd (Chg.refl _ _) hl hfew hk fun sv kv base w' hx hb hO => ?_
  refine hK _ w' hx ?_
  obtain ⟨L, h1, h2⟩ := hO.items
  have e : ∃ l, putM v k x = mkO l := by unfold putM; split <;> exact ⟨_, rfl⟩
  obtain ⟨l, e⟩ := e
  rw [e] at h1 h2 hO ⊢
  exact VRepP.mk (v := mkO l) h1.sl (VRepsP.chg hx (fun _ _ _ e => e) h2) hO.keys.sl hO.fits (fun _ q hq => by have := (own_in h1 hq).1; show B ≤ q; omega) (fun _ q hq => by have := (own_in hO.keys hq).1; show B ≤ q; omega)
end
end Go.Proofs.YtcnjpcadejcenaaGreatDoor
namespace Go.Proofs.YtcnjpcadejcenaaGreatDoor
open Go Go.Eng Go.RowKit
set_option maxRecDepth 100000
def OutR (s : Str) (r : RR JV) (w : World) (v : Value) (w' : World) : Prop :=
  Ext w w' ∧ ∃ x cs j c e a, v = .tuple #[.agg (SS s j c e a).toArray, .agg cs.toArray] ∧ VRepP (From w.heap.size) w' x cs ∧ j ≤ s.length ∧ ((e = 0 ∧ a = 0 ∧ r = .ok x j c) ∨ (e ≠ 0 ∧ ∃ k : Nat, a = (k : Int) ∧ r = .bad e k))
theorem OutR.good {s : Str} {r : RR JV} {w w' : World} {x : JV} {cs : List Value} {j c : Nat} (hr : r = .ok x j c) (hx : Ext w w') (h : VRepP (From w.heap.size) w' x cs) (hj : j ≤ s.length) : OutR s r w (.tuple #[.agg (SS s j c 0 0).toArray, .agg cs.toArray]) w' :=
  ⟨hx, x, cs, j, c, 0, 0, rfl, h, hj, .inl ⟨rfl, rfl, hr⟩⟩
theorem OutR.bad {s : Str} {r : RR JV} {w w' : World} {x : JV} {cs : List Value} {j c k : Nat} {e : Int} (hr : r = .bad e k) (he : e ≠ 0) (hx : Ext w w') (h : VRepP (From w.heap.size) w' x cs) (hj : j ≤ s.length) : OutR s r w (.tuple #[.agg (SS s j c e (k : Nat)).toArray, .agg cs.toArray]) w' :=
  ⟨hx, x, cs, j, c, e, k, rfl, h, hj, .inr ⟨he, k, rfl, hr⟩⟩
def celE (w : World) (p : Nat) : Int := match w.heap[p]? with | some (.cells cc _ _) => (match (cc[3]? : Option Value) with | some (Value.int _ i) => i | _ => 0) | _ => 0
theorem Cel.e_ {w : World} {p i c : Nat} {e a : Int} {s : Str} (h : Cel w p s i c e a) : celE w p = e := by
  unfold Cel at h
  unfold celE
  rw [h]
  simp
def celM (s : Str) (p : Nat) (w : World) : Nat := if celE w p = 0 then s.length + 2 - celAt w p else 0
theorem ret_three {w : World} {b6 b7 b8 p i c : Nat} {e a : Int} {s : Str} {cs : List Value} {K : Value → World → Prop} (h : Cel w p s i c e a) (h6 : w.heap[b6]? = some (.cells zs.toArray StT (0, 0))) (h7 : w.heap[b7]? = some (.cells zv.toArray VT (0, 0))) (h8 : w.heap[b8]? = some (.cells cs.toArray VT (0, 0))) (hcs : cs.length = 5) (hc1 : cs.all one1 = true) (h67 : b6 ≠ b7) (h68 : b8 ≠ b6)
    (hK : ∀ w', Chg (fun k => k = b6 ∨ k = b7) w w' → K (.tuple #[.agg (SS s i c e a).toArray, .agg cs.toArray]) w') :
    ldW true 5 (.pointer (some ⟨p, 0, none⟩)) w.drew fun t30 => ldW true 5 (.pointer (some ⟨b8, 0, none⟩)) w.drew fun t31 => stW 5 (.pointer (some ⟨b6, 0, none⟩)) t30 w.drew fun w15 => (ldW true 5 (.pointer (some ⟨b8, 0, none⟩)) w15 fun x => x = t31) ∧ stW 5 (.pointer (some ⟨b7, 0, none⟩)) t31 w15 fun w16 => ldW true 5 (.pointer (some ⟨b6, 0, none⟩)) w16 fun r17 => ldW true 5 (.pointer (some ⟨b7, 0, none⟩)) w16 fun r18 => K (.tuple #[r17, r18]) w16 := by
  have hxd : Ext w w.drew := Chg.drew (Chg.refl (fun _ => False) w)
  refine h.drew.all ?_
  have h8d : w.drew.heap[b8]? = some (.cells cs.toArray VT (0, 0)) := h8
  refine ld_all h8d hcs ?_
  have h6d : w.drew.heap[b6]? = some (.cells zs.toArray StT (0, 0)) := h6
  refine st_agg_at h6d rfl rfl rfl fun w1 _ hb1 hc1' => ?_
  refine ⟨ld_all (hc1'.at h8d h68) hcs rfl, ?_⟩
  have h7d : w1.heap[b7]? = some (.cells zv.toArray VT (0, 0)) := hc1'.at (show w.drew.heap[b7]? = _ from h7) (fun e => h67 e.symm)
  refine st_agg_at h7d hcs rfl hc1 fun w2 _ hb2 hc2 => ?_
  refine ld_all (hc2.at hb1 h67) rfl ?_
  refine ld_all hb2 hcs ?_
  exact hK w2 ((Chg.of_ext hxd).trans ((hc1'.mono fun k _ e => .inl e).trans (hc2.mono fun k _ e => .inr e)))
section
variable [HX]
theorem callF_mono {P : Program} {g : FuncId} {az : List Value} {w : World} {K K' : Value → World → Prop} (h : callF P g az w K) (hk : ∀ v w, K v w → K' v w) : callF P g az w K' := Res.mono hk h
def VPR (n : Nat) : Prop := ∀ {deep i c : Nat} {s : Str} {w : World}, i ≤ s.length → s.length ≤ 65536 → c ≤ 2000 → deep ≤ 25 → 2 * (2000 - c) + 1 ≤ n →
  callF Tryz.prog 55 [.agg (SS s i c 0 0).toArray, i64 (deep : Nat)] w (OutR s (valM En s n deep i c) w)
theorem value_err {deep i c k : Nat} {e : Int} {s : Str} {w : World} (he : e ≠ 0) (hi : i ≤ s.length) (hs : s.length ≤ 1000000) :
    callF Tryz.prog 55 [.agg (SS s i c e (k : Nat)).toArray, i64 (deep : Nat)] w (OutR s (.bad e k) w) := by
  refine W55_ok ?_
  unfold W55
  refine cel_box fun p w1 hp h1 hx1 => ?_
  refine alloc_new fun b4 w2 hb4 hz2 hbb4 hx2 => ?_
  refine alloc_new fun b5 w3 hb5 hz3 hbb5 hx3 => ?_
  have h3 := (h1.ext hx2).ext hx3
  have hbb4 := hx3.at hbb4 id
  have hlt := h1.lt
  have hx03 : Ext w w3 := (hx1.trans hx2).trans hx3
  refine h3.all ?_
  refine blanks_ref hi hs fun w4 hx4 => ?_
  refine (h3.ext hx4).st fun w5 h5 hc5 _ => ?_
  refine h5.ld rfl ?_
  rw [bin_neq, decide_eq_true he, condW_true]
  refine h5.all ?_
  rw [put_nil]
  refine ret_two (hc5.at (hx4.at hbb4 id) fun e => by have e : b4 = p := e; omega) rfl (hc5.at (hx4.at hbb5 id) fun e => by have e : b5 = p := e; omega) rfl (by omega) rfl rfl rfl rfl fun w6 hc6 => ?_
  refine OutR.bad (x := JV.null) rfl he ?_ (null_rep _ _) (blank_le hi)
  exact ((hx03.trans hx4).new hc5 (by omega)).then hc6 fun k hk e => by have := hx1.size; omega
theorem manyL_ref {n deep i c : Nat} {s : Str} {w : World} (ih : ∀ m, m ≤ n → VPR m) (hi : i < s.length) (hs : s.length ≤ 65536) (hc : c ≤ 2000) (hdeep : deep ≤ 24) (hn : 2 * (2000 - c) + 2 ≤ n) :
    callF Tryz.prog 121 [.agg (SS s i c 0 0).toArray, i64 (deep : Nat), .bool false] w
      (OutR s (if byteM s (blankM s (i + 1)) = 93 then .ok (.mk 5 false [] [] []) (blankM s (i + 1) + 1) c else listM En s n deep (blankM s (i + 1)) c []) w) := by
  refine W121_ok ?_
  unfold W121
  refine cel_box fun p w1 hp h1 hx1 => ?_
  refine alloc_new fun b6 w2 hb6 hz2 hbb6 hx2 => ?_
  refine alloc_new fun b7 w3 hb7 hz3 hbb7 hx3 => ?_
  rw [put_int]
  refine ⟨by simp, ?_⟩
  rw [put_nil]
  simp only [List.set_cons_zero]
  refine alloc_new fun b8 w4 hb8 hz4 hbb8 hx4 => ?_
  refine st_agg_at (l := [i64 5, .bool false, str [], .slice none 0 0, .slice none 0 0]) hbb8 rfl rfl rfl fun w5 hz5 hb8_5 hc5 => ?_
  have h4 := ((h1.ext hx2).ext hx3).ext hx4
  have hlt := h1.lt
  have h5 := h4.chg hc5 (by omega)
  have hb6_5 := hc5.at (hx4.at (hx3.at hbb6 id) id) (by omega)
  have hb7_5 := hc5.at (hx4.at hbb7 id) (by omega)
  have hx05 : Ext w w5 := (((hx1.trans hx2).trans hx3).trans hx4).new hc5 (by omega)
  refine JoinW.cut (fun st w' => st = [i64 93] ∧ w' = w5) ?_ ?_
  · rw [condW_false]
    exact ⟨rfl, rfl⟩
  rintro st g w6 ⟨rfl, rfl⟩
  simp only [List.getD_cons_zero]
  refine h5.go (k := 1) (by omega) fun w7 h7 hc7 hz7 => ?_
  refine h7.all ?_
  refine blanks_ref (by omega) (by omega) fun w8 hx8 => ?_
  have hble : blankM s (i + 1) ≤ s.length := blank_le (by omega)
  refine (h7.ext hx8).st fun w9 h9 hc9 hz9 => ?_
  refine h9.all ?_
  refine c_ref fun w10 hx10 => ?_
  have h10 := h9.ext hx10
  have hcc : Chg (Cr p) w6 w10 := ((hc7.trans (Chg.of_ext hx8)).trans hc9).then hx10 fun _ _ e => e.elim
  have hb6_10 := hcc.at hb6_5 fun e => by have e : b6 = p := e; omega
  have hb7_10 := hcc.at hb7_5 fun e => by have e : b7 = p := e; omega
  have hb8_10 := hcc.at hb8_5 fun e => by have e : b8 = p := e; omega
  have hx010 : Ext w w10 := hx05.new hcc (by omega)
  generalize hj0 : blankM s (i + 1) = j0 at *
  have hB5 : w6.heap.size ≤ w10.heap.size := hcc.size
  generalize hBB : w6.heap.size = B at *
  have hpB : p < B ∧ b6 < B ∧ b7 < B ∧ b8 < B ∧ w.heap.size ≤ B := by omega
  obtain ⟨hpB, h6B, h7B, h8B, hwB⟩ := hpB
  rw [bin_eql, condW_dec]
  refine ⟨fun e => ?_, fun e => ?_⟩
  · rw [if_pos e]
    have := byte_lt (s := s) (i := j0) (by omega)
    refine h10.go (k := 1) (by omega) fun w11 h11 hc11 _ => ?_
    refine ret_three h11 (hc11.at hb6_10 fun e => by have e : b6 = p := e; omega) (hc11.at hb7_10 fun e => by have e : b7 = p := e; omega) (hc11.at hb8_10 fun e => by have e : b8 = p := e; omega) rfl rfl (by omega) (by omega) fun w12 hc12 => ?_
    refine OutR.good rfl ((hx010.new hc11 (by omega)).then hc12 fun k hk e => by omega) ?_ (by omega)
    exact leaf_rep (by simp)
  rw [if_neg e]
  generalize hR : listM En s n deep j0 c [] = R
  refine LoopW.go (fun st w' => st = [] ∧ ∃ m j c' acc sv L e a, Cel w' p s j c' e a ∧ Ext w w' ∧ B ≤ w'.heap.size ∧ w'.heap[b6]? = some (.cells zs.toArray StT (0, 0)) ∧ w'.heap[b7]? = some (.cells zv.toArray VT (0, 0)) ∧ w'.heap[b8]? = some (.cells [i64 5, .bool false, str [], sv, .slice none 0 0].toArray VT (0, 0)) ∧
      Own w' B VT 5 sv acc.length L ∧ VRepsP (fun q => B ≤ q ∧ sv.ownBlock ≠ some q) w' acc L ∧ j ≤ s.length ∧ acc.length ≤ 2001 ∧
      ((e = 0 ∧ a = 0 ∧ m ≤ n ∧ 2 * (2000 - c') + 2 ≤ m ∧ c' ≤ 2000 ∧ acc.length ≤ c' ∧ listM En s m deep j c' acc = R) ∨ (e ≠ 0 ∧ ∃ k : Nat, a = (k : Int) ∧ R = .bad e k))) (fun _ w' => celM s p w')
    ⟨rfl, n, j0, c, [], .slice none 0 0, [], 0, 0, h10, hx010, hB5, hb6_10, hb7_10, hb8_10, ⟨by simp, .inl ⟨rfl, rfl⟩⟩, by simp [VRepsP], hble, by simp, .inl ⟨rfl, rfl, Nat.le_refl _, hn, hc, Nat.zero_le _, hR⟩⟩ ?_
  rintro st g w11 ⟨rfl, m, j, c', acc, sv, L, e, a, h11, hx11, hB11, hb6', hb7', hb8', hO, hRp, hj, hal, hd⟩
  -- handed back with nothing
  have none_ : ∀ {w' : World} {j2 c2 : Nat} {e2 : Int} {k : Nat} {l : List Value}, l = SS s j2 c2 e2 (k : Nat) → R = .bad e2 k → e2 ≠ 0 → j2 ≤ s.length → Ext w w' → B ≤ w'.heap.size → w'.heap[b6]? = some (.cells zs.toArray StT (0, 0)) → w'.heap[b7]? = some (.cells zv.toArray VT (0, 0)) →
      putW [(.int .i64 0), (.bool false), (.string (ofL [])), (.slice none 0 0), (.slice none 0 0)] [] fun c82 => stW 5 (.pointer (some ⟨b6, 0, none⟩)) (.agg l.toArray) w' fun w83 => stW 5 (.pointer (some ⟨b7, 0, none⟩)) (.agg c82.toArray) w83 fun w84 => ldW true 5 (.pointer (some ⟨b6, 0, none⟩)) w84 fun r85 => ldW true 5 (.pointer (some ⟨b7, 0, none⟩)) w84 fun r86 => OutR s R w (.tuple #[r85, r86]) w84 := fun {w' j2 c2 e2 k l} hl hbad he hj2 hx hBw h6 h7 => by
    subst hl
    rw [put_nil]
    refine ret_two h6 rfl h7 rfl (by omega) rfl rfl rfl rfl fun w2 hc2 => ?_
    exact OutR.bad (x := JV.null) hbad he (hx.then hc2 fun q hq e => by omega) (null_rep _ _) hj2
  refine h11.ld rfl ?_
  rw [bin_eql, condW_dec]
  rcases hd with ⟨rfl, rfl, hmn, hm, hc2, hacc, heq⟩ | ⟨he, k, rfl, hbad⟩
  case inr =>
    refine ⟨fun e0 => absurd e0 he, fun _ => ?_⟩
    refine h11.all ?_
    exact none_ rfl hbad he hj hx11 hB11 hb6' hb7'
  refine ⟨fun _ => ?_, fun e0 => absurd rfl e0⟩
  obtain ⟨m, rfl⟩ : ∃ m', m = m' + 1 := ⟨m - 1, by omega⟩
  rw [listM] at heq
  refine JoinW.cut (fun st w' => st = [str []] ∧ w' = w11) ?_ ?_
  · rw [condW_false]
    exact ⟨rfl, rfl⟩
  rintro st g2 w12 ⟨rfl, rfl⟩
  rw [put_nil]
  refine alloc_new fun b12 w13 hb12 hz13 hbb12 hx13 => ?_
  refine st_agg_at (l := zv) hbb12 rfl rfl rfl fun w14 hz14 hb12_14 hc14 => ?_
  have hx14 : Ext w12 w14 := hx13.new hc14 (by omega)
  have h14 := h11.ext hx14
  refine h14.all ?_
  rw [bin_add, up1 (by omega)]
  refine callF_mono (ih m (by omega) hj hs hc2 (by omega) (by omega)) ?_
  rintro v15 w15 ⟨hx15, x, cs, j1, c1, e1, a1, rfl, hr15, hj1, hd1⟩
  simp only [ext_tuple]
  refine ⟨_, rfl, _, rfl, ?_⟩
  have hx1215 := hx14.trans hx15
  refine (h14.ext hx15).st fun w16 h16 hc16 hz16 => ?_
  have hlt12 : w12.heap.size ≤ b12 := by omega
  have hb12_15 := hx15.at hb12_14 id
  have hltb : b12 < w14.heap.size := at_lt hb12_14
  refine st_agg_at (hc16.at hb12_15 fun e => by have e : b12 = p := e; omega) hr15.rep.len rfl hr15.rep.all_one fun w17 hz17 hb12_17 hc17 => ?_
  have hcc17 : Chg (fun k => k = p ∨ k = b12) w15 w17 := (hc16.mono fun k _ e => .inl e).trans (hc17.mono fun k _ e => .inr e)
  have h17 : Cel w17 p s j1 c1 e1 a1 := h16.chg hc17 (by omega)
  have s15 := hx15.size
  have s1217 : w12.heap.size ≤ w17.heap.size := by have := hx1215.size; have := hcc17.size; omega
  have hr17 : VRepP (From w14.heap.size) w17 x cs := VRepP.chg hcc17 (fun q hq _ e => by have : w14.heap.size ≤ q := hq; omega) hr15
  have keepb : ∀ {q : Nat} {o : Obj}, q < B → q ≠ p → w12.heap[q]? = some o → w17.heap[q]? = some o := fun hq hqp hb => hcc17.at (hx1215.at hb id) (by omega)
  have hb6_17 := keepb h6B (by omega) hb6'
  have hb7_17 := keepb h7B (by omega) hb7'
  have hb8_17 := keepb h8B (by omega) hb8'
  have hglt : ∀ k, sv.ownBlock = some k → B ≤ k ∧ k < w12.heap.size := fun k hk => ⟨(own_in hO hk).1, (own_in hO hk).2.1⟩
  have hO17 : Own w17 B VT 5 sv acc.length L := own_chg (own_chg hO hx1215 fun _ _ e => e) hcc17 fun q hq e => by have := hglt q hq; omega
  have hR17 : VRepsP (fun q => (B ≤ q ∧ sv.ownBlock ≠ some q) ∧ q < w12.heap.size) w17 acc L := VRepsP.chg hcc17 (fun q hq _ e => by have := hq.1.1; have := hq.2; omega) (VRepsP.chg hx1215 (fun _ _ _ e => e) (hRp.mono fun q hlt hq => ⟨hq, hlt⟩))
  have hx17 : Ext w w17 := (hx11.trans hx1215).then hcc17 fun k hk e => by omega
  -- the item goes behind the others
  refine JoinW.cut (fun st w' => st = [] ∧ ∃ sv' L', Cel w' p s j1 c1 e1 a1 ∧ Ext w w' ∧ B ≤ w'.heap.size ∧ w'.heap[b6]? = some (.cells zs.toArray StT (0, 0)) ∧ w'.heap[b7]? = some (.cells zv.toArray VT (0, 0)) ∧ w'.heap[b8]? = some (.cells [i64 5, .bool false, str [], sv', .slice none 0 0].toArray VT (0, 0)) ∧
      Own w' B VT 5 sv' (acc ++ [x]).length L' ∧ VRepsP (fun q => B ≤ q ∧ sv'.ownBlock ≠ some q) w' (acc ++ [x]) L') ?_ ?_
  · rw [condW_false, fld_ptr, add_mk, ld_one]
    refine ⟨sv, by rw [cell_eq, hb8_17]; rfl, ?_⟩
    refine ld_all hb12_17 hr15.rep.len ?_
    refine row_v hr15.rep.len fun t w18 ht hx18 => ?_
    have hO18 := own_chg hO17 hx18 fun _ _ e => e
    have s18 := hx18.size
    refine append_own3 elem_v hO18 ht (m := 1) (by rw [hr15.rep.len]) hr15.rep.one (by omega) (by omega) (by omega) fun sv' w19 hO19 hc19 hb19 => ?_
    have hown : ∀ k, sv.ownBlock = some k → B ≤ k := fun k hk => (hglt k hk).1
    have hb8_19 := hc19.at (hx18.at hb8_17 id) fun e => by have := hown _ e; omega
    rw [fld_ptr, add_mk]
    refine st_at hb8_19 (own_one hO19) (by simp) fun w20 hz20 hb8_20 hc20 => ?_
    have hb8_20 : w20.heap[b8]? = some (.cells [i64 5, .bool false, str [], sv', .slice none 0 0].toArray VT (0, 0)) := by rw [hb8_20]; simp
    have hlenx : (acc ++ [x]).length = acc.length + 1 := by simp
    have sv'lo : ∀ q, sv'.ownBlock = some q → B ≤ q := fun q hq => (own_in hO19 hq).1
    have hO20 := own_chg hO19 hc20 fun q hq e => by have := sv'lo q hq; have e : q = b8 := e; omega
    have s19 := hc19.size
    have hall : VRepsP (fun q => (B ≤ q ∧ sv.ownBlock ≠ some q) ∧ q < w18.heap.size) w18 (acc ++ [x]) (L ++ cs) :=
      VRepsP.snoc (VRepsP.chg hx18 (fun _ _ _ e => e) (hR17.mono fun q hlt hq => ⟨hq.1, by omega⟩)) ((VRepP.chg hx18 (fun _ _ _ e => e) hr17).mono fun q hlt hq => ⟨⟨by have : w14.heap.size ≤ q := hq; have := hx14.size; omega, fun e => by have := (hglt q e).2; have : w14.heap.size ≤ q := hq; have := hx14.size; omega⟩, hlt⟩)
    have hall2 := VRepsP.chg hc20 (fun q hq _ e => by have := hq.1.1; omega) (VRepsP.chg hc19 (fun q hq _ e => hq.1.2 e) hall)
    refine ⟨rfl, sv', L ++ cs, (h17.ext hx18 |>.chg hc19 fun e => by have := hown _ e; omega).chg hc20 (by omega), ?_, by have := hc20.size; omega, hc20.at (hc19.at (hx18.at hb6_17 id) fun e => by have := hown _ e; omega) (by omega), hc20.at (hc19.at (hx18.at hb7_17 id) fun e => by have := hown _ e; omega) (by omega), hb8_20, by rw [hlenx]; exact hO20, hall2.mono fun q _ hq => ⟨hq.1.1, fun e => ?_⟩⟩
    · exact ((hx17.trans hx18).then hc19 fun q hq e => by have := hown _ e; omega).new hc20 (by omega)
    · rcases hb19 q e with h | h
      · exact hq.1.2 h
      · have := hq.2; omega
  rintro st g3 w21 ⟨rfl, sv', L', h21, hx21, hB21, hb6_21, hb7_21, hb8_21, hO21, hR21⟩
  have hlenx : (acc ++ [x]).length = acc.length + 1 := by simp
  refine h21.all ?_
  refine blanks_ref hj1 (by omega) fun w22 hx22 => ?_
  have hle1 := blank_le hj1
  refine (h21.ext hx22).st fun w23 h23 hc23 hz23 => ?_
  refine h23.all ?_
  refine c_ref fun w24 hx24 => ?_
  have h24 := h23.ext hx24
  have hcc24 : Chg (Cr p) w21 w24 := ((Chg.of_ext hx22).trans hc23).then hx24 fun _ _ e => e.elim
  have hpb : ∀ q, q ≠ p → ¬ Cr p q := fun q hq e => hq e
  have step : ∀ {w' : World}, Chg (Cr p) w21 w' → Ext w w' ∧ B ≤ w'.heap.size ∧ w'.heap[b6]? = some (.cells zs.toArray StT (0, 0)) ∧ w'.heap[b7]? = some (.cells zv.toArray VT (0, 0)) ∧ w'.heap[b8]? = some (.cells [i64 5, .bool false, str [], sv', .slice none 0 0].toArray VT (0, 0)) ∧
      Own w' B VT 5 sv' (acc ++ [x]).length L' ∧ VRepsP (fun q => B ≤ q ∧ sv'.ownBlock ≠ some q) w' (acc ++ [x]) L' := fun {w'} hc' =>
    ⟨hx21.new hc' (by omega), by have := hc'.size; omega, hc'.at hb6_21 (hpb _ (by omega)), hc'.at hb7_21 (hpb _ (by omega)), hc'.at hb8_21 (hpb _ (by omega)), own_chg hO21 hc' fun q hq e => by have := (own_in hO21 hq).1; have e : q = p := e; omega, VRepsP.chg hc' (fun q hq _ e => by have := hq.1; have e : q = p := e; omega) hR21⟩
  rw [bin_eql, condW_dec]
  refine ⟨fun e => ?_, fun e => ?_⟩
  · have hlt93 := byte_lt (s := s) (i := blankM s j1) (by omega)
    refine h24.go (k := 1) (by omega) fun w25 h25 hc25 _ => ?_
    obtain ⟨q1, q2, q3, q4, q5, q6, q7⟩ := step (hcc24.trans hc25)
    have hrep : VRepP (From B) w25 (.mk 5 false [] (acc ++ [x]) []) [i64 5, .bool false, str [], sv', .slice none 0 0] :=
      VRepP.mk (v := .mk 5 false [] (acc ++ [x]) []) (T1 := VT) (T2 := 0) (L := L') q6.sl (q7.mono fun q _ hq => hq.1) (SlAt.nil w25 0) ⟨by show (acc ++ [x]).length ≤ _; omega, by simp [JV.ks], by simp [JV.t], by simp [JV.ks]⟩ (fun _ q hq => (own_in q6 hq).1) (fun e => absurd rfl e)
    refine ret_three h25 q3 q4 q5 rfl (obj_one (own_one q6) rfl) (by omega) (by omega) fun w26 hc26 => ?_
    have hx26 : Ext w w26 := q1.then hc26 fun k hk e => by omega
    have hrep : VRepP (From w.heap.size) w26 (.mk 5 false [] (acc ++ [x]) []) [i64 5, .bool false, str [], sv', .slice none 0 0] := (VRepP.chg hc26 (fun q hq _ e => by have : B ≤ q := hq; omega) hrep).mono fun q _ hq => by have : B ≤ q := hq; show w.heap.size ≤ q; omega
    rcases hd1 with ⟨rfl, rfl, hv⟩ | ⟨he1, k, rfl, hv⟩
    · rw [hv] at heq
      simp only at heq
      rw [if_pos e] at heq
      exact OutR.good heq.symm hx26 hrep (by omega)
    · rw [hv] at heq
      exact OutR.bad heq.symm he1 hx26 hrep (by omega)
  refine h24.all ?_
  refine c_ref fun w25 hx25 => ?_
  have h25 := h24.ext hx25
  have hcc25 : Chg (Cr p) w21 w25 := hcc24.then hx25 fun _ _ e => e.elim
  rw [bin_neq, condW_dec]
  refine ⟨fun e2 => ?_, fun e2 => ?_⟩
  · have e2 : byteM s (blankM s j1) ≠ 44 := by simpa using e2
    refine h25.all ?_
    refine h25.ld rfl ?_
    refine fail_ref fun w26 hx26 => ?_
    obtain ⟨q1, q2, q3, q4, q5, q6, q7⟩ := step (hcc25.then hx26 fun _ _ e => e.elim)
    rcases hd1 with ⟨rfl, rfl, hv⟩ | ⟨he1, k, rfl, hv⟩
    · rw [hv] at heq
      simp only at heq
      rw [if_neg e, if_neg e2] at heq
      rw [if_pos rfl, if_pos rfl]
      exact none_ rfl heq.symm (by decide) hle1 q1 q2 q3 q4
    · rw [hv] at heq
      rw [if_neg he1, if_neg he1]
      exact none_ rfl heq.symm he1 hle1 q1 q2 q3 q4
  · have e2 : byteM s (blankM s j1) = 44 := by simpa using e2
    have hlt44 := byte_lt (s := s) (i := blankM s j1) (by omega)
    refine h25.go (k := 1) (by omega) fun w26 h26 hc26 _ => ?_
    obtain ⟨q1, q2, q3, q4, q5, q6, q7⟩ := step (hcc25.trans hc26)
    have hge1 := blank_ge s j1
    have dec : celM s p w26 < celM s p w12 := by
      unfold celM
      rw [h11.e_, h11.at_, h26.e_, h26.at_, if_pos rfl]
      rcases hd1 with ⟨rfl, rfl, hv⟩ | ⟨he1, k, rfl, hv⟩
      · have hbk := val_back hj hc2 hv
        have := hbk.len
        rw [if_pos rfl]
        omega
      · rw [if_neg he1]
        omega
    refine ⟨⟨trivial, m, blankM s j1 + 1, c1, acc ++ [x], sv', L', e1, a1, h26, q1, q2, q3, q4, q5, q6, q7, by omega, by omega, ?_⟩, dec⟩
    rcases hd1 with ⟨rfl, rfl, hv⟩ | ⟨he1, k, rfl, hv⟩
    · have hbk := val_back hj hc2 hv
      have hcp := cnt_pos x
      have hcnt := hbk.cnt
      have hmax := hbk.max
      rw [hv] at heq
      simp only at heq
      rw [if_neg e, if_pos e2] at heq
      exact .inl ⟨rfl, rfl, by omega, by omega, by omega, by omega, heq⟩
    · rw [hv] at heq
      exact .inr ⟨he1, k, rfl, heq.symm⟩
end
end Go.Proofs.YtcnjpcadejcenaaGreatDoor
namespace Go.Proofs.YtcnjpcadejcenaaGreatDoor
open Go Go.Eng Go.RowKit
set_option maxRecDepth 100000
section
variable [HX]
theorem get_idx (l : List (Str × JV)) (key : Str) : decide (0 ≤ idxI (mkO l).ks key) = (getM (mkO l) key).isSome := by
  have h := idxI_neg (ks := (mkO l).ks) (k := key)
  cases hx : idxK (mkO l).ks key with
  | none =>
    have e2 : getM (mkO l) key = none := by unfold getM; rw [if_pos (show (mkO l).k = 6 from rfl), hx]
    rw [e2, decide_eq_false (by have := h.2 hx; omega)]; rfl
  | some i =>
    have e2 : getM (mkO l) key = (mkO l).xs[i]? := by unfold getM; rw [if_pos (show (mkO l).k = 6 from rfl), hx]
    have hn : ¬ idxI (mkO l).ks key < 0 := fun hh => by rw [h.1 hh] at hx; cases hx
    have hlt : i < (mkO l).xs.length := by
      have : i < (l.map (·.1)).length := (List.getElem?_eq_some_iff.1 (idxK_spec hx)).1
      show i < (l.map (·.2)).length
      rw [List.length_map] at this ⊢
      exact this
    rw [e2, List.getElem?_eq_getElem hlt, decide_eq_true (by omega)]; rfl
def OutQ (s : Str) (r : RR Str) (c : Nat) (w : World) (v : Value) (w' : World) : Prop :=
  Ext w w' ∧ ∃ t j e a, v = .tuple #[.agg (SS s j c e a).toArray, str t] ∧ j ≤ s.length ∧ t.length ≤ 16384 ∧ ((e = 0 ∧ a = 0 ∧ r = .ok t j c) ∨ (e ≠ 0 ∧ ∃ k : Nat, a = (k : Int) ∧ r = .bad e k))
theorem quoted_out {s : Str} {i c : Nat} {w : World} (hi : i < s.length) (hs : s.length ≤ 1000000) : callF Tryz.prog 119 [.agg (SS s i c 0 0).toArray] w (OutQ s (quotM En s i c) c w) := by
  refine quoted_ref hi hs (fun t j c' hq w' hx => ?_) (fun e j hq i' w' he hi' hx => ?_)
  · have hq' := hq
    unfold quotM at hq'
    obtain ⟨a1, a2, a3, a4, a5, a6⟩ := quot_back hq' .nil
    subst a1
    exact ⟨hx, t, j, 0, 0, rfl, a5, a3, .inl ⟨rfl, rfl, hq⟩⟩
  · exact ⟨hx, [], i', e, j, rfl, hi', by simp, .inr ⟨he, j, rfl, hq⟩⟩
theorem manyO_ref {n deep i c : Nat} {s : Str} {w : World} (ih : ∀ m, m ≤ n → VPR m) (hi : i < s.length) (hs : s.length ≤ 65536) (hc : c ≤ 2000) (hdeep : deep ≤ 24) (hn : 2 * (2000 - c) + 2 ≤ n) :
    callF Tryz.prog 121 [.agg (SS s i c 0 0).toArray, i64 (deep : Nat), .bool true] w
      (OutR s (if byteM s (blankM s (i + 1)) = 125 then .ok (.mk 6 false [] [] []) (blankM s (i + 1) + 1) c else objM En s n deep (blankM s (i + 1)) c (.mk 6 false [] [] [])) w) := by
  refine W121_ok ?_
  unfold W121
  refine cel_box fun p w1 hp h1 hx1 => ?_
  refine alloc_new fun b6 w2 hb6 hz2 hbb6 hx2 => ?_
  refine alloc_new fun b7 w3 hb7 hz3 hbb7 hx3 => ?_
  rw [put_int]
  refine ⟨by simp, ?_⟩
  rw [put_nil]
  simp only [List.set_cons_zero]
  refine alloc_new fun b8 w4 hb8 hz4 hbb8 hx4 => ?_
  refine st_agg_at (l := [i64 5, .bool false, str [], .slice none 0 0, .slice none 0 0]) hbb8 rfl rfl rfl fun w5 hz5 hb8_5 hc5 => ?_
  have h4 := ((h1.ext hx2).ext hx3).ext hx4
  have hlt := h1.lt
  have h5 := h4.chg hc5 (by omega)
  have hb6_5 := hc5.at (hx4.at (hx3.at hbb6 id) id) (by omega)
  have hb7_5 := hc5.at (hx4.at hbb7 id) (by omega)
  have hx05 : Ext w w5 := (((hx1.trans hx2).trans hx3).trans hx4).new hc5 (by omega)
  have hz45 := hz5
  refine JoinW.cut (fun st w' => st = [i64 125] ∧ w'.heap.size = w5.heap.size ∧ Cel w' p s i c 0 0 ∧ w'.heap[b6]? = some (.cells zs.toArray StT (0, 0)) ∧ w'.heap[b7]? = some (.cells zv.toArray VT (0, 0)) ∧ w'.heap[b8]? = some (.cells [i64 6, .bool false, str [], .slice none 0 0, .slice none 0 0].toArray VT (0, 0)) ∧ Ext w w') ?_ ?_
  · rw [condW_true, fld_ptr, add_mk]
    refine st_at hb8_5 rfl (by simp) fun w6 hz6 hb8_6 hc6 => ?_
    exact ⟨rfl, hz6, h5.chg hc6 (by omega), hc6.at hb6_5 (by omega), hc6.at hb7_5 (by omega), by rw [hb8_6]; simp, hx05.new hc6 (by omega)⟩
  rintro st g w6 ⟨rfl, hz6, h5, hb6_5, hb7_5, hb8_5, hx05⟩
  simp only [List.getD_cons_zero]
  refine h5.go (k := 1) (by omega) fun w7 h7 hc7 hz7 => ?_
  refine h7.all ?_
  refine blanks_ref (by omega) (by omega) fun w8 hx8 => ?_
  have hble : blankM s (i + 1) ≤ s.length := blank_le (by omega)
  refine (h7.ext hx8).st fun w9 h9 hc9 hz9 => ?_
  refine h9.all ?_
  refine c_ref fun w10 hx10 => ?_
  have h10 := h9.ext hx10
  have hcc : Chg (Cr p) w6 w10 := ((hc7.trans (Chg.of_ext hx8)).trans hc9).then hx10 fun _ _ e => e.elim
  have hb6_10 := hcc.at hb6_5 fun e => by have e : b6 = p := e; omega
  have hb7_10 := hcc.at hb7_5 fun e => by have e : b7 = p := e; omega
  have hb8_10 := hcc.at hb8_5 fun e => by have e : b8 = p := e; omega
  have hx010 : Ext w w10 := hx05.new hcc (by omega)
  generalize hj0 : blankM s (i + 1) = j0 at *
  have hB5 : w6.heap.size ≤ w10.heap.size := hcc.size
  generalize hBB : w6.heap.size = B at *
  have hpB : p < B ∧ b6 < B ∧ b7 < B ∧ b8 < B ∧ w.heap.size ≤ B := by omega
  obtain ⟨hpB, h6B, h7B, h8B, hwB⟩ := hpB
  rw [bin_eql, condW_dec]
  refine ⟨fun e => ?_, fun e => ?_⟩
  · rw [if_pos e]
    have := byte_lt (s := s) (i := j0) (by omega)
    refine h10.go (k := 1) (by omega) fun w11 h11 hc11 _ => ?_
    refine ret_three h11 (hc11.at hb6_10 fun e => by have e : b6 = p := e; omega) (hc11.at hb7_10 fun e => by have e : b7 = p := e; omega) (hc11.at hb8_10 fun e => by have e : b8 = p := e; omega) rfl rfl (by omega) (by omega) fun w12 hc12 => ?_
    refine OutR.good rfl ((hx010.new hc11 (by omega)).then hc12 fun k hk e => by omega) ?_ (by omega)
    exact leaf_rep (by simp)
  rw [if_neg e]
  have e0 : (.mk 6 false [] [] [] : JV) = mkO [] := rfl
  rw [e0]
  generalize hR : objM En s n deep j0 c (mkO []) = R
  refine LoopW.go (fun st w' => st = [] ∧ ∃ m j c' v es e a, Cel w' p s j c' e a ∧ Ext w w' ∧ B ≤ w'.heap.size ∧ w'.heap[b6]? = some (.cells zs.toArray StT (0, 0)) ∧ w'.heap[b7]? = some (.cells zv.toArray VT (0, 0)) ∧ w'.heap[b8]? = some (.cells es.toArray VT (0, 0)) ∧
      VRepP (From B) w' v es ∧ j ≤ s.length ∧
      ((e = 0 ∧ a = 0 ∧ m ≤ n ∧ 2 * (2000 - c') + 2 ≤ m ∧ c' ≤ 2000 ∧ (∃ l, v = mkO l ∧ l.length ≤ c') ∧ objM En s m deep j c' v = R) ∨ (e ≠ 0 ∧ ∃ k : Nat, a = (k : Int) ∧ R = .bad e k))) (fun _ w' => celM s p w')
    ⟨rfl, n, j0, c, mkO [], [i64 6, .bool false, str [], .slice none 0 0, .slice none 0 0], 0, 0, h10, hx010, hB5, hb6_10, hb7_10, hb8_10, leaf_rep (by simp), hble, .inl ⟨rfl, rfl, Nat.le_refl _, hn, hc, ⟨[], rfl, Nat.zero_le _⟩, hR⟩⟩ ?_
  rintro st g w11 ⟨rfl, m, j, c', v, es, e, a, h11, hx11, hB11, hb6', hb7', hb8', hRp, hj, hd⟩
  -- handed back with nothing
  have none_ : ∀ {w' : World} {j2 c2 : Nat} {e2 : Int} {k : Nat} {l : List Value}, l = SS s j2 c2 e2 (k : Nat) → R = .bad e2 k → e2 ≠ 0 → j2 ≤ s.length → Ext w w' → B ≤ w'.heap.size → w'.heap[b6]? = some (.cells zs.toArray StT (0, 0)) → w'.heap[b7]? = some (.cells zv.toArray VT (0, 0)) →
      putW [(.int .i64 0), (.bool false), (.string (ofL [])), (.slice none 0 0), (.slice none 0 0)] [] fun c82 => stW 5 (.pointer (some ⟨b6, 0, none⟩)) (.agg l.toArray) w' fun w83 => stW 5 (.pointer (some ⟨b7, 0, none⟩)) (.agg c82.toArray) w83 fun w84 => ldW true 5 (.pointer (some ⟨b6, 0, none⟩)) w84 fun r85 => ldW true 5 (.pointer (some ⟨b7, 0, none⟩)) w84 fun r86 => OutR s R w (.tuple #[r85, r86]) w84 := fun {w' j2 c2 e2 k l} hl hbad he hj2 hx hBw h6 h7 => by
    subst hl
    rw [put_nil]
    refine ret_two h6 rfl h7 rfl (by omega) rfl rfl rfl rfl fun w2 hc2 => ?_
    exact OutR.bad (x := JV.null) hbad he (hx.then hc2 fun q hq e => by omega) (null_rep _ _) hj2
  have hpb : ∀ q, q ≠ p → ¬ Cr p q := fun q hq e => hq e
  refine h11.ld rfl ?_
  rw [bin_eql, condW_dec]
  rcases hd with ⟨rfl, rfl, hmn, hm, hc2, ⟨l, rfl, hll⟩, heq⟩ | ⟨he, k, rfl, hbad⟩
  case inr =>
    refine ⟨fun e0 => absurd e0 he, fun _ => ?_⟩
    refine h11.all ?_
    exact none_ rfl hbad he hj hx11 hB11 hb6' hb7'
  refine ⟨fun _ => ?_, fun e0 => absurd rfl e0⟩
  obtain ⟨m, rfl⟩ : ∃ m', m = m' + 1 := ⟨m - 1, by omega⟩
  rw [objM] at heq
  have hjb := blank_le hj
  have hjg := blank_ge s j
  have hget := get_idx l
  -- what stays while the state alone is written
  have step0 : ∀ {w' w'' : World}, Chg (Cr p) w' w'' → Ext w w' ∧ B ≤ w'.heap.size ∧ w'.heap[b6]? = some (.cells zs.toArray StT (0, 0)) ∧ w'.heap[b7]? = some (.cells zv.toArray VT (0, 0)) ∧ w'.heap[b8]? = some (.cells es.toArray VT (0, 0)) ∧ VRepP (From B) w' (mkO l) es →
      Ext w w'' ∧ B ≤ w''.heap.size ∧ w''.heap[b6]? = some (.cells zs.toArray StT (0, 0)) ∧ w''.heap[b7]? = some (.cells zv.toArray VT (0, 0)) ∧ w''.heap[b8]? = some (.cells es.toArray VT (0, 0)) ∧ VRepP (From B) w'' (mkO l) es := fun {w' w''} hc' ⟨a1, a2, a3, a4, a5, a6⟩ =>
    ⟨a1.new hc' (by omega), by have := hc'.size; omega, hc'.at a3 (hpb _ (by omega)), hc'.at a4 (hpb _ (by omega)), hc'.at a5 (hpb _ (by omega)), VRepP.chg hc' (fun q hq _ e => by have : B ≤ q := hq; have e : q = p := e; omega) a6⟩
  have base0 : Ext w w11 ∧ B ≤ w11.heap.size ∧ w11.heap[b6]? = some (.cells zs.toArray StT (0, 0)) ∧ w11.heap[b7]? = some (.cells zv.toArray VT (0, 0)) ∧ w11.heap[b8]? = some (.cells es.toArray VT (0, 0)) ∧ VRepP (From B) w11 (mkO l) es := ⟨hx11, hB11, hb6', hb7', hb8', hRp⟩
  -- the key
  refine JoinW.cut (fun st w' => ∃ key j2 e a, st = [str key] ∧ Cel w' p s j2 c' e a ∧ (Ext w w' ∧ B ≤ w'.heap.size ∧ w'.heap[b6]? = some (.cells zs.toArray StT (0, 0)) ∧ w'.heap[b7]? = some (.cells zv.toArray VT (0, 0)) ∧ w'.heap[b8]? = some (.cells es.toArray VT (0, 0)) ∧ VRepP (From B) w' (mkO l) es) ∧ j2 ≤ s.length ∧ key.length ≤ 16384 ∧
      ((e = 0 ∧ a = 0 ∧ (getM (mkO l) key).isSome = false ∧ j < j2 ∧ (∀ e k, valM En s m (deep + 1) j2 c' = .bad e k → R = .bad e k) ∧
        (∀ x j3 c3, valM En s m (deep + 1) j2 c' = .ok x j3 c3 → R = if byteM s (blankM s j3) = 125 then .ok (putM (mkO l) key x) (blankM s j3 + 1) c3 else if byteM s (blankM s j3) = 44 then objM En s m deep (blankM s j3 + 1) c3 (putM (mkO l) key x) else .bad 30 (blankM s j3))) ∨
       (e ≠ 0 ∧ ∃ k : Nat, a = (k : Int) ∧ R = .bad e k))) ?_ ?_
  · rw [condW_true]
    refine h11.all ?_
    refine blanks_ref hj (by omega) fun w12 hx12 => ?_
    refine (h11.ext hx12).st fun w13 h13 hc13 _ => ?_
    refine h13.ld rfl ?_
    refine h13.all ?_
    refine c_ref fun w14 hx14 => ?_
    have h14 := h13.ext hx14
    have st14 := step0 (((Chg.of_ext hx12).trans hc13).then hx14 fun _ _ e => e.elim) base0
    generalize hj8 : blankM s j = j8 at *
    rw [bin_neq, condW_dec]
    refine ⟨fun e34 => ?_, fun e34 => ?_⟩
    · have e34 : byteM s j8 ≠ 34 := by simpa using e34
      rw [if_pos e34] at heq
      refine h14.all ?_
      refine h14.ld rfl ?_
      refine fail_ref fun w15 hx15 => ?_
      rw [if_pos rfl, if_pos rfl]
      obtain ⟨q1, q2, q3, q4, q5, q6⟩ := step0 (Chg.of_ext hx15) st14
      exact none_ rfl heq.symm (by decide) hjb q1 q2 q3 q4
    have e34 : byteM s j8 = 34 := by simpa using e34
    rw [if_neg (fun h => h e34)] at heq
    have hlt8 := byte_lt (s := s) (i := j8) (by omega)
    refine h14.all ?_
    refine callF_mono (quoted_out hlt8 (by omega)) ?_
    rintro v15 w15 ⟨hx15, key, jq, e, a, rfl, hjq, hkl, hdq⟩
    simp only [ext_tuple]
    refine ⟨_, rfl, _, rfl, ?_⟩
    refine (h14.ext hx15).st fun w16 h16 hc16 _ => ?_
    refine h16.ld rfl ?_
    have hc1416 : Chg (Cr p) w14 w16 := (Chg.of_ext hx15).trans hc16
    have st16 := step0 hc1416 st14
    rw [bin_eql]
    refine GdW.act (getM (mkO l) key).isSome (fun w' => Ext w16 w') (fun _ => Chg.refl _ _) (fun _ J hJ => ?_) ?_
    · refine ld_all st16.2.2.2.2.1 st16.2.2.2.2.2.rep.len ?_
      refine at_ref st16.2.2.2.2.2.rep fun w17 hx17 => ?_
      rw [bin_geq, hget]
      exact hJ w17 hx17
    intro g17 w17 hx17
    simp only [List.getD_cons_zero, isB_t]
    rw [pick_gd_and, condW_b]
    have h17 := h16.ext hx17
    have hc1417 : Chg (Cr p) w14 w17 := hc1416.then hx17 fun _ _ e => e.elim
    refine ⟨fun et => ?_, fun et => ?_⟩
    · rw [Bool.and_eq_true, decide_eq_true_iff] at et
      obtain ⟨rfl, et⟩ := et
      rcases hdq with ⟨_, rfl, hq⟩ | ⟨h0, _⟩
      · rw [hq] at heq
        simp only at heq
        rw [if_pos et] at heq
        refine h17.all ?_
        refine fail_ref fun w18 hx18 => ?_
        rw [if_pos rfl, if_pos rfl]
        obtain ⟨q1, q2, q3, q4, q5, q6⟩ := step0 (hc1417.then hx18 fun _ _ e => e.elim) st14
        exact none_ rfl heq.symm (by decide) hjq q1 q2 q3 q4
      · exact absurd rfl h0
    have hqt : e = 0 → (getM (mkO l) key).isSome = false := fun h => by
      rw [decide_eq_true h, Bool.true_and] at et
      exact et
    refine h17.all ?_
    refine blanks_ref hjq (by omega) fun w18 hx18 => ?_
    refine (h17.ext hx18).st fun w19 h19 hc19 _ => ?_
    refine h19.all ?_
    refine c_ref fun w20 hx20 => ?_
    have h20 := h19.ext hx20
    have hc1420 : Chg (Cr p) w14 w20 := (((hc1417.then hx18 fun _ _ e => e.elim)).trans hc19).then hx20 fun _ _ e => e.elim
    have hle := blank_le hjq
    have hge := blank_ge s jq
    rw [bin_neq, condW_dec]
    refine ⟨fun e58 => ?_, fun e58 => ?_⟩
    · have e58 : byteM s (blankM s jq) ≠ 58 := by simpa using e58
      refine h20.all ?_
      refine h20.ld rfl ?_
      refine fail_ref fun w21 hx21 => ?_
      obtain ⟨q1, q2, q3, q4, q5, q6⟩ := step0 (hc1420.then hx21 fun _ _ e => e.elim) st14
      rcases hdq with ⟨rfl, rfl, hq⟩ | ⟨h0, k, rfl, hq⟩
      · rw [hq] at heq
        simp only at heq
        rw [if_neg (by rw [hqt rfl]; simp), if_pos e58] at heq
        rw [if_pos rfl, if_pos rfl]
        exact none_ rfl heq.symm (by decide) hle q1 q2 q3 q4
      · rw [hq] at heq
        rw [if_neg h0, if_neg h0]
        exact none_ rfl heq.symm h0 hle q1 q2 q3 q4
    have e58 : byteM s (blankM s jq) = 58 := by simpa using e58
    have hlt58 := byte_lt (s := s) (i := blankM s jq) (by omega)
    refine h20.go (k := 1) (by omega) fun w21 h21 hc21 _ => ?_
    refine ⟨key, _, e, a, rfl, h21, step0 (hc1420.trans hc21) st14, by omega, hkl, ?_⟩
    rcases hdq with ⟨rfl, rfl, hq⟩ | ⟨h0, k, rfl, hq⟩
    · have hq' := hq
      unfold quotM at hq'
      obtain ⟨_, _, _, a4, _, _⟩ := quot_back hq' .nil
      rw [hq] at heq
      simp only at heq
      rw [if_neg (by rw [hqt rfl]; simp), if_neg (fun h => h e58)] at heq
      refine .inl ⟨rfl, rfl, hqt rfl, by omega, fun e k hv => ?_, fun x j3 c3 hv => ?_⟩
      · rw [hv] at heq
        exact heq.symm
      · rw [hv] at heq
        exact heq.symm
    · rw [hq] at heq
      exact .inr ⟨h0, k, rfl, heq.symm⟩
  clear heq base0
  have hjk0 : ∃ jk0, jk0 = j := ⟨j, rfl⟩
  obtain ⟨jk0, hjk0⟩ := hjk0
  rintro st g2 w12 ⟨key, jk, e2, a2, rfl, h12, ⟨hx12, hB12, hb6_12, hb7_12, hb8_12, hR12⟩, hjk, hkl, hd2⟩
  simp only [List.getD_cons_zero]
  rw [put_nil]
  refine alloc_new fun b12 w13 hb12 hz13 hbb12 hx13 => ?_
  refine st_agg_at (l := zv) hbb12 rfl rfl rfl fun w14 hz14 hb12_14 hc14 => ?_
  have hx14 : Ext w12 w14 := hx13.new hc14 (by omega)
  have h14 := h12.ext hx14
  refine h14.all ?_
  rw [bin_add, up1 (by omega)]
  -- the value behind the key
  refine callF_mono (K := fun v w' => Ext w14 w' ∧ ∃ x cs j c e a, v = .tuple #[.agg (SS s j c e a).toArray, .agg cs.toArray] ∧ VRepP (From w14.heap.size) w' x cs ∧ j ≤ s.length ∧ ((e = 0 ∧ a = 0 ∧ valM En s m (deep + 1) jk c' = .ok x j c ∧ jk0 < jk ∧ (getM (mkO l) key).isSome = false ∧ R = if byteM s (blankM s j) = 125 then .ok (putM (mkO l) key x) (blankM s j + 1) c else if byteM s (blankM s j) = 44 then objM En s m deep (blankM s j + 1) c (putM (mkO l) key x) else .bad 30 (blankM s j)) ∨ (e ≠ 0 ∧ ∃ k : Nat, a = (k : Int) ∧ R = .bad e k))) ?_ ?_
  · rcases hd2 with ⟨rfl, rfl, hget', hjj, hv1, hv2⟩ | ⟨h0, k, rfl, hbad⟩
    · refine callF_mono (ih m (by omega) hjk hs hc2 (by omega) (by omega)) ?_
      rintro v15 w15 ⟨hx15, x, cs, j1, c1, e1, a1, rfl, hr15, hj1, ⟨rfl, rfl, hv⟩ | ⟨he, k, rfl, hv⟩⟩
      · exact ⟨hx15, x, cs, j1, c1, 0, 0, rfl, hr15, hj1, .inl ⟨rfl, rfl, hv, by omega, hget', hv2 _ _ _ hv⟩⟩
      · exact ⟨hx15, x, cs, j1, c1, e1, k, rfl, hr15, hj1, .inr ⟨he, k, rfl, hv1 _ _ hv⟩⟩
    · refine callF_mono (value_err h0 hjk (by omega)) ?_
      rintro v15 w15 ⟨hx15, x, cs, j1, c1, e1, a1, rfl, hr15, hj1, ⟨rfl, rfl, hv⟩ | ⟨he, k2, rfl, hv⟩⟩
      · cases hv
      · cases hv
        exact ⟨hx15, x, cs, j1, c1, e2, k, rfl, hr15, hj1, .inr ⟨he, k, rfl, hbad⟩⟩
  rintro v15 w15 ⟨hx15, x, cs, j1, c1, e1, a1, rfl, hr15, hj1, hd1⟩
  simp only [ext_tuple]
  refine ⟨_, rfl, _, rfl, ?_⟩
  have hx1215 := hx14.trans hx15
  refine (h14.ext hx15).st fun w16 h16 hc16 hz16 => ?_
  have hlt12 : w12.heap.size ≤ b12 := by omega
  have hb12_15 := hx15.at hb12_14 id
  have hltb : b12 < w14.heap.size := at_lt hb12_14
  refine st_agg_at (hc16.at hb12_15 fun e => by have e : b12 = p := e; omega) hr15.rep.len rfl hr15.rep.all_one fun w17 hz17 hb12_17 hc17 => ?_
  have hcc17 : Chg (fun k => k = p ∨ k = b12) w15 w17 := (hc16.mono fun k _ e => .inl e).trans (hc17.mono fun k _ e => .inr e)
  have h17 : Cel w17 p s j1 c1 e1 a1 := h16.chg hc17 (by omega)
  have s15 := hx15.size
  have s1217 : w12.heap.size ≤ w17.heap.size := by have := hx1215.size; have := hcc17.size; omega
  have hr17 : VRepP (From w14.heap.size) w17 x cs := VRepP.chg hcc17 (fun q hq _ e => by have : w14.heap.size ≤ q := hq; omega) hr15
  have keepb : ∀ {q : Nat} {o : Obj}, q < B → q ≠ p → w12.heap[q]? = some o → w17.heap[q]? = some o := fun hq hqp hb => hcc17.at (hx1215.at hb id) (by omega)
  have hb6_17 := keepb h6B (by omega) hb6_12
  have hb7_17 := keepb h7B (by omega) hb7_12
  have hb8_17 := keepb h8B (by omega) hb8_12
  have hR17 : VRepP (From B) w17 (mkO l) es := (VRepP.chg (G := fun q => B ≤ q ∧ q < w12.heap.size) hcc17 (fun q hq _ e => by have := hq.1; have := hq.2; omega) (VRepP.chg hx1215 (fun _ _ _ e => e) (hR12.mono fun q hlt hq => ⟨hq, hlt⟩))).mono fun q _ hq => hq.1
  have hx17 : Ext w w17 := (hx12.trans hx1215).then hcc17 fun k hk e => by omega
  refine JoinW.cut (fun st w' => st = [] ∧ ∃ es', Cel w' p s j1 c1 e1 a1 ∧ Ext w w' ∧ B ≤ w'.heap.size ∧ w'.heap[b6]? = some (.cells zs.toArray StT (0, 0)) ∧ w'.heap[b7]? = some (.cells zv.toArray VT (0, 0)) ∧ w'.heap[b8]? = some (.cells es'.toArray VT (0, 0)) ∧ VRepP (From B) w' (putM (mkO l) key x) es') ?_ ?_
  · rw [condW_true]
    refine ld_all hb8_17 hR17.rep.len ?_
    refine ld_all hb12_17 hr15.rep.len ?_
    refine put_refP (B := B) hR17 (hr17.mono fun q _ hq => by have : w14.heap.size ≤ q := hq; have := hx14.size; show B ≤ q; omega) (by omega) (fun _ => by show (l.map (·.1)).length = (l.map (·.2)).length; rw [List.length_map, List.length_map]) (by show (l.map (·.1)).length ≤ _; rw [List.length_map]; omega) (by omega) fun es' w18 hx18 hr18 => ?_
    refine st_agg_at (hx18.at hb8_17 id) hr18.rep.len hR17.rep.len hr18.rep.all_one fun w19 hz19 hb8_19 hc19 => ?_
    exact ⟨rfl, es', (h17.ext hx18).chg hc19 (by omega), (hx17.trans hx18).new hc19 (by omega), by have := hx18.size; omega, hc19.at (hx18.at hb6_17 id) (by omega), hc19.at (hx18.at hb7_17 id) (by omega), hb8_19, VRepP.chg hc19 (fun q hq _ e => by have : B ≤ q := hq; omega) hr18⟩
  rintro st g3 w21 ⟨rfl, es', h21, hx21, hB21, hb6_21, hb7_21, hb8_21, hR21⟩
  refine h21.all ?_
  refine blanks_ref hj1 (by omega) fun w22 hx22 => ?_
  have hle1 := blank_le hj1
  refine (h21.ext hx22).st fun w23 h23 hc23 hz23 => ?_
  refine h23.all ?_
  refine c_ref fun w24 hx24 => ?_
  have h24 := h23.ext hx24
  have hcc24 : Chg (Cr p) w21 w24 := ((Chg.of_ext hx22).trans hc23).then hx24 fun _ _ e => e.elim
  have step : ∀ {w' : World}, Chg (Cr p) w21 w' → Ext w w' ∧ B ≤ w'.heap.size ∧ w'.heap[b6]? = some (.cells zs.toArray StT (0, 0)) ∧ w'.heap[b7]? = some (.cells zv.toArray VT (0, 0)) ∧ w'.heap[b8]? = some (.cells es'.toArray VT (0, 0)) ∧ VRepP (From B) w' (putM (mkO l) key x) es' := fun {w'} hc' =>
    ⟨hx21.new hc' (by omega), by have := hc'.size; omega, hc'.at hb6_21 (hpb _ (by omega)), hc'.at hb7_21 (hpb _ (by omega)), hc'.at hb8_21 (hpb _ (by omega)), VRepP.chg hc' (fun q hq _ e => by have : B ≤ q := hq; have e : q = p := e; omega) hR21⟩
  rw [bin_eql, condW_dec]
  refine ⟨fun e => ?_, fun e => ?_⟩
  · have hlt93 := byte_lt (s := s) (i := blankM s j1) (by omega)
    refine h24.go (k := 1) (by omega) fun w25 h25 hc25 _ => ?_
    obtain ⟨q1, q2, q3, q4, q5, q6⟩ := step (hcc24.trans hc25)
    refine ret_three h25 q3 q4 q5 q6.rep.len q6.rep.all_one (by omega) (by omega) fun w26 hc26 => ?_
    have hx26 : Ext w w26 := q1.then hc26 fun k hk e => by omega
    have hrep : VRepP (From w.heap.size) w26 (putM (mkO l) key x) es' := (VRepP.chg hc26 (fun q hq _ e => by have : B ≤ q := hq; omega) q6).mono fun q _ hq => by have : B ≤ q := hq; show w.heap.size ≤ q; omega
    rcases hd1 with ⟨rfl, rfl, hv, _, _, heq⟩ | ⟨he1, k, rfl, heq⟩
    · rw [if_pos e] at heq
      exact OutR.good heq hx26 hrep (by omega)
    · exact OutR.bad heq he1 hx26 hrep (by omega)
  refine h24.all ?_
  refine c_ref fun w25 hx25 => ?_
  have h25 := h24.ext hx25
  have hcc25 : Chg (Cr p) w21 w25 := hcc24.then hx25 fun _ _ e => e.elim
  rw [bin_neq, condW_dec]
  refine ⟨fun e2 => ?_, fun e2 => ?_⟩
  · have e2 : byteM s (blankM s j1) ≠ 44 := by simpa using e2
    refine h25.all ?_
    refine h25.ld rfl ?_
    refine fail_ref fun w26 hx26 => ?_
    obtain ⟨q1, q2, q3, q4, q5, q6⟩ := step (hcc25.then hx26 fun _ _ e => e.elim)
    rcases hd1 with ⟨rfl, rfl, hv, _, _, heq⟩ | ⟨he1, k, rfl, heq⟩
    · rw [if_neg e, if_neg e2] at heq
      rw [if_pos rfl, if_pos rfl]
      exact none_ rfl heq (by decide) hle1 q1 q2 q3 q4
    · rw [if_neg he1, if_neg he1]
      exact none_ rfl heq he1 hle1 q1 q2 q3 q4
  · have e2 : byteM s (blankM s j1) = 44 := by simpa using e2
    have hlt44 := byte_lt (s := s) (i := blankM s j1) (by omega)
    refine h25.go (k := 1) (by omega) fun w26 h26 hc26 _ => ?_
    obtain ⟨q1, q2, q3, q4, q5, q6⟩ := step (hcc25.trans hc26)
    have hge1 := blank_ge s j1
    have dec : celM s p w26 < celM s p w11 := by
      unfold celM
      rw [h11.e_, h11.at_, h26.e_, h26.at_, if_pos rfl]
      rcases hd1 with ⟨rfl, rfl, hv, hjj, _, _⟩ | ⟨he1, k, rfl, hv⟩
      · have hbk := val_back hjk hc2 hv
        have := hbk.len
        rw [if_pos rfl]
        omega
      · rw [if_neg he1]
        omega
    refine ⟨⟨trivial, m, blankM s j1 + 1, c1, putM (mkO l) key x, es', e1, a1, h26, q1, q2, q3, q4, q5, q6, by omega, ?_⟩, dec⟩
    rcases hd1 with ⟨rfl, rfl, hv, _, hg, heq⟩ | ⟨he1, k, rfl, heq⟩
    · have hbk := val_back hjk hc2 hv
      have hcp := cnt_pos x
      have hcnt := hbk.cnt
      have hmax := hbk.max
      rw [if_neg e, if_pos e2] at heq
      exact .inl ⟨rfl, rfl, by omega, by omega, by omega, ⟨insP l key x, put_mkO (get_none hg), by rw [ins_len]; omega⟩, heq.symm⟩
    · exact .inr ⟨he1, k, rfl, heq⟩
end
end Go.Proofs.YtcnjpcadejcenaaGreatDoor
namespace Go.Proofs.YtcnjpcadejcenaaGreatDoor
open Go Go.Eng
set_option maxRecDepth 100000
variable [HX]
def plan115 : Plan := { js := [], ds := [] }
def W115 (v0 : Value) (w : World) (K : Value → World → Prop) : Prop :=
  allocW 26 [(.int .i64 0), (.bool false), (.string (ofL [])), (.slice none 0 0), (.slice none 0 0)] w fun t2 w1 =>
  putW [(.int .i64 0), (.bool false), (.string (ofL [])), (.slice none 0 0), (.slice none 0 0)] [(0, 1, (.int .i64 2)), (1, 1, v0)] fun c2 =>
  stW 5 t2 (.agg c2.toArray) w1 fun w3 =>
  ldW true 5 t2 w3 fun r4 =>
  K r4 w3
theorem W115_eq (v0 : Value) (w : World) (K : Value → World → Prop) : funW Tryz.prog Tryz.f115 plan115 [v0] w K = W115 v0 w K := by kernel_rfl
theorem W115_chk : chkFun Tryz.prog Tryz.f115 plan115 1 = true := by kernel_rfl
theorem W115_ok {v0 : Value} {w : World} {K : Value → World → Prop} (h : W115 v0 w K) : callF Tryz.prog 115 [v0] w K :=
  tie Tryz.prog 115 Tryz.f115 plan115 [v0] w K 1 (W115 v0 w K) rfl mixed Tryz.func115 W115_chk (W115_eq v0 w K) Tryz.call115 h
end Go.Proofs.YtcnjpcadejcenaaGreatDoor
namespace Go.Proofs.YtcnjpcadejcenaaGreatDoor
open Go Go.Eng Go.RowKit
set_option maxRecDepth 100000
theorem leaf_of {G : Nat → Prop} {w : World} {k : Int} {b : Bool} {t : Str} {cs : List Value} (h : VRep w (.mk k b t [] []) cs) : VRepP G w (.mk k b t [] []) cs := by
  obtain ⟨sv, kv, T1, T2, L, rfl, h1, h2, h3, h4⟩ := h.out
  simp only [JV.xs, VReps] at h2
  subst h2
  exact VRepP.mk (v := .mk k b t [] []) (L := []) h1 (by simp [JV.xs, VRepsP]) h3 h4 (fun h => absurd rfl h) (fun h => absurd rfl h)
theorem num_le {s : Str} {i c j c' : Nat} {v : JV} (hi : i ≤ s.length) (h : numM En s i c = .ok v j c') : j ≤ s.length := by
  unfold numM at h
  simp only at h
  generalize hf : (if byteM s i = 45 then i + 1 else i) = first at h
  generalize hst : (if byteM s first = 48 then first + 1 else digM s first) = stop at h
  have h1 : first ≤ s.length := by
    rw [← hf]
    split
    · have := byte_lt (s := s) (i := i) (by omega); omega
    · exact hi
  have h2 : stop ≤ s.length := by
    rw [← hst]
    split
    · have := byte_lt (s := s) (i := first) (by omega); omega
    · exact digM_le h1
  split at h
  · cases h
  split at h
  · cases h
  split at h
  · cases h
  cases h
  exact h2
section
variable [HX]
theorem bool_ref {b : Bool} {w : World} {K : Value → World → Prop} (hK : ∀ w', Ext w w' → K (.agg [i64 2, .bool b, str [], .slice none 0 0, .slice none 0 0].toArray) w') : callF Tryz.prog 115 [.bool b] w K := by
  refine W115_ok ?_
  unfold W115
  refine alloc_new fun a w1 ha hz hb hx => ?_
  simp only [put_int, put_bool, put_nil, List.length_cons, List.length_nil, List.set_cons_zero, List.set_cons_succ]
  refine ⟨by omega, by omega, ?_⟩
  exact ret_leaf (l := [i64 2, .bool b, str [], .slice none 0 0, .slice none 0 0]) hb rfl rfl rfl fun w2 hc2 => hK w2 (hx.new hc2 (by omega))
theorem value_ref : ∀ n, VPR n := by
  intro n
  induction n using Nat.strongRecOn with
  | ind n ihs =>
  intro deep i c s w hi hs hc hdeep hn
  obtain ⟨n, rfl⟩ : ∃ m, n = m + 1 := ⟨n - 1, by omega⟩
  have ih : ∀ m, m ≤ n → VPR m := fun m hm => ihs m (by omega)
  refine W55_ok ?_
  unfold W55
  rw [valM]
  refine cel_box fun p w1 hp h1 hx1 => ?_
  refine alloc_new fun b4 w2 hb4 hz2 hbb4 hx2 => ?_
  refine alloc_new fun b5 w3 hb5 hz3 hbb5 hx3 => ?_
  have h3 := (h1.ext hx2).ext hx3
  have hbb4 := hx3.at hbb4 id
  have hlt := h1.lt
  have hx03 : Ext w w3 := (hx1.trans hx2).trans hx3
  have hsz := hx1.size
  refine h3.all ?_
  refine blanks_ref hi (by omega) fun w4 hx4 => ?_
  have hj := blank_le hi
  generalize hjj : blankM s i = j at *
  refine (h3.ext hx4).st fun w5 h5 hc5 _ => ?_
  have hc35 : Chg (Cr p) w3 w5 := (Chg.of_ext hx4).trans hc5
  -- what is handed back
  have two : ∀ {w' : World} {l cs : List Value} {K : Value → World → Prop}, Chg (Cr p) w3 w' → l.length = 5 → l.all one1 = true → cs.length = 5 → cs.all one1 = true → (∀ w'', Ext w w'' → Chg (fun k => k = b4 ∨ k = b5) w' w'' → K (.tuple #[.agg l.toArray, .agg cs.toArray]) w'') →
      stW 5 (.pointer (some ⟨b4, 0, none⟩)) (.agg l.toArray) w' fun w1 => stW 5 (.pointer (some ⟨b5, 0, none⟩)) (.agg cs.toArray) w1 fun w2 => ldW true 5 (.pointer (some ⟨b4, 0, none⟩)) w2 fun r => ldW true 5 (.pointer (some ⟨b5, 0, none⟩)) w2 fun q => K (.tuple #[r, q]) w2 := fun {w' l cs K} hc hl hl1 hcl hc1 hk => by
    refine ret_two (hc.at hbb4 fun e => by have e : b4 = p := e; omega) rfl (hc.at hbb5 fun e => by have e : b5 = p := e; omega) rfl (by omega) hl hl1 hcl hc1 fun w'' hc'' => ?_
    exact hk w'' ((hx03.new hc (by omega)).then hc'' fun k hk e => by omega) hc''
  have own : ∀ {w' w'' : World} {x : JV} {cs : List Value} {B : Nat}, b5 < B → VRepP (From B) w' x cs → Chg (fun k => k = b4 ∨ k = b5) w' w'' → VRepP (From w.heap.size) w'' x cs := fun {w' w'' x cs B} hB hr hc => by
    exact (VRepP.chg hc (fun q hq _ e => by have : B ≤ q := hq; omega) hr).mono fun q _ hq => by have : B ≤ q := hq; show w.heap.size ≤ q; omega
  -- an error
  have err : ∀ {w' : World} {c2 : Nat} {e : Int} {r : RR JV}, r = .bad e j → e ≠ 0 → Cel w' p s j c2 0 0 → Chg (Cr p) w3 w' →
      ldW true 5 (.pointer (some ⟨p, 0, none⟩)) w' fun t19 => fldW 1 (.pointer (some ⟨p, 0, none⟩)) fun t20 => ldW false 1 t20 w' fun t21 => callF Tryz.prog 57 [t19, i64 e, t21] w' fun t22 w11 => putW [(.int .i64 0), (.bool false), (.string (ofL [])), (.slice none 0 0), (.slice none 0 0)] [] fun c12 =>
      stW 5 (.pointer (some ⟨b4, 0, none⟩)) t22 w11 fun w1 => stW 5 (.pointer (some ⟨b5, 0, none⟩)) (.agg c12.toArray) w1 fun w2 => ldW true 5 (.pointer (some ⟨b4, 0, none⟩)) w2 fun q1 => ldW true 5 (.pointer (some ⟨b5, 0, none⟩)) w2 fun q2 => OutR s r w (.tuple #[q1, q2]) w2 := fun {w' c2 e r} hr he h' hc' => by
    refine h'.all ?_
    refine h'.ld rfl ?_
    refine fail_ref fun w9 hx9 => ?_
    rw [if_pos rfl, if_pos rfl, put_nil]
    refine two (hc'.then hx9 fun _ _ e => e.elim) rfl rfl rfl rfl fun w'' hx'' _ => ?_
    exact OutR.bad (x := JV.null) hr he hx'' (null_rep _ _) hj
  refine h5.ld rfl ?_
  rw [bin_neq, decide_eq_false (by simp), condW_false, bin_gtr, condW_dec]
  refine ⟨fun e => ?_, fun hd => ?_⟩
  · rw [if_pos (by omega)]
    exact err rfl (by decide) h5 hc35
  rw [if_neg (by omega)]
  refine h5.ld rfl ?_
  rw [bin_geq, condW_dec]
  refine ⟨fun e => ?_, fun hcn => ?_⟩
  · rw [if_pos (by omega)]
    exact err rfl (by decide) h5 hc35
  rw [if_neg (by omega)]
  refine h5.ld rfl ?_
  rw [bin_add, up1 (by omega)]
  refine h5.st2 fun w6 h6 hc6 _ => ?_
  have hc36 := hc35.trans hc6
  rw [put_str, put_str, put_str, put_nil]
  refine ⟨by simp, by simp, by simp, ?_⟩
  simp only [List.set_cons_zero, List.set_cons_succ]
  have wlen : ∀ {q : Str}, wordM s j q = true → j + q.length ≤ s.length := fun {q} hw => by
    unfold wordM at hw
    have := congrArg List.length (of_decide_eq_true hw)
    rw [List.length_take, List.length_drop] at this
    omega
  generalize hR : (if wordM s j [110, 117, 108, 108] = true then RR.ok JV.null (j + 4) (c + 1) else _) = R
  let ws : List Str := [[110, 117, 108, 108], [116, 114, 117, 101], [102, 97, 108, 115, 101]]
  refine LoopW.go (fun st w' => ∃ k : Nat, k ≤ 3 ∧ st = [i64 (k : Nat)] ∧ Ext w6 w' ∧ ∀ m q, m < k → ws[m]? = some q → wordM s j q = false) (fun st _ => match st with | [.int _ k] => 3 - k.toNat | _ => 0) ⟨0, by omega, rfl, Chg.refl _ _, fun m q hm => by omega⟩ ?_
  rintro st g w7 ⟨k, hk, rfl, hx7, hall⟩
  have h7 := h6.ext hx7
  have hc37 : Chg (Cr p) w3 w7 := hc36.then hx7 fun _ _ e => e.elim
  simp only [List.getD_cons_zero]
  rw [bin_lss, condW_dec]
  refine ⟨fun hk3 => ?_, fun hk3 => ?_⟩
  · have hk3 : k < 3 := by omega
    obtain ⟨q, hq⟩ : ∃ q, ws[k]? = some q := ⟨_, List.getElem?_eq_getElem (show k < ws.length from hk3)⟩
    have hq5 : q.length ≤ 5 := by
      match k, hk3 with
      | 0, _ => cases hq; decide
      | 1, _ => cases hq; decide
      | 2, _ => cases hq; decide
    refine ⟨by omega, by omega, ?_⟩
    refine ⟨str q, ?_, ?_⟩
    · match k, hk3 with
      | 0, _ => cases hq; rfl
      | 1, _ => cases hq; rfl
      | 2, _ => cases hq; rfl
    refine h7.all ?_
    refine word_ref hj (by omega) (by omega) fun w8 hx8 => ?_
    have h8 := h7.ext hx8
    have hc38 : Chg (Cr p) w3 w8 := hc37.then hx8 fun _ _ e => e.elim
    rw [condW_b]
    refine ⟨fun hw => ?_, fun hw => ?_⟩
    · have hl := wlen hw
      have hgo : fldW 1 (.pointer (some ⟨p, 0, none⟩)) fun t43 => ldW false 1 t43 w8 fun t44 => lensW (str q) fun t46 => binW .add t44 t46 fun t47 => fldW 1 (.pointer (some ⟨p, 0, none⟩)) fun t48 => stW 1 t48 t47 w8 (fun w9 => Cel w9 p s (j + q.length) (c + 1) 0 0 ∧ Chg (Cr p) w8 w9) := by
        refine h8.ld rfl ?_
        rw [lens_str]
        rw [bin_add, upk (by omega)]
        exact h8.st1 fun w9 h9 hc9 _ => ⟨h9, hc9⟩
      refine h8.ld rfl ?_
      rw [lens_str, bin_add, upk (by omega)]
      refine h8.st1 fun w9 h9 hc9 _ => ?_
      have hc39 := hc38.trans hc9
      rw [bin_seq, condW_dec]
      refine ⟨fun en => ?_, fun en => ?_⟩
      · subst en
        rw [if_pos hw] at hR
        refine h9.all ?_
        rw [put_nil]
        refine two hc39 rfl rfl rfl rfl fun w'' hx'' _ => ?_
        exact OutR.good (x := JV.null) hR.symm hx'' (null_rep _ _) hl
      · refine h9.drew.all ?_
        rw [bin_seq]
        refine bool_ref fun w10 hx10 => ?_
        have hxd : Ext w9 w9.drew := Chg.drew (Chg.refl (fun _ => False) w9)
        refine ⟨(h9.ext (hxd.trans hx10)).all rfl, ?_⟩
        refine two (hc39.then (hxd.trans hx10) fun _ _ e => e.elim) rfl rfl rfl rfl fun w'' hx'' _ => ?_
        have hrep := fun b => leaf_rep (G := From w.heap.size) (k := 2) (b := b) (t := []) (w := w'') (by simp)
        match k, hk3 with
        | 0, _ => cases hq; exact absurd rfl en
        | 1, _ =>
          cases hq
          have e0 := hall 0 _ (by omega) rfl
          rw [if_neg (by rw [e0]; simp), if_pos hw] at hR
          exact OutR.good hR.symm hx'' (hrep true) hl
        | 2, _ =>
          cases hq
          have e0 := hall 0 _ (by omega) rfl
          have e1 := hall 1 _ (by omega) rfl
          rw [if_neg (by rw [e0]; simp), if_neg (by rw [e1]; simp), if_pos hw] at hR
          exact OutR.good hR.symm hx'' (hrep false) hl
    · rw [bin_add, up1 (by omega)]
      refine ⟨⟨k + 1, by omega, rfl, hx7.trans hx8, fun m q' hm hq' => ?_⟩, by simp only [Int.toNat_natCast]; omega⟩
      rcases Nat.lt_or_ge m k with h | h
      · exact hall m q' h hq'
      · obtain rfl : m = k := by omega
        rw [hq] at hq'
        cases hq'
        exact hw
  obtain rfl : k = 3 := by omega
  have e0 := hall 0 _ (by omega) rfl
  have e1 := hall 1 _ (by omega) rfl
  have e2 := hall 2 _ (by omega) rfl
  rw [if_neg (by rw [e0]; simp), if_neg (by rw [e1]; simp), if_neg (by rw [e2]; simp)] at hR
  clear hall
  refine h7.all ?_
  refine c_ref fun w8 hx8 => ?_
  have h8 := h7.ext hx8
  have hc38 : Chg (Cr p) w3 w8 := hc37.then hx8 fun _ _ e => e.elim
  rw [bin_eql]
  refine GdW.act (isDig (byteM s j)) (fun w' => Ext w8 w') (fun _ => Chg.refl _ _) (fun _ J hJ => ?_) ?_
  · refine h8.all ?_
    refine c_ref fun w9 hx9 => ?_
    refine digit_ref ?_
    exact hJ w9 hx9
  intro g9 w9 hx9
  simp only [List.getD_cons_zero, isB_f]
  rw [pick_gd_or, condW_b]
  have h9 := h8.ext hx9
  have hc39 : Chg (Cr p) w3 w9 := hc38.then hx9 fun _ _ e => e.elim
  have hb5 : ∀ {w' : World}, Chg (Cr p) w3 w' → b5 < w'.heap.size := fun hc => by have := hc.size; omega
  refine ⟨fun e => ?_, fun e => ?_⟩
  · have e : byteM s j = 45 ∨ isDig (byteM s j) = true := by
      rw [Bool.or_eq_true, decide_eq_true_iff] at e
      exact e
    rw [if_pos e] at hR
    refine h9.all ?_
    refine number_ref hj (by omega) (fun v j' c' hv cs w10 hx10 hr10 => ?_) (fun e1 j' hv i' c' v cs w10 he hi' hx10 hr10 => ?_)
    · simp only [ext_tuple]
      refine ⟨_, rfl, _, rfl, ?_⟩
      refine two (hc39.then hx10 fun _ _ e => e.elim) rfl rfl hr10.rep.len hr10.rep.all_one fun w'' hx'' hc'' => ?_
      have hfit : j' ≤ s.length := num_le hj hv
      exact OutR.good (hR.symm.trans hv) hx'' (own (hb5 hc39) hr10 hc'') hfit
    · simp only [ext_tuple]
      refine ⟨_, rfl, _, rfl, ?_⟩
      refine two (hc39.then hx10 fun _ _ e => e.elim) rfl rfl hr10.rep.len hr10.rep.all_one fun w'' hx'' hc'' => ?_
      exact OutR.bad (hR.symm.trans hv) he hx'' (own (hb5 hc39) hr10 hc'') hi'
  have e : ¬ (byteM s j = 45 ∨ isDig (byteM s j) = true) := by
    rw [Bool.or_eq_false_iff, decide_eq_false_iff_not] at e
    rintro (h | h)
    · exact e.1 h
    · rw [e.2] at h; cases h
  rw [if_neg e] at hR
  refine h9.all ?_
  refine c_ref fun w10 hx10 => ?_
  have h10 := h9.ext hx10
  have hc310 : Chg (Cr p) w3 w10 := hc39.then hx10 fun _ _ e => e.elim
  rw [bin_eql, condW_dec]
  refine ⟨fun e34 => ?_, fun e34 => ?_⟩
  · rw [if_pos e34] at hR
    have hltj := byte_lt (s := s) (i := j) (by omega)
    refine h10.all ?_
    refine callF_mono (quoted_out hltj (by omega)) ?_
    rintro v11 w11 ⟨hx11, t, jq, e1, a1, rfl, hjq, htl, hdq⟩
    simp only [ext_tuple]
    refine ⟨_, rfl, _, rfl, ?_⟩
    refine alloc_new fun b8 w12 hb8 hz12 hbb8 hx12 => ?_
    refine st_agg_at (l := SS s jq (c + 1) e1 a1) hbb8 rfl rfl rfl fun w13 hz13 hb8_13 hc13 => ?_
    have hb8d : w13.drew.heap[b8]? = some (.cells (SS s jq (c + 1) e1 a1).toArray StT (0, 0)) := hb8_13
    refine ld_all hb8d rfl ?_
    have hxd : Ext w13 w13.drew := Chg.drew (Chg.refl (fun _ => False) w13)
    refine text_ref (by omega) fun cs w14 hx14 hr14 => ?_
    refine ⟨ld_all (hx14.at hb8d id) rfl rfl, ?_⟩
    have hx1013 : Ext w10 w13 := (hx11.trans hx12).new hc13 (by have := hx11.size; omega)
    refine two (hc310.then (hx1013.trans (hxd.trans hx14)) fun _ _ e => e.elim) rfl rfl hr14.len hr14.all_one fun w'' hx'' hc'' => ?_
    have hrep := own (B := b5 + 1) (by omega) (leaf_of (G := From (b5 + 1)) hr14) hc''
    rcases hdq with ⟨rfl, rfl, hq⟩ | ⟨he, k, rfl, hq⟩
    · rw [hq] at hR
      exact OutR.good hR.symm hx'' hrep hjq
    · rw [hq] at hR
      exact OutR.bad hR.symm he hx'' hrep hjq
  rw [if_neg e34] at hR
  refine h10.all ?_
  refine c_ref fun w11 hx11 => ?_
  have h11 := h10.ext hx11
  have hc311 : Chg (Cr p) w3 w11 := hc310.then hx11 fun _ _ e => e.elim
  rw [bin_eql]
  refine GdW.act (decide (byteM s j = 123)) (fun w' => Ext w11 w') (fun _ => Chg.refl _ _) (fun _ J hJ => ?_) ?_
  · refine h11.all ?_
    refine c_ref fun w12 hx12 => ?_
    rw [bin_eql]
    exact hJ w12 hx12
  intro g12 w12 hx12
  simp only [List.getD_cons_zero, isB_f]
  rw [pick_gd_or, condW_b]
  have h12 := h11.ext hx12
  have hc312 : Chg (Cr p) w3 w12 := hc311.then hx12 fun _ _ e => e.elim
  refine ⟨fun em => ?_, fun em => ?_⟩
  · rw [Bool.or_eq_true, decide_eq_true_iff, decide_eq_true_iff] at em
    have hltj := byte_lt (s := s) (i := j) (by omega)
    have hxd : Ext w12 w12.drew := Chg.drew (Chg.refl (fun _ => False) w12)
    refine h12.drew.all ?_
    refine h12.drew.all ?_
    refine c_ref fun w13 hx13 => ?_
    refine ⟨(h12.drew.ext hx13).all rfl, ?_⟩
    have hc313 : Chg (Cr p) w3 w13 := hc312.then (hxd.trans hx13) fun _ _ e => e.elim
    rw [bin_eql]
    have fin : ∀ {v : Value} {w14 : World}, OutR s R w13 v w14 → extW 0 v fun t95 => extW 1 v fun t96 => stW 5 (.pointer (some ⟨b4, 0, none⟩)) t95 w14 fun w64 => stW 5 (.pointer (some ⟨b5, 0, none⟩)) t96 w64 fun w65 => ldW true 5 (.pointer (some ⟨b4, 0, none⟩)) w65 fun r66 => ldW true 5 (.pointer (some ⟨b5, 0, none⟩)) w65 fun r67 => OutR s R w (.tuple #[r66, r67]) w65 := fun {v w14} ho => by
      obtain ⟨hx14, x, cs, j1, c1, e1, a1, rfl, hr14, hj1, hd1⟩ := ho
      simp only [ext_tuple]
      refine ⟨_, rfl, _, rfl, ?_⟩
      refine two (hc313.then hx14 fun _ _ e => e.elim) rfl rfl hr14.rep.len hr14.rep.all_one fun w'' hx'' hc'' => ?_
      exact ⟨hx'', x, cs, j1, c1, e1, a1, rfl, own (hb5 hc313) hr14 hc'', hj1, hd1⟩
    by_cases e91 : byteM s j = 91
    · rw [if_pos e91] at hR
      rw [decide_eq_false (by omega)]
      refine callF_mono (manyL_ref (n := n) ih hltj hs (by omega) (by omega) (by omega)) fun v w14 ho => ?_
      rw [hR] at ho
      exact fin ho
    · have e123 : byteM s j = 123 := em.resolve_left e91
      rw [if_neg e91, if_pos e123] at hR
      rw [decide_eq_true e123]
      refine callF_mono (manyO_ref (n := n) ih hltj hs (by omega) (by omega) (by omega)) fun v w14 ho => ?_
      rw [hR] at ho
      exact fin ho
  · rw [Bool.or_eq_false_iff, decide_eq_false_iff_not, decide_eq_false_iff_not] at em
    rw [if_neg em.1, if_neg em.2] at hR
    exact err hR.symm (by decide) h12 hc312
end
end Go.Proofs.YtcnjpcadejcenaaGreatDoor
namespace Go.Proofs.YtcnjpcadejcenaaGreatDoor
open Go Go.Eng Go.RowKit
set_option maxRecDepth 100000
section
variable [HX]
theorem decode_ref {s : Str} {w : World} {K : Value → World → Prop} (hok : ∀ v j c, decM En s = .ok v j c → ∀ cs w', Ext w w' → VRep w' v cs → K (.tuple #[.agg cs.toArray, i64 0, i64 0]) w')
    (hbad : ∀ e k, decM En s = .bad e k → e ≠ 0 → ∀ cs w', Ext w w' → VRep w' JV.null cs → K (.tuple #[.agg cs.toArray, i64 e, i64 (k : Nat)]) w') : callF Tryz.prog 19 [str s] w K := by
  refine W19_ok ?_
  unfold W19
  unfold decM at hok hbad
  refine alloc_new fun b2 w1 hb2 hz1 hbb2 hx1 => ?_
  rw [lens_str, bin_gtr, condW_dec]
  refine ⟨fun e => ?_, fun e => ?_⟩
  · rw [if_pos (by omega)] at hbad
    rw [put_nil]
    refine st_agg_at (l := zv) hbb2 rfl rfl rfl fun w3 hz3 hb3 hc3 => ?_
    refine ld_all hb3 rfl ?_
    exact hbad _ _ rfl (by decide) _ w3 (hx1.new hc3 (by omega)) (vrep_null w3)
  rw [if_neg (by omega)] at hok hbad
  rw [put_str, put_nil]
  refine ⟨by simp, ?_⟩
  simp only [List.set_cons_zero]
  refine callF_mono (value_ref 5000 (i := 0) (c := 0) (deep := 1) (Nat.zero_le _) (by omega) (by omega) (by omega) (by omega)) ?_
  rintro v4 w4 ⟨hx4, x, cs, j, c, e1, a1, rfl, hr4, hj, hd⟩
  simp only [ext_tuple]
  refine ⟨_, rfl, _, rfl, ?_⟩
  refine alloc_new fun b5 w5 hb5 hz5 hbb5 hx5 => ?_
  refine alloc_new fun b6 w6 hb6 hz6 hbb6 hx6 => ?_
  have hsz := hx4.size
  refine st_agg_at (l := SS s j c e1 a1) (hx6.at hbb5 id) rfl rfl rfl fun w7 hz7 hb7 hc7 => ?_
  have h7 : Cel w7 b5 s j c e1 a1 := hb7
  refine st_agg_at (hc7.at hbb6 (by omega)) hr4.rep.len rfl hr4.rep.all_one fun w8 hz8 hb8 hc8 => ?_
  have h8 : Cel w8 b5 s j c e1 a1 := h7.chg hc8 (by omega)
  have hch : Chg (fun k => k = b5 ∨ k = b6) w6 w8 := (hc7.mono fun k _ e => .inl e).trans (hc8.mono fun k _ e => .inr e)
  have hx8 : Ext w1 w8 := ((hx4.trans hx5).trans hx6).then hch fun k hk e => by omega
  have hr8 : VRepP (fun q => w1.heap.size ≤ q ∧ q < w4.heap.size) w8 x cs := VRepP.chg hch (fun q hq _ e => by omega) (VRepP.chg hx6 (fun _ _ _ e => e) (VRepP.chg hx5 (fun _ _ _ e => e) (hr4.mono fun q hlt hq => ⟨hq, hlt⟩)))
  have hbb2' := hx8.at hbb2 id
  refine h8.all ?_
  refine blanks_ref hj (by omega) fun w9 hx9 => ?_
  have hle := blank_le hj
  refine (h8.ext hx9).st fun w10 h10 hc10 _ => ?_
  have hc810 : Chg (Cr b5) w8 w10 := (Chg.of_ext hx9).trans hc10
  refine JoinW.cut (fun st w' => ∃ i e a, st = [] ∧ Cel w' b5 s i c e a ∧ Chg (Cr b5) w8 w' ∧ ((e = 0 ∧ decM En s = .ok x j c) ∨ (e ≠ 0 ∧ ∃ k : Nat, a = (k : Int) ∧ decM En s = .bad e k))) ?_ ?_
  · have hdm : decM En s = match valM En s 5000 1 0 0 with | .bad e i => .bad e i | .ok v i c => if blankM s i < s.length then .bad En.json (blankM s i) else .ok v i c := by
      unfold decM
      rw [if_neg (by omega)]
      rfl
    refine h10.ld rfl ?_
    rw [lens_str, bin_lss, condW_dec]
    refine ⟨fun el => ?_, fun el => ?_⟩
    · refine h10.all ?_
      refine h10.ld rfl ?_
      refine fail_ref fun w11 hx11 => ?_
      refine (h10.ext hx11).st fun w12 h12 hc12 _ => ?_
      refine ⟨_, _, _, rfl, h12, (hc810.then hx11 fun _ _ e => e.elim).trans hc12, ?_⟩
      rcases hd with ⟨rfl, rfl, hv⟩ | ⟨he, k, rfl, hv⟩
      · rw [if_pos rfl, if_pos rfl]
        refine .inr ⟨by decide, _, rfl, ?_⟩
        rw [hdm, hv]
        simp only
        rw [if_pos (by omega)]
      · rw [if_neg he, if_neg he]
        refine .inr ⟨he, k, rfl, ?_⟩
        rw [hdm, hv]
    · refine ⟨_, _, _, rfl, h10, hc810, ?_⟩
      rcases hd with ⟨rfl, rfl, hv⟩ | ⟨he, k, rfl, hv⟩
      · refine .inl ⟨rfl, ?_⟩
        rw [hdm, hv]
        simp only
        rw [if_neg (by omega)]
      · refine .inr ⟨he, k, rfl, ?_⟩
        rw [hdm, hv]
  rintro st g w11 ⟨i, e, a, rfl, h11, hc11, hde⟩
  have hdu : decM En s = (if 65536 < s.length then .bad En.long 0 else match valM En s 5000 1 0 0 with | .bad e i => .bad e i | .ok v i c => if blankM s i < s.length then .bad En.json (blankM s i) else .ok v i c) := rfl
  rw [if_neg (by omega)] at hdu
  have hok' : ∀ v j c, decM En s = .ok v j c → ∀ cs w', Ext w w' → VRep w' v cs → K (.tuple #[.agg cs.toArray, i64 0, i64 0]) w' := fun v j c h => hok v j c (hdu.symm.trans h)
  have hbad' : ∀ e k, decM En s = .bad e k → e ≠ 0 → ∀ cs w', Ext w w' → VRep w' JV.null cs → K (.tuple #[.agg cs.toArray, i64 e, i64 (k : Nat)]) w' := fun e k h => hbad e k (hdu.symm.trans h)
  have hbb2_11 := hc11.at hbb2' fun e => by have e : b2 = b5 := e; omega
  have hx11 : Ext w w11 := (hx1.trans hx8).new hc11 (by have := hx1.size; omega)
  have hlt2 : b2 < w1.heap.size := at_lt hbb2
  have s1 := hx1.size
  refine h11.ld rfl ?_
  rw [bin_neq, condW_dec]
  rcases hde with ⟨rfl, hdm⟩ | ⟨he, k, rfl, hdm⟩
  · refine ⟨fun h => absurd rfl h, fun _ => ?_⟩
    have hb6_11 := hc11.at hb8 fun e => by have e : b6 = b5 := e; omega
    have hr11 := VRepP.chg hc11 (fun q hq _ e => by have e : q = b5 := e; omega) hr8
    refine ld_all hb6_11 hr11.rep.len ?_
    refine st_agg_at hbb2_11 hr11.rep.len rfl hr11.rep.all_one fun w12 hz12 hb12 hc12 => ?_
    refine ld_all hb12 hr11.rep.len ?_
    exact hok' _ _ _ hdm _ w12 (hx11.new hc12 (by omega)) (VRepP.chg hc12 (fun q hq _ e => by omega) hr11).rep
  · refine ⟨fun _ => ?_, fun h => absurd he h⟩
    rw [put_nil]
    refine h11.drew.ld rfl ?_
    refine h11.drew.ld rfl ?_
    have hxd : Ext w11 w11.drew := Chg.drew (Chg.refl (fun _ => False) w11)
    refine st_agg_at (l := zv) (show w11.drew.heap[b2]? = _ from hbb2_11) rfl rfl rfl fun w12 hz12 hb12 hc12 => ?_
    have h12 : Cel w12 b5 s i c e k := h11.drew.chg hc12 (by omega)
    have look : ∀ {off : Nat} {v : Value} {K : Value → Prop}, (SS s i c e k)[off]? = some v → K v → ldW false 1 (.pointer (some ((⟨b5, 0, none⟩ : Addr).add off))) w12 K := fun {off v K} hv hk => by
      have := h12.ld (K := K) hv hk
      rw [fld_ptr] at this
      exact this
    refine ⟨look rfl rfl, look rfl rfl, ?_⟩
    refine ld_all hb12 rfl ?_
    exact hbad' _ _ hdm he _ w12 ((hx11.trans hxd).new hc12 (by omega)) (vrep_null w12)
theorem reads_true {s : Str} {w : World} {K : Value → World → Prop} (hT : TabJ w) (hs : s.length ≤ 9223372036854775807) (hK : ∀ w', Ext w w' → K (.bool true) w') : callF Tryz.prog 4 [str s] w K := by
  refine W4_ok ?_
  unfold W4
  refine awake_j hT fun w1 hx1 => ?_
  rw [un_not, Bool.not_true, condW_false]
  refine decode_r (hT.ext hx1) hs fun cs d w2 hx2 hr2 hd2 => ?_
  simp only [ext_tuple]
  refine ⟨_, rfl, _, rfl, ?_⟩
  refine keep_val hr2 fun b w4 sv kv hB4 hx4 => ?_
  have fin : ∀ {v : JV} {code at_ : Int} {cs2 : List Value} {w5 : World}, v = valR (decM En s) → isM (decM En s) code at_ = true → Ext w4 w5 → VRep w5 v cs2 →
      extW 0 (.tuple #[.agg cs2.toArray, i64 code, i64 at_]) fun t18 => extW 1 (.tuple #[.agg cs2.toArray, i64 code, i64 at_]) fun t19 => extW 2 (.tuple #[.agg cs2.toArray, i64 code, i64 at_]) fun t20 =>
      allocW VT [(.int .i64 0), (.bool false), (.string (ofL [])), (.slice none 0 0), (.slice none 0 0)] w5 fun t5 w6 => stW 5 t5 t18 w6 fun w7 =>
      callF Tryz.prog 20 [d, t19, t20] w7 fun t24 w8 =>
      GdW (isB t24 true) [undef] w8 (fun J9 => ldW true 5 (.pointer (some ⟨b, 0, none⟩)) w8 fun t26 => ldW true 5 t5 w8 fun t27 => callF Tryz.prog 21 [t26, t27] w8 fun t28 w10 => J9 [t28] w10)
      fun s9 _ w11 => pickW t24 (s9.getD 0 undef) (.bool false) fun t29 => K t29 w11 := fun {v code at_ cs2 w5} hv his hx5 hr5 => by
    simp only [ext_tuple]
    refine ⟨_, rfl, _, rfl, _, rfl, ?_⟩
    refine keep_val hr5 fun b2 w7 sv2 kv2 hB7 hx7 => ?_
    have hx27 := hx4.trans (hx5.trans hx7)
    refine is_p (hd2.ext hx27) ?_
    rw [his]
    refine GdW.act true (fun w' => Ext w7 w') (fun e => by cases e) (fun _ J hJ => ?_) ?_
    · refine (hB4.ext (hx5.trans hx7)).ld fun cs3 h3 => ?_
      refine hB7.ld fun cs4 h4 => ?_
      subst hv
      refine same_ref _ h3 h4 fun w8 hx8 => ?_
      rw [(same_iff _ _).2 rfl]
      exact hJ w8 hx8
    intro g w8 hx8
    simp only [cond_true, List.getD_cons_zero, pick_t]
    exact hK w8 ((hx1.trans hx2).trans (hx27.trans hx8))
  refine decode_ref (fun v j c hv cs2 w5 hx5 hr5 => ?_) (fun e k hv he cs2 w5 hx5 hr5 => ?_)
  · exact fin (by rw [hv]; rfl) (by rw [hv]; rfl) hx5 hr5
  · exact fin (by rw [hv]; rfl) (by rw [hv]; simp [isM, he]) hx5 hr5
end
end Go.Proofs.YtcnjpcadejcenaaGreatDoor
namespace Go.Eng
open Go Go.Deep
theorem flat_len {k : Nat} : ∀ (L : List (List Value)), (∀ z ∈ L, z.length = k) → L.flatten.length = L.length * k
  | [], _ => by simp
  | z :: L, hl => by
    rw [List.flatten_cons, List.length_append, flat_len L fun u hu => hl u (List.mem_cons_of_mem _ hu), hl z List.mem_cons_self, List.length_cons, Nat.add_mul]
    omega
section
variable {H : Type} {enc : TypeId × Value → H} {P : Program} {w : World} {base : Nat} {spare : Nat → Bool} {held : Bool}
end
end Go.Eng
namespace Go.Proofs.YtcnjpcadejcenaaGreatDoor
open Go Go.Eng Go.Num Go.Deep
set_option maxRecDepth 100000
instance : Inhabited JV := ⟨JV.null⟩
section
variable {H : Type} {enc : TypeId × Value → H} {w : World} {base : Nat} {spare : Nat → Bool} {held : Bool}
end
end Go.Proofs.YtcnjpcadejcenaaGreatDoor
namespace Go.Proofs.YtcnjpcadejcenaaGreatDoor
open Go.RowKit Go.Eng
set_option maxRecDepth 100000
theorem tab_reads {P : Program} {w : World} {name : String} {k : IntKind} {zs : List Int} {g : Nat} {t e : TypeId} {n : Nat} (hg : P.globalNamed name = some g) (hty : (P.globals[g]?).map (·.type) = some t) (ht : P.underlying t = some (.array n e)) (he : P.underlying e = some (.int k)) (hce : P.cellsOf e = 1) (hct : P.cellsOf t = n)
    (h : Lib.VarReads P w name (Lib.tabData k zs)) : Lib.TabIs P w name k zs := by
  obtain ⟨g', t', cs, fuel, p, hg', ht', hvar, hd⟩ := h
  obtain rfl := Option.some.inj (hg.symm.trans hg')
  obtain rfl := Option.some.inj (hty.symm.trans ht')
  unfold Lib.TabIs
  rw [hvar, ← Lib.cells_of_tab ht he hce hct hd]
def bruTab : List Int := [0, 1, 56, 2, 57, 49, 28, 3, 61, 58, 42, 50, 38, 29, 17, 4, 62, 47, 59, 36, 45, 43, 51, 22, 53, 39, 33, 30, 24, 18, 12, 5, 63, 55, 48, 27, 60, 41, 37, 16, 46, 35, 44, 21, 52, 32, 23, 11, 54, 26, 40, 15, 34, 20, 31, 10, 25, 14, 19, 9, 13, 8, 7, 6]
theorem tabs_of {w : World} (hL : laidMetH Tryz.prog Rows.reportPlacesRow.laid w) : Tabs w := by
  have h : laidMet Tryz.prog Rows.reportPlacesRow.laid w := by
    rw [Go.MakeChecks.laidMetH_plain _ _ _ (by kernel_rfl)] at hL
    exact hL
  have r : ∀ n d, (n, d) ∈ Rows.reportPlacesRow.laid → Lib.VarReads Tryz.prog w n d := fun n d hm => Lib.laidMet.reads h hm
  have r1 : Lib.VarReads Tryz.prog w "math/bits.deBruijn64tab" (Lib.tabData .u8 bruTab) := r _ _ (.tail _ (.head _))
  have r2 : Lib.VarReads Tryz.prog w "internal/strconv.uint64pow10" (Lib.tabData .u64 Lib.pow10Tab) := r _ _ (.tail _ (.tail _ (.head _)))
  have r3 : Lib.VarReads Tryz.prog w "unicode/utf8.acceptRanges" Lib.acceptData := r _ _ (.tail _ (.tail _ (.tail _ (.head _))))
  have r4 : Lib.VarReads Tryz.prog w "unicode/utf8.first" Lib.firstData := r _ _ (.tail _ (.tail _ (.tail _ (.tail _ (.tail _ (.tail _ (.head _)))))))
  refine ⟨?_, ?_, ?_⟩
  · exact Go.Proofs.utf8Tabs_of_readsT (Go.Proofs.U8Types.of196 Tryz.laysValid) ⟨by kernel_rfl, by kernel_rfl, by kernel_rfl, by kernel_rfl, by kernel_rfl, by kernel_rfl, by kernel_rfl⟩ r4 r3
  · have := tab_reads (g := 7) (t := 263) (e := U8) (n := 64) (by kernel_rfl) (by kernel_rfl) (by kernel_rfl) (by kernel_rfl) (by kernel_rfl) (by kernel_rfl) r1
    exact Lib.TabIs.cell this (by kernel_rfl) 15 (by decide)
  · exact tab_reads (g := 3) (t := 224) (e := U64) (n := 20) (by kernel_rfl) (by kernel_rfl) (by kernel_rfl) (by kernel_rfl) (by kernel_rfl) (by kernel_rfl) r2
section
variable {H : Type} {enc : TypeId × Value → H} {w : World} {base : Nat} {spare : Nat → Bool} {held : Bool}
theorem open_s {v : Value} {d : DataW H} {ps : List MemPlace} {r : Reach} {b0 : Nat} (hval : Value.okWide Tryz.prog w r b0 9 v) (h : DataW.Trod enc Tryz.prog w base spare held 9 v d ps) : ∃ s : Str, v = str s ∧ s.length ≤ 9223372036854775807 := by
  obtain ⟨s, rfl, _, _, hs⟩ := Go.ChangeMaps.open_string Tryz.underlying9 hval h
  exact ⟨s.data.toList, by simp [ofL], by unfold maxLen at hs; simpa using hs⟩
end
end Go.Proofs.YtcnjpcadejcenaaGreatDoor
namespace Go.Proofs.YtcnjpcadejcenaaGreatDoor
open Go.RowKit Go.Eng
set_option maxRecDepth 100000
theorem trod_iface {P : Program} {w : World} {fuel : Nat} {t : TypeId} {cs : List Value} {s : String} {x : DataW Unit} {p : List MemPlace} {m : Array TypeId} (ht : ∃ m, P.underlying t = some (.interface m)) (h : DataW.trod (fun _ => ()) P w 0 (fun _ => true) false fuel t cs = some (.iface s x, p)) : ∃ u v, cs = [.iface u v] := by
  obtain ⟨m, ht⟩ := ht
  cases fuel with
  | zero => cases h
  | succ fuel =>
    unfold DataW.trod at h
    rw [ht] at h
    match cs, h with
    | [], h => cases h
    | [v], h =>
      cases v with
      | iface u v => exact ⟨u, v, rfl⟩
      | _ => cases h
    | a :: b :: r, h => simp at h
theorem tabe_of {w : World} {x : DataW Unit} {s : String} (h : Lib.VarReads Tryz.prog w "strconv.ErrSyntax" (.iface s x)) : TabE w := by
  obtain ⟨g', t', cs, fuel, p, hg', ht', hvar, hd⟩ := h
  have hg : Tryz.prog.globalNamed "strconv.ErrSyntax" = some 4 := by kernel_rfl
  have hty : (Tryz.prog.globals[4]?).map (·.type) = some 111 := by kernel_rfl
  obtain rfl := Option.some.inj (hg.symm.trans hg')
  obtain rfl := Option.some.inj (hty.symm.trans ht')
  obtain ⟨u, v, hcs⟩ := trod_iface (m := #[]) ⟨_, Tryz.underlying111⟩ hd
  have := World.var?_cell hg hvar 0
  refine ⟨u, v, ?_⟩
  rw [this]
  have e : cs = #[.iface u v] := by
    apply Array.ext'
    rw [hcs]
  rw [e]; rfl
theorem tabsj_of {w : World} (hL : laidMetH Tryz.prog Rows.jsoncBackRow.laid w) : TabJ w := by
  have h : laidMet Tryz.prog Rows.jsoncBackRow.laid w := by
    rw [Go.MakeChecks.laidMetH_plain _ _ _ (by kernel_rfl)] at hL
    exact hL
  have r : ∀ n d, (n, d) ∈ Rows.jsoncBackRow.laid → Lib.VarReads Tryz.prog w n d := fun n d hm => Lib.laidMet.reads h hm
  have hT := tabs_of (w := w) hL
  have r5 : Lib.VarReads Tryz.prog w "strconv.ErrSyntax" Rows.laid_strconv_ErrSyntax := r _ _ (.tail _ (.tail _ (.tail _ (.tail _ (.tail _ (.head _))))))
  exact ⟨hT.utf, hT.bru, tabe_of r5⟩
section
variable {H : Type} {enc : TypeId × Value → H} {w : World} {base : Nat} {spare : Nat → Bool} {held : Bool}
end
end Go.Proofs.YtcnjpcadejcenaaGreatDoor
