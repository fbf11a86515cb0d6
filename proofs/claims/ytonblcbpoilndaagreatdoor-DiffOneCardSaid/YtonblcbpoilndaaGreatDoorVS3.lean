/- One plain sentence: contracts of the document's answer for values: what is made. Conditions: those that each states. -/
import Derived.Test.YtonblcbpoilndaaGreatDoorVS2
set_option linter.all false
set_option linter.unusedSimpArgs false
set_option linter.unusedVariables false
set_option linter.unusedSectionVars false
namespace Go.Proofs.YtonblcbpoilndaaGreatDoor
open Go Go.Eng Go.Num
set_option maxRecDepth 100000
abbrev ST : TypeId := 9
theorem elem_s : ElemT Tryz.prog 33 ST 1 16 := ⟨by kernel_rfl, by kernel_rfl, by decide⟩
theorem elem_v : ElemT Tryz.prog 47 VT 5 80 := ⟨by kernel_rfl, by kernel_rfl, by decide⟩
abbrev zv : List Value := [i64 0, .bool false, str [], .slice none 0 0, .slice none 0 0]
abbrev ptr (b : Nat) : Value := .pointer (some ⟨b, 0, none⟩)

/-- an object that grows in block b: the block holds (sv0, kv0), the lists are (sv, kv) by now -/
structure Grow (w0 w : World) (b base : Nat) (sv0 kv0 sv kv : Value) (xs : List JV) (ks : List Str) : Prop where
  ext : Ext w0 w
  hb : w.heap[b]? = some (.cells [i64 6, .bool false, str [], sv0, kv0].toArray VT (0, 0))
  low : w0.heap.size ≤ b
  lt : b < base
  le : base ≤ w.heap.size
  items : ∃ L, Own w base VT 5 sv xs.length L ∧ VReps w0 xs L
  keys : Own w base ST 1 kv ks.length (ks.map str)
theorem Grow.more {w0 w w' : World} {b base : Nat} {sv0 kv0 sv kv : Value} {xs : List JV} {ks : List Str} (h : Grow w0 w b base sv0 kv0 sv kv xs ks) (hx : Ext w w') : Grow w0 w' b base sv0 kv0 sv kv xs ks :=
  ⟨h.ext.trans hx, hx.at h.hb id, h.low, h.lt, Nat.le_trans h.le hx.size, let ⟨L, h1, h2⟩ := h.items; ⟨L, h1.ext hx, h2⟩, h.keys.ext hx⟩
theorem Grow.chg {w0 w w' : World} {b b' base : Nat} {sv0 kv0 sv kv : Value} {xs : List JV} {ks : List Str} (h : Grow w0 w b base sv0 kv0 sv kv xs ks) (hc : Chg (fun k => k = b') w w') (h1 : b' ≠ b) (h2 : b' < base) (h3 : w0.heap.size ≤ b') : Grow w0 w' b base sv0 kv0 sv kv xs ks :=
  ⟨h.ext.new hc h3, hc.at h.hb (fun e => h1 e.symm), h.low, h.lt, Nat.le_trans h.le hc.size, let ⟨L, g1, g2⟩ := h.items; ⟨L, g1.chg hc fun k hk e => by have := hk.1; omega, g2⟩, h.keys.chg hc fun k hk e => by have := hk.1; omega⟩
theorem own_ge {w : World} {base : Nat} {e : TypeId} {size : Nat} {v : Value} {n : Nat} {xs : List Value} (h : Own w base e size v n xs) {k : Nat} (hk : v.ownBlock = some k) : base ≤ k ∧ ∃ c, w.heap[k]? = some (.cells c e (0, 0)) := h.block k hk
theorem Grow.appk {w0 w : World} {b base : Nat} {sv0 kv0 sv kv t : Value} {xs : List JV} {ks : List Str} {x : Str} {T : TypeId} {K : Value → World → Prop} (h : Grow w0 w b base sv0 kv0 sv kv xs ks) (ht : SlAt w T t 1 [str x]) (hl : ks.length ≤ 1000000)
    (hK : ∀ kv' w', Grow w0 w' b base sv0 kv0 sv kv' xs (ks ++ [x]) → Chg (fun k => base ≤ k) w w' → K kv' w') : semE Tryz.prog (Builtin.append_ #[33, 33] 33 #[kv, t]) w K := by
  refine append_own2 elem_s h.keys ht (m := 1) rfl (fun u hu => by simp only [List.mem_singleton] at hu; subst hu; rfl) (by omega) (by omega) h.le fun v' w' h' hc _ => ?_
  refine hK v' w' ⟨h.ext.then hc fun k hk e => ?_, hc.at h.hb fun e => ?_, h.low, h.lt, Nat.le_trans h.le hc.size, ?_, by simpa using h'⟩ (hc.mono fun k _ e => (own_ge h.keys e).1)
  · have := (own_ge h.keys e).1; have := h.low; have := h.lt; omega
  · have := (own_ge h.keys e).1; have := h.lt; omega
  · obtain ⟨L, h1, h2⟩ := h.items
    refine ⟨L, h1.chg hc fun k hk e => ?_, h2⟩
    obtain ⟨_, c, hc1⟩ := hk
    obtain ⟨_, c', hc2⟩ := own_ge h.keys e
    rw [hc1] at hc2; cases hc2
theorem Grow.appx {w0 w : World} {b base : Nat} {sv0 kv0 sv kv t : Value} {xs : List JV} {ks : List Str} {x : JV} {cs : List Value} {T : TypeId} {K : Value → World → Prop} (h : Grow w0 w b base sv0 kv0 sv kv xs ks) (ht : SlAt w T t 1 cs) (hx : VRep w0 x cs) (hl : xs.length ≤ 1000000)
    (hK : ∀ sv' w', Grow w0 w' b base sv0 kv0 sv' kv (xs ++ [x]) ks → Chg (fun k => base ≤ k) w w' → K sv' w') : semE Tryz.prog (Builtin.append_ #[47, 47] 47 #[sv, t]) w K := by
  obtain ⟨L, h1, h2⟩ := h.items
  refine append_own2 elem_v h1 ht (m := 1) (by rw [hx.len]) hx.one (by omega) (by omega) h.le fun v' w' h' hc _ => ?_
  refine hK v' w' ⟨h.ext.then hc fun k hk e => ?_, hc.at h.hb fun e => ?_, h.low, h.lt, Nat.le_trans h.le hc.size, ⟨L ++ cs, by simpa using h', h2.snoc hx⟩, h.keys.chg hc fun k hk e => ?_⟩ (hc.mono fun k _ e => (own_ge h1 e).1)
  · have := (own_ge h1 e).1; have := h.low; have := h.lt; omega
  · have := (own_ge h1 e).1; have := h.lt; omega
  · obtain ⟨_, c, hc1⟩ := hk
    obtain ⟨_, c', hc2⟩ := own_ge h1 e
    rw [hc1] at hc2; cases hc2
theorem Grow.set {w0 w : World} {b base off : Nat} {sv0 kv0 sv kv v sv1 kv1 : Value} {xs : List JV} {ks : List Str} {K : World → Prop} (h : Grow w0 w b base sv0 kv0 sv kv xs ks) (h1 : one1 v = true) (ho : off < 5)
    (he : ([i64 6, .bool false, str [], sv0, kv0] : List Value).set off v = [i64 6, .bool false, str [], sv1, kv1]) (hK : ∀ w', Grow w0 w' b base sv1 kv1 sv kv xs ks → Chg (fun k => k = b) w w' → K w') : stW 1 (.pointer (some ⟨b, off, none⟩)) v w K := by
  refine st_at h.hb h1 (by simpa using ho) fun w' hz hb' hc => ?_
  refine hK w' ⟨h.ext.new hc h.low, ?_, h.low, h.lt, by rw [hz]; exact h.le, ?_, h.keys.chg hc fun k hk e => ?_⟩ hc
  · rw [hb', ← he]; simp
  · obtain ⟨L, h1, h2⟩ := h.items
    exact ⟨L, h1.chg hc fun k hk e => by have := hk.1; have := h.lt; omega, h2⟩
  · have := hk.1; have := h.lt; omega
theorem Grow.one {w0 w : World} {b base : Nat} {sv0 kv0 sv kv : Value} {xs : List JV} {ks : List Str} (h : Grow w0 w b base sv0 kv0 sv kv xs ks) : one1 sv = true ∧ one1 kv = true := by
  obtain ⟨L, h1, _⟩ := h.items
  obtain ⟨p, c, rfl, _⟩ := h1.sl.shape
  obtain ⟨p', c', rfl, _⟩ := h.keys.sl.shape
  exact ⟨rfl, rfl⟩

/-- the blocks below base stay, but for g -/
abbrev Low (g base : Nat) (w w' : World) : Prop := Chg (fun k => k = g ∨ base ≤ k) w w'
theorem low_ext {g base : Nat} {w w1 w2 : World} (h1 : Low g base w w1) (h2 : Ext w1 w2) : Low g base w w2 := h1.trans (Chg.of_ext h2)
theorem low_step {g base : Nat} {w w1 w2 : World} (h1 : Low g base w w1) (h2 : Chg (fun k => base ≤ k) w1 w2) : Low g base w w2 := h1.trans (h2.mono fun k _ e => .inr e)
theorem low_set {g base : Nat} {w w1 w2 : World} (h1 : Low g base w w1) (h2 : Chg (fun k => k = g) w1 w2) : Low g base w w2 := h1.trans (h2.mono fun k _ e => .inl e)
theorem low_get {g base : Nat} {w w1 : World} (h1 : Low g base w w1) {j : Nat} (hj : j < base) (hg : j ≠ g) {o : Obj} (h : w.heap[j]? = some o) : w1.heap[j]? = some o := h1.at h (by omega)
theorem low_new {g base : Nat} {w w1 w2 : World} (h1 : Ext w w1) (hg : w.heap.size ≤ g) (hb : w.heap.size ≤ base) (h2 : Low g base w1 w2) : Ext w w2 := h1.then h2 fun k hk e => by omega
/-- an object whose lists are the call's own -/
structure OwnV (w0 w : World) (base : Nat) (v : JV) (sv kv : Value) : Prop where
  items : ∃ L, Own w base VT 5 sv v.xs.length L ∧ VReps w0 v.xs L
  keys : Own w base ST 1 kv v.ks.length (v.ks.map str)
  fits : Fits v.xs.length v.ks v.t
theorem OwnV.chg {w0 w w' : World} {base : Nat} {v : JV} {sv kv : Value} {S : Nat → Prop} (h : OwnV w0 w base v sv kv) (hc : Chg S w w') (hS : ∀ k, base ≤ k → k < w.heap.size → ¬ S k) : OwnV w0 w' base v sv kv :=
  ⟨let ⟨L, h1, h2⟩ := h.items; ⟨L, h1.chg hc fun k hk => hS k hk.1 (by obtain ⟨_, c, hk⟩ := hk; exact at_lt hk), h2⟩, h.keys.chg hc fun k hk => hS k hk.1 (by obtain ⟨_, c, hk⟩ := hk; exact at_lt hk), h.fits⟩
theorem OwnV.one {w0 w : World} {base : Nat} {v : JV} {sv kv : Value} (h : OwnV w0 w base v sv kv) : one1 sv = true ∧ one1 kv = true := by
  obtain ⟨L, h1, _⟩ := h.items
  obtain ⟨p, c, rfl, _⟩ := h1.sl.shape
  obtain ⟨p', c', rfl, _⟩ := h.keys.sl.shape
  exact ⟨rfl, rfl⟩
theorem OwnV.val {w0 w : World} {base : Nat} {v : JV} {sv kv : Value} (h : OwnV w0 w base v sv kv) : VRepS w0 w v [i64 v.k, .bool v.b, str v.t, sv, kv] := by
  obtain ⟨L, h1, h2⟩ := h.items
  exact ⟨sv, kv, VT, ST, L, rfl, h1.sl, h2, h.keys.sl, h.fits⟩
theorem Grow.own {w0 w : World} {b base : Nat} {sv kv : Value} {l : List (Str × JV)} (h : Grow w0 w b base sv kv sv kv (l.map (·.2)) (l.map (·.1))) (hl : l.length ≤ 1000000) (hk : ∀ p ∈ l, p.1.length ≤ 9223372036854775807) : OwnV w0 w base (mkO l) sv kv := by
  refine ⟨h.items, h.keys, ?_, ?_, ?_, ?_⟩
  · simp only [mkO, JV.xs, List.length_map]; omega
  · simp only [mkO, JV.ks, List.length_map]; omega
  · simp [mkO, JV.t]
  · intro s hs
    simp only [mkO, JV.ks, List.mem_map] at hs
    obtain ⟨p, hp, rfl⟩ := hs
    exact hk p hp
theorem Grow.rebase {w0 w : World} {b base base' : Nat} (h : Grow w0 w b base (.slice none 0 0) (.slice none 0 0) (.slice none 0 0) (.slice none 0 0) [] []) (h1 : b < base') (h2 : base' ≤ w.heap.size) : Grow w0 w b base' (.slice none 0 0) (.slice none 0 0) (.slice none 0 0) (.slice none 0 0) [] [] :=
  ⟨h.ext, h.hb, h.low, h1, h2, ⟨[], ⟨rfl, .inl ⟨rfl, rfl⟩⟩, by simp [VReps]⟩, ⟨rfl, .inl ⟨rfl, rfl⟩⟩⟩
/-- one text, or one value, as a row -/
theorem row_s {w : World} {x : Str} {K : Value → World → Prop} (hK : ∀ t w', SlAt w' ST t 1 [str x] → Ext w w' → K t w') : bslW ST 1 [.string (ofL [])] [(0, 1, str x)] w K := by
  unfold bslW
  simp only [wsv, wsg, wsh, wsl, cond_true, cond_false, exists_eq_left', Option.some.injEq, Option.isSome_some, List.getElem?_toArray, List.getElem?_cons_zero, List.getElem?_cons_succ, List.length_cons, List.length_nil, List.set_cons_zero, List.set_cons_succ, List.getD_cons_zero, List.getD_cons_succ, Nat.zero_add, Nat.add_zero, Nat.reduceAdd, Nat.reduceLT, Nat.lt_add_one, Nat.zero_lt_succ, decide_true, decide_false, ne_eq, reduceCtorEq]
  exact hK _ _ (own_new (w := w) (base := w.heap.size) (e := ST) (size := 1) (n := 1) (cs := [str x]) (Nat.le_refl _) rfl (by omega)).sl (by repeat (first | assumption | exact Chg.refl _ _ | refine Chg.drew ?_ | refine Chg.alloc ?_ _ | refine Chg.set ?_ (by first | exact .inl rfl | exact .inr (by omega) | exact .inr (by simp only [size_set, size_alloc, size_drew]; omega) | (left; simp; done)) _ | exact Chg.of_ext (by assumption)))
theorem row_v {w : World} {cs : List Value} {K : Value → World → Prop} (hc : cs.length = 5) (hK : ∀ t w', SlAt w' VT t 1 cs → Ext w w' → K t w') : bslW VT 1 [(.int .i64 0), (.bool false), (.string (ofL [])), (.slice none 0 0), (.slice none 0 0)] [(0, 5, .agg cs.toArray)] w K := by
  unfold bslW
  have hp : ∀ K : List Value → Prop, K cs → putW [(.int .i64 0), (.bool false), (.string (ofL [])), (.slice none 0 0), (.slice none 0 0)] [(0, 5, .agg cs.toArray)] K := by
    intro K hK
    refine ⟨by simp [Value.cells, hc], by simp, ?_⟩
    have : List.take 0 [(Value.int .i64 0), (.bool false), (.string (ofL [])), (.slice none 0 0), (.slice none 0 0)] ++ ((Value.agg cs.toArray).cells.toList ++ List.drop (0 + 5) [(Value.int .i64 0), (.bool false), (.string (ofL [])), (.slice none 0 0), (.slice none 0 0)]) = cs := by simp [Value.cells]
    rw [this]
    exact hK
  refine hp _ ?_
  exact hK _ _ (own_new (w := w) (base := w.heap.size) (e := VT) (size := 5) (n := 1) (cs := cs) (Nat.le_refl _) (by omega) (by omega)).sl (by repeat (first | assumption | exact Chg.refl _ _ | refine Chg.drew ?_ | refine Chg.alloc ?_ _ | refine Chg.set ?_ (by first | exact .inl rfl | exact .inr (by omega) | exact .inr (by simp only [size_set, size_alloc, size_drew]; omega) | (left; simp; done)) _ | exact Chg.of_ext (by assumption)))
theorem grow_key {w0 w : World} {g base : Nat} {sv kv : Value} {xs : List JV} {ks : List Str} {x : Str} {K : World → Prop} (G : Grow w0 w g base sv kv sv kv xs ks) (hl : ks.length ≤ 1000000)
    (hK : ∀ kv' w', Grow w0 w' g base sv kv' sv kv' xs (ks ++ [x]) → Low g base w w' → K w') :
    bslW ST 1 [.string (ofL [])] [(0, 1, str x)] w fun t w1 => semE Tryz.prog (Builtin.append_ #[33, 33] 33 #[kv, t]) w1 fun t2 w2 => stW 1 (.pointer (some ⟨g, 4, none⟩)) t2 w2 K := by
  refine row_s fun t6 w6 ht6 hx6 => ?_
  refine (G.more hx6).appk ht6 hl fun kv2 w7 G7 hb7 => ?_
  refine G7.set (sv1 := sv) (kv1 := kv2) G7.one.2 (by omega) rfl fun w8 G8 hb8 => ?_
  exact hK kv2 w8 G8 (low_set (low_step (Chg.of_ext hx6) hb7) hb8)
theorem grow_key' {w0 w : World} {g base : Nat} {sv kv : Value} {xs : List JV} {ks : List Str} {x : Str} {K : World → Prop} (G : Grow w0 w g base sv kv sv kv xs ks) (hl : ks.length ≤ 1000000)
    (hK : ∀ kv' w', Grow w0 w' g base sv kv' sv kv' xs (ks ++ [x]) → Low g base w w' → K w') :
    bslW ST 1 [.string (ofL [])] [(0, 1, str x)] w fun t w1 => (∃ v, cellO w1.heap[g]? 4 = some v ∧ v = kv) ∧ semE Tryz.prog (Builtin.append_ #[33, 33] 33 #[kv, t]) w1 fun t2 w2 => stW 1 (.pointer (some ⟨g, 4, none⟩)) t2 w2 K := by
  refine row_s fun t6 w6 ht6 hx6 => ⟨⟨kv, by rw [(G.more hx6).hb]; rfl, rfl⟩, ?_⟩
  refine (G.more hx6).appk ht6 hl fun kv2 w7 G7 hb7 => ?_
  refine G7.set (sv1 := sv) (kv1 := kv2) G7.one.2 (by omega) rfl fun w8 G8 hb8 => ?_
  exact hK kv2 w8 G8 (low_set (low_step (Chg.of_ext hx6) hb7) hb8)
theorem grow_item {w0 w : World} {g base : Nat} {sv kv : Value} {xs : List JV} {ks : List Str} {x : JV} {cs : List Value} {K : World → Prop} (G : Grow w0 w g base sv kv sv kv xs ks) (hx : VRep w0 x cs) (hl : xs.length ≤ 1000000)
    (hK : ∀ sv' w', Grow w0 w' g base sv' kv sv' kv (xs ++ [x]) ks → Low g base w w' → K w') :
    bslW VT 1 [(.int .i64 0), (.bool false), (.string (ofL [])), (.slice none 0 0), (.slice none 0 0)] [(0, 5, .agg cs.toArray)] w fun t w1 => semE Tryz.prog (Builtin.append_ #[47, 47] 47 #[sv, t]) w1 fun t2 w2 => stW 1 (.pointer (some ⟨g, 3, none⟩)) t2 w2 K := by
  refine row_v hx.len fun t6 w6 ht6 hx6 => ?_
  refine (G.more hx6).appx ht6 hx hl fun sv2 w7 G7 hb7 => ?_
  refine G7.set (sv1 := sv2) (kv1 := kv) G7.one.1 (by omega) rfl fun w8 G8 hb8 => ?_
  exact hK sv2 w8 G8 (low_set (low_step (Chg.of_ext hx6) hb7) hb8)
theorem grow_item' {w0 w : World} {g base : Nat} {sv kv : Value} {xs : List JV} {ks : List Str} {x : JV} {cs : List Value} {K : World → Prop} (G : Grow w0 w g base sv kv sv kv xs ks) (hx : VRep w0 x cs) (hl : xs.length ≤ 1000000)
    (hK : ∀ sv' w', Grow w0 w' g base sv' kv sv' kv (xs ++ [x]) ks → Low g base w w' → K w') :
    bslW VT 1 [(.int .i64 0), (.bool false), (.string (ofL [])), (.slice none 0 0), (.slice none 0 0)] [(0, 5, .agg cs.toArray)] w fun t w1 => (∃ v, cellO w1.heap[g]? 3 = some v ∧ v = sv) ∧ semE Tryz.prog (Builtin.append_ #[47, 47] 47 #[sv, t]) w1 fun t2 w2 => stW 1 (.pointer (some ⟨g, 3, none⟩)) t2 w2 K := by
  refine row_v hx.len fun t6 w6 ht6 hx6 => ⟨⟨sv, by rw [(G.more hx6).hb]; rfl, rfl⟩, ?_⟩
  refine (G.more hx6).appx ht6 hx hl fun sv2 w7 G7 hb7 => ?_
  refine G7.set (sv1 := sv2) (kv1 := kv) G7.one.1 (by omega) rfl fun w8 G8 hb8 => ?_
  exact hK sv2 w8 G8 (low_set (low_step (Chg.of_ext hx6) hb7) hb8)
theorem OwnV.item_old {w0 w : World} {base : Nat} {v : JV} {sv kv : Value} {k : IntKind} {i : Nat} {x : JV} {K : Value → Prop} (h : OwnV w0 w base v sv kv) (hi : v.xs[i]? = some x) (hK : ∀ cs, VRep w0 x cs → K (.agg cs.toArray)) : ixaW none 5 sv (.int k i) fun p => ldW true 5 p w K := by
  obtain ⟨L, h1, h2⟩ := h.items
  obtain ⟨cs, hc, hg⟩ := h2.get hi
  refine ixa_at (size := 5) h1.sl h2.len (by omega) (List.getElem?_eq_some_iff.1 hi).1 fun b o c fr hb hcc => ?_
  exact ld_cells hb hc.len (fun j hj => (hcc j hj).trans (hg j hj)) (hK cs hc)
end Go.Proofs.YtonblcbpoilndaaGreatDoor
