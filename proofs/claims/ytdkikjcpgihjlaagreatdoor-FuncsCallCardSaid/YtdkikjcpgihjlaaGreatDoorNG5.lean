/- One plain sentence: weakest preconditions, contracts and plain laws that the claim rests on, text behind text. Conditions: those that each states. -/
import Derived.Test.YtdkikjcpgihjlaaGreatDoorNG1
import Derived.Maps.RangeRun
import Derived.MapKept
import Derived.Test.YtdkikjcpgihjlaaGreatDoorNG3
import Derived.Test.YtdkikjcpgihjlaaGreatDoorNG4
import Derived.Test.YtdkikjcpgihjlaaGreatDoorNG2
import Derived.Lib.LastIndexByte
import Derived.Lib.AtoiAll
import Derived.Lib.SplitLaws
import Derived.Lib.Builder
import Derived.ProofKit
import Derived.WalkKit
import Derived.Lib.AppendStr
import Derived.Lib.RuneBytes
import Derived.Lib.ValidU
set_option linter.all false
set_option linter.unusedSimpArgs false
set_option linter.unusedVariables false
set_option linter.unusedSectionVars false
namespace Go.Eng
open Go
set_option maxRecDepth 100000
def entsFrom : Nat → List (Str × Value) → List MapEntry
  | _, [] => []
  | i, (k, v) :: m => { key := str k, val := v, born := i } :: entsFrom (i + 1) m
theorem ents_snoc (k : Str) (v : Value) : ∀ (m : List (Str × Value)) (i : Nat), entsFrom i (m ++ [(k, v)]) = entsFrom i m ++ [{ key := str k, val := v, born := i + m.length }]
  | [], i => rfl
  | (a, x) :: m, i => by
    simp only [List.cons_append, entsFrom, ents_snoc k v m, List.length_cons]
    rw [show i + 1 + m.length = i + (m.length + 1) by omega]
def MapB (w : World) (b : Nat) (m : List (Str × Value)) : Prop := w.heap[b]? = some (.map (entsFrom 0 m).toArray m.length)
def lookS : List (Str × Value) → Str → Option Value
  | [], _ => none
  | (a, v) :: m, k => if k = a then some v else lookS m k
theorem find_str (k : Str) : ∀ (m : List (Str × Value)) (i j : Nat), (lookS m k = none → Instr.findNow .string (str k) (entsFrom i m) j = some none) ∧ ∀ v, lookS m k = some v → ∃ n, Instr.findNow .string (str k) (entsFrom i m) j = some (some (n, v))
  | [], i, j => ⟨fun _ => rfl, fun v h => by cases h⟩
  | (a, x) :: m, i, j => by
    have hs : Instr.sameNow .string (str k) (str a) = some (ofL k == ofL a) := rfl
    by_cases h : k = a
    · subst h
      refine ⟨fun e => ?_, fun v e => ?_⟩
      · simp [lookS] at e
      · simp only [lookS, if_true, Option.some.injEq] at e
        subst e
        refine ⟨j, ?_⟩
        have hs' : Instr.sameNow .string (str k) (str k) = some true := by rw [hs, (MapKept.bytes_beq (ofL k) (ofL k)).2 rfl]
        simp only [entsFrom, Instr.findNow, hs']
    · have hne : (ofL k == ofL a) = false := by
        cases hc : (ofL k == ofL a) with
        | false => rfl
        | true => exact absurd (ofL_inj.1 ((MapKept.bytes_beq _ _).1 hc)) h
      obtain ⟨h1, h2⟩ := find_str k m (i + 1) (j + 1)
      simp only [entsFrom, Instr.findNow, hs, hne, lookS, if_neg h]
      exact ⟨h1, h2⟩
section
variable {P : Program} {T KT ET : TypeId} {w : World}
theorem map_made {r : Option Value} {K : Value → World → Prop} (hT : P.underlying T = some (.map KT ET)) (hr : r = none ∨ ∃ k n, r = some (.int k n))
    (hK : ∀ b w', b = w.heap.size → w'.heap.size = w.heap.size + 1 → MapB w' b [] → Ext w w' → K (.map (some b)) w') : semE P (Instr.makeMap T r) w K := by
  have hk := hK w.heap.size (w.alloc (.map #[] 0)) rfl (size_alloc _ _) (heap_anew _ _ _ rfl) (Chg.alloc (Chg.refl _ _) _)
  have hrun : (Instr.makeMap T r).run P w = .ok (.map (some w.heap.size)) (w.alloc (.map #[] 0)) := by
    rcases hr with rfl | ⟨k, n, rfl⟩
    · simp [Instr.makeMap, run_bind, run_pure, newObj, Sem.run]
    · simp [Instr.makeMap, run_bind, run_pure, newObj, Sem.run, run_underlying' hT, asInt, asIntOf]
  unfold semE
  rw [hrun]
  exact hk
theorem map_put {b : Nat} {m : List (Str × Value)} {k : Str} {v : Value} {K : World → Prop} (hT : P.underlying T = some (.map KT ET)) (hKT : P.underlying KT = some .string) (hb : MapB w b m) (hn : lookS m k = none)
    (hK : ∀ w', w'.heap.size = w.heap.size → MapB w' b (m ++ [(k, v)]) → Chg (fun q => q = b) w w' → K w') : semU P (Instr.mapUpdate T (.map (some b)) (str k) v) w K := by
  have hf := (find_str k m 0 0).1 hn
  have hrun : (Instr.mapUpdate T (.map (some b)) (str k) v).run P w = .ok () { w with heap := w.heap.setIfInBounds b (.map ((entsFrom 0 m).toArray.push { key := str k, val := v, born := m.length }) (m.length + 1)) } := by
    simp only [Instr.mapUpdate, run_bind, run_underlying' hT, MapKept.run_getObj_map hb, MapKept.run_checkKey hKT (show MapKept.IsKey .string (str k) from trivial), MapKept.run_findKey hKT hf, MapKept.run_setObj_map _ hb]
  unfold semU
  rw [hrun]
  refine hK _ (by simp) ?_ ⟨rfl, rfl, rfl, by simp, fun q _ hq => ?_⟩
  · show (w.heap.setIfInBounds b _)[b]? = _
    rw [(MapKept.heap_set hb).1, ents_snoc]
    simp
  · exact (MapKept.heap_set hb).2 q hq
theorem map_get {b : Nat} {m : List (Str × Value)} {k : Str} {z : Value} {K : Value → Prop} (hT : P.underlying T = some (.map KT ET)) (hKT : P.underlying KT = some .string) (hz : zeroT P ET = some z) (hb : MapB w b m)
    (h1 : ∀ v, lookS m k = some v → K (.tuple #[v, .bool true])) (h0 : lookS m k = none → K (.tuple #[z, .bool false])) : semQ P (Instr.lookup T (.map (some b)) (str k) true) w K := by
  cases hl : lookS m k with
  | none =>
    refine ⟨_, ?_, h0 hl⟩
    simp only [Instr.lookup, run_bind, run_underlying' hT, MapKept.run_getObj_map hb, run_pure, MapKept.run_checkKey hKT (show MapKept.IsKey .string (str k) from trivial), MapKept.run_findKey hKT ((find_str k m 0 0).1 hl), zeroT_run hz, if_true]
  | some v =>
    obtain ⟨n, hf⟩ := (find_str k m 0 0).2 v hl
    refine ⟨_, ?_, h1 v hl⟩
    simp only [Instr.lookup, run_bind, run_underlying' hT, MapKept.run_getObj_map hb, run_pure, MapKept.run_checkKey hKT (show MapKept.IsKey .string (str k) from trivial), MapKept.run_findKey hKT hf, if_true]
end
end Go.Eng
namespace Go.Proofs.YtdkikjcpgihjlaaGreatDoor
open Go Go.Eng Go.Num Go.RowKit
set_option maxRecDepth 100000
abbrev flat (k : Int) (b : Bool) (t : Str) : List Value := [i64 k, .bool b, str t, .slice none 0 0, .slice none 0 0]
theorem flat_rep {G : Nat → Prop} {w : World} {k : Int} {b : Bool} {t : Str} (ht : t.length ≤ 9223372036854775807) : VRepP G w (.mk k b t [] []) (flat k b t) :=
  VRepP.mk (v := .mk k b t [] []) (T1 := 0) (T2 := 0) (L := []) (SlAt.nil w 0) (by simp [JV.xs, VRepsP]) (SlAt.nil w 0) ⟨by simp [JV.xs], by simp [JV.ks], by simpa [JV.t] using ht, by simp [JV.ks]⟩ (fun h => absurd rfl h) (fun h => by simp [JV.ks] at h)
theorem ret_f {w0 w : World} {b : Nat} {cs ds : List Value} {v : JV} {K : Value → World → Prop} (hb : w.heap[b]? = some (.cells ds.toArray VT (0, 0))) (hd : ds.length = 5) (hl : w0.heap.size ≤ b) (hx : Ext w0 w) (h : VRepP (fun q => w0.heap.size ≤ q ∧ q ≠ b) w v cs)
    (hK : ∀ w', Ext w0 w' → VRepP (From w0.heap.size) w' v cs → K (.agg cs.toArray) w') : stW 5 (.pointer (some ⟨b, 0, none⟩)) (.agg cs.toArray) w fun w5 => ldW true 5 (.pointer (some ⟨b, 0, none⟩)) w5 fun r6 => K r6 w5 :=
  ret_agg hb h.rep.len hd h.rep.all_one fun w' hc => by
    refine hK w' (hx.new hc hl) ?_
    exact (VRepP.chg hc (fun q hq _ e => hq.2 e) h).mono fun q _ hq => hq.1
theorem VRepP.at {w w1 : World} {n b : Nat} {v : JV} {cs : List Value} (h : VRepP (From n) w1 v cs) (hb : b < n) (hn : w.heap.size ≤ n) : VRepP (fun q => w.heap.size ≤ q ∧ q ≠ b) w1 v cs :=
  h.mono fun q _ hq => ⟨Nat.le_trans hn hq, by have : n ≤ q := hq; omega⟩
theorem VRepP.ext' {w w' : World} {G : Nat → Prop} {v : JV} {cs : List Value} (h : VRepP G w v cs) (hx : Ext w w') : VRepP G w' v cs := VRepP.chg hx (fun _ _ _ e => e) h
theorem ItemsAt.fld {w : World} {sv : Value} {xs : List JV} {n : Int} {i off : Nat} {x : JV} {K : Value → Prop} (h : ItemsAt w sv xs) (hn : n = (i : Nat)) (hi : xs[i]? = some x) (ho : off < 5) (hK : ∀ cs u, VRep w x cs → cs[off]? = some u → K u) :
    ixaW none 5 sv (.int .i64 n) fun p => fldW off p fun q => ldW false 1 q w K := by
  subst hn
  obtain ⟨T, L, h1, h2⟩ := h.it
  refine item_at h1 h2 hi fun b o c fr cs hb hc hg => ?_
  rw [fld_ptr, ld_one, add_mk, cell_eq, hb, cellO_some, hg off ho]
  exact ⟨cs[off]'(by rw [hc.len]; exact ho), List.getElem?_eq_getElem _, hK cs _ hc (List.getElem?_eq_getElem _)⟩
theorem ItemsAt.fk {w : World} {sv : Value} {xs : List JV} {n : Int} {i : Nat} {x : JV} {K : Value → Prop} (h : ItemsAt w sv xs) (hn : n = (i : Nat)) (hi : xs[i]? = some x) (hK : K (i64 x.k)) : ixaW none 5 sv (.int .i64 n) fun p => fldW 0 p fun q => ldW false 1 q w K :=
  h.fld hn hi (by omega) fun cs u hc hu => by obtain ⟨sv, kv, T1, T2, L, rfl, _⟩ := hc.out; cases hu; exact hK
theorem ItemsAt.fb {w : World} {sv : Value} {xs : List JV} {n : Int} {i : Nat} {x : JV} {K : Value → Prop} (h : ItemsAt w sv xs) (hn : n = (i : Nat)) (hi : xs[i]? = some x) (hK : K (.bool x.b)) : ixaW none 5 sv (.int .i64 n) fun p => fldW 1 p fun q => ldW false 1 q w K :=
  h.fld hn hi (by omega) fun cs u hc hu => by obtain ⟨sv, kv, T1, T2, L, rfl, _⟩ := hc.out; cases hu; exact hK
theorem ItemsAt.ft {w : World} {sv : Value} {xs : List JV} {n : Int} {i : Nat} {x : JV} {K : Value → Prop} (h : ItemsAt w sv xs) (hn : n = (i : Nat)) (hi : xs[i]? = some x) (hK : x.t.length ≤ 9223372036854775807 → K (str x.t)) : ixaW none 5 sv (.int .i64 n) fun p => fldW 2 p fun q => ldW false 1 q w K :=
  h.fld hn hi (by omega) fun cs u hc hu => by obtain ⟨sv, kv, T1, T2, L, rfl, _, _, _, hf⟩ := hc.out; cases hu; exact hK hf.2.2.1
theorem ItemsAt.fx {w : World} {sv : Value} {xs : List JV} {n : Int} {i : Nat} {x : JV} {K : Value → Prop} (h : ItemsAt w sv xs) (hn : n = (i : Nat)) (hi : xs[i]? = some x) (hK : ∀ u, ItemsAt w u x.xs → K u) : ixaW none 5 sv (.int .i64 n) fun p => fldW 3 p fun q => ldW false 1 q w K :=
  h.fld hn hi (by omega) fun cs u hc hu => by obtain ⟨sv, kv, T1, T2, L, rfl, h1, h2, _, hf⟩ := hc.out; cases hu; exact hK _ ⟨⟨T1, L, h1, h2⟩, hf.1⟩
theorem ItemsAt.fs {w : World} {sv : Value} {xs : List JV} {n : Int} {i : Nat} {x : JV} {K : Value → Prop} (h : ItemsAt w sv xs) (hn : n = (i : Nat)) (hi : xs[i]? = some x) (hK : ∀ u T, SlAt w T u x.ks.length (x.ks.map str) → x.ks.length ≤ 9223372036854775807 → (∀ s ∈ x.ks, s.length ≤ 9223372036854775807) → K u) : ixaW none 5 sv (.int .i64 n) fun p => fldW 4 p fun q => ldW false 1 q w K :=
  h.fld hn hi (by omega) fun cs u hc hu => by obtain ⟨sv, kv, T1, T2, L, rfl, _, _, h3, hf⟩ := hc.out; cases hu; exact hK _ _ h3 hf.2.1 hf.2.2.2
section
variable [HX]
theorem ItemsAt.at' {w : World} {sv : Value} {xs : List JV} {n : Int} {i : Nat} {x : JV} {K : Value → Prop} (h : ItemsAt w sv xs) (hn : n = (i : Nat)) (hi : xs[i]? = some x) (hK : ∀ cs, VRep w x cs → K (.agg cs.toArray)) : ixaW none 5 sv (.int .i64 n) fun p => ldW true 5 p w K := by
  subst hn; exact h.at hi hK
end
abbrev DoK (r : Option JV) (w : World) (K : Value → World → Prop) : Prop := ∀ cs v ok w', Ext w w' → VRepP (From w.heap.size) w' v cs → r = (if ok then some v else none) → K (.tuple #[.agg cs.toArray, .bool ok]) w'
theorem do_none {w0 w : World} {b : Nat} {ds : List Value} {K : Value → World → Prop} {r : Option JV} (hr : r = none) (hb : w.heap[b]? = some (.cells ds.toArray VT (0, 0))) (hd : ds.length = 5) (hl : w0.heap.size ≤ b) (hx : Ext w0 w) (hK : DoK r w0 K) :
    putW [(.int .i64 0), (.bool false), (.string (ofL [])), (.slice none 0 0), (.slice none 0 0)] [] fun c7 => stW 5 (.pointer (some ⟨b, 0, none⟩)) (.agg c7.toArray) w fun w8 => ldW true 5 (.pointer (some ⟨b, 0, none⟩)) w8 fun r9 => K (.tuple #[r9, (.bool false)]) w8 := by
  rw [put_nil]
  exact ret_f (K := fun r w => K (.tuple #[r, .bool false]) w) hb hd hl hx (flat_rep (k := 0) (b := false) (t := []) (by simp)) fun w' hx' h' => hK _ _ false w' hx' h' hr
theorem do_none2 {w0 w : World} {b : Nat} {ds : List Value} {K : Value → World → Prop} {r : Option JV} (hr : r = none) (hb : w.heap[b]? = some (.cells ds.toArray VT (0, 0))) (hd : ds.length = 5) (hl : w0.heap.size ≤ b) (hx : Ext w0 w) (hK : DoK r w0 K) :
    stW 5 (.pointer (some ⟨b, 0, none⟩)) (.agg (flat 0 false []).toArray) w fun w8 => ldW true 5 (.pointer (some ⟨b, 0, none⟩)) w8 fun r9 => K (.tuple #[r9, (.bool false)]) w8 :=
  ret_f (K := fun r w => K (.tuple #[r, .bool false]) w) hb hd hl hx (flat_rep (k := 0) (b := false) (t := []) (by simp)) fun w' hx' h' => hK _ _ false w' hx' h' hr
theorem do_some {w0 w : World} {b : Nat} {cs ds : List Value} {v : JV} {K : Value → World → Prop} {r : Option JV} (hr : r = some v) (hb : w.heap[b]? = some (.cells ds.toArray VT (0, 0))) (hd : ds.length = 5) (hl : w0.heap.size ≤ b) (hx : Ext w0 w) (h : VRepP (fun q => w0.heap.size ≤ q ∧ q ≠ b) w v cs) (hK : DoK r w0 K) :
    stW 5 (.pointer (some ⟨b, 0, none⟩)) (.agg cs.toArray) w fun w8 => ldW true 5 (.pointer (some ⟨b, 0, none⟩)) w8 fun r9 => K (.tuple #[r9, (.bool true)]) w8 :=
  ret_f (K := fun r w => K (.tuple #[r, .bool true]) w) hb hd hl hx h fun w' hx' h' => hK _ _ true w' hx' h' hr
section
variable [HX]
theorem ftext_p {s : Str} {w : World} {K : Value → World → Prop} (hK : ∀ w', Ext w w' → K (.agg (flat 4 false s).toArray) w') : callF Tryz.prog 56 [str s] w K := by
  refine W56_ok ?_
  unfold W56
  refine alloc_new fun b w1 hb hz hbb hx => ?_
  simp only [wsv, wsg, wsh, wsl, cond_true, cond_false, exists_eq_left', Option.some.injEq, Option.isSome_some, List.getElem?_toArray, List.getElem?_cons_zero, List.getElem?_cons_succ, List.length_cons, List.length_nil, List.set_cons_zero, List.set_cons_succ, List.getD_cons_zero, List.getD_cons_succ, Nat.zero_add, Nat.add_zero, Nat.reduceAdd, Nat.reduceLT, Nat.lt_add_one, Nat.zero_lt_succ, decide_true, decide_false, ne_eq, reduceCtorEq]
  exact ret_agg hbb rfl rfl rfl fun w' hc => hK w' (hx.new hc (by omega))
theorem fboolv_p {s : Bool} {w : World} {K : Value → World → Prop} (hK : ∀ w', Ext w w' → K (.agg (flat 2 s []).toArray) w') : callF Tryz.prog 91 [.bool s] w K := by
  refine W91_ok ?_
  unfold W91
  refine alloc_new fun b w1 hb hz hbb hx => ?_
  simp only [wsv, wsg, wsh, wsl, cond_true, cond_false, exists_eq_left', Option.some.injEq, Option.isSome_some, List.getElem?_toArray, List.getElem?_cons_zero, List.getElem?_cons_succ, List.length_cons, List.length_nil, List.set_cons_zero, List.set_cons_succ, List.getD_cons_zero, List.getD_cons_succ, Nat.zero_add, Nat.add_zero, Nat.reduceAdd, Nat.reduceLT, Nat.lt_add_one, Nat.zero_lt_succ, decide_true, decide_false, ne_eq, reduceCtorEq]
  exact ret_agg hbb rfl rfl rfl fun w' hc => hK w' (hx.new hc (by omega))
theorem unknown_p {w : World} {K : Value → World → Prop} (hK : ∀ w', Ext w w' → K (.agg (flat 1 false []).toArray) w') : callF Tryz.prog 34 [] w K := by
  refine W34_ok ?_
  unfold W34
  refine alloc_new fun b w1 hb hz hbb hx => ?_
  simp only [wsv, wsg, wsh, wsl, cond_true, cond_false, exists_eq_left', Option.some.injEq, Option.isSome_some, List.getElem?_toArray, List.getElem?_cons_zero, List.getElem?_cons_succ, List.length_cons, List.length_nil, List.set_cons_zero, List.set_cons_succ, List.getD_cons_zero, List.getD_cons_succ, Nat.zero_add, Nat.add_zero, Nat.reduceAdd, Nat.reduceLT, Nat.lt_add_one, Nat.zero_lt_succ, decide_true, decide_false, ne_eq, reduceCtorEq]
  exact ret_agg hbb rfl rfl rfl fun w' hc => hK w' (hx.new hc (by omega))
theorem cell_ext2 {w w' : World} {b o : Nat} {v : Value} (hx : Ext w w') (h : w.cell? ⟨b, o, none⟩ = some v) : w'.cell? ⟨b, o, none⟩ = some v := by
  rw [cell_eq] at h ⊢
  cases hb : w.heap[b]? with
  | none => rw [hb] at h; cases h
  | some x => rw [hb] at h; rw [hx.at hb id]; exact h
theorem ext_grow2 (w : World) (k : Nat) (os : Array Obj) : Ext w (Sort.grow (w.drewN k) os) :=
  ⟨rfl, rfl, rfl, by show w.heap.size ≤ (w.heap ++ os).size; simp, fun j hj _ => by show (w.heap ++ os)[j]? = _; rw [Array.getElem?_append_left hj]⟩
theorem var_ext2 {P : Program} {w w' : World} {name : String} {c : Array Value} (hx : Ext w w') (h : w.var? P name = some c) : w'.var? P name = some c := by
  unfold World.var? at h ⊢
  cases hg : P.globalNamed name with
  | none => rw [hg] at h; cases h
  | some g =>
    rw [hg] at h
    simp only [Option.bind_some] at h ⊢
    cases hb : w.heap[g]? with
    | none => rw [hb] at h; cases h
    | some o => rw [hx.at hb id]; rw [hb] at h; exact h
structure TabF (w : World) : Prop where
  pow : Lib.TabIs Tryz.prog w "internal/strconv.uint64pow10" .u64 Lib.pow10Tab
  syn : ∃ T v, w.cell? ⟨1, 0, none⟩ = some (.iface T v)
  rng : ∃ T v, w.cell? ⟨2, 0, none⟩ = some (.iface T v)
  mx : ∃ m, w.cell? ⟨0, 0, none⟩ = some (.int .i64 m)
theorem TabF.ext {w w' : World} (h : TabF w) (hx : Ext w w') : TabF w' :=
  ⟨var_ext2 hx h.pow, let ⟨T, v, e⟩ := h.syn; ⟨T, v, cell_ext2 hx e⟩, let ⟨T, v, e⟩ := h.rng; ⟨T, v, cell_ext2 hx e⟩, let ⟨m, e⟩ := h.mx; ⟨m, cell_ext2 hx e⟩⟩
theorem dec_len2 : ∀ (k u : Nat), u < 10 ^ k → (Lib.decDigits u).length ≤ k + 1 := by
  intro k
  induction k with
  | zero => intro u h; rw [Lib.decDigits, dif_pos (by omega)]; simp
  | succ k ih =>
    intro u h
    rw [Lib.decDigits]
    split
    · simp
    · have := ih (u / 10) (by rw [Nat.pow_succ] at h; omega)
      rw [List.length_append, List.length_singleton]; omega
theorem itoa_len2 {n : Int} (h1 : -9223372036854775808 ≤ n) (h2 : n ≤ 9223372036854775807) : (Lib.itoa n).length ≤ 30 := by
  unfold Lib.itoa
  split
  · have := dec_len2 19 n.natAbs (by omega)
    simp only [List.length_cons]; omega
  · have := dec_len2 19 n.toNat (by omega)
    omega
theorem of_p {n : Int} {w : World} {K : Value → World → Prop} (hT : TabF w) (h0 : -9223372036854775808 ≤ n) (h1 : n ≤ 9223372036854775807) (hK : ∀ w', Ext w w' → K (str (Lib.itoa n)) w') : callF Tryz.prog 132 [i64 n] w K := by
  refine W132_ok ?_
  unfold W132
  refine of_calls (args := #[i64 n]) Tryz.call162 ((Tryz.strconv_Itoa n h0 h1 w hT.pow).mono ?_)
  rintro e w' ⟨rfl, k, os, rfl⟩
  exact ⟨_, rfl, hK _ (ext_grow2 w k os)⟩
theorem int_p {n : Int} {w : World} {K : Value → World → Prop} (hT : TabF w) (h0 : -9223372036854775808 ≤ n) (h1 : n ≤ 9223372036854775807) (hK : ∀ w', Ext w w' → K (.agg (flat 3 false (Lib.itoa n)).toArray) w') : callF Tryz.prog 95 [i64 n] w K := by
  refine W95_ok ?_
  unfold W95
  refine alloc_new fun b w1 hb hz hbb hx => ?_
  refine of_p (hT.ext hx) h0 h1 fun w2 hx2 => ?_
  have hbb2 := hx2.at hbb id
  simp only [wsv, wsg, wsh, wsl, cond_true, cond_false, exists_eq_left', Option.some.injEq, Option.isSome_some, List.getElem?_toArray, List.getElem?_cons_zero, List.getElem?_cons_succ, List.length_cons, List.length_nil, List.set_cons_zero, List.set_cons_succ, List.getD_cons_zero, List.getD_cons_succ, Nat.zero_add, Nat.add_zero, Nat.reduceAdd, Nat.reduceLT, Nat.lt_add_one, Nat.zero_lt_succ, decide_true, decide_false, ne_eq, reduceCtorEq]
  exact ret_agg hbb2 rfl rfl rfl fun w' hc => hK w' ((hx.trans hx2).new hc (by omega))
theorem dig_le2 (s : Str) : (dig s).length ≤ s.length := by
  cases s with
  | nil => simp [dig]
  | cons c d => simp only [dig]; split <;> simp
theorem abs_p {x : JV} {sv : Value} {w : World} {K : Value → World → Prop} (h : ItemsAt w sv [x]) (hK : DoK (some (nV (dig x.t))) w K) : callF Tryz.prog 46 [sv] w K := by
  refine W46_ok ?_
  unfold W46
  refine alloc_new fun b w1 hb hz hbb hx => ?_
  refine (h.ext hx).ft (i := 0) rfl rfl fun ht => ?_
  refine trimpre_ref ht ?_
  simp only [put_int, put_str, put_nil, List.length_cons, List.length_nil, List.set_cons_zero, List.set_cons_succ]
  refine ⟨by omega, by omega, ?_⟩
  refine do_some rfl hbb rfl (by omega) hx (flat_rep ?_) hK
  have := dig_le2 x.t
  omega
theorem ftexts_p {l : List Str} {T : TypeId} {v : Value} {w : World} {K : Value → World → Prop} (h : SlAt w T v l.length (l.map str)) (hl : l.length ≤ 1000000) (hs : ∀ s ∈ l, s.length ≤ 9223372036854775807)
    (hK : ∀ cs w', Ext w w' → VRepP (From w.heap.size) w' (lV (l.map tV)) cs → K (.agg cs.toArray) w') : callF Tryz.prog 52 [v] w K := by
  refine W52_ok ?_
  unfold W52
  refine alloc_new fun b w1 hb hz hbb hx => ?_
  simp only [put_int, put_str, put_nil, List.length_cons, List.length_nil, List.set_cons_zero, List.set_cons_succ]
  refine ⟨by omega, ?_⟩
  refine alloc_new fun p w3 hp hz3 hbp hx3 => ?_
  refine st_agg_at (l := flat 5 false []) hbp rfl rfl rfl fun w4 hz4 hbp4 hc4 => ?_
  have hbb4 := hc4.at (hx3.at hbb id) fun e => by have : b = p := e; omega
  have hx04 : Ext w w4 := (hx.trans hx3).new hc4 (by omega)
  rw [lenl_at h]
  refine LoopW.go (fun st w' => ∃ (i : Nat) (r : Value) (L : List Value), st = [i64 (i : Nat)] ∧ i ≤ l.length ∧ Ext w w' ∧ w'.heap[b]? = w4.heap[b]? ∧ w'.heap[p]? = some (.cells [i64 5, .bool false, str [], r, .slice none 0 0].toArray VT (0, 0)) ∧ w4.heap.size ≤ w'.heap.size ∧
      Own w' w4.heap.size VT 5 r i L ∧ VRepsP (fun _ => False) w' ((l.take i).map tV) L)
    (fun st _ => match st with | [.int _ i] => l.length - i.toNat | _ => 0)
    ⟨0, .slice none 0 0, [], rfl, Nat.zero_le _, hx04, rfl, hbp4, Nat.le_refl _, ⟨rfl, .inl ⟨rfl, rfl⟩⟩, by simp [VRepsP]⟩ ?_
  rintro st g w5 ⟨i, r, L, rfl, hi, hx5, hb5, hp5, hz5, hO, hR⟩
  simp only [List.getD_cons_zero]
  rw [bin_lss, condW_dec]
  have hone := own_one hO
  refine ⟨fun hlt => ?_, fun hge => ?_⟩
  · have hlt : i < l.length := by omega
    obtain ⟨s, hsi⟩ : ∃ s, l[i]? = some s := ⟨_, List.getElem?_eq_getElem hlt⟩
    refine text_ld (h.ext hx5) hsi ?_
    have hxd : Ext w5 w5.drew := Chg.drew (Chg.refl (fun _ => False) w5)
    rw [fld_ptr, add_mk, ld_one]
    refine ⟨r, by rw [cell_eq, hxd.at hp5 id]; rfl, ?_⟩
    refine ftext_p fun w7 hx7 => ?_
    have hx57 := hxd.trans hx7
    refine ⟨by rw [ld_one]; exact ⟨r, by rw [cell_eq, hx57.at hp5 id]; rfl, rfl⟩, ?_⟩
    refine row_v rfl fun t w8 ht hx8 => ?_
    have hx58 := hx57.trans hx8
    refine ⟨by rw [ld_one]; exact ⟨r, by rw [cell_eq, hx58.at hp5 id]; rfl, rfl⟩, ?_⟩
    have s58 := hx58.size
    refine append_own3 elem_v (hO.ext hx58) ht (m := 1) rfl (flat_rep (G := fun _ => False) (w := w) (hs s (List.mem_of_getElem? hsi))).rep.one (by omega) (by omega) (by omega) fun v' w9 h9 hc9 hb9 => ?_
    have hp9 := hc9.at (hx58.at hp5 id) fun e => by have := (own_ge hO e).1; omega
    have h9one := own_one h9
    refine st_at hp9 h9one (by simp) fun w10 hz10 hb10 hc10 => ?_
    rw [bin_add, up1 (by omega)]
    have hlb : b < w4.heap.size := at_lt hbb4
    have hlp : p < w4.heap.size := at_lt hbp4
    have e : l.take (i + 1) = l.take i ++ [s] := by rw [List.take_add_one, hsi]; rfl
    refine ⟨⟨i + 1, v', L ++ flat 4 false s, rfl, hlt, ?_, ?_, by rw [hb10]; simp, by have := hc9.size; omega, ?_, ?_⟩, by simp only [Int.toNat_natCast]; omega⟩
    · exact ((hx5.trans hx58).then hc9 fun k hk e => by have := (own_ge hO e).1; omega).new hc10 (show w.heap.size ≤ p by omega)
    · rw [hc10.heap b (by have := hc9.size; omega) (fun e => by have : b = p := e; omega), hc9.heap b (by omega) (fun e => by have := (own_ge hO e).1; omega), hx58.heap b (by omega) id, hb5]
    · exact own_chg h9 hc10 fun q hq e => by
        subst e
        have := (own_ge h9 hq).1; omega
    · rw [e, List.map_append]
      have h1 : VRepsP (fun _ => False) w10 ((l.take i).map tV) L := VRepsP.chg hc10 (fun _ f => f.elim) (VRepsP.chg hc9 (fun _ f => f.elim) (VRepsP.chg hx58 (fun _ f => f.elim) hR))
      exact h1.snoc (flat_rep (hs s (List.mem_of_getElem? hsi)))
  · obtain rfl : i = l.length := by omega
    rw [List.take_length] at hR
    have hml : (l.map tV).length = l.length := List.length_map _
    have hV : VRepP (From w4.heap.size) w5 (lV (l.map tV)) [i64 5, .bool false, str [], r, .slice none 0 0] :=
      VRepP.mk (v := lV (l.map tV)) (by show SlAt w5 VT r (l.map tV).length L; rw [hml]; exact hO.sl) (hR.mono fun _ _ f => f.elim) (SlAt.nil w5 0) ⟨by show (l.map tV).length ≤ _; omega, by simp [JV.ks], by simp [JV.t], by simp [JV.ks]⟩ (fun _ k hk => (own_in hO hk).1) (fun h => by simp [JV.ks] at h)
    refine ld_all hp5 rfl ?_
    have hlb : b < w4.heap.size := at_lt hbb4
    have s4 := hx04.size
    refine ret_f (w0 := w) (by rw [hb5]; exact hbb4) rfl (by omega) hx5 (hV.at hlb s4) fun w' hx' h' => hK _ w' hx' h'
end
end Go.Proofs.YtdkikjcpgihjlaaGreatDoor
namespace Go.Proofs.YtdkikjcpgihjlaaGreatDoor
open Go Go.Eng Go.Num Go.RowKit
set_option maxRecDepth 100000
structure BytB (w : World) (b cap : Nat) (c : Array Value) (l : Str) : Prop where
  hb : w.heap[b]? = some (.cells c U8 (c.size, c.size + 1))
  le : l.length ≤ cap
  fits : l.length ≤ c.size
  get : ∀ i, i < l.length → c[i]? = (u8s l)[i]?
theorem BytB.ext {w w' : World} {b cap : Nat} {c : Array Value} {l : Str} (h : BytB w b cap c l) (hx : Ext w w') : BytB w' b cap c l := ⟨hx.at h.hb id, h.le, h.fits, h.get⟩
theorem BytB.byt {w : World} {b cap : Nat} {c : Array Value} {l : Str} (h : BytB w b cap c l) : Byt w U8 (.slice (some ⟨b, 0, none⟩) l.length cap) l :=
  ⟨_, _, rfl, h.le, fun e => (by cases e), fun _ => ⟨b, 0, _, _, rfl, h.hb, fun i hi => by rw [Nat.zero_add]; exact h.get i (by simpa [u8s_length] using hi)⟩⟩
theorem to_bytes_o {l : Str} {w : World} {src dst : TypeId} {K : Value → World → Prop} (hs : Tryz.prog.underlying src = some .string) (hd : Tryz.prog.underlying dst = some (.slice U8)) (he : Tryz.prog.underlying U8 = some (.int .u8))
    (hK : ∀ b cap c w', w.heap.size ≤ b → BytB w' b cap c l → Ext w w' → K (.slice (some ⟨b, 0, none⟩) l.length cap) w') : semE Tryz.prog (convert src dst (str l)) w K := by
  unfold semE
  rw [Lib.run_convert_string_bytes w src dst U8 (ofL l) hs hd he]
  have hle : (ofL l).size ≤ grownCap w (ofL l).size 0 U8 := grownCap_ge w (ofL l).size 0 U8
  have hsz : (Lib.bytesCells w U8 (ofL l)).size = grownCap w (ofL l).size 0 U8 := by
    unfold Lib.bytesCells
    simp only [Array.size_append, Array.size_map, Array.size_replicate]
    have : (ofL l).data.size = (ofL l).size := rfl
    omega
  have e : (ofL l).size = l.length := ofL_size l
  have hB : BytB (Lib.bytesWorld w U8 (ofL l)) w.heap.size (grownCap w (ofL l).size 0 U8) (Lib.bytesCells w U8 (ofL l)) l := by
    refine ⟨Lib.bytesWorld_at_new w U8 (ofL l), by rw [← e]; exact hle, by rw [hsz, ← e]; exact hle, fun i hi => ?_⟩
    have := Lib.bytesWorld_cell w U8 (ofL l) i (by rw [e]; exact hi)
    rw [cell_eq, Lib.bytesWorld_at_new, cellO_some] at this
    rw [this, u8s_get, ofL_data]
    simp [List.getD_eq_getElem?_getD, List.getElem?_eq_getElem hi]
  have := hK _ _ _ _ (Nat.le_refl _) hB (bytes_ext _ _ _)
  rw [e]
  rw [e] at this
  exact this
theorem set_byte {w : World} {b cap i : Nat} {c : Array Value} {l : Str} {y : UInt8} {K : World → Prop} (h : BytB w b cap c l) (hi : i < l.length)
    (hK : ∀ c' w', BytB w' b cap c' (l.set i y) → Chg (fun k => k = b) w w' → w'.heap.size = w.heap.size → K w') : ixaW none 1 (.slice (some ⟨b, 0, none⟩) l.length cap) (i64 (i : Nat)) fun t => stW 1 t (.int .u8 (y.toNat : Nat)) w K := by
  rw [ixa_slice]
  refine ⟨by omega, by omega, ?_⟩
  rw [add_mk, Nat.zero_add, Int.toNat_natCast, Nat.mul_one]
  have hf := h.fits
  have hc2 : (Value.int .u8 (y.toNat : Nat)).cells = #[.int .u8 (y.toNat : Nat)] := rfl
  have hz : (⟨b, i, none⟩ : Addr).add 0 = ⟨b, i, none⟩ := rfl
  simp only [stW, hc2]
  refine ⟨rfl, ?_⟩
  simp only [stCells, hz]
  refine ⟨rfl, ?_, ?_, ?_⟩
  · rw [cell_eq, h.hb, cellO_some]; simp; omega
  · rw [frozen_eq, h.hb, frO_some]; simp; omega
  · refine hK (c.setIfInBounds i (.int .u8 (y.toNat : Nat))) _ ⟨?_, by rw [List.length_set]; exact h.le, by rw [List.length_set]; simpa using h.fits, fun j hj => ?_⟩ (Chg.set (S := fun k => k = b) (Chg.refl _ _) (.inl rfl) _) (by simp)
    · rw [heap_set_same, h.hb, setO_some]
      simp
    · rw [List.length_set] at hj
      have hg := h.get j hj
      simp only [u8s, List.map_set] at hg ⊢
      rw [Array.getElem?_setIfInBounds, List.getElem?_set]
      by_cases e : i = j
      · rw [if_pos e, if_pos e]
        subst e
        rw [if_pos (by omega), if_pos (by simpa using hj)]
      · rw [if_neg e, if_neg e]
        exact hg
end Go.Proofs.YtdkikjcpgihjlaaGreatDoor

namespace Go.Proofs.YtdkikjcpgihjlaaGreatDoor
open Go Go.Eng Go.RowKit
set_option maxRecDepth 100000
section
variable [HX]
theorem range_str {l : Str} {w : World} {K : Value → World → Prop} (hK : K (.pointer (some ⟨w.heap.size, 0, none⟩)) (w.alloc (.stringIter (ofL l) 0))) : semE Tryz.prog (Instr.range 9 (str l)) w K := by
  have hT : Tryz.prog.underlying 9 = some .string := by kernel_rfl
  have hr : (Instr.range 9 (str l)).run Tryz.prog w = .ok (.pointer (some ⟨w.heap.size, 0, none⟩)) (w.alloc (.stringIter (ofL l) 0)) := by
    simp [Instr.range, run_bind, run_underlying' hT, run_pure, newObj, Sem.run]
  unfold semE
  rw [hr]
  exact hK
theorem setObj_chg' {w : World} {r : Nat} {o : Obj} (h : r < w.heap.size) : Chg (· = r) w { w with heap := w.heap.setIfInBounds r o } :=
  ⟨rfl, rfl, rfl, by simp, fun k _ hk => by
    show (w.heap.setIfInBounds r o)[k]? = _
    rw [Array.getElem?_setIfInBounds_ne (by omega)]⟩
theorem next_str {r pos : Nat} {l : Str} {T : TypeId} {w : World} {K : Value → World → Prop} (hw : w.heap[r]? = some (.stringIter (ofL l) pos))
    (h0 : l.length ≤ pos → K (.tuple #[.bool false]) w)
    (h1 : pos < l.length → ∀ w', w'.heap[r]? = some (.stringIter (ofL l) (pos + (Utf8.decode (ofL l) pos).2)) → Chg (· = r) w w' → w'.heap.size = w.heap.size → K (.tuple #[.bool true, i64 pos, .int .i32 (Utf8.decode (ofL l) pos).1]) w') :
    semE Tryz.prog (Instr.next (.pointer (some ⟨r, 0, none⟩)) true T) w K := by
  have hg : (getObj r).run Tryz.prog w = .ok (.stringIter (ofL l) pos) w := by simp [getObj, Sem.run, hw]
  have hlt : r < w.heap.size := (Array.getElem?_eq_some_iff.1 hw).1
  unfold semE
  simp only [Instr.next, run_bind, hg, ofL_size]
  by_cases hp : pos < l.length
  · have hset : (setObj r (.stringIter (ofL l) (pos + (Utf8.decode (ofL l) pos).2))).run Tryz.prog w = .ok () { w with heap := w.heap.setIfInBounds r (.stringIter (ofL l) (pos + (Utf8.decode (ofL l) pos).2)) } := by simp [setObj, Sem.run, hw]
    rw [if_pos hp]
    simp only [run_bind, hset, run_pure]
    exact h1 hp _ (by simp [hlt]) (setObj_chg' hlt) (by simp)
  · rw [if_neg hp]
    simp only [run_pure]
    exact h0 (by omega)
end
end Go.Proofs.YtdkikjcpgihjlaaGreatDoor
namespace Go.Proofs.YtdkikjcpgihjlaaGreatDoor
open Go Go.Eng Go.Num Go.RowKit
set_option maxRecDepth 100000
theorem piece_eq (s : Str) : ∀ n i, pieceM s n i = pieceGo s n i
  | 0, _ => rfl
  | n + 1, i => by simp only [pieceM, pieceGo, piece_eq s n]
theorem u8w (n : Nat) : IntKind.u8.wrap (n : Int) = ((n % 256 : Nat) : Int) := by
  have e : (2 : Int) ^ 8 = 256 := by decide
  simp only [IntKind.wrap, IntKind.bits, IntKind.signed, Bool.false_and, Bool.false_eq_true, if_false, e]
  omega
theorem own_low {w : World} {B B' : Nat} {e : TypeId} {size : Nat} {v : Value} {n : Nat} {xs : List Value} (h : Own w B e size v n xs) (hB : B' ≤ B) : Own w B' e size v n xs := by
  obtain ⟨hl, h | ⟨g, cap, cur, h1, h2, h3⟩⟩ := h
  · exact ⟨hl, .inl h⟩
  · exact ⟨hl, .inr ⟨g, cap, cur, h1, Nat.le_trans hB h2, h3⟩⟩
section
variable [HX]
theorem runes_p {s : Str} {w : World} {K : Value → World → Prop} (hl : s.length ≤ 100000) (hK : ∀ v w', Ext w w' → Own w' w.heap.size ST 1 v (runesM s).length ((runesM s).map str) → K v w') : callF Tryz.prog 96 [str s] w K := by
  have hR : runesM s = pieceGo s s.length 0 := piece_eq s _ _
  rw [hR] at hK
  refine W96_ok ?_
  unfold W96
  refine range_str ?_
  refine ⟨fun s' w4 => ∃ (p n f : Nat) (v : Value) (l : List Str), p ≤ s.length ∧ s.length ≤ f + n ∧ ((p = 0 ∧ f = 0) ∨ (f < s.length ∧ p = f + stepM s f)) ∧ s' = [v, i64 (f : Nat)] ∧ l.length ≤ f ∧ l ++ pieceGo s n f = pieceGo s s.length 0 ∧ Ext w w4 ∧ Own w4 (w.heap.size + 1) ST 1 v l.length (l.map str) ∧ w4.heap[w.heap.size]? = some (.stringIter (ofL s) p),
    fun _ w4 => match w4.heap[w.heap.size]? with | some (.stringIter _ p) => s.length - p | _ => 0, ⟨0, s.length, 0, .slice none 0 0, [], Nat.zero_le _, by omega, .inl ⟨rfl, rfl⟩, rfl, Nat.le_refl _, rfl, Chg.alloc (Chg.refl _ _) _, ⟨by simp, .inl ⟨rfl, rfl⟩⟩, heap_anew _ _ _ rfl⟩, ?_⟩
  rintro s' g w4 ⟨p, n, f, v, l, hp, hn, hpf, rfl, hll, he, hx, hO, hit⟩
  simp only [List.getD_cons_zero, List.getD_cons_succ]
  have hw4 : w.heap.size < w4.heap.size := at_lt hit
  have hne : ∀ k, v.ownBlock = some k → k ≠ w.heap.size := fun k hk e => by have := (own_ge hO hk).1; omega
  refine next_str hit (fun hpe => ?_) (fun hpl w5 hit5 hc5 hz5 => ?_)
  · rw [ext_tuple]
    refine ⟨.bool false, rfl, ?_⟩
    rw [condW_false, bin_sne]
    by_cases hs : s = []
    · subst hs
      rw [decide_eq_false (by simp), condW_false]
      have h0 : pieceGo [] n f = [] := piece_end (by simp)
      have h00 : pieceGo ([] : Str) ([] : Str).length 0 = [] := rfl
      rw [h0, List.append_nil] at he
      rw [← he] at hK
      refine hK _ w4 hx ?_
      exact own_low hO (by omega)
    · rw [decide_eq_true hs, condW_true]
      have hsl : 0 < s.length := List.length_pos_iff.2 hs
      obtain ⟨hf, rfl⟩ : f < s.length ∧ p = f + stepM s f := by
        rcases hpf with ⟨h1, h2⟩ | h
        · omega
        · exact h
      have hfit := step_fits hf
      rw [sls_str, bd_none, bd_some]
      refine ⟨by omega, by omega, ?_⟩
      rw [Int.toNat_natCast, List.take_length]
      refine row_s fun t w7 ht hx7 => ?_
      refine append_own2 elem_s (hO.ext hx7) ht (m := 1) rfl (fun u hu => by simp only [List.mem_singleton] at hu; subst hu; rfl) (by omega) (by omega) (by have := hx7.size; omega) fun v' w8 h8 hc8 _ => ?_
      have hx8 : Ext w w8 := (hx.trans hx7).then hc8 fun k hk e => by have := (own_ge hO e).1; omega
      cases n with
      | zero => omega
      | succ n =>
        rw [pieceGo, if_pos hf, piece_end (show s.length ≤ f + stepM s f by omega)] at he
        have et : (s.drop f).take (stepM s f) = s.drop f := List.take_of_length_le (by rw [List.length_drop]; omega)
        rw [et] at he
        rw [← he] at hK
        refine hK _ w8 hx8 ?_
        have := own_low (B' := w.heap.size) h8 (by omega)
        simpa using this
  · rw [ext_tuple]
    refine ⟨.bool true, rfl, ?_⟩
    rw [condW_true, ext_tuple]
    refine ⟨i64 p, rfl, ?_⟩
    have hstep := step_fits hpl
    have hpos := step_pos s p
    rw [dec_step hpl] at hit5
    have hx5 : Ext w w5 := hx.then hc5 fun k hk e => by omega
    have hO5 : Own w5 (w.heap.size + 1) ST 1 v l.length (l.map str) := own_chg hO hc5 fun k hk e => hne k hk e
    have hmu : ∀ (w6 : World), w6.heap[w.heap.size]? = some (.stringIter (ofL s) (p + stepM s p)) → (match w6.heap[w.heap.size]? with | some (.stringIter _ p) => s.length - p | _ => 0) < (match w4.heap[w.heap.size]? with | some (.stringIter _ p) => s.length - p | _ => 0) := fun w6 h6 => by
      rw [h6, hit]
      show s.length - (p + stepM s p) < s.length - p
      omega
    rw [bin_gtr, condW_dec]
    refine ⟨fun hgt => ?_, fun hle => ?_⟩
    · obtain ⟨hf, hpe⟩ : f < s.length ∧ p = f + stepM s f := by
        rcases hpf with ⟨h1, h2⟩ | h
        · omega
        · exact h
      have hfs := step_pos s f
      rw [sls_str, bd_some]
      refine ⟨by omega, by omega, ?_⟩
      rw [bd_some]
      refine ⟨by omega, by simp only [Int.toNat_natCast]; omega, ?_⟩
      simp only [Int.toNat_natCast]
      have e2 : (s.take p).drop f = (s.drop f).take (stepM s f) := by rw [hpe, List.drop_take]; congr 1; omega
      rw [e2]
      refine row_s fun t w7 ht hx7 => ?_
      refine append_own2 elem_s (hO5.ext hx7) ht (m := 1) rfl (fun u hu => by simp only [List.mem_singleton] at hu; subst hu; rfl) (by omega) (by omega) (by have := hx7.size; omega) fun v' w8 h8 hc8 _ => ?_
      have hit8 := hc8.at (hx7.at hit5 id) (fun e => hne _ e rfl)
      cases n with
      | zero => omega
      | succ n =>
        rw [pieceGo, if_pos hf, ← hpe] at he
        refine ⟨⟨p + stepM s p, n, p, v', l ++ [(s.drop f).take (stepM s f)], hstep, by omega, .inr ⟨hpl, rfl⟩, rfl, by simp; omega, by simpa using he, (hx5.trans hx7).then hc8 fun k hk e => ?_, by simpa using h8, hit8⟩, hmu _ hit8⟩
        have := (own_ge hO e).1; omega
    · have hp0 : p = 0 := by omega
      subst hp0
      obtain rfl : f = 0 := by
        rcases hpf with ⟨_, h2⟩ | ⟨_, h2⟩
        · exact h2
        · have := step_pos s f; omega
      exact ⟨⟨0 + stepM s 0, n, 0, v, l, by omega, hn, .inr ⟨hpl, rfl⟩, rfl, hll, he, hx5, hO5, hit5⟩, hmu _ hit5⟩
end
end Go.Proofs.YtdkikjcpgihjlaaGreatDoor
namespace Go.Proofs.YtdkikjcpgihjlaaGreatDoor
open Go Go.Eng Go.Num Go.RowKit
set_option maxRecDepth 100000
theorem piece_len (s : Str) : ∀ n i, (pieceM s n i).length ≤ n
  | 0, _ => Nat.le_refl _
  | n + 1, i => by
    simp only [pieceM]
    split
    · have := piece_len s n (i + stepM s i)
      simp only [List.length_cons]; omega
    · simp
theorem runes_len (s : Str) : (runesM s).length ≤ s.length := piece_len s _ _
theorem case_step {lo tb : Nat} {l cur : Str} {i : Nat} {c : UInt8} (hc : cur = casedM lo tb (l.take i) ++ l.drop i) (hi : l[i]? = some c) : cur[i]? = some c ∧ casedM lo tb (l.take (i + 1)) ++ l.drop (i + 1) = cur.set i (caseB lo tb c) := by
  obtain ⟨hlt, rfl⟩ := List.getElem?_eq_some_iff.1 hi
  have hlen : (casedM lo tb (l.take i)).length = i := by simp [casedM]; omega
  constructor
  · rw [hc, List.getElem?_append_right (by omega), hlen, Nat.sub_self, List.getElem?_drop, Nat.add_zero, hi]
  · rw [hc, List.set_append_right _ _ (by omega), hlen, Nat.sub_self, List.drop_eq_getElem_cons hlt, List.set_cons_zero]
    have e : l.take (i + 1) = l.take i ++ [l[i]] := by rw [List.take_add_one, List.getElem?_eq_getElem hlt]; rfl
    have e2 : casedM lo tb (l.take (i + 1)) = casedM lo tb (l.take i) ++ [caseB lo tb l[i]] := by unfold casedM; rw [e, List.map_append]; rfl
    rw [e2, List.append_assoc]; rfl
section
variable [HX]
theorem cased_p {lo tb : Nat} {l : Str} {w : World} {K : Value → World → Prop} (h1 : lo + 26 ≤ 255) (h2 : tb + 26 ≤ 255) (hl : l.length ≤ 1000000) (hK : ∀ w', Ext w w' → K (str (casedM lo tb l)) w') :
    callF Tryz.prog 57 [str l, .int .u8 lo, .int .u8 tb] w K := by
  refine W57_ok ?_
  unfold W57
  refine to_bytes_o (by kernel_rfl) (by kernel_rfl) (by kernel_rfl) fun b cap c w1 hb hB hx => ?_
  rw [lenl_sl]
  refine loop_up l.length (fun i w' => ∃ c cur, Ext w w' ∧ BytB w' b cap c cur ∧ cur = casedM lo tb (l.take i) ++ l.drop i) ⟨c, l, hx, hB, by simp [casedM]⟩ ?_ ?_
  · rintro i w3 g L hi ⟨c3, cur, hx3, hB3, hc⟩ hL
    obtain ⟨u, hu⟩ : ∃ u, l[i]? = some u := ⟨_, List.getElem?_eq_getElem hi⟩
    obtain ⟨s1, s2⟩ := case_step hc hu
    have hcl : cur.length = l.length := by rw [hc]; simp [casedM]; omega
    have hltI : (i : Int) < (l.length : Int) := by omega
    simp only [List.getD_cons_zero]
    rw [bin_lss, decide_eq_true hltI, condW_true]
    refine JoinW.cut (fun st w' => ∃ c' cur', Ext w w' ∧ BytB w' b cap c' cur' ∧ cur' = casedM lo tb (l.take (i + 1)) ++ l.drop (i + 1)) ?_ ?_
    · have hby := hB3.byt
      rw [hcl] at hby
      refine ixa_ld (x := .int .u8 (u.toNat : Nat)) hby (by rw [u8s_length, hcl]) (by rw [u8s_get, s1]; rfl) ?_
      have hu256 := UInt8.toNat_lt u
      have e1 : IntKind.u8.wrap ((lo : Int) + 26) = ((lo + 26 : Nat) : Int) := by
        have := u8w (lo + 26)
        rw [Nat.mod_eq_of_lt (by omega)] at this
        rw [← this]; rfl
      simp only [bin_geq, bin_add, e1, bin_lss, isB_t, GdW_pure, List.getD_cons_zero, pick_gd_and]
      intro _
      rw [condW_b]
      refine ⟨fun ht => ?_, fun hf => ?_⟩
      · simp only [Bool.and_eq_true, decide_eq_true_eq] at ht
        have g1 : lo ≤ u.toNat := by omega
        have g2 : u.toNat < lo + 26 := by omega
        have ey : caseB lo tb u = UInt8.ofNat (u.toNat - lo + tb) := by unfold caseB; rw [if_pos ⟨g1, g2⟩]
        have en : (UInt8.ofNat (u.toNat - lo + tb)).toNat = u.toNat - lo + tb := by rw [UInt8.toNat_ofNat']; omega
        have e2 : IntKind.u8.wrap ((u.toNat : Int) - (lo : Int)) = ((u.toNat - lo : Nat) : Int) := by
          have := u8w (u.toNat - lo)
          rw [Nat.mod_eq_of_lt (by omega)] at this
          rw [← this]; congr 1; omega
        have e3 : IntKind.u8.wrap (((u.toNat - lo : Nat) : Int) + (tb : Int)) = ((u.toNat - lo + tb : Nat) : Int) := by
          have := u8w (u.toNat - lo + tb)
          rw [Nat.mod_eq_of_lt (by omega)] at this
          rw [← this]; congr 1
        simp only [bin_sub, bin_add, e2, e3]
        have := set_byte (y := UInt8.ofNat (u.toNat - lo + tb)) (K := fun w7 => ∃ c' cur', Ext w w7 ∧ BytB w7 b cap c' cur' ∧ cur' = casedM lo tb (l.take (i + 1)) ++ l.drop (i + 1)) hB3 (i := i) (by omega) fun c' w' hB' hc' hz' =>
          ⟨c', _, hx3.then hc' fun k hk e => by have : k = b := e; omega, hB', by rw [s2, ey]⟩
        rw [en, hcl] at this
        exact this
      · have : caseB lo tb u = u := by
          unfold caseB
          rw [if_neg]
          rintro ⟨a1, a2⟩
          have : (decide ((lo : Int) ≤ (u.toNat : Int)) && decide ((u.toNat : Int) < ((lo + 26 : Nat) : Int))) = true := by
            simp only [Bool.and_eq_true, decide_eq_true_eq]; omega
          rw [this] at hf; cases hf
        refine ⟨c3, cur, hx3, hB3, ?_⟩
        rw [s2, this]
        have hlt2 : i < cur.length := by omega
        rw [List.getElem?_eq_getElem hlt2] at s1
        rw [← Option.some.inj s1, List.set_getElem_self]
    · rintro st g' w8 ⟨c', cur', hx8, hB8, he8⟩
      rw [bin_add, up1 (by omega)]
      exact hL w8 ⟨c', cur', hx8, hB8, he8⟩
  · rintro w3 g L ⟨c3, cur, hx3, hB3, hc⟩
    simp only [List.getD_cons_zero]
    rw [bin_lss, decide_eq_false (Int.lt_irrefl _), condW_false]
    have hcl : cur.length = l.length := by rw [hc]; simp [casedM]
    have hby := hB3.byt
    rw [hcl] at hby
    rw [conv_bytes (e := U8) (by kernel_rfl) (by kernel_rfl) (by kernel_rfl) hby, hc, List.take_length, List.drop_length, List.append_nil]
    exact hK w3 hx3
theorem flower_p {x : JV} {sv : Value} {w : World} {K : Value → World → Prop} (h : ItemsAt w sv [x]) (ht : x.t.length ≤ 1000000) (hK : DoK (some (tV (casedM 65 97 x.t))) w K) : callF Tryz.prog 55 [sv] w K := by
  refine W55_ok ?_
  unfold W55
  refine alloc_new fun b w1 hb hz hbb hx => ?_
  refine (h.ext hx).ft (i := 0) rfl rfl fun _ => ?_
  refine cased_p (lo := 65) (tb := 97) (by decide) (by decide) ht fun w2 hx2 => ?_
  refine ftext_p fun w3 hx3 => ?_
  exact do_some rfl ((hx2.trans hx3).at hbb id) rfl (by omega) (hx.trans (hx2.trans hx3)) (flat_rep (by simp [casedM]; omega)) hK
theorem upper_p {x : JV} {sv : Value} {w : World} {K : Value → World → Prop} (h : ItemsAt w sv [x]) (ht : x.t.length ≤ 1000000) (hK : DoK (some (tV (casedM 97 65 x.t))) w K) : callF Tryz.prog 68 [sv] w K := by
  refine W68_ok ?_
  unfold W68
  refine alloc_new fun b w1 hb hz hbb hx => ?_
  refine (h.ext hx).ft (i := 0) rfl rfl fun _ => ?_
  refine cased_p (lo := 97) (tb := 65) (by decide) (by decide) ht fun w2 hx2 => ?_
  refine ftext_p fun w3 hx3 => ?_
  exact do_some rfl ((hx2.trans hx3).at hbb id) rfl (by omega) (hx.trans (hx2.trans hx3)) (flat_rep (by simp [casedM]; omega)) hK
theorem keysF_p {x : JV} {sv : Value} {w : World} {K : Value → World → Prop} (h : ItemsAt w sv [x]) (hl : x.ks.length ≤ 1000000) (hK : DoK (some (lV (x.ks.map tV))) w K) : callF Tryz.prog 51 [sv] w K := by
  refine W51_ok ?_
  unfold W51
  refine alloc_new fun b w1 hb hz hbb hx => ?_
  refine (h.ext hx).fs (i := 0) rfl rfl fun u T hu _ hs => ?_
  refine ftexts_p hu hl hs fun cs w2 hx2 h2 => ?_
  exact do_some rfl (hx2.at hbb id) rfl (by omega) (hx.trans hx2) (h2.at (by omega) (by omega)) hK
theorem values_p {x : JV} {sv : Value} {w : World} {K : Value → World → Prop} (h : ItemsAt w sv [x]) (hl : x.xs.length ≤ 1000000) (hf : ∀ y ∈ x.xs, fewW y = true) (hK : DoK (some (lV x.xs)) w K) : callF Tryz.prog 69 [sv] w K := by
  refine W69_ok ?_
  unfold W69
  refine alloc_new fun b w1 hb hz hbb hx => ?_
  refine (h.ext hx).fx (i := 0) rfl rfl fun u hu => ?_
  refine W70_ok ?_
  unfold W70
  refine alloc_new fun b2 w2 hb2 hz2 hbb2 hx2 => ?_
  refine clones_p (fun y hy => clone_w y (hf y hy)) (hu.ext hx2) hl fun sv' w3 hx3 ⟨L, hL1, hL2⟩ hg => ?_
  have o1 : one1 sv' = true := by obtain ⟨p, c, rfl, _⟩ := hL1.shape; rfl
  have hsc : sv'.cells = #[sv'] := by obtain ⟨p, c, rfl, _⟩ := hL1.shape; rfl
  rw [put_int, put_one _ _ _ _ _ hsc, put_nil]
  refine ⟨by simp, by simp, ?_⟩
  have hV : VRepP (From w2.heap.size) w3 (lV x.xs) [i64 5, .bool false, str [], sv', .slice none 0 0] :=
    VRepP.mk (v := lV x.xs) hL1 hL2 (SlAt.nil w3 0) ⟨by show x.xs.length ≤ _; omega, by simp [JV.ks], by simp [JV.t], by simp [JV.ks]⟩ (fun _ => hg) (fun h => by simp [JV.ks] at h)
  refine ret_f (w0 := w1) (hx3.at hbb2 id) rfl (by omega) (hx2.trans hx3) (hV.at (by omega) (by omega)) fun w4 hx4 h4 => ?_
  exact do_some rfl (hx4.at hbb id) rfl (by omega) (hx.trans hx4) (h4.at (by omega) (by omega)) hK
theorem length_p {x : JV} {sv : Value} {w : World} {K : Value → World → Prop} (hT : TabF w) (h : ItemsAt w sv [x]) (ht : x.t.length ≤ 100000) (hK : DoK (lengthM x) w K) : callF Tryz.prog 53 [sv] w K := by
  refine W53_ok ?_
  unfold W53
  refine alloc_new fun b w1 hb hz hbb hx => ?_
  have h1 := h.ext hx
  refine h1.fk (i := 0) rfl rfl ?_
  rw [bin_eql, condW_dec]
  refine ⟨fun k4 => ?_, fun k4 => ?_⟩
  · refine h1.ft (i := 0) rfl rfl fun _ => ?_
    refine runes_p ht fun v w2 hx2 hO => ?_
    rw [lenl_at hO.sl]
    have hr := runes_len x.t
    refine int_p (hT.ext (hx.trans hx2)) (by omega) (by omega) fun w3 hx3 => ?_
    refine do_some ?_ ((hx2.trans hx3).at hbb id) rfl (by omega) (hx.trans (hx2.trans hx3)) (flat_rep (Nat.le_trans (itoa_len2 (by omega) (by omega)) (by decide))) hK
    unfold lengthM; rw [if_pos k4]
  · have hL : lengthM x = if x.k = 5 ∨ x.k = 6 then some (iV x.xs.length) else none := by unfold lengthM; rw [if_neg k4]
    rw [hL] at hK
    refine JoinW.cut (fun st w' => st = [.bool (decide (x.k = 5 ∨ x.k = 6))] ∧ w' = w1) ?_ ?_
    · rw [bin_eql, condW_dec]
      refine ⟨fun k5 => ⟨by rw [decide_eq_true k5, decide_eq_true (Or.inl k5)], rfl⟩, fun k5 => ?_⟩
      rw [bin_eql]
      refine ⟨?_, rfl⟩
      by_cases k6 : x.k = 6
      · rw [decide_eq_true k6, decide_eq_true (Or.inr k6)]
      · rw [decide_eq_false k6, decide_eq_false (by rintro (e | e) <;> contradiction)]
    · rintro st g w7 ⟨rfl, rfl⟩
      simp only [List.getD_cons_zero]
      rw [condW_dec]
      refine ⟨fun hk => ?_, fun hk => ?_⟩
      · rw [if_pos hk] at hK
        refine h1.fx (i := 0) rfl rfl fun u hu => ?_
        rw [hu.len]
        have := hu.few
        refine int_p (hT.ext hx) (by omega) (by omega) fun w3 hx3 => ?_
        exact do_some rfl (hx3.at hbb id) rfl (by omega) (hx.trans hx3) (flat_rep (Nat.le_trans (itoa_len2 (by omega) (by omega)) (by decide))) hK
      · rw [if_neg hk] at hK
        exact do_none rfl hbb rfl (by omega) hx hK
theorem tostr_p {x : JV} {sv : Value} {w : World} {K : Value → World → Prop} (h : ItemsAt w sv [x]) (hK : DoK (tostrM x) w K) : callF Tryz.prog 67 [sv] w K := by
  refine W67_ok ?_
  unfold W67
  refine alloc_new fun b w1 hb hz hbb hx => ?_
  have h1 := h.ext hx
  refine h1.fk (i := 0) rfl rfl ?_
  rw [bin_eql, condW_dec]
  refine ⟨fun k2 => ?_, fun k2 => ?_⟩
  · refine h1.fb (i := 0) rfl rfl ?_
    have hL : tostrM x = some (tV (if x.b then [116, 114, 117, 101] else [102, 97, 108, 115, 101])) := by unfold tostrM; rw [if_pos k2]
    rw [hL] at hK
    rw [condW_b]
    refine ⟨fun hb1 => ?_, fun hb1 => ?_⟩
    · rw [hb1] at hK
      refine ftext_p fun w3 hx3 => ?_
      exact do_some rfl (hx3.at hbb id) rfl (by omega) (hx.trans hx3) (flat_rep (by simp)) hK
    · rw [hb1] at hK
      refine ftext_p fun w3 hx3 => ?_
      exact do_some rfl (hx3.at hbb id) rfl (by omega) (hx.trans hx3) (flat_rep (by simp)) hK
  · have hL : tostrM x = if x.k = 3 ∨ x.k = 4 then some (tV x.t) else none := by unfold tostrM; rw [if_neg k2]
    rw [hL] at hK
    refine JoinW.cut (fun st w' => st = [.bool (decide (x.k = 3 ∨ x.k = 4))] ∧ w' = w1) ?_ ?_
    · rw [bin_eql, condW_dec]
      refine ⟨fun k5 => ⟨by rw [decide_eq_true k5, decide_eq_true (Or.inl k5)], rfl⟩, fun k5 => ?_⟩
      rw [bin_eql]
      refine ⟨?_, rfl⟩
      by_cases k6 : x.k = 4
      · rw [decide_eq_true k6, decide_eq_true (Or.inr k6)]
      · rw [decide_eq_false k6, decide_eq_false (by rintro (e | e) <;> contradiction)]
    · rintro st g w7 ⟨rfl, rfl⟩
      simp only [List.getD_cons_zero]
      rw [condW_dec]
      refine ⟨fun hk => ?_, fun hk => ?_⟩
      · rw [if_pos hk] at hK
        refine h1.ft (i := 0) rfl rfl fun ht => ?_
        refine ftext_p fun w3 hx3 => ?_
        exact do_some rfl (hx3.at hbb id) rfl (by omega) (hx.trans hx3) (flat_rep ht) hK
      · rw [if_neg hk] at hK
        exact do_none rfl hbb rfl (by omega) hx hK
theorem toint_p {x : JV} {sv : Value} {w : World} {K : Value → World → Prop} (h : ItemsAt w sv [x]) (ht : x.t.length ≤ 9223372036854775807) (hK : DoK (tointM x) w K) : callF Tryz.prog 66 [sv] w K := by
  refine W66_ok ?_
  unfold W66
  refine alloc_new fun b w1 hb hz hbb hx => ?_
  have h1 := h.ext hx
  refine h1.fk (i := 0) rfl rfl ?_
  simp only [bin_neq, isB_t, GdW_pure, List.getD_cons_zero, pick_gd_and]
  intro _
  refine GdW.act (!goodN x.t) (fun w' => Ext w1 w') (fun _ => Chg.refl _ _) (fun _ J hJ => ?_) fun g w4 hx4 => ?_
  · refine h1.ft (i := 0) rfl rfl fun _ => ?_
    refine numgood_ref ht fun w3 hx3 => ?_
    rw [un_not]
    exact hJ w3 hx3
  simp only [List.getD_cons_zero, isB_f, pick_gd_or]
  have hbb4 := hx4.at hbb id
  have e1 : decide (x.k ≠ 4) = !decide (x.k = 4) := by simp
  have e2 : decide (x.k ≠ 3) = !decide (x.k = 3) := by simp
  rw [condW_b, e1, e2]
  refine ⟨fun hbad => ?_, fun hok => ?_⟩
  · refine do_none ?_ hbb4 rfl (by omega) (hx.trans hx4) hK
    unfold tointM
    rw [if_neg]
    rintro ⟨hk, hg⟩
    rw [hg] at hbad
    rcases hk with e | e <;> simp [e] at hbad
  · refine (h1.ext hx4).ft (i := 0) rfl rfl fun _ => ?_
    simp only [put_int, put_str, put_nil, List.length_cons, List.length_nil, List.set_cons_zero, List.set_cons_succ]
    refine ⟨by omega, by omega, ?_⟩
    refine do_some ?_ hbb4 rfl (by omega) (hx.trans hx4) (flat_rep ht) hK
    unfold tointM
    rw [if_pos]
    simp only [Bool.or_eq_false_iff, Bool.and_eq_false_iff, Bool.not_eq_false', decide_eq_true_eq] at hok
    obtain ⟨hk, hg⟩ := hok
    exact ⟨hk.symm, hg⟩
end
end Go.Proofs.YtdkikjcpgihjlaaGreatDoor
namespace Go.Proofs.YtdkikjcpgihjlaaGreatDoor
open Go Go.Eng Go.Num Go.RowKit
set_option maxRecDepth 100000
theorem fold_ge : ∀ (d : Str) (acc : Nat), acc ≤ d.foldl (fun n c => n * 10 + Num.dval c) acc
  | [], acc => Nat.le_refl _
  | c :: d, acc => Nat.le_trans (by omega) (fold_ge d (acc * 10 + Num.dval c))
theorem pu_all : ∀ (d : Str) (acc : Nat), d.all Num.isDig = true → acc < 18446744073709551616 →
    (Lib.parseUint10 acc d = .ok (d.foldl (fun n c => n * 10 + Num.dval c) acc) ∧ d.foldl (fun n c => n * 10 + Num.dval c) acc < 18446744073709551616) ∨ (Lib.parseUint10 acc d = .range ∧ 18446744073709551616 ≤ d.foldl (fun n c => n * 10 + Num.dval c) acc)
  | [], acc, _, h => .inl ⟨rfl, h⟩
  | c :: d, acc, ha, h => by
    simp only [List.all_cons, Bool.and_eq_true] at ha
    have hc := ha.1
    simp only [Num.isDig, Bool.and_eq_true, decide_eq_true_eq] at hc
    simp only [Lib.parseUint10, if_pos hc, List.foldl_cons]
    have hd : Num.dval c = c.toNat - 48 := rfl
    split
    · right
      refine ⟨rfl, Nat.le_trans ?_ (fold_ge d _)⟩
      omega
    · split
      · right
        refine ⟨rfl, Nat.le_trans ?_ (fold_ge d _)⟩
        omega
      · rw [hd]
        exact pu_all d _ ha.2 (by omega)
theorem good_shape {s : Str} (hg : goodN s = true) : (s = 45 :: dig s ∧ neg s = true ∨ s = dig s ∧ neg s = false) ∧ dig s ≠ [] ∧ (dig s).all Num.isDig = true := by
  obtain ⟨g1, g2, g3, g4⟩ := goodN_out hg
  refine ⟨?_, fun e => by rw [e] at g1; simp at g1, g4⟩
  cases s with
  | nil => simp [dig] at g1
  | cons c r =>
    by_cases h : c = 45
    · subst h; left; simp [dig, neg]
    · right; simp [dig, neg, h]
theorem atoi_good {s : Str} (hg : goodN s = true) : (Lib.atoiAll s = .ok (num s) ∧ -9223372036854775808 ≤ num s ∧ num s ≤ 9223372036854775807) ∨ (Lib.atoiAll s = .range ∧ (num s < -9223372036854775808 ∨ 9223372036854775807 < num s)) := by
  obtain ⟨hs, hne, ha⟩ := good_shape hg
  have hp := pu_all (dig s) 0 ha (by decide)
  have hd : (dig s).foldl (fun n c => n * 10 + Num.dval c) 0 = dec (dig s) := rfl
  rw [hd] at hp
  rcases hs with ⟨e, hn⟩ | ⟨e, hn⟩
  · have hnum : num s = -(dec (dig s) : Int) := by unfold num; rw [hn]; rfl
    rw [hnum]
    generalize dig s = d at *
    subst e
    simp only [Lib.atoiAll, Lib.parseMag]
    simp only [show (45 : UInt8).toNat = 45 from rfl, or_true, if_true, not_true_eq_false, false_and, if_false, true_and, if_neg hne]
    rcases hp with ⟨h1, h2⟩ | ⟨h1, h2⟩
    · simp only [h1]
      by_cases hb : 9223372036854775808 < dec d
      · right
        rw [if_pos hb]
        exact ⟨rfl, .inl (by omega)⟩
      · left
        rw [if_neg hb]
        exact ⟨rfl, by omega, by omega⟩
    · right
      simp only [h1]
      exact ⟨trivial, .inl (by omega)⟩
  · have hnum : num s = (dec (dig s) : Int) := by unfold num; rw [hn]; rfl
    rw [hnum]
    cases hd2 : dig s with
    | nil => exact absurd hd2 hne
    | cons c r =>
      rw [hd2] at hp ha e
      have hc := ha
      simp only [List.all_cons, Bool.and_eq_true, Num.isDig, decide_eq_true_eq] at hc
      have n43 : ¬ c.toNat = 43 := by omega
      have n45 : ¬ c.toNat = 45 := by omega
      rw [e]
      simp only [Lib.atoiAll, Lib.parseMag, n43, n45, or_self, if_false, not_false_eq_true, true_and, false_and, if_neg (show ¬ (c :: r = []) by simp)]
      rcases hp with ⟨h1, h2⟩ | ⟨h1, h2⟩
      · simp only [h1]
        by_cases hb : 9223372036854775808 ≤ dec (c :: r)
        · right
          rw [if_pos hb]
          exact ⟨rfl, .inr (by omega)⟩
        · left
          rw [if_neg hb]
          exact ⟨rfl, by omega, by omega⟩
      · right
        simp only [h1]
        exact ⟨trivial, .inr (by omega)⟩
theorem eq_nil2 (K : Value → Prop) (w : World) : eqQ Tryz.prog .neq 106 false true .nilIface .nilIface w K ↔ K (.bool false) := by
  have h : (do eqGuard .neq 106 (stand false) (stand true) .nilIface .nilIface; binOp .neq 106 .nilIface .nilIface : Sem Value).run Tryz.prog w = .ok (.bool false) w := by kernel_rfl
  unfold eqQ semQ
  rw [h]
  exact ⟨fun ⟨v, h1, h2⟩ => by cases h1; exact h2, fun h2 => ⟨_, rfl, h2⟩⟩
theorem ne_nil2 (T : TypeId) (v : Value) (w : World) (K : Value → Prop) : eqQ Tryz.prog .neq 106 false true (.iface T v) .nilIface w K ↔ K (.bool true) := by
  have h : (do eqGuard .neq 106 (stand false) (stand true) (.iface T v) .nilIface; binOp .neq 106 (.iface T v) .nilIface : Sem Value).run Tryz.prog w = .ok (.bool true) w := by kernel_rfl
  unfold eqQ semQ
  rw [h]
  exact ⟨fun ⟨v, h1, h2⟩ => by cases h1; exact h2, fun h2 => ⟨_, rfl, h2⟩⟩
def intM (s : Str) : Option Int := if goodN s = true ∧ -9223372036854775808 ≤ num s ∧ num s ≤ 9223372036854775807 then some (num s) else none
section
variable [HX]
theorem atoi_x {s : Str} {w : World} {K : Value → World → Prop} (hT : TabF w) (hl : s.length ≤ 1000000)
    (hK : ∀ n e w', Ext w w' → ((e = .nilIface ∧ Lib.atoiAll s = .ok n) ∨ (∃ T v, e = .iface T v) ∧ ∀ n', Lib.atoiAll s ≠ .ok n') → K (.tuple #[i64 n, e]) w') :
    callF Tryz.prog 138 [str s] w K := by
  refine W138_ok ?_
  unfold W138
  refine of_calls (args := #[str s]) Tryz.call172 ((Tryz.internal_strconv_Atoi_all (ofL s) (by rw [ofL_size]; omega) w).mono ?_)
  rintro e w1 ⟨rfl, hw⟩
  rw [ofL_data]
  have hx1 : Ext w w1 := by
    rcases hw with rfl | ⟨t, rfl⟩
    · exact Chg.refl _ _
    · exact bytes_ext _ _ _
  have hT1 := hT.ext hx1
  refine ⟨_, rfl, ?_⟩
  rcases hA : Lib.atoiAll s with n | _ | _
  · simp only [Lib.intTuple, ext_tuple]
    refine ⟨_, rfl, _, rfl, ?_⟩
    rw [eq_nil2, condW_false]
    exact hK n _ w1 hx1 (.inl ⟨rfl, hA⟩)
  · simp only [Lib.intTuple, ext_tuple]
    refine ⟨_, rfl, _, rfl, ?_⟩
    rw [ne_nil2, condW_true]
    obtain ⟨T, v, hv⟩ := hT1.syn
    refine of_calls (args := #[str [65, 116, 111, 105], str s, i64 0, i64 0, .iface 171 (.int .i64 2)]) Tryz.call173 ((Tryz.strconv_toError_syntax (ofL [65, 116, 111, 105]) (ofL s) 0 0 _ w1 (by rw [ofL_size]; omega) hv (.inr ⟨T, v, rfl⟩)).mono ?_)
    rintro e w' ⟨N, rfl, _, _, hb⟩
    exact ⟨_, rfl, hK 0 _ w' (hx1.trans (Chg.of_below hb)) (.inr ⟨⟨_, _, rfl⟩, fun n' h => by rw [hA] at h; cases h⟩)⟩
  · simp only [Lib.intTuple, ext_tuple]
    refine ⟨_, rfl, _, rfl, ?_⟩
    rw [ne_nil2, condW_true]
    obtain ⟨T, v, hv⟩ := hT1.rng
    refine of_calls (args := #[str [65, 116, 111, 105], str s, i64 0, i64 0, .iface 171 (.int .i64 1)]) Tryz.call173 ((Tryz.strconv_toError_range (ofL [65, 116, 111, 105]) (ofL s) 0 0 _ w1 (by rw [ofL_size]; omega) hv (.inr ⟨T, v, rfl⟩)).mono ?_)
    rintro e w' ⟨N, rfl, _, _, hb⟩
    exact ⟨_, rfl, hK _ _ w' (hx1.trans (Chg.of_below hb)) (.inr ⟨⟨_, _, rfl⟩, fun n' h => by rw [hA] at h; cases h⟩)⟩
theorem numint_x {s : Str} {w : World} {K : Value → World → Prop} (hT : TabF w) (hl : s.length ≤ 1000000) (hK : ∀ w', Ext w w' → K (.tuple #[i64 ((intM s).getD 0), .bool (intM s).isSome]) w') : callF Tryz.prog 100 [str s] w K := by
  refine W100_ok ?_
  unfold W100
  refine atoi_x hT hl fun n e w1 hx1 he => ?_
  simp only [ext_tuple]
  refine ⟨_, rfl, _, rfl, ?_⟩
  rcases he with ⟨rfl, hn⟩ | ⟨⟨T, v, rfl⟩, hn⟩
  · rw [eq_nil2]
    simp only [isB_f, Bool.not_false]
    refine GdW.act (!goodN s) (fun w' => Ext w1 w') (fun _ => Chg.refl _ _) (fun _ J hJ => ?_) fun g w4 hx4 => ?_
    · refine numgood_ref (by omega) fun w3 hx3 => ?_
      rw [un_not]
      exact hJ w3 hx3
    simp only [List.getD_cons_zero, pick_f, cond_true]
    have hx := hx1.trans hx4
    rw [condW_b]
    refine ⟨fun hg => ?_, fun hg => ?_⟩
    · have : intM s = none := by unfold intM; rw [if_neg]; rintro ⟨h, _⟩; rw [h] at hg; cases hg
      rw [this] at hK
      exact hK w4 hx
    · have hg : goodN s = true := by simpa using hg
      rcases atoi_good hg with ⟨h1, h2, h3⟩ | ⟨h1, _⟩
      · rw [h1] at hn
        cases hn
        have : intM s = some (num s) := by unfold intM; rw [if_pos ⟨hg, h2, h3⟩]
        rw [this] at hK
        exact hK w4 hx
      · rw [h1] at hn; cases hn
  · rw [ne_nil2]
    simp only [isB_f, Bool.not_true, GdW_f]
    intro g
    rw [pick_t, condW_true]
    have : intM s = none := by
      unfold intM
      rw [if_neg]
      rintro ⟨hg, h2, h3⟩
      rcases atoi_good hg with ⟨h1, _⟩ | ⟨_, h4⟩
      · exact hn _ h1
      · omega
    rw [this] at hK
    exact hK w1 hx1
theorem join_any {l : List Str} {T : TypeId} {v : Value} {sep : Str} {w : World} {K : Value → World → Prop} (h : SlAt w T v l.length (l.map str)) (hl : l.length ≤ 1000000) (hs : (Lib.join l sep).length ≤ 140737488355328) (hK : ∀ w', Ext w w' → K (str (Lib.join l sep)) w') :
    callF Tryz.prog 94 [v, str sep] w K := by
  obtain ⟨p, cap, rfl, hc, hp, hcells⟩ := h
  have hm : (l.map ofL).map (fun x => x.data.toList) = l := by rw [List.map_map]; exact (List.map_congr_left (fun x _ => by simp [ofL])).trans (List.map_id l)
  by_cases hne : l = []
  · subst hne
    refine of_calls (args := #[.slice p 0 cap, str sep]) Tryz.call94 ((Tryz.strings_Join_none p cap (ofL sep) w).mono ?_)
    rintro e w' ⟨rfl, rfl⟩
    exact ⟨_, rfl, hK _ (Chg.refl _ _)⟩
  · obtain ⟨b, off, c, fr, rfl, hb, hcs⟩ := hcells (by simpa using hne)
    have hll : (l.map ofL).length = l.length := List.length_map _
    refine of_calls (args := #[.slice (some ⟨b, off, none⟩) l.length cap, str sep]) Tryz.call94 ?_
    have := Tryz.strings_Join b off cap (l.map ofL) (ofL sep) w (fun j x hx => ?_) (at_lt hb) (by rw [hll]; omega) (by rw [hll]; exact hc) (by rw [hm, ofL_data]; exact hs)
    · rw [hll, hm, ofL_data] at this
      refine this.mono ?_
      rintro e w' ⟨rfl, hbl⟩
      exact ⟨_, rfl, hK _ (Chg.of_below hbl)⟩
    · rw [List.getElem?_map, Option.map_eq_some_iff] at hx
      obtain ⟨y, hy, rfl⟩ := hx
      have hj := (List.getElem?_eq_some_iff.1 hy).1
      rw [cell_eq, hb, cellO_some, hcs j (by simpa using hj), List.getElem?_map, hy]
      rfl
theorem fjoin_len (sep : Str) : ∀ (l : List Str) (B : Nat), (∀ x ∈ l, x.length ≤ B) → (Lib.join l sep).length ≤ l.length * (B + sep.length)
  | [], B, _ => by simp [Lib.join]
  | [x], B, h => by have := h x (by simp); simp [Lib.join, List.intercalate]; omega
  | x :: y :: r, B, h => by
    have ih := fjoin_len sep (y :: r) B fun z hz => h z (List.mem_cons_of_mem _ hz)
    have h1 := h x (by simp)
    have e : Lib.join (x :: y :: r) sep = x ++ (sep ++ Lib.join (y :: r) sep) := by simp [Lib.join, List.intercalate]
    rw [e, List.length_append, List.length_append]
    simp only [List.length_cons] at ih ⊢
    rw [Nat.add_mul (r.length + 1) 1]
    omega
end
end Go.Proofs.YtdkikjcpgihjlaaGreatDoor
namespace Go.Proofs.YtdkikjcpgihjlaaGreatDoor
open Go Go.Eng Go.Num Go.RowKit
set_option maxRecDepth 100000
theorem good_len {s : Str} (h : goodN s = true) : s.length ≤ 101 := by
  obtain ⟨_, g2, _, _⟩ := goodN_out h
  obtain ⟨hs, _⟩ := good_shape h
  rcases hs with ⟨e, _⟩ | ⟨e, _⟩
  · rw [e, List.length_cons]; omega
  · rw [e]; omega
theorem splitK_le (sep : Str) (save : Nat) : ∀ (k : Nat) (s : Str), ∀ z ∈ Lib.splitK sep save k s, z.length ≤ s.length
  | 0, s, z, h => by simp only [Lib.splitK, List.mem_singleton] at h; rw [h]; omega
  | k + 1, s, z, h => by
    simp only [Lib.splitK] at h
    split at h
    · simp only [List.mem_singleton] at h; rw [h]; omega
    · rcases List.mem_cons.1 h with rfl | h
      · rw [List.length_take]; omega
      · have := splitK_le sep save k _ z h
        rw [List.length_drop] at this; omega
theorem head_t {v : JV} (h : plainM v = true) : v.t.length ≤ 16384 := by
  rw [plainM_eq, Bool.and_eq_true] at h
  obtain ⟨_, _, _, h4, _, _, h7, h8, _⟩ := headOk_out h.1
  by_cases ht : v.t = []
  · rw [ht]; simp
  · rcases h4 ht with k | k
    · have := good_len (h7 k)
      omega
    · exact h8 k
theorem st_row {g off n : Nat} {T : TypeId} {l : List Value} {c : Array Value} {w : World} {K : World → Prop} (hb : w.heap[g]? = some (.cells c T (0, 0))) (hl : l.length = n) (h1 : l.all one1 = true) (ho : off + n ≤ c.size)
    (hK : ∀ w' c', w'.heap[g]? = some (.cells c' T (0, 0)) → c'.size = c.size → (∀ j, j < n → c'[off + j]? = l[j]?) → (∀ q, q < off ∨ off + n ≤ q → c'[q]? = c[q]?) → Chg (fun k => k = g) w w' → w'.heap.size = w.heap.size → K w') :
    stW n (.pointer (some ⟨g, off, none⟩)) (.agg l.toArray) w K := by
  rw [st_agg]
  refine ⟨hl, ?_⟩
  have key : ∀ (r : List Value) (i : Nat) (w1 : World) (c1 : Array Value), i + r.length = n → r.all one1 = true → w1.heap[g]? = some (.cells c1 T (0, 0)) → c1.size = c.size → Chg (fun k => k = g) w w1 → w1.heap.size = w.heap.size →
      (∀ w' c', w'.heap[g]? = some (.cells c' T (0, 0)) → c'.size = c.size → (∀ j, j < r.length → c'[off + i + j]? = r[j]?) → (∀ q, q < off + i ∨ off + n ≤ q → c'[q]? = c1[q]?) → Chg (fun k => k = g) w w' → w'.heap.size = w.heap.size → K w') → stCells ⟨g, off, none⟩ r i w1 K := by
    intro r
    induction r with
    | nil =>
      intro i w1 c1 hi _ hb1 hs1 hc1 hz1 hK1
      exact hK1 w1 c1 hb1 hs1 (fun j hj => by simp at hj) (fun q _ => rfl) hc1 hz1
    | cons v r ih =>
      intro i w1 c1 hi h1 hb1 hs1 hc1 hz1 hK1
      simp only [List.all_cons, Bool.and_eq_true] at h1
      simp only [List.length_cons] at hi
      simp only [stCells, add_mk]
      refine ⟨h1.1, by rw [cell_eq, hb1, cellO_some]; simp; omega, by rw [frozen_eq, hb1, frO_zero], ?_⟩
      refine ih (i + 1) _ (c1.setIfInBounds (off + i) v) (by omega) h1.2 (by rw [heap_set_same, hb1, setO_some]) (by simp [hs1]) (hc1.set (.inl rfl) v) (by simp [hz1]) fun w' c' hb' hs' hj' hq' hc' hz' => ?_
      refine hK1 w' c' hb' hs' (fun j hj => ?_) (fun q hq => ?_) hc' hz'
      · cases j with
        | zero =>
          rw [Nat.add_zero, hq' (off + i) (.inl (by omega)), List.getElem?_cons_zero, Array.getElem?_setIfInBounds_self_of_lt (by omega)]
        | succ j =>
          have := hj' j (by simpa using hj)
          rw [List.getElem?_cons_succ, ← this]
          congr 1; omega
      · rw [hq' q (by omega), Array.getElem?_setIfInBounds_ne (by omega)]
  exact key l 0 w c (by omega) h1 hb rfl (Chg.refl _ _) rfl fun w' c' h2 h3 h4 h5 h6 h7 => hK w' c' h2 h3 (fun j hj => by have := h4 j (by omega); rwa [Nat.add_zero] at this) (fun q hq => h5 q (by omega)) h6 h7
theorem VRepsP.of_get {G : Nat → Prop} {w : World} : ∀ {xs : List JV} {L : List Value}, L.length = xs.length * 5 → (∀ i x, xs[i]? = some x → ∃ cs, VRepP G w x cs ∧ ∀ j, j < 5 → L[i * 5 + j]? = cs[j]?) → VRepsP G w xs L
  | [], L, hl, _ => by simp only [VRepsP]; exact List.eq_nil_of_length_eq_zero (by simpa using hl)
  | x :: xs, L, hl, h => by
    obtain ⟨cs, h1, h2⟩ := h 0 x rfl
    have hc := h1.rep.len
    simp only [List.length_cons] at hl
    simp only [VRepsP]
    refine ⟨cs, L.drop 5, ?_, h1, VRepsP.of_get (by rw [List.length_drop]; omega) fun i y hy => ?_⟩
    · have : L.take 5 = cs := by
        apply List.ext_getElem?
        intro j
        by_cases hj : j < 5
        · rw [List.getElem?_take_of_lt hj]
          have := h2 j hj
          rwa [Nat.zero_mul, Nat.zero_add] at this
        · rw [List.getElem?_eq_none (by rw [List.length_take]; omega), List.getElem?_eq_none (by omega)]
      rw [← this, List.take_append_drop]
    · obtain ⟨ds, h3, h4⟩ := h (i + 1) y (by simpa using hy)
      refine ⟨ds, h3, fun j hj => ?_⟩
      rw [List.getElem?_drop, ← h4 j hj]
      congr 1; omega
theorem VRepsP.get5 {G : Nat → Prop} {w : World} : ∀ {xs : List JV} {L : List Value} {i : Nat} {x : JV}, VRepsP G w xs L → xs[i]? = some x → ∃ cs, VRepP G w x cs ∧ ∀ j, j < 5 → L[i * 5 + j]? = cs[j]?
  | [], _, _, _, _, h => by simp at h
  | y :: xs, L, 0, x, h, hx => by
    simp only [List.getElem?_cons_zero, Option.some.injEq] at hx
    subst hx
    simp only [VRepsP] at h
    obtain ⟨c, r, rfl, hc, hr⟩ := h
    refine ⟨c, hc, fun j hj => ?_⟩
    rw [Nat.zero_mul, Nat.zero_add, List.getElem?_append_left (by rw [hc.rep.len]; exact hj)]
  | y :: xs, L, i + 1, x, h, hx => by
    simp only [List.getElem?_cons_succ] at hx
    simp only [VRepsP] at h
    obtain ⟨c, r, rfl, hc, hr⟩ := h
    obtain ⟨cs, h1, h2⟩ := VRepsP.get5 hr hx
    refine ⟨cs, h1, fun j hj => ?_⟩
    rw [List.getElem?_append_right (by rw [hc.rep.len]; omega), hc.rep.len, ← h2 j hj]
    congr 1; omega
section
variable [HX]
theorem revs_p {l : List Str} {v : Value} {base : Nat} {w : World} {K : Value → World → Prop} (h : Own w base ST 1 v l.length (l.map str)) (hl : l.length < 4611686018427387904)
    (hK : ∀ w', Chg (fun k => v.ownBlock = some k) w w' → Own w' base ST 1 v l.length (l.reverse.map str) → K (.tuple #[]) w') : callF Tryz.prog 101 [v] w K := by
  obtain ⟨hn, ⟨rfl, h0⟩ | ⟨g, cap, cur, rfl, hb, hg, h1, h2, h3, h4⟩⟩ := h
  · have : l = [] := List.eq_nil_of_length_eq_zero h0
    subst this
    refine of_calls (args := #[.slice none 0 0]) Tryz.call101 ((Tryz.slices_Reverse_string_empty none 0 w).mono ?_)
    rintro e w' ⟨rfl, rfl⟩
    exact ⟨_, rfl, hK _ (Chg.refl _ _) ⟨by simp, .inl ⟨rfl, rfl⟩⟩⟩
  · refine of_calls (args := #[.slice (some ⟨g, 0, none⟩) l.length cap]) Tryz.call101 ((Tryz.slices_Reverse_string g 0 cap l w (holds_of_block hg (by have := h4; rw [Nat.mul_one] at this; exact this)) (by omega)).mono ?_)
    rintro e w' ⟨rfl, n, rfl⟩
    have eg : ∀ w : World, Sort.grow w #[] = w := fun w => by simp [Sort.grow]
    have hO := ownsRow_sorted (n := n) (os := #[]) (ts := l.reverse) (by simp) hb hg h1 h2 h3
    have hc := Chg.of_grown (grownBy_sorted (w := w) (g := g) (n := n) (os := #[]) l.reverse.toArray) (S := fun k => (Value.slice (some ⟨g, 0, none⟩) l.length cap).ownBlock = some k) fun k hk => hk
    rw [eg] at hO hc
    exact ⟨_, rfl, hK _ hc hO⟩
theorem fsplit_p {x y : JV} {sv : Value} {w : World} {K : Value → World → Prop} (hT : TabF w) (h : ItemsAt w sv [x, y]) (hx : x.t.length ≤ 1000000) (hy : y.t.length ≤ 100000) (hK : DoK (splitFM x.t y.t) w K) : callF Tryz.prog 64 [sv] w K := by
  refine W64_ok ?_
  unfold W64
  refine alloc_new fun b w1 hb hz hbb hx1 => ?_
  have h1 := h.ext hx1
  refine h1.ft (i := 0) rfl rfl fun _ => ?_
  rw [bin_seq, condW_dec]
  refine ⟨fun he => ?_, fun he => ?_⟩
  · refine do_none ?_ hbb rfl (by omega) hx1 hK
    unfold splitFM; rw [if_pos he]
  · have hS : splitFM x.t y.t = some (lV ((Lib.split y.t x.t).map tV)) := by unfold splitFM; rw [if_neg he]
    rw [hS] at hK
    have hxd : Ext w1 w1.drew := Chg.drew (Chg.refl (fun _ => False) w1)
    refine (h1.ext hxd).ft (i := 1) rfl rfl fun _ => ?_
    refine (h1.ext hxd).ft (i := 0) rfl rfl fun _ => ?_
    obtain ⟨m, hm⟩ := (hT.ext (hx1.trans hxd)).mx
    have hpos : 1 ≤ (ofL x.t).size := by rw [ofL_size]; exact List.length_pos_iff.2 he
    refine of_calls (args := #[str y.t, str x.t]) Tryz.call103 ((Tryz.strings_Split (ofL y.t) (ofL x.t) m w1.drew (by rw [ofL_size]; omega) hm hpos).mono ?_)
    rintro e w5 ⟨rfl, hw5⟩
    refine ⟨_, rfl, ?_⟩
    have hcnt := Lib.countB_le (ofL x.t) hpos _ (ofL y.t) (Nat.le_refl _)
    rw [ofL_size] at hcnt
    have hlen := Lib.splitB_all (ofL x.t) hpos 0 _ (ofL y.t) rfl
    have hdat := Lib.splitB_data (ofL x.t) 0 (Lib.countB (ofL y.t) (ofL x.t)) (ofL y.t)
    rw [ofL_data, ofL_data] at hdat
    have hcb : Lib.countB (ofL y.t) (ofL x.t) = Lib.count y.t x.t := by
      show Lib.count (ofL y.t).data.toList (ofL x.t).data.toList = _
      rw [ofL_data, ofL_data]
    have hsp : (Lib.splitB (ofL x.t) 0 (Lib.countB (ofL y.t) (ofL x.t)) (ofL y.t)).map Value.string = (Lib.split y.t x.t).map str := by
      unfold Lib.split
      rw [← hcb, ← hdat, List.map_map]
      apply List.map_congr_left
      intro z _
      show Value.string z = str z.data.toList
      simp [str, ofL]
    have hl2 : (Lib.split y.t x.t).length = Lib.countB (ofL y.t) (ofL x.t) + 1 := by
      have := congrArg List.length hsp
      simpa [hlen] using this.symm
    have hx5 : Ext w1.drew w5 := by rw [hw5]; exact Chg.alloc (Chg.refl _ _) _
    have hb5 : w5.heap[w1.drew.heap.size]? = some (.cells ((Lib.splitB (ofL x.t) 0 (Lib.countB (ofL y.t) (ofL x.t)) (ofL y.t)).map Value.string).toArray ST (0, 0)) := by rw [hw5]; exact heap_anew _ _ _ rfl
    have hsl : SlAt w5 ST (.slice (some ⟨w1.drew.heap.size, 0, none⟩) (Lib.countB (ofL y.t) (ofL x.t) + 1) (Lib.countB (ofL y.t) (ofL x.t) + 1)) (Lib.split y.t x.t).length ((Lib.split y.t x.t).map str) := by
      rw [hl2]
      refine ⟨_, _, rfl, Nat.le_refl _, (fun e => by cases e), fun _ => ⟨_, 0, _, _, rfl, hb5, fun j hj => ?_⟩⟩
      rw [Nat.zero_add, hsp, List.getElem?_toArray]
    refine ftexts_p hsl (by omega) (fun s hs => ?_) fun cs w6 hx6 h6 => ?_
    · have : s.length ≤ y.t.length := splitK_le x.t 0 _ y.t s hs
      omega
    have hx06 := hxd.trans (hx5.trans hx6)
    exact do_some rfl (hx06.at hbb id) rfl (by omega) (hx1.trans hx06) (h6.at (by have := at_lt hbb; have := hxd.size; have := hx5.size; omega) (by have := hx1.size; have := hxd.size; have := hx5.size; omega)) hK
end
end Go.Proofs.YtdkikjcpgihjlaaGreatDoor
namespace Go.Proofs.YtdkikjcpgihjlaaGreatDoor
open Go Go.Eng Go.Num Go.RowKit
set_option maxRecDepth 100000
theorem sll_drop {w : World} {T : TypeId} {v : Value} {n k : Nat} {cs : List Value} {K : Value → Prop} (h : SlAt w T v n cs) (hl : cs.length = n) (hk : k ≤ n) (hK : ∀ v', SlAt w T v' (n - k) (cs.drop k) → K v') : sllW 1 v (some (i64 (k : Nat))) none none K := by
  obtain ⟨p, cap, rfl, hc, hp, hcells⟩ := h
  rw [sll_sl, bd_none, bd_none, bd_some]
  refine ⟨by omega, by omega, ?_⟩
  simp only [Int.toNat_natCast, Nat.mul_one]
  refine hK _ ?_
  by_cases hn : cap = k
  · have : cs.drop k = [] := List.drop_eq_nil_of_le (by omega)
    rw [this]
    refine ⟨_, _, rfl, by omega, fun _ => ⟨by omega, by omega⟩, fun h => absurd rfl h⟩
  · rw [if_neg hn]
    refine ⟨_, _, rfl, by omega, fun e => ?_, fun hne => ?_⟩
    · cases p with
      | none => have := hp rfl; omega
      | some a => cases e
    · have hne2 : cs ≠ [] := fun e => by rw [e] at hne; simp at hne
      obtain ⟨b, off, c, fr, rfl, hb, hcs⟩ := hcells hne2
      refine ⟨b, off + k, c, fr, by simp [add_mk], hb, fun i hi => ?_⟩
      rw [List.length_drop] at hi
      rw [List.getElem?_drop, ← hcs (k + i) (by omega)]
      congr 1; omega
theorem intercal_nil : ∀ (l : List Str), List.intercalate [] l = l.flatten
  | [] => rfl
  | [x] => by simp [List.intercalate]
  | x :: y :: r => by
    have ih := intercal_nil (y :: r)
    simp only [List.intercalate] at ih ⊢
    rw [List.intersperse_cons₂, List.flatten_cons, List.flatten_cons, ih]
    simp
theorem piece_item (s : Str) : ∀ (n i : Nat), ∀ z ∈ pieceM s n i, z.length ≤ s.length
  | 0, i, z, h => by cases h
  | n + 1, i, z, h => by
    simp only [pieceM] at h
    split at h
    · rcases List.mem_cons.1 h with rfl | h
      · rw [List.length_take, List.length_drop]; omega
      · exact piece_item s n _ z h
    · cases h
theorem runes_item {s z : Str} (h : z ∈ runesM s) : z.length ≤ s.length := piece_item s _ _ z h
section
variable [HX]
theorem joinF_p {x y : JV} {sv : Value} {w : World} {K : Value → World → Prop} (h : ItemsAt w sv [x, y]) (hx : x.t.length ≤ 100000) (hl : y.xs.length ≤ 100000) (ht : ∀ z ∈ y.xs, z.t.length ≤ 100000) (hK : DoK (joinFM x.t y.xs) w K) : callF Tryz.prog 50 [sv] w K := by
  refine W50_ok ?_
  unfold W50
  refine alloc_new fun b w1 hb hz hbb hx1 => ?_
  have h1 := h.ext hx1
  refine h1.fx (i := 1) rfl rfl fun u hu => ?_
  rw [hu.len]
  refine LoopW.go (fun st w' => ∃ (i : Nat) (r : Value), st = [r, i64 (i : Nat)] ∧ i ≤ y.xs.length ∧ Ext w1 w' ∧ Own w' w1.heap.size ST 1 r i (((y.xs.take i).map (·.t)).map str) ∧ (y.xs.take i).any (fun x => !decide (x.k = 4)) = false)
    (fun st _ => match st with | [_, .int _ i] => y.xs.length - i.toNat | _ => 0)
    ⟨0, .slice none 0 0, rfl, Nat.zero_le _, Chg.refl _ _, ⟨rfl, .inl ⟨rfl, rfl⟩⟩, by simp⟩ ?_
  rintro st g w3 ⟨i, r, rfl, hi, hx3, hO, hno⟩
  simp only [List.getD_cons_zero, List.getD_cons_succ]
  have hbb3 := hx3.at hbb id
  rw [bin_lss, condW_dec]
  refine ⟨fun hlt => ?_, fun hge => ?_⟩
  · have hlt : i < y.xs.length := by omega
    obtain ⟨z, hz⟩ : ∃ z, y.xs[i]? = some z := ⟨_, List.getElem?_eq_getElem hlt⟩
    refine (hu.ext hx3).at hz fun cs hcs => ?_
    refine copy_new hcs fun p w5 sp kp hP hx5 => ?_
    simp only [wsv, wsg, wsh, wsl, cond_true, cond_false, exists_eq_left', Option.some.injEq, Option.isSome_some, List.getElem?_toArray, List.getElem?_cons_zero, List.getElem?_cons_succ, List.length_cons, List.length_nil, List.set_cons_zero, List.set_cons_succ, List.getD_cons_zero, List.getD_cons_succ, Nat.zero_add, Nat.add_zero, Nat.reduceAdd, Nat.reduceLT, Nat.lt_add_one, Nat.zero_lt_succ, decide_true, decide_false, ne_eq, reduceCtorEq, wsh, hP.hb]
    have hx35 := hx3.trans hx5
    rw [condW_b]
    refine ⟨fun k4 => ?_, fun k4 => ?_⟩
    · refine do_none (w0 := w) ?_ (hx5.at hbb3 id) rfl (by omega) (hx1.trans hx35) hK
      unfold joinFM
      rw [if_pos]
      exact any_yes hz (by simpa using k4)
    · refine row_s fun t w9 ht9 hx9 => ?_
      have hx59 := hx5.trans hx9
      have s3 := hx3.size
      refine append_own3 elem_s (hO.ext hx59) ht9 (m := 1) rfl (fun u hu => by simp only [List.mem_singleton] at hu; subst hu; rfl) (by omega) (by omega) (by have := hx59.size; omega) fun v' w10 h10 hc10 hb10 => ?_
      rw [up1 (by omega)]
      refine ⟨⟨i + 1, v', rfl, hlt, (hx3.trans hx59).then hc10 fun k hk e => by have := (own_ge hO e).1; omega, ?_, ?_⟩, by simp only [Int.toNat_natCast]; omega⟩
      · have e : y.xs.take (i + 1) = y.xs.take i ++ [z] := by rw [List.take_add_one, hz]; rfl
        rw [e, List.map_append, List.map_append]
        exact h10
      · rw [any_take hz, hno]
        simpa using k4
  · obtain rfl : i = y.xs.length := by omega
    rw [List.take_length] at hO hno
    refine (h1.ext hx3).ft (i := 0) rfl rfl fun _ => ?_
    have hml : (y.xs.map (·.t)).length = y.xs.length := List.length_map _
    have hjl := fjoin_len x.t (y.xs.map (·.t)) 100000 fun s hs => by
      obtain ⟨z, hz, rfl⟩ := List.mem_map.1 hs
      exact ht z hz
    rw [hml] at hjl
    have hjb : (Lib.join (y.xs.map (·.t)) x.t).length ≤ 140737488355328 := by
      refine Nat.le_trans hjl (Nat.le_trans (Nat.mul_le_mul hl (show 100000 + x.t.length ≤ 200000 by omega)) (by decide))
    have hsl := hO.sl
    rw [← hml] at hsl
    refine join_any hsl (by omega) hjb fun w11 hx11 => ?_
    refine ftext_p fun w12 hx12 => ?_
    have hxx := hx11.trans hx12
    refine do_some ?_ (hxx.at hbb3 id) rfl (by omega) (hx1.trans (hx3.trans hxx)) (flat_rep (Nat.le_trans hjb (by decide))) hK
    unfold joinFM
    rw [if_neg (by rw [hno]; simp)]
theorem neg_head {c : UInt8} {r : Str} : decide (((c.toNat : Nat) : Int) = 45) = neg (c :: r) := by
  unfold neg
  simp only [List.head?_cons]
  by_cases h : c = 45
  · subst h; rfl
  · have : c.toNat ≠ 45 := fun e => h (UInt8.toNat_inj.1 e)
    rw [decide_eq_false (by omega)]
    symm
    simpa using h
theorem int_pos {t : Str} (hg : goodN t = true) (hn : neg t = false) : intM t = if dec t ≤ 9223372036854775807 then some (dec t : Int) else none := by
  obtain ⟨hs, _, _⟩ := good_shape hg
  have e : t = dig t := by
    rcases hs with ⟨_, h⟩ | ⟨h, _⟩
    · rw [h] at hn; cases hn
    · exact h
  have hnum : num t = (dec t : Int) := by unfold num; rw [hn, ← e]; rfl
  unfold intM
  rw [hnum]
  by_cases h : dec t ≤ 9223372036854775807
  · rw [if_pos h, if_pos ⟨hg, by omega, by omega⟩]
  · rw [if_neg h, if_neg (fun h2 => by omega)]
theorem min_ok {t : Str} {m : Nat} (hg : goodN t = true) (hn : neg t = false) (hm : m ≤ 1000000) : (if (intM t).isSome then (if ((m : Nat) : Int) < (intM t).getD 0 then ((m : Nat) : Int) else (intM t).getD 0) else ((m : Nat) : Int)) = ((min (dec t) m : Nat) : Int) := by
  rw [int_pos hg hn]
  by_cases h : dec t ≤ 9223372036854775807
  · rw [if_pos h]
    simp only [Option.isSome_some, if_true, Option.getD_some]
    split <;> omega
  · rw [if_neg h]
    simp only [Option.isSome_none, Bool.false_eq_true, if_false]
    omega
theorem substr_p {x y z : JV} {sv : Value} {w : World} {K : Value → World → Prop} (hT : TabF w) (h : ItemsAt w sv [x, y, z]) (hx : x.t.length ≤ 100000) (hy : goodN y.t = true) (hz : goodN z.t = true) (hK : DoK (substrM x.t y.t z.t) w K) : callF Tryz.prog 65 [sv] w K := by
  have hyl := good_len hy
  have hzl := good_len hz
  refine W65_ok ?_
  unfold W65
  refine alloc_new fun b w1 hb hz1 hbb hx1 => ?_
  have h1 := h.ext hx1
  refine h1.ft (i := 0) rfl rfl fun _ => ?_
  refine runes_p hx fun v w2 hx2 hO => ?_
  have h2 := h1.ext hx2
  have hbb2 := hx2.at hbb id
  have hx02 := hx1.trans hx2
  refine h2.ft (i := 1) rfl rfl fun _ => ?_
  obtain ⟨c1, r1, e1⟩ : ∃ c r, y.t = c :: r := by
    cases hy0 : y.t with
    | nil => rw [hy0] at hy; simp [goodN, dig] at hy
    | cons c r => exact ⟨c, r, rfl⟩
  obtain ⟨c2, r2, e2⟩ : ∃ c r, z.t = c :: r := by
    cases hz0 : z.t with
    | nil => rw [hz0] at hz; simp [goodN, dig] at hz
    | cons c r => exact ⟨c, r, rfl⟩
  rw [ixs_str]
  refine ⟨by omega, c1, by rw [e1]; rfl, ?_⟩
  rw [bin_eql, neg_head (r := r1), ← e1]
  simp only [isB_f]
  refine GdW.look (neg z.t) (fun _ J hJ => ?_) fun g => ?_
  · refine h2.ft (i := 2) rfl rfl fun _ => ?_
    rw [ixs_str]
    refine ⟨by omega, c2, by rw [e2]; rfl, ?_⟩
    rw [bin_eql, neg_head (r := r2), ← e2]
    exact hJ
  simp only [List.getD_cons_zero, pick_gd_or]
  rw [condW_b]
  refine ⟨fun hneg => ?_, fun hneg => ?_⟩
  · refine do_none ?_ hbb2 rfl (by omega) hx02 hK
    unfold substrM
    rw [if_pos hneg]
  · have hS : substrM x.t y.t z.t = some (tV (((runesM x.t).drop (min (dec y.t) (runesM x.t).length)).take (min (dec z.t) ((runesM x.t).length - min (dec y.t) (runesM x.t).length))).flatten) := by
      unfold substrM; rw [hneg]; simp
    rw [hS] at hK
    simp only [Bool.or_eq_false_iff] at hneg
    have hrl := runes_len x.t
    generalize hR : runesM x.t = R at *
    rw [lenl_at hO.sl]
    rw [lenl_at hO.sl]
    refine JoinW.cut (fun st w' => st = [i64 ((min (dec y.t) R.length : Nat) : Int)] ∧ Ext w2 w') ?_ ?_
    · refine h2.ft (i := 1) rfl rfl fun _ => ?_
      refine numint_x (hT.ext hx02) (by omega) fun w9 hx9 => ?_
      simp only [ext_tuple]
      refine ⟨_, rfl, _, rfl, ?_⟩
      have hm := min_ok hy hneg.1 (m := R.length) (by omega)
      rw [condW_b]
      refine ⟨fun hs => ?_, fun hs => ?_⟩
      · rw [hs, if_pos rfl] at hm
        rw [lenl_at hO.sl, min_int, hm]
        exact ⟨rfl, hx9⟩
      · rw [hs] at hm
        simp only [Bool.false_eq_true, if_false] at hm
        rw [← hm]
        exact ⟨rfl, hx9⟩
    rintro st g8 w10 ⟨rfl, hx10⟩
    have h10 := h2.ext hx10
    generalize hf : min (dec y.t) R.length = f at *
    have hfl : f ≤ R.length := by omega
    refine JoinW.cut (fun st w' => (∃ n : Int, st = [i64 n] ∧ (if ((R.length - f : Nat) : Int) < n then ((R.length - f : Nat) : Int) else n) = ((min (dec z.t) (R.length - f) : Nat) : Int)) ∧ Ext w2 w') ?_ ?_
    · refine h10.ft (i := 2) rfl rfl fun _ => ?_
      refine numint_x (hT.ext (hx02.trans hx10)) (by omega) fun w9 hx9 => ?_
      simp only [ext_tuple]
      refine ⟨_, rfl, _, rfl, ?_⟩
      have hm := min_ok hz hneg.2 (m := R.length - f) (by omega)
      rw [condW_b]
      refine ⟨fun hs => ?_, fun hs => ?_⟩
      · rw [hs, if_pos rfl] at hm
        exact ⟨⟨_, rfl, hm⟩, hx10.trans hx9⟩
      · rw [hs] at hm
        simp only [Bool.false_eq_true, if_false] at hm
        refine ⟨⟨_, rfl, ?_⟩, hx10.trans hx9⟩
        rw [← hm]
        split <;> omega
    rintro st g11 w13 ⟨⟨n, rfl, hn⟩, hx13⟩
    simp only [List.getD_cons_zero]
    have hO13 : SlAt w13 ST v R.length (R.map str) := (hO.ext hx13).sl
    refine sll_drop hO13 (by simp) hfl fun v1 hv1 => ?_
    rw [lenl_at hO13, bin_sub]
    have e3 : IntKind.i64.wrap ((R.length : Int) - (f : Int)) = ((R.length - f : Nat) : Int) := by rw [wrap_id (by omega) (by omega)]; omega
    rw [e3, min_int, hn]
    refine sll_take hv1 (by simp) (Nat.min_le_right _ _) fun v2 hv2 => ?_
    generalize hk : min (dec z.t) (R.length - f) = k at *
    have hkl : k ≤ R.length - f := by omega
    have hsub : ((R.map str).drop f).take k = (((R.drop f).take k).map str) := by rw [List.map_take, List.map_drop]
    rw [hsub] at hv2
    have hlen2 : ((R.drop f).take k).length = k := by rw [List.length_take, List.length_drop]; omega
    have hv3 : SlAt w13 ST v2 ((R.drop f).take k).length (((R.drop f).take k).map str) := by rw [hlen2]; exact hv2
    have hjoin : Lib.join ((R.drop f).take k) [] = ((R.drop f).take k).flatten := by
      unfold Lib.join
      exact intercal_nil _
    have hjl : (Lib.join ((R.drop f).take k) []).length ≤ 140737488355328 := by
      refine Nat.le_trans (fjoin_len [] _ 100000 fun s hs => ?_) ?_
      · have := runes_item (s := x.t) (by rw [hR]; exact List.mem_of_mem_drop (List.mem_of_mem_take hs))
        omega
      · rw [hlen2]
        refine Nat.le_trans (Nat.mul_le_mul (show k ≤ 100000 by omega) (Nat.le_refl _)) (by decide)
    refine join_any hv3 (by omega) hjl fun w14 hx14 => ?_
    rw [hjoin] at hjl ⊢
    refine ftext_p fun w15 hx15 => ?_
    have hxx := hx13.trans (hx14.trans hx15)
    exact do_some rfl (hxx.at hbb2 id) rfl (by omega) (hx02.trans hxx) (flat_rep (Nat.le_trans hjl (by decide))) hK
end
end Go.Proofs.YtdkikjcpgihjlaaGreatDoor
namespace Go.Proofs
open Go.RowKit Go.Lib Go.Shelf
abbrev BdT : TypeId := 103
end Go.Proofs

namespace Go.Proofs.YtdkikjcpgihjlaaGreatDoor
open Go Go.Eng Go.RowKit
set_option maxRecDepth 100000
abbrev BdT : TypeId := 103
theorem elem_u8 : ElemT Tryz.prog 66 U8 1 1 := ⟨by kernel_rfl, by kernel_rfl, by decide⟩
def Bld (w : World) (B b : Nat) (l : Str) : Prop :=
  ∃ p v, w.heap[b]? = some (.cells [p, v].toArray BdT (0, 0)) ∧ (p = .pointer none ∨ p = .pointer (some ⟨b, 0, none⟩)) ∧ Own w B U8 1 v l.length (u8s l) ∧ B ≤ b
def BCh (w : World) (B b : Nat) (k : Nat) : Prop := k = b ∨ OwnS w B U8 k
theorem Bld.chg {S : Nat → Prop} {w w' : World} {B b : Nat} {l : Str} (h : Bld w B b l) (hc : Chg S w w') (hb : ¬ S b) (hS : ∀ k, OwnS w B U8 k → ¬ S k) : Bld w' B b l := by
  obtain ⟨p, v, h1, h2, h3, h4⟩ := h
  exact ⟨p, v, hc.at h1 hb, h2, h3.chg hc hS, h4⟩
theorem Bld.ext {w w' : World} {B b : Nat} {l : Str} (h : Bld w B b l) (hc : Ext w w') : Bld w' B b l := h.chg hc (fun e => e) fun _ _ e => e
theorem Bld.lt {w : World} {B b : Nat} {l : Str} (h : Bld w B b l) : b < w.heap.size := by
  obtain ⟨p, v, h1, _⟩ := h
  exact at_lt h1
theorem Bld.base {w : World} {B b : Nat} {l : Str} (h : Bld w B b l) : B ≤ b := by obtain ⟨p, v, _, _, _, h4⟩ := h; exact h4
theorem BCh.trans {w w1 w2 : World} {B b : Nat} (h1 : Chg (BCh w B b) w w1) (h2 : Chg (BCh w1 B b) w1 w2) : Chg (BCh w B b) w w2 := by
  refine ⟨h2.os.trans h1.os, h2.tape.trans h1.tape, h2.output.trans h1.output, Nat.le_trans h1.size h2.size, fun k hk hn => ?_⟩
  have e1 := h1.heap k hk hn
  rw [← e1]
  refine h2.heap k (Nat.lt_of_lt_of_le hk h1.size) fun e => hn ?_
  rcases e with e | ⟨e2, c, e3⟩
  · exact .inl e
  · exact .inr ⟨e2, c, by rw [← e1]; exact e3⟩
theorem BCh.ext {w w1 w2 : World} {B b : Nat} (h1 : Chg (BCh w B b) w w1) (h2 : Ext w1 w2) : Chg (BCh w B b) w w2 := h1.then h2 fun _ _ e => e.elim
theorem BCh.from {w w1 w2 : World} {B b : Nat} (h1 : Ext w w1) (h2 : Chg (BCh w1 B b) w1 w2) : Chg (BCh w B b) w w2 := BCh.trans (Chg.of_ext h1) h2
theorem BCh.new {w0 w w' : World} {B b : Nat} (h0 : Ext w0 w) (hB : w0.heap.size ≤ B) (hb : B ≤ b) (h : Chg (BCh w B b) w w') : Ext w0 w' :=
  h0.then h fun k hk e => by
    rcases e with rfl | ⟨e, _⟩
    · omega
    · omega
theorem BCh.keep {w w' : World} {B b k : Nat} {c : Array Value} {T : TypeId} {fr : Nat × Nat} (h : Chg (BCh w B b) w w') (hk : w.heap[k]? = some (.cells c T fr)) (hb : k ≠ b) (hT : T ≠ U8) : w'.heap[k]? = some (.cells c T fr) :=
  h.at hk fun e => by
    rcases e with e | ⟨_, c', e⟩
    · exact hb e
    · rw [hk] at e
      simp only [Option.some.injEq, Obj.cells.injEq] at e
      exact hT e.2.1
section
variable [HX]
theorem row_u8 {w : World} {n : Nat} {K : Value → World → Prop} (hK : ∀ t w', SlAt w' U8 t 1 [.int .u8 (n : Int)] → Ext w w' → K t w') : bslW U8 1 [(.int .u8 0)] [(0, 1, .int .u8 (n : Int))] w K := by
  rw [bslW]
  simp only [put_int, put_nil, List.length_cons, List.length_nil, List.set_cons_zero]
  refine ⟨by omega, ?_⟩
  refine hK _ _ ⟨_, _, rfl, Nat.le_refl _, fun e => (by cases e), fun _ => ⟨_, _, _, _, rfl, heap_anew _ _ _ rfl, fun i _ => by rw [Nat.zero_add]; simp⟩⟩ (Chg.alloc (Chg.refl _ _) _)
end
end Go.Proofs.YtdkikjcpgihjlaaGreatDoor
namespace Go.Proofs.YtdkikjcpgihjlaaGreatDoor
open Go Go.Eng Go.RowKit
set_option maxRecDepth 100000
abbrev u8 (n : Nat) : Value := .int .u8 (n : Int)
theorem u8_wrap (n : Nat) : IntKind.u8.wrap (n : Int) = ((n % 256 : Nat) : Int) := by
  simp only [IntKind.wrap, IntKind.bits, IntKind.signed, Bool.false_and]
  rw [show (2 : Int) ^ 8 = 256 by decide]
  simp
section
variable [HX]
end
end Go.Proofs.YtdkikjcpgihjlaaGreatDoor

namespace Go.Proofs.YtdkikjcpgihjlaaGreatDoor
open Go Go.Eng Go.RowKit
set_option maxRecDepth 100000
section
variable [HX]
theorem flat_len (s : Str) : (s.flatMap escB).length ≤ 6 * s.length := by
  induction s with
  | nil => simp
  | cons c s ih => rw [List.flatMap_cons, List.length_append, List.length_cons]; have := escB_le c; omega
end
end Go.Proofs.YtdkikjcpgihjlaaGreatDoor
namespace Go.Proofs.YtdkikjcpgihjlaaGreatDoor
open Go Go.Eng Go.RowKit
set_option maxRecDepth 100000
section
variable [HX]
def cntAt (xs : List JV) (i : Nat) : Nat := match xs[i]? with | some x => cntM x | none => 0
def cntS (xs : List JV) : Nat → Nat
  | 0 => 0
  | n + 1 => cntS xs n + cntAt xs n
theorem cntAt_get {xs : List JV} {i : Nat} {x : JV} (h : xs[i]? = some x) : cntAt xs i = cntM x := by unfold cntAt; rw [h]
theorem cntS_cons (x : JV) (xs : List JV) : ∀ n, cntS (x :: xs) (n + 1) = cntM x + cntS xs n
  | 0 => by simp [cntS, cntAt]
  | n + 1 => by
    rw [cntS, cntS_cons x xs n, cntS]
    have : cntAt (x :: xs) (n + 1) = cntAt xs n := by unfold cntAt; rw [List.getElem?_cons_succ]
    omega
theorem cntS_le : ∀ (xs : List JV) (n : Nat), n ≤ xs.length → cntS xs n ≤ cntL xs
  | xs, 0, _ => Nat.zero_le _
  | [], n + 1, h => by simp at h
  | x :: xs, n + 1, h => by
    have ih := cntS_le xs n (by simpa using h)
    rw [cntS_cons]
    simp only [cntL]
    omega
end
end Go.Proofs.YtdkikjcpgihjlaaGreatDoor


namespace Go.Proofs.YtdkikjcpgihjlaaGreatDoor
open Go Go.Eng Go.RowKit
set_option maxRecDepth 100000
def goodR (v : JV) (m : Nat) (left : Int) : Bool := deepM v m && plainM v && decide ((cntM v : Int) ≤ left)
theorem keysOk_nil : keysOk [] = true := rfl
def flatK (k : Int) (t : Str) : Bool := if k = 3 then Num.goodN t else if k = 4 then decide (t.length ≤ 16384) else decide (t = [])
def flatOk (v : JV) : Bool := flatK v.k v.t
theorem goodR_flat {v : JV} {m : Nat} {left : Int} (hm : m ≠ 0) (hl : 1 ≤ left) (hb : v.b = true → v.k = 2) (h0 : 0 ≤ v.k) (h5 : v.k < 5) : goodR v m left = (flatOk v && (decide (v.xs.length = 0) && decide (v.ks.length = 0))) := by
  cases v with
  | mk k b t xs ks =>
  simp only [JV.k, JV.b] at hb h0 h5
  unfold goodR
  show (deepM (.mk k b t xs ks) m && (headOk k b t xs.length ks && plainL xs) && decide ((cntM (.mk k b t xs ks) : Int) ≤ left)) = (flatK k t && (decide (xs.length = 0) && decide (ks.length = 0)))
  unfold flatK
  by_cases hx : xs = []
  · subst hx
    cases m with
    | zero => exact absurd rfl hm
    | succ m =>
      by_cases hk : ks = []
      · subst hk
        have hc : cntM (.mk k b t [] []) = 1 := rfl
        rw [deepM_succ, hc, decide_eq_true (show ((1 : Nat) : Int) ≤ left from hl)]
        simp only [JV.xs, deepL, plainL, List.length_nil]
        rw [Bool.eq_iff_iff]
        simp only [headOk, keysOk_nil, Bool.and_true, Bool.true_and, Bool.and_eq_true, Bool.or_eq_true, Bool.not_eq_true', decide_eq_true_eq, decide_eq_false_iff_not]
        constructor
        · rintro ⟨⟨⟨⟨⟨⟨⟨⟨_, _⟩, _⟩, ht⟩, _⟩, _⟩, h3⟩, h4⟩, _⟩
          refine ⟨?_, trivial, trivial⟩
          split
          · rename_i e; exact h3.resolve_left (fun h => h e)
          · split
            · rename_i e; exact decide_eq_true (h4.resolve_left (fun h => h e))
            · rcases ht with (ht | ht) | ht
              · exact decide_eq_true ht
              · contradiction
              · contradiction
        · rintro ⟨hf, _⟩
          refine ⟨⟨⟨⟨⟨⟨⟨⟨h0, by omega⟩, ?_⟩, ?_⟩, .inl trivial⟩, .inr trivial⟩, ?_⟩, ?_⟩, ?_⟩
          · cases b with
            | false => exact .inl rfl
            | true => exact .inr (hb rfl)
          · by_cases e3 : k = 3
            · exact .inl (.inr e3)
            · by_cases e4 : k = 4
              · exact .inr e4
              · rw [if_neg e3, if_neg e4, decide_eq_true_iff] at hf; exact .inl (.inl hf)
          · by_cases e3 : k = 3
            · rw [if_pos e3] at hf; exact .inr hf
            · exact .inl e3
          · by_cases e4 : k = 4
            · rw [if_neg (by omega), if_pos e4, decide_eq_true_iff] at hf; exact .inr hf
            · exact .inl e4
          · exact .inl (by omega)
      · have h1 : headOk k b t ([] : List JV).length ks = false := by
          cases hh : headOk k b t ([] : List JV).length ks with
          | false => rfl
          | true => have := (headOk_out hh).2.2.2.2.2.1 hk; omega
        rw [h1, decide_eq_false (show ¬ ks.length = 0 from fun e => hk (List.eq_nil_of_length_eq_zero e))]
        simp
  · have h1 : headOk k b t xs.length ks = false := by
      cases hh : headOk k b t xs.length ks with
      | false => rfl
      | true => have := (headOk_out hh).2.2.2.2.1 (fun e => hx (List.eq_nil_of_length_eq_zero e)); omega
    rw [h1, decide_eq_false (show ¬ xs.length = 0 from fun e => hx (List.eq_nil_of_length_eq_zero e))]
    simp
def itemsOk (xs : List JV) (m : Nat) (left : Int) : Bool := deepL xs m && plainL xs && decide ((cntL xs : Int) ≤ left)
theorem goodR_deep {v : JV} {m : Nat} {left : Int} (hb : v.b = true → v.k = 2) (hk : v.k = 5 ∧ v.ks = [] ∨ v.k = 6 ∧ v.ks.length = v.xs.length ∧ keysOk v.ks = true) : goodR v (m + 1) left = (decide (v.t = []) && itemsOk v.xs m (left - 1)) := by
  cases v with
  | mk k b t xs ks =>
  simp only [JV.k, JV.b, JV.ks, JV.xs] at hb hk
  unfold goodR
  have hc : cntM (.mk k b t xs ks) = 1 + cntL xs := by simp only [cntM]
  rw [hc]
  show (deepL xs m && (headOk k b t xs.length ks && plainL xs) && decide (((1 + cntL xs : Nat) : Int) ≤ left)) = (decide (t = []) && (deepL xs m && plainL xs && decide ((cntL xs : Int) ≤ left - 1)))
  have hbf : b = false := by
    cases b with
    | false => rfl
    | true => have := hb rfl; omega
  subst hbf
  have hh : headOk k false t xs.length ks = decide (t = []) := by
    rw [Bool.eq_iff_iff]
    simp only [headOk, Bool.and_eq_true, Bool.or_eq_true, Bool.not_eq_true', decide_eq_true_eq, decide_eq_false_iff_not, Bool.not_false]
    constructor
    · rintro ⟨⟨⟨⟨⟨⟨⟨⟨⟨_, _⟩, _⟩, ht⟩, _⟩, _⟩, _⟩, _⟩, _⟩, _⟩
      rcases ht with (ht | ht) | ht
      · exact ht
      · omega
      · omega
    · intro ht
      refine ⟨⟨⟨⟨⟨⟨⟨⟨⟨by omega, by omega⟩, .inl trivial⟩, .inl (.inl ht)⟩, .inr (by omega)⟩, ?_⟩, .inl (by omega)⟩, .inl (by omega)⟩, ?_⟩, ?_⟩
      · rcases hk with ⟨_, h⟩ | ⟨h, _⟩
        · exact .inr h
        · exact .inl h
      · rcases hk with ⟨h, _⟩ | ⟨_, h, _⟩
        · exact .inl (by omega)
        · exact .inr h
      · rcases hk with ⟨_, h⟩ | ⟨_, _, h⟩
        · rw [h]; rfl
        · exact h
  rw [hh]
  have e : decide (((1 + cntL xs : Nat) : Int) ≤ left) = decide ((cntL xs : Int) ≤ left - 1) := by rw [decide_eq_decide]; omega
  rw [e]
  generalize decide ((cntL xs : Int) ≤ left - 1) = d4
  generalize decide (t = []) = d1
  generalize deepL xs m = d2
  generalize plainL xs = d3
  cases d1 <;> cases d2 <;> cases d3 <;> cases d4 <;> rfl
theorem goodR_no {v : JV} {m : Nat} {left : Int} (h : m = 0 ∨ left < 1 ∨ (v.b = true ∧ v.k ≠ 2) ∨ v.k < 0 ∨ 6 < v.k ∨ (v.k = 5 ∧ v.ks ≠ []) ∨ (v.k = 6 ∧ (v.ks.length ≠ v.xs.length ∨ keysOk v.ks = false))) : goodR v m left = false := by
  cases hg : goodR v m left with
  | false => rfl
  | true =>
    unfold goodR at hg
    simp only [Bool.and_eq_true, decide_eq_true_eq] at hg
    obtain ⟨⟨h1, h2⟩, h3⟩ := hg
    rw [plainM_eq, Bool.and_eq_true] at h2
    have hh := headOk_out h2.1
    have hc := cnt_pos v
    rcases h with rfl | h | ⟨h, h'⟩ | h | h | ⟨h, h'⟩ | ⟨h, h' | h'⟩
    · rw [deepM_zero] at h1; cases h1
    · omega
    · exact absurd (hh.2.2.1 h) h'
    · have := hh.1; omega
    · have := hh.2.1; omega
    · have := hh.2.2.2.2.2.1 h'; omega
    · exact absurd (hh.2.2.2.2.2.2.2.2.1 h) h'
    · have := hh.2.2.2.2.2.2.2.2.2; rw [h'] at this; cases this
theorem _root_.Go.Eng.SlAt.keep1 {w w' : World} {p : Nat} {x : Value} {T T' : TypeId} {fr : Nat × Nat} {v : Value} {n : Nat} {cs : List Value} (h : SlAt w T v n cs) (hp : w.heap[p]? = some (.cells [x].toArray T' fr)) (hc : Chg (fun k => k = p) w w')
    (hne : cs ≠ [] → cs[0]? ≠ some x ∨ 2 ≤ cs.length) : SlAt w' T v n cs := by
  obtain ⟨pp, cap, hv, h1, h2, h3⟩ := h
  refine ⟨pp, cap, hv, h1, h2, fun hn => ?_⟩
  obtain ⟨b, off, c, fr', hpp, hb, hcs⟩ := h3 hn
  refine ⟨b, off, c, fr', hpp, hc.at hb ?_, hcs⟩
  rintro rfl
  rw [hp] at hb
  simp only [Option.some.injEq, Obj.cells.injEq] at hb
  obtain ⟨rfl, _, _⟩ := hb
  have hpos : 0 < cs.length := List.length_pos_iff.2 hn
  have e0 := hcs 0 hpos
  rw [Nat.add_zero] at e0
  rcases hne hn with h | h
  · have : off = 0 := by
      apply Classical.byContradiction; intro ho
      rw [show ([x].toArray)[off]? = none by simp; omega, List.getElem?_eq_getElem hpos] at e0
      cases e0
    subst this
    exact h (by rw [← e0]; rfl)
  · have e1 := hcs 1 (by omega)
    rw [List.getElem?_eq_getElem (by omega), show ([x].toArray)[off + 1]? = none by simp] at e1
    cases e1
mutual
theorem vrep_keepi {w w' : World} {p : Nat} {n : Int} {T' : TypeId} {fr : Nat × Nat} (hp : w.heap[p]? = some (.cells [i64 n].toArray T' fr)) (hc : Chg (fun k => k = p) w w') : ∀ {v : JV} {cs : List Value}, VRep w v cs → VRep w' v cs
  | .mk k b t xs ks, cs, h => by
    simp only [VRep] at h ⊢
    obtain ⟨sv, kv, T1, T2, L, rfl, h1, h2, h3, h4⟩ := h
    refine ⟨sv, kv, T1, T2, L, rfl, h1.keep1 hp hc fun hn => .inr ?_, vreps_keepi hp hc h2, h3.keep1 hp hc fun hn => .inl ?_, h4⟩
    · have := h2.len
      have hl : 0 < L.length := List.length_pos_iff.2 hn
      omega
    · cases ks with
      | nil => exact absurd rfl hn
      | cons a r => intro e; simp at e
theorem vreps_keepi {w w' : World} {p : Nat} {n : Int} {T' : TypeId} {fr : Nat × Nat} (hp : w.heap[p]? = some (.cells [i64 n].toArray T' fr)) (hc : Chg (fun k => k = p) w w') : ∀ {xs : List JV} {L : List Value}, VReps w xs L → VReps w' xs L
  | [], L, h => by simp only [VReps] at h ⊢; exact h
  | x :: xs, L, h => by
    simp only [VReps] at h ⊢
    obtain ⟨c, r, rfl, h1, h2⟩ := h
    exact ⟨c, r, rfl, vrep_keepi hp hc h1, vreps_keepi hp hc h2⟩
end
section
variable [HX]
theorem itemsOk_no {xs : List JV} {m i : Nat} {left : Int} {x : JV} (hi : xs[i]? = some x) (h : goodR x m (left - cntS xs i) = false) : itemsOk xs m left = false := by
  cases hg : itemsOk xs m left with
  | false => rfl
  | true =>
    unfold itemsOk at hg
    simp only [Bool.and_eq_true, decide_eq_true_eq] at hg
    obtain ⟨⟨h1, h2⟩, h3⟩ := hg
    rw [deepL_all, List.all_eq_true] at h1
    rw [plainL_all, List.all_eq_true] at h2
    have hm := List.mem_of_getElem? hi
    have hcs := cntS_le xs (i + 1) (List.getElem?_eq_some_iff.1 hi).1
    rw [cntS, cntAt_get hi] at hcs
    unfold goodR at h
    rw [h1 x hm, h2 x hm, decide_eq_true (by omega)] at h
    cases h
theorem cntL_S : ∀ (xs : List JV), cntL xs = cntS xs xs.length
  | [] => rfl
  | x :: xs => by
    rw [List.length_cons, cntS_cons, ← cntL_S xs]
    simp only [cntL]
theorem itemsOk_yes {xs : List JV} {m : Nat} {left : Int} (h : ∀ i x, xs[i]? = some x → goodR x m (left - cntS xs i) = true) (hl : (cntL xs : Int) ≤ left) : itemsOk xs m left = true := by
  unfold itemsOk
  rw [decide_eq_true hl, deepL_all, plainL_all, List.all_eq_true.2, List.all_eq_true.2]
  · rfl
  · intro x hx
    obtain ⟨i, hi, rfl⟩ := List.getElem_of_mem hx
    have := h i _ (List.getElem?_eq_getElem hi)
    unfold goodR at this
    simp only [Bool.and_eq_true] at this
    exact this.1.2
  · intro x hx
    obtain ⟨i, hi, rfl⟩ := List.getElem_of_mem hx
    have := h i _ (List.getElem?_eq_getElem hi)
    unfold goodR at this
    simp only [Bool.and_eq_true] at this
    exact this.1.1
theorem callV_cap {P : Program} {g : FuncId} {args caps : List Value} {w : World} {K : Value → World → Prop} (h : callF P g (args ++ caps) w K) : callV P (.func (.func g) #[] caps.toArray) args w K := by
  unfold callV semN
  unfold callF at h
  have : (do let d ← (Deferred.ofValue (.func (.func g) #[] caps.toArray) args.toArray); invoke d.target d.args : Sem Next) = callFunc g (args ++ caps).toArray := by
    show callFunc g (#[] ++ args.toArray ++ caps.toArray) = _
    simp
  rw [this]
  exact h
theorem len_zero {n m : Nat} (hn : n ≤ 9223372036854775807) (hm : m ≤ 9223372036854775807) : decide (IntKind.i64.wrap ((n : Int) + (m : Int)) = 0) = (decide (n = 0) && decide (m = 0)) := by
  have e1 : (2 : Int) ^ 64 = 18446744073709551616 := by decide
  have e2 : (2 : Int) ^ (64 - 1) = 9223372036854775808 := by decide
  have : IntKind.i64.wrap ((n : Int) + (m : Int)) = 0 ↔ n = 0 ∧ m = 0 := by
    simp only [IntKind.wrap, IntKind.bits, IntKind.signed, Bool.true_and, e1, e2]
    split
    · rename_i h
      simp only [ge_iff_le, decide_eq_true_eq] at h
      omega
    · rename_i h
      omega
  rw [Bool.eq_iff_iff, decide_eq_true_iff, Bool.and_eq_true, decide_eq_true_iff, decide_eq_true_iff]
  exact this
theorem box_one {T : TypeId} {v : Value} {w : World} {K : Value → World → Prop} (h1 : one1 v = true) (h : ∀ a w', a = w.heap.size → w'.heap.size = w.heap.size + 1 → w'.heap[a]? = some (.cells [v].toArray T (0, 0)) → Ext w w' → K (.pointer (some ⟨a, 0, none⟩)) w') : boxW T v w K := by
  cases v <;> first | (simp [one1] at h1; done) | exact h _ _ rfl (by simp) (heap_anew _ _ _ rfl) (Chg.alloc (Chg.refl _ _) _)
theorem good_p (v : JV) : ∀ {m p : Nat} {left : Int} {w : World} {cs : List Value} {K : Value → World → Prop}, VRep w v cs → w.heap[p]? = some (.cells [i64 left].toArray 3 (0, 0)) → m ≤ 24 → -1 ≤ left → left ≤ 2000 →
    (∀ r w', r = goodR v m left → (r = true → w'.heap[p]? = some (.cells [i64 (left - cntM v)].toArray 3 (0, 0))) → Chg (fun k => k = p) w w' → K (.bool r) w') → callF Tryz.prog 45 [.agg cs.toArray, i64 (m : Int), .pointer (some ⟨p, 0, none⟩)] w K := by
  induction v using JV.ind' with
  | h v ih =>
    intro m p left w cs K h hp hm hl1 hl2 hK
    refine W45_ok ?_
    unfold W45
    refine box_val h fun a w1 sv kv hB hx1 ha => ?_
    have hplt := at_lt hp
    have hp1 := hx1.at hp id
    refine box_one rfl fun d w2 hd hz2 hd2 hx2 => ?_
    refine box_one rfl fun q w3 hq hz3 hq3 hx3 => ?_
    have hp3 := hx3.at (hx2.at hp1 id) id
    have hB3 := hB.ext (hx2.trans hx3)
    have hd3 := hx3.at hd2 id
    have hx13 := (hx1.trans hx2).trans hx3
    simp only [wsv, wsg, wsh, wsl, cond_true, cond_false, exists_eq_left', Option.some.injEq, Option.isSome_some, List.getElem?_toArray, List.getElem?_cons_zero, List.getElem?_cons_succ, List.length_cons, List.length_nil, List.set_cons_zero, List.set_cons_succ, List.getD_cons_zero, List.getD_cons_succ, Nat.zero_add, Nat.add_zero, Nat.reduceAdd, Nat.reduceLT, Nat.lt_add_one, Nat.zero_lt_succ, decide_true, decide_false, ne_eq, reduceCtorEq, wsh, hq3, hp3]
    have ew : IntKind.i64.wrap (left - 1) = left - 1 := wrap_id (by omega) (by omega)
    refine st_at (off := 0) hp3 rfl (by simp) fun w4 hz4 hp4 hc4 => ?_
    have s1 := hx1.size
    have s2 := hx2.size
    have hq4 := hc4.at hq3 (by omega)
    have hd4 := hc4.at hd3 (by omega)
    have hb4 := hc4.at hB3.hb (by omega)
    rw [show ([i64 left].toArray.setIfInBounds 0 (i64 (IntKind.i64.wrap (left - 1)))) = [i64 (left - 1)].toArray by rw [ew]; rfl] at hp4
    have hcw : Chg (fun k => k = p) w w4 := (Chg.of_ext hx13).trans hc4
    obtain ⟨Tk, hks3⟩ := hB3.keys
    have hks4 : SlAt w4 Tk kv v.ks.length (v.ks.map str) := hks3.keep1 hp3 hc4 fun hn => .inl (by
      cases hkk : v.ks with
      | nil => rw [hkk] at hn; exact absurd rfl hn
      | cons a r => intro e; simp at e)
    obtain ⟨Ti, L, hit, hreps⟩ := hB3.items
    have hit4 : SlAt w4 Ti sv v.xs.length L := hit.keep1 hp3 hc4 fun hn => .inr (by
      have := hreps.len
      have hl : 0 < L.length := List.length_pos_iff.2 hn
      omega)
    have hreps4 : VReps w4 v.xs L := vreps_keepi hp3 hc4 hreps
    obtain ⟨f1, f2, f3, f4⟩ := hB3.fits
    have lx : ∀ KK : Value → Prop, lenlW sv KK ↔ KK (i64 v.xs.length) := fun KK => lenl_at hit KK
    have lk : ∀ KK : Value → Prop, lenlW kv KK ↔ KK (i64 v.ks.length) := fun KK => hB3.lenk KK
    simp only [wsv, wsg, wsh, wsl, cond_true, cond_false, exists_eq_left', Option.some.injEq, Option.isSome_some, List.getElem?_toArray, List.getElem?_cons_zero, List.getElem?_cons_succ, List.length_cons, List.length_nil, List.set_cons_zero, List.set_cons_succ, List.getD_cons_zero, List.getD_cons_succ, Nat.zero_add, Nat.add_zero, Nat.reduceAdd, Nat.reduceLT, Nat.lt_add_one, Nat.zero_lt_succ, decide_true, decide_false, ne_eq, reduceCtorEq, wsh, hq4, hp4, hd4, hb4]
    intro g1 g2 g3 g4
    rw [condW_b]
    refine ⟨fun hbad => hK false w4 ?_ (fun e => by cases e) hcw, fun hok => ?_⟩
    · rw [goodR_no]
      simp only [Bool.or_eq_true, Bool.and_eq_true, decide_eq_true_eq] at hbad
      rcases hbad with (h | h) | ⟨h, h'⟩
      · exact .inl (by omega)
      · exact .inr (.inl (by omega))
      · exact .inr (.inr (.inl ⟨h, h'⟩))
    have hm0 : m ≠ 0 := fun e => by rw [decide_eq_true (show (m : Int) = 0 by omega)] at hok; cases hok
    have hl0 : 1 ≤ left := by
      rcases Int.lt_or_le (left - 1) 0 with h | h
      · rw [decide_eq_true h] at hok; simp at hok
      · omega
    have hbk : v.b = true → v.k = 2 := fun e => by
      rw [e] at hok
      simp only [Bool.or_eq_false_iff, Bool.true_and, decide_eq_false_iff_not, Classical.not_not] at hok
      exact hok.2
    have flat : ∀ w', Ext w4 w' → 0 ≤ v.k → v.k < 5 → K (.bool (flatOk v && (decide (v.xs.length = 0) && decide (v.ks.length = 0)))) w' := fun w' e h0 h5 => by
      refine hK _ w' (goodR_flat hm0 hl0 hbk h0 h5).symm (fun hr => ?_) (hcw.then e fun _ _ e => e.elim)
      simp only [Bool.and_eq_true, decide_eq_true_eq] at hr
      have hx0 : v.xs = [] := List.eq_nil_of_length_eq_zero hr.2.1
      have hc1 : cntM v = 1 := by
        rw [v.eta, hx0]; rfl
      rw [hc1]; exact e.at hp4 id
    have no : (v.k < 0 ∨ 6 < v.k ∨ (v.k = 5 ∧ v.ks ≠ []) ∨ (v.k = 6 ∧ (v.ks.length ≠ v.xs.length ∨ keysOk v.ks = false))) → K (.bool false) w4 := fun h => hK false w4 (goodR_no (.inr (.inr (.inr h)))).symm (fun e => by cases e) hcw
    obtain ⟨m', rfl⟩ : ∃ m', m = m' + 1 := ⟨m - 1, by omega⟩
    refine JoinW.cut (fun s' w' => s' = [] ∧ w' = w4 ∧ (v.k = 5 ∧ v.ks = [] ∨ v.k = 6 ∧ v.ks.length = v.xs.length ∧ keysOk v.ks = true)) ?_ ?_
    · refine JoinW.cut (fun s' w' => s' = [.bool (decide (v.k = 0 ∨ v.k = 1 ∨ v.k = 2))] ∧ w' = w4) ?_ ?_
      · rw [condW_dec]
        refine ⟨fun h => ?_, fun h => ?_⟩
        · rw [decide_eq_true h, decide_eq_true (.inl h)]; exact ⟨rfl, rfl⟩
        · rw [condW_dec]
          refine ⟨fun h1 => ?_, fun h1 => ?_⟩
          · rw [decide_eq_true h1, decide_eq_true (.inr (.inl h1))]; exact ⟨rfl, rfl⟩
          · rw [show decide (v.k = 2) = decide (v.k = 0 ∨ v.k = 1 ∨ v.k = 2) by rw [decide_eq_decide]; omega]
            exact ⟨rfl, rfl⟩
      rintro s' g w5 ⟨rfl, rfl⟩
      simp only [wsv, wsg, wsh, wsl, cond_true, cond_false, exists_eq_left', Option.some.injEq, Option.isSome_some, List.getElem?_toArray, List.getElem?_cons_zero, List.getElem?_cons_succ, List.length_cons, List.length_nil, List.set_cons_zero, List.set_cons_succ, List.getD_cons_zero, List.getD_cons_succ, Nat.zero_add, Nat.add_zero, Nat.reduceAdd, Nat.reduceLT, Nat.lt_add_one, Nat.zero_lt_succ, decide_true, decide_false, ne_eq, reduceCtorEq, wsh, hb4, lx, lk, condW_dec]
      refine ⟨fun h012 => ?_, fun h012 => ?_⟩
      · intro g5
        have := flat w5 (Chg.refl _ _) (by omega) (by omega)
        unfold flatOk flatK at this
        rw [if_neg (by omega), if_neg (by omega)] at this
        rw [len_zero f1 f2]
        exact this
      refine ⟨fun h3 => ?_, fun h3 => ?_⟩
      · refine numgood_ref f3 fun w6 hx6 => ?_
        have hb6 := hx6.at hb4 id
        have := flat w6 hx6 (by omega) (by omega)
        unfold flatOk flatK at this
        rw [if_pos h3] at this
        simp only [wsv, wsg, wsh, wsl, cond_true, cond_false, exists_eq_left', Option.some.injEq, Option.isSome_some, List.getElem?_toArray, List.getElem?_cons_zero, List.getElem?_cons_succ, List.length_cons, List.length_nil, List.set_cons_zero, List.set_cons_succ, List.getD_cons_zero, List.getD_cons_succ, Nat.zero_add, Nat.add_zero, Nat.reduceAdd, Nat.reduceLT, Nat.lt_add_one, Nat.zero_lt_succ, decide_true, decide_false, ne_eq, reduceCtorEq, wsh, hb6, lx, lk]
        intro g6
        rw [len_zero f1 f2]
        exact this
      refine ⟨fun h4 => ?_, fun h4 => ?_⟩
      · intro g6
        have := flat w5 (Chg.refl _ _) (by omega) (by omega)
        unfold flatOk flatK at this
        rw [if_neg h3, if_pos h4] at this
        rw [len_zero f1 f2]
        rw [show decide ((v.t.length : Int) ≤ 16384) = decide (v.t.length ≤ 16384) by rw [decide_eq_decide]; omega]
        exact this
      refine ⟨fun h5 => ?_, fun h5 => ?_⟩
      · refine ⟨fun hk => no (.inr (.inr (.inl ⟨h5, fun e => by rw [e] at hk; simp at hk⟩))), fun hk => .inl ⟨h5, List.eq_nil_of_length_eq_zero (by omega)⟩⟩
      refine ⟨fun h6 => ?_, fun h6 => no (by omega)⟩
      refine ⟨fun hne => no (.inr (.inr (.inr ⟨h6, .inl (by omega)⟩))), fun heq => ?_⟩
      refine loop_up v.ks.length (fun i w' => w' = w5 ∧ (∀ j a, j < i → v.ks[j]? = some a → a.length ≤ 16384) ∧ (∀ j a b, j + 1 < i → v.ks[j]? = some a → v.ks[j + 1]? = some b → Op.bytesLess a b = true)) ⟨rfl, fun j a h => by omega, fun j a b h => by omega⟩ ?_ ?_
      · rintro i w6 g6 L6 hi ⟨rfl, hl, hs⟩ hL
        obtain ⟨u, hu⟩ : ∃ u, v.ks[i]? = some u := ⟨_, List.getElem?_eq_getElem hi⟩
        have hlt : ((i : Int) < (v.ks.length : Int)) := by omega
        simp only [wsv, wsg, wsh, wsl, cond_true, cond_false, exists_eq_left', Option.some.injEq, Option.isSome_some, List.getElem?_toArray, List.getElem?_cons_zero, List.getElem?_cons_succ, List.length_cons, List.length_nil, List.set_cons_zero, List.set_cons_succ, List.getD_cons_zero, List.getD_cons_succ, Nat.zero_add, Nat.add_zero, Nat.reduceAdd, Nat.reduceLT, Nat.lt_add_one, Nat.zero_lt_succ, decide_true, decide_false, ne_eq, reduceCtorEq, hlt]
        refine text_ld hks4 hu ?_
        have hnext : u.length ≤ 16384 → (∀ x, 0 < i → v.ks[i - 1]? = some x → Op.bytesLess x u = true) → L6 [i64 ((i + 1 : Nat) : Int)] w6 := fun h1 h2 => by
          refine hL _ ⟨rfl, fun j a hj ha => ?_, fun j a b hj ha hb => ?_⟩
          · rcases Nat.lt_or_ge j i with h | h
            · exact hl j a h ha
            · obtain rfl : j = i := by omega
              rw [hu] at ha; cases ha; exact h1
          · rcases Nat.lt_or_ge (j + 1) i with h | h
            · exact hs j a b h ha hb
            · obtain rfl : i = j + 1 := by omega
              rw [hu] at hb; cases hb
              exact h2 a (by omega) (by simpa using ha)
        by_cases hlong : 16384 < u.length
        · have e : decide ((16384 : Int) < (u.length : Int)) = true := decide_eq_true (by omega)
          simp only [wsv, wsg, wsh, wsl, cond_true, cond_false, exists_eq_left', Option.some.injEq, Option.isSome_some, List.getElem?_toArray, List.getElem?_cons_zero, List.getElem?_cons_succ, List.length_cons, List.length_nil, List.set_cons_zero, List.set_cons_succ, List.getD_cons_zero, List.getD_cons_succ, Nat.zero_add, Nat.add_zero, Nat.reduceAdd, Nat.reduceLT, Nat.lt_add_one, Nat.zero_lt_succ, decide_true, decide_false, ne_eq, reduceCtorEq, e]
          intros
          exact no (.inr (.inr (.inr ⟨h6, .inr (keysOk_long hu hlong)⟩)))
        · have e : decide ((16384 : Int) < (u.length : Int)) = false := decide_eq_false (by omega)
          by_cases h0 : i = 0
          · subst h0
            have e0 : decide ((0 : Int) < ((0 : Nat) : Int)) = false := by decide
            simp only [wsv, wsg, wsh, wsl, cond_true, cond_false, exists_eq_left', Option.some.injEq, Option.isSome_some, List.getElem?_toArray, List.getElem?_cons_zero, List.getElem?_cons_succ, List.length_cons, List.length_nil, List.set_cons_zero, List.set_cons_succ, List.getD_cons_zero, List.getD_cons_succ, Nat.zero_add, Nat.add_zero, Nat.reduceAdd, Nat.reduceLT, Nat.lt_add_one, Nat.zero_lt_succ, decide_true, decide_false, ne_eq, reduceCtorEq, e, e0]
            rw [up1 (by omega)]
            intros
            exact hnext (by omega) fun x h => by omega
          · obtain ⟨j, rfl⟩ : ∃ j, i = j + 1 := ⟨i - 1, by omega⟩
            obtain ⟨x, hxj⟩ : ∃ x, v.ks[j]? = some x := ⟨_, List.getElem?_eq_getElem (by omega)⟩
            have e0 : decide ((0 : Int) < ((j + 1 : Nat) : Int)) = true := decide_eq_true (by omega)
            have hw : IntKind.i64.wrap (((j + 1 : Nat) : Int) - 1) = ((j : Nat) : Int) := by rw [wrap_id (by omega) (by omega)]; omega
            simp only [wsv, wsg, wsh, wsl, cond_true, cond_false, exists_eq_left', Option.some.injEq, Option.isSome_some, List.getElem?_toArray, List.getElem?_cons_zero, List.getElem?_cons_succ, List.length_cons, List.length_nil, List.set_cons_zero, List.set_cons_succ, List.getD_cons_zero, List.getD_cons_succ, Nat.zero_add, Nat.add_zero, Nat.reduceAdd, Nat.reduceLT, Nat.lt_add_one, Nat.zero_lt_succ, decide_true, decide_false, ne_eq, reduceCtorEq, e, e0, hw]
            intro g7
            refine GdW.look (!Op.bytesLess x u) (fun _ J hJ => ?_) fun g8 => ?_
            · rw [hb4]
              refine ⟨kv, rfl, ?_⟩
              refine text_ld hks4 hxj ?_
              rw [bin_sge]; exact hJ
            intro g9
            simp only [List.getD_cons_zero, cond_true]
            rw [condW_b]
            refine ⟨fun hge => no (.inr (.inr (.inr ⟨h6, .inr (keysOk_two hxj hu (by simpa using hge))⟩))), fun hlt2 => ?_⟩
            rw [up1 (by omega)]
            exact hnext (by omega) fun y _ hy => by
              have : v.ks[j]? = some y := by simpa using hy
              rw [hxj] at this; cases this
              simpa using hlt2
      · rintro w6 g6 L6 ⟨rfl, hl, hs⟩
        have hkeys : keysOk v.ks = true := keysOk_mk (fun i a h => hl i a (List.getElem?_eq_some_iff.1 h).1 h) (fun i a b h1 h2 => hs i a b (List.getElem?_eq_some_iff.1 h2).1 h1 h2)
        simp only [wsv, wsg, wsh, wsl, cond_true, cond_false, exists_eq_left', Option.some.injEq, Option.isSome_some, List.getElem?_toArray, List.getElem?_cons_zero, List.getElem?_cons_succ, List.length_cons, List.length_nil, List.set_cons_zero, List.set_cons_succ, List.getD_cons_zero, List.getD_cons_succ, Nat.zero_add, Nat.add_zero, Nat.reduceAdd, Nat.reduceLT, Nat.lt_add_one, Nat.zero_lt_succ, decide_true, decide_false, ne_eq, reduceCtorEq, Int.lt_irrefl]
        exact .inr ⟨h6, by omega, hkeys⟩
    · rintro s' g w5 ⟨rfl, rfl, hk⟩
      simp only [wsv, wsg, wsh, wsl, cond_true, cond_false, exists_eq_left', Option.some.injEq, Option.isSome_some, List.getElem?_toArray, List.getElem?_cons_zero, List.getElem?_cons_succ, List.length_cons, List.length_nil, List.set_cons_zero, List.set_cons_succ, List.getD_cons_zero, List.getD_cons_succ, Nat.zero_add, Nat.add_zero, Nat.reduceAdd, Nat.reduceLT, Nat.lt_add_one, Nat.zero_lt_succ, decide_true, decide_false, ne_eq, reduceCtorEq, wsh, hb4]
      refine GdW.act (itemsOk v.xs m' (left - 1)) (fun w' => Chg (fun k => k = p) w5 w' ∧ (decide (v.t = []) = true → itemsOk v.xs m' (left - 1) = true → w'.heap[p]? = some (.cells [i64 (left - 1 - cntL v.xs)].toArray 3 (0, 0)))) (fun e => ⟨Chg.refl _ _, fun e' => by rw [e] at e'; cases e'⟩) ?_ ?_
      · intro ht J hJ
        refine W28_ok ?_
        unfold W28
        refine W44_ok ?_
        unfold W44
        rw [lx]
        refine loop_up v.xs.length (fun i w' => Chg (fun k => k = p) w5 w' ∧ w'.heap[p]? = some (.cells [i64 (left - 1 - cntS v.xs i)].toArray 3 (0, 0)) ∧ (∀ j x, j < i → v.xs[j]? = some x → goodR x m' (left - 1 - cntS v.xs j) = true) ∧ SlAt w' Ti sv v.xs.length L ∧ VReps w' v.xs L ∧ (cntS v.xs i : Int) ≤ left - 1) ⟨Chg.refl _ _, by simpa [cntS] using hp4, fun j x h => by omega, hit4, hreps4, by simp [cntS]; omega⟩ ?_ ?_
        · rintro i w6 g6 L6 hi ⟨hc6, hp6, hall, hit6, hreps6, hcs6⟩ hL
          obtain ⟨x, hxi⟩ : ∃ x, v.xs[i]? = some x := ⟨_, List.getElem?_eq_getElem hi⟩
          have hlt : ((i : Int) < (v.xs.length : Int)) := by omega
          simp only [wsv, wsg, wsh, wsl, cond_true, cond_false, exists_eq_left', Option.some.injEq, Option.isSome_some, List.getElem?_toArray, List.getElem?_cons_zero, List.getElem?_cons_succ, List.length_cons, List.length_nil, List.set_cons_zero, List.set_cons_succ, List.getD_cons_zero, List.getD_cons_succ, Nat.zero_add, Nat.add_zero, Nat.reduceAdd, Nat.reduceLT, Nat.lt_add_one, Nat.zero_lt_succ, decide_true, decide_false, ne_eq, reduceCtorEq, hlt]
          refine item_ld hit6 hreps6 hxi fun cs6 hr6 => ?_
          refine callV_cap (caps := [.pointer (some ⟨d, 0, none⟩), .pointer (some ⟨q, 0, none⟩)]) ?_
          refine W88_ok ?_
          unfold W88
          refine box_val hr6 fun b7 w7 sv7 kv7 hB7 hx7 hb7 => ?_
          refine hB7.ld fun cs7 hr7 => ?_
          have hd6 := hc6.at hd4 (by omega)
          have hq6 := hc6.at hq4 (by omega)
          have hd7 := hx7.at hd6 id
          have hq7 := hx7.at hq6 id
          have hp7 := hx7.at hp6 id
          have hw : IntKind.i64.wrap (((m' + 1 : Nat) : Int) - 1) = ((m' : Nat) : Int) := by rw [wrap_id (by omega) (by omega)]; omega
          simp only [wsv, wsg, wsh, wsl, cond_true, cond_false, exists_eq_left', Option.some.injEq, Option.isSome_some, List.getElem?_toArray, List.getElem?_cons_zero, List.getElem?_cons_succ, List.length_cons, List.length_nil, List.set_cons_zero, List.set_cons_succ, List.getD_cons_zero, List.getD_cons_succ, Nat.zero_add, Nat.add_zero, Nat.reduceAdd, Nat.reduceLT, Nat.lt_add_one, Nat.zero_lt_succ, decide_true, decide_false, ne_eq, reduceCtorEq, wsh, hd7, hq7, hw]
          refine ih x (List.mem_of_getElem? hxi) hr7 hp7 (by omega) (by omega) (by omega) fun r w8 hr8 hp8 hc8 => ?_
          simp only [wsv, wsg, wsh, wsl, cond_true, cond_false, exists_eq_left', Option.some.injEq, Option.isSome_some, List.getElem?_toArray, List.getElem?_cons_zero, List.getElem?_cons_succ, List.length_cons, List.length_nil, List.set_cons_zero, List.set_cons_succ, List.getD_cons_zero, List.getD_cons_succ, Nat.zero_add, Nat.add_zero, Nat.reduceAdd, Nat.reduceLT, Nat.lt_add_one, Nat.zero_lt_succ, decide_true, decide_false, ne_eq, reduceCtorEq, condW_b]
          have hc68 : Chg (fun k => k = p) w6 w8 := (Chg.of_ext hx7).trans hc8
          have hc58 := hc6.trans hc68
          refine ⟨fun hbad => ?_, fun hgood => ?_⟩
          · have hrf : r = false := by simpa using hbad
            rw [decide_eq_true (show (0 : Int) ≤ (i : Int) by omega)]
            have := itemsOk_no hxi (show goodR x m' (left - 1 - cntS v.xs i) = false by rw [← hr8]; exact hrf)
            rw [this] at hJ
            exact hJ w8 ⟨hc58, fun _ e => by cases e⟩
          · have hrt : r = true := by simpa using hgood
            have hg := hr8
            rw [hrt] at hg
            have hcx : (cntM x : Int) ≤ left - 1 - cntS v.xs i := by
              unfold goodR at hg
              have := hg.symm
              simp only [Bool.and_eq_true, decide_eq_true_eq] at this
              exact this.2
            rw [up1 (by omega)]
            refine hL w8 ⟨hc58, ?_, ?_, ?_, ?_, ?_⟩
            · rw [cntS, cntAt_get hxi]
              have e : left - 1 - ((cntS v.xs i : Nat) : Int) - ((cntM x : Nat) : Int) = left - 1 - ((cntS v.xs i + cntM x : Nat) : Int) := by omega
              rw [hp8 hrt, e]
            · intro j y hj hy
              rcases Nat.lt_or_ge j i with h | h
              · exact hall j y h hy
              · obtain rfl : j = i := by omega
                rw [hxi] at hy; cases hy
                exact hg.symm
            · exact (hit6.ext hx7).keep1 hp7 hc8 fun hn => .inr (by
                have := hreps.len
                have hl : 0 < L.length := List.length_pos_iff.2 hn
                omega)
            · exact vreps_keepi hp7 hc8 (hreps6.ext hx7)
            · rw [cntS, cntAt_get hxi]; omega
        · rintro w6 g6 L6 ⟨hc6, hp6, hall, hit6, hreps6, hcs6⟩
          simp only [wsv, wsg, wsh, wsl, cond_true, cond_false, exists_eq_left', Option.some.injEq, Option.isSome_some, List.getElem?_toArray, List.getElem?_cons_zero, List.getElem?_cons_succ, List.length_cons, List.length_nil, List.set_cons_zero, List.set_cons_succ, List.getD_cons_zero, List.getD_cons_succ, Nat.zero_add, Nat.add_zero, Nat.reduceAdd, Nat.reduceLT, Nat.lt_add_one, Nat.zero_lt_succ, decide_true, decide_false, ne_eq, reduceCtorEq, Int.lt_irrefl]
          rw [← cntL_S] at hp6 hcs6
          have := itemsOk_yes (fun i x h => hall i x (List.getElem?_eq_some_iff.1 h).1 h) hcs6
          have hj := hJ w6 ⟨hc6, fun _ _ => hp6⟩
          rw [this] at hj
          exact hj
      · rintro g6 w6 ⟨hc6, hp6⟩
        simp only [wsv, wsg, wsh, wsl, cond_true, cond_false, exists_eq_left', Option.some.injEq, Option.isSome_some, List.getElem?_toArray, List.getElem?_cons_zero, List.getElem?_cons_succ, List.length_cons, List.length_nil, List.set_cons_zero, List.set_cons_succ, List.getD_cons_zero, List.getD_cons_succ, Nat.zero_add, Nat.add_zero, Nat.reduceAdd, Nat.reduceLT, Nat.lt_add_one, Nat.zero_lt_succ, decide_true, decide_false, ne_eq, reduceCtorEq]
        refine hK _ w6 (goodR_deep hbk hk).symm (fun hr => ?_) (hcw.trans hc6)
        simp only [Bool.and_eq_true, decide_eq_true_eq] at hr
        rw [hp6 (decide_eq_true hr.1) hr.2]
        have : cntM v = 1 + cntL v.xs := by cases v; simp only [cntM, JV.xs]
        have e : left - 1 - ((cntL v.xs : Nat) : Int) = left - ((1 + cntL v.xs : Nat) : Int) := by omega
        rw [this, e]
end
end Go.Proofs.YtdkikjcpgihjlaaGreatDoor
namespace Go.Proofs.YtdkikjcpgihjlaaGreatDoor
open Go Go.Eng Go.RowKit
set_option maxRecDepth 100000
theorem sizeLM_big (xs : List JV) {n : Int} (h : 2000 < n) : sizeLM xs n = n := by
  cases xs with
  | nil => rfl
  | cons x xs => simp only [sizeLM]; rw [if_neg (by omega)]
theorem size_cnt : ∀ (m : Nat), m ≤ 24 → ∀ (v : JV), deepM v m = true → (sizeM v ≤ 2000 → sizeM v = cntM v) ∧ ((cntM v : Int) ≤ 2000 → sizeM v = cntM v) := by
  intro m
  induction m with
  | zero => intro _ v h; rw [deepM_zero] at h; cases h
  | succ m ih =>
    intro hm v h
    rw [deepM_succ, deepL_all, List.all_eq_true] at h
    have lst : ∀ (xs : List JV), (∀ x ∈ xs, deepM x m = true) → ∀ n : Int, 1 ≤ n → (sizeLM xs n ≤ 2000 → sizeLM xs n = n + cntL xs) ∧ (n + (cntL xs : Int) ≤ 2000 → sizeLM xs n = n + cntL xs) := by
      intro xs
      induction xs with
      | nil => intro _ n _; simp [sizeLM, cntL]
      | cons x xs ihx =>
        intro hx n hn
        have hxd := hx x List.mem_cons_self
        obtain ⟨b1, b2⟩ := size_bound m (by omega) x hxd
        obtain ⟨c1, c2⟩ := ih (by omega) x hxd
        have hc := cnt_pos x
        simp only [sizeLM, cntL]
        by_cases h2 : n ≤ 2000
        · rw [if_pos h2, wrap_id (by omega) (by omega)]
          obtain ⟨d1, d2⟩ := ihx (fun y hy => hx y (List.mem_cons_of_mem _ hy)) (n + sizeM x) (by omega)
          constructor
          · intro hs
            have hy : n + sizeM x ≤ 2000 := by
              apply Classical.byContradiction; intro hno
              rw [sizeLM_big xs (by omega)] at hs
              omega
            have e := c1 (by omega)
            rw [d1 hs, e]
            omega
          · intro hs
            have e := c2 (by omega)
            rw [d2 (by omega), e]
            omega
        · rw [if_neg h2]
          constructor
          · intro hs; omega
          · intro hs; omega
    obtain ⟨d1, d2⟩ := lst v.xs h 1 (by omega)
    have hc : cntM v = 1 + cntL v.xs := by cases v; simp only [cntM, JV.xs]
    rw [sizeM_eq, hc]
    constructor
    · intro hs; rw [d1 hs]; omega
    · intro hs; rw [d2 (by omega)]; omega
theorem goodM_R (v : JV) : goodR v 24 2000 = goodM v := by
  unfold goodR goodM
  cases hd : deepM v 24 with
  | false => simp
  | true =>
    obtain ⟨c1, c2⟩ := size_cnt 24 (Nat.le_refl _) v hd
    have : decide ((cntM v : Int) ≤ 2000) = decide (sizeM v ≤ 2000) := by
      rw [decide_eq_decide]
      constructor
      · intro h; rw [c2 h]; exact h
      · intro h; rw [← c1 h]; exact h
    rw [this]
    cases decide (sizeM v ≤ 2000) <;> cases plainM v <;> rfl
section
variable [HX]
theorem vgood_p {v : JV} {w : World} {cs : List Value} {K : Value → World → Prop} (h : VRep w v cs) (hK : ∀ w', Ext w w' → K (.bool (goodM v)) w') : callF Tryz.prog 30 [.agg cs.toArray] w K := by
  refine W30_ok ?_
  unfold W30
  refine box_val h fun a w1 sv kv hB hx1 ha => ?_
  refine alloc_new fun p w2 hp hz2 hb2 hx2 => ?_
  refine st_at (off := 0) hb2 rfl (by simp) fun w3 hz3 hb3 hc3 => ?_
  have hx3 : Ext w1 w3 := hx2.new hc3 (by omega)
  have hp3 : w3.heap[p]? = some (.cells [i64 2000].toArray 3 (0, 0)) := by rw [hb3]; rfl
  refine (hB.ext hx3).ld fun cs2 h2 => ?_
  refine good_p v h2 hp3 (m := 24) (by omega) (by omega) (by omega) fun r w4 hr _ hc4 => ?_
  rw [hr, goodM_R]
  have s1 := hx1.size
  exact hK w4 ((hx1.trans hx3).then hc4 fun k hk e => by omega)
end
end Go.Proofs.YtdkikjcpgihjlaaGreatDoor
namespace Go.Proofs.YtdkikjcpgihjlaaGreatDoor
open Go Go.Eng Go.Num Go.RowKit
set_option maxRecDepth 100000
section
variable [HX]
def mir (n i k : Nat) : Nat := if k < i ∨ n - i ≤ k then n - 1 - k else k
theorem revv_p {xs : List JV} {L : List Value} {v : Value} {base : Nat} {w : World} {K : Value → World → Prop} (h : Own w base VT 5 v xs.length L) (hr : VRepsP (fun q => base ≤ q ∧ v.ownBlock ≠ some q) w xs L) (hl : xs.length ≤ 1000000)
    (hK : ∀ w' L', Chg (fun k => v.ownBlock = some k) w w' → Own w' base VT 5 v xs.length L' → VRepsP (fun q => base ≤ q ∧ v.ownBlock ≠ some q) w' xs.reverse L' → K (.tuple #[]) w') : callF Tryz.prog 102 [v] w K := by
  refine W102_ok ?_
  unfold W102
  have hLl := hr.rep.len
  have h0 := h
  obtain ⟨hn, ⟨rfl, hz⟩ | ⟨g, cap, cur, rfl, hb, hg, hnc, h2, h3, h4⟩⟩ := h
  · have hx0 : xs = [] := List.eq_nil_of_length_eq_zero hz
    subst hx0
    rw [lenl_sl]
    have e1 : IntKind.i64.wrap (((0 : Nat) : Int) - 1) = -1 := by decide
    rw [bin_sub]
    simp only [e1]
    refine LoopW.go (fun st w' => st = [i64 0, i64 (-1)] ∧ w' = w) (fun _ _ => 0) ⟨rfl, rfl⟩ ?_
    rintro st g w2 ⟨rfl, rfl⟩
    simp only [List.getD_cons_zero, List.getD_cons_succ]
    rw [bin_lss, decide_eq_false (by omega), condW_false]
    exact hK w2 L (Chg.refl _ _) h0 (by simpa using hr)
  · rw [lenl_sl]
    generalize hnn : xs.length = n at *
    by_cases hn0 : n = 0
    · subst hn0
      have e1 : IntKind.i64.wrap (((0 : Nat) : Int) - 1) = -1 := by decide
      rw [bin_sub]
      simp only [e1]
      refine LoopW.go (fun st w' => st = [i64 0, i64 (-1)] ∧ w' = w) (fun _ _ => 0) ⟨rfl, rfl⟩ ?_
      rintro st g w2 ⟨rfl, rfl⟩
      simp only [List.getD_cons_zero, List.getD_cons_succ]
      rw [bin_lss, decide_eq_false (by omega), condW_false]
      have hx0 : xs = [] := List.eq_nil_of_length_eq_zero hnn
      exact hK w2 L (Chg.refl _ _) h0 (by rw [hx0] at hr ⊢; exact hr)
    · have e1 : IntKind.i64.wrap ((n : Int) - 1) = ((n - 1 : Nat) : Int) := by rw [wrap_id (by omega) (by omega)]; omega
      rw [bin_sub, e1]
      have hcell : ∀ q, q < n * 5 → cur[q]? = L[q]? := fun q hq => by
        have : (cur.toList.take (n * 5))[q]? = L[q]? := by rw [h4]
        rw [List.getElem?_take_of_lt hq] at this
        simpa using this
      have hcs : n * 5 ≤ cur.size := by rw [h3]; exact Nat.mul_le_mul_right _ hnc
      refine LoopW.go (fun st w' => ∃ (i : Nat) (c : Array Value), 2 * i ≤ n + 1 ∧ i ≤ n ∧ st = [i64 (i : Nat), i64 ((n : Int) - 1 - i)] ∧ Chg (fun k => k = g) w w' ∧ w'.heap[g]? = some (.cells c VT (0, 0)) ∧ c.size = cur.size ∧ (∀ k j, k < n → j < 5 → c[k * 5 + j]? = L[mir n i k * 5 + j]?))
        (fun st _ => match st with | [.int _ i, _] => n - i.toNat | _ => 0)
        ⟨0, cur, by omega, by omega, by simp; omega, Chg.refl _ _, hg, rfl, fun k j hk hj => by
          have : mir n 0 k = k := by unfold mir; rw [if_neg (by omega)]
          rw [this]; exact hcell _ (by omega)⟩ ?_
      rintro st g2 w2 ⟨i, c, h2i, hin, rfl, hc2, hb2, hs2, hm⟩
      simp only [List.getD_cons_zero, List.getD_cons_succ]
      have hitem : ∀ k, k < n → ∃ x cs, xs[k]? = some x ∧ VRepP (fun q => base ≤ q ∧ (Value.slice (some ⟨g, 0, none⟩) n cap).ownBlock ≠ some q) w x cs ∧ ∀ j, j < 5 → L[k * 5 + j]? = cs[j]? := fun k hk => by
        obtain ⟨x, hx⟩ : ∃ x, xs[k]? = some x := ⟨_, List.getElem?_eq_getElem (by omega)⟩
        obtain ⟨cs, h1, h2⟩ := hr.get5 hx
        exact ⟨x, cs, hx, h1, h2⟩
      rw [bin_lss, condW_dec]
      refine ⟨fun hlt => ?_, fun hge => ?_⟩
      · have hii : 2 * i + 1 < n := by omega
        have ei : ((n : Int) - 1 - i) = ((n - 1 - i : Nat) : Int) := by omega
        rw [ei]
        have hj : n - 1 - i < n := by omega
        have hmi : mir n i i = i := by unfold mir; rw [if_neg (by omega)]
        have hmj : mir n i (n - 1 - i) = n - 1 - i := by unfold mir; rw [if_neg (by omega)]
        obtain ⟨xi, ci, hxi, hci, hLi⟩ := hitem i (by omega)
        obtain ⟨xj, cj, hxj, hcj, hLj⟩ := hitem (n - 1 - i) hj
        have hdr : w2.drew.heap[g]? = some (.cells c VT (0, 0)) := hb2
        have ixp : ∀ (k : Nat) (K : Value → Prop), k < n → K (.pointer (some ⟨g, k * 5, none⟩)) → ixaW none 5 (.slice (some ⟨g, 0, none⟩) n cap) (i64 (k : Nat)) K := fun k K hk hK => by
          rw [ixa_slice]
          refine ⟨by omega, by omega, ?_⟩
          rw [add_mk, Nat.zero_add, Int.toNat_natCast]
          exact hK
        refine ixp _ _ hj ?_
        refine ld_cells (cs := cj) hdr hcj.rep.len (fun j hj5 => by rw [hm _ j hj hj5, hmj, hLj j hj5]) ?_
        refine ixp _ _ (by omega) ?_
        refine ld_cells (cs := ci) hdr hci.rep.len (fun j hj5 => by rw [hm _ j (by omega) hj5, hmi, hLi j hj5]) ?_
        refine ixp _ _ (by omega) ?_
        refine st_row hdr hcj.rep.len hcj.rep.all_one (by rw [hs2]; have : (i + 1) * 5 ≤ n * 5 := Nat.mul_le_mul_right _ (by omega); omega) fun w3 c3 hb3 hs3 hj3 hq3 hc3 hz3 => ?_
        refine ixp _ _ hj ?_
        refine st_row hb3 hci.rep.len hci.rep.all_one (by rw [hs3, hs2]; have : (n - 1 - i + 1) * 5 ≤ n * 5 := Nat.mul_le_mul_right _ (by omega); omega) fun w4 c4 hb4 hs4 hj4 hq4 hc4 hz4 => ?_
        have e3 : IntKind.i64.wrap ((i : Int) + 1) = ((i + 1 : Nat) : Int) := by rw [wrap_id (by omega) (by omega)]; omega
        have e4 : IntKind.i64.wrap (((n - 1 - i : Nat) : Int) - 1) = (n : Int) - 1 - ((i + 1 : Nat) : Int) := by rw [wrap_id (by omega) (by omega)]; omega
        rw [bin_add, e3, bin_sub, e4]
        have hcd : Chg (fun k => k = g) w w2.drew := hc2.drew
        refine ⟨⟨i + 1, c4, by omega, by omega, rfl, hcd.trans (hc3.trans hc4), hb4, by rw [hs4, hs3, hs2], fun k j hk hj5 => ?_⟩, by simp only [Int.toNat_natCast]; omega⟩
        by_cases hkj : k = n - 1 - i
        · subst hkj
          rw [hj4 j hj5, ← hLi j hj5]
          congr 1
          unfold mir; rw [if_pos (by omega)]; omega
        · have hout : ∀ q : Nat, k ≠ q → k * 5 + j < q * 5 ∨ q * 5 + 5 ≤ k * 5 + j := fun q hne => by omega
          rw [hq4 _ (hout _ hkj)]
          by_cases hki : k = i
          · subst hki
            rw [hj3 j hj5, ← hLj j hj5]
            congr 1
            unfold mir; rw [if_pos (by omega)]
          · rw [hq3 _ (hout _ hki), hm k j hk hj5]
            congr 2
            unfold mir
            by_cases hc : k < i ∨ n - i ≤ k
            · rw [if_pos hc, if_pos (by omega)]
            · rw [if_neg hc, if_neg (by omega)]
      · have hfin : ∀ k, k < n → mir n i k = n - 1 - k := fun k hk => by
          unfold mir
          by_cases hc : k < i ∨ n - i ≤ k
          · rw [if_pos hc]
          · rw [if_neg hc]; omega
        have hL' : (c.toList.take (n * 5)).length = n * 5 := by rw [List.length_take]; simp [hs2]; omega
        refine hK w2 (c.toList.take (n * 5)) (hc2.mono fun k _ e => by subst e; rfl) ⟨hL', .inr ⟨g, cap, c, rfl, hb, hb2, hnc, h2, by rw [hs2, h3], rfl⟩⟩ ?_
        refine VRepsP.of_get (by rw [hL', List.length_reverse, hnn]) fun k x hx => ?_
        have hk : k < n := by have := (List.getElem?_eq_some_iff.1 hx).1; rw [List.length_reverse, hnn] at this; exact this
        rw [List.getElem?_reverse (by rw [hnn]; exact hk), hnn] at hx
        obtain ⟨x', cs, hx', hcs, hLc⟩ := hitem (n - 1 - k) (by omega)
        rw [hx] at hx'
        cases hx'
        refine ⟨cs, VRepP.chg hc2 (fun q hq _ e => hq.2 (by subst e; rfl)) hcs, fun j hj5 => ?_⟩
        rw [List.getElem?_take_of_lt (by omega), ← hLc j hj5, ← hfin k hk, ← hm k j hk hj5]
        simp
theorem reverse_p {x : JV} {sv : Value} {w : World} {K : Value → World → Prop} (h : ItemsAt w sv [x]) (hg : GoodV x) (hK : DoK (reverseM x) w K) : callF Tryz.prog 63 [sv] w K := by
  refine W63_ok ?_
  unfold W63
  refine alloc_new fun b w1 hb hz1 hbb hx1 => ?_
  refine (h.ext hx1).at' (i := 0) rfl rfl fun cs hcs => ?_
  refine clone_o hg.few hcs fun sv' kv' L w2 hx2 hO => ?_
  have hbb2 := hx2.at hbb id
  have hlb : b < w1.heap.size := at_lt hbb
  refine alloc_new fun p w3 hp hz3 hbp hx3 => ?_
  have o1 := own_one hO.items
  have o2 := own_one hO.keys
  refine st_agg_at (l := [i64 x.k, .bool x.b, str x.t, sv', kv']) hbp rfl rfl (obj_one o1 o2) fun w4 hz4 hbp4 hc4 => ?_
  have s2 := hx2.size
  have hx24 : Ext w2 w4 := hx3.new hc4 (by omega)
  have hbb4 := hx24.at hbb2 id
  have hO4 := hO.ext hx24
  simp only [wsv, wsg, wsh, wsl, cond_true, cond_false, exists_eq_left', Option.some.injEq, Option.isSome_some, List.getElem?_toArray, List.getElem?_cons_zero, List.getElem?_cons_succ, List.length_cons, List.length_nil, List.set_cons_zero, List.set_cons_succ, List.getD_cons_zero, List.getD_cons_succ, Nat.zero_add, Nat.add_zero, Nat.reduceAdd, Nat.reduceLT, Nat.lt_add_one, Nat.zero_lt_succ, decide_true, decide_false, ne_eq, reduceCtorEq, wsh, hbp4]
  have hx04 := hx1.trans (hx2.trans hx24)
  have htl := head_t hg.plain
  rw [condW_dec]
  refine ⟨fun k4 => ?_, fun k4 => ?_⟩
  · have hS : reverseM x = some (tV (runesM x.t).reverse.flatten) := by unfold reverseM; rw [if_pos k4]
    rw [hS] at hK
    refine runes_p (by omega) fun v w5 hx5 hv => ?_
    have hrl := runes_len x.t
    refine revs_p hv (by omega) fun w6 hc6 hv6 => ?_
    have hx46 : Ext w4 w6 := hx5.then hc6 fun k hk e => by have := (own_ge hv e).1; omega
    have hj : Lib.join (runesM x.t).reverse [] = (runesM x.t).reverse.flatten := intercal_nil _
    have hjl : (Lib.join (runesM x.t).reverse []).length ≤ 140737488355328 := by
      refine Nat.le_trans (fjoin_len [] _ 100000 fun s hs => ?_) ?_
      · have := runes_item (List.mem_reverse.1 hs); omega
      · rw [List.length_reverse]
        refine Nat.le_trans (Nat.mul_le_mul (show (runesM x.t).length ≤ 100000 by omega) (Nat.le_refl _)) (by decide)
    have hsl := hv6.sl
    rw [show (runesM x.t).length = (runesM x.t).reverse.length from List.length_reverse.symm] at hsl
    refine join_any hsl (by rw [List.length_reverse]; omega) hjl fun w7 hx7 => ?_
    rw [hj] at hjl ⊢
    refine ftext_p fun w8 hx8 => ?_
    have hxx := hx46.trans (hx7.trans hx8)
    exact do_some rfl (hxx.at hbb4 id) rfl (by omega) (hx04.trans hxx) (flat_rep (Nat.le_trans hjl (by decide))) hK
  · have hS : reverseM x = if x.k = 5 then some (lV x.xs.reverse) else none := by unfold reverseM; rw [if_neg k4]
    rw [hS] at hK
    rw [condW_dec]
    refine ⟨fun k5 => ?_, fun k5 => ?_⟩
    · rw [if_pos k5] at hK
      have hlens := hg.lens
      have hhead := hg.plain
      rw [plainM_eq, Bool.and_eq_true] at hhead
      obtain ⟨_, _, hb2', ht4, _, hk6, _⟩ := headOk_out hhead.1
      have eb : x.b = false := by
        cases hb0 : x.b with
        | false => rfl
        | true => have := hb2' hb0; omega
      have et : x.t = [] := Classical.byContradiction fun e => by rcases ht4 e with k | k <;> omega
      have ek : x.ks = [] := Classical.byContradiction fun e => by have := hk6 e; omega
      refine revv_p (hO4.items) (hO4.reps.mono fun q _ hq => ⟨hq.1, hq.2.1⟩) (by omega) fun w11 L' hc11 hO11 hR11 => ?_
      have hne : ∀ q, sv'.ownBlock = some q → w1.heap.size ≤ q ∧ q < w2.heap.size := fun q hq => ⟨(own_in hO.items hq).1, (own_in hO.items hq).2.1⟩
      have hx11 : Ext w w11 := hx04.then hc11 fun k hk e => by have := (hne k e).1; have := hx1.size; omega
      have hp11 := hc11.at hbp4 fun e => by have := (hne p e).2; omega
      have hb11 := hc11.at hbb4 fun e => by have := (hne b e).1; omega
      refine ld_all hp11 rfl ?_
      have hke : kv' = .slice none 0 0 ∨ True := .inr trivial
      have hks : SlAt w11 ST kv' 0 [] := by
        have := hO4.keys.sl
        rw [ek] at this
        obtain ⟨p0, c0, e0, h1, h2, _⟩ := this
        exact ⟨p0, c0, e0, h1, h2, fun h => absurd rfl h⟩
      have hV : VRepP (fun q => w.heap.size ≤ q ∧ q ≠ b) w11 (lV x.xs.reverse) [i64 x.k, .bool x.b, str x.t, sv', kv'] := by
        rw [k5, eb, et]
        refine VRepP.mk (v := lV x.xs.reverse) (T1 := VT) (T2 := ST) (L := L') ?_ ?_ (by simpa [JV.ks] using hks) ⟨by show x.xs.reverse.length ≤ _; rw [List.length_reverse]; omega, by simp [JV.ks], by simp [JV.t], by simp [JV.ks]⟩ (fun _ k hk => ⟨by have := (hne k hk).1; have := hx1.size; omega, fun e => by have := (hne k hk).1; omega⟩) (fun h => by simp [JV.ks] at h)
        · show SlAt w11 VT sv' x.xs.reverse.length L'
          rw [List.length_reverse]; exact hO11.sl
        · refine hR11.mono fun q _ hq => ⟨by have := hq.1; have := hx1.size; omega, fun e => by have := hq.1; omega⟩
      exact do_some rfl hb11 rfl (by omega) hx11 hV hK
    · rw [if_neg k5] at hK
      exact do_none2 rfl hbb4 rfl (by omega) hx04 hK
end
end Go.Proofs.YtdkikjcpgihjlaaGreatDoor
namespace Go.Proofs.YtdkikjcpgihjlaaGreatDoor
open Go Go.Eng Go.Num Go.RowKit
set_option maxRecDepth 100000
theorem dec_pos2 {c : UInt8} {d : Str} (h : (c :: d).all Num.isDig = true) (h48 : c ≠ 48) : 1 ≤ Num.dec (c :: d) := by
  rw [Num.dec_cons]
  simp only [List.all_cons, Bool.and_eq_true] at h
  have hc := h.1
  simp only [Num.isDig, Bool.and_eq_true, decide_eq_true_eq] at hc
  have : c.toNat ≠ 48 := fun e => h48 (by apply UInt8.toNat_inj.1; exact e)
  have hv : 1 ≤ Num.dval c := by unfold Num.dval; omega
  have := Nat.pow_pos (n := d.length) (show 0 < 10 by omega)
  have := Nat.mul_le_mul hv this
  omega
theorem flat_any {G : Nat → Prop} {w : World} {v : JV} {cs : List Value} (h : VRep w v cs) (hx : v.xs = []) (hk : v.ks = []) : VRepP G w v cs := by
  obtain ⟨sv, kv, T1, T2, L, rfl, h1, h2, h3, h4⟩ := h.out
  rw [hx] at h2
  simp only [VReps] at h2
  subst h2
  refine VRepP.mk h1 (by rw [hx]; simp [VRepsP]) h3 h4 (fun e => absurd rfl e) (fun e => by rw [hk] at e; simp at e)
section
variable [HX]
theorem get_f {v : JV} {cs : List Value} {k : Str} {w : World} {K : Value → World → Prop} (h : VRep w v cs) (k6 : v.k = 6) (hl : v.ks.length = v.xs.length) (hfew : fewM v = true) (hr : Rise v.ks)
    (hK : ∀ cs' w', Ext w w' → VRepP (From w.heap.size) w' ((getM v k).getD JV.null) cs' → K (.tuple #[.agg cs'.toArray, .bool (getM v k).isSome]) w') : callF Tryz.prog 97 [.agg cs.toArray, str k] w K := by
  have hfew2 := hfew
  rw [fewM_eq, fewL_all] at hfew2
  simp only [Bool.and_eq_true, decide_eq_true_eq, List.all_eq_true] at hfew2
  obtain ⟨⟨f1, f2⟩, f3⟩ := hfew2
  refine W97_ok ?_
  unfold W97
  refine box_val h fun a w1 sv kv hB hx _ => ?_
  refine alloc_new fun b w2 hb hz2 hbb hx2 => ?_
  have hB0 := hB
  have hB := hB.ext hx2
  have hgb : w1.heap.size ≤ b := by omega
  have s1 := hx.size
  simp only [wsv, wsg, wsh, wsl, cond_true, cond_false, exists_eq_left', Option.some.injEq, Option.isSome_some, List.getElem?_toArray, List.getElem?_cons_zero, List.getElem?_cons_succ, List.length_cons, List.length_nil, List.set_cons_zero, List.set_cons_succ, List.getD_cons_zero, List.getD_cons_succ, Nat.zero_add, Nat.add_zero, Nat.reduceAdd, Nat.reduceLT, Nat.lt_add_one, Nat.zero_lt_succ, decide_true, decide_false, ne_eq, reduceCtorEq, wsh, hB.hb]
  obtain ⟨T2, hk2⟩ := hB.keys
  refine search_p hk2 f2 hr fun i hi0 _ _ hile => ?_
  have e6 : decide (v.k = 6) = true := decide_eq_true k6
  cases hx0 : idxK v.ks k with
  | none =>
    have hg : getM v k = none := by unfold getM; rw [if_pos k6, hx0]
    rw [hg] at hK
    simp only [Option.isSome_none]
    simp only [wsv, wsg, wsh, wsl, cond_true, cond_false, exists_eq_left', Option.some.injEq, Option.isSome_some, List.getElem?_toArray, List.getElem?_cons_zero, List.getElem?_cons_succ, List.length_cons, List.length_nil, List.set_cons_zero, List.set_cons_succ, List.getD_cons_zero, List.getD_cons_succ, Nat.zero_add, Nat.add_zero, Nat.reduceAdd, Nat.reduceLT, Nat.lt_add_one, Nat.zero_lt_succ, decide_true, decide_false, ne_eq, reduceCtorEq, wsh, hB.hb, e6]
    intros
    (try simp only [wsv, wsg, wsh, wsl, cond_true, cond_false, exists_eq_left', Option.some.injEq, Option.isSome_some, List.getElem?_toArray, List.getElem?_cons_zero, List.getElem?_cons_succ, List.length_cons, List.length_nil, List.set_cons_zero, List.set_cons_succ, List.getD_cons_zero, List.getD_cons_succ, Nat.zero_add, Nat.add_zero, Nat.reduceAdd, Nat.reduceLT, Nat.lt_add_one, Nat.zero_lt_succ, decide_true, decide_false, ne_eq, reduceCtorEq, wsh, hB.hb, e6])
    exact ret_f (w0 := w) (K := fun r w => K (.tuple #[r, .bool false]) w) hbb rfl (by omega) (hx.trans hx2) (flat_rep (k := 0) (b := false) (t := []) (by simp)) fun w4 hx4 h4 => hK _ w4 hx4 h4
  | some j =>
    obtain rfl : j = i := by
      rcases hi0 with h | h
      · rw [h] at hx0; cases hx0
      · rw [h] at hx0; exact (Option.some.inj hx0).symm
    obtain ⟨x, hxi⟩ : ∃ x, v.xs[j]? = some x := ⟨_, List.getElem?_eq_getElem (by
      have := (List.getElem?_eq_some_iff.1 (idxK_spec hx0)).1
      omega)⟩
    have hg : getM v k = some x := by unfold getM; rw [if_pos k6, hx0]; exact hxi
    rw [hg] at hK
    simp only [Option.isSome_some]
    simp only [wsv, wsg, wsh, wsl, cond_true, cond_false, exists_eq_left', Option.some.injEq, Option.isSome_some, List.getElem?_toArray, List.getElem?_cons_zero, List.getElem?_cons_succ, List.length_cons, List.length_nil, List.set_cons_zero, List.set_cons_succ, List.getD_cons_zero, List.getD_cons_succ, Nat.zero_add, Nat.add_zero, Nat.reduceAdd, Nat.reduceLT, Nat.lt_add_one, Nat.zero_lt_succ, decide_true, decide_false, ne_eq, reduceCtorEq, wsh, hB.hb, e6]
    intros
    (try simp only [wsv, wsg, wsh, wsl, cond_true, cond_false, exists_eq_left', Option.some.injEq, Option.isSome_some, List.getElem?_toArray, List.getElem?_cons_zero, List.getElem?_cons_succ, List.length_cons, List.length_nil, List.set_cons_zero, List.set_cons_succ, List.getD_cons_zero, List.getD_cons_succ, Nat.zero_add, Nat.add_zero, Nat.reduceAdd, Nat.reduceLT, Nat.lt_add_one, Nat.zero_lt_succ, decide_true, decide_false, ne_eq, reduceCtorEq, wsh, hB.hb, e6])
    refine hB0.item_old hx2 hxi fun cs2 h2 => ?_
    refine clone_p x (f3 x (List.mem_of_getElem? hxi)) (h2.ext hx2) fun cs3 w3 hx3 h3 => ?_
    exact ret_f (w0 := w) (K := fun r w => K (.tuple #[r, .bool true]) w) (hx3.at hbb id) rfl (by omega) (hx.trans (hx2.trans hx3)) (h3.at (by have := at_lt hbb; omega) (by omega)) fun w4 hx4 h4 => hK _ w4 hx4 h4
theorem ItemsAt.ptr {w : World} {sv : Value} {xs : List JV} {n : Int} {i : Nat} {x : JV} {K : Value → Prop} (h : ItemsAt w sv xs) (hn : n = (i : Nat)) (hi : xs[i]? = some x)
    (hK : ∀ b o c T fr cs, w.heap[b]? = some (.cells c T fr) → VRep w x cs → (∀ j, j < 5 → c[o + j]? = cs[j]?) → K (.pointer (some ⟨b, o, none⟩))) : ixaW none 5 sv (.int .i64 n) K := by
  subst hn
  obtain ⟨T, L, h1, h2⟩ := h.it
  exact item_at h1 h2 hi fun b o c fr cs hb hc hg => hK b o c T fr cs hb hc hg
theorem ld_fld {w : World} {b o off : Nat} {c : Array Value} {T : TypeId} {fr : Nat × Nat} {cs : List Value} {u : Value} {K : Value → Prop} (hb : w.heap[b]? = some (.cells c T fr)) (hg : ∀ j, j < 5 → c[o + j]? = cs[j]?) (ho : off < 5) (hu : cs[off]? = some u) (hK : K u) :
    ldW false 1 (.pointer (some ⟨b, o + off, none⟩)) w K := by
  rw [ld_one]
  exact ⟨u, by rw [cell_eq, hb, cellO_some, hg off ho, hu], hK⟩
theorem vtx {w : World} {v : JV} {cs : List Value} (h : VRep w v cs) : cs[2]? = some (str v.t) := by obtain ⟨sv, kv, T1, T2, L, rfl, _⟩ := h.out; rfl
theorem lookup_p {x y z : JV} {sv : Value} {w : World} {K : Value → World → Prop} (h : ItemsAt w sv [x, y, z]) (hx : GoodV x) (hx6 : x.k = 6) (hz : GoodV z) (hK : DoK (some ((getM x y.t).getD z)) w K) : callF Tryz.prog 54 [sv] w K := by
  have hlens := hx.lens
  have hrise := keysOk_rise hlens.2.2.2.1
  refine W54_ok ?_
  unfold W54
  refine alloc_new fun b w1 hb hz1 hbb hx1 => ?_
  have hxd : Ext w1 w1.drew := Chg.drew (Chg.refl (fun _ => False) w1)
  have sd : w1.drew.heap.size = w1.heap.size := rfl
  have h1 := (h.ext hx1).ext hxd
  have hlb := at_lt hbb
  refine JoinW.cut (fun st w' => ∃ p cs, st = [.pointer (some ⟨p, 0, none⟩), .bool (getM x y.t).isSome] ∧ Ext w1 w' ∧ w'.heap[p]? = some (.cells cs.toArray VT (0, 0)) ∧ cs.length = 5 ∧ VRepP (From w1.heap.size) w' ((getM x y.t).getD JV.null) cs) ?_ ?_
  · refine h1.ptr (i := 0) rfl rfl fun b0 o0 c0 T0 fr0 cs hb0 hcs hg0 => ?_
    refine ld_cells hb0 hcs.len hg0 ?_
    refine h1.ptr (i := 1) rfl rfl fun b1 o1 c1 T1 fr1 ds hb1 hds hg1 => ?_
    rw [fld_ptr, add_mk]
    refine ld_fld hb1 hg1 (by omega) (vtx hds) ?_
    refine ⟨?_, ?_⟩
    · refine get_f hcs hx6 (hlens.2.2.1 hx6) hx.few hrise fun cs' w3 hx3 h3 => ?_
      simp only [ext_tuple]
      refine ⟨_, rfl, _, rfl, ?_⟩
      refine alloc_new fun p w4 hp hz4 hbp hx4 => ?_
      refine st_agg_at hbp h3.rep.len rfl h3.rep.all_one fun w5 hz5 hbp5 hc5 => ?_
      have s3 := hx3.size
      refine ⟨p, cs', rfl, (hxd.trans (hx3.trans hx4)).new hc5 (by omega), hbp5, h3.rep.len, ?_⟩
      have h4 : VRepP (fun q => w1.heap.size ≤ q ∧ q < w3.heap.size) w4 ((getM x y.t).getD JV.null) cs' := (h3.mono fun q hlt hq => ⟨hq, hlt⟩).ext' hx4
      exact (VRepP.chg hc5 (fun q hq _ e => by have : q = p := e; omega) h4).mono fun q _ hq => hq.1
    · refine alloc_new fun p w6 hp hz6 hbp hx6' => ?_
      refine ⟨ld_fld (hx6'.at hb1 id) hg1 (by omega) (vtx hds) rfl, ld_cells (hx6'.at hb0 id) hcs.len hg0 rfl, ?_⟩
      refine get_f (hcs.ext hx6') hx6 (hlens.2.2.1 hx6) hx.few hrise fun cs' w7 hx7 h7 => ?_
      simp only [ext_tuple]
      refine ⟨_, rfl, _, rfl, ?_⟩
      refine st_agg_at (hx7.at hbp id) h7.rep.len rfl h7.rep.all_one fun w8 hz8 hbp8 hc8 => ?_
      refine ⟨p, cs', rfl, (hxd.trans (hx6'.trans hx7)).new hc8 (by omega), hbp8, h7.rep.len, ?_⟩
      exact (VRepP.chg hc8 (fun q hq _ e => by have : q = p := e; have : w6.heap.size ≤ q := hq; omega) h7).mono fun q _ hq => by have : w6.heap.size ≤ q := hq; show w1.heap.size ≤ q; omega
  · rintro st g w9 ⟨p, cs, rfl, hx9, hp9, hl5, h9⟩
    simp only [List.getD_cons_zero, List.getD_cons_succ]
    have hbb9 := hx9.at hbb id
    cases hgm : getM x y.t with
    | some u =>
      rw [hgm] at hK h9
      simp only [Option.isSome_some]
      rw [condW_true]
      refine ld_all hp9 hl5 ?_
      exact do_some rfl hbb9 rfl (by omega) (hx1.trans hx9) (h9.at hlb (by omega)) hK
    | none =>
      rw [hgm] at hK
      simp only [Option.isSome_none]
      rw [condW_false]
      refine ((h.ext hx1).ext hx9).at' (i := 2) rfl rfl fun ds hds => ?_
      refine clone_p z hz.few hds fun es w12 hx12 h12 => ?_
      have s9 := hx9.size
      exact do_some rfl (hx12.at hbb9 id) rfl (by omega) (hx1.trans (hx9.trans hx12)) (h12.at (by omega) (by omega)) hK
theorem contains_p {x y : JV} {sv : Value} {w : World} {K : Value → World → Prop} (h : ItemsAt w sv [x, y]) (hK : DoK (some (bV (x.xs.any fun u => decide (cmpM u y = 0)))) w K) : callF Tryz.prog 49 [sv] w K := by
  refine W49_ok ?_
  unfold W49
  have hsv1 : sv.cells.toList = [sv] ∧ one1 sv = true := by obtain ⟨T, L, h1, _⟩ := h.it; obtain ⟨p, c, rfl, _⟩ := h1; exact ⟨rfl, rfl⟩
  refine box_one hsv1.2 fun a w1 ha hz1 hba hx1 => ?_
  refine alloc_new fun b w2 hb hz2 hbb hx2 => ?_
  have hba2 := hx2.at hba id
  have hx02 := hx1.trans hx2
  rw [ld_one]
  refine ⟨sv, by rw [cell_eq, hba2]; rfl, ?_⟩
  refine (h.ext hx02).fx (i := 0) rfl rfl fun u hu => ?_
  refine contains_x (p := fun u => decide (cmpM u y = 0)) hu (fun z hz {cs w3 K3} hx3 hcs hK3 => ?_) fun w3 hx3 => ?_
  · refine callV_cap (caps := [.pointer (some ⟨a, 0, none⟩)]) ?_
    refine W92_ok ?_
    unfold W92
    refine box_val hcs fun q w4 sv4 kv4 hB4 hx4 _ => ?_
    have hxd : Ext w4 w4.drew := Chg.drew (Chg.refl (fun _ => False) w4)
    refine (hB4.ext hxd).ld fun cs4 hcs4 => ?_
    have hx34 := hx4.trans hxd
    rw [ld_one]
    refine ⟨sv, by rw [cell_eq, hx34.at (hx3.at hba2 id) id]; rfl, ?_⟩
    refine (((h.ext hx02).ext hx3).ext hx34).at' (i := 1) rfl rfl fun ds hds => ?_
    refine equal_p hcs4 hds fun w5 hx5 => ?_
    exact hK3 w5 (hx34.trans hx5)
  · refine fboolv_p fun w4 hx4 => ?_
    have hxx := hx3.trans hx4
    exact do_some rfl (hxx.at hbb id) rfl (by have := hx1.size; omega) (hx02.trans hxx) (flat_rep (by simp)) hK
theorem upTo_p {x : JV} {sv : Value} {w : World} {K : Value → World → Prop} (hT : TabF w) (h : ItemsAt w sv [x]) (hg : goodN x.t = true) (hK : DoK (rangeM x.t) w K) : callF Tryz.prog 62 [sv] w K := by
  have hgl := good_len hg
  refine W62_ok ?_
  unfold W62
  refine alloc_new fun b w1 hb hz1 hbb hx1 => ?_
  refine (h.ext hx1).ft (i := 0) rfl rfl fun _ => ?_
  refine numint_x (hT.ext hx1) (by omega) fun w2 hx2 => ?_
  simp only [ext_tuple]
  refine ⟨_, rfl, _, rfl, ?_⟩
  have hbb2 := hx2.at hbb id
  have hx02 := hx1.trans hx2
  simp only [un_not, isB_f, bin_lss, bin_gtr, GdW_pure, List.getD_cons_zero, pick_gd_or]
  intro _ _
  -- in range
  have hin : (intM x.t).isSome = true ∧ 0 ≤ (intM x.t).getD 0 ∧ (intM x.t).getD 0 ≤ 32 ↔ neg x.t = false ∧ dec x.t ≤ 32 := by
    cases hn : neg x.t with
    | false =>
      rw [int_pos hg hn]
      by_cases hd : dec x.t ≤ 9223372036854775807
      · rw [if_pos hd]; simp; omega
      · rw [if_neg hd]; simp; omega
    | true =>
      simp only [Bool.true_eq_false, false_and, iff_false]
      rintro ⟨h1, h2, _⟩
      obtain ⟨hs, hne, ha⟩ := good_shape hg
      obtain ⟨g1, g2, g3, g4⟩ := goodN_out hg
      have h45 : x.t = 45 :: dig x.t := by
        rcases hs with ⟨e, _⟩ | ⟨_, e⟩
        · exact e
        · rw [hn] at e; cases e
      have hpos : 1 ≤ dec (dig x.t) := by
        cases hd : dig x.t with
        | nil => exact absurd hd hne
        | cons c d =>
          rw [hd] at ha g3
          refine dec_pos2 ha fun e => ?_
          subst e
          have := g3 rfl
          rw [h45] at this
          cases this
      have hnum : num x.t = -(dec (dig x.t) : Int) := by unfold num; rw [hn]; rfl
      have : intM x.t = some (num x.t) := by
        unfold intM at h1 ⊢
        split at h1
        · rename_i hc; rw [if_pos hc]
        · cases h1
      rw [this] at h2
      simp only [Option.getD_some] at h2
      omega
  rw [condW_b]
  refine ⟨fun hbad => ?_, fun hok => ?_⟩
  · refine do_none ?_ hbb2 rfl (by omega) hx02 hK
    unfold rangeM
    rw [if_pos]
    cases hn : neg x.t with
    | true => rfl
    | false =>
      simp only [Bool.false_or, decide_eq_true_eq]
      refine Classical.byContradiction fun hd => ?_
      obtain ⟨a1, a2, a3⟩ := hin.2 ⟨hn, by omega⟩
      rw [a1, decide_eq_false (by omega), decide_eq_false (by omega)] at hbad
      cases hbad
  · simp only [Bool.or_eq_false_iff, Bool.not_eq_false', decide_eq_false_iff_not] at hok
    obtain ⟨hn, hd⟩ := hin.1 ⟨hok.1.1, by omega, by omega⟩
    have hI : intM x.t = some (dec x.t : Int) := by rw [int_pos hg hn, if_pos (by omega)]
    have hS : rangeM x.t = some (lV ((List.range (dec x.t)).map fun i : Nat => iV (i : Int))) := by
      unfold rangeM
      rw [if_neg]
      rw [hn]; simp; omega
    rw [hS] at hK
    rw [hI]
    simp only [Option.getD_some]
    generalize hN : dec x.t = N at *
    simp only [put_int, put_str, put_nil, List.length_cons, List.length_nil, List.set_cons_zero, List.set_cons_succ]
    refine ⟨by omega, ?_⟩
    refine alloc_new fun p w11 hp hz11 hbp hx11 => ?_
    refine st_agg_at (l := flat 5 false []) hbp rfl rfl rfl fun w12 hz12 hbp12 hc12 => ?_
    have s1 := hx1.size
    have s2 := hx2.size
    have hlb2 := at_lt hbb2
    have hbb12 := hc12.at (hx11.at hbb2 id) fun e => by have : b = p := e; omega
    have hx012 : Ext w w12 := (hx02.trans hx11).new hc12 (by omega)
    have hT12 := hT.ext hx012
    refine LoopW.go (fun st w' => ∃ (i : Nat) (r : Value) (L : List Value), st = [i64 (i : Nat)] ∧ i ≤ N ∧ Ext w w' ∧ w'.heap[b]? = w12.heap[b]? ∧ w'.heap[p]? = some (.cells [i64 5, .bool false, str [], r, .slice none 0 0].toArray VT (0, 0)) ∧ w12.heap.size ≤ w'.heap.size ∧
        Own w' w12.heap.size VT 5 r i L ∧ VRepsP (fun _ => False) w' ((List.range i).map fun i : Nat => iV (i : Int)) L)
      (fun st _ => match st with | [.int _ i] => N - i.toNat | _ => 0)
      ⟨0, .slice none 0 0, [], rfl, Nat.zero_le _, hx012, rfl, hbp12, Nat.le_refl _, ⟨rfl, .inl ⟨rfl, rfl⟩⟩, by simp [VRepsP]⟩ ?_
    rintro st g w5 ⟨i, r, L, rfl, hi, hx5, hb5, hp5, hz5, hO, hR⟩
    simp only [List.getD_cons_zero]
    rw [bin_lss, condW_dec]
    refine ⟨fun hlt => ?_, fun hge => ?_⟩
    · have hlt : i < N := by omega
      have hxd : Ext w5 w5.drew := Chg.drew (Chg.refl (fun _ => False) w5)
      rw [fld_ptr, add_mk, ld_one]
      refine ⟨r, by rw [cell_eq, hxd.at hp5 id]; rfl, ?_⟩
      have hil : (Lib.itoa (i : Int)).length ≤ 9223372036854775807 := Nat.le_trans (itoa_len2 (by omega) (by omega)) (by decide)
      refine int_p (hT.ext (hx5.trans hxd)) (by omega) (by omega) fun w7 hx7 => ?_
      have hx57 := hxd.trans hx7
      refine ⟨by rw [ld_one]; exact ⟨r, by rw [cell_eq, hx57.at hp5 id]; rfl, rfl⟩, ?_⟩
      refine row_v rfl fun t w8 ht hx8 => ?_
      have hx58 := hx57.trans hx8
      refine ⟨by rw [ld_one]; exact ⟨r, by rw [cell_eq, hx58.at hp5 id]; rfl, rfl⟩, ?_⟩
      have s58 := hx58.size
      refine append_own3 elem_v (hO.ext hx58) ht (m := 1) rfl (flat_rep (G := fun _ => False) (w := w) hil).rep.one (by omega) (by omega) (by omega) fun v' w9 h9 hc9 hb9 => ?_
      have hp9 := hc9.at (hx58.at hp5 id) fun e => by have := (own_ge hO e).1; have := at_lt hbp12; omega
      have h9one := own_one h9
      refine st_at hp9 h9one (by simp) fun w10 hz10 hb10 hc10 => ?_
      rw [bin_add, up1 (by omega)]
      have hlb : b < w12.heap.size := at_lt hbb12
      have hlp : p < w12.heap.size := at_lt hbp12
      refine ⟨⟨i + 1, v', L ++ flat 3 false (Lib.itoa (i : Int)), rfl, hlt, ?_, ?_, by rw [hb10]; simp, by have := hc9.size; omega, ?_, ?_⟩, by simp only [Int.toNat_natCast]; omega⟩
      · exact ((hx5.trans hx58).then hc9 fun k hk e => by have := (own_ge hO e).1; have := hx012.size; omega).new hc10 (show w.heap.size ≤ p by omega)
      · rw [hc10.heap b (by have := hc9.size; omega) (fun e => by have : b = p := e; omega), hc9.heap b (by omega) (fun e => by have := (own_ge hO e).1; omega), hx58.heap b (by omega) id, hb5]
      · exact own_chg h9 hc10 fun q hq e => by
          subst e
          have := (own_ge h9 hq).1; omega
      · rw [List.range_succ, List.map_append]
        have h1 : VRepsP (fun _ => False) w10 ((List.range i).map fun i : Nat => iV (i : Int)) L := VRepsP.chg hc10 (fun _ f => f.elim) (VRepsP.chg hc9 (fun _ f => f.elim) (VRepsP.chg hx58 (fun _ f => f.elim) hR))
        exact h1.snoc (flat_rep hil)
    · obtain rfl : i = N := by omega
      have hml : ((List.range i).map fun i : Nat => iV (i : Int)).length = i := by simp
      have hV : VRepP (From w12.heap.size) w5 (lV ((List.range i).map fun i : Nat => iV (i : Int))) [i64 5, .bool false, str [], r, .slice none 0 0] :=
        VRepP.mk (v := lV ((List.range i).map fun i : Nat => iV (i : Int))) (by show SlAt w5 VT r ((List.range i).map fun i : Nat => iV (i : Int)).length L; rw [hml]; exact hO.sl) (hR.mono fun _ _ f => f.elim) (SlAt.nil w5 0) ⟨by show ((List.range i).map fun i : Nat => iV (i : Int)).length ≤ _; rw [hml]; omega, by simp [JV.ks], by simp [JV.t], by simp [JV.ks]⟩ (fun _ k hk => (own_in hO hk).1) (fun h => by simp [JV.ks] at h)
      refine ld_all hp5 rfl ?_
      have hlb : b < w12.heap.size := at_lt hbb12
      exact do_some rfl (by rw [hb5]; exact hbb12) rfl (by omega) hx5 (hV.at hlb hx012.size) hK
end
end Go.Proofs.YtdkikjcpgihjlaaGreatDoor
namespace Go.Proofs.YtdkikjcpgihjlaaGreatDoor
open Go Go.Eng Go.Num Go.RowKit
set_option maxRecDepth 100000
theorem cmpS_lim (a b : Str) : cmpS a b = 0 ∨ cmpS a b = 1 ∨ cmpS a b = -1 := by
  unfold cmpS
  split
  · simp only
    split
    · exact .inl rfl
    · split
      · exact .inr (.inr rfl)
      · exact .inr (.inl rfl)
  · exact .inl rfl
theorem put_set : ∀ {l : List (Str × JV)} {k : Str} {x : JV} {i : Nat}, Rise (l.map (·.1)) → (l.map (·.1))[i]? = some k → insP (dropP l k) k x = l.set i (k, x)
  | [], _, _, _, _, h => by simp at h
  | (a, y) :: r, k, x, 0, hr, h => by
    simp only [List.map_cons, List.getElem?_cons_zero, Option.some.injEq] at h
    subst h
    have hr' := List.pairwise_cons.1 hr
    have hno : ∀ p ∈ r, p.1 ≠ a := fun p hp e => by
      have := hr'.1 p.1 (List.mem_map.2 ⟨p, hp, rfl⟩)
      rw [e, less_irr] at this; cases this
    have hd : dropP ((a, y) :: r) a = r := by
      unfold dropP
      rw [List.filter_cons]
      simp only [decide_true, Bool.not_true, Bool.false_eq_true, if_false]
      exact List.filter_eq_self.2 fun p hp => by simp [hno p hp]
    rw [hd, List.set_cons_zero]
    cases r with
    | nil => rfl
    | cons q r =>
      obtain ⟨b, z⟩ := q
      have := hr'.1 b (by simp)
      simp only [insP, this, if_true]
  | (a, y) :: r, k, x, i + 1, hr, h => by
    simp only [List.map_cons, List.getElem?_cons_succ] at h
    have hr' := List.pairwise_cons.1 hr
    have hak : Op.bytesLess a k = true := hr'.1 k (List.mem_of_getElem? h)
    have hne : a ≠ k := fun e => by rw [e, less_irr] at hak; cases hak
    have hd : dropP ((a, y) :: r) k = (a, y) :: dropP r k := by
      unfold dropP
      rw [List.filter_cons]
      simp [hne]
    have hka : Op.bytesLess k a = false := less_anti hak
    rw [hd, List.set_cons_succ]
    simp only [insP, hka, Bool.false_eq_true, if_false]
    rw [put_set hr'.2 h]
theorem zip_mkO (l : List (Str × JV)) : (mkO l).ks.zip (mkO l).xs = l := by
  show (l.map (·.1)).zip (l.map (·.2)) = l
  induction l with
  | nil => rfl
  | cons p l ih => simp [ih]
theorem putM_set {l : List (Str × JV)} {k : Str} {x : JV} {i : Nat} (hr : Rise (l.map (·.1))) (h : (l.map (·.1))[i]? = some k) : putM (mkO l) k x = mkO (l.set i (k, x)) := by
  unfold putM
  rw [if_pos (show (mkO l).k = 6 from rfl), zip_mkO, put_set hr h]
theorem putM_out {l : List (Str × JV)} {k : Str} {x : JV} (hr : Rise (l.map (·.1))) : ∃ l', putM (mkO l) k x = mkO l' ∧ Rise (l'.map (·.1)) ∧ l'.length ≤ l.length + 1 ∧ ∀ p ∈ l', p = (k, x) ∨ p ∈ l := by
  by_cases hk : k ∈ l.map (·.1)
  · obtain ⟨i, hi⟩ := List.getElem?_of_mem hk
    refine ⟨l.set i (k, x), putM_set hr hi, ?_, by rw [List.length_set]; omega, fun p hp => ?_⟩
    · have : (l.set i (k, x)).map (·.1) = l.map (·.1) := by
        rw [List.map_set]
        apply List.ext_getElem?
        intro j
        rw [List.getElem?_set]
        split
        · rename_i e
          subst e
          split
          · exact hi.symm
          · rw [List.getElem?_eq_none (by omega)]
        · rfl
      rw [this]; exact hr
    · rcases List.mem_or_eq_of_mem_set hp with h | h
      · exact .inr h
      · exact .inl h
  · exact ⟨insP l k x, put_mkO hk, rise_ins hr hk, by rw [ins_len]; omega, fun p hp => (ins_mem p).1 hp⟩
section
variable [HX]
theorem most_p {a : List JV} {sg : Int} {sv : Value} {w : World} {K : Value → World → Prop} (hsg : sg = 1 ∨ sg = -1) (h : ItemsAt w sv a) (hne : a ≠ []) (hl : a.length ≤ 1000000) (hs : ∀ x ∈ a, x.t.length ≤ 1000000 ∧ x.xs = [] ∧ x.ks = []) (hK : DoK (some (mostM sg a)) w K) :
    callF Tryz.prog 59 [sv, i64 sg] w K := by
  refine W59_ok ?_
  unfold W59
  refine alloc_new fun b w1 hb hz1 hbb hx1 => ?_
  obtain ⟨x0, r0, hxr⟩ : ∃ x r, a = x :: r := by
    cases a with
    | nil => exact absurd rfl hne
    | cons x r => exact ⟨x, r, rfl⟩
  have hx0 : a[0]? = some x0 := by rw [hxr]; rfl
  refine (h.ext hx1).at' (i := 0) rfl hx0 fun cs hcs => ?_
  refine alloc_new fun p w2 hp hz2 hbp hx2 => ?_
  refine st_agg_at hbp hcs.len rfl hcs.all_one fun w3 hz3 hbp3 hc3 => ?_
  have hx13 : Ext w1 w3 := hx2.new hc3 (by omega)
  rw [h.len]
  have hm0 : x0 ∈ a := List.mem_of_getElem? hx0
  refine loop_up a.length (fun i w' => ∃ cs best, best = (a.take i).foldl (fun b x => if 0 < cmpS x.t b.t * sg then x else b) x0 ∧ best ∈ a ∧ Ext w1 w' ∧ w'.heap[p]? = some (.cells cs.toArray VT (0, 0)) ∧ VRepP (fun _ => False) w' best cs)
    ⟨cs, x0, rfl, hm0, hx13, hbp3, VRepP.ext' (flat_any hcs (hs _ hm0).2.1 (hs _ hm0).2.2) hx13⟩ ?_ ?_
  · rintro i w5 g L hi ⟨cs5, best, hbest, hbm, hx5, hp5, hV5⟩ hL
    obtain ⟨x, hxi⟩ : ∃ x, a[i]? = some x := ⟨_, List.getElem?_eq_getElem hi⟩
    have hxm : x ∈ a := List.mem_of_getElem? hxi
    have hltI : (i : Int) < (a.length : Int) := by omega
    simp only [List.getD_cons_zero]
    rw [bin_lss, decide_eq_true hltI, condW_true]
    refine JoinW.cut (fun st w' => ∃ cs best', best' = (a.take (i + 1)).foldl (fun b x => if 0 < cmpS x.t b.t * sg then x else b) x0 ∧ best' ∈ a ∧ Ext w1 w' ∧ w'.heap[p]? = some (.cells cs.toArray VT (0, 0)) ∧ VRepP (fun _ => False) w' best' cs) ?_ ?_
    · have etk : a.take (i + 1) = a.take i ++ [x] := by rw [List.take_add_one, hxi]; rfl
      rw [etk, List.foldl_append, ← hbest]
      simp only [List.foldl_cons, List.foldl_nil]
      refine ((h.ext hx1).ext hx5).at hxi fun ds hds => ?_
      refine alloc_new fun q w6 hq hz6 hbq hx6 => ?_
      refine st_agg_at hbq hds.len rfl hds.all_one fun w7 hz7 hbq7 hc7 => ?_
      have hlp := at_lt hp5
      have hx57 : Ext w5 w7 := hx6.new hc7 (by omega)
      have hp7 := hx57.at hp5 id
      have hd2 := vtx hds
      have hb2 := vtx hV5.rep
      rw [fld_ptr, add_mk]
      refine ld_fld (o := 0) (cs := ds) hbq7 (fun j _ => by simp) (by omega) hd2 ?_
      rw [fld_ptr, add_mk]
      refine ld_fld (o := 0) (cs := cs5) hp7 (fun j _ => by simp) (by omega) hb2 ?_
      have t1 := (hs x hxm).1
      have t2 := (hs best hbm).1
      refine numcmp_ref (by omega) (by omega) fun w9 hx9 => ?_
      have hcl := cmpS_lim x.t best.t
      have ew : IntKind.i64.wrap (cmpS x.t best.t * sg) = cmpS x.t best.t * sg := by
        refine wrap_id ?_ ?_ <;> rcases hcl with e | e | e <;> rcases hsg with f | f <;> rw [e, f] <;> decide
      rw [bin_mul, ew, bin_gtr, condW_dec]
      have hx59 := hx57.trans hx9
      refine ⟨fun hgt => ?_, fun hle => ?_⟩
      · rw [if_pos hgt]
        refine ld_all (hx9.at hbq7 id) hds.len ?_
        refine st_agg_at (hx9.at hp7 id) hds.len hV5.rep.len hds.all_one fun w10 hz10 hbp10 hc10 => ?_
        refine ⟨ds, x, rfl, hxm, (hx5.trans hx59).new hc10 (by omega), hbp10, ?_⟩
        exact VRepP.chg hc10 (fun _ f => f.elim) ((flat_any hds (hs _ hxm).2.1 (hs _ hxm).2.2).ext' hx59)
      · rw [if_neg hle]
        exact ⟨cs5, best, rfl, hbm, hx5.trans hx59, hx59.at hp5 id, hV5.ext' hx59⟩
    · rintro st g' w11 hI
      rw [bin_add, up1 (by omega)]
      exact hL w11 hI
  · rintro w5 g L ⟨cs5, best, hbest, hbm, hx5, hp5, hV5⟩
    simp only [List.getD_cons_zero]
    rw [bin_lss, decide_eq_false (Int.lt_irrefl _), condW_false]
    rw [List.take_length] at hbest
    refine ld_all hp5 hV5.rep.len ?_
    refine do_some (v := best) ?_ (hx5.at hbb id) rfl (by omega) (hx1.trans hx5) (hV5.mono fun _ _ f => f.elim) hK
    rw [hbest]
    unfold mostM
    have : a.headD JV.null = x0 := by rw [hxr]; rfl
    rw [this]
theorem max_p {a : List JV} {sv : Value} {w : World} {K : Value → World → Prop} (h : ItemsAt w sv a) (hne : a ≠ []) (hl : a.length ≤ 1000000) (hs : ∀ x ∈ a, x.t.length ≤ 1000000 ∧ x.xs = [] ∧ x.ks = []) (hK : DoK (some (mostM 1 a)) w K) :
    callF Tryz.prog 58 [sv] w K := by
  refine W58_ok ?_
  unfold W58
  refine alloc_new fun b w1 hb hz1 hbb hx1 => ?_
  refine most_p (.inl rfl) (h.ext hx1) hne hl hs fun cs v ok w2 hx2 hV hr => ?_
  simp only [ext_tuple]
  refine ⟨_, rfl, _, rfl, ?_⟩
  have hlb := at_lt hbb
  exact ret_f (w0 := w) (K := fun r w => K (.tuple #[r, .bool ok]) w) (hx2.at hbb id) rfl (by omega) (hx1.trans hx2) (hV.at hlb (by omega)) fun w' hx' h' => hK _ _ ok w' hx' h' hr
theorem min_p {a : List JV} {sv : Value} {w : World} {K : Value → World → Prop} (h : ItemsAt w sv a) (hne : a ≠ []) (hl : a.length ≤ 1000000) (hs : ∀ x ∈ a, x.t.length ≤ 1000000 ∧ x.xs = [] ∧ x.ks = []) (hK : DoK (some (mostM (-1) a)) w K) :
    callF Tryz.prog 61 [sv] w K := by
  refine W61_ok ?_
  unfold W61
  refine alloc_new fun b w1 hb hz1 hbb hx1 => ?_
  refine most_p (.inr rfl) (h.ext hx1) hne hl hs fun cs v ok w2 hx2 hV hr => ?_
  simp only [ext_tuple]
  refine ⟨_, rfl, _, rfl, ?_⟩
  have hlb := at_lt hbb
  exact ret_f (w0 := w) (K := fun r w => K (.tuple #[r, .bool ok]) w) (hx2.at hbb id) rfl (by omega) (hx1.trans hx2) (hV.at hlb (by omega)) fun w' hx' h' => hK _ _ ok w' hx' h' hr
theorem put_old {l : List (Str × JV)} {k : Str} {x : JV} {sv kv : Value} {L cs : List Value} {B i : Nat} {w : World} {K : Value → World → Prop} (h : OwnP w B (mkO l) sv kv L) (hx : VRepP (Free B sv kv) w x cs) (hr : Rise (l.map (·.1))) (hk : (l.map (·.1))[i]? = some k) (hl : l.length ≤ 99999)
    (hB : B ≤ w.heap.size) (hK : ∀ es w', Chg (fun q => sv.ownBlock = some q ∨ kv.ownBlock = some q) w w' → VRepP (From B) w' (mkO (l.set i (k, x))) es → K (.agg es.toArray) w') :
    callF Tryz.prog 137 [.agg [i64 6, .bool false, str [], sv, kv].toArray, str k, .agg cs.toArray] w K := by
  have hn1 : (l.map (·.2)).length = l.length := List.length_map _
  have hn2 : (l.map (·.1)).length = l.length := List.length_map _
  have hO : Own w B VT 5 sv l.length L := by have := h.items; rwa [show (mkO l).xs = l.map (·.2) from rfl, hn1] at this
  have hM : Own w B ST 1 kv l.length ((l.map (·.1)).map str) := by have := h.keys; rwa [show (mkO l).ks = l.map (·.1) from rfl, hn2] at this
  have hrp : VRepsP (fun q => B ≤ q ∧ sv.ownBlock ≠ some q ∧ kv.ownBlock ≠ some q) w (l.map (·.2)) L := h.reps
  have hi : i < l.length := by have := (List.getElem?_eq_some_iff.1 hk).1; omega
  refine W137_ok ?_
  unfold W137
  have o1 := own_one hO
  have o2 := own_one hM
  refine box_new (z := [i64 6, .bool false, str [], sv, kv]) fun a3 w1 ha3 hz1 hb3 hx1 => ?_
  refine box_new (z := cs) fun a5 w2 ha5 hz2 hb5 hx2 => ?_
  refine alloc_new fun a6 w3 ha6 hz3 hb6 hx3 => ?_
  have hb3 := (hx2.trans hx3).at hb3 id
  have hb5 := hx3.at hb5 id
  have hx03 := (hx1.trans hx2).trans hx3
  rw [fld_ptr, ld_one]
  refine ⟨kv, by rw [add_mk, cell_eq, hb3]; rfl, ?_⟩
  have hsk : SlAt w3 ST kv (l.map (·.1)).length ((l.map (·.1)).map str) := by rw [hn2]; exact hM.sl.ext hx03
  refine search_p hsk (by rw [hn2]; omega) hr fun j hj0 hlo hhi hile => ?_
  have hsome : idxK (l.map (·.1)) k = some j := by
    rcases hj0 with h | h
    · exact absurd (List.mem_of_getElem? hk) (idxK_none.1 h)
    · exact h
  have hij : j = i := by
    have h1 := idxK_spec hsome
    rcases Nat.lt_trichotomy j i with e | e | e
    · have := rise_lt hr h1 hk e; rw [less_irr] at this; cases this
    · exact e
    · have := rise_lt hr hk h1 e; rw [less_irr] at this; cases this
  subst hij
  rw [hsome]
  simp only [ext_tuple]
  refine ⟨_, rfl, _, rfl, ?_⟩
  simp only [Option.isSome_some]
  rw [condW_true, fld_ptr, ld_one]
  refine ⟨sv, by rw [add_mk, cell_eq, hb3]; rfl, ?_⟩
  refine ld_all hb5 hx.rep.len ?_
  have hO3 := hO.ext hx03
  have hO3' := hO3
  obtain ⟨hLl, ⟨rfl, hz⟩ | ⟨g, cap, cur, rfl, hbg, hg, hnc, h2, h3, h4⟩⟩ := hO3'
  · omega
  have hgl : g < w.heap.size := (own_in hO rfl).2.1
  rw [ixa_slice]
  refine ⟨by omega, by omega, ?_⟩
  rw [add_mk, Nat.zero_add, Int.toNat_natCast]
  have hcap : l.length * 5 ≤ cap * 5 := Nat.mul_le_mul_right _ hnc
  have hj5 : (j + 1) * 5 ≤ l.length * 5 := Nat.mul_le_mul_right _ hi
  refine st_row hg hx.rep.len hx.rep.all_one (by rw [h3]; omega) fun w4 c4 hb4 hs4 hj4 hq4 hc4 hz4 => ?_
  have h34 := hc4.at hb3 (show ¬ a3 = g by omega)
  refine ld_all h34 rfl ?_
  have h64 := hc4.at hb6 (show ¬ a6 = g by omega)
  refine ret_agg h64 rfl rfl (obj_one o1 o2) fun w5 hc5 => ?_
  have hc45 : Chg (fun q => q = g ∨ q = a6) w3 w5 := (hc4.mono fun k _ e => .inl e).trans (hc5.mono fun k _ e => .inr e)
  have hcw : Chg (fun q => q = g) w w5 := (Chg.of_ext hx03).then hc45 fun q hq e => by rcases e with e | e; exact e; omega
  refine hK _ w5 (hcw.mono fun q _ e => .inl (by subst e; rfl)) ?_
  have hb5' : w5.heap[g]? = some (.cells c4 VT (0, 0)) := hc5.at hb4 (show ¬ g = a6 by omega)
  have hcell : ∀ q, q < l.length * 5 → cur[q]? = L[q]? := fun q hq => by
    have : (cur.toList.take (l.length * 5))[q]? = L[q]? := by rw [h4]
    rw [List.getElem?_take_of_lt hq] at this
    simpa using this
  have hL' : (c4.toList.take (l.length * 5)).length = l.length * 5 := by rw [List.length_take]; simp [hs4, h3]; omega
  have hlenS : (mkO (l.set j (k, x))).xs.length = l.length := by show ((l.set j (k, x)).map (·.2)).length = _; simp
  have hksS : (mkO (l.set j (k, x))).ks = l.map (·.1) := by
    show (l.set j (k, x)).map (·.1) = _
    rw [List.map_set]
    apply List.ext_getElem?
    intro m
    rw [List.getElem?_set]
    split
    · rename_i e
      subst e
      split
      · exact hk.symm
      · rw [List.getElem?_eq_none (by omega)]
    · rfl
  have hreps : VRepsP (From B) w5 (mkO (l.set j (k, x))).xs (c4.toList.take (l.length * 5)) := by
    refine VRepsP.of_get (by rw [hL', hlenS]) fun m y hy => ?_
    have hm : m < l.length := by have := (List.getElem?_eq_some_iff.1 hy).1; omega
    have hy : ((l.set j (k, x)).map (·.2))[m]? = some y := hy
    rw [List.getElem?_map, List.getElem?_set] at hy
    have hm5 : (m + 1) * 5 ≤ l.length * 5 := Nat.mul_le_mul_right _ hm
    by_cases e : j = m
    · subst e
      rw [if_pos rfl, if_pos hi] at hy
      simp only [Option.map_some, Option.some.injEq] at hy
      subst hy
      refine ⟨cs, (VRepP.chg hcw (fun q hq _ e => hq.2.1 (by subst e; rfl)) hx).mono fun q _ hq => hq.1, fun n hn => ?_⟩
      rw [List.getElem?_take_of_lt (by omega), ← hj4 n hn]
      simp
    · rw [if_neg e, ← List.getElem?_map] at hy
      obtain ⟨ds, hds, hg5⟩ := hrp.get5 hy
      refine ⟨ds, (VRepP.chg hcw (fun q hq _ e => hq.2.1 (by subst e; rfl)) hds).mono fun q _ hq => hq.1, fun n hn => ?_⟩
      rw [List.getElem?_take_of_lt (by omega), ← hg5 n hn, ← hcell _ (by omega)]
      have := hq4 (m * 5 + n) (by omega)
      rw [← this]
      simp
  obtain ⟨f1, f2, f3, f4⟩ := h.fits
  refine VRepP.mk (v := mkO (l.set j (k, x))) (T1 := VT) (T2 := ST) (L := c4.toList.take (l.length * 5)) ?_ hreps ?_ ⟨by rw [hlenS]; omega, by rw [hksS]; omega, by simp [mkO, JV.t], by rw [hksS]; exact f4⟩ (fun _ q hq => ?_) (fun _ q hq => (own_in hM hq).1)
  · rw [hlenS]
    have hOw : Own w5 B VT 5 (.slice (some ⟨g, 0, none⟩) l.length cap) l.length (c4.toList.take (l.length * 5)) := ⟨hL', .inr ⟨g, cap, c4, rfl, hbg, hb5', hnc, h2, by rw [hs4, h3], rfl⟩⟩
    exact hOw.sl
  · rw [hksS, hn2]
    exact (own_chg hM hcw fun q hq e => rows_ne hO hM (q := q) (by subst e; rfl) hq).sl
  · cases hq; exact hbg
end
end Go.Proofs.YtdkikjcpgihjlaaGreatDoor
namespace Go.Proofs.YtdkikjcpgihjlaaGreatDoor
open Go Go.Eng Go.Num Go.RowKit
set_option maxRecDepth 100000
section
variable [HX]
theorem vput_p {l : List (Str × JV)} {k : Str} {x : JV} {cs ds : List Value} {w : World} {K : Value → World → Prop} (h : VRep w (mkO l) cs) (hd : VRep w x ds) (hr : Rise (l.map (·.1))) (hl : l.length ≤ 90000) (hf : fewM (mkO l) = true) (hfx : fewM x = true) (hkl : k.length ≤ 9223372036854775807)
    (hK : ∀ es w', Ext w w' → VRepP (From w.heap.size) w' (putM (mkO l) k x) es → K (.agg es.toArray) w') : callF Tryz.prog 99 [.agg cs.toArray, str k, .agg ds.toArray] w K := by
  refine W99_ok ?_
  unfold W99
  refine box_val h fun a w1 sv kv hB hx1 ha => ?_
  refine box_val (hd.ext hx1) fun c w2 sv2 kv2 hC hx2 hc => ?_
  refine alloc_new fun b w3 hb hz3 hbb hx3 => ?_
  have hB3 := (hB.ext hx2).ext hx3
  have hC3 := hC.ext hx3
  have hx03 := (hx1.trans hx2).trans hx3
  have s1 := hx1.size
  have s2 := hx2.size
  refine JoinW.cut (fun st w' => w' = w3) ?_ ?_
  · have e6 : (mkO l).k = 6 := rfl
    simp only [wsv, wsg, wsh, wsl, cond_true, cond_false, exists_eq_left', Option.some.injEq, Option.isSome_some, List.getElem?_toArray, List.getElem?_cons_zero, List.getElem?_cons_succ, List.length_cons, List.length_nil, List.set_cons_zero, List.set_cons_succ, List.getD_cons_zero, List.getD_cons_succ, Nat.zero_add, Nat.add_zero, Nat.reduceAdd, Nat.reduceLT, Nat.lt_add_one, Nat.zero_lt_succ, decide_true, decide_false, ne_eq, reduceCtorEq, wsh, hB3.hb]
    rw [e6, decide_eq_false (by simp), condW_false]
    trivial
  rintro st g w7 rfl
  have hxd : Ext w7 w7.drew := Chg.drew (Chg.refl (fun _ => False) w7)
  refine (hB3.ext hxd).ld fun cs2 hcs2 => ?_
  have hC7 := hC3.ext hxd
  have hsd := hC7.rep
  rw [show ∀ K : Value → Prop, ldW true 5 (.pointer (some ⟨c, 0, none⟩)) w7.drew K = ldW true 5 (.pointer (some ⟨c, 0, none⟩)) w7.drew K from fun _ => rfl]
  refine ld_all hC7.hb rfl ?_
  refine clone_o hf hcs2 fun sv' kv' L w8 hx8 hO => ?_
  refine ⟨ld_all (hx8.at hC7.hb id) rfl rfl, ?_⟩
  refine clone_p x hfx (hsd.ext hx8) fun es w9 hx9 h9 => ?_
  have sd : w7.drew.heap.size = w7.heap.size := rfl
  have s8 := hx8.size
  have s9 := hx9.size
  have hlb := at_lt hbb
  have hO9 := hO.ext hx9
  have hFree : VRepP (Free w7.drew.heap.size sv' kv') w9 x es := h9.mono fun q _ hq => by
    have hq : w8.heap.size ≤ q := hq
    exact ⟨by omega, fun e => by have := (own_in hO.items e).2.1; omega, fun e => by have := (own_in hO.keys e).2.1; omega⟩
  have fin : ∀ (v : JV) (fs : List Value) (w10 : World), v = putM (mkO l) k x → Chg (fun q => sv'.ownBlock = some q ∨ kv'.ownBlock = some q) w9 w10 → VRepP (From w7.drew.heap.size) w10 v fs →
      stW 5 (.pointer (some ⟨b, 0, none⟩)) (.agg fs.toArray) w10 fun w11 => ldW true 5 (.pointer (some ⟨b, 0, none⟩)) w11 fun r12 => K r12 w11 := by
    rintro v fs w10 rfl hc10 hv
    have hne : ∀ q, (sv'.ownBlock = some q ∨ kv'.ownBlock = some q) → w7.drew.heap.size ≤ q := fun q hq => by
      rcases hq with e | e
      · exact (own_in hO.items e).1
      · exact (own_in hO.keys e).1
    have hx710 : Ext w7 w10 := (hxd.trans (hx8.trans hx9)).then hc10 fun q hq e => by have := hne q e; omega
    have hx010 := hx03.trans hx710
    exact ret_f (w0 := w) (hx710.at hbb id) rfl (by omega) hx010 (hv.at (by omega) (by have := hx03.size; omega)) fun w' hx' h' => hK _ w' hx' h'
  by_cases hk : k ∈ l.map (·.1)
  · obtain ⟨i, hi⟩ := List.getElem?_of_mem hk
    refine put_old hO9 hFree hr hi (by omega) (by omega) fun fs w10 hc10 hv => ?_
    exact fin _ fs w10 (putM_set hr hi).symm hc10 hv
  · refine put_p hO9 hFree hr hk (by omega) hkl (by omega) fun fs w10 hc10 hv => ?_
    exact fin _ fs w10 (put_mkO hk).symm hc10 hv
theorem ItemsAt.at_old {w0 w : World} {sv : Value} {xs : List JV} {k : IntKind} {i : Nat} {x : JV} {K : Value → Prop} (h : ItemsAt w0 sv xs) (hx : Ext w0 w) (hi : xs[i]? = some x) (hK : ∀ cs, VRep w0 x cs → K (.agg cs.toArray)) : ixaW none 5 sv (.int k i) fun p => ldW true 5 p w K := by
  obtain ⟨T, L, h1, h2⟩ := h.it
  obtain ⟨cs, hc, hg⟩ := h2.get hi
  refine ixa_at (size := 5) (h1.ext hx) h2.len (by omega) (List.getElem?_eq_some_iff.1 hi).1 fun b o c fr hb hcc => ?_
  exact ld_cells hb hc.len (fun j hj => (hcc j hj).trans (hg j hj)) (hK cs hc)
def putsM (v : JV) (l : List (Str × JV)) : JV := l.foldl (fun v p => putM v p.1 p.2) v
theorem puts_out : ∀ (ps : List (Str × JV)) {l : List (Str × JV)}, Rise (l.map (·.1)) → ∃ l', putsM (mkO l) ps = mkO l' ∧ Rise (l'.map (·.1)) ∧ l'.length ≤ l.length + ps.length ∧ ∀ p ∈ l', p ∈ ps ∨ p ∈ l
  | [], l, h => ⟨l, rfl, h, by simp, fun p hp => .inr hp⟩
  | (k, x) :: ps, l, h => by
    obtain ⟨l1, e1, r1, n1, m1⟩ := putM_out (k := k) (x := x) h
    obtain ⟨l2, e2, r2, n2, m2⟩ := puts_out ps r1
    refine ⟨l2, ?_, r2, by simp only [List.length_cons]; omega, fun p hp => ?_⟩
    · show putsM (putM (mkO l) k x) ps = _
      rw [e1]; exact e2
    · rcases m2 p hp with h | h
      · exact .inl (List.mem_cons_of_mem _ h)
      · rcases m1 p h with h | h
        · exact .inl (by rw [h]; exact List.mem_cons_self)
        · exact .inr h
def pairsL (a : List JV) : List (Str × JV) := (a.map fun x => x.ks.zip x.xs).flatten
theorem merge_eq (a : List JV) : mergeM a = putsM (mkO []) (pairsL a) := by
  show a.foldl (fun v x => putsM v (x.ks.zip x.xs)) (mkO []) = putsM (mkO []) (pairsL a)
  generalize mkO [] = v
  induction a generalizing v with
  | nil => rfl
  | cons x a ih =>
    rw [List.foldl_cons, ih]
    unfold putsM pairsL
    rw [List.map_cons, List.flatten_cons, List.foldl_append]
theorem few_mkO {l : List (Str × JV)} (hl : l.length ≤ 100000) (hf : ∀ p ∈ l, fewM p.2 = true) : fewM (mkO l) = true := by
  rw [fewM_eq, fewL_all]
  simp only [mkO, JV.xs, JV.ks, List.length_map, Bool.and_eq_true, decide_eq_true_eq, List.all_eq_true, List.mem_map]
  exact ⟨⟨by omega, by omega⟩, fun x ⟨p, hp, e⟩ => by rw [← e]; exact hf p hp⟩
theorem merge_p {a : List JV} {sv : Value} {w : World} {K : Value → World → Prop} (h : ItemsAt w sv a) (hg : ∀ x ∈ a, GoodV x) (h6 : ∀ x ∈ a, x.k = 6) (hl : a.length ≤ 1000) (hn : (pairsL a).length ≤ 90000) (hK : DoK (some (mergeM a)) w K) : callF Tryz.prog 60 [sv] w K := by
  rw [merge_eq] at hK
  refine W60_ok ?_
  unfold W60
  refine alloc_new fun b w1 hb hz1 hbb hx1 => ?_
  rw [put_int, put_nil]
  refine ⟨by simp, ?_⟩
  refine alloc_new fun p w3 hp hz3 hbp hx3 => ?_
  refine st_agg_at (l := flat 6 false []) hbp rfl rfl rfl fun w4 hz4 hbp4 hc4 => ?_
  have hlb := at_lt hbb
  have hx14 : Ext w1 w4 := hx3.new hc4 (by omega)
  rw [h.len]
  -- what stands behind some puts
  have hall : ∀ q ∈ pairsL a, fewM q.2 = true ∧ q.1.length ≤ 16384 := fun q hq => by
    obtain ⟨l0, hl0, hq0⟩ := List.mem_flatten.1 hq
    obtain ⟨x, hx, rfl⟩ := List.mem_map.1 hl0
    have := List.of_mem_zip hq0
    exact ⟨((hg x hx).item this.2).few, keysOk_len (hg x hx).lens.2.2.2.1 _ this.1⟩
  have hInv : ∀ ps : List (Str × JV), (∀ q ∈ ps, q ∈ pairsL a) → ps.length ≤ 90000 → ∃ l, putsM (mkO []) ps = mkO l ∧ Rise (l.map (·.1)) ∧ l.length ≤ 90000 ∧ fewM (mkO l) = true := fun ps hps hlen => by
    obtain ⟨l, e, r, n, m⟩ := puts_out ps (l := []) List.Pairwise.nil
    simp only [List.length_nil, Nat.zero_add] at n
    refine ⟨l, e, r, by omega, few_mkO (by omega) fun q hq => ?_⟩
    rcases m q hq with h | h
    · exact (hall q (hps q h)).1
    · cases h
  refine loop_up a.length (fun i w' => ∃ cs, Ext w1 w' ∧ w'.heap[p]? = some (.cells cs.toArray VT (0, 0)) ∧ VRepP (From w4.heap.size) w' (putsM (mkO []) (pairsL (a.take i))) cs ∧ w4.heap.size ≤ w'.heap.size)
    ⟨flat 6 false [], hx14, hbp4, flat_rep (by simp), Nat.le_refl _⟩ ?_ ?_
  · rintro i w6 g L hi ⟨cs, hx6, hp6, hV6, s6⟩ hL
    obtain ⟨x, hxi⟩ : ∃ x, a[i]? = some x := ⟨_, List.getElem?_eq_getElem hi⟩
    have hxm : x ∈ a := List.mem_of_getElem? hxi
    have hgx := hg x hxm
    have hlens := hgx.lens
    have hkx := hlens.2.2.1 (h6 x hxm)
    have hltI : (i : Int) < (a.length : Int) := by omega
    have etk : a.take (i + 1) = a.take i ++ [x] := by rw [List.take_add_one, hxi]; rfl
    have epr : pairsL (a.take (i + 1)) = pairsL (a.take i) ++ x.ks.zip x.xs := by
      unfold pairsL; rw [etk, List.map_append, List.flatten_append]; simp
    have hsub : ∀ q ∈ pairsL (a.take (i + 1)), q ∈ pairsL a := fun q hq => by
      obtain ⟨l0, hl0, hq0⟩ := List.mem_flatten.1 hq
      obtain ⟨y, hy, rfl⟩ := List.mem_map.1 hl0
      exact List.mem_flatten.2 ⟨_, List.mem_map.2 ⟨y, List.mem_of_mem_take hy, rfl⟩, hq0⟩
    have hsubl : (pairsL (a.take (i + 1))).length ≤ 90000 := by
      refine Nat.le_trans ?_ hn
      have : pairsL a = pairsL (a.take (i + 1)) ++ pairsL (a.drop (i + 1)) := by
        unfold pairsL; rw [← List.flatten_append, ← List.map_append, List.take_append_drop]
      rw [this, List.length_append]; omega
    simp only [List.getD_cons_zero]
    rw [bin_lss, decide_eq_true hltI, condW_true]
    refine h.at_old (hx1.trans hx6) hxi fun ds hds => ?_
    have hds1 := hds.all_one
    obtain ⟨sq, kq, T1, T2, L0, rfl, g1, g2, g3, g4⟩ := hds.out
    have hits : ItemsAt w sq x.xs := ⟨⟨T1, L0, g1, g2⟩, g4.1⟩
    refine alloc_new fun q w7 hq hz7 hbq hx7 => ?_
    refine st_agg_at hbq rfl rfl hds1 fun w8 hz8 hbq8 hc8 => ?_
    have hlp := at_lt hp6
    have hlp4 := at_lt hbp4
    have s14 := hx14.size
    have s01 := hx1.size
    have hx68 : Ext w6 w8 := hx7.new hc8 (by omega)
    have hp8 := hx68.at hp6 id
    have hpq : q ≠ p := by omega
    rw [fld_ptr, ld_one]
    refine ⟨kq, by rw [add_mk, cell_eq, hbq8]; rfl, ?_⟩
    rw [lenl_at g3]
    have hzl : (x.ks.zip x.xs).length = x.ks.length := by rw [List.length_zip]; omega
    refine loop_up x.ks.length (fun j w' => ∃ cs, Ext w1 w' ∧ w8.heap.size ≤ w'.heap.size ∧ w'.heap[q]? = some (.cells [i64 x.k, .bool x.b, str x.t, sq, kq].toArray VT (0, 0)) ∧ w'.heap[p]? = some (.cells cs.toArray VT (0, 0)) ∧ VRepP (From w4.heap.size) w' (putsM (mkO []) (pairsL (a.take i) ++ (x.ks.zip x.xs).take j)) cs)
      ⟨cs, hx6.trans hx68, Nat.le_refl _, hbq8, hp8, by rw [List.take_zero, List.append_nil]; exact hV6.ext' hx68⟩ ?_ ?_
    · rintro j w10 g9 L9 hj ⟨cs9, hx9, s9, hq9, hp9, hV9⟩ hL9
      obtain ⟨kj, hkj⟩ : ∃ u, x.ks[j]? = some u := ⟨_, List.getElem?_eq_getElem hj⟩
      obtain ⟨yj, hyj⟩ : ∃ u, x.xs[j]? = some u := ⟨_, List.getElem?_eq_getElem (by omega)⟩
      have hltJ : (j : Int) < (x.ks.length : Int) := by omega
      simp only [List.getD_cons_zero]
      rw [bin_lss, decide_eq_true hltJ, condW_true]
      have hxw : Ext w w10 := hx1.trans hx9
      refine text_ld (g3.ext hxw) hkj ?_
      have hxd : Ext w10 w10.drew := Chg.drew (Chg.refl (fun _ => False) w10)
      refine ld_all (hxd.at hp9 id) hV9.rep.len ?_
      rw [fld_ptr, ld_one]
      refine ⟨sq, by rw [add_mk, cell_eq, hxd.at hq9 id]; rfl, ?_⟩
      refine (hits.ext (hxw.trans hxd)).at hyj fun es hes => ?_
      have etj : (x.ks.zip x.xs).take (j + 1) = (x.ks.zip x.xs).take j ++ [(kj, yj)] := by
        rw [List.take_add_one]
        have : (x.ks.zip x.xs)[j]? = some (kj, yj) := zip_get hkj hyj
        rw [this]; rfl
      have hmemj : (kj, yj) ∈ x.ks.zip x.xs := List.mem_of_getElem? (zip_get hkj hyj)
      have hsubj : ∀ q ∈ pairsL (a.take i) ++ (x.ks.zip x.xs).take j, q ∈ pairsL a := fun q hq => hsub q (by
        rw [epr]
        rcases List.mem_append.1 hq with h | h
        · exact List.mem_append_left _ h
        · exact List.mem_append_right _ (List.mem_of_mem_take h))
      obtain ⟨l, hle, hlr, hll, hlf⟩ := hInv _ hsubj (by
        refine Nat.le_trans ?_ hsubl
        rw [epr, List.length_append, List.length_append, List.length_take]; omega)
      obtain ⟨f1, f2⟩ := hall (kj, yj) (hsub _ (by rw [epr]; exact List.mem_append_right _ hmemj))
      rw [hle] at hV9
      have hV9d := hV9.ext' hxd
      refine vput_p hV9d.rep hes hlr hll hlf f1 (Nat.le_trans f2 (by decide)) fun fs w11 hx11 h11 => ?_
      have hx10 := hxd.trans hx11
      refine st_agg_at (hx10.at hp9 id) h11.rep.len hV9.rep.len h11.rep.all_one fun w12 hz12 hbp12 hc12 => ?_
      have s10 := hx10.size
      have sd : w10.drew.heap.size = w10.heap.size := rfl
      have hlp10 := at_lt hp9
      rw [bin_add, up1 (by omega)]
      refine hL9 w12 ⟨fs, (hx9.trans hx10).new hc12 (by omega), by omega, hc12.at (hx10.at hq9 id) hpq, hbp12, ?_⟩
      have ep : putsM (mkO []) (pairsL (a.take i) ++ (x.ks.zip x.xs).take (j + 1)) = putM (mkO l) kj yj := by
        rw [etj, ← List.append_assoc, ← hle]
        unfold putsM
        rw [List.foldl_append]
        rfl
      rw [ep]
      exact (VRepP.chg hc12 (fun q hq _ e => by have hq : w10.drew.heap.size ≤ q := hq; have : q = p := e; omega) h11).mono fun q _ hq => by have hq : w10.drew.heap.size ≤ q := hq; show w4.heap.size ≤ q; omega
    · rintro w10 g9 L9 ⟨cs9, hx9, s9, hq9, hp9, hV9⟩
      simp only [List.getD_cons_zero]
      rw [bin_lss, decide_eq_false (Int.lt_irrefl _), condW_false]
      rw [bin_add, up1 (by omega)]
      rw [← hzl, List.take_length, ← epr] at hV9
      exact hL w10 ⟨cs9, hx9, hp9, hV9, by omega⟩
  · rintro w6 g L ⟨cs, hx6, hp6, hV6, s6⟩
    simp only [List.getD_cons_zero]
    rw [bin_lss, decide_eq_false (Int.lt_irrefl _), condW_false]
    rw [List.take_length] at hV6
    refine ld_all hp6 hV6.rep.len ?_
    have s14 := hx14.size
    have s01 := hx1.size
    exact do_some rfl (hx6.at hbb id) rfl (by omega) (hx1.trans hx6) (hV6.at (by omega) (by omega)) hK
end
end Go.Proofs.YtdkikjcpgihjlaaGreatDoor
namespace Go.Proofs.YtdkikjcpgihjlaaGreatDoor
open Go Go.Eng Go.Num Go.RowKit
set_option maxRecDepth 100000
section
variable [HX]
theorem concat_p' {a : List JV} {sv : Value} {w : World} {K : Value → World → Prop} (h : ItemsAt w sv a) (hf : ∀ x ∈ a, fewM x = true) (hl : a.length ≤ 1000) (hn : (a.map (·.xs)).flatten.length ≤ 1000000) (hK : DoK (some (concatM a)) w K) : callF Tryz.prog 48 [sv] w K := by
  refine W48_ok ?_
  unfold W48
  refine alloc_new fun b w1 hb hz1 hbb hx1 => ?_
  rw [put_int, put_nil]
  refine ⟨by simp, ?_⟩
  refine alloc_new fun p w3 hp hz3 hbp hx3 => ?_
  refine st_agg_at (l := flat 5 false []) hbp rfl rfl rfl fun w4 hz4 hbp4 hc4 => ?_
  have hlb := at_lt hbb
  have hlp4 := at_lt hbp4
  have hx14 : Ext w1 w4 := hx3.new hc4 (by omega)
  have s14 := hx14.size
  have s01 := hx1.size
  have hbb4 := hx14.at hbb id
  rw [h.len]
  refine loop_up a.length (fun i w' => ∃ (r : Value) (L : List Value), Ext w1 w' ∧ w'.heap[b]? = w4.heap[b]? ∧ w'.heap[p]? = some (.cells [i64 5, .bool false, str [], r, .slice none 0 0].toArray VT (0, 0)) ∧ w4.heap.size ≤ w'.heap.size ∧
      Own w' w4.heap.size VT 5 r ((a.take i).map (·.xs)).flatten.length L ∧ VRepsP (fun q => w4.heap.size ≤ q ∧ r.ownBlock ≠ some q) w' ((a.take i).map (·.xs)).flatten L)
    ⟨.slice none 0 0, [], hx14, rfl, hbp4, Nat.le_refl _, ⟨by simp, .inl ⟨rfl, by simp⟩⟩, by simp [VRepsP]⟩ ?_ ?_
  · rintro i w6 g Lp hi ⟨r, L, hx6, hb6, hp6, s6, hO, hR⟩ hL
    obtain ⟨x, hxi⟩ : ∃ x, a[i]? = some x := ⟨_, List.getElem?_eq_getElem hi⟩
    have hxm : x ∈ a := List.mem_of_getElem? hxi
    have hltI : (i : Int) < (a.length : Int) := by omega
    have etk : ((a.take (i + 1)).map (·.xs)).flatten = ((a.take i).map (·.xs)).flatten ++ x.xs := by
      have : a.take (i + 1) = a.take i ++ [x] := by rw [List.take_add_one, hxi]; rfl
      rw [this, List.map_append, List.flatten_append]; simp
    have hsubl : ((a.take (i + 1)).map (·.xs)).flatten.length ≤ 1000000 := by
      refine Nat.le_trans ?_ hn
      have : (a.map (·.xs)).flatten = ((a.take (i + 1)).map (·.xs)).flatten ++ ((a.drop (i + 1)).map (·.xs)).flatten := by
        rw [← List.flatten_append, ← List.map_append, List.take_append_drop]
      rw [this, List.length_append]; omega
    rw [etk, List.length_append] at hsubl
    simp only [List.getD_cons_zero]
    rw [bin_lss, decide_eq_true hltI, condW_true]
    refine h.at_old (hx1.trans hx6) hxi fun ds hds => ?_
    refine alloc_new fun q w7 hq hz7 hbq hx7 => ?_
    refine st_agg_at hbq hds.len rfl hds.all_one fun w8 hz8 hbq8 hc8 => ?_
    have hx68 : Ext w6 w8 := hx7.new hc8 (by omega)
    have hxd : Ext w8 w8.drew := Chg.drew (Chg.refl (fun _ => False) w8)
    have hx6d := hx68.trans hxd
    have hpd := hx6d.at hp6 id
    rw [fld_ptr, add_mk, ld_one]
    refine ⟨r, by rw [cell_eq, hpd]; rfl, ?_⟩
    refine ld_all (hxd.at hbq8 id) hds.len ?_
    refine clone_o (hf x hxm) (hds.ext ((hx1.trans hx6).trans hx6d)) fun sv' kv' L2 w9 hx9 hO9 => ?_
    have hx69 := hx6d.trans hx9
    refine ⟨by rw [ld_one]; exact ⟨r, by rw [cell_eq, hx69.at hp6 id]; rfl, rfl⟩, ?_⟩
    refine ⟨sv', rfl, ?_⟩
    have s69 := hx69.size
    have s9 := hx9.size
    have sd : w8.drew.heap.size = w8.heap.size := rfl
    have s68 := hx68.size
    have hL2 := hO9.reps.rep
    refine append_own3 elem_v (hO.ext hx69) hO9.items.sl hL2.len hL2.one (by omega) (by omega) (by omega) fun v' w10 h10 hc10 hb10 => ?_
    have hrlt : ∀ k, r.ownBlock = some k → w4.heap.size ≤ k ∧ k < w6.heap.size := fun k hk => ⟨(own_in hO hk).1, (own_in hO hk).2.1⟩
    have hp10 := hc10.at (hx69.at hp6 id) fun e => by have := (hrlt p e).1; omega
    have h10one := own_one h10
    rw [fld_ptr, add_mk]
    refine st_at hp10 h10one (by simp) fun w11 hz11 hb11 hc11 => ?_
    rw [bin_add, up1 (by omega)]
    have hlb4 : b < w4.heap.size := at_lt hbb4
    refine hL w11 ⟨v', L ++ L2, ?_, ?_, by rw [hb11]; simp, by have := hc10.size; omega, ?_, ?_⟩
    · exact ((hx6.trans hx69).then hc10 fun k hk e => by have := (hrlt k e).1; omega).new hc11 (show w1.heap.size ≤ p by omega)
    · rw [hc11.heap b (by have := hc10.size; omega) (fun e => by have : b = p := e; omega), hc10.heap b (by omega) (fun e => by have := (hrlt b e).1; omega), hx69.heap b (by omega) id, hb6]
    · rw [etk, List.length_append]
      exact own_chg h10 hc11 fun q hq e => by
        subst e
        have := (own_ge h10 hq).1; omega
    · rw [etk]
      have hold : VRepsP (fun q => (w4.heap.size ≤ q ∧ q < w6.heap.size) ∧ r.ownBlock ≠ some q) w9 ((a.take i).map (·.xs)).flatten L := VRepsP.chg hx69 (fun _ _ _ e => e) (hR.mono fun q hlt hq => ⟨⟨hq.1, hlt⟩, hq.2⟩)
      have hnew : VRepsP (fun q => w8.heap.size ≤ q ∧ q < w9.heap.size) w9 x.xs L2 := hO9.reps.mono fun q hlt hq => ⟨by have := hq.1; omega, hlt⟩
      have keep : ∀ {xs : List JV} {M : List Value} {G : Nat → Prop}, VRepsP G w9 xs M → (∀ q, G q → w4.heap.size ≤ q ∧ q < w9.heap.size ∧ r.ownBlock ≠ some q) → VRepsP (fun q => w4.heap.size ≤ q ∧ v'.ownBlock ≠ some q) w11 xs M := fun hM hG => by
        have h1 := VRepsP.chg hc10 (fun q hq _ e => (hG q hq).2.2 e) hM
        have h2 := VRepsP.chg hc11 (fun q hq _ e => by have : q = p := e; have := (hG q hq).1; omega) h1
        refine h2.mono fun q _ hq => ⟨(hG q hq).1, fun e => ?_⟩
        rcases hb10 q e with h | h
        · exact (hG q hq).2.2 h
        · have := (hG q hq).2.1; omega
      have k1 := keep hold fun q hq => ⟨hq.1.1, by have := hq.1.2; omega, hq.2⟩
      have k2 := keep hnew fun q hq => ⟨by have := hq.1; omega, hq.2, fun e => by have := (hrlt q e).2; have := hq.1; omega⟩
      exact VRepsP.app k1 k2
  · rintro w6 g Lp ⟨r, L, hx6, hb6, hp6, s6, hO, hR⟩
    simp only [List.getD_cons_zero]
    rw [bin_lss, decide_eq_false (Int.lt_irrefl _), condW_false]
    rw [List.take_length] at hO hR
    refine ld_all hp6 rfl ?_
    have hlb4 : b < w4.heap.size := at_lt hbb4
    have hV : VRepP (From w4.heap.size) w6 (concatM a) [i64 5, .bool false, str [], r, .slice none 0 0] :=
      VRepP.mk (v := concatM a) hO.sl (hR.mono fun q _ hq => hq.1) (SlAt.nil w6 0) ⟨by show (a.map (·.xs)).flatten.length ≤ _; omega, by simp [concatM, JV.ks], by simp [concatM, JV.t], by simp [concatM, JV.ks]⟩ (fun _ k hk => (own_in hO hk).1) (fun h => by simp [concatM, JV.ks] at h)
    exact do_some rfl (by rw [hb6]; exact hbb4) rfl (by omega) (hx1.trans hx6) (hV.at hlb4 (by omega)) hK
theorem repL (l : Str) : ∀ n, Lib.repeatL l n = (List.replicate n l).flatten
  | 0 => rfl
  | n + 1 => by rw [Lib.repeatL, repL l n, List.replicate_succ, List.flatten_cons]
theorem repeat_p {s : Str} {n : Nat} {w : World} {K : Value → World → Prop} (hs : s.length ≤ 1000) (hn : n ≤ 1000000) (hK : ∀ w', Ext w w' → K (str (List.replicate n s).flatten) w') : callF Tryz.prog 73 [str s, i64 (n : Nat)] w K := by
  refine of_calls (args := #[str s, i64 (n : Nat)]) Tryz.call73 ((Tryz.strings_Repeat (ofL s) n w (by omega) (by rw [ofL_size]; exact Nat.le_trans (Nat.mul_le_mul hs hn) (by decide))).mono ?_)
  rintro e w' ⟨rfl, hb⟩
  rw [ofL_data, repL]
  exact ⟨_, rfl, hK _ (Chg.of_below hb)⟩
theorem cutsuf_p {s t : Str} {w : World} {K : Value → World → Prop} (hs : s.length ≤ 1000000) (hK : K (.tuple #[str (Lib.trimSuffix s t), .bool (Lib.hasSuffix s t)]) w) : callF Tryz.prog 72 [str s, str t] w K := by
  refine of_calls (args := #[str s, str t]) Tryz.call72 ((Tryz.strings_CutSuffix (ofL s) (ofL t) w (by rw [ofL_size]; omega)).mono ?_)
  rintro e w' ⟨rfl, rfl⟩
  rw [ofL_data, ofL_data]
  exact ⟨_, rfl, hK⟩
theorem kind_p {c : UInt8} {w : World} {K : Value → World → Prop} (hK : K (i64 (kindM c)) w) : callF Tryz.prog 74 [.int .u8 (c.toNat : Nat)] w K := by
  refine W74_ok ?_
  unfold W74
  have hd : ∀ n : Nat, n < 256 → decide (((c.toNat : Nat) : Int) = (n : Int)) = decide (c = UInt8.ofNat n) := fun n hn => by
    by_cases e : c = UInt8.ofNat n
    · have : c.toNat = n := by rw [e, UInt8.toNat_ofNat']; omega
      rw [decide_eq_true e, decide_eq_true (by omega)]
    · rw [decide_eq_false e, decide_eq_false]
      intro h
      apply e
      apply UInt8.toNat_inj.1
      rw [UInt8.toNat_ofNat']
      omega
  have d1 : decide (((c.toNat : Nat) : Int) = 110) = decide (c = 110) := hd 110 (by omega)
  have d2 : decide (((c.toNat : Nat) : Int) = 115) = decide (c = 115) := hd 115 (by omega)
  have d3 : decide (((c.toNat : Nat) : Int) = 108) = decide (c = 108) := hd 108 (by omega)
  have d4 : decide (((c.toNat : Nat) : Int) = 111) = decide (c = 111) := hd 111 (by omega)
  unfold kindM at hK
  rw [bin_eql]
  rw [d1, condW_dec]
  refine ⟨fun e => ?_, fun e => ?_⟩
  · rw [if_pos e] at hK; exact hK
  rw [if_neg e] at hK
  rw [bin_eql, d2, condW_dec]
  refine ⟨fun e => ?_, fun e => ?_⟩
  · rw [if_pos e] at hK; exact hK
  rw [if_neg e] at hK
  rw [bin_eql, d3, condW_dec]
  refine ⟨fun e => ?_, fun e => ?_⟩
  · rw [if_pos e] at hK; exact hK
  rw [if_neg e] at hK
  rw [bin_eql, d4, condW_dec]
  refine ⟨fun e => ?_, fun e => ?_⟩
  · rw [if_pos e] at hK; exact hK
  rw [if_neg e] at hK
  exact hK
abbrev FT : TypeId := 57
theorem all_take {α : Type} {p : α → Bool} {l : List α} {i : Nat} {x : α} (hi : l[i]? = some x) : (l.take (i + 1)).all p = ((l.take i).all p && p x) := by
  rw [List.take_add_one, hi, List.all_append]; simp
theorem fits_p {f : FnM} {fv : Value} {a : List JV} {sv : Value} {w : World} {K : Value → World → Prop} (h : ItemsAt w sv a) (hf1 : one1 fv = true) (hm : Lib.hasSuffix f.takes [46] = manyM f.takes) (ht : Lib.trimSuffix f.takes [46] = if manyM f.takes then f.takes.dropLast else f.takes) (hfl : f.takes.length ≤ 100) (hle : f.least ≤ 100)
    (hl : a.length ≤ 1000) (hK : ∀ w', Ext w w' → K (.bool (fitsM f a)) w') : callF Tryz.prog 35 [.agg [str f.takes, i64 (f.least : Nat), fv].toArray, sv] w K := by
  refine W35_ok ?_
  unfold W35
  refine box_new (z := [str f.takes, i64 (f.least : Nat), fv]) fun p w1 hp hz1 hbp hx1 => ?_
  rw [fld_ptr, add_mk, ld_one]
  refine ⟨str f.takes, by rw [cell_eq, hbp]; rfl, ?_⟩
  refine cutsuf_p (by omega) ?_
  simp only [ext_tuple]
  refine ⟨_, rfl, _, rfl, ?_⟩
  have hdl : f.takes.dropLast.length ≤ 100 := by rw [List.length_dropLast]; omega
  refine JoinW.cut (fun st w' => st = [str (kindsM f.takes a.length)] ∧ Ext w1 w') ?_ ?_
  · rw [hm, ht, condW_b]
    refine ⟨fun hmany => ?_, fun hmany => ?_⟩
    · rw [hmany, if_pos rfl, h.len]
      refine repeat_p (by omega) (by omega) fun w4 hx4 => ?_
      refine ⟨?_, hx4⟩
      unfold kindsM; rw [if_pos hmany]
    · refine ⟨?_, Chg.refl _ _⟩
      unfold kindsM; rw [hmany]; simp
  rintro st g w5 ⟨rfl, hx5⟩
  generalize hk : kindsM f.takes a.length = ks at *
  have hx05 := hx1.trans hx5
  simp only [List.getD_cons_zero]
  rw [h.len, lens_str, bin_neq]
  simp only [isB_f]
  have hkl : ks.length ≤ 1000000 := by
    rw [← hk]
    unfold kindsM
    split
    · rw [List.length_flatten]
      simp only [List.map_replicate, List.sum_replicate_nat]
      exact Nat.le_trans (Nat.mul_le_mul hl hdl) (by decide)
    · omega
  have e1 : decide ((a.length : Int) ≠ (ks.length : Int)) = !decide (a.length = ks.length) := by
    by_cases e : a.length = ks.length
    · rw [e]; simp
    · rw [decide_eq_true (by omega), decide_eq_false e]; rfl
  rw [e1]
  refine GdW.look (decide ((a.length : Int) < (f.least : Int))) (fun _ J hJ => ?_) fun g => ?_
  · rw [h.len, fld_ptr, add_mk, ld_one]
    refine ⟨i64 (f.least : Nat), by rw [cell_eq, hx5.at hbp id]; rfl, ?_⟩
    rw [bin_lss]
    exact hJ
  simp only [List.getD_cons_zero, pick_gd_or]
  have hfit : fitsM f a = (decide (a.length = ks.length) && decide (f.least ≤ a.length) && (a.zip ks).all fun p => decide (kindM p.2 < 0) || decide (p.1.k = kindM p.2)) := by unfold fitsM; rw [hk]
  rw [hfit] at hK
  rw [condW_b]
  refine ⟨fun hbad => ?_, fun hok => ?_⟩
  · have : (decide (a.length = ks.length) && decide (f.least ≤ a.length)) = false := by
      cases h1 : decide (a.length = ks.length) with
      | false => rfl
      | true =>
        rw [h1] at hbad
        simp only [Bool.not_true, Bool.false_or, decide_eq_true_eq] at hbad
        rw [Bool.true_and, decide_eq_false (by omega)]
    rw [this] at hK
    exact hK w5 hx05
  · simp only [Bool.or_eq_false_iff, Bool.not_eq_false', decide_eq_true_eq, decide_eq_false_iff_not] at hok
    obtain ⟨hlen, hle2⟩ := hok
    have : (decide (a.length = ks.length) && decide (f.least ≤ a.length)) = true := by rw [decide_eq_true hlen, decide_eq_true (by omega)]; rfl
    rw [this, Bool.true_and] at hK
    rw [h.len]
    refine loop_up a.length (fun i w' => Ext w w' ∧ ((a.zip ks).take i).all (fun p => decide (kindM p.2 < 0) || decide (p.1.k = kindM p.2)) = true) ⟨hx05, by simp⟩ ?_ ?_
    · rintro i w9 g L hi ⟨hx9, hall⟩ hL
      obtain ⟨x, hxi⟩ : ∃ x, a[i]? = some x := ⟨_, List.getElem?_eq_getElem hi⟩
      obtain ⟨c, hci⟩ : ∃ c, ks[i]? = some c := ⟨_, List.getElem?_eq_getElem (by omega)⟩
      have hzi : (a.zip ks)[i]? = some (x, c) := by rw [List.getElem?_zip_eq_some]; exact ⟨hxi, hci⟩
      have hltI : (i : Int) < (a.length : Int) := by omega
      simp only [List.getD_cons_zero]
      rw [bin_lss, decide_eq_true hltI, condW_true]
      refine h.at_old hx9 hxi fun ds hds => ?_
      refine copy_new (hds.ext hx9) fun q w11 sq kq hQ hx11 => ?_
      rw [ixs_str]
      refine ⟨by omega, c, by rw [Int.toNat_natCast]; exact hci, ?_⟩
      refine kind_p ?_
      rw [bin_geq]
      simp only [isB_t]
      refine GdW.look (!decide (x.k = kindM c)) (fun _ J hJ => ?_) fun g => ?_
      · simp only [wsv, wsg, wsh, wsl, cond_true, cond_false, exists_eq_left', Option.some.injEq, Option.isSome_some, List.getElem?_toArray, List.getElem?_cons_zero, List.getElem?_cons_succ, List.length_cons, List.length_nil, List.set_cons_zero, List.set_cons_succ, List.getD_cons_zero, List.getD_cons_succ, Nat.zero_add, Nat.add_zero, Nat.reduceAdd, Nat.reduceLT, Nat.lt_add_one, Nat.zero_lt_succ, decide_true, decide_false, ne_eq, reduceCtorEq, wsh, hQ.hb]
        have : decide (x.k ≠ kindM c) = !decide (x.k = kindM c) := by simp
        rw [this] at *
        exact hJ
      simp only [List.getD_cons_zero, pick_gd_and]
      rw [condW_b]
      refine ⟨fun hbad => ?_, fun hgood => ?_⟩
      · simp only [Bool.and_eq_true, decide_eq_true_eq, Bool.not_eq_true', decide_eq_false_iff_not] at hbad
        have : (a.zip ks).all (fun p => decide (kindM p.2 < 0) || decide (p.1.k = kindM p.2)) = false := by
          rw [List.all_eq_false]
          refine ⟨(x, c), List.mem_of_getElem? hzi, ?_⟩
          simp only [Bool.or_eq_true, decide_eq_true_eq, not_or]
          exact ⟨by omega, hbad.2⟩
        rw [this] at hK
        exact hK w11 (hx9.trans hx11)
      · rw [bin_add, up1 (by omega)]
        refine hL w11 ⟨hx9.trans hx11, ?_⟩
        rw [all_take hzi, hall, Bool.true_and]
        simp only [Bool.or_eq_true, decide_eq_true_eq]
        by_cases hneg : kindM c < 0
        · exact .inl hneg
        · right
          rw [decide_eq_true (show (0 : Int) ≤ kindM c by omega), Bool.true_and] at hgood
          simpa using hgood
    · rintro w9 g L ⟨hx9, hall⟩
      simp only [List.getD_cons_zero]
      rw [bin_lss, decide_eq_false (Int.lt_irrefl _), condW_false]
      have hzl : (a.zip ks).length = a.length := by rw [List.length_zip]; omega
      rw [← hzl, List.take_length] at hall
      rw [hall] at hK
      exact hK w9 hx9
end
def fnX : List (Str × FnM × FuncId) := [([97, 98, 115], fn_abs, 46), ([99, 111, 110, 99, 97, 116], fn_concat, 48), ([99, 111, 110, 116, 97, 105, 110, 115], fn_contains, 49), ([106, 111, 105, 110], fn_join, 50), ([107, 101, 121, 115], fn_keys, 51), ([108, 101, 110, 103, 116, 104], fn_length, 53), ([108, 111, 111, 107, 117, 112], fn_lookup, 54), ([108, 111, 119, 101, 114], fn_lower, 55), ([109, 97, 120], fn_max, 58), ([109, 101, 114, 103, 101], fn_merge, 60), ([109, 105, 110], fn_min, 61), ([114, 97, 110, 103, 101], fn_range, 62), ([114, 101, 118, 101, 114, 115, 101], fn_reverse, 63), ([115, 112, 108, 105, 116], fn_split, 64), ([115, 117, 98, 115, 116, 114], fn_substr, 65), ([116, 111, 105, 110, 116], fn_toint, 66), ([116, 111, 115, 116, 114, 105, 110, 103], fn_tostring, 67), ([117, 112, 112, 101, 114], fn_upper, 68), ([118, 97, 108, 117, 101, 115], fn_values, 69)]
abbrev fnV (f : FnM) (g : FuncId) : Value := .agg [str f.takes, i64 (f.least : Nat), .func (.func g) #[] #[]].toArray
def fnP : List (Str × Value) := fnX.map fun e => (e.1, fnV e.2.1 e.2.2)
theorem fnT_eq : fnT = fnX.map fun e => (e.1, e.2.1) := rfl
def findX : List (Str × FnM × FuncId) → Str → Option (FnM × FuncId)
  | [], _ => none
  | (a, v) :: m, k => if k = a then some v else findX m k
theorem findX_P (k : Str) : ∀ l : List (Str × FnM × FuncId), lookS (l.map fun e => (e.1, fnV e.2.1 e.2.2)) k = (findX l k).map fun v => fnV v.1 v.2
  | [] => rfl
  | (a, v) :: m => by
    simp only [List.map_cons, lookS, findX]
    split
    · rfl
    · exact findX_P k m
theorem findX_T (k : Str) : ∀ l : List (Str × FnM × FuncId), lookF (l.map fun e => (e.1, e.2.1)) k = (findX l k).map fun v => v.1
  | [] => rfl
  | (a, v) :: m => by
    simp only [List.map_cons, lookF, findX]
    split
    · rfl
    · exact findX_T k m
theorem findX_mem {k : Str} {v : FnM × FuncId} : ∀ {l : List (Str × FnM × FuncId)}, findX l k = some v → (k, v) ∈ l
  | [], h => by cases h
  | (a, u) :: m, h => by
    simp only [findX] at h
    split at h
    · rename_i e; subst e; cases h; exact List.mem_cons_self
    · exact List.mem_cons_of_mem _ (findX_mem h)
section
variable [HX]
theorem all_p {w : World} {K : Value → World → Prop} (hK : ∀ b w', Ext w w' → MapB w' b fnP → K (.map (some b)) w') : callF Tryz.prog 31 [] w K := by
  refine W31_ok ?_
  unfold W31
  refine map_made (KT := ST) (ET := FT) (by kernel_rfl) (.inl rfl) fun b w1 hb hz1 hm hx => ?_
  have key : ∀ {m : List (Str × Value)} {w2 : World} {k t : Str} {n : Int} {fv : Value} {K' : World → Prop}, MapB w2 b m → Ext w w2 → lookS m k = none →
      (∀ w3, MapB w3 b (m ++ [(k, .agg [str t, i64 n, fv].toArray)]) → Ext w w3 → K' w3) → semU Tryz.prog (Instr.mapUpdate 59 (.map (some b)) (str k) (.agg [str t, i64 n, fv].toArray)) w2 K' := fun {m w2 k t n fv K'} hm hx hn hK' =>
    map_put (KT := ST) (ET := FT) (by kernel_rfl) (by kernel_rfl) hm hn fun w3 hz3 hm3 hc3 => hK' w3 hm3 (hx.new hc3 (by omega))
  have pf : ∀ (c : List Value) (i : Nat) (g : FuncId) (r : List (Nat × Nat × Value)) (K : List Value → Prop), putW c ((i, 1, .func (.func g) #[] #[]) :: r) K ↔ i < c.length ∧ putW (c.set i (.func (.func g) #[] #[])) r K := fun c i g r K => put_one c i _ r K rfl
  simp only [put_str, put_int, pf, put_nil, List.length_cons, List.length_nil, List.set_cons_zero, List.set_cons_succ]
  refine ⟨by omega, by omega, by omega, ?_⟩
  refine key hm hx (by rfl) fun w2 hm hx => ?_
  refine ⟨by omega, by omega, by omega, ?_⟩
  refine key hm hx (by rfl) fun w3 hm hx => ?_
  refine ⟨by omega, by omega, by omega, ?_⟩
  refine key hm hx (by rfl) fun w4 hm hx => ?_
  refine ⟨by omega, by omega, by omega, ?_⟩
  refine key hm hx (by rfl) fun w5 hm hx => ?_
  refine ⟨by omega, by omega, by omega, ?_⟩
  refine key hm hx (by rfl) fun w6 hm hx => ?_
  refine ⟨by omega, by omega, by omega, ?_⟩
  refine key hm hx (by rfl) fun w7 hm hx => ?_
  refine ⟨by omega, by omega, by omega, ?_⟩
  refine key hm hx (by rfl) fun w8 hm hx => ?_
  refine ⟨by omega, by omega, by omega, ?_⟩
  refine key hm hx (by rfl) fun w9 hm hx => ?_
  refine ⟨by omega, by omega, by omega, ?_⟩
  refine key hm hx (by rfl) fun w10 hm hx => ?_
  refine ⟨by omega, by omega, by omega, ?_⟩
  refine key hm hx (by rfl) fun w11 hm hx => ?_
  refine ⟨by omega, by omega, by omega, ?_⟩
  refine key hm hx (by rfl) fun w12 hm hx => ?_
  refine ⟨by omega, by omega, by omega, ?_⟩
  refine key hm hx (by rfl) fun w13 hm hx => ?_
  refine ⟨by omega, by omega, by omega, ?_⟩
  refine key hm hx (by rfl) fun w14 hm hx => ?_
  refine ⟨by omega, by omega, by omega, ?_⟩
  refine key hm hx (by rfl) fun w15 hm hx => ?_
  refine ⟨by omega, by omega, by omega, ?_⟩
  refine key hm hx (by rfl) fun w16 hm hx => ?_
  refine ⟨by omega, by omega, by omega, ?_⟩
  refine key hm hx (by rfl) fun w17 hm hx => ?_
  refine ⟨by omega, by omega, by omega, ?_⟩
  refine key hm hx (by rfl) fun w18 hm hx => ?_
  refine ⟨by omega, by omega, by omega, ?_⟩
  refine key hm hx (by rfl) fun w19 hm hx => ?_
  refine ⟨by omega, by omega, by omega, ?_⟩
  refine key hm hx (by rfl) fun w20 hm hx => ?_
  exact hK b _ hx hm
end
end Go.Proofs.YtdkikjcpgihjlaaGreatDoor
namespace Go.Proofs.YtdkikjcpgihjlaaGreatDoor
open Go Go.Eng Go.Num Go.RowKit
set_option maxRecDepth 100000
theorem fit1 {f : FnM} {a : List JV} {c : UInt8} (ht : f.takes = [c]) (hc : c ≠ 46) (h : fitsM f a = true) : ∃ x, a = [x] ∧ (kindM c < 0 ∨ x.k = kindM c) := by
  have hk : kindsM f.takes a.length = [c] := by unfold kindsM manyM; rw [ht]; simp [hc]
  unfold fitsM at h
  rw [hk] at h
  simp only [Bool.and_eq_true, decide_eq_true_eq, List.length_cons, List.length_nil] at h
  obtain ⟨⟨h1, _⟩, h3⟩ := h
  match a, h1 with
  | [x], _ => exact ⟨x, rfl, by simpa using h3⟩
theorem fit2 {f : FnM} {a : List JV} {c d : UInt8} (ht : f.takes = [c, d]) (hd : d ≠ 46) (h : fitsM f a = true) : ∃ x y, a = [x, y] ∧ (kindM c < 0 ∨ x.k = kindM c) ∧ (kindM d < 0 ∨ y.k = kindM d) := by
  have hk : kindsM f.takes a.length = [c, d] := by unfold kindsM manyM; rw [ht]; simp [hd]
  unfold fitsM at h
  rw [hk] at h
  simp only [Bool.and_eq_true, decide_eq_true_eq, List.length_cons, List.length_nil] at h
  obtain ⟨⟨h1, _⟩, h3⟩ := h
  match a, h1 with
  | [x, y], _ =>
    simp only [List.zip_cons_cons, List.zip_nil_right, List.all_cons, List.all_nil, Bool.and_true, Bool.and_eq_true, Bool.or_eq_true, decide_eq_true_eq] at h3
    exact ⟨x, y, rfl, h3.1, h3.2⟩
theorem fit3 {f : FnM} {a : List JV} {c d e : UInt8} (ht : f.takes = [c, d, e]) (hd : e ≠ 46) (h : fitsM f a = true) : ∃ x y z, a = [x, y, z] ∧ (kindM c < 0 ∨ x.k = kindM c) ∧ (kindM d < 0 ∨ y.k = kindM d) ∧ (kindM e < 0 ∨ z.k = kindM e) := by
  have hk : kindsM f.takes a.length = [c, d, e] := by unfold kindsM manyM; rw [ht]; simp [hd]
  unfold fitsM at h
  rw [hk] at h
  simp only [Bool.and_eq_true, decide_eq_true_eq, List.length_cons, List.length_nil] at h
  obtain ⟨⟨h1, _⟩, h3⟩ := h
  match a, h1 with
  | [x, y, z], _ =>
    simp only [List.zip_cons_cons, List.zip_nil_right, List.all_cons, List.all_nil, Bool.and_true, Bool.and_eq_true, Bool.or_eq_true, decide_eq_true_eq] at h3
    exact ⟨x, y, z, rfl, h3.1, h3.2.1, h3.2.2⟩
theorem zip_rep (c : UInt8) : ∀ (a : List JV), a.zip (List.replicate a.length [c]).flatten = a.map fun x => (x, c)
  | [] => rfl
  | x :: a => by
    rw [List.length_cons, List.replicate_succ, List.flatten_cons]
    show (x, c) :: a.zip (List.replicate a.length [c]).flatten = _
    rw [zip_rep c a, List.map_cons]
theorem fitm {f : FnM} {a : List JV} {c : UInt8} (ht : f.takes = [c, 46]) (h : fitsM f a = true) : f.least ≤ a.length ∧ ∀ x ∈ a, kindM c < 0 ∨ x.k = kindM c := by
  have hk : kindsM f.takes a.length = (List.replicate a.length [c]).flatten := by unfold kindsM manyM; rw [ht]; simp
  unfold fitsM at h
  rw [hk, zip_rep] at h
  simp only [Bool.and_eq_true, decide_eq_true_eq] at h
  obtain ⟨⟨_, h2⟩, h3⟩ := h
  refine ⟨h2, fun x hx => ?_⟩
  have := List.all_eq_true.1 h3 (x, c) (List.mem_map.2 ⟨x, hx, rfl⟩)
  simpa using this
structure FineA (a : List JV) : Prop where
  good : ∀ x ∈ a, goodM x = true
  len : a.length ≤ 60
  pairs : (pairsL a).length ≤ 90000
theorem good_items {x : JV} (h : goodM x = true) : x.xs.length ≤ 2000 := by
  simp only [goodM, Bool.and_eq_true, decide_eq_true_eq] at h
  have hd := h.1.2
  have hs := h.1.1
  rw [show (24 : Nat) = 23 + 1 from rfl, deepM_succ, deepL_all] at hd
  rw [sizeM_eq] at hs
  have := (sizeLM_all (m := 23) (by omega) x.xs 1 hd (by omega) hs).1
  omega
theorem xsflat_len : ∀ (a : List JV), (∀ x ∈ a, goodM x = true) → (a.map (·.xs)).flatten.length ≤ a.length * 2000
  | [], _ => by simp
  | x :: a, h => by
    have := xsflat_len a fun y hy => h y (List.mem_cons_of_mem _ hy)
    have h1 := good_items (h x List.mem_cons_self)
    simp only [List.map_cons, List.flatten_cons, List.length_append, List.length_cons]
    omega
theorem head3 {x : JV} (h : plainM x = true) (k3 : x.k = 3) : goodN x.t = true ∧ x.xs = [] ∧ x.ks = [] := by
  rw [plainM_eq, Bool.and_eq_true] at h
  obtain ⟨_, _, _, _, h5, h6, h7, _⟩ := headOk_out h.1
  refine ⟨h7 k3, ?_, ?_⟩
  · refine Classical.byContradiction fun e => ?_
    have : x.xs.length ≠ 0 := fun h0 => e (List.eq_nil_of_length_eq_zero h0)
    have := h5 this; omega
  · refine Classical.byContradiction fun e => ?_
    have := h6 e; omega
theorem kv : kindM 110 = 3 ∧ kindM 115 = 4 ∧ kindM 108 = 5 ∧ kindM 111 = 6 ∧ kindM 118 = -1 := by decide
section
variable [HX]
def DoOK (g : FuncId) (f : FnM) : Prop := ∀ {a : List JV} {sv : Value} {w : World} {K : Value → World → Prop}, TabF w → ItemsAt w sv a → FineA a → fitsM f a = true → DoK (f.act a) w K → callF Tryz.prog g [sv] w K
theorem do_all : ∀ e ∈ fnX, DoOK e.2.2 e.2.1 := by
  obtain ⟨kn, ks, kl, ko, kvv⟩ := kv
  have wl : ∀ {x : JV}, goodM x = true → x.t.length ≤ 16384 := fun h => head_t (good_v h).plain
  intro e he
  unfold fnX at he
  simp only [List.mem_cons, List.not_mem_nil, or_false] at he
  rcases he with rfl | rfl | rfl | rfl | rfl | rfl | rfl | rfl | rfl | rfl | rfl | rfl | rfl | rfl | rfl | rfl | rfl | rfl | rfl
  all_goals intro a sv w K hT h hF hfit hK
  · obtain ⟨x, rfl, h1⟩ := fit1 (f := fn_abs) rfl (by decide) hfit
    exact abs_p h hK
  · exact concat_p' h (fun x hx => (good_v (hF.good x hx)).few) (by have := hF.len; omega) (Nat.le_trans (xsflat_len a hF.good) (by have := hF.len; omega)) hK
  · obtain ⟨x, y, rfl, h1, h2⟩ := fit2 (f := fn_contains) rfl (by decide) hfit
    exact contains_p h hK
  · obtain ⟨x, y, rfl, h1, h2⟩ := fit2 (f := fn_join) rfl (by decide) hfit
    have gx := hF.good x (by simp)
    have gy := hF.good y (by simp)
    have := wl gx
    have := good_items gy
    exact joinF_p h (by omega) (by omega) (fun z hz => by have := head_t ((good_v gy).item hz).plain; omega) hK
  · obtain ⟨x, rfl, h1⟩ := fit1 (f := fn_keys) rfl (by decide) hfit
    have := (good_v (hF.good x (by simp))).lens
    exact keysF_p h (by omega) hK
  · obtain ⟨x, rfl, h1⟩ := fit1 (f := fn_length) rfl (by decide) hfit
    have := wl (hF.good x (by simp))
    exact length_p hT h (by omega) hK
  · obtain ⟨x, y, z, rfl, h1, h2, h3⟩ := fit3 (f := fn_lookup) rfl (by decide) hfit
    rw [ko] at h1
    exact lookup_p h (good_v (hF.good x (by simp))) (by omega) (good_v (hF.good z (by simp))) hK
  · obtain ⟨x, rfl, h1⟩ := fit1 (f := fn_lower) rfl (by decide) hfit
    have := wl (hF.good x (by simp))
    exact flower_p h (by omega) hK
  · obtain ⟨h0, h1⟩ := fitm (f := fn_max) rfl hfit
    rw [kn] at h1
    refine max_p h (fun e => by subst e; exact absurd h0 (by decide)) (by have := hF.len; omega) (fun x hx => ?_) hK
    have hp := (good_v (hF.good x hx)).plain
    have h3 := head3 hp (by have := h1 x hx; omega)
    have := head_t hp
    exact ⟨by omega, h3.2.1, h3.2.2⟩
  · obtain ⟨h0, h1⟩ := fitm (f := fn_merge) rfl hfit
    rw [ko] at h1
    exact merge_p h (fun x hx => good_v (hF.good x hx)) (fun x hx => by have := h1 x hx; omega) (by have := hF.len; omega) hF.pairs hK
  · obtain ⟨h0, h1⟩ := fitm (f := fn_min) rfl hfit
    rw [kn] at h1
    refine min_p h (fun e => by subst e; exact absurd h0 (by decide)) (by have := hF.len; omega) (fun x hx => ?_) hK
    have hp := (good_v (hF.good x hx)).plain
    have h3 := head3 hp (by have := h1 x hx; omega)
    have := head_t hp
    exact ⟨by omega, h3.2.1, h3.2.2⟩
  · obtain ⟨x, rfl, h1⟩ := fit1 (f := fn_range) rfl (by decide) hfit
    rw [kn] at h1
    have := head3 (good_v (hF.good x (by simp))).plain (by omega)
    exact upTo_p hT h this.1 hK
  · obtain ⟨x, rfl, h1⟩ := fit1 (f := fn_reverse) rfl (by decide) hfit
    exact reverse_p h (good_v (hF.good x (by simp))) hK
  · obtain ⟨x, y, rfl, h1, h2⟩ := fit2 (f := fn_split) rfl (by decide) hfit
    have := wl (hF.good x (by simp))
    have := wl (hF.good y (by simp))
    exact fsplit_p hT h (by omega) (by omega) hK
  · obtain ⟨x, y, z, rfl, h1, h2, h3⟩ := fit3 (f := fn_substr) rfl (by decide) hfit
    rw [kn] at h2 h3
    have := wl (hF.good x (by simp))
    have g2 := head3 (good_v (hF.good y (by simp))).plain (by omega)
    have g3 := head3 (good_v (hF.good z (by simp))).plain (by omega)
    exact substr_p hT h (by omega) g2.1 g3.1 hK
  · obtain ⟨x, rfl, h1⟩ := fit1 (f := fn_toint) rfl (by decide) hfit
    have := wl (hF.good x (by simp))
    exact toint_p h (by omega) hK
  · obtain ⟨x, rfl, h1⟩ := fit1 (f := fn_tostring) rfl (by decide) hfit
    exact tostr_p h hK
  · obtain ⟨x, rfl, h1⟩ := fit1 (f := fn_upper) rfl (by decide) hfit
    have := wl (hF.good x (by simp))
    exact upper_p h (by omega) hK
  · obtain ⟨x, rfl, h1⟩ := fit1 (f := fn_values) rfl (by decide) hfit
    have hv := good_v (hF.good x (by simp))
    have := hv.lens
    exact values_p h (by omega) (fun y hy => few_w y (hv.item hy).few) hK
theorem takes_ok : ∀ e ∈ fnX, Lib.hasSuffix e.2.1.takes [46] = manyM e.2.1.takes ∧ Lib.trimSuffix e.2.1.takes [46] = (if manyM e.2.1.takes then e.2.1.takes.dropLast else e.2.1.takes) ∧ e.2.1.takes.length ≤ 100 ∧ e.2.1.least ≤ 100 := by decide
theorem call_p {name : Str} {a : List JV} {sv : Value} {w : World} {K : Value → World → Prop} (hT : TabF w) (h : ItemsAt w sv a) (hl : a.length ≤ 60) (hpr : (∀ x ∈ a, goodM x = true) → (pairsL a).length ≤ 90000)
    (hK : ∀ cs w', Ext w w' → VRepP (From w.heap.size) w' (callM name a).1 cs → K (.tuple #[.agg cs.toArray, i64 (callM name a).2]) w') : callF Tryz.prog 11 [str name, sv] w K := by
  refine W11_ok ?_
  unfold W11
  refine alloc_new fun b w1 hb hz1 hbb hx1 => ?_
  have s1 := hx1.size
  have ends : ∀ {v : JV} {cs : List Value} {c : Int} {w' : World}, callM name a = (v, c) → Ext w1 w' → VRepP (fun q => w.heap.size ≤ q ∧ q ≠ b) w' v cs →
      stW 5 (.pointer (some ⟨b, 0, none⟩)) (.agg cs.toArray) w' fun w4 => ldW true 5 (.pointer (some ⟨b, 0, none⟩)) w4 fun r5 => K (.tuple #[r5, i64 c]) w4 := fun {v cs c w'} hc hx hv => by
    rw [hc] at hK
    exact ret_f (w0 := w) (K := fun r w => K (.tuple #[r, i64 c]) w) (hx.at hbb id) rfl (by omega) (hx1.trans hx) hv fun w'' hx'' h'' => hK _ w'' hx'' h''
  refine contains_x (p := fun x => !goodM x) (h.ext hx1) (fun z hz {cs w3 K3} hx3 hcs hK3 => ?_) fun w2 hx2 => ?_
  · refine callV_fn ?_
    refine W29_ok ?_
    unfold W29
    refine box_val hcs fun q w4 sv4 kv4 hB4 hx4 _ => ?_
    refine hB4.ld fun cs4 hcs4 => ?_
    refine vgood_p hcs4 fun w5 hx5 => ?_
    rw [un_not]
    exact hK3 w5 (hx4.trans hx5)
  rw [condW_b]
  refine ⟨fun hbad => ?_, fun hgood => ?_⟩
  · rw [put_nil]
    exact ends (v := JV.null) (cs := flat 0 false []) (by unfold callM; rw [if_pos hbad]) hx2 (flat_rep (by simp))
  have hgd : ∀ x ∈ a, goodM x = true := fun x hx => by
    have := List.any_eq_false.1 hgood x hx
    simpa using this
  have hF : FineA a := ⟨hgd, hl, hpr hgd⟩
  refine all_p fun mb w6 hx6 hm => ?_
  have hfP := findX_P name fnX
  have hfT : lookF fnT name = (findX fnX name).map fun v => v.1 := by rw [fnT_eq]; exact findX_T name fnX
  have hcall : callM name a = (match lookF fnT name with
    | none => (JV.null, 70)
    | some f =>
      if a.any (fun x => !knownM x) then (uV, 0) else
      if !fitsM f a then (JV.null, 71) else
      match f.act a with
      | none => (JV.null, 71)
      | some v => if goodM v then (v, 0) else (JV.null, 3)) := by
    unfold callM; rw [if_neg (by rw [hgood]; simp)] <;> rfl
  have hx26 := hx2.trans hx6
  refine map_get (KT := ST) (ET := FT) (z := .agg #[str [], i64 0, .nilFunc]) (by kernel_rfl) (by kernel_rfl) (by kernel_rfl) hm (fun v hv => ?_) (fun hno => ?_)
  rotate_left
  · have hno : findX fnX name = none := by
      have hno : lookS (fnX.map fun e => (e.1, fnV e.2.1 e.2.2)) name = none := hno
      rw [hfP] at hno
      cases hq : findX fnX name with
      | none => rfl
      | some v => rw [hq] at hno; cases hno
    rw [hfT, hno] at hcall
    simp only [ext_tuple]
    refine ⟨_, rfl, _, rfl, ?_⟩
    refine alloc_new fun p w7 hp hz7 hbp hx7 => ?_
    refine st_agg_at (l := [str [], i64 0, .nilFunc]) hbp rfl rfl rfl fun w8 hz8 hbp8 hc8 => ?_
    have hx28 := hx26.trans (hx7.new hc8 (by omega))
    rw [un_not, Bool.not_false, condW_true, put_nil]
    exact ends (v := JV.null) (cs := flat 0 false []) hcall hx28 (flat_rep (by simp))
  obtain ⟨e, he, hev⟩ : ∃ e : FnM × FuncId, findX fnX name = some e ∧ v = fnV e.1 e.2 := by
    have hv : lookS (fnX.map fun e => (e.1, fnV e.2.1 e.2.2)) name = some v := hv
    rw [hfP] at hv
    cases hq : findX fnX name with
    | none => rw [hq] at hv; cases hv
    | some u => rw [hq] at hv; exact ⟨u, rfl, (Option.some.inj hv).symm⟩
  obtain ⟨f, g⟩ := e
  subst hev
  have hmem := findX_mem he
  have hdo : DoOK g f := fun {a sv w K} h1 h2 h3 h4 h5 => do_all _ hmem h1 h2 h3 h4 h5
  obtain ⟨ht1, ht2, ht3, ht4⟩ := takes_ok _ hmem
  rw [hfT, he] at hcall
  simp only [Option.map_some] at hcall
  simp only [ext_tuple]
  refine ⟨_, rfl, _, rfl, ?_⟩
  refine alloc_new fun p w7 hp hz7 hbp hx7 => ?_
  refine st_agg_at (l := [str f.takes, i64 (f.least : Nat), .func (.func g) #[] #[]]) hbp rfl rfl rfl fun w8 hz8 hbp8 hc8 => ?_
  have hx28 := hx26.trans (hx7.new hc8 (by omega))
  rw [un_not, Bool.not_true, condW_false]
  have h8 := (h.ext hx1).ext hx28
  refine contains_x (p := fun x => !knownM x) h8 (fun z hz {cs w3 K3} hx3 hcs hK3 => ?_) fun w12 hx12 => ?_
  · refine callV_fn ?_
    refine W32_ok ?_
    unfold W32
    refine box_val hcs fun q w4 sv4 kv4 hB4 hx4 _ => ?_
    refine hB4.ld fun cs4 hcs4 => ?_
    refine known_p z hcs4 fun w5 hx5 => ?_
    rw [un_not]
    exact hK3 w5 (hx4.trans hx5)
  have hx112 := hx28.trans hx12
  rw [condW_b]
  refine ⟨fun hunk => ?_, fun hknw => ?_⟩
  · rw [if_pos hunk] at hcall
    refine unknown_p fun w13 hx13 => ?_
    exact ends (v := uV) (cs := flat 1 false []) hcall (hx112.trans hx13) (flat_rep (by simp))
  rw [if_neg (by rw [hknw]; simp)] at hcall
  refine ld_all (hx12.at hbp8 id) rfl ?_
  refine fits_p (f := f) (h8.ext hx12) rfl ht1 ht2 ht3 ht4 (by omega) fun w16 hx16 => ?_
  have hx116 := hx112.trans hx16
  rw [un_not, condW_b]
  refine ⟨fun hnf => ?_, fun hfit => ?_⟩
  · rw [if_pos hnf] at hcall
    rw [put_nil]
    exact ends (v := JV.null) (cs := flat 0 false []) hcall hx116 (flat_rep (by simp))
  rw [if_neg (by rw [hfit]; simp)] at hcall
  have hfit : fitsM f a = true := by simpa using hfit
  have hbp16 := (hx12.trans hx16).at hbp8 id
  rw [fld_ptr, ld_one]
  refine ⟨.func (.func g) #[] #[], by rw [add_mk, cell_eq, hbp16]; rfl, ?_⟩
  refine callV_fn ?_
  have hT16 := hT.ext (hx1.trans hx116)
  refine hdo hT16 ((h.ext hx1).ext hx116) hF hfit fun cs v ok w20 hx20 hV hr => ?_
  have hr : f.act a = if ok = true then some v else none := hr
  simp only [ext_tuple]
  refine ⟨_, rfl, _, rfl, ?_⟩
  have hx120 := hx116.trans hx20
  refine alloc_new fun q w21 hq hz21 hbq hx21 => ?_
  refine st_agg_at hbq hV.rep.len rfl hV.rep.all_one fun w22 hz22 hbq22 hc22 => ?_
  have hx2022 : Ext w20 w22 := hx21.new hc22 (by omega)
  have hx122 := hx120.trans hx2022
  have s16 := hx116.size
  have hlb := at_lt hbb
  have hV22 : VRepP (From w16.heap.size) w22 v cs := hV.ext' hx2022
  rw [un_not, condW_b]
  refine ⟨fun hno => ?_, fun hok => ?_⟩
  · rw [hr, if_neg (by simpa using hno)] at hcall
    rw [put_nil]
    exact ends (v := JV.null) (cs := flat 0 false []) hcall hx122 (flat_rep (by simp))
  rw [hr, if_pos (by simpa using hok)] at hcall
  refine ld_all hbq22 hV.rep.len ?_
  refine vgood_p hV22.rep fun w26 hx26' => ?_
  have hx126 := hx122.trans hx26'
  rw [un_not, condW_b]
  refine ⟨fun hng => ?_, fun hg => ?_⟩
  · simp only [if_neg (show ¬ goodM v = true by simpa using hng)] at hcall
    rw [put_nil]
    exact ends (v := JV.null) (cs := flat 0 false []) hcall hx126 (flat_rep (by simp))
  · simp only [if_pos (show goodM v = true by simpa using hg)] at hcall
    refine ld_all (hx26'.at hbq22 id) hV.rep.len ?_
    exact ends (v := v) hcall hx126 ((hV22.ext' hx26').at (by omega) (by omega))
end
end Go.Proofs.YtdkikjcpgihjlaaGreatDoor
namespace Go.Proofs.YtdkikjcpgihjlaaGreatDoor
open Go Go.Eng Go.Num Go.RowKit
set_option maxRecDepth 100000
def takesM (name : Str) : Str := match lookF fnT name with | none => [] | some f => f.takes
abbrev zr5 : List Value := [(.int .i64 0), (.bool false), (.string (ofL [])), (.slice none 0 0), (.slice none 0 0)]
theorem frow_v2 {u v : JV} {cs ds : List Value} {w : World} {K : Value → World → Prop} (h1 : VRep w u cs) (h2 : VRep w v ds) (hK : ∀ t w', ItemsAt w' t [u, v] → Ext w w' → inG (From w.heap.size) t → K t w') :
    bslW VT 2 (zr5 ++ zr5) [(0, 5, .agg cs.toArray), (5, 5, .agg ds.toArray)] w K := by
  unfold bslW
  have l1 := h1.len
  have l2 := h2.len
  have hp : ∀ K : List Value → Prop, K (cs ++ ds) → putW (zr5 ++ zr5) [(0, 5, .agg cs.toArray), (5, 5, .agg ds.toArray)] K := by
    intro K hK
    refine ⟨by simp [Value.cells, l1], by simp, ?_⟩
    refine ⟨by simp [Value.cells, l2], by simp [Value.cells, l1], ?_⟩
    have : List.take 5 (List.take 0 (zr5 ++ zr5) ++ ((Value.agg cs.toArray).cells.toList ++ List.drop (0 + 5) (zr5 ++ zr5))) ++ ((Value.agg ds.toArray).cells.toList ++ List.drop (5 + 5) (List.take 0 (zr5 ++ zr5) ++ ((Value.agg cs.toArray).cells.toList ++ List.drop (0 + 5) (zr5 ++ zr5)))) = cs ++ ds := by
      simp [Value.cells, List.take_append, List.drop_append, l1]
    rw [this]
    exact hK
  refine hp _ ?_
  have hx : Ext w (w.alloc (.cells (cs ++ ds).toArray VT)) := Chg.alloc (Chg.refl _ _) _
  refine hK _ _ ⟨⟨VT, cs ++ (ds ++ []), ?_, ?_⟩, by simp⟩ hx (fun q hq => by cases hq; exact Nat.le_refl _)
  · rw [List.append_nil]
    exact (own_new (w := w) (base := w.heap.size) (e := VT) (size := 5) (n := 2) (cs := cs ++ ds) (Nat.le_refl _) (by rw [List.length_append]; omega) (by omega)).sl
  · simp only [VReps]
    exact ⟨cs, ds ++ [], rfl, h1.ext hx, ds, [], rfl, h2.ext hx, rfl⟩
theorem frow_v1 {u : JV} {cs : List Value} {w : World} {K : Value → World → Prop} (h1 : VRep w u cs) (hK : ∀ t w', ItemsAt w' t [u] → Ext w w' → K t w') : bslW VT 1 zr5 [(0, 5, .agg cs.toArray)] w K :=
  row_v h1.len fun t w' ht hx => hK t w' ⟨⟨VT, cs, ht, VReps.one' (h1.ext hx)⟩, by simp⟩ hx
section
variable [HX]
theorem unknown_ref2 {w : World} {K : Value → World → Prop} (hK : ∀ w', Ext w w' → K (.agg (flat 1 false []).toArray) w') : callF Tryz.prog 26 [] w K := by
  refine W26_ok ?_
  unfold W26
  refine alloc_new fun b w1 hb hz hbb hx => ?_
  simp only [wsv, wsg, wsh, wsl, cond_true, cond_false, exists_eq_left', Option.some.injEq, Option.isSome_some, List.getElem?_toArray, List.getElem?_cons_zero, List.getElem?_cons_succ, List.length_cons, List.length_nil, List.set_cons_zero, List.set_cons_succ, List.getD_cons_zero, List.getD_cons_succ, Nat.zero_add, Nat.add_zero, Nat.reduceAdd, Nat.reduceLT, Nat.lt_add_one, Nat.zero_lt_succ, decide_true, decide_false, ne_eq, reduceCtorEq]
  exact ret_agg hbb rfl rfl rfl fun w' hc => hK w' (hx.new hc (by omega))
theorem text_ref2 {s : Str} {w : World} {K : Value → World → Prop} (hK : ∀ w', Ext w w' → K (.agg (flat 4 false s).toArray) w') : callF Tryz.prog 15 [str s] w K := by
  refine W15_ok ?_
  unfold W15
  refine alloc_new fun b w1 hb hz hbb hx => ?_
  simp only [wsv, wsg, wsh, wsl, cond_true, cond_false, exists_eq_left', Option.some.injEq, Option.isSome_some, List.getElem?_toArray, List.getElem?_cons_zero, List.getElem?_cons_succ, List.length_cons, List.length_nil, List.set_cons_zero, List.set_cons_succ, List.getD_cons_zero, List.getD_cons_succ, Nat.zero_add, Nat.add_zero, Nat.reduceAdd, Nat.reduceLT, Nat.lt_add_one, Nat.zero_lt_succ, decide_true, decide_false, ne_eq, reduceCtorEq]
  exact ret_agg hbb rfl rfl rfl fun w' hc => hK w' (hx.new hc (by omega))
theorem nil_items (w : World) : ItemsAt w (.slice none 0 0) [] := ⟨⟨VT, [], SlAt.nil w VT, rfl⟩, by simp⟩
theorem fawake {w : World} {K : Value → World → Prop} (hT : TabF w) (hK : ∀ w', Ext w w' → K (.bool true) w') : callF Tryz.prog 9 [] w K := by
  refine W9_ok ?_
  unfold W9
  refine text_ref2 fun w1 hx1 => ?_
  refine text_ref2 fun w2 hx2 => ?_
  have hx02 := hx1.trans hx2
  refine frow_v2 (u := tV [44]) (v := tV [97, 44, 44, 98]) (flat_rep (G := fun _ => True) (by simp)).rep (flat_rep (G := fun _ => True) (by simp)).rep fun t w3 hI hx3 _ => ?_
  refine call_p (hT.ext (hx02.trans hx3)) hI (by simp) (fun _ => by simp [pairsL, JV.ks, JV.xs]) fun cs w4 hx4 h4 => ?_
  have e1 : callM [115, 112, 108, 105, 116] [tV [44], tV [97, 44, 44, 98]] = (lV [tV [97], tV [], tV [98]], 0) := by kernel_rfl
  rw [e1] at h4 ⊢
  simp only [ext_tuple]
  refine ⟨_, rfl, _, rfl, ?_⟩
  refine copy_new h4.rep fun a w6 sv kv hB hx6 => ?_
  have hx06 := hx02.trans (hx3.trans (hx4.trans hx6))
  refine call_p (hT.ext hx06) (nil_items w6) (by simp) (fun _ => by simp [pairsL]) fun cs7 w7 hx7 h7 => ?_
  have e2 : callM [110, 111, 112, 101] [] = (JV.null, 70) := by kernel_rfl
  rw [e2] at h7 ⊢
  simp only [ext_tuple]
  refine ⟨_, rfl, _, rfl, ?_⟩
  refine copy_new h7.rep fun a9 w9 sv9 kv9 hB9 hx9 => ?_
  refine unknown_ref2 fun w10 hx10 => ?_
  have hx010 := hx06.trans (hx7.trans (hx9.trans hx10))
  refine frow_v1 (u := uV) (flat_rep (G := fun _ => True) (by simp)).rep fun t w11 hI11 hx11 => ?_
  refine call_p (hT.ext (hx010.trans hx11)) hI11 (by simp) (fun _ => by simp [pairsL, JV.ks, JV.xs]) fun cs12 w12 hx12 h12 => ?_
  have e3 : callM [117, 112, 112, 101, 114] [uV] = (uV, 0) := by kernel_rfl
  rw [e3] at h12 ⊢
  simp only [ext_tuple]
  refine ⟨_, rfl, _, rfl, ?_⟩
  refine copy_new h12.rep fun a14 w14 sv14 kv14 hB14 hx14 => ?_
  have hBe := hB.ext (hx7.trans (hx9.trans (hx10.trans (hx11.trans (hx12.trans hx14)))))
  have hx014 := hx010.trans (hx11.trans (hx12.trans hx14))
  simp only [wsv, wsg, wsh, wsl, cond_true, cond_false, exists_eq_left', Option.some.injEq, Option.isSome_some, List.getElem?_toArray, List.getElem?_cons_zero, List.getElem?_cons_succ, List.length_cons, List.length_nil, List.set_cons_zero, List.set_cons_succ, List.getD_cons_zero, List.getD_cons_succ, Nat.zero_add, Nat.add_zero, Nat.reduceAdd, Nat.reduceLT, Nat.lt_add_one, Nat.zero_lt_succ, decide_true, decide_false, ne_eq, reduceCtorEq, wsh, hBe.hb, hBe.lenx, hB14.hb]
  simp only [JV.xs, JV.k, List.length_cons, List.length_nil]
  (try simp only [wsv, wsg, wsh, wsl, cond_true, cond_false, exists_eq_left', Option.some.injEq, Option.isSome_some, List.getElem?_toArray, List.getElem?_cons_zero, List.getElem?_cons_succ, List.length_cons, List.length_nil, List.set_cons_zero, List.set_cons_succ, List.getD_cons_zero, List.getD_cons_succ, Nat.zero_add, Nat.add_zero, Nat.reduceAdd, Nat.reduceLT, Nat.lt_add_one, Nat.zero_lt_succ, decide_true, decide_false, ne_eq, reduceCtorEq])
  intros
  exact hK w14 hx014
theorem takes_ref {name : Str} {w : World} {K : Value → World → Prop} (hK : K (str (takesM name)) w) : callF Tryz.prog 25 [str name] w K := by
  refine W25_ok ?_
  unfold W25
  refine JoinW.cut (fun st w' => st = [.bool (decide (name = [117, 112, 112, 101, 114] ∨ name = [108, 111, 119, 101, 114]))] ∧ K (str (takesM name)) w') ?_ ?_
  · rw [bin_seq, condW_dec]
    refine ⟨fun e => ⟨by rw [decide_eq_true e, decide_eq_true (by simp only [e, true_or, or_true])], hK⟩, fun eupper => ?_⟩
    rw [bin_seq]
    refine ⟨?_, hK⟩
    congr 3
    simp only [eupper, false_or]
  rintro st g ww ⟨rfl, hK⟩
  simp only [List.getD_cons_zero]
  rw [condW_dec]
  refine ⟨fun e => ?_, fun en0 => ?_⟩
  · rcases e with rfl | rfl <;> exact hK
  simp only [not_or] at en0
  obtain ⟨eupper, elower⟩ := en0
  rw [bin_seq, condW_dec]
  refine ⟨fun e => ?_, fun esubstr => ?_⟩
  · subst e
    exact hK
  rw [bin_seq, condW_dec]
  refine ⟨fun e => ?_, fun ejoin => ?_⟩
  · subst e
    exact hK
  rw [bin_seq, condW_dec]
  refine ⟨fun e => ?_, fun esplit => ?_⟩
  · subst e
    exact hK
  rw [bin_seq, condW_dec]
  refine ⟨fun e => ?_, fun econcat => ?_⟩
  · subst e
    exact hK
  rw [bin_seq, condW_dec]
  refine ⟨fun e => ?_, fun econtains => ?_⟩
  · subst e
    exact hK
  refine JoinW.cut (fun st w' => st = [.bool (decide (name = [107, 101, 121, 115] ∨ name = [118, 97, 108, 117, 101, 115]))] ∧ K (str (takesM name)) w') ?_ ?_
  · rw [bin_seq, condW_dec]
    refine ⟨fun e => ⟨by rw [decide_eq_true e, decide_eq_true (by simp only [e, true_or, or_true])], hK⟩, fun ekeys => ?_⟩
    rw [bin_seq]
    refine ⟨?_, hK⟩
    congr 3
    simp only [ekeys, false_or]
  rintro st g ww ⟨rfl, hK⟩
  simp only [List.getD_cons_zero]
  rw [condW_dec]
  refine ⟨fun e => ?_, fun en1 => ?_⟩
  · rcases e with rfl | rfl <;> exact hK
  simp only [not_or] at en1
  obtain ⟨ekeys, evalues⟩ := en1
  rw [bin_seq, condW_dec]
  refine ⟨fun e => ?_, fun elookup => ?_⟩
  · subst e
    exact hK
  rw [bin_seq, condW_dec]
  refine ⟨fun e => ?_, fun emerge => ?_⟩
  · subst e
    exact hK
  refine JoinW.cut (fun st w' => st = [.bool (decide (name = [109, 97, 120] ∨ name = [109, 105, 110]))] ∧ K (str (takesM name)) w') ?_ ?_
  · rw [bin_seq, condW_dec]
    refine ⟨fun e => ⟨by rw [decide_eq_true e, decide_eq_true (by simp only [e, true_or, or_true])], hK⟩, fun emax => ?_⟩
    rw [bin_seq]
    refine ⟨?_, hK⟩
    congr 3
    simp only [emax, false_or]
  rintro st g ww ⟨rfl, hK⟩
  simp only [List.getD_cons_zero]
  rw [condW_dec]
  refine ⟨fun e => ?_, fun en2 => ?_⟩
  · rcases e with rfl | rfl <;> exact hK
  simp only [not_or] at en2
  obtain ⟨emax, emin⟩ := en2
  refine JoinW.cut (fun st w' => st = [.bool (decide (name = [97, 98, 115] ∨ name = [114, 97, 110, 103, 101]))] ∧ K (str (takesM name)) w') ?_ ?_
  · rw [bin_seq, condW_dec]
    refine ⟨fun e => ⟨by rw [decide_eq_true e, decide_eq_true (by simp only [e, true_or, or_true])], hK⟩, fun eabs => ?_⟩
    rw [bin_seq]
    refine ⟨?_, hK⟩
    congr 3
    simp only [eabs, false_or]
  rintro st g ww ⟨rfl, hK⟩
  simp only [List.getD_cons_zero]
  rw [condW_dec]
  refine ⟨fun e => ?_, fun en3 => ?_⟩
  · rcases e with rfl | rfl <;> exact hK
  simp only [not_or] at en3
  obtain ⟨eabs, erange⟩ := en3
  refine JoinW.cut (fun st w' => st = [.bool (decide (name = [108, 101, 110, 103, 116, 104] ∨ name = [114, 101, 118, 101, 114, 115, 101] ∨ name = [116, 111, 115, 116, 114, 105, 110, 103] ∨ name = [116, 111, 105, 110, 116]))] ∧ K (str (takesM name)) w') ?_ ?_
  · rw [bin_seq, condW_dec]
    refine ⟨fun e => ⟨by rw [decide_eq_true e, decide_eq_true (by simp only [e, true_or, or_true])], hK⟩, fun elength => ?_⟩
    rw [bin_seq, condW_dec]
    refine ⟨fun e => ⟨by rw [decide_eq_true e, decide_eq_true (by simp only [e, true_or, or_true])], hK⟩, fun ereverse => ?_⟩
    rw [bin_seq, condW_dec]
    refine ⟨fun e => ⟨by rw [decide_eq_true e, decide_eq_true (by simp only [e, true_or, or_true])], hK⟩, fun etostring => ?_⟩
    rw [bin_seq]
    refine ⟨?_, hK⟩
    congr 3
    simp only [elength, ereverse, etostring, false_or]
  rintro st g ww ⟨rfl, hK⟩
  simp only [List.getD_cons_zero]
  rw [condW_dec]
  refine ⟨fun e => ?_, fun en4 => ?_⟩
  · rcases e with rfl | rfl | rfl | rfl <;> exact hK
  simp only [not_or] at en4
  obtain ⟨elength, ereverse, etostring, etoint⟩ := en4
  have : takesM name = [] := by
    unfold takesM fnT
    simp only [lookF, if_neg eupper, if_neg elower, if_neg esubstr, if_neg ejoin, if_neg esplit, if_neg econcat, if_neg econtains, if_neg ekeys, if_neg evalues, if_neg elookup, if_neg emerge, if_neg emax, if_neg emin, if_neg eabs, if_neg erange, if_neg elength, if_neg ereverse, if_neg etostring, if_neg etoint]
  rw [this] at hK
  exact hK
end
end Go.Proofs.YtdkikjcpgihjlaaGreatDoor

namespace Go.Proofs.YtdkikjcpgihjlaaGreatDoor
open Go Go.Eng Go.Num Go.RowKit
set_option maxRecDepth 100000
theorem cnt_items (v : JV) : v.xs.length + 1 ≤ cntM v := by
  have : ∀ xs : List JV, xs.length ≤ cntL xs := fun xs => by
    induction xs with
    | nil => simp [cntL]
    | cons x xs ih => have := cnt_pos x; simp only [cntL, List.length_cons]; omega
  cases v with
  | mk k b t xs ks => have := this xs; simp only [cntM, JV.xs]; omega
theorem pairs_cnt : ∀ a : List JV, (pairsL a).length ≤ (a.map cntM).sum
  | [] => by simp [pairsL]
  | x :: a => by
    have := pairs_cnt a
    have h1 := cnt_items x
    unfold pairsL at this ⊢
    simp only [List.map_cons, List.flatten_cons, List.length_append, List.length_zip, List.sum_cons]
    omega
section
variable [HX]
theorem few_p {a : List JV} {sv : Value} {w : World} {K : Value → World → Prop} (h : ItemsAt w sv a) (hK : ∀ r w', Ext w w' → (r = true → a.length ≤ 51 ∧ ((∀ x ∈ a, goodM x = true) → (a.map cntM).sum ≤ 4000)) → K (.bool r) w') : callF Tryz.prog 10 [sv] w K := by
  refine W10_ok ?_
  unfold W10
  rw [h.len]
  refine LoopW.go (fun st w' => ∃ (i : Nat) (n : Int), i ≤ a.length ∧ i ≤ 51 ∧ st = [i64 n, i64 (i : Nat)] ∧ Ext w w' ∧ n ≤ 4000 ∧ ((∀ x ∈ a.take i, goodM x = true) → n = (((a.take i).map cntM).sum : Nat)))
    (fun st _ => match st with | [_, .int _ i] => a.length - i.toNat | _ => 0) ⟨0, 0, by omega, by omega, rfl, Chg.refl _ _, by omega, fun _ => by simp⟩ ?_
  rintro st g w2 ⟨i, n, hi, hi51, rfl, hx2, hn4, hgd⟩
  simp only [List.getD_cons_zero, List.getD_cons_succ]
  have hfew := h.few
  rw [bin_lss, condW_dec]
  refine ⟨fun hlt => ?_, fun hge => ?_⟩
  · have hlt : i < a.length := by omega
    obtain ⟨x, hxi⟩ : ∃ x, a[i]? = some x := ⟨_, List.getElem?_eq_getElem hlt⟩
    refine h.at_old hx2 hxi fun cs hcs => ?_
    refine size_ref x (hcs.ext hx2) fun w3 hx3 => ?_
    have hx03 := hx2.trans hx3
    have e50 : decide ((50 : Int) < ((i : Nat) : Int)) = decide (50 < i) := by
      by_cases e : 50 < i
      · rw [decide_eq_true e, decide_eq_true (by omega)]
      · rw [decide_eq_false e, decide_eq_false (by omega)]
    simp only [bin_add, bin_gtr, isB_f, GdW_pure, List.getD_cons_zero, pick_gd_or]
    intro _ _
    rw [e50, condW_b]
    refine ⟨fun _ => hK false w3 hx03 (fun e => by cases e), fun hok => ?_⟩
    simp only [Bool.or_eq_false_iff, decide_eq_false_iff_not] at hok
    obtain ⟨⟨h2000, h4000⟩, h50⟩ := hok
    rw [up1 (by omega)]
    refine ⟨⟨i + 1, _, hlt, by omega, rfl, hx03, by omega, fun hg => ?_⟩, by simp only [Int.toNat_natCast]; omega⟩
    have e : a.take (i + 1) = a.take i ++ [x] := by rw [List.take_add_one, hxi]; rfl
    rw [e] at hg ⊢
    have hn := hgd fun y hy => hg y (List.mem_append_left _ hy)
    have hgx := hg x (by simp)
    simp only [goodM, Bool.and_eq_true, decide_eq_true_eq] at hgx
    have hc := (size_cnt 24 (Nat.le_refl _) x hgx.1.2).1 hgx.1.1
    rw [hc, hn, wrap_id (by omega) (by omega)]
    rw [List.map_append, List.sum_append]
    simp
  · obtain rfl : i = a.length := by omega
    rw [List.take_length] at hgd
    refine hK true w2 hx2 fun _ => ⟨hi51, fun hg => ?_⟩
    have := hgd hg
    omega
end
end Go.Proofs.YtdkikjcpgihjlaaGreatDoor

namespace Go.Proofs.YtdkikjcpgihjlaaGreatDoor
open Go Go.Eng Go.Num Go.RowKit
set_option maxRecDepth 100000
theorem pieces_flat (s : Str) : ∀ (n i : Nat), s.length ≤ i + n → (pieceM s n i).flatten = s.drop i
  | 0, i, h => by rw [List.drop_of_length_le (by omega)]; rfl
  | n + 1, i, h => by
    simp only [pieceM]
    have hp := step_pos s i
    by_cases hi : i < s.length
    · rw [if_pos hi, List.flatten_cons, pieces_flat s n (i + stepM s i) (by omega)]
      rw [← List.drop_drop, List.take_append_drop]
    · rw [if_neg hi, List.drop_of_length_le (by omega)]; rfl
theorem runes_flat (s : Str) : (runesM s).flatten = s := by
  unfold runesM
  rw [pieces_flat s _ 0 (by omega), List.drop_zero]
end Go.Proofs.YtdkikjcpgihjlaaGreatDoor
namespace Go.Proofs.YtdkikjcpgihjlaaGreatDoor
open Go Go.Eng Go.Num Go.RowKit
set_option maxRecDepth 100000
theorem dec_ne7 (u : Nat) : Lib.decDigits u ≠ [] := by
  rw [Lib.decDigits]
  split <;> simp
theorem dec_big7 (u : Nat) (h : 0 < u) : Lib.decDigits u = (if u / 10 = 0 then [] else Lib.decDigits (u / 10)) ++ [UInt8.ofNat (48 + u % 10)] := by
  rw [Lib.decDigits]
  split
  · rw [if_pos (by omega), Nat.mod_eq_of_lt (by omega)]; rfl
  · rw [if_neg (by omega)]
theorem dec_zero7 {u : Nat} (h : Lib.decDigits u = [48]) : u = 0 := by
  rw [Lib.decDigits] at h
  split at h
  · rename_i hu
    have := List.head_eq_of_cons_eq h
    have e := congrArg UInt8.toNat this
    rw [UInt8.toNat_ofNat'] at e
    have : (48 : UInt8).toNat = 48 := rfl
    omega
  · rename_i hu
    have := congrArg List.length h
    rw [List.length_append] at this
    have h0 : 0 < (Lib.decDigits (u / 10)).length := List.length_pos_iff.2 (dec_ne7 _)
    simp at this
    exact absurd this (dec_ne7 _)
theorem dec_len7 : ∀ (k u : Nat), u < 10 ^ k → (Lib.decDigits u).length ≤ k + 1 := by
  intro k
  induction k with
  | zero => intro u h; rw [Lib.decDigits, dif_pos (by omega)]; simp
  | succ k ih =>
    intro u h
    rw [Lib.decDigits]
    split
    · simp
    · have := ih (u / 10) (by rw [Nat.pow_succ] at h; omega)
      rw [List.length_append, List.length_singleton]; omega
section
variable [HX]
theorem signed_p7 {n : Int} {w : World} {K : Value → World → Prop} (hn : n ≠ 0) (h1 : -9223372036854775808 ≤ n) (h2 : n ≤ 9223372036854775807) (hK : K (str (Lib.itoa n)) w) : callF Tryz.prog 40 [.bool (decide (n < 0)), str (Lib.decDigits n.natAbs)] w K := by
  refine W40_ok ?_
  unfold W40
  have hne : Lib.decDigits n.natAbs ≠ [48] := fun e => by have := dec_zero7 e; omega
  unfold Lib.itoa at hK
  by_cases hneg : n < 0
  · rw [if_pos hneg] at hK
    rw [decide_eq_true hneg]
    refine GdW.look true (fun _ J hJ => ?_) fun g => ?_
    · rw [bin_sne, decide_eq_true hne]; exact hJ
    show condW (.bool true) _ _
    rw [condW_true, bin_sadd]
    have := dec_len7 19 n.natAbs (by omega)
    have em : IntKind.i64.max = 9223372036854775807 := by decide
    refine ⟨by rw [em]; simp only [List.length_cons, List.length_nil]; omega, ?_⟩
    exact hK
  · rw [if_neg hneg] at hK
    rw [decide_eq_false hneg]
    refine GdW.f fun g => ?_
    show condW (.bool false) _ _
    rw [condW_false]
    rw [show n.natAbs = n.toNat by omega]
    exact hK
theorem digits_ref7 {n : Int} {w : World} {K : Value → World → Prop} (h1 : -9223372036854775808 ≤ n) (h2 : n ≤ 9223372036854775807) (hK : ∀ w', Ext w w' → K (str (Lib.itoa n)) w') : callF Tryz.prog 19 [i64 n] w K := by
  refine W19_ok ?_
  unfold W19
  rw [bin_eql, condW_dec]
  refine ⟨fun h0 => ?_, fun h0 => ?_⟩
  · subst h0
    have e : Lib.itoa 0 = [48] := by unfold Lib.itoa; rw [if_neg (by decide), Lib.decDigits, dif_pos (by decide)]; rfl
    rw [e] at hK
    exact hK w (Chg.refl _ _)
  refine ⟨fun s w' => ∃ (m : Int) (out : Str), s = [str out, i64 m] ∧ Ext w w' ∧ (if m = 0 then [] else Lib.decDigits m.natAbs) ++ out = Lib.decDigits n.natAbs ∧ -9223372036854775808 ≤ m ∧ m ≤ 9223372036854775807,
    fun s _ => match s with | [_, .int _ i] => i.natAbs | _ => 0, ⟨n, [], rfl, Chg.refl _ _, by rw [if_neg h0, List.append_nil], h1, h2⟩, ?_⟩
  rintro s g w2 ⟨m, out, rfl, hx, he, hm1, hm2⟩
  simp only [List.getD_cons_zero, List.getD_cons_succ]
  rw [bin_neq, condW_dec]
  refine ⟨fun hne => ?_, fun he0 => ?_⟩
  · have hol : out.length ≤ 25 := by
      have := dec_len7 19 n.natAbs (by omega)
      rw [← he, List.length_append] at this
      omega
    rw [if_neg hne, dec_big7 _ (by omega), List.append_assoc] at he
    rw [bin_rem]
    refine ⟨by decide, ?_⟩
    have hd : (m.tmod 10).natAbs = m.natAbs % 10 := by rw [Int.natAbs_tmod]; rfl
    have hq : (m.tdiv 10).natAbs = m.natAbs / 10 := by rw [Int.natAbs_tdiv]; rfl
    refine JoinW.cut (fun s' w' => s' = [i64 ((m.natAbs % 10 : Nat) : Int)] ∧ w' = w2) ?_ ?_
    · rw [bin_lss, condW_dec]
      refine ⟨fun h => ?_, fun h => ?_⟩
      · rw [un_neg, wrap_id (by omega) (by omega), show 0 - m.tmod 10 = ((m.natAbs % 10 : Nat) : Int) by omega]
        exact ⟨rfl, rfl⟩
      · rw [show m.tmod 10 = ((m.natAbs % 10 : Nat) : Int) by omega]
        exact ⟨rfl, rfl⟩
    rintro s' g2 w3 ⟨rfl, rfl⟩
    simp only [List.getD_cons_zero]
    rw [bin_add, wrap_id (by omega) (by omega), cvt_int, show (48 : Int) + ((m.natAbs % 10 : Nat) : Int) = ((48 + m.natAbs % 10 : Nat) : Int) by omega, u8_wrap, Nat.mod_eq_of_lt (by omega)]
    refine row_u8 fun t w4 ht hx4 => ?_
    have hb : Byt w4 U8 t [UInt8.ofNat (48 + m.natAbs % 10)] := by
      have e1 : u8s [UInt8.ofNat (48 + m.natAbs % 10)] = [.int .u8 ((48 + m.natAbs % 10 : Nat) : Int)] := by
        simp only [u8s, List.map_cons, List.map_nil, UInt8.toNat_ofNat']
        rw [Nat.mod_eq_of_lt (by omega)]
      unfold Byt
      rw [e1]; exact ht
    rw [conv_bytes (l := [UInt8.ofNat (48 + m.natAbs % 10)]) (e := U8) (by kernel_rfl) (by kernel_rfl) (by kernel_rfl) hb, bin_sadd]
    have em : IntKind.i64.max = 9223372036854775807 := by decide
    refine ⟨by rw [em]; simp only [List.length_cons, List.length_nil]; omega, ?_⟩
    rw [bin_quo]
    refine ⟨by decide, ?_⟩
    rw [wrap_id (by omega) (by omega)]
    refine ⟨⟨m.tdiv 10, _, rfl, hx.trans hx4, ?_, by omega, by omega⟩, ?_⟩
    · rw [← he, ← hq]
      by_cases hz : m.tdiv 10 = 0
      · rw [if_pos hz, if_pos (by omega)]
      · rw [if_neg hz, if_neg (by omega)]
    · show (m.tdiv 10).natAbs < m.natAbs
      omega
  · have he0 : m = 0 := Classical.byContradiction he0
    rw [if_pos he0, List.nil_append] at he
    rw [bin_lss, he]
    exact signed_p7 h0 h1 h2 (hK w2 hx)
theorem int_ref7 {n : Int} {w : World} {K : Value → World → Prop} (h1 : -9223372036854775808 ≤ n) (h2 : n ≤ 9223372036854775807) (hK : ∀ w', Ext w w' → K (.agg (flat 3 false (Lib.itoa n)).toArray) w') : callF Tryz.prog 18 [i64 n] w K := by
  refine W18_ok ?_
  unfold W18
  refine alloc_new fun b w1 hb hz hbb hx => ?_
  refine digits_ref7 h1 h2 fun w2 hx2 => ?_
  simp only [wsv, wsg, wsh, wsl, cond_true, cond_false, exists_eq_left', Option.some.injEq, Option.isSome_some, List.getElem?_toArray, List.getElem?_cons_zero, List.getElem?_cons_succ, List.length_cons, List.length_nil, List.set_cons_zero, List.set_cons_succ, List.getD_cons_zero, List.getD_cons_succ, Nat.zero_add, Nat.add_zero, Nat.reduceAdd, Nat.reduceLT, Nat.lt_add_one, Nat.zero_lt_succ, decide_true, decide_false, ne_eq, reduceCtorEq]
  exact ret_agg (hx2.at hbb id) rfl rfl rfl fun w' hc => hK w' ((hx.trans hx2).new hc (by omega))
end
end Go.Proofs.YtdkikjcpgihjlaaGreatDoor

