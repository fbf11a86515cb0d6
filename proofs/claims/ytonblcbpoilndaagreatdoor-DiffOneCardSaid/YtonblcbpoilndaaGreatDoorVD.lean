/- One plain sentence: arguments of the program's laws, opened: a value of any depth, and two truths. Conditions: those that each states. -/
import Derived.Test.YtonblcbpoilndaaGreatDoorVL4
import Derived.Test.YtonblcbpoilndaaGreatDoorDec
import Derived.OpenShut
set_option linter.all false
set_option linter.unusedSimpArgs false
set_option linter.unusedVariables false
set_option linter.unusedSectionVars false
namespace Go.Proofs.YtonblcbpoilndaaGreatDoor
open Go Go.Eng Go.Num Go.Deep
set_option maxRecDepth 100000
instance : Inhabited JV := ⟨JV.null⟩
theorem vreps_map {w : World} {X : Nat → JV} {f : Nat → List Value} : ∀ (l : List Nat), (∀ i ∈ l, VRep w (X i) (f i)) → VReps w (l.map X) (l.map f).flatten
  | [], _ => by simp [VReps]
  | i :: l, h => by
    simp only [List.map_cons, List.flatten_cons, VReps]
    exact ⟨_, _, rfl, h i List.mem_cons_self, vreps_map l fun j hj => h j (List.mem_cons_of_mem _ hj)⟩
section
variable {H : Type} {enc : TypeId × Value → H} {w : World} {base : Nat} {spare : Nat → Bool} {held : Bool}
theorem open_len {P : Program} {t e : TypeId} {fuel : Nat} {p : Option Addr} {n c : Nat} {x : DataW H × List MemPlace} (ht : P.underlying t = some (.slice e)) (h : DataW.trod enc P w base spare held fuel t [.slice p n c] = some x) : n ≤ 9223372036854775807 := by
  rcases Deep.open_slice ht h with ⟨hc, _⟩ | ⟨a, len, cap, m, n', D, Pl, hc, _, hl, hm, _⟩
  · cases hc; omega
  · cases hc; unfold maxLen at hm; omega
theorem open_texts {P : Program} {t e : TypeId} {fuel : Nat} {v : Value} {d : DataW H} {ps : List MemPlace} (ht : P.underlying t = some (.slice e)) (he : P.underlying e = some .string) (hk : P.cellsOf e = 1) (h : DataW.trod enc P w base spare held fuel t [v] = some (d, ps)) :
    ∃ (T : TypeId) (l : List Str), SlAt w T v l.length (l.map str) ∧ l.length ≤ 9223372036854775807 ∧ ∀ s ∈ l, s.length ≤ 9223372036854775807 := by
  obtain ⟨p, n, c, T, m, f, D, Pl, rfl, hs, hf, hd⟩ := open_rows ht hk (by omega) h
  have hn := open_len ht h
  have hex : ∀ i, i < n → ∃ b : Str, f i = [str b] ∧ b.length ≤ 9223372036854775807 := by
    intro i hi
    obtain ⟨s, hx, _, hw⟩ := DataW.trod_string he (hf i hi).2
    refine ⟨s.data.toList, by rw [hx]; simp [ofL], ?_⟩
    unfold maxLen at hw
    simpa using hw
  obtain ⟨g, hg⟩ := choose_lt hex
  have hfl : ((List.range n).map f).flatten = ((List.range n).map g).map str := by
    have : (List.range n).map f = (List.range n).map fun i => [str (g i)] := List.map_congr_left fun i hi => (hg i (List.mem_range.1 hi)).1
    rw [this]
    simp only [List.map_map]
    generalize List.range n = L
    induction L with
    | nil => rfl
    | cons a L ih => simp only [List.map_cons, List.flatten_cons, ih, Function.comp_apply]; rfl
  rw [hfl] at hs
  refine ⟨T, (List.range n).map g, by simpa using hs, by simpa using hn, fun s hs => ?_⟩
  obtain ⟨i, hi, rfl⟩ := List.mem_map.1 hs
  exact (hg i (List.mem_range.1 hi)).2
theorem open_val : ∀ (N fuel : Nat) (cs : List Value) (d : DataW H) (ps : List MemPlace), SizeOf.sizeOf d < N → DataW.trod enc Tryz.prog w base spare held fuel VT cs = some (d, ps) → ∃ v : JV, VRep w v cs
  | 0, _, _, _, _, h, _ => by omega
  | N + 1, fuel, cs, d, ps, hN, h => by
    obtain ⟨xs, n, hn, hx, hl, hlen, hf⟩ := DataW.trod_struct Tryz.underlying49 h
    have hl5 : cs.length = 5 := hl.trans (show Tryz.prog.cellsOf VT = 5 by kernel_rfl)
    have k0 : Tryz.prog.cellsOf 46 = 1 := by kernel_rfl
    have k1 : Tryz.prog.cellsOf 4 = 1 := by kernel_rfl
    have k2 : Tryz.prog.cellsOf 9 = 1 := by kernel_rfl
    have k3 : Tryz.prog.cellsOf 47 = 1 := by kernel_rfl
    have k4 : Tryz.prog.cellsOf 33 = 1 := by kernel_rfl
    match cs, hl5 with
    | [c0, c1, c2, c3, c4], _ =>
    have f0 : DataW.trod enc Tryz.prog w base spare held n 46 (([c0, c1, c2, c3, c4].drop 0).take (Tryz.prog.cellsOf 46)) = xs[0]? := hf 0 _ rfl
    rw [k0] at f0
    have f0 : DataW.trod enc Tryz.prog w base spare held n 46 [c0] = xs[0]? := f0
    have f1 : DataW.trod enc Tryz.prog w base spare held n 4 (([c0, c1, c2, c3, c4].drop 1).take (Tryz.prog.cellsOf 4)) = xs[1]? := hf 1 _ rfl
    rw [k1] at f1
    have f1 : DataW.trod enc Tryz.prog w base spare held n 4 [c1] = xs[1]? := f1
    have f2 : DataW.trod enc Tryz.prog w base spare held n 9 (([c0, c1, c2, c3, c4].drop 2).take (Tryz.prog.cellsOf 9)) = xs[2]? := hf 2 _ rfl
    rw [k2] at f2
    have f2 : DataW.trod enc Tryz.prog w base spare held n 9 [c2] = xs[2]? := f2
    have f3 : DataW.trod enc Tryz.prog w base spare held n 47 (([c0, c1, c2, c3, c4].drop 3).take (Tryz.prog.cellsOf 47)) = xs[3]? := hf 3 _ rfl
    rw [k3] at f3
    have f3 : DataW.trod enc Tryz.prog w base spare held n 47 [c3] = xs[3]? := f3
    have f4 : DataW.trod enc Tryz.prog w base spare held n 33 (([c0, c1, c2, c3, c4].drop 4).take (Tryz.prog.cellsOf 33)) = xs[4]? := hf 4 _ rfl
    rw [k4] at f4
    have f4 : DataW.trod enc Tryz.prog w base spare held n 33 [c4] = xs[4]? := f4
    have hlen : xs.length = 5 := hlen
    match xs, hlen with
    | [y0, y1, y2, y3, y4], _ =>
    simp only [List.getElem?_cons_zero, List.getElem?_cons_succ] at f0 f1 f2 f3 f4
    obtain ⟨a0, h0, _, _⟩ := DataW.trod_int Tryz.underlying46 f0
    obtain ⟨a1, h1, _⟩ := DataW.trod_bool Tryz.underlying4 f1
    obtain ⟨a2, h2, _, w2⟩ := DataW.trod_string Tryz.underlying9 f2
    obtain ⟨T4, ks, h4, l4, b4⟩ := open_texts Tryz.underlying33 Tryz.underlying9 k2 f4
    obtain ⟨p, m, c, T3, m3, f, D, Pl, rfl, h3, hel, hd⟩ := open_rows (k := 5) Tryz.underlying47 (by kernel_rfl) (by omega) f3
    have l3 := open_len Tryz.underlying47 f3
    cases h0; cases h1; cases h2
    have hd3 : SizeOf.sizeOf y3.1 < SizeOf.sizeOf d := by
      have : d = .agg [y0.1, y1.1, y2.1, y3.1, y4.1] := by cases hx; rfl
      rw [this]
      simp
      omega
    have each : ∀ i, i < m → ∃ v : JV, VRep w v (f i) := fun i hi => by
      refine open_val N m3 (f i) (D i) (Pl i) ?_ (hel i hi).2
      rcases hd with ⟨e, _⟩ | ⟨rest, e⟩
      · omega
      · have hmem : D i ∈ (List.range m).map D := List.mem_map.2 ⟨i, List.mem_range.2 hi, rfl⟩
        have h1 := List.sizeOf_lt_of_mem hmem
        rw [e] at hd3
        simp at hd3
        omega
    obtain ⟨X, hX⟩ := choose_lt each
    have hreps : VReps w ((List.range m).map X) ((List.range m).map f).flatten := vreps_map _ fun i hi => hX i (List.mem_range.1 hi)
    have ea : (Value.string a2) = str a2.data.toList := by simp [ofL]
    rw [ea]
    refine ⟨.mk a0 a1 a2.data.toList ((List.range m).map X) ks, VRep.mk (v := .mk a0 a1 a2.data.toList ((List.range m).map X) ks) (by simpa [JV.xs] using h3) hreps h4 ⟨by simpa [JV.xs] using l3, l4, ?_, b4⟩⟩
    unfold maxLen at w2
    simpa [JV.t] using w2
theorem open_v {v : Value} {d : DataW H} {ps : List MemPlace} {r : Reach} {b0 : Nat} (hval : Value.okWide Tryz.prog w r b0 VT v) (h : DataW.Trod enc Tryz.prog w base spare held VT v d ps) : ∃ (j : JV) (cs : List Value), v = .agg cs.toArray ∧ VRep w j cs := by
  obtain ⟨fuel, hf⟩ := h
  obtain ⟨j, hj⟩ := open_val _ fuel _ d ps (Nat.lt_succ_self _) hf
  have hl := hj.len
  refine ⟨j, v.cells.toList, ?_, hj⟩
  cases v with
  | agg a => simp [Value.cells]
  | _ => simp [Value.cells] at hl
theorem open_two {v : Value} {d : DataW H} {ps : List MemPlace} (h : DataW.Trod enc Tryz.prog w base spare held 45 v d ps) : ∃ x y : Bool, v = .agg #[.bool x, .bool y] := by
  obtain ⟨fuel, hf⟩ := h
  obtain ⟨xs, m, _, hx, hl, hlen, hel⟩ := DataW.trod_array Tryz.underlying45 hf
  have hl2 : v.cells.toList.length = 2 := hl.trans (show Tryz.prog.cellsOf 45 = 2 by kernel_rfl)
  have k1 : Tryz.prog.cellsOf 4 = 1 := by kernel_rfl
  have e0 := hel 0 (by omega)
  have e1 := hel 1 (by omega)
  match xs, hlen with
  | [y0, y1], _ =>
  cases v with
  | agg a =>
    obtain ⟨l⟩ := a
    simp only [Value.cells] at hl2 e0 e1
    match l, hl2 with
    | [c0, c1], _ =>
    simp only [k1, Nat.mul_one, List.drop_zero, List.drop_succ_cons, List.take_succ_cons, List.take_zero, List.getElem?_cons_zero, List.getElem?_cons_succ] at e0 e1
    obtain ⟨b0, h0, _⟩ := DataW.trod_bool Tryz.underlying4 e0
    obtain ⟨b1, h1, _⟩ := DataW.trod_bool Tryz.underlying4 e1
    cases h0; cases h1
    exact ⟨b0, b1, rfl⟩
  | _ => simp [Value.cells] at hl2
end
end Go.Proofs.YtonblcbpoilndaaGreatDoor
