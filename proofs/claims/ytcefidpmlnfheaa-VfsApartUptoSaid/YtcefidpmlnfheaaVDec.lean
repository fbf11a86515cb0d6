/- One plain sentence: a script that reads as data, opened. Conditions: its bulk is at most 1048576. -/
import Derived.Test.YtcefidpmlnfheaaDec
import Derived.Test.YtcefidpmlnfheaaVPlays
import Derived.Test.YtcefidpmlnfheaaRows
set_option linter.all false
set_option linter.unusedSimpArgs false
set_option linter.unusedVariables false
set_option linter.unusedSectionVars false
namespace Go.Proofs.Ytcefidpmlnfheaa
open Go Go.Eng Go.Vfs Go.Deep
set_option maxRecDepth 100000

theorem bulk_mem {H : Type} : ∀ (l : List (DataW H)) (d : DataW H), d ∈ l → Rows.uptoBulk d ≤ Rows.uptoBulkAll l
  | [], d, h => by cases h
  | x :: r, d, h => by
    rcases List.mem_cons.1 h with rfl | h
    · simp only [Rows.uptoBulkAll]; omega
    · have := bulk_mem r d h; simp only [Rows.uptoBulkAll]; omega
theorem bulk_pos {H : Type} (d : DataW H) : 1 ≤ Rows.uptoBulk d := by
  cases d with
  | lit l => cases l <;> simp [Rows.uptoBulk]
  | _ => simp [Rows.uptoBulk]
theorem bulk_len {H : Type} : ∀ (l : List (DataW H)), l.length ≤ Rows.uptoBulkAll l
  | [] => Nat.zero_le _
  | x :: r => by have := bulk_len r; have := bulk_pos x; simp only [Rows.uptoBulkAll, List.length_cons]; omega

theorem open_op {H : Type} {enc : TypeId × Value → H} {w : World} {base fuel : Nat} {spare : Nat → Bool} {held : Bool} {cs : List Value} {d : DataW H} {ps : List MemPlace} (h : DataW.trod enc Try.prog w base spare held fuel 48 cs = some (d, ps)) (hb : Rows.uptoBulk d ≤ 1048576) :
    ∃ dp dc o T, cs = ol dp dc o ∧ Byt w T (.slice dp o.data.length dc) o.data ∧ OpOk o := by
  obtain ⟨xs, n, _, hx, hl, hlen, hf⟩ := DataW.trod_struct Try.underlying48 h
  have hc6 : Try.prog.cellsOf 48 = 6 := by kernel_rfl
  have k3 : Try.prog.cellsOf 3 = 1 := by kernel_rfl
  have k9 : Try.prog.cellsOf 9 = 1 := by kernel_rfl
  have k27 : Try.prog.cellsOf 27 = 1 := by kernel_rfl
  rw [hc6] at hl
  match cs, hl with
  | [c0, c1, c2, c3, c4, c5], _ =>
    match xs, hlen with
    | [x0, x1, x2, x3, x4, x5], _ =>
      have f0 := hf 0 _ rfl
      have f1 := hf 1 _ rfl
      have f2 := hf 2 _ rfl
      have f3 := hf 3 _ rfl
      have f4 := hf 4 _ rfl
      have f5 := hf 5 _ rfl
      simp only [k3, k9, k27, List.drop_zero, List.drop_succ_cons, List.take_succ_cons, List.take_zero, List.getElem?_cons_zero, List.getElem?_cons_succ] at f0 f1 f2 f3 f4 f5
      obtain ⟨a0, e0, _, _⟩ := DataW.trod_int Try.underlying3 f0
      obtain ⟨s1, e1, y1, b1⟩ := DataW.trod_string Try.underlying9 f1
      obtain ⟨s2, e2, y2, b2⟩ := DataW.trod_string Try.underlying9 f2
      obtain ⟨d3, p3⟩ := x3
      obtain ⟨p, c, T, l, rfl, hbyt, hd3⟩ := open_byt (H := H) Try.underlying27 Try.underlying5 (by kernel_rfl) f3
      obtain ⟨a4, e4, _, _⟩ := DataW.trod_int Try.underlying3 f4
      obtain ⟨a5, e5, _, _⟩ := DataW.trod_int Try.underlying3 f5
      cases e0; cases e1; cases e2; cases e4; cases e5
      simp only [maxLen] at b1 b2
      have hd : d = .agg [x0.1, x1.1, x2.1, d3, x4.1, x5.1] := by have := congrArg Prod.fst hx; simpa using this
      have hdb : Rows.uptoBulk d3 ≤ 1048576 := by
        rw [hd] at hb
        simp only [Rows.uptoBulk] at hb
        have := bulk_mem [x0.1, x1.1, x2.1, d3, x4.1, x5.1] d3 (by simp)
        omega
      have hlb : l.length ≤ 1048576 := by
        rcases hd3 with ⟨rfl, _⟩ | ⟨ds, rest, rfl, hds⟩
        · simp
        · simp only [Rows.uptoBulk] at hdb
          have := bulk_len ds
          omega
      refine ⟨p, c, ⟨a0, s1.data.toList, s2.data.toList, l, a4, a5⟩, T, ?_, hbyt, ⟨?_, ?_, ?_⟩⟩
      · have q1 : ofL s1.data.toList = s1 := by apply ByteArray.ext; simp [ofL]
        have q2 : ofL s2.data.toList = s2 := by apply ByteArray.ext; simp [ofL]
        simp only [ol, str, q1, q2]
      · show s1.data.toList.length ≤ _
        have : s1.data.toList.length = s1.size := by rw [Array.length_toList]; rfl
        rw [this]; omega
      · show s2.data.toList.length ≤ _
        have : s2.data.toList.length = s2.size := by rw [Array.length_toList]; rfl
        rw [this]; omega
      · show l.length ≤ _; omega

theorem open_script {H : Type} {enc : TypeId × Value → H} {w : World} {base fuel : Nat} {spare : Nat → Bool} {held : Bool} {v : Value} {d : DataW H} {ps : List MemPlace} (h : DataW.trod enc Try.prog w base spare held fuel 34 [v] = some (d, ps)) (hb : Rows.uptoBulk d ≤ 1048576) :
    ∃ l, ScrV w v l := by
  obtain ⟨p, n, c, T, m, f, D, Pl, rfl, hs, hf, hd⟩ := open_rows (k := 6) Try.underlying34 (by kernel_rfl) (by omega) h
  have hDb : ∀ i, i < n → Rows.uptoBulk (D i) ≤ 1048576 := by
    intro i hi
    rcases hd with ⟨rfl, _⟩ | ⟨rest, rfl⟩
    · omega
    · simp only [Rows.uptoBulk] at hb
      have := bulk_mem ((List.range n).map D) (D i) (List.mem_map.2 ⟨i, List.mem_range.2 hi, rfl⟩)
      omega
  have hex : ∀ i, i < n → ∃ y : Option Addr × Nat × OpM, f i = ol y.1 y.2.1 y.2.2 ∧ (∃ T, Byt w T (.slice y.1 y.2.2.data.length y.2.1) y.2.2.data) ∧ OpOk y.2.2 := by
    intro i hi
    obtain ⟨dp, dc, o, T, e1, e2, e3⟩ := open_op (hf i hi).2 (hDb i hi)
    exact ⟨(dp, dc, o), e1, ⟨T, e2⟩, e3⟩
  haveI : Inhabited (Option Addr × Nat × OpM) := ⟨(none, 0, ⟨0, [], [], [], 0, 0⟩)⟩
  obtain ⟨g, hg⟩ := choose_lt hex
  have hlen : ((List.range n).map g).length = n := by simp
  refine ⟨(List.range n).map g, ⟨T, ?_⟩, ?_⟩
  · rw [hlen]
    have : ocs ((List.range n).map g) = ((List.range n).map f).flatten := by
      have : (List.range n).map f = (List.range n).map fun i => ol (g i).1 (g i).2.1 (g i).2.2 := List.map_congr_left fun i hi => (hg i (List.mem_range.1 hi)).1
      rw [this]
      simp only [ocs, List.flatMap_map]
      rw [List.flatMap_def]
    rw [this]
    exact hs
  · intro y hy
    obtain ⟨i, hi, rfl⟩ := List.mem_map.1 hy
    exact (hg i (List.mem_range.1 hi)).2
end Go.Proofs.Ytcefidpmlnfheaa
