/- One plain sentence: arguments that read as data, opened: slices of rows of k cells, bytes. Conditions: those that each law states. -/
import Derived.Test.YtonblcbpoilndaaGreatDoorLib3
import Derived.Deep.Slices
import Derived.DataReads
import Derived.ChangeArms
set_option linter.all false
set_option linter.unusedSimpArgs false
set_option linter.unusedVariables false
set_option linter.unusedSectionVars false
namespace Go.Eng
open Go Go.Deep

theorem flat_get {k : Nat} : ∀ (L : List (List Value)) (i r : Nat) (y : List Value), (∀ z ∈ L, z.length = k) → r < k → L[i]? = some y → L.flatten[i * k + r]? = y[r]?
  | [], i, _, _, _, _, h => by simp at h
  | z :: L, 0, r, y, hl, hr, h => by
    simp only [List.getElem?_cons_zero, Option.some.injEq] at h
    subst h
    simp only [List.flatten_cons, Nat.zero_mul, Nat.zero_add]
    rw [List.getElem?_append_left (by rw [hl z List.mem_cons_self]; exact hr)]
  | z :: L, i + 1, r, y, hl, hr, h => by
    simp only [List.getElem?_cons_succ] at h
    have := flat_get L i r y (fun u hu => hl u (List.mem_cons_of_mem _ hu)) hr h
    rw [← this]
    simp only [List.flatten_cons]
    have hz := hl z List.mem_cons_self
    rw [List.getElem?_append_right (by rw [hz, Nat.add_mul]; omega)]
    congr 1
    rw [hz, Nat.add_mul]
    omega
theorem flat_len {k : Nat} : ∀ (L : List (List Value)), (∀ z ∈ L, z.length = k) → L.flatten.length = L.length * k
  | [], _ => by simp
  | z :: L, hl => by
    rw [List.flatten_cons, List.length_append, flat_len L fun u hu => hl u (List.mem_cons_of_mem _ hu), hl z List.mem_cons_self, List.length_cons, Nat.add_mul]
    omega

section
variable {H : Type} {enc : TypeId × Value → H} {P : Program} {w : World} {base : Nat} {spare : Nat → Bool} {held : Bool}

/-- a slice of rows of k cells -/
theorem open_rows {t e : TypeId} {k fuel : Nat} {v : Value} {d : DataW H} {ps : List MemPlace} (ht : P.underlying t = some (.slice e)) (hk : P.cellsOf e = k) (hk0 : 0 < k) (h : DataW.trod enc P w base spare held fuel t [v] = some (d, ps)) :
    ∃ p n c T m, ∃ (f : Nat → List Value) (D : Nat → DataW H) (Pl : Nat → List MemPlace), v = .slice p n c ∧ SlAt w T (.slice p n c) n ((List.range n).map f).flatten ∧
      (∀ i, i < n → (f i).length = k ∧ DataW.trod enc P w base spare held m e (f i) = some (D i, Pl i)) ∧ ((n = 0 ∧ d = .nil) ∨ ∃ rest, d = .slice ((List.range n).map D) rest) := by
  rcases open_slice ht h with ⟨hc, hx⟩ | ⟨a, len, cap, m, n, D, Pl, hc, _, hl, hm, hme, hx, hel⟩
  · cases hc
    cases hx
    refine ⟨none, 0, 0, 0, 0, fun _ => [], fun _ => .nil, fun _ => [], rfl, ?_, fun i hi => by omega, .inl ⟨rfl, rfl⟩⟩
    simpa using SlAt.nil w 0
  · cases hc
    cases hx
    have hlm : len ≤ m := by rw [hme]; split <;> omega
    obtain ⟨f, hf⟩ := choose_lt (n := len) fun i hi => hel i (by omega)
    have hfl : ∀ i, i < len → (f i).length = k := fun i hi => by rw [(World.cells?_some (hf i hi).1).2.1, hk]
    have hall : ∀ z ∈ (List.range len).map f, z.length = k := by
      intro z hz
      obtain ⟨i, hi, rfl⟩ := List.mem_map.1 hz
      exact hfl i (List.mem_range.1 hi)
    have hcell : ∀ i r, i < len → r < k → w.cell? (a.add (i * k + r)) = (f i)[r]? := by
      intro i r hi hr
      have := (World.cells?_some (hf i hi).1).2.2 r (by omega)
      rw [add_add, hk] at this
      exact this
    by_cases h0 : len = 0
    · subst h0
      refine ⟨some a, 0, cap, 0, n, f, D, Pl, rfl, ⟨some a, cap, rfl, Nat.zero_le _, (by intro e; cases e), (by simp)⟩, fun i hi => by omega, .inr ⟨_, rfl⟩⟩
    have h00 := hcell 0 0 (by omega) hk0
    have hf0 := hfl 0 (by omega)
    rw [List.getElem?_eq_getElem (by omega)] at h00
    obtain ⟨c, T, fr, hb, hsp⟩ : ∃ c T fr, w.heap[a.block]? = some (.cells c T fr) ∧ a.spot = none := by
      unfold World.cell? at h00
      have e1 : (a.add (0 * k + 0)).block = a.block := by unfold Addr.add; split <;> rfl
      have e2 : (a.add (0 * k + 0)) = a := by unfold Addr.add; simp
      rw [e2] at h00
      split at h00
      · rename_i c T fr hb
        refine ⟨c, T, fr, hb, ?_⟩
        cases hs : a.spot with
        | none => rfl
        | some _ => simp [hs] at h00
      · cases h00
    obtain ⟨b, off, sp⟩ := a
    simp only at hsp hb
    subst hsp
    refine ⟨some ⟨b, off, none⟩, len, cap, T, n, f, D, Pl, rfl, ⟨_, _, rfl, hl, (by intro e; cases e), fun _ => ⟨b, off, c, fr, rfl, hb, fun j hj => ?_⟩⟩, fun i hi => ⟨hfl i hi, (hf i hi).2⟩, .inr ⟨_, rfl⟩⟩
    rw [flat_len _ hall, List.length_map, List.length_range] at hj
    have hi : j / k < len := by rw [Nat.div_lt_iff_lt_mul hk0]; exact hj
    have hr : j % k < k := Nat.mod_lt _ hk0
    have hjj : j / k * k + j % k = j := by rw [Nat.mul_comm]; exact Nat.div_add_mod j k
    have h1 := hcell (j / k) (j % k) hi hr
    rw [hjj, add_mk, cell_eq, hb, cellO_some] at h1
    have h2 := flat_get ((List.range len).map f) (j / k) (j % k) (f (j / k)) hall hr (by simp [hi])
    rw [hjj] at h2
    rw [h1, h2]

/-- bytes -/
theorem open_byt {t e : TypeId} {fuel : Nat} {v : Value} {d : DataW H} {ps : List MemPlace} (ht : P.underlying t = some (.slice e)) (he : P.underlying e = some (.int .u8)) (hk : P.cellsOf e = 1) (h : DataW.trod enc P w base spare held fuel t [v] = some (d, ps)) :
    ∃ p c T l, v = .slice p l.length c ∧ Byt w T (.slice p l.length c) l ∧ ((l = [] ∧ d = .nil) ∨ ∃ ds rest, d = .slice ds rest ∧ ds.length = l.length) := by
  obtain ⟨p, n, c, T, m, f, D, Pl, rfl, hs, hf, hd⟩ := open_rows ht hk (by omega) h
  have hex : ∀ i, i < n → ∃ b : UInt8, f i = [.int .u8 b.toNat] := by
    intro i hi
    obtain ⟨x, hx, _, hw⟩ := DataW.trod_int he (hf i hi).2
    have h2 : 0 ≤ x ∧ x ≤ 255 := by simpa [Lit.wf, IntKind.min, IntKind.max, IntKind.signed, IntKind.bits] using hw
    refine ⟨UInt8.ofNat x.toNat, ?_⟩
    rw [hx]
    have : (UInt8.ofNat x.toNat).toNat = x.toNat := by simp [UInt8.toNat_ofNat']; omega
    rw [this, Int.toNat_of_nonneg h2.1]
  obtain ⟨g, hg⟩ := choose_lt hex
  have hfl : ((List.range n).map f).flatten = u8s ((List.range n).map g) := by
    have : (List.range n).map f = (List.range n).map fun i => [Value.int .u8 (g i).toNat] := List.map_congr_left fun i hi => hg i (List.mem_range.1 hi)
    rw [this]
    simp only [u8s, List.map_map]
    generalize List.range n = L
    induction L with
    | nil => rfl
    | cons a L ih => simp only [List.map_cons, List.flatten_cons, ih, Function.comp_apply]; rfl
  rw [hfl] at hs
  have hlen : ((List.range n).map g).length = n := by simp
  refine ⟨p, c, T, (List.range n).map g, by rw [hlen], ?_, ?_⟩
  · simp only [Byt, hlen]; exact hs
  · rcases hd with ⟨rfl, hd⟩ | ⟨rest, hd⟩
    · exact .inl ⟨rfl, hd⟩
    · exact .inr ⟨_, rest, hd, by simp⟩

/-- ints -/
theorem open_i64s {t e : TypeId} {fuel : Nat} {v : Value} {d : DataW H} {ps : List MemPlace} (ht : P.underlying t = some (.slice e)) (he : P.underlying e = some (.int .i64)) (hk : P.cellsOf e = 1) (h : DataW.trod enc P w base spare held fuel t [v] = some (d, ps)) :
    ∃ (T : TypeId) (l : List Int), SlAt w T v l.length (l.map i64) := by
  obtain ⟨p, n, c, T, m, f, D, Pl, rfl, hs, hf, hd⟩ := open_rows ht hk (by omega) h
  have hex : ∀ i, i < n → ∃ b : Int, f i = [i64 b] := by
    intro i hi
    obtain ⟨x, hx, _, hw⟩ := DataW.trod_int he (hf i hi).2
    exact ⟨x, hx⟩
  obtain ⟨g, hg⟩ := choose_lt hex
  have hfl : ((List.range n).map f).flatten = ((List.range n).map g).map i64 := by
    have : (List.range n).map f = (List.range n).map fun i => [i64 (g i)] := List.map_congr_left fun i hi => hg i (List.mem_range.1 hi)
    rw [this]
    simp only [List.map_map]
    generalize List.range n = L
    induction L with
    | nil => rfl
    | cons a L ih => simp only [List.map_cons, List.flatten_cons, ih, Function.comp_apply]; rfl
  rw [hfl] at hs
  exact ⟨T, (List.range n).map g, by simpa using hs⟩
end
end Go.Eng
