/- One plain sentence: laws on slices: what is read, what append leaves, bytes and texts. Conditions: those that each law states. -/
import Derived.Test.YtonblcbpoilndaaGreatDoorLib1
import Derived.Laws.AppendOwn
import Derived.Laws.BytesArg
set_option linter.all false
set_option linter.unusedSimpArgs false
set_option linter.unusedVariables false
set_option linter.unusedSectionVars false
namespace Go.Eng
open Go

/-- 'e' is the element's type of the slice type 't': 'size' cells, 'bytes' bytes -/
structure ElemT (P : Program) (t e : TypeId) (size bytes : Nat) : Prop where
  und : P.underlying t = some (.slice e)
  info : (P.info? e).map (fun i => (i.zero.map (·.cells.size), i.size, i.bytes)) = some (some size, size, bytes)
  pos : 0 < size

theorem ElemT.get {P : Program} {t e : TypeId} {size bytes : Nat} (h : ElemT P t e size bytes) : ∃ i z, P.info? e = some i ∧ i.zero = some z ∧ i.size = size ∧ i.bytes = bytes ∧ z.cells.size = size := by
  have hi := h.info
  cases hx : P.info? e with
  | none => rw [hx] at hi; cases hi
  | some i =>
    rw [hx] at hi
    simp only [Option.map_some, Option.some.injEq, Prod.mk.injEq] at hi
    obtain ⟨h1, h2, h3⟩ := hi
    cases hz : i.zero with
    | none => rw [hz] at h1; cases h1
    | some z =>
      rw [hz] at h1
      exact ⟨i, z, rfl, hz, h2, h3, by simpa using h1⟩

/-- slice v holds n elements, whose cells are cs, in a block of elements of type T -/
def SlAt (w : World) (T : TypeId) (v : Value) (n : Nat) (cs : List Value) : Prop :=
  ∃ p cap, v = .slice p n cap ∧ n ≤ cap ∧ (p = none → n = 0 ∧ cap = 0) ∧ (cs ≠ [] → ∃ b off c fr, p = some ⟨b, off, none⟩ ∧ w.heap[b]? = some (.cells c T fr) ∧ ∀ i, i < cs.length → c[off + i]? = cs[i]?)

theorem SlAt.nil (w : World) (T : TypeId) : SlAt w T (.slice none 0 0) 0 [] := ⟨none, 0, rfl, Nat.le_refl _, fun _ => ⟨rfl, rfl⟩, fun h => absurd rfl h⟩

theorem SlAt.chg {S : Nat → Prop} {w w' : World} {T : TypeId} {v : Value} {n : Nat} {cs : List Value} (h : SlAt w T v n cs) (hc : Chg S w w')
    (hS : ∀ k c fr, S k → w.heap[k]? ≠ some (.cells c T fr)) : SlAt w' T v n cs := by
  obtain ⟨p, cap, hv, h1, h2, h3⟩ := h
  refine ⟨p, cap, hv, h1, h2, fun hne => ?_⟩
  obtain ⟨b, off, c, fr, hp, hb, hcs⟩ := h3 hne
  have hlt : b < w.heap.size := (Array.getElem?_eq_some_iff.1 hb).1
  exact ⟨b, off, c, fr, hp, by rw [hc.heap b hlt fun e => hS b c fr e hb]; exact hb, hcs⟩
theorem SlAt.ext {w w' : World} {T : TypeId} {v : Value} {n : Nat} {cs : List Value} (h : SlAt w T v n cs) (hc : Ext w w') : SlAt w' T v n cs :=
  h.chg hc fun _ _ _ e => e.elim

theorem SlAt.shape {w : World} {T : TypeId} {v : Value} {n : Nat} {cs : List Value} (h : SlAt w T v n cs) : ∃ p cap, v = .slice p n cap ∧ n ≤ cap := by
  obtain ⟨p, cap, hv, h1, _⟩ := h
  exact ⟨p, cap, hv, h1⟩

theorem lenl_at {w : World} {T : TypeId} {v : Value} {n : Nat} {cs : List Value} (h : SlAt w T v n cs) (K : Value → Prop) : lenlW v K ↔ K (i64 n) := by
  obtain ⟨p, cap, rfl, _⟩ := h.shape
  exact Iff.rfl

/-- the address of element i -/
theorem ixa_at {w : World} {T : TypeId} {v : Value} {n size : Nat} {cs : List Value} {k : IntKind} {i : Nat} {K : Value → Prop} (h : SlAt w T v n cs) (hl : cs.length = n * size) (hs : 0 < size) (hi : i < n)
    (hK : ∀ b o c fr, w.heap[b]? = some (.cells c T fr) → (∀ j, j < size → c[o + j]? = cs[i * size + j]?) → K (.pointer (some ⟨b, o, none⟩))) : ixaW none size v (.int k i) K := by
  obtain ⟨p, cap, rfl, h1, _, h3⟩ := h
  have hlt : i * size + size ≤ n * size := by rw [← Nat.succ_mul]; exact Nat.mul_le_mul_right _ hi
  obtain ⟨b, off, c, fr, rfl, hb, hcs⟩ := h3 (fun e => by rw [e] at hl; simp at hl; omega)
  refine ⟨Int.natCast_nonneg _, by omega, ?_⟩
  rw [add_mk, Int.toNat_natCast]
  exact hK b _ c fr hb fun j hj => by rw [show off + i * size + j = off + (i * size + j) by omega]; exact hcs _ (by omega)

/-- .. and its one cell -/
theorem ixa_ld {w : World} {T : TypeId} {v : Value} {n : Nat} {cs : List Value} {k : IntKind} {i : Nat} {x : Value} {K : Value → Prop} (h : SlAt w T v n cs) (hl : cs.length = n) (hi : cs[i]? = some x) (hK : K x) :
    ixaW none 1 v (.int k i) fun t => ldW false 1 t w K := by
  have hi' : i < cs.length := (List.getElem?_eq_some_iff.1 hi).1
  refine ixa_at (size := 1) h (by omega) (by omega) (by omega) fun b o c fr hb hc => ?_
  refine ⟨x, ?_, hK⟩
  rw [cell_eq, hb, cellO_some]
  have := hc 0 (by omega)
  simpa [hi] using this

/-- what the call owns -/
abbrev Own (w : World) (base : Nat) (e : TypeId) (size : Nat) (v : Value) (n : Nat) (xs : List Value) : Prop := w.ownsRow base e size v n xs

theorem Own.sl {w : World} {base : Nat} {e : TypeId} {size : Nat} {v : Value} {n : Nat} {xs : List Value} (h : Own w base e size v n xs) : SlAt w e v n xs := by
  obtain ⟨hl, ⟨rfl, rfl⟩ | ⟨g, cap, cur, rfl, _, hg, h1, _, h2, h3⟩⟩ := h
  · have : xs = [] := List.eq_nil_of_length_eq_zero (by simpa using hl)
    subst this
    exact SlAt.nil w e
  · refine ⟨_, _, rfl, h1, fun h => (by cases h), fun _ => ⟨g, 0, cur, (0, 0), rfl, hg, fun i hi => ?_⟩⟩
    rw [← h3, List.getElem?_take, if_pos (by omega), Nat.zero_add]
    simp

/-- a block that the call owns is of its element's type, and lies from 'base' on -/
def OwnS (w : World) (base : Nat) (e : TypeId) (k : Nat) : Prop := base ≤ k ∧ ∃ c, w.heap[k]? = some (.cells c e (0, 0))

theorem Own.block {w : World} {base : Nat} {e : TypeId} {size : Nat} {v : Value} {n : Nat} {xs : List Value} (h : Own w base e size v n xs) : ∀ k, v.ownBlock = some k → OwnS w base e k := by
  intro k hk
  obtain ⟨hl, ⟨rfl, rfl⟩ | ⟨g, cap, cur, rfl, hb, hg, _⟩⟩ := h
  · simp [Value.ownBlock] at hk
  · simp [Value.ownBlock] at hk
    subst hk
    exact ⟨hb, cur, hg⟩

theorem one1_oneCell' {v : Value} (h : one1 v = true) : v.oneCell' = true := by cases v <;> first | rfl | (simp [one1] at h)

theorem Chg.of_grown {w w' : World} {row : Option Nat} {S : Nat → Prop} (h : w.grownBy w' row) (hS : ∀ k, row = some k → S k) : Chg S w w' :=
  ⟨h.os, h.tape, h.output, h.size, fun k hk hn => h.block k hk fun e => hn (hS k e.symm)⟩

/-- append(v, x...) where v is the call's own and x is a slice -/
theorem append_own {P : Program} {t e T : TypeId} {size bytes : Nat} (hT : ElemT P t e size bytes) {w : World} {base : Nat} {v x : Value} {n m : Nat} {xs news : List Value} {ty : TypeId} {K : Value → World → Prop}
    (hown : Own w base e size v n xs) (hx : SlAt w T x m news) (hl : news.length = m * size) (h1 : ∀ u ∈ news, one1 u = true) (hlen : n + m ≤ 4611686018427387904) (hb : (n + m) * bytes ≤ 140737488355328) (hbase : base ≤ w.heap.size)
    (hK : ∀ v' w', Own w' base e size v' (n + m) (xs ++ news) → Chg (OwnS w base e) w w' → (v' = .slice none 0 0 ↔ v = .slice none 0 0 ∧ m = 0) → K v' w') :
    semE P (Builtin.append_ #[t, t] ty #[v, x]) w K := by
  obtain ⟨i, z, hi, hz, h2, h3, h4⟩ := hT.get
  obtain ⟨p, cap, rfl, hcap, hnil, hcells⟩ := hx
  have hm : n + m ≤ maxLen := by unfold maxLen; omega
  cases p with
  | none =>
    obtain ⟨rfl, rfl⟩ := hnil rfl
    have hn : news = [] := List.eq_nil_of_length_eq_zero (by simpa using hl)
    subst hn
    have hr : (Builtin.append_ #[t, t] ty #[v, .slice none 0 0]).run P w = .ok v w := by
      obtain ⟨hl', ⟨rfl, rfl⟩ | ⟨g, cap, cur, rfl, _, hg, h1, _, h2, h3⟩⟩ := hown
      · simp [Builtin.append_, run_bind, run_underlying' hT.und, run_sizeOf' (show (P.info? e).isSome = true by rw [hi]; rfl), Builtin.lenOf, run_pure, Builtin.firstCells]
      · simp [Builtin.append_, run_bind, run_underlying' hT.und, run_sizeOf' (show (P.info? e).isSome = true by rw [hi]; rfl), Builtin.lenOf, run_pure, Builtin.firstCells, h1, storeCells]
    unfold semE
    rw [hr]
    simp only [Nat.add_zero, List.append_nil] at hK
    exact hK v w hown (Chg.refl _ _) (by simp)
  | some a =>
    have hcell : ∀ j u, news[j]? = some u → w.cell? (a.add j) = some u := by
      intro j u hu
      have hne : news ≠ [] := fun e => by subst e; simp at hu
      obtain ⟨b, off, c, fr, hp, hb', hcs⟩ := hcells hne
      cases hp
      rw [add_mk, cell_eq, hb', cellO_some, hcs j (List.getElem?_eq_some_iff.1 hu).1, hu]
    obtain ⟨v', w', hr, hown', hg, hnil'⟩ := run_append_own (P := P) w base t ty e i z size bytes hT.und hi hz h2 h3 h4 hT.pos v n xs hown a m cap news hl hcell (fun u hu => one1_oneCell' (h1 u hu)) hm hb hbase
    unfold semE
    rw [hr]
    exact hK v' w' hown' (Chg.of_grown hg hown.block) hnil'

/-- append(v, x...) where v is the call's own and x is a slice -/
theorem append_own2 {P : Program} {t e T : TypeId} {size bytes : Nat} (hT : ElemT P t e size bytes) {w : World} {base : Nat} {v x : Value} {n m : Nat} {xs news : List Value} {ty : TypeId} {K : Value → World → Prop}
    (hown : Own w base e size v n xs) (hx : SlAt w T x m news) (hl : news.length = m * size) (h1 : ∀ u ∈ news, one1 u = true) (hlen : n + m ≤ 4611686018427387904) (hb : (n + m) * bytes ≤ 140737488355328) (hbase : base ≤ w.heap.size)
    (hK : ∀ v' w', Own w' base e size v' (n + m) (xs ++ news) → Chg (fun k => v.ownBlock = some k) w w' → (v' = .slice none 0 0 ↔ v = .slice none 0 0 ∧ m = 0) → K v' w') :
    semE P (Builtin.append_ #[t, t] ty #[v, x]) w K := by
  obtain ⟨i, z, hi, hz, h2, h3, h4⟩ := hT.get
  obtain ⟨p, cap, rfl, hcap, hnil, hcells⟩ := hx
  have hm : n + m ≤ maxLen := by unfold maxLen; omega
  cases p with
  | none =>
    obtain ⟨rfl, rfl⟩ := hnil rfl
    have hn : news = [] := List.eq_nil_of_length_eq_zero (by simpa using hl)
    subst hn
    have hr : (Builtin.append_ #[t, t] ty #[v, .slice none 0 0]).run P w = .ok v w := by
      obtain ⟨hl', ⟨rfl, rfl⟩ | ⟨g, cap, cur, rfl, _, hg, h1, _, h2, h3⟩⟩ := hown
      · simp [Builtin.append_, run_bind, run_underlying' hT.und, run_sizeOf' (show (P.info? e).isSome = true by rw [hi]; rfl), Builtin.lenOf, run_pure, Builtin.firstCells]
      · simp [Builtin.append_, run_bind, run_underlying' hT.und, run_sizeOf' (show (P.info? e).isSome = true by rw [hi]; rfl), Builtin.lenOf, run_pure, Builtin.firstCells, h1, storeCells]
    unfold semE
    rw [hr]
    simp only [Nat.add_zero, List.append_nil] at hK
    exact hK v w hown (Chg.refl _ _) (by simp)
  | some a =>
    have hcell : ∀ j u, news[j]? = some u → w.cell? (a.add j) = some u := by
      intro j u hu
      have hne : news ≠ [] := fun e => by subst e; simp at hu
      obtain ⟨b, off, c, fr, hp, hb', hcs⟩ := hcells hne
      cases hp
      rw [add_mk, cell_eq, hb', cellO_some, hcs j (List.getElem?_eq_some_iff.1 hu).1, hu]
    obtain ⟨v', w', hr, hown', hg, hnil'⟩ := run_append_own (P := P) w base t ty e i z size bytes hT.und hi hz h2 h3 h4 hT.pos v n xs hown a m cap news hl hcell (fun u hu => one1_oneCell' (h1 u hu)) hm hb hbase
    unfold semE
    rw [hr]
    exact hK v' w' hown' (Chg.of_grown hg fun k e => e) hnil'

/-- a new row of cells is the call's own -/
theorem own_new {w : World} {base : Nat} {e : TypeId} {size n : Nat} {cs : List Value} (hb : base ≤ w.heap.size) (hl : cs.length = n * size) (hn : n ≤ 4611686018427387904) : Own (w.alloc (.cells cs.toArray e)) base e size (.slice (some ⟨w.heap.size, 0, none⟩) n n) n cs :=
  ⟨hl, .inr ⟨w.heap.size, n, cs.toArray, rfl, hb, heap_anew _ _ _ rfl, Nat.le_refl _, by unfold maxLen; omega, by simpa using hl, by simp [← hl]⟩⟩

theorem Own.chg {S : Nat → Prop} {w w' : World} {base : Nat} {e : TypeId} {size : Nat} {v : Value} {n : Nat} {xs : List Value} (h : Own w base e size v n xs) (hc : Chg S w w') (hS : ∀ k, OwnS w base e k → ¬ S k) : Own w' base e size v n xs := by
  obtain ⟨hl, hn | ⟨g, cap, cur, hv, hb, hg, r⟩⟩ := h
  · exact ⟨hl, .inl hn⟩
  · exact ⟨hl, .inr ⟨g, cap, cur, hv, hb, by rw [hc.heap g (Array.getElem?_eq_some_iff.1 hg).1 (hS g ⟨hb, cur, hg⟩)]; exact hg, r⟩⟩
theorem Own.ext {w w' : World} {base : Nat} {e : TypeId} {size : Nat} {v : Value} {n : Nat} {xs : List Value} (h : Own w base e size v n xs) (hc : Ext w w') : Own w' base e size v n xs := h.chg hc fun _ _ e => e
theorem Own.base {w : World} {base base' : Nat} {e : TypeId} {size : Nat} {v : Value} {n : Nat} {xs : List Value} (h : Own w base e size v n xs) (hb : base' ≤ base) : Own w base' e size v n xs := by
  obtain ⟨hl, hn | ⟨g, cap, cur, hv, hg, r⟩⟩ := h
  · exact ⟨hl, .inl hn⟩
  · exact ⟨hl, .inr ⟨g, cap, cur, hv, Nat.le_trans hb hg, r⟩⟩

/-! ### Bytes -/

def u8s (l : List UInt8) : List Value := l.map fun b => .int .u8 b.toNat
theorem u8s_length (l : List UInt8) : (u8s l).length = l.length := by simp [u8s]
theorem u8s_get (l : List UInt8) (i : Nat) : (u8s l)[i]? = (l[i]?).map fun b => .int .u8 b.toNat := by simp [u8s]
theorem u8s_app (a b : List UInt8) : u8s (a ++ b) = u8s a ++ u8s b := by simp [u8s]
theorem u8s_one (l : List UInt8) : ∀ u ∈ u8s l, one1 u = true := by intro u hu; simp [u8s] at hu; obtain ⟨b, _, rfl⟩ := hu; rfl

/-- v is a slice of bytes (T: the bytes' type) that holds l -/
abbrev Byt (w : World) (T : TypeId) (v : Value) (l : List UInt8) : Prop := SlAt w T v l.length (u8s l)

/-- string(b) -/
theorem conv_bytes {P : Program} {src dst e T : TypeId} (hs : P.underlying src = some (.slice e)) (he : P.underlying e = some (.int .u8)) (hd : P.underlying dst = some .string) {w : World} {v : Value} {l : List UInt8} {K : Value → Prop}
    (h : Byt w T v l) : semQ P (convert src dst v) w K ↔ K (str l) := by
  have hr : (convert src dst v).run P w = .ok (str l) w := by
    obtain ⟨p, cap, rfl, hcap, hnil, hcells⟩ := h
    cases p with
    | none =>
      obtain ⟨h0, _⟩ := hnil rfl
      have : l = [] := List.eq_nil_of_length_eq_zero h0
      subst this
      rw [run_convert_bytes_nil (P := P) w src e hs he _ _ dst hd]
      rfl
    | some a =>
      cases l with
      | nil =>
        rw [run_convert_bytes_string w src dst e _ _ cap hs he hd]
        have hl : (loadCells a 0).run P w = .ok (([] : List Int).map (Value.int .u8)).toArray w := rfl
        have := run_bytesToString w a 0 cap [] hl
        exact this
      | cons x l =>
        obtain ⟨b, off, c, fr, hp, hb, hcs⟩ := hcells (by simp [u8s])
        cases hp
        have := run_convert_bytes_arg (P := P) w src e hs he b off (x :: l).length cap ((x :: l).map fun b => (b.toNat : Int)) (by simp) (fun i hi => by
          rw [cell_eq, hb, cellO_some, hcs i (by rw [u8s_length]; exact hi), u8s_get, List.getElem?_eq_getElem hi]
          rw [List.getD_eq_getElem?_getD, List.getElem?_map, List.getElem?_eq_getElem hi]; rfl) dst hd
        rw [this]
        simp [str, ofL, strOfNums, Function.comp_def]
  constructor
  · rintro ⟨u, hu, hk⟩
    rw [hr] at hu
    cases hu
    exact hk
  · exact fun hk => ⟨_, hr, hk⟩
end Go.Eng
