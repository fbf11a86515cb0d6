/- One plain sentence: weakest preconditions, contracts and plain laws that the claim rests on, text behind text. Conditions: those that each states. -/
import Derived.Test.YtcnjpcadejcenaaGreatDoorMU1
import Derived.Lib.ItoaNum
import Derived.Test.YtcnjpcadejcenaaGreatDoorProg
import Derived.Shelf.Strings.Builder1
import Derived.Shelf.Small.Utf8
import Derived.Shelf.Small.Strs
import Derived.Shelf.Small.Wraps
import Derived.Shelf.Strings.BuilderF
import Derived.Shelf.Strings.BuilderK
import Derived.Shelf.Strings.BuilderRune
import Derived.Shelf.Strconv.Itoa0
import Derived.Shelf.Strconv.Itoa1
import Derived.Shelf.LaysM
import Derived.Shelf.Strconv.Itoa2
import Derived.Shelf.Strconv.Itoa3
import Derived.Shelf.Strconv.Itoa4
import Derived.Shelf.Strconv.Clone
import Derived.Ground.MpProg
import Derived.Shelf.Pu.ParseUintPublic10
import Derived.Shelf.Strings.Search1
import Derived.Shelf.Strings.Search2
import Derived.Shelf.Strings.Search3
import Derived.Shelf.Strings.Cut
import Derived.Shelf.Strings.Count
import Derived.Shelf.Strings.Shaped
import Derived.Shelf.Sort.Plain
import Derived.Shelf.Strings.LastIndex
import Derived.Shelf.Strings.Prefix
import Derived.Shelf.Strings.Runes
import Derived.Shelf.Strings.IndexAny
import Derived.Shelf.Strings.AsciiSet
import Derived.Shelf.Strings.IndexAnyAll
import Derived.Shelf.Unicode.DecodeSlow
import Derived.Shelf.Unicode.DecodeAny
import Derived.Ground.Names2Prog
import Derived.Shelf.Slices.Clone
import Derived.Shelf.Slices.CompactS
import Derived.Shelf.Unicode.ValidAny
import Derived.Lib.ConvBytes
import Derived.Lib.ParseIntBCases
import Derived.Lib.Builder
import Derived.ProofKit
import Derived.WalkKit
import Derived.Lib.AppendStr
import Derived.Lib.RuneBytes
set_option linter.all false
set_option linter.unusedSimpArgs false
set_option linter.unusedVariables false
set_option linter.unusedSectionVars false
namespace Go.Eng
open Go Go.Num
def BL (l : Str) : Prop := ∀ c ∈ l, isBlank (c.toNat : Int) = true
theorem BL.nil : BL [] := fun _ h => by cases h
mutual
/-- a value's JSON, with blanks between its parts -/
def Sp : JV → Str → Prop
  | .mk k b t xs ks, s =>
    if k = 5 then (xs = [] ∧ ∃ a, BL a ∧ s = [91] ++ a ++ [93]) ∨ (∃ u, SpL xs u ∧ s = [91] ++ u ++ [93])
    else if k = 6 then (xs = [] ∧ ks = [] ∧ ∃ a, BL a ∧ s = [123] ++ a ++ [125]) ∨ (∃ u, SpO xs ks u ∧ s = [123] ++ u ++ [125])
    else s = showM (.mk k b t xs ks)
def SpL : List JV → Str → Prop
  | [], _ => False
  | x :: xs, s => (xs = [] ∧ ∃ a t b, BL a ∧ Sp x t ∧ BL b ∧ s = a ++ t ++ b) ∨ (∃ a t b u, BL a ∧ Sp x t ∧ BL b ∧ SpL xs u ∧ s = a ++ t ++ b ++ [44] ++ u)
def SpO : List JV → List Str → Str → Prop
  | x :: xs, k :: ks, s => (xs = [] ∧ ks = [] ∧ ∃ a b c t d, BL a ∧ BL b ∧ BL c ∧ Sp x t ∧ BL d ∧ s = a ++ quoteM k ++ b ++ [58] ++ c ++ t ++ d) ∨
      (∃ a b c t d u, BL a ∧ BL b ∧ BL c ∧ Sp x t ∧ BL d ∧ SpO xs ks u ∧ s = a ++ quoteM k ++ b ++ [58] ++ c ++ t ++ d ++ [44] ++ u)
  | _, _, _ => False
end
def Stop (r : Str) : Prop := r = [] ∨ ∃ c r', r = c :: r' ∧ (isBlank (c.toNat : Int) = true ∨ c = 44 ∨ c = 93 ∨ c = 125)
theorem Stop.bl {b r : Str} (hb : BL b) (hr : Stop r) : Stop (b ++ r) := by
  cases b with
  | nil => exact hr
  | cons c b => exact .inr ⟨c, b ++ r, rfl, .inl (hb c List.mem_cons_self)⟩
theorem Stop.one {c : UInt8} {r : Str} (h : c = 44 ∨ c = 93 ∨ c = 125) : Stop (c :: r) := .inr ⟨c, r, rfl, .inr h⟩
theorem stop_byte {s r : Str} {i : Nat} (h : s.drop i = r) (hr : Stop r) : isDig (byteM s i) = false ∧ byteM s i ≠ 46 ∧ byteM s i ≠ 101 ∧ byteM s i ≠ 69 := by
  rcases hr with rfl | ⟨c, r', rfl, hc⟩
  · rw [byte_end h]; decide
  · rw [byte_at h]
    rcases hc with hb | rfl | rfl | rfl
    · unfold isBlank at hb
      simp only [Bool.or_eq_true, decide_eq_true_eq] at hb
      unfold isDig
      refine ⟨?_, ?_, ?_, ?_⟩
      · rw [Bool.and_eq_false_iff, decide_eq_false_iff_not, decide_eq_false_iff_not]; omega
      · omega
      · omega
      · omega
    · decide
    · decide
    · decide
theorem dig_over {s r : Str} {l : Str} : ∀ {i n : Nat}, s.drop i = l ++ r → (∀ c ∈ l, isDig (c.toNat : Int) = true) → l.length ≤ n → isDig (byteM s (i + l.length)) = false → digGo s n i = i + l.length := by
  induction l with
  | nil =>
    intro i n h _ _ hst
    rw [List.length_nil, Nat.add_zero] at hst ⊢
    cases n with
    | zero => rfl
    | succ n => rw [digGo, hst]; rfl
  | cons c l ih =>
    intro i n h hd hn hst
    rw [List.length_cons] at hn hst ⊢
    cases n with
    | zero => omega
    | succ n =>
      rw [digGo, byte_at h, hd c List.mem_cons_self, if_pos rfl, ih (drop_cons h) (fun x hx => hd x (List.mem_cons_of_mem _ hx)) (by omega) (by rw [show i + 1 + l.length = i + (l.length + 1) by omega]; exact hst)]
      omega
theorem digM_over {s r : Str} {l : Str} {i : Nat} (h : s.drop i = l ++ r) (hd : ∀ c ∈ l, isDig (c.toNat : Int) = true) (hr : Stop r) : digM s i = i + l.length := by
  unfold digM
  have hlen : (s.drop i).length = l.length + r.length := by rw [h, List.length_append]
  rw [List.length_drop] at hlen
  exact dig_over h hd (by omega) (stop_byte (drop_app h) hr).1
theorem isDig_num {c : UInt8} (h : Num.isDig c = true) : Go.Eng.isDig (c.toNat : Int) = true ∧ 48 ≤ c.toNat ∧ c.toNat ≤ 57 := by
  have h1 : 48 ≤ c.toNat ∧ c.toNat ≤ 57 := by
    unfold Num.isDig at h
    simp only [Bool.and_eq_true, decide_eq_true_eq] at h
    obtain ⟨a, b⟩ := h
    have a' : (48 : UInt8).toNat ≤ c.toNat := a
    have b' : c.toNat ≤ (57 : UInt8).toNat := b
    exact ⟨a', b'⟩
  refine ⟨?_, h1⟩
  unfold Go.Eng.isDig
  rw [Bool.and_eq_true, decide_eq_true_iff, decide_eq_true_iff]
  omega
theorem num_read {E : ErrNo} {s r t : Str} {i cnt : Nat} (hg : goodN t = true) (h : s.drop i = t ++ r) (hr : Stop r) : numM E s i cnt = .ok (.mk 3 false t [] []) (i + t.length) cnt := by
  obtain ⟨g1, g2, g3, g4⟩ := goodN_out hg
  have hall : ∀ c ∈ dig t, Num.isDig c = true := List.all_eq_true.1 g4
  -- the sign and the digits
  have key : ∀ (first : Nat), s.drop first = dig t ++ r → (first = i ∨ first = i + 1) → first + (dig t).length = i + t.length →
      (if byteM s first = 48 then first + 1 else digM s first) = i + t.length := by
    intro first hf _ hlen
    cases hd : dig t with
    | nil => rw [hd] at g1; simp at g1
    | cons c d =>
      rw [hd] at hf hlen hall
      have hc := isDig_num (hall c List.mem_cons_self)
      rw [byte_at hf]
      by_cases h48 : c = 48
      · subst h48
        rw [if_pos (show (((48 : UInt8).toNat : Nat) : Int) = 48 from rfl)]
        have ht : t = [48] := g3 (by rw [hd]; rfl)
        rw [ht] at hd
        simp only [dig] at hd
        rw [if_neg (by decide)] at hd
        cases hd
        simpa using hlen
      · rw [if_neg (by intro e; exact h48 (UInt8.toNat_inj.1 (by show c.toNat = 48; omega)))]
        rw [digM_over hf (fun x hx => (isDig_num (hall x hx)).1) hr, hlen]
  have hsp : (if byteM s i = 45 then i + 1 else i) + (dig t).length = i + t.length ∧ s.drop (if byteM s i = 45 then i + 1 else i) = dig t ++ r := by
    cases ht : t with
    | nil => rw [ht] at g1; simp [dig] at g1
    | cons c d =>
      rw [ht] at h
      rw [byte_at h]
      by_cases h45 : c = 45
      · subst h45
        rw [if_pos (show (((45 : UInt8).toNat : Nat) : Int) = 45 from rfl)]
        have : dig (45 :: d) = d := by simp [dig]
        rw [this]
        exact ⟨by simp; omega, drop_cons h⟩
      · rw [if_neg (by intro e; exact h45 (UInt8.toNat_inj.1 (by show c.toNat = 45; omega)))]
        have : dig (c :: d) = c :: d := by simp [dig, h45]
        rw [this]
        exact ⟨rfl, h⟩
  have hst := stop_byte (drop_app h) hr
  unfold numM
  simp only
  generalize hfi : (if byteM s i = 45 then i + 1 else i) = first at *
  have hif : first = i ∨ first = i + 1 := by rw [← hfi]; split <;> simp
  rw [key first hsp.2 hif hsp.1]
  rw [if_neg (by omega), if_neg (by omega), hst.1, decide_eq_false hst.2.1, decide_eq_false hst.2.2.1, decide_eq_false hst.2.2.2]
  simp only [Bool.or_self, Bool.false_eq_true, if_false]
  rw [show i + t.length - i = t.length by omega, h, List.take_left]
  rw [if_neg]
  intro e
  subst e
  exact absurd hg (by decide)
theorem blank_all {s r a : Str} {i : Nat} {c : UInt8} (ha : BL a) (h : s.drop i = a ++ c :: r) (hc : isBlank (c.toNat : Int) = false) : blankM s i = i + a.length := by
  rw [blank_over h ha]
  exact blank_stop (by rw [byte_at (drop_app h)]; exact hc)
theorem blank_end {s a : Str} {i : Nat} (ha : BL a) (h : s.drop i = a) : blankM s i = i + a.length := by
  have h' : s.drop i = a ++ [] := by rw [h, List.append_nil]
  rw [blank_over h' ha]
  exact blank_stop (by rw [byte_end (drop_app h')]; decide)
theorem word_first {s r : Str} {i : Nat} {c : UInt8} (h : s.drop i = c :: r) (hn : c ≠ 110 ∧ c ≠ 116 ∧ c ≠ 102) : wordM s i [110, 117, 108, 108] = false ∧ wordM s i [116, 114, 117, 101] = false ∧ wordM s i [102, 97, 108, 115, 101] = false :=
  ⟨word_not h rfl hn.1, word_not h rfl hn.2.1, word_not h rfl hn.2.2⟩
theorem sp_head {x : JV} {t : Str} (hs : Sp x t) (hp : plainM x = true) : ∃ c w, t = c :: w ∧ isBlank (c.toNat : Int) = false ∧ c ≠ 93 ∧ c ≠ 125 := by
  cases x with
  | mk k b t0 xs ks =>
  simp only [Sp] at hs
  split at hs
  · rcases hs with ⟨_, a, _, rfl⟩ | ⟨u, _, rfl⟩
    · exact ⟨91, a ++ [93], rfl, by decide, by decide, by decide⟩
    · exact ⟨91, u ++ [93], rfl, by decide, by decide, by decide⟩
  split at hs
  · rcases hs with ⟨_, _, a, _, rfl⟩ | ⟨u, _, rfl⟩
    · exact ⟨123, a ++ [125], rfl, by decide, by decide, by decide⟩
    · exact ⟨123, u ++ [125], rfl, by decide, by decide, by decide⟩
  rename_i k5 k6
  rw [plainM_eq, Bool.and_eq_true] at hp
  have hh := headOk_out hp.1
  simp only [JV.k, JV.b, JV.t, JV.xs, JV.ks] at hh
  rw [showM_eq] at hs
  have hk0 := hh.1
  have hk7 := hh.2.1
  have hk1 : k = 1 ∨ k ≠ 1 := by omega
  split at hs
  · subst hs; exact ⟨110, [117, 108, 108], rfl, by decide, by decide, by decide⟩
  split at hs
  · cases b with
    | true => subst hs; exact ⟨116, [114, 117, 101], rfl, by decide, by decide, by decide⟩
    | false => subst hs; exact ⟨102, [97, 108, 115, 101], rfl, by decide, by decide, by decide⟩
  split at hs
  · rename_i k3
    have hg : goodN t0 = true := hh.2.2.2.2.2.2.1 k3
    subst hs
    cases ht : t with
    | nil => rw [ht] at hg; exact absurd hg (by decide)
    | cons c w =>
      refine ⟨c, w, rfl, ?_⟩
      rw [ht] at hg
      by_cases h45 : c = 45
      · subst h45; exact ⟨by decide, by decide, by decide⟩
      · obtain ⟨_, _, _, g4⟩ := goodN_out hg
        simp only [dig, if_neg h45] at g4
        have hcd := (isDig_num (List.all_eq_true.1 g4 c List.mem_cons_self)).2
        refine ⟨?_, fun e => by subst e; simp at hcd, fun e => by subst e; simp at hcd⟩
        unfold isBlank
        simp only [Bool.or_eq_false_iff, decide_eq_false_iff_not]; omega
  split at hs
  · subst hs; exact ⟨34, t0.flatMap escB ++ [34], by simp [quoteM], by decide, by decide, by decide⟩
  · rename_i k0 k2 k3 k4
    subst hs; exact ⟨91, joinM (showL xs) ++ [93], by simp, by decide, by decide, by decide⟩
theorem spL_trim {xs : List JV} {u : Str} (hs : SpL xs u) (hp : plainL xs = true) : ∃ a u' c w, BL a ∧ u = a ++ u' ∧ u' = c :: w ∧ isBlank (c.toNat : Int) = false ∧ c ≠ 93 ∧ SpL xs u' := by
  cases xs with
  | nil => simp only [SpL] at hs
  | cons x xs =>
    simp only [plainL, Bool.and_eq_true] at hp
    simp only [SpL] at hs
    rcases hs with ⟨rfl, a, t, b, ha, ht, hb, rfl⟩ | ⟨a, t, b, v, ha, ht, hb, hv, rfl⟩
    · obtain ⟨c, w, rfl, h1, h2, _⟩ := sp_head ht hp.1
      refine ⟨a, c :: w ++ b, c, w ++ b, ha, by simp, rfl, h1, h2, ?_⟩
      simp only [SpL]
      exact .inl ⟨trivial, [], c :: w, b, BL.nil, ht, hb, by simp⟩
    · obtain ⟨c, w, rfl, h1, h2, _⟩ := sp_head ht hp.1
      refine ⟨a, c :: w ++ b ++ [44] ++ v, c, w ++ b ++ [44] ++ v, ha, by simp, rfl, h1, h2, ?_⟩
      simp only [SpL]
      exact .inr ⟨[], c :: w, b, v, BL.nil, ht, hb, hv, by simp⟩
theorem spO_trim {xs : List JV} {ks : List Str} {u : Str} (hs : SpO xs ks u) : ∃ a u' w, BL a ∧ u = a ++ u' ∧ u' = 34 :: w ∧ SpO xs ks u' := by
  match xs, ks, hs with
  | [], ks, hs => simp only [SpO] at hs
  | x :: xs, [], hs => simp only [SpO] at hs
  | x :: xs, k :: ks, hs =>
    simp only [SpO] at hs
    rcases hs with ⟨rfl, rfl, a, b, c, t, d, ha, hb, hc, ht, hd, rfl⟩ | ⟨a, b, c, t, d, v, ha, hb, hc, ht, hd, hv, rfl⟩
    · refine ⟨a, quoteM k ++ b ++ [58] ++ c ++ t ++ d, k.flatMap escB ++ [34] ++ b ++ [58] ++ c ++ t ++ d, ha, by simp, by simp [quoteM], ?_⟩
      simp only [SpO]
      exact .inl ⟨trivial, trivial, [], b, c, t, d, BL.nil, hb, hc, ht, hd, by simp⟩
    · refine ⟨a, quoteM k ++ b ++ [58] ++ c ++ t ++ d ++ [44] ++ v, k.flatMap escB ++ [34] ++ b ++ [58] ++ c ++ t ++ d ++ [44] ++ v, ha, by simp, by simp [quoteM], ?_⟩
      simp only [SpO]
      exact .inr ⟨[], b, c, t, d, v, BL.nil, hb, hc, ht, hd, hv, by simp⟩
theorem get_last {ys : List JV} {js ks : List Str} {k : Str} (h : Rise (js ++ k :: ks)) : (getM (.mk 6 false [] ys js) k).isSome = false := by
  have hn : k ∉ js := fun hm => by
    have := (List.pairwise_append.1 h).2.2 k hm k List.mem_cons_self
    rw [less_irr] at this; cases this
  unfold getM
  simp only [JV.k, JV.ks, JV.xs, if_true]
  rw [idxK_none.2 hn]
  rfl
theorem insP_last : ∀ {l : List (Str × JV)} {k : Str} {x : JV}, (∀ p ∈ l, Op.bytesLess p.1 k = true) → insP l k x = l ++ [(k, x)]
  | [], k, x, _ => rfl
  | (a, y) :: l, k, x, h => by
    have h1 := h (a, y) List.mem_cons_self
    rw [insP, if_neg (by rw [less_anti h1]; simp), insP_last fun p hp => h p (List.mem_cons_of_mem _ hp)]
    rfl
theorem put_last {ys : List JV} {js ks : List Str} {k : Str} {x : JV} (h : Rise (js ++ k :: ks)) (hl : js.length = ys.length) : putM (.mk 6 false [] ys js) k x = .mk 6 false [] (ys ++ [x]) (js ++ [k]) := by
  have hlt : ∀ p ∈ js.zip ys, Op.bytesLess p.1 k = true := fun p hp => (List.pairwise_append.1 h).2.2 p.1 (List.of_mem_zip hp).1 k List.mem_cons_self
  have hdp : dropP (js.zip ys) k = js.zip ys := by
    unfold dropP
    rw [List.filter_eq_self]
    intro p hp
    have := hlt p hp
    rw [Bool.not_eq_true', decide_eq_false_iff_not]
    intro e
    rw [e, less_irr] at this; cases this
  unfold putM
  simp only [JV.k, JV.ks, JV.xs, if_true]
  rw [hdp, insP_last hlt]
  unfold mkO
  rw [List.map_append, List.map_append, List.map_fst_zip (by omega), List.map_snd_zip (by omega)]
  rfl
mutual
/-- a value's JSON is read -/
theorem val_read {E : ErrNo} {s : Str} : ∀ (v : JV) {t a r : Str} {n deep m i cnt : Nat}, Sp v t → plainM v = true → textsM v = true → knownM v = true → deepM v m = true → deep + m = 25 → cnt + cntM v ≤ 2000 → 2 * cntM v ≤ n →
    s.drop i = a ++ t ++ r → BL a → Stop r → valM E s n deep i cnt = .ok v (i + a.length + t.length) (cnt + cntM v)
  | .mk k b t0 xs ks, t, a, r, n, deep, m, i, cnt, hs, hp, hu, hk, hd, hm, hc, hn, h, ha, hr => by
    cases n with
    | zero => simp only [cntM] at hn; omega
    | succ n =>
    cases m with
    | zero => rw [deepM_zero] at hd; cases hd
    | succ m =>
    simp only [cntM] at hc hn ⊢
    rw [deepM_succ] at hd
    rw [plainM_eq, Bool.and_eq_true] at hp
    obtain ⟨hp1, hp2⟩ := hp
    simp only [JV.k, JV.b, JV.t, JV.xs, JV.ks] at hp1 hp2 hd
    rw [knownM_eq, Bool.and_eq_true, Bool.not_eq_true', decide_eq_false_iff_not] at hk
    obtain ⟨hk1, hk2⟩ := hk
    simp only [JV.k, JV.xs] at hk1 hk2
    simp only [textsM, Bool.and_eq_true] at hu
    obtain ⟨⟨hu1, hu2⟩, hu3⟩ := hu
    have hh := headOk_out hp1
    simp only [Sp] at hs
    rw [List.append_assoc] at h
    have hdp : ¬ 24 < deep := by omega
    have hct : ¬ 2000 ≤ cnt := by omega
    have hdr := drop_app h
    -- what the first byte is
    have start : ∀ {c : UInt8} {r' : Str}, t ++ r = c :: r' → isBlank (c.toNat : Int) = false → blankM s i = i + a.length := fun {c r'} e hb => blank_all ha (by rw [h, e]) hb
    by_cases k5 : k = 5
    · subst k5
      rw [if_pos rfl] at hs
      have ht0 : t0 = [] := Classical.byContradiction fun hne => by have := hh.2.2.2.1 hne; omega
      have hb0 : b = false := by cases b with | false => rfl | true => exact absurd (hh.2.2.1 rfl) (by decide)
      have hks : ks = [] := Classical.byContradiction fun hne => absurd (hh.2.2.2.2.2.1 hne) (by decide)
      subst ht0 hb0 hks
      rcases hs with ⟨rfl, b, hb, rfl⟩ | ⟨u, hsl, rfl⟩
      · simp only [List.cons_append, List.nil_append, List.append_assoc] at h hdr
        have e1 := start (by simp only [List.cons_append, List.nil_append, List.append_assoc]; rfl) (by decide)
        obtain ⟨w1, w2, w3⟩ := word_first hdr (by decide)
        have e2 := blank_all hb (drop_cons hdr) (c := 93) (by decide)
        have e3 := byte_at (drop_app (drop_cons hdr))
        rw [valM]
        simp only [e1]
        rw [if_neg hdp, if_neg hct, w1, w2, w3, byte_at hdr]
        rw [if_neg (by decide), if_neg (by decide), if_neg (by decide), if_neg (by decide), if_neg (by decide), if_pos (by decide), e2, e3, if_pos (by decide)]
        simp only [cntL, List.length_append, List.length_cons, List.length_nil]
        congr 1; omega
      · simp only [List.cons_append, List.nil_append, List.append_assoc] at h hdr
        have e1 := start (by simp only [List.cons_append, List.nil_append, List.append_assoc]; rfl) (by decide)
        obtain ⟨w1, w2, w3⟩ := word_first hdr (by decide)
        obtain ⟨a', u', c', w', ha', rfl, hu', hb', hne', hsl'⟩ := spL_trim hsl hp2
        have hdr2 := drop_cons hdr
        rw [List.append_assoc] at hdr2
        have e2 : blankM s (i + a.length + 1) = i + a.length + 1 + a'.length := blank_all ha' (by rw [hdr2, hu']; rfl) hb'
        have hdr3 := drop_app hdr2
        have e3 : ¬ byteM s (i + a.length + 1 + a'.length) = 93 := by
          rw [hu'] at hdr3
          rw [byte_at hdr3]
          intro e
          exact hne' (UInt8.toNat_inj.1 (by show c'.toNat = 93; omega))
        have hl := list_read (E := E) (n := n) (deep := deep) (m := m) (cnt := cnt + 1) (acc := []) xs hsl' hp2 hu3 hk2 hd (by omega) (by omega) (by omega) hdr3
        rw [valM]
        simp only [e1]
        rw [if_neg hdp, if_neg hct, w1, w2, w3, byte_at hdr]
        rw [if_neg (by decide), if_neg (by decide), if_neg (by decide), if_neg (by decide), if_neg (by decide), if_pos (by decide), e2, if_neg e3, hl]
        simp only [List.nil_append, List.length_append, List.length_cons, List.length_nil]
        congr 1 <;> omega
    by_cases k6 : k = 6
    · subst k6
      rw [if_neg (by decide), if_pos rfl] at hs
      have ht0 : t0 = [] := Classical.byContradiction fun hne => by have := hh.2.2.2.1 hne; omega
      have hb0 : b = false := by cases b with | false => rfl | true => exact absurd (hh.2.2.1 rfl) (by decide)
      subst ht0 hb0
      rcases hs with ⟨rfl, rfl, b, hb, rfl⟩ | ⟨u, hso, rfl⟩
      · simp only [List.cons_append, List.nil_append, List.append_assoc] at h hdr
        have e1 := start (by simp only [List.cons_append, List.nil_append, List.append_assoc]; rfl) (by decide)
        obtain ⟨w1, w2, w3⟩ := word_first hdr (by decide)
        have e2 := blank_all hb (drop_cons hdr) (c := 125) (by decide)
        have e3 := byte_at (drop_app (drop_cons hdr))
        rw [valM]
        simp only [e1]
        rw [if_neg hdp, if_neg hct, w1, w2, w3, byte_at hdr]
        rw [if_neg (by decide), if_neg (by decide), if_neg (by decide), if_neg (by decide), if_neg (by decide), if_neg (by decide), if_pos (by decide), e2, e3, if_pos (by decide)]
        simp only [cntL, List.length_append, List.length_cons, List.length_nil]
        congr 1; omega
      · simp only [List.cons_append, List.nil_append, List.append_assoc] at h hdr
        have e1 := start (by simp only [List.cons_append, List.nil_append, List.append_assoc]; rfl) (by decide)
        obtain ⟨w1, w2, w3⟩ := word_first hdr (by decide)
        have hrise := keysOk_rise hh.2.2.2.2.2.2.2.2.2
        have hkl := keysOk_len hh.2.2.2.2.2.2.2.2.2
        obtain ⟨a', u', w', ha', rfl, hu', hso'⟩ := spO_trim hso
        have hdr2 := drop_cons hdr
        rw [List.append_assoc] at hdr2
        have e2 : blankM s (i + a.length + 1) = i + a.length + 1 + a'.length := blank_all ha' (by rw [hdr2, hu']; rfl) (by decide)
        have hdr3 := drop_app hdr2
        have e3 : ¬ byteM s (i + a.length + 1 + a'.length) = 125 := by
          rw [hu'] at hdr3
          rw [byte_at hdr3]
          decide
        have hl := obj_read (E := E) (n := n) (deep := deep) (m := m) (cnt := cnt + 1) (ys := []) (js := []) xs ks hso' hp2 hu3 hk2 hd hu2 hkl (by simpa using hrise) rfl (by omega) (by omega) (by omega) hdr3
        rw [valM]
        simp only [e1]
        rw [if_neg hdp, if_neg hct, w1, w2, w3, byte_at hdr]
        rw [if_neg (by decide), if_neg (by decide), if_neg (by decide), if_neg (by decide), if_neg (by decide), if_neg (by decide), if_pos (by decide), e2, if_neg e3, hl]
        simp only [List.nil_append, List.length_append, List.length_cons, List.length_nil]
        congr 1 <;> omega
    rw [if_neg k5, if_neg k6] at hs
    have hxs : xs = [] := by
      refine List.eq_nil_of_length_eq_zero (Classical.byContradiction fun hne => ?_)
      have := hh.2.2.2.2.1 hne
      omega
    have hks : ks = [] := Classical.byContradiction fun hne => k6 (hh.2.2.2.2.2.1 hne)
    subst hxs hks
    rw [showM_eq] at hs
    simp only [cntL, Nat.add_zero]
    have hk0 := hh.1
    have hk7 := hh.2.1
    obtain rfl | rfl | rfl | rfl : k = 0 ∨ k = 2 ∨ k = 3 ∨ k = 4 := by omega
    · rw [if_pos rfl] at hs
      subst hs
      have ht0 : t0 = [] := Classical.byContradiction fun hne => by have := hh.2.2.2.1 hne; omega
      have hb0 : b = false := by cases b with | false => rfl | true => exact absurd (hh.2.2.1 rfl) (by decide)
      subst ht0 hb0
      have e1 := start (c := 110) (by simp only [List.cons_append, List.nil_append]; rfl) (by decide)
      rw [valM]
      simp only [e1]
      rw [if_neg hdp, if_neg hct, word_at hdr, if_pos rfl]
      simp only [JV.null, List.length_cons, List.length_nil]
    · rw [if_neg (by decide), if_pos rfl] at hs
      have ht0 : t0 = [] := Classical.byContradiction fun hne => by have := hh.2.2.2.1 hne; omega
      subst ht0
      cases b with
      | true =>
        rw [if_pos rfl] at hs
        subst hs
        have e1 := start (c := 116) (by simp only [List.cons_append, List.nil_append]; rfl) (by decide)
        rw [valM]
        simp only [e1]
        rw [if_neg hdp, if_neg hct, word_not (d := 110) hdr rfl (by decide), if_neg (by decide), word_at hdr, if_pos rfl]
        simp only [List.length_cons, List.length_nil]
      | false =>
        rw [if_neg (by decide)] at hs
        subst hs
        have e1 := start (c := 102) (by simp only [List.cons_append, List.nil_append]; rfl) (by decide)
        rw [valM]
        simp only [e1]
        rw [if_neg hdp, if_neg hct, word_not (d := 110) hdr rfl (by decide), if_neg (by decide), word_not (d := 116) hdr rfl (by decide), if_neg (by decide), word_at hdr, if_pos rfl]
        simp only [List.length_cons, List.length_nil]
    · rw [if_neg (by decide), if_neg (by decide), if_pos rfl] at hs
      subst hs
      have hb0 : b = false := by cases b with | false => rfl | true => exact absurd (hh.2.2.1 rfl) (by decide)
      subst hb0
      have hg : goodN t = true := hh.2.2.2.2.2.2.1 rfl
      obtain ⟨c, t', rfl⟩ : ∃ c t', t = c :: t' := by
        cases ht : t with
        | nil => rw [ht] at hg; exact absurd hg (by decide)
        | cons c t' => exact ⟨c, t', rfl⟩
      have hcd : c = 45 ∨ (48 ≤ c.toNat ∧ c.toNat ≤ 57) := by
        by_cases h45 : c = 45
        · exact .inl h45
        · right
          obtain ⟨_, _, _, g4⟩ := goodN_out hg
          simp only [dig, if_neg h45] at g4
          exact (isDig_num (List.all_eq_true.1 g4 c List.mem_cons_self)).2
      have hcb : isBlank (c.toNat : Int) = false := by
        unfold isBlank
        rcases hcd with rfl | hcd
        · decide
        · simp only [Bool.or_eq_false_iff, decide_eq_false_iff_not]; omega
      have e1 := start (c := c) (by simp only [List.cons_append]; rfl) hcb
      have hdr' : s.drop (i + a.length) = c :: (t' ++ r) := hdr
      obtain ⟨w1, w2, w3⟩ := word_first hdr' (by
        rcases hcd with rfl | hcd
        · decide
        · exact ⟨fun e => by subst e; simp at hcd, fun e => by subst e; simp at hcd, fun e => by subst e; simp at hcd⟩)
      rw [valM]
      simp only [e1]
      rw [if_neg hdp, if_neg hct, w1, w2, w3, if_neg (by decide), if_neg (by decide), if_neg (by decide), if_pos (by
        rw [byte_at hdr']
        rcases hcd with rfl | hcd
        · exact .inl rfl
        · right
          unfold Go.Eng.isDig
          rw [Bool.and_eq_true, decide_eq_true_iff, decide_eq_true_iff]; omega), num_read hg hdr hr]
    · rw [if_neg (by decide), if_neg (by decide), if_neg (by decide), if_pos rfl] at hs
      subst hs
      have hb0 : b = false := by cases b with | false => rfl | true => exact absurd (hh.2.2.1 rfl) (by decide)
      subst hb0
      have hl : t0.length ≤ 16384 := hh.2.2.2.2.2.2.2.1 rfl
      have e0 : quoteM t0 ++ r = 34 :: (t0.flatMap escB ++ [34] ++ r) := by simp [quoteM]
      have e1 := start e0 (by decide)
      have hq := quot_read (E := E) (cnt := cnt + 1) hdr hu1 hl
      rw [e0] at hdr
      obtain ⟨w1, w2, w3⟩ := word_first hdr (by decide)
      rw [valM]
      simp only [e1]
      rw [if_neg hdp, if_neg hct, w1, w2, w3, byte_at hdr, if_neg (by decide), if_neg (by decide), if_neg (by decide), if_neg (by decide), if_pos (by decide), hq]
theorem list_read {E : ErrNo} {s : Str} : ∀ (xs : List JV) {u r : Str} {n deep m i cnt : Nat} {acc : List JV}, SpL xs u → plainL xs = true → textsL xs = true → knownL xs = true → deepL xs m = true → deep + m = 24 → cnt + cntL xs ≤ 2000 → 2 * cntL xs + 1 ≤ n →
    s.drop i = u ++ 93 :: r → listM E s n deep i cnt acc = .ok (.mk 5 false [] (acc ++ xs) []) (i + u.length + 1) (cnt + cntL xs)
  | [], u, r, n, deep, m, i, cnt, acc, hs, _, _, _, _, _, _, _, _ => by simp only [SpL] at hs
  | x :: xs, u, r, n, deep, m, i, cnt, acc, hs, hp, hu, hk, hd, hm, hc, hn, h => by
    cases n with
    | zero => omega
    | succ n =>
    simp only [cntL] at hc hn ⊢
    simp only [plainL, textsL, knownL, deepL, Bool.and_eq_true] at hp hu hk hd
    have hpos := cnt_pos x
    simp only [SpL] at hs
    rcases hs with ⟨rfl, a, t, b, ha, ht, hb, rfl⟩ | ⟨a, t, b, v, ha, ht, hb, hv, rfl⟩
    · have h' : s.drop i = a ++ t ++ (b ++ 93 :: r) := by rw [h]; simp
      have hv := val_read (E := E) (n := n) (deep := deep + 1) (cnt := cnt) x ht hp.1 hu.1 hk.1 hd.1 (by omega) (by omega) (by omega) h' ha (Stop.bl hb (Stop.one (.inr (.inl rfl))))
      have hj := drop_app h'
      rw [List.length_append, ← Nat.add_assoc] at hj
      have e := blank_all hb hj (by decide)
      rw [listM, hv]
      simp only [e]
      rw [byte_at (drop_app hj), if_pos (by decide)]
      simp only [cntL, Nat.add_zero, List.length_append]
      congr 1; omega
    · have h' : s.drop i = a ++ t ++ (b ++ 44 :: (v ++ 93 :: r)) := by rw [h]; simp
      have hx := val_read (E := E) (n := n) (deep := deep + 1) (cnt := cnt) x ht hp.1 hu.1 hk.1 hd.1 (by omega) (by omega) (by omega) h' ha (Stop.bl hb (Stop.one (.inl rfl)))
      have hj := drop_app h'
      rw [List.length_append, ← Nat.add_assoc] at hj
      have e := blank_all hb hj (by decide)
      have hr := list_read (E := E) (n := n) (deep := deep) (cnt := cnt + cntM x) (acc := acc ++ [x]) xs hv hp.2 hu.2 hk.2 hd.2 hm (by omega) (by omega) (drop_cons (drop_app hj))
      rw [listM, hx]
      simp only [e]
      rw [byte_at (drop_app hj), if_neg (by decide), if_pos (by decide), hr]
      simp only [List.append_assoc, List.singleton_append, List.length_append, List.length_cons, List.length_nil]
      congr 1 <;> omega
theorem obj_read {E : ErrNo} {s : Str} : ∀ (xs : List JV) (ks : List Str) {u r : Str} {n deep m i cnt : Nat} {ys : List JV} {js : List Str}, SpO xs ks u → plainL xs = true → textsL xs = true → knownL xs = true → deepL xs m = true → ks.all utfM = true → (∀ k ∈ ks, k.length ≤ 16384) → Rise (js ++ ks) → js.length = ys.length → deep + m = 24 → cnt + cntL xs ≤ 2000 → 2 * cntL xs + 1 ≤ n →
    s.drop i = u ++ 125 :: r → objM E s n deep i cnt (.mk 6 false [] ys js) = .ok (.mk 6 false [] (ys ++ xs) (js ++ ks)) (i + u.length + 1) (cnt + cntL xs)
  | [], _, u, r, n, deep, m, i, cnt, ys, js, hs, _, _, _, _, _, _, _, _, _, _, _, _ => by simp only [SpO] at hs
  | x :: xs, [], u, r, n, deep, m, i, cnt, ys, js, hs, _, _, _, _, _, _, _, _, _, _, _, _ => by simp only [SpO] at hs
  | x :: xs, k :: ks, u, r, n, deep, m, i, cnt, ys, js, hs, hp, hu, hk, hd, hku, hkl, hri, hjy, hm, hc, hn, h => by
    cases n with
    | zero => omega
    | succ n =>
    simp only [cntL] at hc hn ⊢
    simp only [plainL, textsL, knownL, deepL, Bool.and_eq_true] at hp hu hk hd
    simp only [List.all_cons, Bool.and_eq_true] at hku
    have hpos := cnt_pos x
    have hg := get_last (ys := ys) hri
    have hput := put_last (x := x) hri hjy
    -- the key, the colon, the value
    have read : ∀ {a b c t d q : Str}, BL a → BL b → BL c → Sp x t → BL d → s.drop i = a ++ (quoteM k ++ (b ++ 58 :: (c ++ t ++ (d ++ q)))) → Stop (d ++ q) → blankM s i = i + a.length ∧ byteM s (i + a.length) = 34 ∧ quotM E s (i + a.length) cnt = .ok k (i + a.length + (quoteM k).length) cnt ∧
        blankM s (i + a.length + (quoteM k).length) = i + a.length + (quoteM k).length + b.length ∧ byteM s (i + a.length + (quoteM k).length + b.length) = 58 ∧
        valM E s n (deep + 1) (i + a.length + (quoteM k).length + b.length + 1) cnt = .ok x (i + a.length + (quoteM k).length + b.length + 1 + c.length + t.length) (cnt + cntM x) ∧ s.drop (i + a.length + (quoteM k).length + b.length + 1 + c.length + t.length) = d ++ q := by
      intro a b c t d q ha hb hc' ht hd' h' hst
      have hq1 := drop_app h'
      have eq : quoteM k ++ (b ++ 58 :: (c ++ t ++ (d ++ q))) = 34 :: (k.flatMap escB ++ [34] ++ (b ++ 58 :: (c ++ t ++ (d ++ q)))) := by simp [quoteM]
      have hq2 := drop_app hq1
      have hv1 := drop_cons (drop_app hq2)
      refine ⟨blank_all ha (by rw [h', eq]) (by decide), by rw [eq] at hq1; exact byte_at hq1, quot_read hq1 hku.1 (hkl k List.mem_cons_self), blank_all hb hq2 (by decide), byte_at (drop_app hq2), ?_, ?_⟩
      · exact val_read (E := E) (n := n) (deep := deep + 1) (cnt := cnt) x ht hp.1 hu.1 hk.1 hd.1 (by omega) (by omega) (by omega) hv1 hc' hst
      · have := drop_app hv1
        rwa [List.length_append, ← Nat.add_assoc] at this
    simp only [SpO] at hs
    rcases hs with ⟨rfl, rfl, a, b, c, t, d, ha, hb, hc', ht, hd', rfl⟩ | ⟨a, b, c, t, d, v, ha, hb, hc', ht, hd', hv, rfl⟩
    · obtain ⟨e1, e2, e3, e4, e5, e6, hj⟩ := read (q := 125 :: r) ha hb hc' ht hd' (by rw [h]; simp) (Stop.bl hd' (Stop.one (.inr (.inr rfl))))
      have e7 := blank_all hd' hj (by decide)
      rw [objM]
      simp only [e1]
      rw [e2, if_neg (by decide), e3]
      simp only [hg, Bool.false_eq_true, if_false]
      simp only [e4]
      rw [e5, if_neg (by decide), e6]
      simp only [e7]
      rw [byte_at (drop_app hj), if_pos (by decide), hput]
      simp only [cntL, Nat.add_zero, List.length_append, List.length_cons, List.length_nil]
      congr 1; omega
    · obtain ⟨e1, e2, e3, e4, e5, e6, hj⟩ := read (q := 44 :: (v ++ 125 :: r)) ha hb hc' ht hd' (by rw [h]; simp) (Stop.bl hd' (Stop.one (.inl rfl)))
      have e7 := blank_all hd' hj (by decide)
      have hr := obj_read (E := E) (n := n) (deep := deep) (cnt := cnt + cntM x) (ys := ys ++ [x]) (js := js ++ [k]) xs ks hv hp.2 hu.2 hk.2 hd.2 hku.2 (fun y hy => hkl y (List.mem_cons_of_mem _ hy)) (by rw [List.append_assoc]; exact hri) (by simp [hjy]) hm (by omega) (by omega) (drop_cons (drop_app hj))
      rw [objM]
      simp only [e1]
      rw [e2, if_neg (by decide), e3]
      simp only [hg, Bool.false_eq_true, if_false]
      simp only [e4]
      rw [e5, if_neg (by decide), e6]
      simp only [e7]
      rw [byte_at (drop_app hj), if_neg (by decide), if_pos (by decide), hput, hr]
      simp only [List.append_assoc, List.singleton_append, List.length_append, List.length_cons, List.length_nil]
      congr 1 <;> omega
end
end Go.Eng
namespace Go.Eng
open Go Go.Num
theorem byte_lt {s : Str} {i : Nat} (h : 0 ≤ byteM s i) : i < s.length := by
  apply Nat.lt_of_not_le
  intro hle
  have := byteM_neg.2 hle
  omega
theorem drop_here {s : Str} {i : Nat} (h : i < s.length) : s.drop i = s[i] :: s.drop (i + 1) := List.drop_eq_getElem_cons h
theorem blank_go {s : Str} {i : Nat} (h : isBlank (byteM s i) = true) : i < s.length ∧ blankM s i = blankM s (i + 1) := by
  have hlt : i < s.length := byte_lt (by unfold isBlank at h; simp only [Bool.or_eq_true, decide_eq_true_eq] at h; omega)
  refine ⟨hlt, blank_step (drop_here hlt) ?_⟩
  rw [← byte_at (drop_here hlt)]; exact h
theorem blank_fin (s : Str) : ∀ (n i : Nat), s.length - i ≤ n → i ≤ blankM s i ∧ (i ≤ s.length → blankM s i ≤ s.length) ∧ isBlank (byteM s (blankM s i)) = false := by
  intro n
  induction n with
  | zero =>
    intro i hn
    have hb : isBlank (byteM s i) = false := by rw [byteM_out (by omega)]; rfl
    rw [blank_stop hb]
    exact ⟨Nat.le_refl _, id, hb⟩
  | succ n ih =>
    intro i hn
    cases hb : isBlank (byteM s i) with
    | false => rw [blank_stop hb]; exact ⟨Nat.le_refl _, id, hb⟩
    | true =>
      obtain ⟨hlt, e⟩ := blank_go hb
      have := ih (i + 1) (by omega)
      rw [e]
      exact ⟨by omega, fun _ => this.2.1 (by omega), this.2.2⟩
theorem blank_ge (s : Str) (i : Nat) : i ≤ blankM s i := (blank_fin s _ i (Nat.le_refl _)).1
theorem blank_le {s : Str} {i : Nat} (h : i ≤ s.length) : blankM s i ≤ s.length := (blank_fin s _ i (Nat.le_refl _)).2.1 h
theorem blank_not (s : Str) (i : Nat) : isBlank (byteM s (blankM s i)) = false := (blank_fin s _ i (Nat.le_refl _)).2.2
theorem blank_idem (s : Str) (i : Nat) : blankM s (blankM s i) = blankM s i := blank_stop (blank_not s i)
theorem dig_stop {s : Str} {i : Nat} (h : isDig (byteM s i) = false) : digM s i = i := by
  unfold digM
  cases s.length - i with
  | zero => rfl
  | succ n => rw [digGo, h]; rfl
theorem dig_go' {s : Str} {i : Nat} (h : isDig (byteM s i) = true) : i < s.length ∧ digM s i = digM s (i + 1) := by
  have hlt : i < s.length := byte_lt (by unfold isDig at h; simp only [Bool.and_eq_true, decide_eq_true_eq] at h; omega)
  refine ⟨hlt, ?_⟩
  unfold digM
  rw [show s.length - i = (s.length - (i + 1)) + 1 by omega, digGo, h]
  rfl
theorem dig_fin (s : Str) : ∀ (n i : Nat), s.length - i ≤ n → i ≤ digM s i ∧ (i ≤ s.length → digM s i ≤ s.length) ∧ isDig (byteM s (digM s i)) = false ∧ ∀ j, i ≤ j → j < digM s i → isDig (byteM s j) = true := by
  intro n
  induction n with
  | zero =>
    intro i hn
    have hb : isDig (byteM s i) = false := by rw [byteM_out (by omega)]; rfl
    rw [dig_stop hb]
    exact ⟨Nat.le_refl _, id, hb, fun j h1 h2 => by omega⟩
  | succ n ih =>
    intro i hn
    cases hb : isDig (byteM s i) with
    | false => rw [dig_stop hb]; exact ⟨Nat.le_refl _, id, hb, fun j h1 h2 => by omega⟩
    | true =>
      obtain ⟨hlt, e⟩ := dig_go' hb
      have := ih (i + 1) (by omega)
      rw [e]
      refine ⟨by omega, fun _ => this.2.1 (by omega), this.2.2.1, fun j h1 h2 => ?_⟩
      rcases Nat.eq_or_lt_of_le h1 with rfl | h
      · exact hb
      · exact this.2.2.2 j h h2
theorem digM_ge (s : Str) (i : Nat) : i ≤ digM s i := (dig_fin s _ i (Nat.le_refl _)).1
theorem digM_le {s : Str} {i : Nat} (h : i ≤ s.length) : digM s i ≤ s.length := (dig_fin s _ i (Nat.le_refl _)).2.1 h
theorem digM_all {s : Str} {i j : Nat} (h1 : i ≤ j) (h2 : j < digM s i) : isDig (byteM s j) = true := (dig_fin s _ i (Nat.le_refl _)).2.2.2 j h1 h2
theorem numDig {s : Str} {j : Nat} (h : isDig (byteM s j) = true) (hj : j < s.length) : Num.isDig s[j] = true := by
  rw [byteM_in hj] at h
  have e : bt s j = s[j].toNat := by unfold bt; simp [List.getD_eq_getElem?_getD, hj]
  rw [e] at h
  unfold isDig at h
  simp only [Bool.and_eq_true, decide_eq_true_eq] at h
  unfold Num.isDig
  simp only [Bool.and_eq_true, decide_eq_true_eq, UInt8.le_iff_toNat_le]
  have e1 : (48 : UInt8).toNat = 48 := rfl
  have e2 : (57 : UInt8).toNat = 57 := rfl
  omega
theorem num_good {s : Str} {i first stop : Nat} (hf : first = if byteM s i = 45 then i + 1 else i) (hs : stop = if byteM s first = 48 then first + 1 else digM s first) (h1 : stop ≠ first) (h2 : ¬ 100 < stop - first) :
    goodN ((s.drop i).take (stop - i)) = decide ((s.drop i).take (stop - i) ≠ [45, 48]) ∧ stop ≤ s.length ∧ i < stop := by
  have hfi : i ≤ first ∧ first ≤ i + 1 := by rw [hf]; split <;> omega
  have hfl : first < s.length := by
    by_cases h : byteM s first = 48
    · exact byte_lt (by omega)
    · rw [if_neg h] at hs
      cases hb : isDig (byteM s first) with
      | true => exact (dig_go' hb).1
      | false => rw [dig_stop hb] at hs; exact absurd hs h1
  have hsl : stop ≤ s.length := by
    rw [hs]
    split
    · omega
    · exact digM_le (by omega)
  have hsg : first < stop := by
    have : first ≤ stop := by rw [hs]; split; omega; exact digM_ge _ _
    omega
  refine ⟨?_, hsl, by omega⟩
  -- the digits
  have hdl : ((s.drop first).take (stop - first)).length = stop - first := by rw [List.length_take, List.length_drop]; omega
  have hall : ((s.drop first).take (stop - first)).all Num.isDig = true := by
    rw [List.all_eq_true]
    intro c hc
    obtain ⟨j, hj, rfl⟩ := List.getElem_of_mem hc
    rw [hdl] at hj
    rw [List.getElem_take, List.getElem_drop]
    refine numDig ?_ (by omega)
    by_cases h : byteM s first = 48
    · rw [if_pos h] at hs
      have : j = 0 := by omega
      subst this
      rw [Nat.add_zero, h]; rfl
    · rw [if_neg h] at hs
      exact digM_all (i := first) (by omega) (by omega)
  have hhead : ((s.drop first).take (stop - first)).head? = some s[first] := by
    rw [drop_here hfl, show stop - first = (stop - first - 1) + 1 by omega, List.take_succ_cons]; rfl
  have hdig0 : Num.isDig s[first] = true := by
    rw [List.all_eq_true] at hall
    refine hall _ ?_
    rw [drop_here hfl, show stop - first = (stop - first - 1) + 1 by omega, List.take_succ_cons]
    exact List.mem_cons_self
  have hn45 : s[first] ≠ 45 := fun e => by rw [e] at hdig0; exact absurd hdig0 (by decide)
  have hb0 : byteM s first = (s[first].toNat : Int) := byte_at (drop_here hfl)
  have h48 : s[first] = 48 → stop = first + 1 := fun e => by
    rw [hs, if_pos (by rw [hb0, e]; rfl)]
  -- the text with its sign
  generalize hd : (s.drop first).take (stop - first) = d at *
  have hne : d ≠ [] := fun e => by rw [e] at hdl; simp at hdl; omega
  have ht : (s.drop i).take (stop - i) = d ∧ dig d = d ∨ (s.drop i).take (stop - i) = 45 :: d := by
    by_cases h : byteM s i = 45
    · rw [if_pos h] at hf
      right
      have hil : i < s.length := by omega
      have e : s[i] = 45 := by
        have := byte_at (drop_here hil)
        rw [h] at this
        exact UInt8.toNat_inj.1 (by show s[i].toNat = 45; omega)
      rw [drop_here hil, show stop - i = (stop - first) + 1 by omega, List.take_succ_cons, e, ← hf, hd]
    · rw [if_neg h] at hf
      left
      subst hf
      refine ⟨hd, ?_⟩
      cases d with
      | nil => exact absurd rfl hne
      | cons c d =>
        simp only [List.head?_cons, Option.some.injEq] at hhead
        unfold dig
        simp [hhead, hn45]
  have hdigd : dig ((s.drop i).take (stop - i)) = d := by
    rcases ht with ⟨h, h'⟩ | h
    · rw [h, h']
    · rw [h]; simp [dig]
  unfold goodN
  rw [hdigd, hhead, hall, Bool.and_true, decide_eq_true (by omega : 1 ≤ d.length), decide_eq_true (by omega : d.length ≤ 100)]
  by_cases e : s[first] = 48
  · have hst := h48 e
    have hd1 : d = [48] := by
      cases d with
      | nil => exact absurd rfl hne
      | cons c d =>
        simp only [List.head?_cons, Option.some.injEq] at hhead
        have : d = [] := List.eq_nil_of_length_eq_zero (by simp at hdl; omega)
        rw [this, hhead, e]
    rcases ht with ⟨h, _⟩ | h
    · rw [h, hd1, e]; decide
    · rw [h, hd1, e]; decide
  · rw [show ((some s[first] == some 48) : Bool) = false by simpa using e]
    have hnd : ¬ (s.drop i).take (stop - i) = [45, 48] := by
      intro h2
      rcases ht with ⟨h, _⟩ | h
      · rw [h2] at h
        rw [← h] at hhead
        simp only [List.head?_cons, Option.some.injEq] at hhead
        exact hn45 hhead.symm
      · rw [h2] at h
        simp only [List.cons.injEq, true_and] at h
        rw [← h] at hhead
        simp only [List.head?_cons, Option.some.injEq] at hhead
        exact e hhead.symm
    simp [hnd]
theorem hexM_fits {s : Str} {i : Nat} (h : 0 ≤ hexM s i) : i + 6 ≤ s.length := by
  unfold hexM at h
  split at h
  · rename_i h1; exact h1.1
  · omega
theorem escM_fits {s : Str} {i k : Nat} {t : Str} (h : escM s i = some (t, k)) : i + k ≤ s.length := by
  have two : ∀ {c : Int}, 0 ≤ c → byteM s (i + 1) = c → i + 2 ≤ s.length := fun hc e => by
    have := byte_lt (s := s) (i := i + 1) (by omega)
    omega
  rw [escM_def] at h
  have pick : ∀ {c : Int} {u : Str} {R : Option (Str × Nat)}, 0 ≤ c → (if byteM s (i + 1) = c then some (u, 2) else R) = some (t, k) → i + k ≤ s.length ∨ R = some (t, k) := fun {c u R} hc h => by
    split at h
    · rename_i e
      left
      have := two hc e
      cases h
      exact this
    · exact .inr h
  refine (pick (by decide) h).elim id fun h => (pick (by decide) h).elim id fun h => (pick (by decide) h).elim id fun h => (pick (by decide) h).elim id fun h => (pick (by decide) h).elim id fun h => (pick (by decide) h).elim id fun h => (pick (by decide) h).elim id fun h => (pick (by decide) h).elim id fun h => ?_
  split at h
  · cases h
  rename_i h1
  split at h
  · split at h
    · cases h
    · have := hexM_fits (s := s) (i := i + 6) (by omega)
      cases h
      omega
  · have := hexM_fits (s := s) (i := i) (by omega)
    cases h
    omega
end Go.Eng
namespace Go.Eng
open Go Go.Num
def lsum : List JV → Nat
  | [] => 0
  | x :: l => (showM x).length + 1 + lsum l
def osum : List (Str × JV) → Nat
  | [] => 0
  | (k, x) :: l => (quoteM k).length + (showM x).length + 2 + osum l
def cntP : List (Str × JV) → Nat
  | [] => 0
  | (_, x) :: l => cntM x + cntP l
theorem join_two (x y : Str) (r : List Str) : joinM (x :: y :: r) = x ++ [44] ++ joinM (y :: r) := rfl
theorem lsum_join : ∀ (xs : List JV), xs ≠ [] → (joinM (showL xs)).length + 1 = lsum xs
  | [], h => absurd rfl h
  | [x], _ => by simp [showL, joinM, lsum]
  | x :: y :: r, _ => by
    have := lsum_join (y :: r) (by simp)
    simp only [showL, join_two, lsum, List.length_append, List.length_cons, List.length_nil] at this ⊢
    omega
theorem osum_join : ∀ (l : List (Str × JV)), l ≠ [] → (joinM (List.zipWith (fun a b => quoteM a ++ [58] ++ b) (l.map (·.1)) (showL (l.map (·.2))))).length + 1 = osum l
  | [], h => absurd rfl h
  | [(k, x)], _ => by simp [showL, joinM, osum]; omega
  | (k, x) :: (k', y) :: r, _ => by
    have := osum_join ((k', y) :: r) (by simp)
    simp only [List.map_cons, showL, List.zipWith_cons_cons, join_two, osum, List.length_append, List.length_cons, List.length_nil] at this ⊢
    omega
theorem cntL_map : ∀ (l : List (Str × JV)), cntL (l.map (·.2)) = cntP l
  | [] => rfl
  | (k, x) :: l => by simp only [List.map_cons, cntL, cntP]; rw [cntL_map l]
theorem ins_mem {l : List (Str × JV)} {k : Str} {t : JV} : ∀ p, p ∈ insP l k t ↔ p = (k, t) ∨ p ∈ l := by
  induction l with
  | nil => intro p; simp [insP]
  | cons q r ih =>
    obtain ⟨a, y⟩ := q
    intro p
    simp only [insP]
    split
    · rw [List.mem_cons]
    · rw [List.mem_cons, ih p, List.mem_cons]
      constructor
      · rintro (h | h | h)
        · exact .inr (.inl h)
        · exact .inl h
        · exact .inr (.inr h)
      · rintro (h | h | h)
        · exact .inr (.inl h)
        · exact .inl h
        · exact .inr (.inr h)
theorem ins_osum (l : List (Str × JV)) (k : Str) (x : JV) : osum (insP l k x) = (quoteM k).length + (showM x).length + 2 + osum l := by
  induction l with
  | nil => rfl
  | cons q r ih =>
    obtain ⟨a, y⟩ := q
    simp only [insP]
    split
    · rfl
    · simp only [osum, ih]; omega
theorem ins_cnt (l : List (Str × JV)) (k : Str) (x : JV) : cntP (insP l k x) = cntM x + cntP l := by
  induction l with
  | nil => rfl
  | cons q r ih =>
    obtain ⟨a, y⟩ := q
    simp only [insP]
    split
    · rfl
    · simp only [cntP, ih]; omega
theorem ins_len (l : List (Str × JV)) (k : Str) (x : JV) : (insP l k x).length = l.length + 1 := by
  induction l with
  | nil => rfl
  | cons q r ih =>
    obtain ⟨a, y⟩ := q
    simp only [insP]
    split
    · rfl
    · simp only [List.length_cons, ih]
theorem rise_ins {l : List (Str × JV)} {k : Str} {x : JV} (h : Rise (l.map (·.1))) (hk : k ∉ l.map (·.1)) : Rise ((insP l k x).map (·.1)) := by
  induction l with
  | nil => exact List.pairwise_singleton _ _
  | cons q r ih =>
    obtain ⟨a, y⟩ := q
    simp only [List.map_cons] at h hk
    have hp := List.pairwise_cons.1 h
    simp only [insP]
    split
    · rename_i hlt
      simp only [List.map_cons]
      refine List.Pairwise.cons (fun c hc => ?_) h
      rcases List.mem_cons.1 hc with rfl | hc
      · exact hlt
      · exact less_trans hlt (hp.1 c hc)
    · rename_i hlt
      have hka : k ≠ a := fun e => hk (by rw [e]; exact List.mem_cons_self)
      have hak : Op.bytesLess a k = true := by
        rcases less_tri k a with h | h | h
        · exact absurd h hlt
        · exact absurd h hka
        · exact h
      simp only [List.map_cons]
      refine List.Pairwise.cons (fun c hc => ?_) (ih hp.2 fun h => hk (List.mem_cons_of_mem _ h))
      obtain ⟨p, hp1, rfl⟩ := List.mem_map.1 hc
      rcases (ins_mem p).1 hp1 with rfl | hp1
      · exact hak
      · exact hp.1 _ (List.mem_map.2 ⟨p, hp1, rfl⟩)
theorem rise_ok : ∀ {ks : List Str}, Rise ks → (∀ k ∈ ks, k.length ≤ 16384) → keysOk ks = true
  | [], _, _ => rfl
  | [a], _, h => by simpa [keysOk] using h a (by simp)
  | a :: b :: r, hr, h => by
    have hp := List.pairwise_cons.1 hr
    have ih := rise_ok (ks := b :: r) hp.2 fun k hk => h k (List.mem_cons_of_mem _ hk)
    simp only [keysOk]
    rw [decide_eq_true (h a (by simp)), hp.1 b (by simp), ih]; rfl
theorem zip_maps (l : List (Str × JV)) : (l.map (·.1)).zip (l.map (·.2)) = l := by
  induction l with
  | nil => rfl
  | cons q r ih => simp only [List.map_cons, List.zip_cons_cons, ih]
theorem get_none {l : List (Str × JV)} {k : Str} (h : (getM (mkO l) k).isSome = false) : k ∉ l.map (·.1) := by
  intro hm
  unfold getM mkO at h
  simp only [JV.k, JV.ks, JV.xs, if_true] at h
  cases hx : idxK (l.map (·.1)) k with
  | none => exact idxK_none.1 hx hm
  | some i =>
    rw [hx] at h
    have := (List.getElem?_eq_some_iff.1 (idxK_spec hx)).1
    rw [List.length_map] at this
    simp [this] at h
theorem put_mkO {l : List (Str × JV)} {k : Str} {x : JV} (h : k ∉ l.map (·.1)) : putM (mkO l) k x = mkO (insP l k x) := by
  unfold putM
  have e1 : (mkO l).k = 6 := rfl
  have e2 : (mkO l).ks = l.map (·.1) := rfl
  have e3 : (mkO l).xs = l.map (·.2) := rfl
  rw [if_pos e1, e2, e3, zip_maps]
  congr 2
  unfold dropP
  rw [List.filter_eq_self]
  intro p hp
  rw [Bool.not_eq_true', decide_eq_false_iff_not]
  intro e
  exact h (List.mem_map.2 ⟨p, hp, e⟩)
structure Item (m : Nat) (y : JV) : Prop where
  plain : plainM y = true
  texts : textsM y = true
  known : knownM y = true
  deep : deepM y m = true
structure ItemP (m : Nat) (p : Str × JV) : Prop where
  len : p.1.length ≤ 16384
  utf : utfM p.1 = true
  item : Item m p.2
structure Back (s : Str) (deep i j cnt c : Nat) (v : JV) : Prop where
  lev : deep ≤ 24
  item : Item (25 - deep) v
  cnt : c = cnt + cntM v
  max : c ≤ 2000
  len : (showM v).length + i ≤ j
  fits : j ≤ s.length
theorem textsL_all (xs : List JV) : textsL xs = xs.all textsM := by
  induction xs with
  | nil => rfl
  | cons x xs ih => simp [textsL, ih]
theorem item_list {m : Nat} {xs : List JV} (h : ∀ y ∈ xs, Item m y) : Item (m + 1) (.mk 5 false [] xs []) := by
  refine ⟨?_, ?_, ?_, ?_⟩
  · simp only [plainM, plainL_all, Bool.and_eq_true, List.all_eq_true]
    exact ⟨by simp [headOk, keysOk], fun y hy => (h y hy).plain⟩
  · simp only [textsM, textsL_all, Bool.and_eq_true, List.all_eq_true]
    exact ⟨⟨rfl, by simp⟩, fun y hy => (h y hy).texts⟩
  · simp only [knownM, knownL_all, Bool.and_eq_true, List.all_eq_true]
    exact ⟨by decide, fun y hy => (h y hy).known⟩
  · rw [deepM_succ, deepL_all, List.all_eq_true]
    exact fun y hy => (h y hy).deep
theorem item_obj {m : Nat} {l : List (Str × JV)} (hr : Rise (l.map (·.1))) (h : ∀ p ∈ l, ItemP m p) : Item (m + 1) (mkO l) := by
  have hx : ∀ y ∈ l.map (·.2), Item m y := fun y hy => by
    obtain ⟨p, hp, rfl⟩ := List.mem_map.1 hy
    exact (h p hp).item
  have hk := rise_ok hr fun k hk => by
    obtain ⟨p, hp, rfl⟩ := List.mem_map.1 hk
    exact (h p hp).len
  refine ⟨?_, ?_, ?_, ?_⟩
  · simp only [mkO, plainM, plainL_all, Bool.and_eq_true, List.all_eq_true]
    exact ⟨by simp [headOk, hk], fun y hy => (hx y hy).plain⟩
  · simp only [mkO, textsM, textsL_all, Bool.and_eq_true, List.all_eq_true]
    refine ⟨⟨rfl, fun k hk => ?_⟩, fun y hy => (hx y hy).texts⟩
    obtain ⟨p, hp, rfl⟩ := List.mem_map.1 hk
    exact (h p hp).utf
  · simp only [mkO, knownM, knownL_all, Bool.and_eq_true, List.all_eq_true]
    exact ⟨by decide, fun y hy => (hx y hy).known⟩
  · unfold mkO
    rw [deepM_succ, deepL_all, List.all_eq_true]
    exact fun y hy => (hx y hy).deep
theorem ascii_utf {t : Str} (h : ∀ c ∈ t, c.toNat < 128) : Utf t := by
  induction t with
  | nil => exact .nil
  | cons c t ih => exact Utf.cons (u := [c]) (rn_one (h c List.mem_cons_self)) (ih fun x hx => h x (List.mem_cons_of_mem _ hx))
theorem goodN_utf {t : Str} (h : goodN t = true) : utfM t = true := by
  obtain ⟨_, _, _, g4⟩ := goodN_out h
  rw [List.all_eq_true] at g4
  have hd : ∀ c ∈ dig t, c.toNat < 128 := fun c hc => by have := (isDig_num (g4 c hc)).2; omega
  refine (utf_iff t).2 (ascii_utf fun c hc => ?_)
  cases t with
  | nil => cases hc
  | cons a r =>
    by_cases h45 : a = 45
    · subst h45
      have e : dig (45 :: r) = r := by simp [dig]
      rw [e] at hd
      rcases List.mem_cons.1 hc with rfl | hc
      · decide
      · exact hd c hc
    · have e : dig (a :: r) = a :: r := by simp [dig, h45]
      rw [e] at hd
      exact hd c hc
theorem item_leaf {k : Int} {b : Bool} {t : Str} {m : Nat} (h1 : headOk k b t 0 [] = true) (h2 : utfM t = true) (h3 : k ≠ 1) : Item (m + 1) (.mk k b t [] []) := by
  refine ⟨?_, ?_, ?_, ?_⟩
  · simp only [plainM, plainL, Bool.and_true]; exact h1
  · simp only [textsM, textsL, List.all_nil, Bool.and_true]; exact h2
  · simp only [knownM, knownL, Bool.and_true, Bool.not_eq_true', decide_eq_false_iff_not]; exact h3
  · rw [deepM_succ]; rfl
theorem num_back {E : ErrNo} {s : Str} {i cnt j c m : Nat} {v : JV} (h : numM E s i cnt = .ok v j c) : Item (m + 1) v ∧ c = cnt ∧ cntM v = 1 ∧ (showM v).length + i ≤ j ∧ j ≤ s.length := by
  unfold numM at h
  simp only at h
  generalize hf : (if byteM s i = 45 then i + 1 else i) = first at *
  generalize hs : (if byteM s first = 48 then first + 1 else digM s first) = stop at *
  split at h
  · cases h
  split at h
  · cases h
  split at h
  · cases h
  rename_i h1 h2 h3
  obtain ⟨hg, hl, hlt⟩ := num_good hf.symm hs.symm h1 h2
  generalize ht : (s.drop i).take (stop - i) = t at *
  have htl : t.length = stop - i := by rw [← ht, List.length_take, List.length_drop]; omega
  have hgt : goodN (if t = [45, 48] then [48] else t) = true := by
    split
    · decide
    · rename_i hne; rw [hg]; exact decide_eq_true hne
  have hlen : (if t = [45, 48] then ([48] : Str) else t).length + i ≤ stop := by
    split
    · simp; omega
    · omega
  cases h
  generalize (if t = [45, 48] then ([48] : Str) else t) = u at *
  refine ⟨item_leaf (by simp [headOk, keysOk, hgt]) (goodN_utf hgt) (by decide), rfl, rfl, ?_, hl⟩
  rw [showM_eq]
  simpa using hlen
set_option maxHeartbeats 1000000 in
theorem back_all (E : ErrNo) (s : Str) : ∀ n,
    (∀ {deep i cnt v j c}, i ≤ s.length → cnt ≤ 2000 → valM E s n deep i cnt = .ok v j c → Back s deep i j cnt c v) ∧
    (∀ {deep i cnt acc v j c}, i ≤ s.length → cnt ≤ 2000 → listM E s n deep i cnt acc = .ok v j c → ∃ ys, ys ≠ [] ∧ v = .mk 5 false [] (acc ++ ys) [] ∧ (∀ y ∈ ys, Item (24 - deep) y) ∧ c = cnt + cntL ys ∧ c ≤ 2000 ∧ lsum ys + i ≤ j ∧ j ≤ s.length) ∧
    (∀ {deep i cnt l v j c}, i ≤ s.length → cnt ≤ 2000 → objM E s n deep i cnt (mkO l) = .ok v j c → Rise (l.map (·.1)) → (∀ p ∈ l, ItemP (24 - deep) p) →
      ∃ l', l' ≠ [] ∧ v = mkO l' ∧ Rise (l'.map (·.1)) ∧ (∀ p ∈ l', ItemP (24 - deep) p) ∧ c + cntP l = cnt + cntP l' ∧ c ≤ 2000 ∧ osum l' + i ≤ osum l + j ∧ j ≤ s.length) := by
  intro n
  induction n with
  | zero =>
    refine ⟨fun _ _ h => ?_, fun _ _ h => ?_, fun _ _ h => ?_⟩
    · rw [valM] at h; cases h
    · rw [listM] at h; cases h
    · rw [objM] at h; cases h
  | succ n ih =>
    obtain ⟨ihv, ihl, iho⟩ := ih
    refine ⟨fun {deep i cnt v j c} hi hc h => ?_, fun {deep i cnt acc v j c} hi hc h => ?_, fun {deep i cnt l v j c} hi hc h hr hp => ?_⟩
    · rw [valM] at h
      try simp only at h
      have hb1 := blank_ge s i
      have hb2 := blank_le hi
      generalize blankM s i = i' at *
      have word : ∀ {w : Str}, wordM s i' w = true → i' + w.length ≤ s.length := fun {w} hw => by
        unfold wordM at hw
        have := congrArg List.length (of_decide_eq_true hw)
        rw [List.length_take, List.length_drop] at this
        omega
      split at h
      · cases h
      rename_i hdeep
      split at h
      · cases h
      rename_i hcnt
      have leaf : ∀ {k : Int} {b : Bool} {t : Str}, headOk k b t 0 [] = true → utfM t = true → k ≠ 1 → Item (25 - deep) (.mk k b t [] []) := fun h1 h2 h3 => by
        have := item_leaf (m := 24 - deep) h1 h2 h3
        rwa [show 24 - deep + 1 = 25 - deep by omega] at this
      split at h
      · rename_i hw
        have := word hw
        cases h
        exact ⟨by omega, leaf rfl rfl (by decide), rfl, by omega, by rw [JV.null, showM_eq]; simp; omega, by simpa using this⟩
      split at h
      · rename_i hw
        have := word hw
        cases h
        exact ⟨by omega, leaf rfl rfl (by decide), rfl, by omega, by rw [showM_eq]; simp; omega, by simpa using this⟩
      split at h
      · rename_i hw
        have := word hw
        cases h
        exact ⟨by omega, leaf rfl rfl (by decide), rfl, by omega, by rw [showM_eq]; simp; omega, by simpa using this⟩
      split at h
      · obtain ⟨h1, h2, h3, h4, h5⟩ := num_back (m := 24 - deep) h
        rw [show 24 - deep + 1 = 25 - deep by omega] at h1
        exact ⟨by omega, h1, by omega, by omega, by omega, h5⟩
      split at h
      · rename_i h34
        split at h
        · rename_i t j' c' hq
          cases h
          unfold quotM at hq
          obtain ⟨a1, a2, a3, a4, a5, a6⟩ := quot_back hq .nil
          have e : (showM (.mk 4 false t [] [])).length = (t.flatMap escB).length + 2 := by
            rw [showM_eq]; simp [quoteM]
          refine ⟨by omega, leaf (by simp [headOk, keysOk, a3]) ((utf_iff t).2 a2) (by decide), by rw [a1]; rfl, by omega, ?_, a5⟩
          rw [e]
          simp only [List.flatMap_nil, List.length_nil, Nat.zero_add] at a6
          omega
        · cases h
      split at h
      · rename_i h91
        have hlt := byte_lt (s := s) (i := i') (by omega)
        split at h
        · rename_i h93
          have hlt2 := byte_lt (s := s) (i := blankM s (i' + 1)) (by omega)
          have := blank_ge s (i' + 1)
          cases h
          exact ⟨by omega, leaf rfl rfl (by decide), rfl, by omega, by rw [showM_eq]; simp [showL, joinM]; omega, by omega⟩
        · have hg := blank_ge s (i' + 1)
          obtain ⟨ys, y1, rfl, y3, y4, y5, y6, y7⟩ := ihl (blank_le (by omega)) (by omega) h
          have hI := item_list y3
          rw [show 24 - deep + 1 = 25 - deep by omega] at hI
          have hj := lsum_join ys y1
          refine ⟨by omega, by simpa using hI, by simp only [List.nil_append, cntM]; omega, y5, ?_, y7⟩
          rw [showM_eq]
          simp only [List.nil_append]
          simp
          omega
      split at h
      · rename_i h123
        have hlt := byte_lt (s := s) (i := i') (by omega)
        split at h
        · rename_i h125
          have hlt2 := byte_lt (s := s) (i := blankM s (i' + 1)) (by omega)
          have := blank_ge s (i' + 1)
          cases h
          exact ⟨by omega, leaf rfl rfl (by decide), rfl, by omega, by rw [showM_eq]; simp [showL, joinM]; omega, by omega⟩
        · have hg := blank_ge s (i' + 1)
          obtain ⟨l', y1, rfl, y2, y3, y4, y5, y6, y7⟩ := iho (l := []) (blank_le (by omega)) (by omega) h List.Pairwise.nil (fun p hp => by cases hp)
          have hI := item_obj y2 y3
          rw [show 24 - deep + 1 = 25 - deep by omega] at hI
          have hj := osum_join l' y1
          simp only [osum, cntP] at y4 y6
          refine ⟨by omega, hI, by simp only [mkO, cntM, cntL_map]; omega, y5, ?_, y7⟩
          unfold mkO
          rw [showM_eq]
          simp
          simp at hj
          omega
      · cases h
    · rw [listM] at h
      split at h
      · cases h
      rename_i x j1 c1 hv
      obtain ⟨v1, v2, v3, v4, v5, v6⟩ := ihv hi hc hv
      rw [show 25 - (deep + 1) = 24 - deep by omega] at v2
      have hg := blank_ge s j1
      split at h
      · rename_i h93
        have hlt := byte_lt (s := s) (i := blankM s j1) (by omega)
        cases h
        refine ⟨[x], by simp, rfl, fun y hy => by rw [List.mem_singleton.1 hy]; exact v2, by simp only [cntL]; omega, v4, by simp only [lsum]; omega, by omega⟩
      split at h
      · rename_i h44
        have hlt := byte_lt (s := s) (i := blankM s j1) (by omega)
        obtain ⟨ys, y1, rfl, y3, y4, y5, y6, y7⟩ := ihl (by omega) v4 h
        refine ⟨x :: ys, by simp, by simp, fun y hy => ?_, by simp only [cntL]; omega, y5, by simp only [lsum]; omega, y7⟩
        rcases List.mem_cons.1 hy with rfl | hy
        · exact v2
        · exact y3 y hy
      · cases h
    · rw [objM] at h
      try simp only at h
      have hb1 := blank_ge s i
      have hb2 := blank_le hi
      generalize blankM s i = i' at *
      split at h
      · cases h
      rename_i h34
      split at h
      · cases h
      rename_i key j1 c1 hq
      unfold quotM at hq
      obtain ⟨a1, a2, a3, a4, a5, a6⟩ := quot_back hq .nil
      simp only [List.flatMap_nil, List.length_nil, Nat.zero_add] at a6
      have hql : (quoteM key).length = (key.flatMap escB).length + 2 := by simp [quoteM]
      split at h
      · cases h
      rename_i hget
      have hn := get_none (by simpa using hget)
      have hg1 := blank_ge s j1
      split at h
      · cases h
      rename_i h58
      have hlt := byte_lt (s := s) (i := blankM s j1) (by omega)
      split at h
      · cases h
      rename_i x j2 c2 hv
      obtain ⟨v1, v2, v3, v4, v5, v6⟩ := ihv (by omega) (by omega) hv
      rw [show 25 - (deep + 1) = 24 - deep by omega] at v2
      have hg2 := blank_ge s j2
      rw [put_mkO hn] at h
      have hr' := rise_ins (x := x) hr hn
      have hp' : ∀ p ∈ insP l key x, ItemP (24 - deep) p := fun p hpm => by
        rcases (ins_mem p).1 hpm with rfl | hpm
        · exact ⟨a3, (utf_iff key).2 a2, v2⟩
        · exact hp p hpm
      split at h
      · rename_i h125
        have hlt2 := byte_lt (s := s) (i := blankM s j2) (by omega)
        cases h
        refine ⟨insP l key x, fun e => ?_, rfl, hr', hp', by rw [ins_cnt]; omega, v4, by rw [ins_osum]; omega, by omega⟩
        have := ins_len l key x
        rw [e] at this
        simp at this
      split at h
      · rename_i h44
        have hlt2 := byte_lt (s := s) (i := blankM s j2) (by omega)
        obtain ⟨l', y1, rfl, y2, y3, y4, y5, y6, y7⟩ := iho (by omega) v4 h hr' hp'
        rw [ins_cnt] at y4
        rw [ins_osum] at y6
        exact ⟨l', y1, rfl, y2, y3, by omega, y5, by omega, y7⟩
      · cases h
theorem val_back {E : ErrNo} {s : Str} {n deep i cnt j c : Nat} {v : JV} (hi : i ≤ s.length) (hc : cnt ≤ 2000) (h : valM E s n deep i cnt = .ok v j c) : Back s deep i j cnt c v := (back_all E s n).1 hi hc h
end Go.Eng
namespace Go.Eng
open Go Go.Num
mutual
/-- what is written is a value's JSON -/
theorem sp_show : ∀ (v : JV), plainM v = true → Sp v (showM v)
  | .mk k b t xs ks, hp => by
    rw [plainM_eq, Bool.and_eq_true] at hp
    have hh := headOk_out hp.1
    simp only [JV.k, JV.b, JV.t, JV.xs, JV.ks] at hh hp
    simp only [Sp]
    by_cases k5 : k = 5
    · subst k5
      rw [if_pos rfl, showM_eq, if_neg (by decide), if_neg (by decide), if_neg (by decide), if_neg (by decide), if_neg (by decide)]
      by_cases hx : xs = []
      · subst hx
        exact .inl ⟨rfl, [], BL.nil, rfl⟩
      · exact .inr ⟨joinM (showL xs), spL_show xs hp.2 hx, rfl⟩
    rw [if_neg k5]
    by_cases k6 : k = 6
    · subst k6
      have hl : ks.length = xs.length := hh.2.2.2.2.2.2.2.2.1 rfl
      rw [if_pos rfl, showM_eq, if_neg (by decide), if_neg (by decide), if_neg (by decide), if_neg (by decide), if_pos rfl]
      by_cases hx : xs = []
      · subst hx
        have : ks = [] := List.eq_nil_of_length_eq_zero hl
        subst this
        exact .inl ⟨rfl, rfl, [], BL.nil, rfl⟩
      · exact .inr ⟨_, spO_show xs ks hp.2 hl hx, rfl⟩
    rw [if_neg k6]
    trivial
theorem spL_show : ∀ (xs : List JV), plainL xs = true → xs ≠ [] → SpL xs (joinM (showL xs))
  | [], _, h => absurd rfl h
  | [x], hp, _ => by
    simp only [plainL, Bool.and_eq_true] at hp
    simp only [SpL, showL, joinM]
    exact .inl ⟨trivial, [], showM x, [], BL.nil, sp_show x hp.1, BL.nil, by simp⟩
  | x :: y :: r, hp, _ => by
    rw [plainL, Bool.and_eq_true] at hp
    have ih := spL_show (y :: r) hp.2 (by simp)
    rw [SpL]
    exact .inr ⟨[], showM x, [], joinM (showL (y :: r)), BL.nil, sp_show x hp.1, BL.nil, ih, by simp [showL, join_two]⟩
theorem spO_show : ∀ (xs : List JV) (ks : List Str), plainL xs = true → ks.length = xs.length → xs ≠ [] → SpO xs ks (joinM (List.zipWith (fun a b => quoteM a ++ [58] ++ b) ks (showL xs)))
  | [], _, _, _, h => absurd rfl h
  | _ :: _, [], _, h, _ => by simp at h
  | [x], [k], hp, _, _ => by
    simp only [plainL, Bool.and_eq_true] at hp
    simp only [SpO, showL, List.zipWith_cons_cons, List.zipWith_nil_left, joinM]
    exact .inl ⟨trivial, trivial, [], [], [], showM x, [], BL.nil, BL.nil, BL.nil, sp_show x hp.1, BL.nil, by simp⟩
  | [x], _ :: _ :: _, _, h, _ => by simp at h
  | x :: y :: r, [k], _, h, _ => by simp at h
  | x :: y :: r, k :: k' :: ks, hp, hl, _ => by
    rw [plainL, Bool.and_eq_true] at hp
    have ih := spO_show (y :: r) (k' :: ks) hp.2 (by simpa using hl) (by simp)
    rw [SpO]
    exact .inr ⟨[], [], [], showM x, [], _, BL.nil, BL.nil, BL.nil, sp_show x hp.1, BL.nil, ih, by simp [showL, join_two]⟩
end
theorem dec_sp {E : ErrNo} {v : JV} {a t b : Str} (hs : Sp v t) (ha : BL a) (hb : BL b) (hi : Item 24 v) (hc : cntM v ≤ 2000) (hl : (a ++ t ++ b).length ≤ 65536) : ∃ j, decM E (a ++ t ++ b) = .ok v j (cntM v) := by
  have h0 : (a ++ t ++ b).drop 0 = a ++ t ++ b := rfl
  have hv := val_read (E := E) (n := 5000) (deep := 1) (m := 24) (cnt := 0) v hs hi.plain hi.texts hi.known hi.deep (by omega) (by omega) (by omega) h0 ha (by
    have := Stop.bl hb (r := []) (.inl rfl)
    rwa [List.append_nil] at this)
  have hd : (a ++ t ++ b).drop (0 + a.length + t.length) = b := by
    have := drop_app h0
    rwa [List.length_append, ← Nat.add_assoc] at this
  have he := blank_end hb hd
  refine ⟨0 + a.length + t.length, ?_⟩
  unfold decM
  rw [if_neg (by omega), hv]
  simp only [he]
  rw [if_neg (by simp only [List.length_append]; omega), Nat.zero_add, Nat.zero_add]
theorem dec_show {E : ErrNo} {v : JV} (hi : Item 24 v) (hc : cntM v ≤ 2000) (hl : (showM v).length ≤ 65536) : ∃ j, decM E (showM v) = .ok v j (cntM v) := by
  have := dec_sp (E := E) (sp_show v hi.plain) BL.nil BL.nil hi hc (by simpa using hl)
  simpa using this
theorem dec_back {E : ErrNo} {s : Str} {v : JV} {j c : Nat} (h : decM E s = .ok v j c) : Item 24 v ∧ cntM v ≤ 2000 ∧ (showM v).length ≤ s.length ∧ s.length ≤ 65536 := by
  unfold decM at h
  split at h
  · cases h
  split at h
  · cases h
  rename_i hl _ v' i' c' hv
  split at h
  · cases h
  cases h
  have hb := val_back (Nat.zero_le _) (Nat.zero_le _) hv
  exact ⟨hb.item, by have := hb.cnt; have := hb.max; omega, by have := hb.len; have := hb.fits; omega, by omega⟩
theorem BL.app {a b : Str} (h : BL a) (h' : BL b) : BL (a ++ b) := fun c hc => by
  rcases List.mem_append.1 hc with h1 | h1
  · exact h c h1
  · exact h' c h1
end Go.Eng
namespace Go.Eng
open Go
def letB (c : UInt8) : Bool := (decide (97 ≤ c.toNat) && decide (c.toNat ≤ 122)) || (decide (65 ≤ c.toNat) && decide (c.toNat ≤ 90)) || decide (c.toNat = 95)
def nmB (c : UInt8) : Bool := letB c || (decide (48 ≤ c.toNat) && decide (c.toNat ≤ 57)) || decide (c.toNat = 45)
def nameM : Str → Bool
  | [] => false
  | c :: r => letB c && r.all nmB && decide (r.length < 32)
structure AV where
  mods : List Str
  typ : Str
  nm : Str
  kind : Int
  num : Int
  key : Str
  aside : Bool
def AV.zero : AV := ⟨[], [], [], 0, 0, [], false⟩
def goodAd (a : AV) : Bool :=
  decide (a.mods.length ≤ 4) && nameM a.typ && nameM a.nm && a.mods.all nameM &&
  (if a.kind = 0 then decide (a.num = 0) && decide (a.key = []) else if a.kind = 1 then decide (0 ≤ a.num) && decide (a.num ≤ 1000000000) && decide (a.key = [])
   else decide (a.kind = 2) && decide (a.num = 0) && utfM a.key && decide (a.key.length ≤ 16384) && decide ((quoteM a.key).length ≤ 65536))
def headA (a : AV) : Str := a.mods.flatMap (fun m => m ++ [47]) ++ a.typ ++ [46] ++ a.nm
def brA (a : AV) : Str := if a.kind = 1 then [91] ++ Lib.itoa a.num ++ [93] else if a.kind = 2 then [91] ++ quoteM a.key ++ [93] else []
def showA (a : AV) : Str := headA a ++ brA a ++ (if a.aside then [126] else [])
def cmpA (a b : AV) : Int :=
  orI (cmpKs a.mods b.mods) (orI (cmpB a.typ b.typ) (orI (cmpB a.nm b.nm) (orI (cmpI a.kind b.kind) (orI (cmpI a.num b.num) (orI (cmpB a.key b.key) (cmpI (truthI a.aside) (truthI b.aside)))))))
structure Lin {α : Type} (c : α → α → Int) : Prop where
  zero : ∀ a b, c a b = 0 ↔ a = b
  anti : ∀ a b, c b a = - c a b
  trans : ∀ a b d, c a b ≤ 0 → c b d ≤ 0 → c a d ≤ 0
theorem orI_le (x y : Int) : orI x y ≤ 0 ↔ x < 0 ∨ (x = 0 ∧ y ≤ 0) := by
  unfold orI
  split <;> omega
theorem orI_neg (x y : Int) : orI (-x) (-y) = - orI x y := by
  unfold orI
  split <;> split <;> omega
theorem Lin.lex {α β γ : Type} {c1 : α → α → Int} {c2 : β → β → Int} (f : γ → α) (g : γ → β) (hfg : ∀ a b, f a = f b → g a = g b → a = b) (h1 : Lin c1) (h2 : Lin c2) : Lin (fun a b => orI (c1 (f a) (f b)) (c2 (g a) (g b))) where
  zero a b := by
    rw [orI_zero, h1.zero, h2.zero]
    exact ⟨fun ⟨x, y⟩ => hfg a b x y, fun e => by rw [e]; exact ⟨rfl, rfl⟩⟩
  anti a b := by
    rw [h1.anti (f a) (f b), h2.anti (g a) (g b), orI_neg]
  trans a b d h k := by
    rw [orI_le] at h k ⊢
    rcases h with h | ⟨h, h'⟩
    · rcases k with k | ⟨k, k'⟩
      · have := h1.trans _ _ _ (by omega : c1 (f a) (f b) ≤ 0) (by omega : c1 (f b) (f d) ≤ 0)
        rcases Int.lt_or_eq_of_le this with h3 | h3
        · exact .inl h3
        · have e := (h1.zero _ _).1 h3
          rw [← e, h1.anti] at k
          omega
      · rw [(h1.zero _ _).1 k] at h
        exact .inl h
    · have e := (h1.zero _ _).1 h
      rw [e]
      rcases k with k | ⟨k, k'⟩
      · exact .inl k
      · exact .inr ⟨k, h2.trans _ _ _ h' k'⟩
theorem Lin.of {α β : Type} {c : β → β → Int} (f : α → β) (hf : ∀ a b, f a = f b → a = b) (h : Lin c) : Lin (fun a b => c (f a) (f b)) where
  zero a b := by rw [h.zero]; exact ⟨hf a b, fun e => by rw [e]⟩
  anti a b := h.anti _ _
  trans a b d := h.trans _ _ _
theorem lin_int : Lin cmpI where
  zero := cmpI_zero
  anti a b := by unfold cmpI; split <;> split <;> (try split) <;> omega
  trans a b d := by unfold cmpI; split <;> split <;> (try split) <;> (try split) <;> (try split) <;> (try split) <;> omega
theorem cmpB_le (a b : Str) : cmpB a b ≤ 0 ↔ Op.bytesLess b a = false := by
  unfold cmpB
  constructor
  · intro h
    by_cases h1 : Op.bytesLess a b = true
    · exact less_anti h1
    · rw [if_neg h1] at h
      by_cases h2 : a = b
      · rw [h2]; exact less_irr b
      · rw [if_neg h2] at h; omega
  · intro h
    rcases less_tri a b with h1 | h1 | h1
    · rw [if_pos h1]; omega
    · rw [h1, if_neg (by rw [less_irr]; simp), if_pos rfl]; omega
    · rw [h1] at h; cases h
theorem lin_str : Lin cmpB where
  zero := cmpB_zero
  anti a b := by
    unfold cmpB
    rcases less_tri a b with h | h | h
    · rw [if_neg (by rw [less_anti h]; simp), if_pos h, if_neg (fun e => by rw [e, less_irr] at h; cases h)]; omega
    · rw [h, if_neg (by rw [less_irr]; simp), if_pos rfl]; omega
    · rw [if_pos h, if_neg (by rw [less_anti h]; simp), if_neg (fun e => by rw [e, less_irr] at h; cases h)]
  trans a b d h k := by
    rw [cmpB_le] at h k ⊢
    cases hx : Op.bytesLess d a with
    | false => rfl
    | true =>
      rcases less_tri b d with h1 | h1 | h1
      · rw [less_trans h1 hx] at h; cases h
      · rw [h1, hx] at h; cases h
      · rw [h1] at k; cases k
theorem lin_strs : Lin cmpKs where
  zero := cmpKs_zero
  anti := by
    intro a
    induction a with
    | nil => intro b; cases b <;> simp [cmpKs]
    | cons x a ih =>
      intro b
      cases b with
      | nil => simp [cmpKs]
      | cons y b => simp only [cmpKs]; rw [lin_str.anti x y, ih b, orI_neg]
  trans := by
    intro a
    induction a with
    | nil => intro b d h k; cases d <;> simp [cmpKs]
    | cons x a ih =>
      intro b d h k
      cases b with
      | nil => simp [cmpKs] at h
      | cons y b =>
        cases d with
        | nil => simp [cmpKs] at k
        | cons z d =>
          simp only [cmpKs, orI_le] at h k ⊢
          rcases h with h | ⟨h, h'⟩
          · rcases k with k | ⟨k, k'⟩
            · have := lin_str.trans x y z (by omega) (by omega)
              rcases Int.lt_or_eq_of_le this with h3 | h3
              · exact .inl h3
              · have e := (lin_str.zero _ _).1 h3
                rw [← e, lin_str.anti] at k
                omega
            · rw [(lin_str.zero _ _).1 k] at h
              exact .inl h
          · rw [(lin_str.zero _ _).1 h]
            rcases k with k | ⟨k, k'⟩
            · exact .inl k
            · exact .inr ⟨k, ih _ _ h' k'⟩
theorem lin_bool : Lin (fun a b => cmpI (truthI a) (truthI b)) := Lin.of truthI (fun a b h => by cases a <;> cases b <;> first | rfl | (exact absurd h (by decide))) lin_int
theorem lin_addr : Lin cmpA := by
  have h6 := Lin.lex (γ := Str × Bool) (·.1) (·.2) (fun a b h k => Prod.ext h k) lin_str lin_bool
  have h5 := Lin.lex (γ := Int × (Str × Bool)) (·.1) (·.2) (fun a b h k => Prod.ext h k) lin_int h6
  have h4 := Lin.lex (γ := Int × (Int × (Str × Bool))) (·.1) (·.2) (fun a b h k => Prod.ext h k) lin_int h5
  have h3 := Lin.lex (γ := Str × (Int × (Int × (Str × Bool)))) (·.1) (·.2) (fun a b h k => Prod.ext h k) lin_str h4
  have h2 := Lin.lex (γ := Str × (Str × (Int × (Int × (Str × Bool))))) (·.1) (·.2) (fun a b h k => Prod.ext h k) lin_str h3
  have h1 := Lin.lex (γ := List Str × (Str × (Str × (Int × (Int × (Str × Bool)))))) (·.1) (·.2) (fun a b h k => Prod.ext h k) lin_strs h2
  exact Lin.of (fun a : AV => (a.mods, (a.typ, (a.nm, (a.kind, (a.num, (a.key, a.aside))))))) (fun a b h => by
    cases a; cases b; simp only [Prod.mk.injEq] at h; obtain ⟨rfl, rfl, rfl, rfl, rfl, rfl, rfl⟩ := h; rfl) h1
end Go.Eng
namespace Go.Eng
open Go
set_option maxRecDepth 100000
def splitM (c : UInt8) : Str → List Str
  | [] => [[]]
  | x :: r => if x = c then [] :: splitM c r else (match splitM c r with | [] => [[x]] | h :: t => (x :: h) :: t)
theorem split_ne (c : UInt8) (s : Str) : splitM c s ≠ [] := by
  cases s with
  | nil => simp [splitM]
  | cons x r =>
    rw [splitM]
    split
    · simp
    · split <;> simp
theorem split_none {c : UInt8} : ∀ {l : Str}, (∀ x ∈ l, x ≠ c) → splitM c l = [l]
  | [], _ => rfl
  | x :: l, h => by rw [splitM, if_neg (h x (by simp)), split_none fun y hy => h y (by simp [hy])]
theorem split_app {c : UInt8} {r : Str} : ∀ {l : Str}, (∀ x ∈ l, x ≠ c) → splitM c (l ++ c :: r) = l :: splitM c r
  | [], _ => by rw [List.nil_append, splitM, if_pos rfl]
  | x :: l, h => by rw [List.cons_append, splitM, if_neg (h x (by simp)), split_app fun y hy => h y (by simp [hy])]
theorem split_count (c : UInt8) : ∀ s : Str, (splitM c s).length = s.count c + 1
  | [] => rfl
  | x :: r => by
    rw [splitM]
    by_cases h : x = c
    · subst h
      rw [if_pos rfl, List.length_cons, split_count x r, List.count_cons_self]
    · rw [if_neg h, List.count_cons_of_ne (by simpa using h)]
      have := split_count c r
      cases hs : splitM c r with
      | nil => exact absurd hs (split_ne c r)
      | cons a t => rw [hs] at this; simpa using this
theorem name_out {s : Str} (h : nameM s = true) : s ≠ [] ∧ s.length ≤ 32 ∧ ∀ c ∈ s, nmB c = true := by
  cases s with
  | nil => cases h
  | cons c r =>
    simp only [nameM, Bool.and_eq_true, List.all_eq_true, decide_eq_true_eq] at h
    refine ⟨by simp, by rw [List.length_cons]; omega, fun x hx => ?_⟩
    rcases List.mem_cons.1 hx with rfl | hx
    · unfold nmB; rw [h.1.1]; rfl
    · exact h.1.2 x hx
theorem nm_not {c : UInt8} (h : nmB c = true) : c ≠ 46 ∧ c ≠ 47 ∧ c ≠ 91 ∧ c ≠ 93 ∧ c ≠ 126 := by
  refine ⟨?_, ?_, ?_, ?_, ?_⟩ <;> (rintro rfl; exact absurd h (by decide))
theorem good_out {a : AV} (h : goodAd a = true) : a.mods.length ≤ 4 ∧ nameM a.typ = true ∧ nameM a.nm = true ∧ (∀ m ∈ a.mods, nameM m = true) ∧
    ((a.kind = 0 ∧ a.num = 0 ∧ a.key = [] ∧ brA a = []) ∨ (a.kind = 1 ∧ 0 ≤ a.num ∧ a.num ≤ 1000000000 ∧ a.key = [] ∧ brA a = 91 :: (Lib.itoa a.num ++ [93])) ∨
     (a.kind = 2 ∧ a.num = 0 ∧ utfM a.key = true ∧ a.key.length ≤ 16384 ∧ (quoteM a.key).length ≤ 65536 ∧ brA a = 91 :: (quoteM a.key ++ [93]))) := by
  unfold goodAd at h
  simp only [Bool.and_eq_true, decide_eq_true_eq, List.all_eq_true] at h
  obtain ⟨⟨⟨⟨h1, h2⟩, h3⟩, h4⟩, h5⟩ := h
  refine ⟨h1, h2, h3, h4, ?_⟩
  unfold brA
  split at h5
  · rename_i e
    simp only [Bool.and_eq_true, decide_eq_true_eq] at h5
    exact .inl ⟨e, h5.1, h5.2, by rw [if_neg (by omega), if_neg (by omega)]⟩
  · split at h5
    · rename_i e
      simp only [Bool.and_eq_true, decide_eq_true_eq] at h5
      exact .inr (.inl ⟨e, h5.1.1, h5.1.2, h5.2, by rw [if_pos e]; simp⟩)
    · rename_i e0 e
      simp only [Bool.and_eq_true, decide_eq_true_eq] at h5
      exact .inr (.inr ⟨h5.1.1.1.1, h5.1.1.1.2, h5.1.1.2, h5.1.2, h5.2, by rw [if_neg e, if_pos h5.1.1.1.1]; simp⟩)
theorem head_mem {a : AV} (hg : goodAd a = true) {c : UInt8} (hc : c ∈ headA a) : c ≠ 91 ∧ c ≠ 126 := by
  obtain ⟨_, h2, h3, h4, _⟩ := good_out hg
  unfold headA at hc
  simp only [List.mem_append, List.mem_flatMap, List.mem_singleton] at hc
  rcases hc with ((⟨m, hm, hc | rfl⟩ | hc) | rfl) | hc
  · have := nm_not ((name_out (h4 m hm)).2.2 c hc)
    exact ⟨this.2.2.1, this.2.2.2.2⟩
  · decide
  · have := nm_not ((name_out h2).2.2 c hc)
    exact ⟨this.2.2.1, this.2.2.2.2⟩
  · decide
  · have := nm_not ((name_out h3).2.2 c hc)
    exact ⟨this.2.2.1, this.2.2.2.2⟩
theorem last_no {a : AV} (hg : goodAd a = true) (l : Str) : headA a ++ brA a ≠ l ++ [126] := by
  intro h
  have hl : (headA a ++ brA a).getLast? = some 126 := by rw [h]; simp
  rcases (good_out hg).2.2.2.2 with ⟨_, _, _, hb⟩ | ⟨_, _, _, _, hb⟩ | ⟨_, _, _, _, _, hb⟩
  · rw [hb, List.append_nil] at hl
    exact (head_mem hg (List.mem_of_getLast? hl)).2 rfl
  · rw [hb] at hl
    simp [List.getLast?_append, List.getLast?_cons] at hl
  · rw [hb] at hl
    simp [List.getLast?_append, List.getLast?_cons] at hl
theorem show_aside (a : AV) : (a.aside = true ∧ showA a = (headA a ++ brA a) ++ [126]) ∨ (a.aside = false ∧ showA a = headA a ++ brA a) := by
  unfold showA
  cases a.aside with
  | true => exact .inl ⟨rfl, by simp⟩
  | false => exact .inr ⟨rfl, by simp⟩
theorem split_head {a : AV} (hg : goodAd a = true) : splitM 47 (headA a) = a.mods ++ [a.typ ++ 46 :: a.nm] := by
  obtain ⟨_, h2, h3, h4, _⟩ := good_out hg
  have key : ∀ ms : List Str, (∀ m ∈ ms, nameM m = true) → splitM 47 (ms.flatMap (fun m => m ++ [47]) ++ (a.typ ++ 46 :: a.nm)) = ms ++ [a.typ ++ 46 :: a.nm] := by
    intro ms
    induction ms with
    | nil =>
      intro _
      simp only [List.flatMap_nil, List.nil_append]
      refine split_none fun x hx => ?_
      simp only [List.mem_append, List.mem_cons] at hx
      rcases hx with hx | rfl | hx
      · exact (nm_not ((name_out h2).2.2 x hx)).2.1
      · decide
      · exact (nm_not ((name_out h3).2.2 x hx)).2.1
    | cons m ms ih =>
      intro hm
      have e : (m :: ms).flatMap (fun m => m ++ [47]) ++ (a.typ ++ 46 :: a.nm) = m ++ 47 :: (ms.flatMap (fun m => m ++ [47]) ++ (a.typ ++ 46 :: a.nm)) := by simp
      rw [e, split_app fun x hx => (nm_not ((name_out (hm m (by simp))).2.2 x hx)).2.1, ih fun x hx => hm x (by simp [hx])]
      rfl
  have e : headA a = a.mods.flatMap (fun m => m ++ [47]) ++ (a.typ ++ 46 :: a.nm) := by unfold headA; simp
  rw [e]
  exact key _ h4
theorem typ_not {a : AV} (hg : goodAd a = true) : (46 : UInt8) ∉ a.typ := fun h => (nm_not ((name_out (good_out hg).2.1).2.2 46 h)).1 rfl
theorem decD_all : ∀ (n u : Nat), u < n → (Lib.decDigits u).all Num.isDig = true ∧ (Lib.decDigits u) ≠ [] ∧ ((Lib.decDigits u).head? = some 48 → u = 0) := by
  intro n
  induction n with
  | zero => intro u h; omega
  | succ n ih =>
    intro u h
    rw [Lib.decDigits]
    have hd : ∀ k, k < 10 → Num.isDig (UInt8.ofNat (48 + k)) = true := by
      intro k hk
      have : ∀ k : Fin 10, Num.isDig (UInt8.ofNat (48 + k.val)) = true := by decide
      exact this ⟨k, hk⟩
    split
    · rename_i h10
      refine ⟨by rw [List.all_cons, hd u h10]; rfl, by simp, fun e => ?_⟩
      have : ∀ k : Fin 10, ([UInt8.ofNat (48 + k.val)].head? = some 48) → k.val = 0 := by decide
      exact this ⟨u, h10⟩ e
    · have hi := ih (u / 10) (by omega)
      refine ⟨by rw [List.all_append, hi.1, List.all_cons, hd (u % 10) (by omega)]; rfl, by simp, fun e => ?_⟩
      have e : (Lib.decDigits (u / 10)).head? = some 48 := by
        cases hq : Lib.decDigits (u / 10) with
        | nil => exact absurd hq hi.2.1
        | cons x y => rw [hq] at e; simpa using e
      have := hi.2.2 e
      omega
theorem decD_len : ∀ (k u : Nat), u < 10 ^ k → 1 ≤ k → (Lib.decDigits u).length ≤ k := by
  intro k
  induction k with
  | zero => intro u _ h; omega
  | succ k ih =>
    intro u h _
    rw [Lib.decDigits]
    split
    · simp
    · have := ih (u / 10) (by rw [Nat.pow_succ] at h; omega) (by
        rcases Nat.eq_zero_or_pos k with rfl | h0
        · simp at h; omega
        · exact h0)
      rw [List.length_append, List.length_singleton]; omega
theorem itoa_pos {n : Int} (h : 0 ≤ n) : Lib.itoa n = Lib.decDigits n.toNat := by unfold Lib.itoa; rw [if_neg (by omega)]
theorem itoa_good {n : Int} (h0 : 0 ≤ n) (h1 : n ≤ 1000000000) : Num.goodN (Lib.itoa n) = true ∧ (Lib.itoa n).length ≤ 10 ∧ (Lib.itoa n).head? ≠ some 45 := by
  rw [itoa_pos h0]
  obtain ⟨a1, a2, a3⟩ := decD_all _ n.toNat (Nat.lt_succ_self _)
  have hl := decD_len 10 n.toNat (by omega) (by omega)
  have hz : n.toNat = 0 → Lib.decDigits n.toNat = [48] := fun e => by rw [e, Lib.decDigits, dif_pos (by decide)]; rfl
  cases hd : Lib.decDigits n.toNat with
  | nil => exact absurd hd a2
  | cons c r =>
    rw [hd] at a1 a3 hl
    have hc : Num.isDig c = true := by simp only [List.all_cons, Bool.and_eq_true] at a1; exact a1.1
    have h45 : c ≠ 45 := by rintro rfl; exact absurd hc (by decide)
    have edig : Num.dig (c :: r) = c :: r := by simp [Num.dig, h45]
    refine ⟨?_, hl, by simp [h45]⟩
    unfold Num.goodN
    rw [edig, a1]
    simp only [Bool.and_eq_true, Bool.and_true, decide_eq_true_eq, Bool.or_eq_true, Bool.not_eq_true', List.head?_cons, List.length_cons] at hl ⊢
    refine ⟨⟨by omega, by omega⟩, ?_⟩
    by_cases h48 : c = 48
    · right
      have := hz (a3 (by rw [h48]; rfl))
      rw [hd] at this
      exact this
    · left
      simpa using h48
theorem dec_num {E : ErrNo} {n : Int} (h0 : 0 ≤ n) (h1 : n ≤ 1000000000) : ∃ j c, decM E (Lib.itoa n) = .ok (.mk 3 false (Lib.itoa n) [] []) j c := by
  obtain ⟨g1, g2, _⟩ := itoa_good h0 h1
  have hi : Item 24 (.mk 3 false (Lib.itoa n) [] []) := by
    have hu : utfM (Lib.itoa n) = true := goodN_utf g1
    refine ⟨?_, ?_, rfl, rfl⟩
    · simp [plainM, plainL, headOk, g1, keysOk]
    · simp [textsM, textsL, hu]
  obtain ⟨j, hd⟩ := dec_show (E := E) hi (by simp [cntM, cntL]) (by show (Lib.itoa n).length ≤ _; omega)
  exact ⟨j, _, hd⟩
theorem dec_key {E : ErrNo} {k : Str} (hu : utfM k = true) (hl : k.length ≤ 16384) (hq : (quoteM k).length ≤ 65536) : ∃ j c, decM E (quoteM k) = .ok (.mk 4 false k [] []) j c := by
  have hi : Item 24 (.mk 4 false k [] []) := by
    refine ⟨?_, ?_, rfl, rfl⟩
    · simp [plainM, plainL, headOk, hl, keysOk]
    · simp [textsM, textsL, hu]
  obtain ⟨j, hd⟩ := dec_show (E := E) hi (by simp [cntM, cntL]) hq
  exact ⟨j, _, hd⟩
end Go.Eng
namespace Go.Eng
open Go
theorem append_own3 {P : Program} {t e T : TypeId} {size bytes : Nat} (hT : ElemT P t e size bytes) {w : World} {base : Nat} {v x : Value} {n m : Nat} {xs news : List Value} {ty : TypeId} {K : Value → World → Prop}
    (hown : Own w base e size v n xs) (hx : SlAt w T x m news) (hl : news.length = m * size) (h1 : ∀ u ∈ news, one1 u = true) (hlen : n + m ≤ 4611686018427387904) (hb : (n + m) * bytes ≤ 140737488355328) (hbase : base ≤ w.heap.size)
    (hK : ∀ v' w', Own w' base e size v' (n + m) (xs ++ news) → Chg (fun k => v.ownBlock = some k) w w' → (∀ k, v'.ownBlock = some k → v.ownBlock = some k ∨ w.heap.size ≤ k) → K v' w') :
    semE P (Builtin.append_ #[t, t] ty #[v, x]) w K := by
  obtain ⟨i, z, hi, hz, h2, h3, h4⟩ := hT.get
  have hsame : ∀ {K' : Value → World → Prop}, semE P (Builtin.append_ #[t, t] ty #[v, x]) w K' → ∃ v' w', (Builtin.append_ #[t, t] ty #[v, x]).run P w = .ok v' w' ∧ K' v' w' := by
    intro K' h
    unfold semE at h
    split at h
    · rename_i v' w' hr; exact ⟨v', w', hr, h⟩
    · exact h.elim
  obtain ⟨v1, w1, hr1, hO1, hc1, hn1⟩ := hsame (append_own2 hT hown hx hl h1 hlen hb hbase fun v' w' a b c => (⟨a, b, c⟩ : Own w' base e size v' (n + m) (xs ++ news) ∧ Chg (fun k => v.ownBlock = some k) w w' ∧ (v' = .slice none 0 0 ↔ v = .slice none 0 0 ∧ m = 0)))
  unfold semE
  rw [hr1]
  refine hK v1 w1 hO1 hc1 ?_
  obtain ⟨hl', ⟨rfl, rfl⟩ | ⟨g, cap, cur, rfl, hbg, hg, hnc, hcm, hcs, htake⟩⟩ := hown
  · have hnil : xs = [] := List.eq_nil_of_length_eq_zero (by simpa using hl')
    subst hnil
    obtain ⟨v2, w2, hr2, hO2⟩ := hsame (append_own2 hT (base := w.heap.size) (show Own w w.heap.size e size (.slice none 0 0) 0 [] from ⟨by simp, .inl ⟨rfl, rfl⟩⟩) hx hl h1 hlen hb (Nat.le_refl _) fun v' w' a _ _ => a)
    rw [hr1] at hr2
    cases hr2
    intro k hk
    exact .inr (hO2.block k hk).1
  · obtain ⟨p, c, rfl, _, hpn, hcells⟩ := hx
    cases p with
    | none =>
      obtain ⟨rfl, rfl⟩ := hpn rfl
      intro k hk
      have hn : news = [] := List.eq_nil_of_length_eq_zero (by simpa using hl)
      subst hn
      have hr : (Builtin.append_ #[t, t] ty #[.slice (some ⟨g, 0, none⟩) n cap, .slice none 0 0]).run P w = .ok (.slice (some ⟨g, 0, none⟩) n cap) w := by
        simp [Builtin.append_, run_bind, run_underlying' hT.und, run_sizeOf' (show (P.info? e).isSome = true by rw [hi]; rfl), Builtin.lenOf, run_pure, Builtin.firstCells, hnc, storeCells]
      rw [hr1] at hr
      cases hr
      exact .inl hk
    | some a =>
      have hcell : ∀ j u, news[j]? = some u → w.cell? (a.add j) = some u := by
        intro j u hu
        have hne : news ≠ [] := fun e => by subst e; simp at hu
        obtain ⟨b, off, c', fr, hp, hb', hcs'⟩ := hcells hne
        cases hp
        rw [add_mk, cell_eq, hb', cellO_some, hcs' j (List.getElem?_eq_some_iff.1 hu).1, hu]
      subst h2
      by_cases hroom : n + m ≤ cap
      · have hfit : n * i.size + news.length ≤ cur.size := by rw [hl, hcs, ← Nat.add_mul]; exact Nat.mul_le_mul_right _ hroom
        have hr := run_append_room (P := P) w t ty e i hT.und hi g n cap cur hg a m c news hl hcell (fun u hu => one1_oneCell' (h1 u hu)) hroom hfit
        rw [hr1] at hr
        cases hr
        intro k hk
        exact .inl (by simpa [Value.ownBlock] using hk)
      · have holds : ∀ j u, xs[j]? = some u → w.cell? ((⟨g, 0, none⟩ : Addr).add j) = some u := World.ownsRow.cells (base := base) (e := e) (size := i.size) (v := .slice (some ⟨g, 0, none⟩) n cap) (n := n) ⟨hl', .inr ⟨g, cap, cur, rfl, hbg, hg, hnc, hcm, hcs, htake⟩⟩ rfl
        have hr := run_append_grow (P := P) w t ty e i z hT.und hi hz ⟨g, 0, none⟩ n cap xs hl' holds a m c news hl hcell (by omega) (by omega) (growslice_fits (by omega) (by rw [h3]; exact hb))
        rw [hr1] at hr
        cases hr
        intro k hk
        right
        simp [Value.ownBlock] at hk
        omega
theorem GdW_pure (c : Bool) (u v : Value) (w : World) (B : List Value → Fr → World → Prop) : GdW c [u] w (fun J => J [v] w) B ↔ ∀ g, B [bif c then v else u] g w := by
  constructor
  · rintro ⟨J, h1, h2, h3⟩ g
    cases c with
    | true => exact h3 _ g _ (h1 rfl)
    | false => exact h3 _ g _ (h2 rfl)
  · intro h
    refine ⟨fun s w' => s = [bif c then v else u] ∧ w' = w, fun hc => ⟨by rw [hc]; rfl, rfl⟩, fun hc => ⟨by rw [hc]; rfl, rfl⟩, ?_⟩
    rintro s g w' ⟨rfl, rfl⟩
    exact h g
theorem GdW_nest_and (g e f : Bool) (w : World) (B : List Value → Fr → World → Prop) :
    GdW g [undef] w (fun J => pickW (bif g then .bool e else undef) (bif (g && e) then .bool f else undef) (.bool false) fun t => J [t] w) B ↔ ∀ h, B [bif g then .bool (e && f) else undef] h w := by
  cases g with
  | true =>
    rw [← GdW_pure]
    cases e <;> exact Iff.rfl
  | false =>
    constructor
    · rintro ⟨J, _, h2, h3⟩ h; exact h3 _ h _ (h2 rfl)
    · intro h; exact GdW.f h
theorem GdW_nest_or (g e f : Bool) (w : World) (B : List Value → Fr → World → Prop) :
    GdW g [undef] w (fun J => pickW (bif g then .bool e else undef) (.bool true) (bif (g && !e) then .bool f else undef) fun t => J [t] w) B ↔ ∀ h, B [bif g then .bool (e || f) else undef] h w := by
  cases g with
  | true =>
    rw [← GdW_pure]
    cases e <;> exact Iff.rfl
  | false =>
    constructor
    · rintro ⟨J, _, h2, h3⟩ h; exact h3 _ h _ (h2 rfl)
    · intro h; exact GdW.f h
theorem pick_gd_and (c e : Bool) (K : Value → Prop) : pickW (.bool c) (bif c then .bool e else undef) (.bool false) K ↔ K (.bool (c && e)) := by cases c <;> exact Iff.rfl
theorem pick_gd_or (c e : Bool) (K : Value → Prop) : pickW (.bool c) (.bool true) (bif !c then .bool e else undef) K ↔ K (.bool (c || e)) := by cases c <;> exact Iff.rfl
theorem isB_gd_t (c e : Bool) : isB (bif c then .bool e else undef) true = (c && e) := by cases c <;> cases e <;> rfl
theorem isB_gd_f (c e : Bool) : isB (bif c then .bool e else undef) false = (c && !e) := by cases c <;> cases e <;> rfl
theorem GdW.look {c : Bool} {w : World} {A : (List Value → World → Prop) → Prop} {B : List Value → Fr → World → Prop} (e : Bool) (h1 : c = true → ∀ J : List Value → World → Prop, J [.bool e] w → A J) (h2 : ∀ g, B [bif c then .bool e else undef] g w) : GdW c [undef] w A B := by
  refine ⟨fun s w' => s = [bif c then .bool e else undef] ∧ w' = w, fun hc => h1 hc _ ⟨by rw [hc]; rfl, rfl⟩, fun hc => ⟨by rw [hc]; rfl, rfl⟩, ?_⟩
  rintro s g w' ⟨rfl, rfl⟩
  exact h2 g
theorem GdW.act {c : Bool} {w : World} {A : (List Value → World → Prop) → Prop} {B : List Value → Fr → World → Prop} (e : Bool) (R : World → Prop) (h0 : c = false → R w) (h1 : c = true → ∀ J : List Value → World → Prop, (∀ w', R w' → J [.bool e] w') → A J) (h2 : ∀ g w', R w' → B [bif c then .bool e else undef] g w') : GdW c [undef] w A B := by
  refine ⟨fun s w' => s = [bif c then .bool e else undef] ∧ R w', fun hc => h1 hc _ fun w' hR => ⟨by rw [hc]; rfl, hR⟩, fun hc => ⟨by rw [hc]; rfl, h0 hc⟩, ?_⟩
  rintro s g w' ⟨rfl, hR⟩
  exact h2 g w' hR
theorem GqW_f (A : (Value → Prop) → Prop) (B : Value → Prop) : GqW false A B ↔ B undef := by
  constructor
  · rintro ⟨v, _, h, hb⟩; rw [← h rfl]; exact hb
  · intro h; exact ⟨undef, (fun e => by cases e), fun _ => rfl, h⟩
theorem GqW_t (A : (Value → Prop) → Prop) (B : Value → Prop) : GqW true A B ↔ ∃ v, A (fun x => x = v) ∧ B v := by
  constructor
  · rintro ⟨v, h, _, hb⟩; exact ⟨v, h rfl, hb⟩
  · rintro ⟨v, h, hb⟩; exact ⟨v, fun _ => h, (fun e => by cases e), hb⟩
theorem GdW_f (u : List Value) (w : World) (A : (List Value → World → Prop) → Prop) (B : List Value → Fr → World → Prop) : GdW false u w A B ↔ ∀ g, B u g w := by
  constructor
  · rintro ⟨J, _, h2, h3⟩ g; exact h3 _ g _ (h2 rfl)
  · intro h; exact GdW.f h
theorem isB_u (c : Bool) : isB undef c = false := rfl
theorem eq_bb (a b : Bool) (K : Value → Prop) : eqW .bool false (.bool a) (.bool b) K ↔ K (.bool (a == b)) := by simp [eqW]
theorem condW_b (b : Bool) (A B : Prop) : condW (.bool b) A B ↔ (b = true → A) ∧ (b = false → B) := Iff.rfl
def wsv0 := And.intro @put_nil <| And.intro @put_map <| And.intro @put_int <| And.intro @put_str <| And.intro @put_bool <| And.intro @put_ptr <| And.intro @put_slice <| And.intro @bin_add <| And.intro @bin_sub <| And.intro @bin_mul <|
  And.intro @bin_quo <| And.intro @bin_rem <| And.intro @bin_eql <| And.intro @bin_neq <| And.intro @bin_lss <| And.intro @bin_leq <| And.intro @bin_gtr <| And.intro @bin_geq <| And.intro @bin_sadd <| And.intro @bin_seq <| And.intro @bin_sne <|
  And.intro @bin_slt <| And.intro @bin_sgt <| And.intro @bin_sge <| And.intro @bin_sle <| And.intro @nil_ptr <| And.intro @fld_ptr <| And.intro @ld_one <| And.intro @one_int <| And.intro @one_bool <| And.intro @one_str <| And.intro @one_slice <|
  And.intro @one_ptr <| And.intro @one_map <| And.intro @ext_tuple <| And.intro @ixa_slice <| And.intro @ixa_arr <| And.intro @ixs_str <| And.intro @lens_str <| And.intro @lenl_sl <| And.intro @un_not <| And.intro @un_neg <| And.intro @cvt_int <|
  And.intro @min_int <| And.intro @max_int <| And.intro @bd_none <| And.intro @bd_some <| And.intro @sls_str <| And.intro @pick_t <| And.intro @pick_f <| And.intro @condW_true @condW_false
def wsg0 := And.intro @isB_u <| And.intro @GqW_f <| And.intro @GqW_t <| And.intro @GdW_f <| And.intro @GdW_pure <| And.intro @GdW_nest_and <| And.intro @GdW_nest_or <| And.intro @pick_gd_and <| And.intro @pick_gd_or <| And.intro @isB_gd_t <| And.intro @isB_gd_f <| And.intro @isB_t @isB_f
def wsh0 := And.intro @add_mk <| And.intro @cell_eq <| And.intro @cellO_some <| And.intro @frozen_eq <| And.intro @frO_zero <| And.intro @heap_drew @size_drew
def wsl0 := And.intro @true_and <| And.intro @and_true <| And.intro @Bool.and_true <| And.intro @Bool.and_false <| And.intro @Bool.true_and <| And.intro @Bool.false_and <| And.intro @Bool.or_true <|
  And.intro @Bool.or_false <| And.intro @Bool.true_or <| And.intro @Bool.false_or <| And.intro @Bool.not_true @Bool.not_false
theorem wsv : type_of% wsv0 := wsv0
theorem wsg : type_of% wsg0 := wsg0
theorem wsh : type_of% wsh0 := wsh0
theorem wsl : type_of% wsl0 := wsl0
end Go.Eng
namespace Go.Proofs.YtcnjpcadejcenaaGreatDoor
open Go Go.Eng
theorem mixed : Tryz.prog.follows .mixedOrders = true := by kernel_rfl
end Go.Proofs.YtcnjpcadejcenaaGreatDoor
namespace Go.Proofs.YtcnjpcadejcenaaGreatDoor
open Go Go.Eng
set_option maxRecDepth 100000
variable [HX]
def plan58 : Plan := { js := [(14, ⟨[13], [4, 5], 13⟩)], ds := [(26, ⟨[0, 1, 2, 3, 4, 5, 6, 7, 8], [[], [], [0, 1], [0, 1, 2], [], [], [4, 5], [4, 5, 6], [0, 1, 2, 3, 4, 5, 6, 7]]⟩)] }
def W58 (v0 v1 : Value) (w : World) (K : Value → World → Prop) : Prop :=
  lenlW v0 fun t7 =>
  lenlW v1 fun t9 =>
  binW .neq t7 t9 fun t10 =>
  condW t10 (
    K (.bool false) w) (
    lenlW v0 fun t12 =>
    LoopW [(.int .i64 0)] w fun s1 _ w2 L1 =>
      binW .lss (s1.getD 0 undef) t12 fun t14 =>
      condW t14 (
        ixaW none 1 v0 (s1.getD 0 undef) fun t18 =>
        ldW false 1 t18 w2.drew fun t19 =>
        ixaW none 1 v1 (s1.getD 0 undef) fun t22 =>
        ldW false 1 t22 w2.drew fun t23 =>
        binW .neq t19 t23 fun t24 =>
        condW t24 (
          K (.bool false) w2.drew) (
          binW .add (s1.getD 0 undef) (.int .i64 1) fun t25 =>
          L1 [t25] w2.drew)) (
        K (.bool true) w2))
theorem W58_eq (v0 v1 : Value) (w : World) (K : Value → World → Prop) : funW Tryz.prog Tryz.f58 plan58 [v0, v1] w K = W58 v0 v1 w K := by kernel_rfl
theorem W58_chk : chkFun Tryz.prog Tryz.f58 plan58 2 = true := by kernel_rfl
theorem W58_ok {v0 v1 : Value} {w : World} {K : Value → World → Prop} (h : W58 v0 v1 w K) : callF Tryz.prog 58 [v0, v1] w K :=
  tie Tryz.prog 58 Tryz.f58 plan58 [v0, v1] w K 2 (W58 v0 v1 w K) rfl mixed Tryz.func58 W58_chk (W58_eq v0 v1 w K) Tryz.call58 h
def plan26 : Plan := { js := [(27, ⟨[5], [], 5⟩), (16, ⟨[3, 4], [], 1⟩)], ds := [] }
def W26 (v0 : Value) (w : World) (K : Value → World → Prop) : Prop :=
  binW .eql v0 (.int .i64 0) fun t7 =>
  condW t7 (
    K (.string (ofL [48])) w) (
    LoopW [(.string (ofL [])), v0] w fun s1 _ w2 L1 =>
      binW .neq (s1.getD 1 undef) (.int .i64 0) fun t10 =>
      condW t10 (
        binW .rem (s1.getD 1 undef) (.int .i64 10) fun t14 =>
        JoinW (fun J3 =>
          binW .lss t14 (.int .i64 0) fun t16 =>
          condW t16 (
            unW .neg t14 fun t18 =>
            J3 [t18] w2) (
            J3 [t14] w2))
        fun s3 _ w4 =>
        binW .add (.int .i64 48) (s3.getD 0 undef) fun t20 =>
        cvtW .u8 t20 fun t21 =>
        bslW 5 1 [(.int .u8 0)] [(0, 1, t21)] w4 fun t22 w5 =>
        semQ Tryz.prog (convert 44 9 t22) w5 fun t23 =>
        binW .add t23 (s1.getD 0 undef) fun t25 =>
        binW .quo (s1.getD 1 undef) (.int .i64 10) fun t12 =>
        L1 [t25, t12] w5) (
        binW .lss v0 (.int .i64 0) fun t27 =>
        callF Tryz.prog 68 [t27, (s1.getD 0 undef)] w2 fun t29 w6 =>
        K t29 w6))
theorem W26_eq (v0 : Value) (w : World) (K : Value → World → Prop) : funW Tryz.prog Tryz.f26 plan26 [v0] w K = W26 v0 w K := by kernel_rfl
theorem W26_chk : chkFun Tryz.prog Tryz.f26 plan26 1 = true := by kernel_rfl
theorem W26_ok {v0 : Value} {w : World} {K : Value → World → Prop} (h : W26 v0 w K) : callF Tryz.prog 26 [v0] w K :=
  tie Tryz.prog 26 Tryz.f26 plan26 [v0] w K 1 (W26 v0 w K) rfl mixed Tryz.func26 W26_chk (W26_eq v0 w K) Tryz.call26 h
def plan68 : Plan := { js := [(4003, ⟨[8], [], 7⟩)], ds := [] }
def W68 (v0 v1 : Value) (w : World) (K : Value → World → Prop) : Prop :=
  GdW (isB v0 true) [undef] w (fun J1 =>
    binW .neq v1 (.string (ofL [48])) fun t8 =>
    J1 [t8] w)
  fun s1 _ w2 =>
  pickW v0 (s1.getD 0 undef) (.bool false) fun t9 =>
  condW t9 (
    binW .add (.string (ofL [45])) v1 fun t11 =>
    K t11 w2) (
    K v1 w2)
theorem W68_eq (v0 v1 : Value) (w : World) (K : Value → World → Prop) : funW Tryz.prog Tryz.f68 plan68 [v0, v1] w K = W68 v0 v1 w K := by kernel_rfl
theorem W68_chk : chkFun Tryz.prog Tryz.f68 plan68 2 = true := by kernel_rfl
theorem W68_ok {v0 v1 : Value} {w : World} {K : Value → World → Prop} (h : W68 v0 v1 w K) : callF Tryz.prog 68 [v0, v1] w K :=
  tie Tryz.prog 68 Tryz.f68 plan68 [v0, v1] w K 2 (W68 v0 v1 w K) rfl mixed Tryz.func68 W68_chk (W68_eq v0 v1 w K) Tryz.call68 h
end Go.Proofs.YtcnjpcadejcenaaGreatDoor
namespace Go.Proofs.YtcnjpcadejcenaaGreatDoor
open Go Go.Eng Go.Num
set_option maxRecDepth 100000
abbrev VT : TypeId := 26
structure ValB (w : World) (a : Nat) (v : JV) (sv kv : Value) : Prop where
  hb : w.heap[a]? = some (.cells [i64 v.k, .bool v.b, str v.t, sv, kv].toArray VT (0, 0))
  items : ∃ T L, SlAt w T sv v.xs.length L ∧ VReps w v.xs L
  keys : ∃ T, SlAt w T kv v.ks.length (v.ks.map str)
  fits : Fits v.xs.length v.ks v.t
theorem ValB.ext {w w' : World} {a : Nat} {v : JV} {sv kv : Value} (h : ValB w a v sv kv) (hx : Ext w w') : ValB w' a v sv kv :=
  ⟨hx.at h.hb id, let ⟨T, L, h1, h2⟩ := h.items; ⟨T, L, h1.ext hx, h2.ext hx⟩, let ⟨T, h1⟩ := h.keys; ⟨T, h1.ext hx⟩, h.fits⟩
theorem ValB.rep {w : World} {a : Nat} {v : JV} {sv kv : Value} (h : ValB w a v sv kv) : VRep w v [i64 v.k, .bool v.b, str v.t, sv, kv] := by
  obtain ⟨T, L, h1, h2⟩ := h.items
  obtain ⟨T', h3⟩ := h.keys
  exact VRep.mk h1 h2 h3 h.fits
theorem ValB.ld {w : World} {a : Nat} {v : JV} {sv kv : Value} {K : Value → Prop} (h : ValB w a v sv kv) (hK : ∀ cs, VRep w v cs → K (.agg cs.toArray)) : ldW true 5 (.pointer (some ⟨a, 0, none⟩)) w K := ld_all h.hb rfl (hK _ h.rep)
theorem ValB.lenk {w : World} {a : Nat} {v : JV} {sv kv : Value} (h : ValB w a v sv kv) (K : Value → Prop) : lenlW kv K ↔ K (i64 v.ks.length) := by obtain ⟨T, h1⟩ := h.keys; exact lenl_at h1 K
theorem ValB.item {w : World} {a : Nat} {v : JV} {sv kv : Value} {k : IntKind} {i : Nat} {x : JV} {K : Value → Prop} (h : ValB w a v sv kv) (hi : v.xs[i]? = some x) (hK : ∀ cs, VRep w x cs → K (.agg cs.toArray)) : ixaW none 5 sv (.int k i) fun p => ldW true 5 p w K := by
  obtain ⟨T, L, h1, h2⟩ := h.items; exact item_ld h1 h2 hi hK
theorem ValB.key {w : World} {a : Nat} {v : JV} {sv kv : Value} {k : IntKind} {i : Nat} {x : Str} {K : Value → Prop} (h : ValB w a v sv kv) (hi : v.ks[i]? = some x) (hK : K (str x)) : ixaW none 1 kv (.int k i) fun p => ldW false 1 p w K := by
  obtain ⟨T, h1⟩ := h.keys; exact text_ld h1 hi hK
theorem box_val {w : World} {v : JV} {cs : List Value} {K : Value → World → Prop} (h : VRep w v cs) (hK : ∀ a w' sv kv, ValB w' a v sv kv → Ext w w' → w.heap.size ≤ a → K (.pointer (some ⟨a, 0, none⟩)) w') : boxW VT (.agg cs.toArray) w K := by
  obtain ⟨sv, kv, T1, T2, L, rfl, h1, h2, h3, h4⟩ := h.out
  refine box_new fun a w' ha hz hb hx => hK a w' sv kv ⟨hb, ⟨T1, L, h1.ext hx, h2.ext hx⟩, ⟨T2, h3.ext hx⟩, h4⟩ hx (by omega)
structure ValI (w : World) (v : JV) (sv kv : Value) : Prop where
  items : ∃ T L, SlAt w T sv v.xs.length L ∧ VReps w v.xs L
  keys : ∃ T, SlAt w T kv v.ks.length (v.ks.map str)
  fits : Fits v.xs.length v.ks v.t
theorem ValI.box {w w' : World} {a : Nat} {v : JV} {sv kv : Value} (h : ValI w v sv kv) (hx : Ext w w') (hb : w'.heap[a]? = some (.cells [i64 v.k, .bool v.b, str v.t, sv, kv].toArray VT (0, 0))) : ValB w' a v sv kv :=
  ⟨hb, let ⟨T, L, h1, h2⟩ := h.items; ⟨T, L, h1.ext hx, h2.ext hx⟩, let ⟨T, h1⟩ := h.keys; ⟨T, h1.ext hx⟩, h.fits⟩
theorem box_vali {w0 w : World} {v : JV} {cs : List Value} {K : Value → World → Prop} (h : VRep w0 v cs) (hK : ∀ a w' sv kv, w'.heap[a]? = some (.cells [i64 v.k, .bool v.b, str v.t, sv, kv].toArray VT (0, 0)) → ValI w0 v sv kv → Ext w w' → w.heap.size ≤ a → w'.heap.size = a + 1 → K (.pointer (some ⟨a, 0, none⟩)) w') : boxW VT (.agg cs.toArray) w K := by
  obtain ⟨sv, kv, T1, T2, L, rfl, h1, h2, h3, h4⟩ := h.out
  refine box_new fun a w' ha hz hb hx => hK a w' sv kv hb ⟨⟨T1, L, h1, h2⟩, ⟨T2, h3⟩, h4⟩ hx (by omega) (by omega)
theorem ValI.item_old {w0 w : World} {v : JV} {sv kv : Value} {k : IntKind} {i : Nat} {x : JV} {K : Value → Prop} (h : ValI w0 v sv kv) (hx : Ext w0 w) (hi : v.xs[i]? = some x) (hK : ∀ cs, VRep w0 x cs → K (.agg cs.toArray)) : ixaW none 5 sv (.int k i) fun p => ldW true 5 p w K := by
  obtain ⟨T, L, h1, h2⟩ := h.items
  obtain ⟨cs, hc, hg⟩ := h2.get hi
  refine ixa_at (size := 5) (h1.ext hx) h2.len (by omega) (List.getElem?_eq_some_iff.1 hi).1 fun b o c fr hb hcc => ?_
  exact ld_cells hb hc.len (fun j hj => (hcc j hj).trans (hg j hj)) (hK cs hc)
def VRepS (w0 w : World) (v : JV) (cs : List Value) : Prop := ∃ sv kv T1 T2 L, cs = [i64 v.k, .bool v.b, str v.t, sv, kv] ∧ SlAt w T1 sv v.xs.length L ∧ VReps w0 v.xs L ∧ SlAt w T2 kv v.ks.length (v.ks.map str) ∧ Fits v.xs.length v.ks v.t
theorem VRepS.rep {w0 w : World} {v : JV} {cs : List Value} (h : VRepS w0 w v cs) (hx : Ext w0 w) : VRep w v cs := by
  obtain ⟨sv, kv, T1, T2, L, rfl, h1, h2, h3, h4⟩ := h
  exact VRep.mk h1 (h2.ext hx) h3 h4
theorem VRepS.ext {w0 w w' : World} {v : JV} {cs : List Value} (h : VRepS w0 w v cs) (hx : Ext w w') : VRepS w0 w' v cs := by
  obtain ⟨sv, kv, T1, T2, L, rfl, h1, h2, h3, h4⟩ := h
  exact ⟨sv, kv, T1, T2, L, rfl, h1.ext hx, h2, h3.ext hx, h4⟩
theorem VRep.s {w w' : World} {v : JV} {cs : List Value} (h : VRep w v cs) (hx : Ext w w') : VRepS w w' v cs := by
  obtain ⟨sv, kv, T1, T2, L, rfl, h1, h2, h3, h4⟩ := h.out
  exact ⟨sv, kv, T1, T2, L, rfl, h1.ext hx, h2, h3.ext hx, h4⟩
theorem loop_up (n : Nat) {w1 : World} {B : List Value → Fr → World → (List Value → World → Prop) → Prop} (R : Nat → World → Prop) (h0 : R 0 w1)
    (step : ∀ i w g L, i < n → R i w → (∀ w', R (i + 1) w' → L [i64 ((i + 1 : Nat) : Int)] w') → B [i64 (i : Nat)] g w L)
    (fin : ∀ w g L, R n w → B [i64 (n : Nat)] g w L) : LoopW [i64 0] w1 B := by
  refine ⟨fun s w => ∃ i, i ≤ n ∧ s = [i64 (i : Nat)] ∧ R i w, fun s _ => match s with | [.int _ i] => n - i.toNat | _ => 0, ⟨0, Nat.zero_le _, rfl, h0⟩, ?_⟩
  rintro s g w ⟨i, hi, rfl, hR⟩
  rcases Nat.lt_or_ge i n with hlt | hge
  · exact step i w g _ hlt hR fun w' h' => ⟨⟨i + 1, hlt, rfl, h'⟩, by simp only [Int.toNat_natCast]; omega⟩
  · obtain rfl : i = n := by omega
    exact fin w g _ hR
theorem up1 {i : Nat} (h : (i : Int) < 9223372036854775807) : IntKind.i64.wrap ((i : Int) + 1) = ((i + 1 : Nat) : Int) := by rw [wrap_id (by omega) (by omega)]; simp
section
variable [HX]
theorem texts_ref {a b : List Str} {x y : Value} {T1 T2 : TypeId} {w : World} {K : Value → World → Prop} (h1 : SlAt w T1 x a.length (a.map str)) (h2 : SlAt w T2 y b.length (b.map str)) (ha : a.length ≤ 9223372036854775807)
    (hK : ∀ w', Ext w w' → K (.bool (decide (a = b))) w') : callF Tryz.prog 58 [x, y] w K := by
  refine W58_ok ?_
  unfold W58
  rw [lenl_at h1, lenl_at h2]
  simp only [wsv, wsg, wsh, wsl, cond_true, cond_false, exists_eq_left', Option.some.injEq, Option.isSome_some, List.getElem?_toArray, List.getElem?_cons_zero, List.getElem?_cons_succ, List.length_cons, List.length_nil, List.set_cons_zero, List.set_cons_succ, List.getD_cons_zero, List.getD_cons_succ, Nat.zero_add, Nat.add_zero, Nat.reduceAdd, Nat.reduceLT, Nat.lt_add_one, Nat.zero_lt_succ, decide_true, decide_false, ne_eq, reduceCtorEq, condW_dec]
  refine ⟨fun hne => ?_, fun he => ?_⟩
  · have : a ≠ b := by rintro rfl; exact hne rfl
    have := hK w (Chg.refl _ _)
    rw [decide_eq_false ‹a ≠ b›] at this
    exact this
  · have hl : a.length = b.length := by omega
    rw [lenl_at h1]
    refine loop_up a.length (fun i w' => Ext w w' ∧ a.take i = b.take i) ⟨Chg.refl _ _, rfl⟩ ?_ ?_
    · rintro i w2 g L hi ⟨hx2, htk⟩ hL
      have hx3 := hx2.trans (Chg.drew (Chg.refl (fun _ => False) w2))
      obtain ⟨u, hu⟩ : ∃ u, a[i]? = some u := ⟨_, List.getElem?_eq_getElem hi⟩
      obtain ⟨v, hv⟩ : ∃ v, b[i]? = some v := ⟨_, List.getElem?_eq_getElem (by omega)⟩
      have hlt : ((i : Int) < (a.length : Int)) := by omega
      simp only [wsv, wsg, wsh, wsl, cond_true, cond_false, exists_eq_left', Option.some.injEq, Option.isSome_some, List.getElem?_toArray, List.getElem?_cons_zero, List.getElem?_cons_succ, List.length_cons, List.length_nil, List.set_cons_zero, List.set_cons_succ, List.getD_cons_zero, List.getD_cons_succ, Nat.zero_add, Nat.add_zero, Nat.reduceAdd, Nat.reduceLT, Nat.lt_add_one, Nat.zero_lt_succ, decide_true, decide_false, ne_eq, reduceCtorEq, hlt]
      refine text_ld (h1.ext hx3) hu ?_
      refine text_ld (h2.ext hx3) hv ?_
      simp only [wsv, wsg, wsh, wsl, cond_true, cond_false, exists_eq_left', Option.some.injEq, Option.isSome_some, List.getElem?_toArray, List.getElem?_cons_zero, List.getElem?_cons_succ, List.length_cons, List.length_nil, List.set_cons_zero, List.set_cons_succ, List.getD_cons_zero, List.getD_cons_succ, Nat.zero_add, Nat.add_zero, Nat.reduceAdd, Nat.reduceLT, Nat.lt_add_one, Nat.zero_lt_succ, decide_true, decide_false, ne_eq, reduceCtorEq, condW_dec]
      refine ⟨fun hne => ?_, fun he => ?_⟩
      · have := hK _ hx3
        rw [decide_eq_false (take_ne hu hv hne)] at this
        exact this
      · rw [up1 (by omega)]
        have he : u = v := by simpa using he
        exact hL _ ⟨hx3, take_eq htk hu (by rw [he]; exact hv)⟩
    · rintro w2 g L ⟨hx2, htk⟩
      simp only [wsv, wsg, wsh, wsl, cond_true, cond_false, exists_eq_left', Option.some.injEq, Option.isSome_some, List.getElem?_toArray, List.getElem?_cons_zero, List.getElem?_cons_succ, List.length_cons, List.length_nil, List.set_cons_zero, List.set_cons_succ, List.getD_cons_zero, List.getD_cons_succ, Nat.zero_add, Nat.add_zero, Nat.reduceAdd, Nat.reduceLT, Nat.lt_add_one, Nat.zero_lt_succ, decide_true, decide_false, ne_eq, reduceCtorEq, Int.lt_irrefl]
      rw [List.take_length, hl, List.take_length] at htk
      have := hK w2 hx2
      rw [decide_eq_true htk] at this
      exact this
end
end Go.Proofs.YtcnjpcadejcenaaGreatDoor
namespace Go.Proofs.YtcnjpcadejcenaaGreatDoor
open Go Go.Eng Go.Num
set_option maxRecDepth 100000
section
variable [HX]
theorem isDig_out (c : UInt8) : (decide (((c.toNat : Nat) : Int) < 48) || decide ((57 : Int) < ((c.toNat : Nat) : Int))) = !Num.isDig c := by
  unfold Num.isDig
  rcases Nat.lt_or_ge c.toNat 48 with h | h
  · rw [decide_eq_true (by omega), decide_eq_false (show ¬ 48 ≤ c.toNat by omega)]; rfl
  · rw [decide_eq_false (show ¬ ((c.toNat : Nat) : Int) < 48 by omega), decide_eq_true (show 48 ≤ c.toNat by omega)]
    rcases Nat.lt_or_ge 57 c.toNat with h2 | h2
    · rw [decide_eq_true (by omega), decide_eq_false (show ¬ c.toNat ≤ 57 by omega)]; rfl
    · rw [decide_eq_false (by omega), decide_eq_true (show c.toNat ≤ 57 by omega)]; rfl
theorem u8_is (c : UInt8) (m : Int) (d : UInt8) (hm : m = (d.toNat : Nat)) : decide (((c.toNat : Nat) : Int) = m) = (c == d) := by
  rw [Bool.eq_iff_iff, decide_eq_true_eq, beq_iff_eq, hm]
  constructor
  · intro h; exact UInt8.toNat_inj.1 (by omega)
  · intro h; rw [h]
theorem keysOk_two {ks : List Str} {i : Nat} {a b : Str} (ha : ks[i]? = some a) (hb : ks[i + 1]? = some b) (h : Op.bytesLess a b = false) : keysOk ks = false := by
  induction ks generalizing i with
  | nil => simp at ha
  | cons x r ih =>
    cases r with
    | nil => simp at hb
    | cons y r =>
      cases i with
      | zero => simp only [List.getElem?_cons_zero, Option.some.injEq, Nat.zero_add, List.getElem?_cons_succ] at ha hb; subst ha hb; simp [keysOk, h]
      | succ i =>
        simp only [List.getElem?_cons_succ] at ha hb
        rw [keysOk, ih (by simpa using ha) (by simpa using hb)]; simp
theorem keysOk_long {ks : List Str} {i : Nat} {a : Str} (ha : ks[i]? = some a) (h : 16384 < a.length) : keysOk ks = false := by
  induction ks generalizing i with
  | nil => simp at ha
  | cons x r ih =>
    cases i with
    | zero =>
      simp only [List.getElem?_cons_zero, Option.some.injEq] at ha
      subst ha
      cases r with
      | nil => simp only [keysOk, decide_eq_false_iff_not]; omega
      | cons y r => rw [keysOk, decide_eq_false (by omega)]; rfl
    | succ i =>
      simp only [List.getElem?_cons_succ] at ha
      cases r with
      | nil => simp at ha
      | cons y r => rw [keysOk, ih ha]; simp
theorem keysOk_mk {ks : List Str} (h1 : ∀ (i : Nat) (a : Str), ks[i]? = some a → a.length ≤ 16384) (h2 : ∀ (i : Nat) (a b : Str), ks[i]? = some a → ks[i + 1]? = some b → Op.bytesLess a b = true) : keysOk ks = true := by
  induction ks with
  | nil => rfl
  | cons x r ih =>
    have := ih (fun i a h => h1 (i + 1) a (by rw [List.getElem?_cons_succ]; exact h)) (fun i a b ha hb => h2 (i + 1) a b (by rw [List.getElem?_cons_succ]; exact ha) (by rw [List.getElem?_cons_succ]; exact hb))
    cases r with
    | nil => simp only [keysOk, decide_eq_true_eq]; exact h1 0 x rfl
    | cons y r => rw [keysOk, this, h2 0 x y rfl rfl, decide_eq_true (h1 0 x rfl)]; rfl
end
end Go.Proofs.YtcnjpcadejcenaaGreatDoor
namespace Go.Proofs.YtcnjpcadejcenaaGreatDoor
open Go Go.Eng Go.Num
set_option maxRecDepth 100000
abbrev ST : TypeId := 9
theorem elem_s : ElemT Tryz.prog 24 ST 1 16 := ⟨by kernel_rfl, by kernel_rfl, by decide⟩
theorem elem_v : ElemT Tryz.prog 23 VT 5 80 := ⟨by kernel_rfl, by kernel_rfl, by decide⟩
abbrev ptr (b : Nat) : Value := .pointer (some ⟨b, 0, none⟩)
structure Grow (w0 w : World) (b base : Nat) (sv0 kv0 sv kv : Value) (xs : List JV) (ks : List Str) : Prop where
  ext : Ext w0 w
  hb : w.heap[b]? = some (.cells [i64 6, .bool false, str [], sv0, kv0].toArray VT (0, 0))
  low : w0.heap.size ≤ b
  lt : b < base
  le : base ≤ w.heap.size
  items : ∃ L, Own w base VT 5 sv xs.length L ∧ VReps w0 xs L
  keys : Own w base ST 1 kv ks.length (ks.map str)
theorem Grow.chg {w0 w w' : World} {b b' base : Nat} {sv0 kv0 sv kv : Value} {xs : List JV} {ks : List Str} (h : Grow w0 w b base sv0 kv0 sv kv xs ks) (hc : Chg (fun k => k = b') w w') (h1 : b' ≠ b) (h2 : b' < base) (h3 : w0.heap.size ≤ b') : Grow w0 w' b base sv0 kv0 sv kv xs ks :=
  ⟨h.ext.new hc h3, hc.at h.hb (fun e => h1 e.symm), h.low, h.lt, Nat.le_trans h.le hc.size, let ⟨L, g1, g2⟩ := h.items; ⟨L, g1.chg hc fun k hk e => by have := hk.1; omega, g2⟩, h.keys.chg hc fun k hk e => by have := hk.1; omega⟩
theorem own_ge {w : World} {base : Nat} {e : TypeId} {size : Nat} {v : Value} {n : Nat} {xs : List Value} (h : Own w base e size v n xs) {k : Nat} (hk : v.ownBlock = some k) : base ≤ k ∧ ∃ c, w.heap[k]? = some (.cells c e (0, 0)) := h.block k hk
theorem Grow.set {w0 w : World} {b base off : Nat} {sv0 kv0 sv kv v sv1 kv1 : Value} {xs : List JV} {ks : List Str} {K : World → Prop} (h : Grow w0 w b base sv0 kv0 sv kv xs ks) (h1 : one1 v = true) (ho : off < 5)
    (he : ([i64 6, .bool false, str [], sv0, kv0] : List Value).set off v = [i64 6, .bool false, str [], sv1, kv1]) (hK : ∀ w', Grow w0 w' b base sv1 kv1 sv kv xs ks → Chg (fun k => k = b) w w' → K w') : stW 1 (.pointer (some ⟨b, off, none⟩)) v w K := by
  refine st_at h.hb h1 (by simpa using ho) fun w' hz hb' hc => ?_
  refine hK w' ⟨h.ext.new hc h.low, ?_, h.low, h.lt, by rw [hz]; exact h.le, ?_, h.keys.chg hc fun k hk e => ?_⟩ hc
  · rw [hb', ← he]; simp
  · obtain ⟨L, h1, h2⟩ := h.items
    exact ⟨L, h1.chg hc fun k hk e => by have := hk.1; have := h.lt; omega, h2⟩
  · have := hk.1; have := h.lt; omega
theorem Grow.one {w0 w : World} {b base : Nat} {sv0 kv0 sv kv : Value} {xs : List JV} {ks : List Str} (h : Grow w0 w b base sv0 kv0 sv kv xs ks) : one1 sv = true ∧ one1 kv = true := by
  obtain ⟨L, h1, _⟩ := h.items
  obtain ⟨p, c, rfl, _⟩ := h1.sl.shape
  obtain ⟨p', c', rfl, _⟩ := h.keys.sl.shape
  exact ⟨rfl, rfl⟩
structure OwnV (w0 w : World) (base : Nat) (v : JV) (sv kv : Value) : Prop where
  items : ∃ L, Own w base VT 5 sv v.xs.length L ∧ VReps w0 v.xs L
  keys : Own w base ST 1 kv v.ks.length (v.ks.map str)
  fits : Fits v.xs.length v.ks v.t
theorem OwnV.chg {w0 w w' : World} {base : Nat} {v : JV} {sv kv : Value} {S : Nat → Prop} (h : OwnV w0 w base v sv kv) (hc : Chg S w w') (hS : ∀ k, base ≤ k → k < w.heap.size → ¬ S k) : OwnV w0 w' base v sv kv :=
  ⟨let ⟨L, h1, h2⟩ := h.items; ⟨L, h1.chg hc fun k hk => hS k hk.1 (by obtain ⟨_, c, hk⟩ := hk; exact at_lt hk), h2⟩, h.keys.chg hc fun k hk => hS k hk.1 (by obtain ⟨_, c, hk⟩ := hk; exact at_lt hk), h.fits⟩
theorem OwnV.one {w0 w : World} {base : Nat} {v : JV} {sv kv : Value} (h : OwnV w0 w base v sv kv) : one1 sv = true ∧ one1 kv = true := by
  obtain ⟨L, h1, _⟩ := h.items
  obtain ⟨p, c, rfl, _⟩ := h1.sl.shape
  obtain ⟨p', c', rfl, _⟩ := h.keys.sl.shape
  exact ⟨rfl, rfl⟩
theorem OwnV.val {w0 w : World} {base : Nat} {v : JV} {sv kv : Value} (h : OwnV w0 w base v sv kv) : VRepS w0 w v [i64 v.k, .bool v.b, str v.t, sv, kv] := by
  obtain ⟨L, h1, h2⟩ := h.items
  exact ⟨sv, kv, VT, ST, L, rfl, h1.sl, h2, h.keys.sl, h.fits⟩
theorem Grow.own {w0 w : World} {b base : Nat} {sv kv : Value} {l : List (Str × JV)} (h : Grow w0 w b base sv kv sv kv (l.map (·.2)) (l.map (·.1))) (hl : l.length ≤ 1000000) (hk : ∀ p ∈ l, p.1.length ≤ 9223372036854775807) : OwnV w0 w base (mkO l) sv kv := by
  refine ⟨h.items, h.keys, ?_, ?_, ?_, ?_⟩
  · simp only [mkO, JV.xs, List.length_map]; omega
  · simp only [mkO, JV.ks, List.length_map]; omega
  · simp [mkO, JV.t]
  · intro s hs
    simp only [mkO, JV.ks, List.mem_map] at hs
    obtain ⟨p, hp, rfl⟩ := hs
    exact hk p hp
theorem row_s {w : World} {x : Str} {K : Value → World → Prop} (hK : ∀ t w', SlAt w' ST t 1 [str x] → Ext w w' → K t w') : bslW ST 1 [.string (ofL [])] [(0, 1, str x)] w K := by
  unfold bslW
  simp only [wsv, wsg, wsh, wsl, cond_true, cond_false, exists_eq_left', Option.some.injEq, Option.isSome_some, List.getElem?_toArray, List.getElem?_cons_zero, List.getElem?_cons_succ, List.length_cons, List.length_nil, List.set_cons_zero, List.set_cons_succ, List.getD_cons_zero, List.getD_cons_succ, Nat.zero_add, Nat.add_zero, Nat.reduceAdd, Nat.reduceLT, Nat.lt_add_one, Nat.zero_lt_succ, decide_true, decide_false, ne_eq, reduceCtorEq]
  exact hK _ _ (own_new (w := w) (base := w.heap.size) (e := ST) (size := 1) (n := 1) (cs := [str x]) (Nat.le_refl _) rfl (by omega)).sl (by repeat (first | assumption | exact Chg.refl _ _ | refine Chg.drew ?_ | refine Chg.alloc ?_ _ | refine Chg.set ?_ (by first | exact .inl rfl | exact .inr (by omega) | exact .inr (by simp only [size_set, size_alloc, size_drew]; omega) | (left; simp; done)) _ | exact Chg.of_ext (by assumption)))
theorem row_v {w : World} {cs : List Value} {K : Value → World → Prop} (hc : cs.length = 5) (hK : ∀ t w', SlAt w' VT t 1 cs → Ext w w' → K t w') : bslW VT 1 [(.int .i64 0), (.bool false), (.string (ofL [])), (.slice none 0 0), (.slice none 0 0)] [(0, 5, .agg cs.toArray)] w K := by
  unfold bslW
  have hp : ∀ K : List Value → Prop, K cs → putW [(.int .i64 0), (.bool false), (.string (ofL [])), (.slice none 0 0), (.slice none 0 0)] [(0, 5, .agg cs.toArray)] K := by
    intro K hK
    refine ⟨by simp [Value.cells, hc], by simp, ?_⟩
    have : List.take 0 [(Value.int .i64 0), (.bool false), (.string (ofL [])), (.slice none 0 0), (.slice none 0 0)] ++ ((Value.agg cs.toArray).cells.toList ++ List.drop (0 + 5) [(Value.int .i64 0), (.bool false), (.string (ofL [])), (.slice none 0 0), (.slice none 0 0)]) = cs := by simp [Value.cells]
    rw [this]
    exact hK
  refine hp _ ?_
  exact hK _ _ (own_new (w := w) (base := w.heap.size) (e := VT) (size := 5) (n := 1) (cs := cs) (Nat.le_refl _) (by omega) (by omega)).sl (by repeat (first | assumption | exact Chg.refl _ _ | refine Chg.drew ?_ | refine Chg.alloc ?_ _ | refine Chg.set ?_ (by first | exact .inl rfl | exact .inr (by omega) | exact .inr (by simp only [size_set, size_alloc, size_drew]; omega) | (left; simp; done)) _ | exact Chg.of_ext (by assumption)))
theorem OwnV.item_old {w0 w : World} {base : Nat} {v : JV} {sv kv : Value} {k : IntKind} {i : Nat} {x : JV} {K : Value → Prop} (h : OwnV w0 w base v sv kv) (hi : v.xs[i]? = some x) (hK : ∀ cs, VRep w0 x cs → K (.agg cs.toArray)) : ixaW none 5 sv (.int k i) fun p => ldW true 5 p w K := by
  obtain ⟨L, h1, h2⟩ := h.items
  obtain ⟨cs, hc, hg⟩ := h2.get hi
  refine ixa_at (size := 5) h1.sl h2.len (by omega) (List.getElem?_eq_some_iff.1 hi).1 fun b o c fr hb hcc => ?_
  exact ld_cells hb hc.len (fun j hj => (hcc j hj).trans (hg j hj)) (hK cs hc)
end Go.Proofs.YtcnjpcadejcenaaGreatDoor
namespace Go.Proofs.YtcnjpcadejcenaaGreatDoor
open Go Go.Eng Go.Num
set_option maxRecDepth 100000
section
variable [HX]
theorem ret_val {w w0 : World} {b : Nat} {cs ds : List Value} {v : JV} {K : Value → World → Prop} (hb : w.heap[b]? = some (.cells ds.toArray VT (0, 0))) (hd : ds.length = 5) (hl : w0.heap.size ≤ b) (hx : Ext w0 w) (h : VRep w0 v cs)
    (hK : ∀ w', Ext w0 w' → Chg (fun k => k = b) w w' → VRep w' v cs → K (.agg cs.toArray) w') : stW 5 (ptr b) (.agg cs.toArray) w fun w5 => ldW true 5 (ptr b) w5 fun r6 => K r6 w5 :=
  ret_agg hb h.len hd h.all_one fun w' hc => by
    have hx' := hx.new hc hl
    exact hK w' hx' hc (h.ext hx')
theorem ValB.item_old {w0 w : World} {a : Nat} {v : JV} {sv kv : Value} {k : IntKind} {i : Nat} {x : JV} {K : Value → Prop} (h : ValB w0 a v sv kv) (hx : Ext w0 w) (hi : v.xs[i]? = some x) (hK : ∀ cs, VRep w0 x cs → K (.agg cs.toArray)) : ixaW none 5 sv (.int k i) fun p => ldW true 5 p w K := by
  obtain ⟨T, L, h1, h2⟩ := h.items
  obtain ⟨cs, hc, hg⟩ := h2.get hi
  refine ixa_at (size := 5) (h1.ext hx) h2.len (by omega) (List.getElem?_eq_some_iff.1 hi).1 fun b o c fr hb hcc => ?_
  exact ld_cells hb hc.len (fun j hj => (hcc j hj).trans (hg j hj)) (hK cs hc)
theorem obj_one {k : Int} {b : Bool} {t : Str} {sv kv : Value} (h1 : one1 sv = true) (h2 : one1 kv = true) : ([i64 k, .bool b, str t, sv, kv] : List Value).all one1 = true := by
  simp only [List.all_cons, List.all_nil, h1, h2, Bool.and_true]; rfl
end
end Go.Proofs.YtcnjpcadejcenaaGreatDoor

namespace Go.Proofs.YtcnjpcadejcenaaGreatDoor
open Go Go.Eng Go.Num
set_option maxRecDepth 100000
section
variable [HX]
theorem copy_new {w : World} {v : JV} {cs : List Value} {K : Value → World → Prop} (h : VRep w v cs) (hK : ∀ a w' sv kv, ValB w' a v sv kv → Ext w w' → K (ptr a) w') :
    allocW VT [(.int .i64 0), (.bool false), (.string (ofL [])), (.slice none 0 0), (.slice none 0 0)] w fun t w1 => stW 5 t (.agg cs.toArray) w1 fun w2 => K t w2 := by
  obtain ⟨sv, kv, T1, T2, L, rfl, h1, h2, h3, h4⟩ := h.out
  refine alloc_new fun a w1 ha hz hb hx => ?_
  refine st_agg_at hb rfl rfl h.all_one fun w2 hz2 hb2 hc2 => ?_
  have hx' := hx.new hc2 (by omega)
  exact hK a w2 sv kv ⟨hb2, ⟨T1, L, h1.ext hx', h2.ext hx'⟩, ⟨T2, h3.ext hx'⟩, h4⟩ hx'
theorem any_take {α : Type} {p : α → Bool} {xs : List α} {i : Nat} {x : α} (hi : xs[i]? = some x) : (xs.take (i + 1)).any p = ((xs.take i).any p || p x) := by
  rw [List.take_add_one, hi]; simp
end
end Go.Proofs.YtcnjpcadejcenaaGreatDoor
namespace Go.Proofs.YtcnjpcadejcenaaGreatDoor
open Go Go.Eng
set_option maxRecDepth 100000
variable [HX]
def plan76 : Plan := { js := [], ds := [] }
def W76 (v0 v1 : Value) (w : World) (K : Value → World → Prop) : Prop :=
  callF Tryz.prog 136 [v0, v1] w fun t7 w1 =>
  binW .geq t7 (.int .i64 0) fun t8 =>
  K t8 w1
theorem W76_eq (v0 v1 : Value) (w : World) (K : Value → World → Prop) : funW Tryz.prog Tryz.f76 plan76 [v0, v1] w K = W76 v0 v1 w K := by kernel_rfl
theorem W76_chk : chkFun Tryz.prog Tryz.f76 plan76 2 = true := by kernel_rfl
theorem W76_ok {v0 v1 : Value} {w : World} {K : Value → World → Prop} (h : W76 v0 v1 w K) : callF Tryz.prog 76 [v0, v1] w K :=
  tie Tryz.prog 76 Tryz.f76 plan76 [v0, v1] w K 2 (W76 v0 v1 w K) rfl mixed Tryz.func76 W76_chk (W76_eq v0 v1 w K) Tryz.call76 h
def plan162 : Plan := { js := [(6004, ⟨[19], [], 17⟩)], ds := [] }
def W162 (v0 v1 : Value) (w : World) (K : Value → World → Prop) : Prop :=
  boxW 26 v0 w fun t2 w1 =>
  allocW 26 [(.int .i64 0), (.bool false), (.string (ofL [])), (.slice none 0 0), (.slice none 0 0)] w1 fun t4 w2 =>
  fldW 4 t2 fun t9 =>
  ldW false 1 t9 w2 fun t10 =>
  callF Tryz.prog 188 [t10, v1] w2 fun t12 w3 =>
  extW 0 t12 fun t13 =>
  extW 1 t12 fun t14 =>
  GdW (isB t14 true) [undef] w3 (fun J4 =>
    fldW 0 t2 fun t17 =>
    ldW false 1 t17 w3 fun t18 =>
    binW .eql t18 (.int .i64 6) fun t19 =>
    J4 [t19] w3)
  fun s4 _ w5 =>
  pickW t14 (s4.getD 0 undef) (.bool false) fun t20 =>
  condW t20 (
    fldW 3 t2 fun t21 =>
    ldW false 1 t21 w5 fun t22 =>
    ixaW none 5 t22 t13 fun t24 =>
    ldW true 5 t24 w5 fun t25 =>
    callF Tryz.prog 189 [t25] w5 fun t26 w6 =>
    stW 5 t4 t26 w6 fun w7 =>
    ldW true 5 t4 w7 fun r8 =>
    K (.tuple #[r8, (.bool true)]) w7) (
    putW [(.int .i64 0), (.bool false), (.string (ofL [])), (.slice none 0 0), (.slice none 0 0)] [] fun c9 =>
    stW 5 t4 (.agg c9.toArray) w5 fun w10 =>
    ldW true 5 t4 w10 fun r11 =>
    K (.tuple #[r11, (.bool false)]) w10)
theorem W162_eq (v0 v1 : Value) (w : World) (K : Value → World → Prop) : funW Tryz.prog Tryz.f162 plan162 [v0, v1] w K = W162 v0 v1 w K := by kernel_rfl
theorem W162_chk : chkFun Tryz.prog Tryz.f162 plan162 2 = true := by kernel_rfl
theorem W162_ok {v0 v1 : Value} {w : World} {K : Value → World → Prop} (h : W162 v0 v1 w K) : callF Tryz.prog 162 [v0, v1] w K :=
  tie Tryz.prog 162 Tryz.f162 plan162 [v0, v1] w K 2 (W162 v0 v1 w K) rfl mixed Tryz.func162 W162_chk (W162_eq v0 v1 w K) Tryz.call162 h
def plan43 : Plan := { js := [(3006, ⟨[10], [], 7⟩)], ds := [] }
def W43 (v0 : Value) (w : World) (K : Value → World → Prop) : Prop :=
  boxW 26 v0 w fun t1 w1 =>
  fldW 0 t1 fun t3 =>
  ldW false 1 t3 w1 fun t4 =>
  binW .neq t4 (.int .i64 1) fun t5 =>
  GdW (isB t5 true) [undef] w1 (fun J2 =>
    fldW 3 t1 fun t7 =>
    ldW false 1 t7 w1 fun t8 =>
    callF Tryz.prog 99 [t8, (.func (.func 100) #[] #[])] w1 fun t9 w3 =>
    unW .not t9 fun t10 =>
    J2 [t10] w3)
  fun s2 _ w4 =>
  pickW t5 (s2.getD 0 undef) (.bool false) fun t11 =>
  K t11 w4
theorem W43_eq (v0 : Value) (w : World) (K : Value → World → Prop) : funW Tryz.prog Tryz.f43 plan43 [v0] w K = W43 v0 w K := by kernel_rfl
theorem W43_chk : chkFun Tryz.prog Tryz.f43 plan43 1 = true := by kernel_rfl
theorem W43_ok {v0 : Value} {w : World} {K : Value → World → Prop} (h : W43 v0 w K) : callF Tryz.prog 43 [v0] w K :=
  tie Tryz.prog 43 Tryz.f43 plan43 [v0] w K 1 (W43 v0 w K) rfl mixed Tryz.func43 W43_chk (W43_eq v0 w K) Tryz.call43 h
def plan136 : Plan := { js := [(6, ⟨[8], [4, 5], 8⟩)], ds := [] }
def W136 (v0 v1 : Value) (w : World) (K : Value → World → Prop) : Prop :=
  lenlW v0 fun t7 =>
  LoopW [(.int .i64 0)] w fun s1 _ w2 L1 =>
    binW .lss (s1.getD 0 undef) t7 fun t9 =>
    condW t9 (
      ixaW none 1 v0 (s1.getD 0 undef) fun t14 =>
      ldW false 1 t14 w2 fun t15 =>
      callV Tryz.prog v1 [t15] w2 fun t16 w3 =>
      condW t16 (
        K (s1.getD 0 undef) w3) (
        binW .add (s1.getD 0 undef) (.int .i64 1) fun t18 =>
        L1 [t18] w3)) (
      K (.int .i64 (-1)) w2)
theorem W136_eq (v0 v1 : Value) (w : World) (K : Value → World → Prop) : funW Tryz.prog Tryz.f136 plan136 [v0, v1] w K = W136 v0 v1 w K := by kernel_rfl
theorem W136_chk : chkFun Tryz.prog Tryz.f136 plan136 2 = true := by kernel_rfl
theorem W136_ok {v0 v1 : Value} {w : World} {K : Value → World → Prop} (h : W136 v0 v1 w K) : callF Tryz.prog 136 [v0, v1] w K :=
  tie Tryz.prog 136 Tryz.f136 plan136 [v0, v1] w K 2 (W136 v0 v1 w K) rfl mixed Tryz.func136 W136_chk (W136_eq v0 v1 w K) Tryz.call136 h
def plan188 : Plan := { js := [(24004, ⟨[52], [], 36⟩), (24005, ⟨[51], [], 43⟩), (24007, ⟨[50], [], 49⟩), (24013, ⟨[48], [], 43⟩), (24020, ⟨[42], [], 36⟩), (8, ⟨[7, 8], [], 7⟩)], ds := [] }
def W188 (v0 v1 : Value) (w : World) (K : Value → World → Prop) : Prop :=
  lenlW v0 fun t11 =>
  LoopW [(.int .i64 0), t11] w fun s1 _ w2 L1 =>
    binW .lss (s1.getD 0 undef) (s1.getD 1 undef) fun t15 =>
    condW t15 (
      binW .add (s1.getD 0 undef) (s1.getD 1 undef) fun t18 =>
      cvtW .u64 t18 fun t19 =>
      binW .shr t19 (.int .u64 1) fun t20 =>
      cvtW .i64 t20 fun t21 =>
      ixaW none 1 v0 t21 fun t24 =>
      ldW false 1 t24 w2 fun t25 =>
      callF Tryz.prog 226 [t25, v1] w2 fun t27 w3 =>
      condW t27 (
        binW .add t21 (.int .i64 1) fun t29 =>
        L1 [t29, (s1.getD 1 undef)] w3) (
        L1 [(s1.getD 0 undef), t21] w3)) (
      binW .lss (s1.getD 0 undef) t11 fun t34 =>
      GdW (isB t34 true) [undef] w2 (fun J4 =>
        ixaW none 1 v0 (s1.getD 0 undef) fun t38 =>
        ldW false 1 t38 w2 fun t39 =>
        binW .eql t39 v1 fun t41 =>
        J4 [t41] w2)
      fun s4 _ w5 =>
      GdW (isB (s4.getD 0 undef) false) [undef] w5 (fun J6 =>
        ixaW none 1 v0 (s1.getD 0 undef) fun t45 =>
        ldW false 1 t45 w5 fun t46 =>
        callF Tryz.prog 227 [t46] w5 fun t47 w7 =>
        J6 [t47] w7)
      fun s6 _ w8 =>
      GdW (isB (s6.getD 0 undef) true) [undef] w8 (fun J9 =>
        callF Tryz.prog 227 [v1] w8 fun t50 w10 =>
        J9 [t50] w10)
      fun s9 _ w11 =>
      GdW (isB (s4.getD 0 undef) false) [undef] w11 (fun J12 =>
        pickW (s6.getD 0 undef) (s9.getD 0 undef) (.bool false) fun t51 =>
        J12 [t51] w11)
      fun s12 _ w13 =>
      GdW (isB t34 true) [undef] w13 (fun J14 =>
        pickW (s4.getD 0 undef) (.bool true) (s12.getD 0 undef) fun t52 =>
        J14 [t52] w13)
      fun s14 _ w15 =>
      pickW t34 (s14.getD 0 undef) (.bool false) fun t53 =>
      K (.tuple #[(s1.getD 0 undef), t53]) w15)
theorem W188_eq (v0 v1 : Value) (w : World) (K : Value → World → Prop) : funW Tryz.prog Tryz.f188 plan188 [v0, v1] w K = W188 v0 v1 w K := by kernel_rfl
theorem W188_chk : chkFun Tryz.prog Tryz.f188 plan188 2 = true := by kernel_rfl
theorem W188_ok {v0 v1 : Value} {w : World} {K : Value → World → Prop} (h : W188 v0 v1 w K) : callF Tryz.prog 188 [v0, v1] w K :=
  tie Tryz.prog 188 Tryz.f188 plan188 [v0, v1] w K 2 (W188 v0 v1 w K) rfl mixed Tryz.func188 W188_chk (W188_eq v0 v1 w K) Tryz.call188 h
def plan189 : Plan := { js := [], ds := [(3, ⟨[0, 1, 3, 4, 6, 8], [[], [0], [0, 1], [], [3], [0, 1, 2, 3, 4], [0, 1, 2, 3, 4], [0, 1, 2, 3, 4, 5, 6], [0, 1, 2, 3, 4, 5, 6, 7], [0, 1, 2, 3, 4, 5, 6, 7, 8]]⟩)] }
def W189 (v0 : Value) (w : World) (K : Value → World → Prop) : Prop :=
  boxW 26 v0 w fun t1 w1 =>
  allocW 26 [(.int .i64 0), (.bool false), (.string (ofL [])), (.slice none 0 0), (.slice none 0 0)] w1 fun t2 w2 =>
  fldW 4 t1 fun t3 =>
  ldW false 1 t3 w2.drew fun t4 =>
  fldW 3 t1 fun t6 =>
  ldW false 1 t6 w2.drew fun t7 =>
  callF Tryz.prog 228 [t4] w2.drew fun t5 w3 =>
  (ldW false 1 t6 w3 fun x => x = t7) ∧
  fldW 4 t1 fun t9 =>
  callF Tryz.prog 229 [t7] w3 fun t8 w4 =>
  stW 1 t9 t5 w4 fun w5 =>
  fldW 3 t1 fun t10 =>
  stW 1 t10 t8 w5 fun w6 =>
  ldW true 5 t1 w6 fun t11 =>
  stW 5 t2 t11 w6 fun w7 =>
  ldW true 5 t2 w7 fun r8 =>
  K r8 w7
theorem W189_eq (v0 : Value) (w : World) (K : Value → World → Prop) : funW Tryz.prog Tryz.f189 plan189 [v0] w K = W189 v0 w K := by kernel_rfl
theorem W189_chk : chkFun Tryz.prog Tryz.f189 plan189 1 = true := by kernel_rfl
theorem W189_ok {v0 : Value} {w : World} {K : Value → World → Prop} (h : W189 v0 w K) : callF Tryz.prog 189 [v0] w K :=
  tie Tryz.prog 189 Tryz.f189 plan189 [v0] w K 1 (W189 v0 w K) rfl mixed Tryz.func189 W189_chk (W189_eq v0 w K) Tryz.call189 h
def plan99 : Plan := { js := [], ds := [] }
def W99 (v0 v1 : Value) (w : World) (K : Value → World → Prop) : Prop :=
  callF Tryz.prog 150 [v0, v1] w fun t7 w1 =>
  binW .geq t7 (.int .i64 0) fun t8 =>
  K t8 w1
theorem W99_eq (v0 v1 : Value) (w : World) (K : Value → World → Prop) : funW Tryz.prog Tryz.f99 plan99 [v0, v1] w K = W99 v0 v1 w K := by kernel_rfl
theorem W99_chk : chkFun Tryz.prog Tryz.f99 plan99 2 = true := by kernel_rfl
theorem W99_ok {v0 v1 : Value} {w : World} {K : Value → World → Prop} (h : W99 v0 v1 w K) : callF Tryz.prog 99 [v0, v1] w K :=
  tie Tryz.prog 99 Tryz.f99 plan99 [v0, v1] w K 2 (W99 v0 v1 w K) rfl mixed Tryz.func99 W99_chk (W99_eq v0 v1 w K) Tryz.call99 h
def plan100 : Plan := { js := [], ds := [] }
def W100 (v0 : Value) (w : World) (K : Value → World → Prop) : Prop :=
  boxW 26 v0 w fun t1 w1 =>
  ldW true 5 t1 w1 fun t3 =>
  callF Tryz.prog 43 [t3] w1 fun t4 w2 =>
  unW .not t4 fun t5 =>
  K t5 w2
theorem W100_eq (v0 : Value) (w : World) (K : Value → World → Prop) : funW Tryz.prog Tryz.f100 plan100 [v0] w K = W100 v0 w K := by kernel_rfl
theorem W100_chk : chkFun Tryz.prog Tryz.f100 plan100 1 = true := by kernel_rfl
theorem W100_ok {v0 : Value} {w : World} {K : Value → World → Prop} (h : W100 v0 w K) : callF Tryz.prog 100 [v0] w K :=
  tie Tryz.prog 100 Tryz.f100 plan100 [v0] w K 1 (W100 v0 w K) rfl mixed Tryz.func100 W100_chk (W100_eq v0 w K) Tryz.call100 h
def plan148 : Plan := { js := [(28003, ⟨[36], [], 35⟩), (16, ⟨[28], [2, 5], 28⟩), (6002, ⟨[23], [], 17⟩), (6004, ⟨[22], [], 21⟩), (6008, ⟨[20], [], 17⟩), (6013, ⟨[14], [], 12⟩)], ds := [] }
def W148 (v0 : Value) (w : World) (K : Value → World → Prop) : Prop :=
  callF Tryz.prog 184 [v0, (.string (ofL [45]))] w fun t7 w1 =>
  lensW t7 fun t9 =>
  binW .lss t9 (.int .i64 1) fun t10 =>
  GdW (isB t10 false) [undef] w1 (fun J2 =>
    lensW t7 fun t13 =>
    binW .gtr t13 (.int .i64 100) fun t14 =>
    J2 [t14] w1)
  fun s2 _ w3 =>
  pickW t10 (.bool true) (s2.getD 0 undef) fun t15 =>
  GdW (isB t15 false) [undef] w3 (fun J4 =>
    ixsW t7 (.int .i64 0) fun t18 =>
    binW .eql t18 (.int .u8 48) fun t19 =>
    J4 [t19] w3)
  fun s4 _ w5 =>
  GdW (isB (s4.getD 0 undef) true) [undef] w5 (fun J6 =>
    binW .neq v0 (.string (ofL [48])) fun t22 =>
    J6 [t22] w5)
  fun s6 _ w7 =>
  GdW (isB t15 false) [undef] w7 (fun J8 =>
    pickW (s4.getD 0 undef) (s6.getD 0 undef) (.bool false) fun t23 =>
    J8 [t23] w7)
  fun s8 _ w9 =>
  pickW t15 (.bool true) (s8.getD 0 undef) fun t24 =>
  condW t24 (
    K (.bool false) w9) (
    semE Tryz.prog (convert 9 44 t7) w9 fun t26 w10 =>
    lenlW t26 fun t27 =>
    LoopW [(.int .i64 0)] w10 fun s11 _ w12 L11 =>
      binW .lss (s11.getD 0 undef) t27 fun t29 =>
      condW t29 (
        ixaW none 1 t26 (s11.getD 0 undef) fun t30 =>
        ldW false 1 t30 w12 fun t31 =>
        binW .lss t31 (.int .u8 48) fun t33 =>
        GdW (isB t33 false) [undef] w12 (fun J13 =>
          binW .gtr t31 (.int .u8 57) fun t36 =>
          J13 [t36] w12)
        fun s13 _ w14 =>
        pickW t33 (.bool true) (s13.getD 0 undef) fun t37 =>
        condW t37 (
          K (.bool false) w14) (
          binW .add (s11.getD 0 undef) (.int .i64 1) fun t38 =>
          L11 [t38] w14)) (
        K (.bool true) w12))
theorem W148_eq (v0 : Value) (w : World) (K : Value → World → Prop) : funW Tryz.prog Tryz.f148 plan148 [v0] w K = W148 v0 w K := by kernel_rfl
theorem W148_chk : chkFun Tryz.prog Tryz.f148 plan148 1 = true := by kernel_rfl
theorem W148_ok {v0 : Value} {w : World} {K : Value → World → Prop} (h : W148 v0 w K) : callF Tryz.prog 148 [v0] w K :=
  tie Tryz.prog 148 Tryz.f148 plan148 [v0] w K 1 (W148 v0 w K) rfl mixed Tryz.func148 W148_chk (W148_eq v0 w K) Tryz.call148 h
def plan228 : Plan := { js := [], ds := [] }
def W228 (v0 : Value) (w : World) (K : Value → World → Prop) : Prop :=
  eqW .slice false v0 (.slice none 0 0) fun t4 =>
  condW t4 (
    K (.slice none 0 0) w) (
    bslW 9 0 [] [] w fun t5 w1 =>
    semE Tryz.prog (Builtin.append_ #[24, 24] 24 #[t5, v0]) w1 fun t7 w2 =>
    K t7 w2)
theorem W228_eq (v0 : Value) (w : World) (K : Value → World → Prop) : funW Tryz.prog Tryz.f228 plan228 [v0] w K = W228 v0 w K := by kernel_rfl
theorem W228_chk : chkFun Tryz.prog Tryz.f228 plan228 1 = true := by kernel_rfl
theorem W228_ok {v0 : Value} {w : World} {K : Value → World → Prop} (h : W228 v0 w K) : callF Tryz.prog 228 [v0] w K :=
  tie Tryz.prog 228 Tryz.f228 plan228 [v0] w K 1 (W228 v0 w K) rfl mixed Tryz.func228 W228_chk (W228_eq v0 w K) Tryz.call228 h
def plan229 : Plan := { js := [(8, ⟨[3, 8], [3, 5], 8⟩)], ds := [] }
def W229 (v0 : Value) (w : World) (K : Value → World → Prop) : Prop :=
  lenlW v0 fun t7 =>
  LoopW [(.slice none 0 0), (.int .i64 0)] w fun s1 _ w2 L1 =>
    binW .lss (s1.getD 1 undef) t7 fun t9 =>
    condW t9 (
      ixaW none 5 v0 (s1.getD 1 undef) fun t10 =>
      ldW true 5 t10 w2 fun t11 =>
      allocW 26 [(.int .i64 0), (.bool false), (.string (ofL [])), (.slice none 0 0), (.slice none 0 0)] w2 fun t5 w3 =>
      stW 5 t5 t11 w3 fun w4 =>
      ldW true 5 t5 w4 fun t13 =>
      callF Tryz.prog 189 [t13] w4 fun t14 w5 =>
      bslW 26 1 [(.int .i64 0), (.bool false), (.string (ofL [])), (.slice none 0 0), (.slice none 0 0)] [(0, 5, t14)] w5 fun t15 w6 =>
      semE Tryz.prog (Builtin.append_ #[23, 23] 23 #[(s1.getD 0 undef), t15]) w6 fun t16 w7 =>
      binW .add (s1.getD 1 undef) (.int .i64 1) fun t17 =>
      L1 [t16, t17] w7) (
      K (s1.getD 0 undef) w2)
theorem W229_eq (v0 : Value) (w : World) (K : Value → World → Prop) : funW Tryz.prog Tryz.f229 plan229 [v0] w K = W229 v0 w K := by kernel_rfl
theorem W229_chk : chkFun Tryz.prog Tryz.f229 plan229 1 = true := by kernel_rfl
theorem W229_ok {v0 : Value} {w : World} {K : Value → World → Prop} (h : W229 v0 w K) : callF Tryz.prog 229 [v0] w K :=
  tie Tryz.prog 229 Tryz.f229 plan229 [v0] w K 1 (W229 v0 w K) rfl mixed Tryz.func229 W229_chk (W229_eq v0 w K) Tryz.call229 h
def plan93 : Plan := { js := [], ds := [] }
def W93 (v0 v1 : Value) (w : World) (K : Value → World → Prop) : Prop :=
  callF Tryz.prog 147 [v0] w fun t8 w1 =>
  callF Tryz.prog 147 [v1] w1 fun t10 w2 =>
  condW t8 (
    condW t10 (
      K (.int .i64 0) w2) (
      K (.int .i64 (-1)) w2)) (
    condW t10 (
      K (.int .i64 1) w2) (
      binW .lss v0 v1 fun t16 =>
      condW t16 (
        K (.int .i64 (-1)) w2) (
        binW .gtr v0 v1 fun t19 =>
        condW t19 (
          K (.int .i64 1) w2) (
          K (.int .i64 0) w2))))
theorem W93_eq (v0 v1 : Value) (w : World) (K : Value → World → Prop) : funW Tryz.prog Tryz.f93 plan93 [v0, v1] w K = W93 v0 v1 w K := by kernel_rfl
theorem W93_chk : chkFun Tryz.prog Tryz.f93 plan93 2 = true := by kernel_rfl
theorem W93_ok {v0 v1 : Value} {w : World} {K : Value → World → Prop} (h : W93 v0 v1 w K) : callF Tryz.prog 93 [v0, v1] w K :=
  tie Tryz.prog 93 Tryz.f93 plan93 [v0, v1] w K 2 (W93 v0 v1 w K) rfl mixed Tryz.func93 W93_chk (W93_eq v0 v1 w K) Tryz.call93 h
def plan90 : Plan := { js := [(8, ⟨[8], [2, 5], 8⟩)], ds := [] }
def W90 (v0 : Value) (w : World) (K : Value → World → Prop) : Prop :=
  lenlW v0 fun t7 =>
  LoopW [(.int .i64 0)] w fun s1 _ w2 L1 =>
    binW .lss (s1.getD 0 undef) t7 fun t9 =>
    condW t9 (
      ixaW none 1 v0 (s1.getD 0 undef) fun t10 =>
      ldW false 1 t10 w2 fun t11 =>
      binW .neq t11 (.int .i64 0) fun t14 =>
      condW t14 (
        K t11 w2) (
        binW .add (s1.getD 0 undef) (.int .i64 1) fun t16 =>
        L1 [t16] w2)) (
      K (.int .i64 0) w2)
theorem W90_eq (v0 : Value) (w : World) (K : Value → World → Prop) : funW Tryz.prog Tryz.f90 plan90 [v0] w K = W90 v0 w K := by kernel_rfl
theorem W90_chk : chkFun Tryz.prog Tryz.f90 plan90 1 = true := by kernel_rfl
theorem W90_ok {v0 : Value} {w : World} {K : Value → World → Prop} (h : W90 v0 w K) : callF Tryz.prog 90 [v0] w K :=
  tie Tryz.prog 90 Tryz.f90 plan90 [v0] w K 1 (W90 v0 w K) rfl mixed Tryz.func90 W90_chk (W90_eq v0 w K) Tryz.call90 h
def plan91 : Plan := { js := [(6, ⟨[11], [4, 5, 6, 7, 8], 11⟩)], ds := [] }
def W91 (v0 v1 : Value) (w : World) (K : Value → World → Prop) : Prop :=
  lenlW v0 fun t10 =>
  LoopW [(.int .i64 0)] w fun s1 _ w2 L1 =>
    binW .lss (s1.getD 0 undef) t10 fun t12 =>
    condW t12 (
      ixaW none 1 v0 (s1.getD 0 undef) fun t14 =>
      ldW false 1 t14 w2 fun t15 =>
      lenlW v1 fun t18 =>
      binW .geq (s1.getD 0 undef) t18 fun t19 =>
      condW t19 (
        K (.int .i64 1) w2) (
        ixaW none 1 v1 (s1.getD 0 undef) fun t22 =>
        ldW false 1 t22 w2 fun t23 =>
        callF Tryz.prog 92 [t15, t23] w2 fun t26 w3 =>
        binW .neq t26 (.int .i64 0) fun t28 =>
        condW t28 (
          K t26 w3) (
          binW .add (s1.getD 0 undef) (.int .i64 1) fun t30 =>
          L1 [t30] w3))) (
      lenlW v0 fun t32 =>
      lenlW v1 fun t34 =>
      binW .lss t32 t34 fun t35 =>
      condW t35 (
        K (.int .i64 (-1)) w2) (
        K (.int .i64 0) w2))
theorem W91_eq (v0 v1 : Value) (w : World) (K : Value → World → Prop) : funW Tryz.prog Tryz.f91 plan91 [v0, v1] w K = W91 v0 v1 w K := by kernel_rfl
theorem W91_chk : chkFun Tryz.prog Tryz.f91 plan91 2 = true := by kernel_rfl
theorem W91_ok {v0 v1 : Value} {w : World} {K : Value → World → Prop} (h : W91 v0 v1 w K) : callF Tryz.prog 91 [v0, v1] w K :=
  tie Tryz.prog 91 Tryz.f91 plan91 [v0, v1] w K 2 (W91 v0 v1 w K) rfl mixed Tryz.func91 W91_chk (W91_eq v0 v1 w K) Tryz.call91 h
def plan150 : Plan := { js := [(6, ⟨[8], [4, 5], 8⟩)], ds := [] }
def W150 (v0 v1 : Value) (w : World) (K : Value → World → Prop) : Prop :=
  lenlW v0 fun t7 =>
  LoopW [(.int .i64 0)] w fun s1 _ w2 L1 =>
    binW .lss (s1.getD 0 undef) t7 fun t9 =>
    condW t9 (
      ixaW none 5 v0 (s1.getD 0 undef) fun t14 =>
      ldW true 5 t14 w2 fun t15 =>
      callV Tryz.prog v1 [t15] w2 fun t16 w3 =>
      condW t16 (
        K (s1.getD 0 undef) w3) (
        binW .add (s1.getD 0 undef) (.int .i64 1) fun t18 =>
        L1 [t18] w3)) (
      K (.int .i64 (-1)) w2)
theorem W150_eq (v0 v1 : Value) (w : World) (K : Value → World → Prop) : funW Tryz.prog Tryz.f150 plan150 [v0, v1] w K = W150 v0 v1 w K := by kernel_rfl
theorem W150_chk : chkFun Tryz.prog Tryz.f150 plan150 2 = true := by kernel_rfl
theorem W150_ok {v0 v1 : Value} {w : World} {K : Value → World → Prop} (h : W150 v0 v1 w K) : callF Tryz.prog 150 [v0, v1] w K :=
  tie Tryz.prog 150 Tryz.f150 plan150 [v0, v1] w K 2 (W150 v0 v1 w K) rfl mixed Tryz.func150 W150_chk (W150_eq v0 v1 w K) Tryz.call150 h
def plan147 : Plan := { js := [], ds := [] }
def W147 (v0 : Value) (w : World) (K : Value → World → Prop) : Prop :=
  binW .neq v0 v0 fun t5 =>
  K t5 w
theorem W147_eq (v0 : Value) (w : World) (K : Value → World → Prop) : funW Tryz.prog Tryz.f147 plan147 [v0] w K = W147 v0 w K := by kernel_rfl
theorem W147_chk : chkFun Tryz.prog Tryz.f147 plan147 1 = true := by kernel_rfl
theorem W147_ok {v0 : Value} {w : World} {K : Value → World → Prop} (h : W147 v0 w K) : callF Tryz.prog 147 [v0] w K :=
  tie Tryz.prog 147 Tryz.f147 plan147 [v0] w K 1 (W147 v0 w K) rfl mixed Tryz.func147 W147_chk (W147_eq v0 w K) Tryz.call147 h
def plan92 : Plan := { js := [], ds := [] }
def W92 (v0 v1 : Value) (w : World) (K : Value → World → Prop) : Prop :=
  callF Tryz.prog 146 [v0] w fun t8 w1 =>
  callF Tryz.prog 146 [v1] w1 fun t10 w2 =>
  condW t8 (
    condW t10 (
      K (.int .i64 0) w2) (
      K (.int .i64 (-1)) w2)) (
    condW t10 (
      K (.int .i64 1) w2) (
      binW .lss v0 v1 fun t16 =>
      condW t16 (
        K (.int .i64 (-1)) w2) (
        binW .gtr v0 v1 fun t19 =>
        condW t19 (
          K (.int .i64 1) w2) (
          K (.int .i64 0) w2))))
theorem W92_eq (v0 v1 : Value) (w : World) (K : Value → World → Prop) : funW Tryz.prog Tryz.f92 plan92 [v0, v1] w K = W92 v0 v1 w K := by kernel_rfl
theorem W92_chk : chkFun Tryz.prog Tryz.f92 plan92 2 = true := by kernel_rfl
theorem W92_ok {v0 v1 : Value} {w : World} {K : Value → World → Prop} (h : W92 v0 v1 w K) : callF Tryz.prog 92 [v0, v1] w K :=
  tie Tryz.prog 92 Tryz.f92 plan92 [v0, v1] w K 2 (W92 v0 v1 w K) rfl mixed Tryz.func92 W92_chk (W92_eq v0 v1 w K) Tryz.call92 h
def plan227 : Plan := { js := [], ds := [] }
def W227 (v0 : Value) (w : World) (K : Value → World → Prop) : Prop :=
  binW .neq v0 v0 fun t5 =>
  K t5 w
theorem W227_eq (v0 : Value) (w : World) (K : Value → World → Prop) : funW Tryz.prog Tryz.f227 plan227 [v0] w K = W227 v0 w K := by kernel_rfl
theorem W227_chk : chkFun Tryz.prog Tryz.f227 plan227 1 = true := by kernel_rfl
theorem W227_ok {v0 : Value} {w : World} {K : Value → World → Prop} (h : W227 v0 w K) : callF Tryz.prog 227 [v0] w K :=
  tie Tryz.prog 227 Tryz.f227 plan227 [v0] w K 1 (W227 v0 w K) rfl mixed Tryz.func227 W227_chk (W227_eq v0 w K) Tryz.call227 h
def plan184 : Plan := { js := [], ds := [] }
def W184 (v0 v1 : Value) (w : World) (K : Value → World → Prop) : Prop :=
  callF Tryz.prog 222 [v0, v1] w fun t7 w1 =>
  K t7 w1
theorem W184_eq (v0 v1 : Value) (w : World) (K : Value → World → Prop) : funW Tryz.prog Tryz.f184 plan184 [v0, v1] w K = W184 v0 v1 w K := by kernel_rfl
theorem W184_chk : chkFun Tryz.prog Tryz.f184 plan184 2 = true := by kernel_rfl
theorem W184_ok {v0 v1 : Value} {w : World} {K : Value → World → Prop} (h : W184 v0 v1 w K) : callF Tryz.prog 184 [v0, v1] w K :=
  tie Tryz.prog 184 Tryz.f184 plan184 [v0, v1] w K 2 (W184 v0 v1 w K) rfl mixed Tryz.func184 W184_chk (W184_eq v0 v1 w K) Tryz.call184 h
def plan222 : Plan := { js := [], ds := [] }
def W222 (v0 v1 : Value) (w : World) (K : Value → World → Prop) : Prop :=
  callF Tryz.prog 156 [v0, v1] w fun t7 w1 =>
  condW t7 (
    lensW v1 fun t10 =>
    slsW v0 (some t10) none fun t11 =>
    K t11 w1) (
    K v0 w1)
theorem W222_eq (v0 v1 : Value) (w : World) (K : Value → World → Prop) : funW Tryz.prog Tryz.f222 plan222 [v0, v1] w K = W222 v0 v1 w K := by kernel_rfl
theorem W222_chk : chkFun Tryz.prog Tryz.f222 plan222 2 = true := by kernel_rfl
theorem W222_ok {v0 v1 : Value} {w : World} {K : Value → World → Prop} (h : W222 v0 v1 w K) : callF Tryz.prog 222 [v0, v1] w K :=
  tie Tryz.prog 222 Tryz.f222 plan222 [v0, v1] w K 2 (W222 v0 v1 w K) rfl mixed Tryz.func222 W222_chk (W222_eq v0 v1 w K) Tryz.call222 h
def plan225 : Plan := { js := [], ds := [] }
def W225 (v0 v1 v2 : Value) (w : World) (K : Value → World → Prop) : Prop :=
  callF Tryz.prog 255 [v0, v1, v2] w fun t14 w1 =>
  extW 0 t14 fun t15 =>
  extW 1 t14 fun t16 =>
  eqQ Tryz.prog .neq 111 false true t16 .nilIface w1 fun t18 =>
  condW t18 (
    callF Tryz.prog 180 [(.string (ofL [80, 97, 114, 115, 101, 85, 105, 110, 116])), v0, v1, v2, t16] w1 fun t24 w2 =>
    K (.tuple #[t15, t24]) w2) (
    K (.tuple #[t15, .nilIface]) w1)
theorem W225_eq (v0 v1 v2 : Value) (w : World) (K : Value → World → Prop) : funW Tryz.prog Tryz.f225 plan225 [v0, v1, v2] w K = W225 v0 v1 v2 w K := by kernel_rfl
theorem W225_chk : chkFun Tryz.prog Tryz.f225 plan225 3 = true := by kernel_rfl
theorem W225_ok {v0 v1 v2 : Value} {w : World} {K : Value → World → Prop} (h : W225 v0 v1 v2 w K) : callF Tryz.prog 225 [v0, v1, v2] w K :=
  tie Tryz.prog 225 Tryz.f225 plan225 [v0, v1, v2] w K 3 (W225 v0 v1 v2 w K) rfl mixed Tryz.func225 W225_chk (W225_eq v0 v1 v2 w K) Tryz.call225 h
def plan226 : Plan := { js := [(3005, ⟨[15], [], 13⟩), (3010, ⟨[10], [], 8⟩)], ds := [] }
def W226 (v0 v1 : Value) (w : World) (K : Value → World → Prop) : Prop :=
  callF Tryz.prog 146 [v0] w fun t6 w1 =>
  GdW (isB t6 true) [undef] w1 (fun J2 =>
    callF Tryz.prog 146 [v1] w1 fun t9 w3 =>
    unW .not t9 fun t10 =>
    J2 [t10] w3)
  fun s2 _ w4 =>
  pickW t6 (s2.getD 0 undef) (.bool false) fun t11 =>
  GdW (isB t11 false) [undef] w4 (fun J5 =>
    binW .lss v0 v1 fun t15 =>
    J5 [t15] w4)
  fun s5 _ w6 =>
  pickW t11 (.bool true) (s5.getD 0 undef) fun t16 =>
  K t16 w6
theorem W226_eq (v0 v1 : Value) (w : World) (K : Value → World → Prop) : funW Tryz.prog Tryz.f226 plan226 [v0, v1] w K = W226 v0 v1 w K := by kernel_rfl
theorem W226_chk : chkFun Tryz.prog Tryz.f226 plan226 2 = true := by kernel_rfl
theorem W226_ok {v0 v1 : Value} {w : World} {K : Value → World → Prop} (h : W226 v0 v1 w K) : callF Tryz.prog 226 [v0, v1] w K :=
  tie Tryz.prog 226 Tryz.f226 plan226 [v0, v1] w K 2 (W226 v0 v1 w K) rfl mixed Tryz.func226 W226_chk (W226_eq v0 v1 w K) Tryz.call226 h
def plan146 : Plan := { js := [], ds := [] }
def W146 (v0 : Value) (w : World) (K : Value → World → Prop) : Prop :=
  binW .neq v0 v0 fun t5 =>
  K t5 w
theorem W146_eq (v0 : Value) (w : World) (K : Value → World → Prop) : funW Tryz.prog Tryz.f146 plan146 [v0] w K = W146 v0 w K := by kernel_rfl
theorem W146_chk : chkFun Tryz.prog Tryz.f146 plan146 1 = true := by kernel_rfl
theorem W146_ok {v0 : Value} {w : World} {K : Value → World → Prop} (h : W146 v0 w K) : callF Tryz.prog 146 [v0] w K :=
  tie Tryz.prog 146 Tryz.f146 plan146 [v0] w K 1 (W146 v0 w K) rfl mixed Tryz.func146 W146_chk (W146_eq v0 w K) Tryz.call146 h
end Go.Proofs.YtcnjpcadejcenaaGreatDoor
namespace Go.Proofs
open Go.Shelf
def Tryz.lays170_ren : Go.Shelf.Ren := ⟨fun | 170 => 46 | n => n, fun | 70 => 76 | 3 => 3 | 0 => 0 | 72 => 78 | 37 => 44 | 5 => 5 | n => n, fun | n => n⟩
theorem Tryz.lays170 : Go.Proofs.Lays.n170 Tryz.prog Tryz.lays170_ren := {
  mixed := by kernel_rfl
  f170 := Tryz.func46.trans (congrArg some (by kernel_rfl))
  t0 := Tryz.underlying0
  a0 := Tryz.isAgg0
  z0 := Tryz.sizeOf0
  v0 := Tryz.zeroValue0
  t3 := Tryz.underlying3
  a3 := Tryz.isAgg3
  z3 := Tryz.sizeOf3
  v3 := Tryz.zeroValue3
  t37 := Tryz.underlying44
  a37 := Tryz.isAgg44
  z37 := Tryz.sizeOf44
  v37 := Tryz.zeroValue44
  t70 := Tryz.underlying76
  a70 := Tryz.isAgg76
  z70 := Tryz.sizeOf76
  v70 := Tryz.zeroValue76
  t72 := Tryz.underlying78
  a72 := Tryz.isAgg78
  z72 := Tryz.sizeOf78
  v72 := Tryz.zeroValue78 }
def Tryz.lays169_ren : Go.Shelf.Ren := ⟨fun | 169 => 47 | n => n, fun | 70 => 76 | 9 => 9 | 0 => 0 | 72 => 78 | 37 => 44 | 127 => 136 | 3 => 3 | 5 => 5 | n => n, fun | n => n⟩
theorem Tryz.lays169 : Go.Proofs.Lays.n169 Tryz.prog Tryz.lays169_ren := {
  mixed := by kernel_rfl
  f169 := Tryz.func47.trans (congrArg some (by kernel_rfl))
  t0 := Tryz.underlying0
  a0 := Tryz.isAgg0
  z0 := Tryz.sizeOf0
  v0 := Tryz.zeroValue0
  t3 := Tryz.underlying3
  a3 := Tryz.isAgg3
  z3 := Tryz.sizeOf3
  v3 := Tryz.zeroValue3
  t9 := Tryz.underlying9
  a9 := Tryz.isAgg9
  z9 := Tryz.sizeOf9
  v9 := Tryz.zeroValue9
  t37 := Tryz.underlying44
  a37 := Tryz.isAgg44
  z37 := Tryz.sizeOf44
  v37 := Tryz.zeroValue44
  t70 := Tryz.underlying76
  a70 := Tryz.isAgg76
  z70 := Tryz.sizeOf76
  v70 := Tryz.zeroValue76
  t72 := Tryz.underlying78
  a72 := Tryz.isAgg78
  z72 := Tryz.sizeOf78
  v72 := Tryz.zeroValue78
  t127 := Tryz.underlying136
  a127 := Tryz.isAgg136
  z127 := Tryz.sizeOf136
  v127 := Tryz.zeroValue136 }
theorem Tryz.Builder_Extra_169 : Builder.Extra Tryz.prog Tryz.lays169_ren := {
  sizeBuilder := by kernel_rfl
  liesBuilder := by kernel_rfl
  t5 := Tryz.underlying5
  a5 := Tryz.isAgg5
  z5 := Tryz.sizeOf5
  v5 := Tryz.zeroValue5
  infoByte := by kernel_rfl
  cellsByte := by kernel_rfl
  sizeByte := by kernel_rfl
  neB5 := by decide }
def Tryz.lays137_ren : Go.Shelf.Ren := ⟨fun | 137 => 85 | 217 => 141 | 266 => 178 | n => n, fun | 9 => 9 | 5 => 5 | 3 => 3 | n => n, fun | n => n⟩
theorem Tryz.lays137 : Go.Proofs.Lays.n137 Tryz.prog Tryz.lays137_ren := {
  mixed := by kernel_rfl
  f137 := Tryz.func85.trans (congrArg some (by kernel_rfl))
  f217 := Tryz.func141.trans (congrArg some (by kernel_rfl))
  f266 := Tryz.func178.trans (congrArg some (by kernel_rfl))
  t3 := Tryz.underlying3
  a3 := Tryz.isAgg3
  z3 := Tryz.sizeOf3
  v3 := Tryz.zeroValue3
  t5 := Tryz.underlying5
  a5 := Tryz.isAgg5
  z5 := Tryz.sizeOf5
  v5 := Tryz.zeroValue5
  t9 := Tryz.underlying9
  a9 := Tryz.isAgg9
  z9 := Tryz.sizeOf9
  v9 := Tryz.zeroValue9 }
open Go.RowKit in
theorem Tryz.strings_IndexByte (s : ByteArray) (c : Int) (w : World) :
    Calls Tryz.prog 85 #[.string s, .int .u8 c] w fun e w' => e = .returned (.int .i64 (Lib.indexByte s.data.toList c.toNat.toUInt8)) ∧ w' = w := Any.strings_IndexByte Tryz.lays137 s c w
def Tryz.lays121_ren : Go.Shelf.Ren := ⟨fun | 121 => 104 | 214 => 152 | n => n, fun | 4 => 4 | 9 => 9 | n => n, fun | n => n⟩
theorem Tryz.lays121 : Go.Proofs.Lays.n121 Tryz.prog Tryz.lays121_ren := {
  mixed := by kernel_rfl
  f121 := Tryz.func104.trans (congrArg some (by kernel_rfl))
  f214 := Tryz.func152.trans (congrArg some (by kernel_rfl))
  t4 := Tryz.underlying4
  a4 := Tryz.isAgg4
  z4 := Tryz.sizeOf4
  v4 := Tryz.zeroValue4
  t9 := Tryz.underlying9
  a9 := Tryz.isAgg9
  z9 := Tryz.sizeOf9
  v9 := Tryz.zeroValue9 }
open Go.RowKit in
theorem Tryz.strconv_FormatBool (b : Bool) (w : World) :
    Calls Tryz.prog 104 #[.bool b] w fun e w' => e = .returned (.string ⟨(Lib.formatBool b).toArray⟩) ∧ w' = w := Any.strconv_FormatBool Tryz.lays121 b w
open Go.RowKit in
theorem Tryz.Builder_Len_f (B b : Nat) (bs : List Value) (w : World) (h : Lib.IsBuilderF 78 5 B b bs w) :
    Calls Tryz.prog 46 #[.pointer (some ⟨b, 0, none⟩)] w fun e w' => e = .returned (.int .i64 bs.length) ∧ w' = w := Any.Builder_Len_f Tryz.lays170 B b bs w h
open Go.RowKit in
theorem Tryz.Builder_String_any_k (B b : Nat) (l : List UInt8) (w : World) (h : Lib.IsBuilderF 78 5 B b (Lib.byteCells l) w) (hBw : B ≤ w.heap.size) :
    Calls Tryz.prog 47 #[.pointer (some ⟨b, 0, none⟩)] w fun e w' => e = .returned (.string ⟨l.toArray⟩) ∧ (Lib.IsBuilderF 78 5 B b (Lib.byteCells l) w' ∧ Below B w w' ∧ Lib.OthersKept 5 (some b) w w') := Any.Builder_String_any_k Tryz.lays169 Tryz.Builder_Extra_169 B b l w h hBw
def Tryz.laysM171_ren : Go.Shelf.Ren := ⟨fun | 171 => 67 | 243 => 128 | 246 => 172 | 283 => 196 | 284 => 197 | 285 => 198 | 286 => 199 | 129 => 212 | 317 => 245 | 318 => 246 | 319 => 247 | 320 => 248 | 337 => 272 | 338 => 273 | n => n, fun | 3 => 3 | 9 => 9 | 2 => 2 | 4 => 4 | 171 => 191 | 0 => 0 | 53 => 182 | 37 => 44 | 5 => 5 | 173 => 194 | 212 => 224 | 51 => 205 | 20 => 20 | 213 => 225 | 46 => 43 | 232 => 262 | 233 => 263 | n => n, fun | 17 => 3 | 18 => 6 | 19 => 7 | n => n⟩
theorem Tryz.laysM171 : Go.Proofs.LaysM.n171 Tryz.prog Tryz.laysM171_ren := {
  mixed := by kernel_rfl
  f129 := Tryz.func212.trans (congrArg some (by kernel_rfl))
  f171 := Tryz.func67.trans (congrArg some (by kernel_rfl))
  f243 := Tryz.func128.trans (congrArg some (by kernel_rfl))
  f246 := Tryz.func172.trans (congrArg some (by kernel_rfl))
  f283 := Tryz.func196.trans (congrArg some (by kernel_rfl))
  f284 := Tryz.func197.trans (congrArg some (by kernel_rfl))
  f285 := Tryz.func198.trans (congrArg some (by kernel_rfl))
  f286 := Tryz.func199.trans (congrArg some (by kernel_rfl))
  f317 := Tryz.func245.trans (congrArg some (by kernel_rfl))
  f318 := Tryz.func246.trans (congrArg some (by kernel_rfl))
  f319 := Tryz.func247.trans (congrArg some (by kernel_rfl))
  f320 := Tryz.func248.trans (congrArg some (by kernel_rfl))
  f337 := Tryz.func272.trans (congrArg some (by kernel_rfl))
  f338 := Tryz.func273.trans (congrArg some (by kernel_rfl))
  t0 := Tryz.underlying0
  a0 := Tryz.isAgg0
  z0 := Tryz.sizeOf0
  v0 := Tryz.zeroValue0
  t2 := Tryz.underlying2
  a2 := Tryz.isAgg2
  z2 := Tryz.sizeOf2
  v2 := Tryz.zeroValue2
  t3 := Tryz.underlying3
  a3 := Tryz.isAgg3
  z3 := Tryz.sizeOf3
  v3 := Tryz.zeroValue3
  t4 := Tryz.underlying4
  a4 := Tryz.isAgg4
  z4 := Tryz.sizeOf4
  v4 := Tryz.zeroValue4
  t5 := Tryz.underlying5
  a5 := Tryz.isAgg5
  z5 := Tryz.sizeOf5
  v5 := Tryz.zeroValue5
  t9 := Tryz.underlying9
  a9 := Tryz.isAgg9
  z9 := Tryz.sizeOf9
  v9 := Tryz.zeroValue9
  t20 := Tryz.underlying20
  a20 := Tryz.isAgg20
  z20 := Tryz.sizeOf20
  v20 := Tryz.zeroValue20
  t37 := Tryz.underlying44
  a37 := Tryz.isAgg44
  z37 := Tryz.sizeOf44
  v37 := Tryz.zeroValue44
  t46 := Tryz.underlying43
  a46 := Tryz.isAgg43
  z46 := Tryz.sizeOf43
  v46 := Tryz.zeroValue43
  t51 := Tryz.underlying205
  a51 := Tryz.isAgg205
  z51 := Tryz.sizeOf205
  v51 := Tryz.zeroValue205
  t53 := Tryz.underlying182
  a53 := Tryz.isAgg182
  z53 := Tryz.sizeOf182
  v53 := Tryz.zeroValue182
  t171 := Tryz.underlying191
  a171 := Tryz.isAgg191
  z171 := Tryz.sizeOf191
  v171 := Tryz.zeroValue191
  t173 := Tryz.underlying194
  a173 := Tryz.isAgg194
  z173 := Tryz.sizeOf194
  v173 := Tryz.zeroValue194
  t212 := Tryz.underlying224
  a212 := Tryz.isAgg224
  z212 := Tryz.sizeOf224
  v212 := Tryz.zeroValue224
  t213 := Tryz.underlying225
  a213 := Tryz.isAgg225
  z213 := Tryz.sizeOf225
  t232 := Tryz.underlying262
  a232 := Tryz.isAgg262
  z232 := Tryz.sizeOf262
  v232 := Tryz.zeroValue262
  t233 := Tryz.underlying263
  a233 := Tryz.isAgg263
  z233 := Tryz.sizeOf263
  v233 := Tryz.zeroValue263
  g17 := by kernel_rfl
  g18 := by kernel_rfl
  g19 := by kernel_rfl
  i0 := by kernel_rfl
  i2 := by kernel_rfl
  i3 := by kernel_rfl
  i4 := by kernel_rfl
  i5 := by kernel_rfl
  i9 := by kernel_rfl
  i20 := by kernel_rfl
  i37 := by kernel_rfl
  i46 := by kernel_rfl
  i51 := by kernel_rfl
  i53 := by kernel_rfl
  i171 := by kernel_rfl
  i173 := by kernel_rfl
  i212 := by kernel_rfl
  i232 := by kernel_rfl
  i233 := by kernel_rfl
  m17 := by kernel_rfl
  m18 := by kernel_rfl
  m19 := by kernel_rfl }
open Go.RowKit Go.Sort Go.Lib in
theorem Tryz.strconv_Itoa (n : Int) (h0 : -9223372036854775808 ≤ n) (h1 : n ≤ 9223372036854775807) (w : World) (htab : Lib.TabIs Tryz.prog w "internal/strconv.uint64pow10" .u64 Lib.pow10Tab) :
    Calls Tryz.prog 67 #[.int .i64 n] w fun e w' => e = .returned (.string ⟨(Lib.itoa n).toArray⟩) ∧ ∃ k os, w' = grow (w.drewN k) os := Any.strconv_Itoa Tryz.laysM171 n h0 h1 w htab
def Tryz.laysM316_ren : Go.Shelf.Ren := ⟨fun | 316 => 134 | n => n, fun | 9 => 9 | 3 => 3 | 4 => 4 | 37 => 44 | 0 => 0 | 127 => 136 | 5 => 5 | n => n, fun | n => n⟩
theorem Tryz.laysM316 : Go.Proofs.LaysM.n316 Tryz.prog Tryz.laysM316_ren := {
  mixed := by kernel_rfl
  f316 := Tryz.func134.trans (congrArg some (by kernel_rfl))
  t0 := Tryz.underlying0
  a0 := Tryz.isAgg0
  z0 := Tryz.sizeOf0
  v0 := Tryz.zeroValue0
  t3 := Tryz.underlying3
  a3 := Tryz.isAgg3
  z3 := Tryz.sizeOf3
  v3 := Tryz.zeroValue3
  t4 := Tryz.underlying4
  a4 := Tryz.isAgg4
  z4 := Tryz.sizeOf4
  v4 := Tryz.zeroValue4
  t9 := Tryz.underlying9
  a9 := Tryz.isAgg9
  z9 := Tryz.sizeOf9
  v9 := Tryz.zeroValue9
  t37 := Tryz.underlying44
  a37 := Tryz.isAgg44
  z37 := Tryz.sizeOf44
  v37 := Tryz.zeroValue44
  t127 := Tryz.underlying136
  a127 := Tryz.isAgg136
  z127 := Tryz.sizeOf136
  v127 := Tryz.zeroValue136
  t5 := Tryz.underlying5
  a5 := Tryz.isAgg5
  z5 := Tryz.sizeOf5
  v5 := Tryz.zeroValue5
  i0 := by kernel_rfl
  i3 := by kernel_rfl
  i4 := by kernel_rfl
  i5 := by kernel_rfl
  i9 := by kernel_rfl
  i37 := by kernel_rfl
  i127 := by kernel_rfl }
open Go.RowKit in
theorem Tryz.stringslite_Clone (s : ByteArray) (w : World) (hlim : s.size ≤ 281474976710656) :
    Calls Tryz.prog 134 #[.string s] w fun e w' => e = .returned (.string s) ∧ Below w.heap.size w w' := Any.stringslite_Clone Tryz.laysM316 s w hlim
def Tryz.lays217_ren : Go.Shelf.Ren := ⟨fun | 217 => 141 | 266 => 178 | n => n, fun | 9 => 9 | 5 => 5 | 3 => 3 | n => n, fun | n => n⟩
theorem Tryz.lays217 : Go.Proofs.Lays.n217 Tryz.prog Tryz.lays217_ren := {
  mixed := by kernel_rfl
  f217 := Tryz.func141.trans (congrArg some (by kernel_rfl))
  f266 := Tryz.func178.trans (congrArg some (by kernel_rfl))
  t3 := Tryz.underlying3
  a3 := Tryz.isAgg3
  z3 := Tryz.sizeOf3
  v3 := Tryz.zeroValue3
  t5 := Tryz.underlying5
  a5 := Tryz.isAgg5
  z5 := Tryz.sizeOf5
  v5 := Tryz.zeroValue5
  t9 := Tryz.underlying9
  a9 := Tryz.isAgg9
  z9 := Tryz.sizeOf9
  v9 := Tryz.zeroValue9 }
open Go.RowKit Go.Lib in
theorem Tryz.stringslite_IndexByte (s : ByteArray) (c : Int) (w : World) :
    Calls Tryz.prog 141 #[.string s, .int .u8 c] w fun e w' => e = .returned (.int .i64 (Lib.indexByte s.data.toList c.toNat.toUInt8)) ∧ w' = w := Any.stringslite_IndexByte Tryz.lays217 s c w
def Tryz.lays138_ren : Go.Shelf.Ren := ⟨fun | 138 => 71 | 195 => 130 | 218 => 131 | 143 => 132 | 219 => 173 | 217 => 141 | 225 => 200 | 224 => 201 | 267 => 202 | 266 => 178 | 314 => 249 | n => n, fun | 9 => 9 | 3 => 3 | 4 => 4 | 5 => 5 | 0 => 0 | 46 => 43 | 146 => 226 | 51 => 205 | n => n, fun | 1 => 2 | n => n⟩
theorem Tryz.lays138 : Go.Proofs.Lays.n138 Tryz.prog Tryz.lays138_ren := {
  mixed := by kernel_rfl
  f138 := Tryz.func71.trans (congrArg some (by kernel_rfl))
  f143 := Tryz.func132.trans (congrArg some (by kernel_rfl))
  f195 := Tryz.func130.trans (congrArg some (by kernel_rfl))
  f217 := Tryz.func141.trans (congrArg some (by kernel_rfl))
  f218 := Tryz.func131.trans (congrArg some (by kernel_rfl))
  f219 := Tryz.func173.trans (congrArg some (by kernel_rfl))
  f224 := Tryz.func201.trans (congrArg some (by kernel_rfl))
  f225 := Tryz.func200.trans (congrArg some (by kernel_rfl))
  f266 := Tryz.func178.trans (congrArg some (by kernel_rfl))
  f267 := Tryz.func202.trans (congrArg some (by kernel_rfl))
  f314 := Tryz.func249.trans (congrArg some (by kernel_rfl))
  t0 := Tryz.underlying0
  a0 := Tryz.isAgg0
  z0 := Tryz.sizeOf0
  v0 := Tryz.zeroValue0
  t3 := Tryz.underlying3
  a3 := Tryz.isAgg3
  z3 := Tryz.sizeOf3
  v3 := Tryz.zeroValue3
  t4 := Tryz.underlying4
  a4 := Tryz.isAgg4
  z4 := Tryz.sizeOf4
  v4 := Tryz.zeroValue4
  t5 := Tryz.underlying5
  a5 := Tryz.isAgg5
  z5 := Tryz.sizeOf5
  v5 := Tryz.zeroValue5
  t9 := Tryz.underlying9
  a9 := Tryz.isAgg9
  z9 := Tryz.sizeOf9
  v9 := Tryz.zeroValue9
  t46 := Tryz.underlying43
  a46 := Tryz.isAgg43
  z46 := Tryz.sizeOf43
  v46 := Tryz.zeroValue43
  t51 := Tryz.underlying205
  a51 := Tryz.isAgg205
  z51 := Tryz.sizeOf205
  v51 := Tryz.zeroValue205
  t146 := Tryz.underlying226
  a146 := Tryz.isAgg226
  z146 := Tryz.sizeOf226
  v146 := Tryz.zeroValue226
  g1 := by kernel_rfl }
open Go.RowKit Go.Lib in
theorem Tryz.strings_Count_one (s : ByteArray) (c : UInt8) (w : World) :
    Calls Tryz.prog 71 #[.string s, .string ⟨#[c]⟩] w fun e w' => e = .returned (.int .i64 (Lib.countByte s.data.toList c)) ∧ w' = w := Any.strings_Count_one Tryz.lays138 s c w
def Tryz.lays206_ren : Go.Shelf.Ren := ⟨fun | 206 => 156 | n => n, fun | 9 => 9 | 4 => 4 | 3 => 3 | n => n, fun | n => n⟩
theorem Tryz.lays206 : Go.Proofs.Lays.n206 Tryz.prog Tryz.lays206_ren := {
  mixed := by kernel_rfl
  f206 := Tryz.func156.trans (congrArg some (by kernel_rfl))
  t3 := Tryz.underlying3
  a3 := Tryz.isAgg3
  z3 := Tryz.sizeOf3
  v3 := Tryz.zeroValue3
  t4 := Tryz.underlying4
  a4 := Tryz.isAgg4
  z4 := Tryz.sizeOf4
  v4 := Tryz.zeroValue4
  t9 := Tryz.underlying9
  a9 := Tryz.isAgg9
  z9 := Tryz.sizeOf9
  v9 := Tryz.zeroValue9 }
open Go.RowKit Go.Lib in
theorem Tryz.stringslite_HasPrefix (s p : ByteArray) (w : World) :
    Calls Tryz.prog 156 #[.string s, .string p] w fun e w' => e = .returned (.bool (Lib.hasPrefix s.data.toList p.data.toList)) ∧ w' = w := Any.stringslite_HasPrefix Tryz.lays206 s p w
def Tryz.lays99_ren : Go.Shelf.Ren := ⟨fun | 99 => 107 | 206 => 156 | n => n, fun | 9 => 9 | 4 => 4 | 3 => 3 | n => n, fun | n => n⟩
theorem Tryz.lays99 : Go.Proofs.Lays.n99 Tryz.prog Tryz.lays99_ren := {
  mixed := by kernel_rfl
  f99 := Tryz.func107.trans (congrArg some (by kernel_rfl))
  f206 := Tryz.func156.trans (congrArg some (by kernel_rfl))
  t3 := Tryz.underlying3
  a3 := Tryz.isAgg3
  z3 := Tryz.sizeOf3
  v3 := Tryz.zeroValue3
  t4 := Tryz.underlying4
  a4 := Tryz.isAgg4
  z4 := Tryz.sizeOf4
  v4 := Tryz.zeroValue4
  t9 := Tryz.underlying9
  a9 := Tryz.isAgg9
  z9 := Tryz.sizeOf9
  v9 := Tryz.zeroValue9 }
open Go.RowKit Go.Lib in
theorem Tryz.strings_HasPrefix (s p : ByteArray) (w : World) :
    Calls Tryz.prog 107 #[.string s, .string p] w fun e w' => e = .returned (.bool (Lib.hasPrefix s.data.toList p.data.toList)) ∧ w' = w := Any.strings_HasPrefix Tryz.lays99 s p w
def Tryz.lays197_ren : Go.Shelf.Ren := ⟨fun | 197 => 159 | 260 => 186 | n => n, fun | 9 => 9 | 21 => 21 | 3 => 3 | 4 => 4 | 5 => 5 | 105 => 164 | 119 => 157 | 0 => 0 | 46 => 43 | 139 => 160 | 138 => 159 | n => n, fun | 3 => 0 | 4 => 1 | n => n⟩
theorem Tryz.lays197 : Go.Proofs.Lays.n197 Tryz.prog Tryz.lays197_ren := {
  mixed := by kernel_rfl
  f197 := Tryz.func159.trans (congrArg some (by kernel_rfl))
  f260 := Tryz.func186.trans (congrArg some (by kernel_rfl))
  t0 := Tryz.underlying0
  a0 := Tryz.isAgg0
  z0 := Tryz.sizeOf0
  v0 := Tryz.zeroValue0
  t3 := Tryz.underlying3
  a3 := Tryz.isAgg3
  z3 := Tryz.sizeOf3
  v3 := Tryz.zeroValue3
  t4 := Tryz.underlying4
  a4 := Tryz.isAgg4
  z4 := Tryz.sizeOf4
  v4 := Tryz.zeroValue4
  t5 := Tryz.underlying5
  a5 := Tryz.isAgg5
  z5 := Tryz.sizeOf5
  v5 := Tryz.zeroValue5
  t9 := Tryz.underlying9
  a9 := Tryz.isAgg9
  z9 := Tryz.sizeOf9
  v9 := Tryz.zeroValue9
  t21 := Tryz.underlying21
  a21 := Tryz.isAgg21
  z21 := Tryz.sizeOf21
  v21 := Tryz.zeroValue21
  t46 := Tryz.underlying43
  a46 := Tryz.isAgg43
  z46 := Tryz.sizeOf43
  v46 := Tryz.zeroValue43
  t105 := Tryz.underlying164
  a105 := Tryz.isAgg164
  z105 := Tryz.sizeOf164
  v105 := Tryz.zeroValue164
  t119 := Tryz.underlying157
  a119 := Tryz.isAgg157
  z119 := Tryz.sizeOf157
  t138 := Tryz.underlying159
  a138 := Tryz.isAgg159
  z138 := Tryz.sizeOf159
  v138 := Tryz.zeroValue159
  t139 := Tryz.underlying160
  a139 := Tryz.isAgg160
  z139 := Tryz.sizeOf160
  v139 := Tryz.zeroValue160
  g3 := by kernel_rfl
  g4 := by kernel_rfl }
open Go.RowKit Go.Lib in
theorem Tryz.utf8_DecodeRuneInString (s : ByteArray) (w : World) (hT : Lib.Utf8Tabs 0 1 w) :
    Calls Tryz.prog 159 #[.string s] w fun e w' => e = .returned (.tuple #[.int .i32 (Lib.decodeGo s).1, .int .i64 (Lib.decodeGo s).2]) ∧ Below w.heap.size w w' := Any.utf8_DecodeRuneInString Tryz.lays197 s w hT
def Tryz.laysValid_ren : Go.Shelf.Ren := ⟨fun | 196 => 102 | 259 => 151 | n => n, fun | 9 => 9 | 4 => 4 | 3 => 3 | 5 => 5 | 12 => 12 | 119 => 157 | 0 => 0 | 46 => 43 | 139 => 160 | 138 => 159 | 53 => 182 | n => n, fun | 3 => 0 | 4 => 1 | n => n⟩
theorem Tryz.laysValid : Go.Proofs.Lays.n196 Tryz.prog Tryz.laysValid_ren := {
  mixed := by kernel_rfl
  f196 := Tryz.func102.trans (congrArg some (by kernel_rfl))
  f259 := Tryz.func151.trans (congrArg some (by kernel_rfl))
  t0 := Tryz.underlying0
  a0 := Tryz.isAgg0
  z0 := Tryz.sizeOf0
  v0 := Tryz.zeroValue0
  t3 := Tryz.underlying3
  a3 := Tryz.isAgg3
  z3 := Tryz.sizeOf3
  v3 := Tryz.zeroValue3
  t4 := Tryz.underlying4
  a4 := Tryz.isAgg4
  z4 := Tryz.sizeOf4
  v4 := Tryz.zeroValue4
  t5 := Tryz.underlying5
  a5 := Tryz.isAgg5
  z5 := Tryz.sizeOf5
  v5 := Tryz.zeroValue5
  t9 := Tryz.underlying9
  a9 := Tryz.isAgg9
  z9 := Tryz.sizeOf9
  v9 := Tryz.zeroValue9
  t12 := Tryz.underlying12
  a12 := Tryz.isAgg12
  z12 := Tryz.sizeOf12
  v12 := Tryz.zeroValue12
  t46 := Tryz.underlying43
  a46 := Tryz.isAgg43
  z46 := Tryz.sizeOf43
  v46 := Tryz.zeroValue43
  t53 := Tryz.underlying182
  a53 := Tryz.isAgg182
  z53 := Tryz.sizeOf182
  v53 := Tryz.zeroValue182
  t119 := Tryz.underlying157
  a119 := Tryz.isAgg157
  z119 := Tryz.sizeOf157
  t138 := Tryz.underlying159
  a138 := Tryz.isAgg159
  z138 := Tryz.sizeOf159
  v138 := Tryz.zeroValue159
  t139 := Tryz.underlying160
  a139 := Tryz.isAgg160
  z139 := Tryz.sizeOf160
  v139 := Tryz.zeroValue160
  g3 := by kernel_rfl
  g4 := by kernel_rfl }
open Go.RowKit Go.Lib in
theorem Tryz.utf8_ValidString (s : ByteArray) (w : World) (hs : s.size ≤ 9223372036854775807) (hT : Lib.Utf8Tabs (Tryz.laysValid_ren.g 3) (Tryz.laysValid_ren.g 4) w) :
    Calls Tryz.prog 102 #[.string s] w fun e w' => e = .returned (.bool (Lib.validD s.data.toList)) ∧ Below w.heap.size w w' := Any.utf8_ValidString Tryz.laysValid s w hs hT
end Go.Proofs
namespace Go.Proofs.YtcnjpcadejcenaaGreatDoor
open Go Go.Eng Go.Num
set_option maxRecDepth 100000
abbrev u64 (n : Nat) : Value := .int .u64 (n : Int)
abbrev U8 : TypeId := 5
theorem bytes_ext (w : World) (e : TypeId) (s : ByteArray) : Ext w (Lib.bytesWorld w e s) :=
  ⟨rfl, rfl, rfl, by rw [Lib.bytesWorld_size]; omega, fun k hk _ => Lib.bytesWorld_at_old w e s k hk⟩
theorem to_bytes {l : Str} {w : World} {src dst : TypeId} {K : Value → World → Prop} (hs : Tryz.prog.underlying src = some .string) (hd : Tryz.prog.underlying dst = some (.slice U8)) (he : Tryz.prog.underlying U8 = some (.int .u8))
    (hK : ∀ v w', Byt w' U8 v l → Ext w w' → K v w') : semE Tryz.prog (convert src dst (str l)) w K := by
  unfold semE
  rw [Lib.run_convert_string_bytes w src dst U8 (ofL l) hs hd he]
  refine hK _ _ ?_ (bytes_ext _ _ _)
  have hle : (ofL l).size ≤ grownCap w (ofL l).size 0 U8 := by
    exact grownCap_ge w (ofL l).size 0 U8
  refine ⟨some ⟨w.heap.size, 0, none⟩, grownCap w (ofL l).size 0 U8, by rw [ofL_size], by rw [← ofL_size]; exact hle, (fun e => by cases e), fun _ => ⟨w.heap.size, 0, _, _, rfl, Lib.bytesWorld_at_new w U8 (ofL l), fun i hi => ?_⟩⟩
  have hi : i < (ofL l).size := by rw [ofL_size]; simpa [u8s_length] using hi
  have := Lib.bytesWorld_cell w U8 (ofL l) i hi
  rw [cell_eq, Lib.bytesWorld_at_new, cellO_some] at this
  rw [Nat.zero_add, this, u8s_get, ofL_data]
  have hi' : i < l.length := by rw [ofL_size] at hi; exact hi
  simp [List.getD_eq_getElem?_getD, List.getElem?_eq_getElem hi']
theorem of_calls [HX] {g : FuncId} {args : Array Value} {w : World} {K : Value → World → Prop} (hr : ∀ (ar : Array Value) (w : World), (callFunc g ar).run Tryz.prog w = .ok (.enter g ar) w)
    (h : Calls Tryz.prog g args w fun e w' => ∃ v, e = .returned v ∧ K v w') : callF Tryz.prog g args.toList w K := by
  unfold callF
  rw [show args.toList.toArray = args from by simp, hr]
  refine h.mono ?_
  rintro e w' ⟨v, rfl, hk⟩
  exact hk
section
variable [HX]
theorem nan_i (n : Int) (KK : Value → Prop) (h : KK (.bool false)) : binW .neq (i64 n) (i64 n) KK := by rw [bin_neq]; simpa using h
theorem nan_s (s : Str) (KK : Value → Prop) (h : KK (.bool false)) : binW .neq (str s) (str s) KK := by rw [bin_sne]; simpa using h
theorem isnan_i {n : Int} {w : World} {K : Value → World → Prop} (hK : K (.bool false) w) : callF Tryz.prog 147 [i64 n] w K := by
  refine W147_ok ?_
  exact nan_i n _ hK
theorem isnan_s {s : Str} {w : World} {K : Value → World → Prop} (hK : K (.bool false) w) : callF Tryz.prog 146 [str s] w K := by
  refine W146_ok ?_
  exact nan_s s _ hK
theorem isnan_s2 {s : Str} {w : World} {K : Value → World → Prop} (hK : K (.bool false) w) : callF Tryz.prog 227 [str s] w K := by
  refine W227_ok ?_
  exact nan_s s _ hK
theorem cmpI_K {a b : Int} {w : World} {K : Value → World → Prop} (hK : K (i64 (cmpI a b)) w) : (a < b → K (i64 (-1)) w) ∧ (¬ a < b → (b < a → K (i64 1) w) ∧ (¬ b < a → K (i64 0) w)) := by
  unfold cmpI at hK
  refine ⟨fun h => ?_, fun h => ⟨fun h2 => ?_, fun h2 => ?_⟩⟩
  · rw [if_pos h] at hK; exact hK
  · rw [if_neg h, if_pos h2] at hK; exact hK
  · rw [if_neg h, if_neg h2] at hK; exact hK
theorem cmp_i {a b : Int} {w : World} {K : Value → World → Prop} (hK : K (i64 (cmpI a b)) w) : callF Tryz.prog 93 [i64 a, i64 b] w K := by
  refine W93_ok ?_
  unfold W93
  refine isnan_i (isnan_i ?_)
  simp only [wsv, wsg, wsh, wsl, cond_true, cond_false, exists_eq_left', Option.some.injEq, Option.isSome_some, List.getElem?_toArray, List.getElem?_cons_zero, List.getElem?_cons_succ, List.length_cons, List.length_nil, List.set_cons_zero, List.set_cons_succ, List.getD_cons_zero, List.getD_cons_succ, Nat.zero_add, Nat.add_zero, Nat.reduceAdd, Nat.reduceLT, Nat.lt_add_one, Nat.zero_lt_succ, decide_true, decide_false, ne_eq, reduceCtorEq, condW_dec]
  exact cmpI_K hK
theorem less_total {a b : Str} (h1 : Op.bytesLess a b = false) (h2 : (!(Op.bytesLess a b || decide (a = b))) = false) : a = b := by
  rw [h1] at h2; simpa using h2
theorem cmp_s {a b : Str} {w : World} {K : Value → World → Prop} (hK : K (i64 (cmpB a b)) w) : callF Tryz.prog 92 [str a, str b] w K := by
  refine W92_ok ?_
  unfold W92
  refine isnan_s (isnan_s ?_)
  simp only [wsv, wsg, wsh, wsl, cond_true, cond_false, exists_eq_left', Option.some.injEq, Option.isSome_some, List.getElem?_toArray, List.getElem?_cons_zero, List.getElem?_cons_succ, List.length_cons, List.length_nil, List.set_cons_zero, List.set_cons_succ, List.getD_cons_zero, List.getD_cons_succ, Nat.zero_add, Nat.add_zero, Nat.reduceAdd, Nat.reduceLT, Nat.lt_add_one, Nat.zero_lt_succ, decide_true, decide_false, ne_eq, reduceCtorEq]
  simp only [condW_b]
  unfold cmpB at hK
  refine ⟨fun h => ?_, fun h => ⟨fun h2 => ?_, fun h2 => ?_⟩⟩
  · rw [if_pos h] at hK; exact hK
  · have hne : a ≠ b := by rintro rfl; simp at h2
    rw [if_neg (by rw [h]; simp), if_neg hne] at hK; exact hK
  · rw [if_neg (by rw [h]; simp), if_pos (less_total h h2)] at hK; exact hK
theorem cmp_less {a b : Str} {w : World} {K : Value → World → Prop} (hK : K (.bool (Op.bytesLess a b)) w) : callF Tryz.prog 226 [str a, str b] w K := by
  refine W226_ok ?_
  unfold W226
  refine isnan_s ?_
  simp only [wsv, wsg, wsh, wsl, cond_true, cond_false, exists_eq_left', Option.some.injEq, Option.isSome_some, List.getElem?_toArray, List.getElem?_cons_zero, List.getElem?_cons_succ, List.length_cons, List.length_nil, List.set_cons_zero, List.set_cons_succ, List.getD_cons_zero, List.getD_cons_succ, Nat.zero_add, Nat.add_zero, Nat.reduceAdd, Nat.reduceLT, Nat.lt_add_one, Nat.zero_lt_succ, decide_true, decide_false, ne_eq, reduceCtorEq]
  intros
  exact hK
theorem pre_ref {s p : Str} {w : World} {K : Value → World → Prop} (hs : s.length ≤ 9223372036854775807) (hK : K (.bool (p.isPrefixOf s)) w) : callF Tryz.prog 156 [str s, str p] w K := by
  refine of_calls (args := #[str s, str p]) Tryz.call156 ((Tryz.stringslite_HasPrefix (ofL s) (ofL p) w).mono ?_)
  rintro e w' ⟨rfl, rfl⟩
  refine ⟨_, rfl, ?_⟩
  rw [ofL_data, ofL_data]
  exact hK
theorem trimpre_ref {a : Str} {w : World} {K : Value → World → Prop} (hs : a.length ≤ 9223372036854775807) (hK : K (str (dig a)) w) : callF Tryz.prog 184 [str a, str [45]] w K := by
  refine W184_ok ?_
  unfold W184
  refine W222_ok ?_
  unfold W222
  refine pre_ref hs ?_
  cases a with
  | nil =>
    rw [show ([45] : Str).isPrefixOf [] = false from rfl]
    simp only [wsv, wsg, wsh, wsl, cond_true, cond_false, exists_eq_left', Option.some.injEq, Option.isSome_some, List.getElem?_toArray, List.getElem?_cons_zero, List.getElem?_cons_succ, List.length_cons, List.length_nil, List.set_cons_zero, List.set_cons_succ, List.getD_cons_zero, List.getD_cons_succ, Nat.zero_add, Nat.add_zero, Nat.reduceAdd, Nat.reduceLT, Nat.lt_add_one, Nat.zero_lt_succ, decide_true, decide_false, ne_eq, reduceCtorEq]
    exact hK
  | cons c r =>
    by_cases hc : c = 45
    · subst hc
      have e : ([45] : Str).isPrefixOf (45 :: r) = true := by simp [List.isPrefixOf]
      have ed : dig (45 :: r) = r := by simp [dig]
      rw [ed] at hK
      rw [e]
      have e1 : ((0 + 1 : Nat) : Int).toNat = 1 := rfl
      simp only [wsv, wsg, wsh, wsl, cond_true, cond_false, exists_eq_left', Option.some.injEq, Option.isSome_some, List.getElem?_toArray, List.getElem?_cons_zero, List.getElem?_cons_succ, List.length_cons, List.length_nil, List.set_cons_zero, List.set_cons_succ, List.getD_cons_zero, List.getD_cons_succ, Nat.zero_add, Nat.add_zero, Nat.reduceAdd, Nat.reduceLT, Nat.lt_add_one, Nat.zero_lt_succ, decide_true, decide_false, ne_eq, reduceCtorEq, e1]
      refine ⟨by omega, by omega, ?_⟩
      rw [← List.length_cons (a := (45 : UInt8)), List.take_length]
      exact hK
    · have e : ([45] : Str).isPrefixOf (c :: r) = false := by simp [List.isPrefixOf, Ne.symm hc]
      have ed : dig (c :: r) = c :: r := by simp [dig, hc]
      rw [ed] at hK
      rw [e]
      simp only [wsv, wsg, wsh, wsl, cond_true, cond_false, exists_eq_left', Option.some.injEq, Option.isSome_some, List.getElem?_toArray, List.getElem?_cons_zero, List.getElem?_cons_succ, List.length_cons, List.length_nil, List.set_cons_zero, List.set_cons_succ, List.getD_cons_zero, List.getD_cons_succ, Nat.zero_add, Nat.add_zero, Nat.reduceAdd, Nat.reduceLT, Nat.lt_add_one, Nat.zero_lt_succ, decide_true, decide_false, ne_eq, reduceCtorEq]
      exact hK
theorem numgood_ref {a : Str} {w : World} {K : Value → World → Prop} (ha : a.length ≤ 9223372036854775807) (hK : ∀ w', Ext w w' → K (.bool (goodN a)) w') : callF Tryz.prog 148 [str a] w K := by
  refine W148_ok ?_
  unfold W148
  refine trimpre_ref ha ?_
  have hg : goodN a = (!decide ((dig a).length < 1) && !decide (100 < (dig a).length) && !((dig a).head? == some 48 && !decide (a = [48])) && (dig a).all Num.isDig) := by
    unfold goodN
    have e1 : decide (1 ≤ (dig a).length) = !decide ((dig a).length < 1) := by rw [← decide_not]; exact decide_eq_decide.2 (by omega)
    have e2 : decide ((dig a).length ≤ 100) = !decide (100 < (dig a).length) := by rw [← decide_not]; exact decide_eq_decide.2 (by omega)
    rw [e1, e2]
    cases ((dig a).head? == some 48) <;> cases decide (a = [48]) <;> simp
  rw [hg] at hK
  have hdl : (dig a).length ≤ a.length := by
    cases a with
    | nil => simp [dig]
    | cons c r => simp only [dig]; split <;> simp
  cases hd : dig a with
  | nil =>
    rw [hd] at hK
    have hz : decide (((0 : Nat) : Int) < 1) = true := by decide
    simp only [wsv, wsg, wsh, wsl, cond_true, cond_false, exists_eq_left', Option.some.injEq, Option.isSome_some, List.getElem?_toArray, List.getElem?_cons_zero, List.getElem?_cons_succ, List.length_cons, List.length_nil, List.set_cons_zero, List.set_cons_succ, List.getD_cons_zero, List.getD_cons_succ, Nat.zero_add, Nat.add_zero, Nat.reduceAdd, Nat.reduceLT, Nat.lt_add_one, Nat.zero_lt_succ, decide_true, decide_false, ne_eq, reduceCtorEq, hz]
    intros
    exact hK _ (Chg.refl _ _)
  | cons c r =>
    rw [hd] at hK hdl
    have hz : decide (((r.length + 1 : Nat) : Int) < 1) = false := decide_eq_false (by omega)
    simp only [wsv, wsg, wsh, wsl, cond_true, cond_false, exists_eq_left', Option.some.injEq, Option.isSome_some, List.getElem?_toArray, List.getElem?_cons_zero, List.getElem?_cons_succ, List.length_cons, List.length_nil, List.set_cons_zero, List.set_cons_succ, List.getD_cons_zero, List.getD_cons_succ, Nat.zero_add, Nat.add_zero, Nat.reduceAdd, Nat.reduceLT, Nat.lt_add_one, Nat.zero_lt_succ, decide_true, decide_false, ne_eq, reduceCtorEq, Int.le_refl, Int.toNat_zero, u8_is c 48 48 rfl, hz]
    intros
    rw [condW_b]
    have e1 : decide ((100 : Int) < ((r.length + 1 : Nat) : Int)) = decide (100 < (c :: r).length) := decide_eq_decide.2 (by simp only [List.length_cons]; omega)
    have e4 : decide ((c :: r).length < 1) = false := decide_eq_false (by simp)
    have e5 : ((c :: r).head? == some 48) = (c == 48) := by simp
    rw [e1]
    rw [e4, e5] at hK
    simp only [decide_not]
    generalize decide (100 < (c :: r).length) = b1 at *
    generalize ((c == 48) && !decide (a = [48])) = b2 at *
    refine ⟨fun h => ?_, fun h => ?_⟩
    · have := hK _ (Chg.refl _ _)
      have e : (!false && !b1 && !b2 && (c :: r).all Num.isDig) = false := by
        cases b1 <;> cases b2 <;> simp at h ⊢
      rw [e] at this
      exact this
    · have hb : b1 = false ∧ b2 = false := by simpa using h
      rw [hb.1, hb.2] at hK
      refine to_bytes (l := c :: r) (by kernel_rfl) (by kernel_rfl) (by kernel_rfl) fun v w1 hv hx1 => ?_
      rw [lenl_at hv]
      generalize c :: r = D at *
      refine loop_up D.length (fun i w2 => Ext w1 w2 ∧ (D.take i).all Num.isDig = true) ⟨Chg.refl _ _, rfl⟩ ?_ ?_
      · rintro i w2 g L hi ⟨hx2, hall⟩ hL
        obtain ⟨e, he⟩ : ∃ e, D[i]? = some e := ⟨_, List.getElem?_eq_getElem hi⟩
        have hlt : ((i : Int) < ((D.length : Nat) : Int)) := by omega
        simp only [wsv, wsg, wsh, wsl, cond_true, cond_false, exists_eq_left', Option.some.injEq, Option.isSome_some, List.getElem?_toArray, List.getElem?_cons_zero, List.getElem?_cons_succ, List.length_cons, List.length_nil, List.set_cons_zero, List.set_cons_succ, List.getD_cons_zero, List.getD_cons_succ, Nat.zero_add, Nat.add_zero, Nat.reduceAdd, Nat.reduceLT, Nat.lt_add_one, Nat.zero_lt_succ, decide_true, decide_false, ne_eq, reduceCtorEq, hlt]
        refine ixa_ld (hv.ext hx2) (by rw [u8s_length]) (by rw [u8s_get, he]; rfl) ?_
        simp only [wsv, wsg, wsh, wsl, cond_true, cond_false, exists_eq_left', Option.some.injEq, Option.isSome_some, List.getElem?_toArray, List.getElem?_cons_zero, List.getElem?_cons_succ, List.length_cons, List.length_nil, List.set_cons_zero, List.set_cons_succ, List.getD_cons_zero, List.getD_cons_succ, Nat.zero_add, Nat.add_zero, Nat.reduceAdd, Nat.reduceLT, Nat.lt_add_one, Nat.zero_lt_succ, decide_true, decide_false, ne_eq, reduceCtorEq, isDig_out]
        intros
        rw [condW_b]
        refine ⟨fun hf => ?_, fun ht => ?_⟩
        · have hf : Num.isDig e = false := by simpa using hf
          have := hK _ (hx1.trans hx2)
          rw [all_no he hf] at this
          exact this
        · have ht : Num.isDig e = true := by simpa using ht
          rw [up1 (by omega)]
          exact hL _ ⟨hx2, by rw [all_take he, hall, ht]; rfl⟩
      · rintro w2 g L ⟨hx2, hall⟩
        simp only [wsv, wsg, wsh, wsl, cond_true, cond_false, exists_eq_left', Option.some.injEq, Option.isSome_some, List.getElem?_toArray, List.getElem?_cons_zero, List.getElem?_cons_succ, List.length_cons, List.length_nil, List.set_cons_zero, List.set_cons_succ, List.getD_cons_zero, List.getD_cons_succ, Nat.zero_add, Nat.add_zero, Nat.reduceAdd, Nat.reduceLT, Nat.lt_add_one, Nat.zero_lt_succ, decide_true, decide_false, ne_eq, reduceCtorEq, Int.lt_irrefl]
        rw [List.take_length] at hall
        have := hK w2 (hx1.trans hx2)
        rw [hall] at this
        exact this
end
end Go.Proofs.YtcnjpcadejcenaaGreatDoor
namespace Go.Proofs
open Go.RowKit Go.Lib Go.Shelf
abbrev BdT : TypeId := 78
set_option maxHeartbeats 1000000 in
set_option maxRecDepth 100000 in
theorem Tryz.check_used (b : Nat) (w : World) (h0 : w.cell? ⟨b, 0, none⟩ = some (.pointer (some ⟨b, 0, none⟩))) :
    Calls Tryz.prog 137 #[.pointer (some ⟨b, 0, none⟩)] w fun e w' => e = .returned (.tuple #[]) ∧ w' = w := by
  obtain ⟨j, hj, _⟩ := Option.map_eq_some_iff.1 (show (Tryz.prog.info? 78).map (·.size) = some 2 by kernel_rfl)
  go_enter Tryz.func137, Tryz.ntmps137
  go_wp2
  rw [Lib.run_neq_ptr_same w _ Tryz.underlying76 hj]
  go_wp2
  go_end0
  exact ⟨rfl, rfl⟩
set_option maxHeartbeats 1000000 in
set_option maxRecDepth 100000 in
theorem Tryz.check_fresh (b : Nat) (w : World) (h0 : w.cell? ⟨b, 0, none⟩ = some (.pointer none)) (hsh : w.shape? b = some (78, 2)) (hfz : w.frozen? ⟨b, 0, none⟩ = false) :
    Calls Tryz.prog 137 #[.pointer (some ⟨b, 0, none⟩)] w fun e w' => e = .returned (.tuple #[]) ∧ w' = w.setCell ⟨b, 0, none⟩ (.pointer (some ⟨b, 0, none⟩)) := by
  obtain ⟨j, hj, hjs⟩ := Option.map_eq_some_iff.1 (show (Tryz.prog.info? 78).map (·.size) = some 2 by kernel_rfl)
  go_enter Tryz.func137, Tryz.ntmps137
  go_wp2
  rw [Lib.run_to_unsafe w ⟨b, 0, none⟩ Tryz.underlying76 Tryz.underlying177 hj (by rw [hjs]; decide) hsh (Nat.zero_lt_succ 1)]
  simp only [Result.andThen]
  rw [Oper.upon_value]
  go_wp2
  rw [run_callFunc_extern Tryz.func176 (by kernel_rfl) (by kernel_rfl) (by kernel_rfl) (e := Extern.AbiNoEscape.same) (by kernel_rfl)]
  rw [Lib.run_noEscape]
  simp only [Result.andThen]
  rw [Oper.upon_value]
  go_wp2
  rw [Lib.run_from_unsafe w ⟨b, 0, none⟩ Tryz.underlying177 Tryz.underlying76 hj hsh (show liesAt Tryz.prog Tryz.prog.depth 78 (2 / Tryz.prog.cellsOf 78) 0 78 1 = true by kernel_rfl)]
  simp only [Result.andThen]
  rw [Oper.upon_value]
  go_wp2
  go_end0
  exact ⟨rfl, rfl⟩
end Go.Proofs
namespace Go.Proofs.YtcnjpcadejcenaaGreatDoor
open Go Go.Eng
set_option maxRecDepth 100000
variable [HX]
def plan78 : Plan := { js := [], ds := [] }
def W78 (v0 v1 : Value) (w : World) (K : Value → World → Prop) : Prop :=
  callF Tryz.prog 137 [v0] w fun t7 w1 =>
  nilW v0 fun t10 =>
  fldW 1 t10 fun t11 =>
  ldW false 1 t11 w1 fun t12 =>
  semE Tryz.prog (Builtin.append_ #[44, 9] 44 #[t12, v1]) w1 fun t14 w2 =>
  nilW v0 fun t15 =>
  fldW 1 t15 fun t16 =>
  stW 1 t16 t14 w2 fun w3 =>
  lensW v1 fun t18 =>
  K (.tuple #[t18, .nilIface]) w3
theorem W78_eq (v0 v1 : Value) (w : World) (K : Value → World → Prop) : funW Tryz.prog Tryz.f78 plan78 [v0, v1] w K = W78 v0 v1 w K := by kernel_rfl
theorem W78_chk : chkFun Tryz.prog Tryz.f78 plan78 2 = true := by kernel_rfl
theorem W78_ok {v0 v1 : Value} {w : World} {K : Value → World → Prop} (h : W78 v0 v1 w K) : callF Tryz.prog 78 [v0, v1] w K :=
  tie Tryz.prog 78 Tryz.f78 plan78 [v0, v1] w K 2 (W78 v0 v1 w K) rfl mixed Tryz.func78 W78_chk (W78_eq v0 v1 w K) Tryz.call78 h
def plan80 : Plan := { js := [], ds := [] }
def W80 (v0 v1 : Value) (w : World) (K : Value → World → Prop) : Prop :=
  callF Tryz.prog 137 [v0] w fun t6 w1 =>
  nilW v0 fun t9 =>
  fldW 1 t9 fun t10 =>
  ldW false 1 t10 w1 fun t11 =>
  bslW 5 1 [(.int .u8 0)] [(0, 1, v1)] w1 fun t13 w2 =>
  semE Tryz.prog (Builtin.append_ #[44, 44] 44 #[t11, t13]) w2 fun t14 w3 =>
  nilW v0 fun t15 =>
  fldW 1 t15 fun t16 =>
  stW 1 t16 t14 w3 fun w4 =>
  K .nilIface w4
theorem W80_eq (v0 v1 : Value) (w : World) (K : Value → World → Prop) : funW Tryz.prog Tryz.f80 plan80 [v0, v1] w K = W80 v0 v1 w K := by kernel_rfl
theorem W80_chk : chkFun Tryz.prog Tryz.f80 plan80 2 = true := by kernel_rfl
theorem W80_ok {v0 v1 : Value} {w : World} {K : Value → World → Prop} (h : W80 v0 v1 w K) : callF Tryz.prog 80 [v0, v1] w K :=
  tie Tryz.prog 80 Tryz.f80 plan80 [v0, v1] w K 2 (W80 v0 v1 w K) rfl mixed Tryz.func80 W80_chk (W80_eq v0 v1 w K) Tryz.call80 h
def plan155 : Plan := { js := [], ds := [] }
def W155 (v0 v1 : Value) (w : World) (K : Value → World → Prop) : Prop :=
  callF Tryz.prog 137 [v0] w fun t8 w1 =>
  nilW v0 fun t10 =>
  fldW 1 t10 fun t11 =>
  ldW false 1 t11 w1 fun t12 =>
  lenlW t12 fun t13 =>
  nilW v0 fun t16 =>
  fldW 1 t16 fun t17 =>
  ldW false 1 t17 w1 fun t18 =>
  callF Tryz.prog 185 [t18, v1] w1 fun t20 w2 =>
  nilW v0 fun t21 =>
  fldW 1 t21 fun t22 =>
  stW 1 t22 t20 w2 fun w3 =>
  nilW v0 fun t24 =>
  fldW 1 t24 fun t25 =>
  ldW false 1 t25 w3 fun t26 =>
  lenlW t26 fun t27 =>
  binW .sub t27 t13 fun t29 =>
  K (.tuple #[t29, .nilIface]) w3
theorem W155_eq (v0 v1 : Value) (w : World) (K : Value → World → Prop) : funW Tryz.prog Tryz.f155 plan155 [v0, v1] w K = W155 v0 v1 w K := by kernel_rfl
theorem W155_chk : chkFun Tryz.prog Tryz.f155 plan155 2 = true := by kernel_rfl
theorem W155_ok {v0 v1 : Value} {w : World} {K : Value → World → Prop} (h : W155 v0 v1 w K) : callF Tryz.prog 155 [v0, v1] w K :=
  tie Tryz.prog 155 Tryz.f155 plan155 [v0, v1] w K 2 (W155 v0 v1 w K) rfl mixed Tryz.func155 W155_chk (W155_eq v0 v1 w K) Tryz.call155 h
def plan185 : Plan := { js := [], ds := [] }
def W185 (v0 v1 : Value) (w : World) (K : Value → World → Prop) : Prop :=
  cvtW .u32 v1 fun t6 =>
  binW .leq t6 (.int .u32 127) fun t7 =>
  condW t7 (
    cvtW .u8 v1 fun t10 =>
    bslW 5 1 [(.int .u8 0)] [(0, 1, t10)] w fun t11 w1 =>
    semE Tryz.prog (Builtin.append_ #[44, 44] 44 #[v0, t11]) w1 fun t12 w2 =>
    K t12 w2) (
    callF Tryz.prog 223 [v0, v1] w fun t15 w3 =>
    K t15 w3)
theorem W185_eq (v0 v1 : Value) (w : World) (K : Value → World → Prop) : funW Tryz.prog Tryz.f185 plan185 [v0, v1] w K = W185 v0 v1 w K := by kernel_rfl
theorem W185_chk : chkFun Tryz.prog Tryz.f185 plan185 2 = true := by kernel_rfl
theorem W185_ok {v0 v1 : Value} {w : World} {K : Value → World → Prop} (h : W185 v0 v1 w K) : callF Tryz.prog 185 [v0, v1] w K :=
  tie Tryz.prog 185 Tryz.f185 plan185 [v0, v1] w K 2 (W185 v0 v1 w K) rfl mixed Tryz.func185 W185_chk (W185_eq v0 v1 w K) Tryz.call185 h
def plan223 : Plan := { js := [(22004, ⟨[55], [], 54⟩), (11, ⟨[25], [], 6⟩), (16004, ⟨[32], [], 31⟩)], ds := [] }
def W223 (v0 v1 : Value) (w : World) (K : Value → World → Prop) : Prop :=
  cvtW .u32 v1 fun t7 =>
  binW .leq t7 (.int .u32 2047) fun t13 =>
  condW t13 (
    binW .shr v1 (.int .u64 6) fun t16 =>
    cvtW .u8 t16 fun t17 =>
    binW .or (.int .u8 192) t17 fun t18 =>
    cvtW .u8 v1 fun t20 =>
    binW .and t20 (.int .u8 63) fun t21 =>
    binW .or (.int .u8 128) t21 fun t22 =>
    bslW 5 2 [(.int .u8 0), (.int .u8 0)] [(0, 1, t18), (1, 1, t22)] w fun t23 w1 =>
    semE Tryz.prog (Builtin.append_ #[44, 44] 44 #[v0, t23]) w1 fun t24 w2 =>
    K t24 w2) (
    JoinW (fun J3 =>
      binW .lss t7 (.int .u32 55296) fun t27 =>
      condW t27 (
        J3 [t27] w) (
        binW .lss (.int .u32 57343) t7 fun t29 =>
        GdW (isB t29 true) [undef] w (fun J4 =>
          binW .leq t7 (.int .u32 65535) fun t32 =>
          J4 [t32] w)
        fun s4 _ w5 =>
        pickW t29 (s4.getD 0 undef) (.bool false) fun t33 =>
        J3 [t33] w5))
    fun s3 _ w6 =>
    condW (s3.getD 0 undef) (
      binW .shr v1 (.int .u64 12) fun t36 =>
      cvtW .u8 t36 fun t37 =>
      binW .or (.int .u8 224) t37 fun t38 =>
      binW .shr v1 (.int .u64 6) fun t40 =>
      cvtW .u8 t40 fun t41 =>
      binW .and t41 (.int .u8 63) fun t42 =>
      binW .or (.int .u8 128) t42 fun t43 =>
      cvtW .u8 v1 fun t45 =>
      binW .and t45 (.int .u8 63) fun t46 =>
      binW .or (.int .u8 128) t46 fun t47 =>
      bslW 5 3 [(.int .u8 0), (.int .u8 0), (.int .u8 0)] [(0, 1, t38), (1, 1, t43), (2, 1, t47)] w6 fun t48 w7 =>
      semE Tryz.prog (Builtin.append_ #[44, 44] 44 #[v0, t48]) w7 fun t49 w8 =>
      K t49 w8) (
      binW .gtr t7 (.int .u32 65535) fun t52 =>
      GdW (isB t52 true) [undef] w6 (fun J9 =>
        binW .leq t7 (.int .u32 1114111) fun t55 =>
        J9 [t55] w6)
      fun s9 _ w10 =>
      pickW t52 (s9.getD 0 undef) (.bool false) fun t56 =>
      condW t56 (
        binW .shr v1 (.int .u64 18) fun t59 =>
        cvtW .u8 t59 fun t60 =>
        binW .or (.int .u8 240) t60 fun t61 =>
        binW .shr v1 (.int .u64 12) fun t63 =>
        cvtW .u8 t63 fun t64 =>
        binW .and t64 (.int .u8 63) fun t65 =>
        binW .or (.int .u8 128) t65 fun t66 =>
        binW .shr v1 (.int .u64 6) fun t68 =>
        cvtW .u8 t68 fun t69 =>
        binW .and t69 (.int .u8 63) fun t70 =>
        binW .or (.int .u8 128) t70 fun t71 =>
        cvtW .u8 v1 fun t73 =>
        binW .and t73 (.int .u8 63) fun t74 =>
        binW .or (.int .u8 128) t74 fun t75 =>
        bslW 5 4 [(.int .u8 0), (.int .u8 0), (.int .u8 0), (.int .u8 0)] [(0, 1, t61), (1, 1, t66), (2, 1, t71), (3, 1, t75)] w10 fun t76 w11 =>
        semE Tryz.prog (Builtin.append_ #[44, 44] 44 #[v0, t76]) w11 fun t77 w12 =>
        K t77 w12) (
        bslW 5 3 [(.int .u8 0), (.int .u8 0), (.int .u8 0)] [(0, 1, (.int .u8 239)), (1, 1, (.int .u8 191)), (2, 1, (.int .u8 189))] w10 fun t9 w13 =>
        semE Tryz.prog (Builtin.append_ #[44, 44] 44 #[v0, t9]) w13 fun t10 w14 =>
        K t10 w14)))
theorem W223_eq (v0 v1 : Value) (w : World) (K : Value → World → Prop) : funW Tryz.prog Tryz.f223 plan223 [v0, v1] w K = W223 v0 v1 w K := by kernel_rfl
theorem W223_chk : chkFun Tryz.prog Tryz.f223 plan223 2 = true := by kernel_rfl
theorem W223_ok {v0 v1 : Value} {w : World} {K : Value → World → Prop} (h : W223 v0 v1 w K) : callF Tryz.prog 223 [v0, v1] w K :=
  tie Tryz.prog 223 Tryz.f223 plan223 [v0, v1] w K 2 (W223 v0 v1 w K) rfl mixed Tryz.func223 W223_chk (W223_eq v0 v1 w K) Tryz.call223 h
def plan154 : Plan := { js := [], ds := [] }
def W154 (v0 v1 : Value) (w : World) (K : Value → World → Prop) : Prop :=
  callF Tryz.prog 172 [v0, v1] w fun t7 w1 =>
  K t7 w1
theorem W154_eq (v0 v1 : Value) (w : World) (K : Value → World → Prop) : funW Tryz.prog Tryz.f154 plan154 [v0, v1] w K = W154 v0 v1 w K := by kernel_rfl
theorem W154_chk : chkFun Tryz.prog Tryz.f154 plan154 2 = true := by kernel_rfl
theorem W154_ok {v0 v1 : Value} {w : World} {K : Value → World → Prop} (h : W154 v0 v1 w K) : callF Tryz.prog 154 [v0, v1] w K :=
  tie Tryz.prog 154 Tryz.f154 plan154 [v0, v1] w K 2 (W154 v0 v1 w K) rfl mixed Tryz.func154 W154_chk (W154_eq v0 v1 w K) Tryz.call154 h
def plan172 : Plan := { js := [(18, ⟨[6], [], 6⟩), (8003, ⟨[16], [], 15⟩)], ds := [] }
def W172 (v0 v1 : Value) (w : World) (K : Value → World → Prop) : Prop :=
  binW .eql v1 (.int .i64 10) fun t11 =>
  condW t11 (
    binW .leq (.int .i64 0) v0 fun t13 =>
    GdW (isB t13 true) [undef] w (fun J1 =>
      binW .lss v0 (.int .i64 100) fun t16 =>
      J1 [t16] w)
    fun s1 _ w2 =>
    pickW t13 (s1.getD 0 undef) (.bool false) fun t17 =>
    condW t17 (
      callF Tryz.prog 196 [v0] w2 fun t19 w3 =>
      K t19 w3) (
      allocW 191 (List.replicate 24 (.int .u8 0)) w2 fun t5 w4 =>
      cvtW .u64 v0 fun t21 =>
      JoinW (fun J5 =>
        binW .lss v0 (.int .i64 0) fun t23 =>
        condW t23 (
          unW .neg t21 fun t25 =>
          J5 [t25] w4) (
          J5 [t21] w4))
      fun s5 _ w6 =>
      callF Tryz.prog 197 [(s5.getD 0 undef)] w6 fun t27 w7 =>
      binW .add (.int .i64 1) t27 fun t29 =>
      slaW 24 1 t5 (some (.int .i64 1)) (some t29) none fun t30 =>
      callF Tryz.prog 198 [t30, (s5.getD 0 undef)] w7 fun t32 w8 =>
      binW .lss v0 (.int .i64 0) fun t34 =>
      condW t34 (
        ixaW (some 24) 1 t5 (.int .i64 0) fun t35 =>
        stW 1 t35 (.int .u8 45) w8 fun w9 =>
        binW .add (.int .i64 1) t27 fun t37 =>
        slaW 24 1 t5 none (some t37) none fun t38 =>
        semQ Tryz.prog (convert 44 9 t38) w9 fun t39 =>
        K t39 w9) (
        binW .add (.int .i64 1) t27 fun t41 =>
        slaW 24 1 t5 (some (.int .i64 1)) (some t41) none fun t42 =>
        semQ Tryz.prog (convert 44 9 t42) w8 fun t43 =>
        K t43 w8))) (
    cvtW .u64 v0 fun t46 =>
    binW .lss v0 (.int .i64 0) fun t49 =>
    callF Tryz.prog 199 [(.slice none 0 0), t46, v1, t49, (.bool false)] w fun t50 w10 =>
    extW 0 t50 fun t51 =>
    extW 1 t50 fun t52 =>
    K t52 w10)
theorem W172_eq (v0 v1 : Value) (w : World) (K : Value → World → Prop) : funW Tryz.prog Tryz.f172 plan172 [v0, v1] w K = W172 v0 v1 w K := by kernel_rfl
theorem W172_chk : chkFun Tryz.prog Tryz.f172 plan172 2 = true := by kernel_rfl
theorem W172_ok {v0 v1 : Value} {w : World} {K : Value → World → Prop} (h : W172 v0 v1 w K) : callF Tryz.prog 172 [v0, v1] w K :=
  tie Tryz.prog 172 Tryz.f172 plan172 [v0, v1] w K 2 (W172 v0 v1 w K) rfl mixed Tryz.func172 W172_chk (W172_eq v0 v1 w K) Tryz.call172 h
def plan199 : Plan := { js := [(68, ⟨[13], [], 13⟩), (18, ⟨[13], [1], 13⟩), (50, ⟨[1, 13], [1, 13], 18⟩), (30, ⟨[1, 13], [1, 13], 17⟩), (12, ⟨[1], [1], 14⟩), (2, ⟨[], [], 12⟩), (4003, ⟨[27], [], 26⟩), (4007, ⟨[23], [], 22⟩)], ds := [] }
def W199 (v0 v1 v2 v3 v4 : Value) (w : World) (K : Value → World → Prop) : Prop :=
  JoinW (fun J1 =>
    binW .lss v2 (.int .i64 2) fun t20 =>
    GdW (isB t20 false) [undef] w (fun J2 =>
      binW .eql v2 (.int .i64 10) fun t23 =>
      J2 [t23] w)
    fun s2 _ w3 =>
    pickW t20 (.bool true) (s2.getD 0 undef) fun t24 =>
    GdW (isB t24 false) [undef] w3 (fun J4 =>
      binW .gtr v2 (.int .i64 36) fun t27 =>
      J4 [t27] w3)
    fun s4 _ w5 =>
    pickW t24 (.bool true) (s4.getD 0 undef) fun t28 =>
    condW t28 (
      pncW (.iface 9 (.string (ofL [115, 116, 114, 99, 111, 110, 118, 58, 32, 105, 108, 108, 101, 103, 97, 108, 32, 65, 112, 112, 101, 110, 100, 73, 110, 116, 47, 70, 111, 114, 109, 97, 116, 73, 110, 116, 32, 98, 97, 115, 101]))) w5) (
      J1 [] w5))
  fun s1 _ w6 =>
  allocW 225 (List.replicate 65 (.int .u8 0)) w6 fun t12 w7 =>
  JoinW (fun J8 =>
    condW v3 (
      unW .neg v1 fun t32 =>
      J8 [t32] w7) (
      J8 [v1] w7))
  fun s8 _ w9 =>
  JoinW (fun J10 =>
    callF Tryz.prog 247 [v2] w9 fun t34 w11 =>
    condW t34 (
      cvtW .u64 v2 fun t36 =>
      callF Tryz.prog 248 [t36] w11 fun t37 w12 =>
      cvtW .u64 t37 fun t38 =>
      cvtW .u64 v2 fun t40 =>
      cvtW .u64 v2 fun t42 =>
      binW .sub t42 (.int .u64 1) fun t43 =>
      LoopW [(s8.getD 0 undef), (.int .i64 65)] w12 fun s13 _ w14 L13 =>
        binW .geq (s13.getD 0 undef) t40 fun t46 =>
        condW t46 (
          binW .sub (s13.getD 1 undef) (.int .i64 1) fun t48 =>
          binW .and (s13.getD 0 undef) t43 fun t52 =>
          ixsW (.string (ofL [48, 49, 50, 51, 52, 53, 54, 55, 56, 57, 97, 98, 99, 100, 101, 102, 103, 104, 105, 106, 107, 108, 109, 110, 111, 112, 113, 114, 115, 116, 117, 118, 119, 120, 121, 122])) t52 fun t53 =>
          ixaW (some 65) 1 t12 t48 fun t54 =>
          stW 1 t54 t53 w14 fun w15 =>
          binW .shr (s13.getD 0 undef) t38 fun t57 =>
          L13 [t57, t48] w15) (
          binW .sub (s13.getD 1 undef) (.int .i64 1) fun t59 =>
          ixsW (.string (ofL [48, 49, 50, 51, 52, 53, 54, 55, 56, 57, 97, 98, 99, 100, 101, 102, 103, 104, 105, 106, 107, 108, 109, 110, 111, 112, 113, 114, 115, 116, 117, 118, 119, 120, 121, 122])) (s13.getD 0 undef) fun t62 =>
          ixaW (some 65) 1 t12 t59 fun t63 =>
          stW 1 t63 t62 w14 fun w16 =>
          J10 [t59] w16)) (
      cvtW .u64 v2 fun t65 =>
      LoopW [(s8.getD 0 undef), (.int .i64 65)] w11 fun s17 _ w18 L17 =>
        binW .geq (s17.getD 0 undef) t65 fun t68 =>
        condW t68 (
          binW .sub (s17.getD 1 undef) (.int .i64 1) fun t70 =>
          binW .quo (s17.getD 0 undef) t65 fun t73 =>
          binW .mul t73 t65 fun t78 =>
          binW .sub (s17.getD 0 undef) t78 fun t79 =>
          ixsW (.string (ofL [48, 49, 50, 51, 52, 53, 54, 55, 56, 57, 97, 98, 99, 100, 101, 102, 103, 104, 105, 106, 107, 108, 109, 110, 111, 112, 113, 114, 115, 116, 117, 118, 119, 120, 121, 122])) t79 fun t80 =>
          ixaW (some 65) 1 t12 t70 fun t81 =>
          stW 1 t81 t80 w18 fun w19 =>
          L17 [t73, t70] w19) (
          binW .sub (s17.getD 1 undef) (.int .i64 1) fun t84 =>
          ixsW (.string (ofL [48, 49, 50, 51, 52, 53, 54, 55, 56, 57, 97, 98, 99, 100, 101, 102, 103, 104, 105, 106, 107, 108, 109, 110, 111, 112, 113, 114, 115, 116, 117, 118, 119, 120, 121, 122])) (s17.getD 0 undef) fun t87 =>
          ixaW (some 65) 1 t12 t84 fun t88 =>
          stW 1 t88 t87 w18 fun w20 =>
          J10 [t84] w20)))
  fun s10 _ w21 =>
  JoinW (fun J22 =>
    condW v3 (
      binW .sub (s10.getD 0 undef) (.int .i64 1) fun t91 =>
      ixaW (some 65) 1 t12 t91 fun t93 =>
      stW 1 t93 (.int .u8 45) w21 fun w23 =>
      J22 [t91] w23) (
      J22 [(s10.getD 0 undef)] w21))
  fun s22 _ w24 =>
  condW v4 (
    slaW 65 1 t12 (some (s22.getD 0 undef)) none none fun t97 =>
    semE Tryz.prog (Builtin.append_ #[44, 44] 44 #[v0, t97]) w24 fun t98 w25 =>
    K (.tuple #[t98, (.string (ofL []))]) w25) (
    slaW 65 1 t12 (some (s22.getD 0 undef)) none none fun t100 =>
    semQ Tryz.prog (convert 44 9 t100) w24 fun t101 =>
    K (.tuple #[(.slice none 0 0), t101]) w24)
theorem W199_eq (v0 v1 v2 v3 v4 : Value) (w : World) (K : Value → World → Prop) : funW Tryz.prog Tryz.f199 plan199 [v0, v1, v2, v3, v4] w K = W199 v0 v1 v2 v3 v4 w K := by kernel_rfl
theorem W199_chk : chkFun Tryz.prog Tryz.f199 plan199 5 = true := by kernel_rfl
theorem W199_ok {v0 v1 v2 v3 v4 : Value} {w : World} {K : Value → World → Prop} (h : W199 v0 v1 v2 v3 v4 w K) : callF Tryz.prog 199 [v0, v1, v2, v3, v4] w K :=
  tie Tryz.prog 199 Tryz.f199 plan199 [v0, v1, v2, v3, v4] w K 5 (W199 v0 v1 v2 v3 v4 w K) rfl mixed Tryz.func199 W199_chk (W199_eq v0 v1 v2 v3 v4 w K) Tryz.call199 h
def plan247 : Plan := { js := [], ds := [] }
def W247 (v0 : Value) (w : World) (K : Value → World → Prop) : Prop :=
  binW .sub v0 (.int .i64 1) fun t5 =>
  binW .and v0 t5 fun t6 =>
  binW .eql t6 (.int .i64 0) fun t7 =>
  K t7 w
theorem W247_eq (v0 : Value) (w : World) (K : Value → World → Prop) : funW Tryz.prog Tryz.f247 plan247 [v0] w K = W247 v0 w K := by kernel_rfl
theorem W247_chk : chkFun Tryz.prog Tryz.f247 plan247 1 = true := by kernel_rfl
theorem W247_ok {v0 : Value} {w : World} {K : Value → World → Prop} (h : W247 v0 w K) : callF Tryz.prog 247 [v0] w K :=
  tie Tryz.prog 247 Tryz.f247 plan247 [v0] w K 1 (W247 v0 w K) rfl mixed Tryz.func247 W247_chk (W247_eq v0 w K) Tryz.call247 h
end Go.Proofs.YtcnjpcadejcenaaGreatDoor
namespace Go.Proofs.YtcnjpcadejcenaaGreatDoor
open Go Go.Eng Go.RowKit
set_option maxRecDepth 100000
abbrev BdT : TypeId := 78
theorem elem_u8 : ElemT Tryz.prog 44 U8 1 1 := ⟨by kernel_rfl, by kernel_rfl, by decide⟩
def Bld (w : World) (B b : Nat) (l : Str) : Prop :=
  ∃ p v, w.heap[b]? = some (.cells [p, v].toArray BdT (0, 0)) ∧ (p = .pointer none ∨ p = .pointer (some ⟨b, 0, none⟩)) ∧ Own w B U8 1 v l.length (u8s l) ∧ B ≤ b
def BCh (w : World) (B b : Nat) (k : Nat) : Prop := k = b ∨ OwnS w B U8 k
theorem Bld.chg {S : Nat → Prop} {w w' : World} {B b : Nat} {l : Str} (h : Bld w B b l) (hc : Chg S w w') (hb : ¬ S b) (hS : ∀ k, OwnS w B U8 k → ¬ S k) : Bld w' B b l := by
  obtain ⟨p, v, h1, h2, h3, h4⟩ := h
  exact ⟨p, v, hc.at h1 hb, h2, h3.chg hc hS, h4⟩
theorem Bld.ext {w w' : World} {B b : Nat} {l : Str} (h : Bld w B b l) (hc : Ext w w') : Bld w' B b l := h.chg hc (fun e => e) fun _ _ e => e
theorem Bld.lt {w : World} {B b : Nat} {l : Str} (h : Bld w B b l) : b < w.heap.size := by
  obtain ⟨p, v, h1, _⟩ := h
  exact at_lt h1
theorem Bld.base {w : World} {B b : Nat} {l : Str} (h : Bld w B b l) : B ≤ b := by obtain ⟨p, v, _, _, _, h4⟩ := h; exact h4
theorem bd_ne {w : World} {B b : Nat} {p v : Value} (h1 : w.heap[b]? = some (.cells [p, v].toArray BdT (0, 0))) : ¬ OwnS w B U8 b := by
  rintro ⟨_, c, hc⟩
  rw [h1] at hc
  simp only [Option.some.injEq, Obj.cells.injEq] at hc
  exact absurd hc.2.1 (by decide)
theorem BCh.trans {w w1 w2 : World} {B b : Nat} (h1 : Chg (BCh w B b) w w1) (h2 : Chg (BCh w1 B b) w1 w2) : Chg (BCh w B b) w w2 := by
  refine ⟨h2.os.trans h1.os, h2.tape.trans h1.tape, h2.output.trans h1.output, Nat.le_trans h1.size h2.size, fun k hk hn => ?_⟩
  have e1 := h1.heap k hk hn
  rw [← e1]
  refine h2.heap k (Nat.lt_of_lt_of_le hk h1.size) fun e => hn ?_
  rcases e with e | ⟨e2, c, e3⟩
  · exact .inl e
  · exact .inr ⟨e2, c, by rw [← e1]; exact e3⟩
theorem BCh.ext {w w1 w2 : World} {B b : Nat} (h1 : Chg (BCh w B b) w w1) (h2 : Ext w1 w2) : Chg (BCh w B b) w w2 := h1.then h2 fun _ _ e => e.elim
theorem BCh.from {w w1 w2 : World} {B b : Nat} (h1 : Ext w w1) (h2 : Chg (BCh w1 B b) w1 w2) : Chg (BCh w B b) w w2 := BCh.trans (Chg.of_ext h1) h2
theorem BCh.new {w0 w w' : World} {B b : Nat} (h0 : Ext w0 w) (hB : w0.heap.size ≤ B) (hb : B ≤ b) (h : Chg (BCh w B b) w w') : Ext w0 w' :=
  h0.then h fun k hk e => by
    rcases e with rfl | ⟨e, _⟩
    · omega
    · omega
theorem BCh.keep {w w' : World} {B b k : Nat} {c : Array Value} {T : TypeId} {fr : Nat × Nat} (h : Chg (BCh w B b) w w') (hk : w.heap[k]? = some (.cells c T fr)) (hb : k ≠ b) (hT : T ≠ U8) : w'.heap[k]? = some (.cells c T fr) :=
  h.at hk fun e => by
    rcases e with e | ⟨_, c', e⟩
    · exact hb e
    · rw [hk] at e
      simp only [Option.some.injEq, Obj.cells.injEq] at e
      exact hT e.2.1
theorem BCh.iter {w w' : World} {B b k p : Nat} {s : ByteArray} (h : Chg (BCh w B b) w w') (hk : w.heap[k]? = some (.stringIter s p)) (hb : k ≠ b) : w'.heap[k]? = some (.stringIter s p) :=
  h.at hk fun e => by
    rcases e with e | ⟨_, c', e⟩
    · exact hb e
    · rw [hk] at e; cases e
section
variable [HX]
theorem bnew {w : World} {B : Nat} {K : Value → World → Prop} (hB : B ≤ w.heap.size) (hK : ∀ b w', b = w.heap.size → Bld w' B b [] → Ext w w' → K (.pointer (some ⟨b, 0, none⟩)) w') : allocW BdT [.pointer none, .slice none 0 0] w K :=
  alloc_new fun a w' ha hz hb hx => hK a w' ha ⟨_, _, hb, .inl rfl, ⟨by simp [u8s], .inl ⟨rfl, rfl⟩⟩, by omega⟩ hx
theorem check_p {w : World} {B b : Nat} {l : Str} {K : Value → World → Prop} (h : Bld w B b l)
    (hK : ∀ v w', w'.heap[b]? = some (.cells [.pointer (some ⟨b, 0, none⟩), v].toArray BdT (0, 0)) → Own w' B U8 1 v l.length (u8s l) → w'.heap.size = w.heap.size → Chg (BCh w B b) w w' → K (.tuple #[]) w') :
    callF Tryz.prog 137 [.pointer (some ⟨b, 0, none⟩)] w K := by
  obtain ⟨p, v, h1, h2, h3, h4⟩ := h
  have c0 : w.cell? ⟨b, 0, none⟩ = some p := by rw [cell_eq, h1]; rfl
  rcases h2 with rfl | rfl
  · refine of_calls (args := #[.pointer (some ⟨b, 0, none⟩)]) Tryz.call137 ((Tryz.check_fresh b w c0 (by simp [World.shape?, h1]) (by rw [frozen_eq, h1]; rfl)).mono ?_)
    rintro e w' ⟨rfl, rfl⟩
    refine ⟨_, rfl, hK v _ ?_ ?_ (size_set _ _ _) (Chg.set (Chg.refl _ _) (.inl (.inl rfl)) _)⟩
    · rw [heap_set_same, h1]; rfl
    · refine h3.chg (Chg.set (S := fun k => k = b) (Chg.refl _ _) (.inl rfl) _) fun k hk e => ?_
      subst e
      exact bd_ne h1 hk
  · refine of_calls (args := #[.pointer (some ⟨b, 0, none⟩)]) Tryz.call137 ((Tryz.check_used b w c0).mono ?_)
    rintro e w' ⟨rfl, rfl⟩
    exact ⟨_, rfl, hK v _ h1 h3 rfl (Chg.refl _ _)⟩
theorem bstore {w w3 : World} {B b n : Nat} {l l' : Str} {v v' : Value} {K : World → Prop} (h1 : w.heap[b]? = some (.cells [.pointer (some ⟨b, 0, none⟩), v].toArray BdT (0, 0))) (hO : Own w B U8 1 v l.length (u8s l)) (hb : B ≤ b)
    (hc : Chg (fun k => v.ownBlock = some k) w w3) (hO' : Own w3 B U8 1 v' l'.length (u8s l')) (hK : ∀ w', Bld w' B b l' → Chg (BCh w B b) w w' → w'.heap.size = w3.heap.size → K w') :
    stW 1 (.pointer (some ⟨b, 1, none⟩)) v' w3 K := by
  have hne : ¬ v.ownBlock = some b := fun e => bd_ne h1 (hO.block b e)
  have h3 := hc.at h1 hne
  have hsh : one1 v' = true := by obtain ⟨p, c, rfl, _⟩ := hO'.sl.shape; rfl
  refine st_at h3 hsh (by simp) fun w4 hz hb4 hc4 => ?_
  refine hK w4 ⟨.pointer (some ⟨b, 0, none⟩), v', by rw [hb4]; simp, .inr rfl, hO'.chg hc4 fun k hk e => by subst e; exact bd_ne h3 hk, hb⟩ ?_ hz
  have s1 : Chg (BCh w B b) w w3 := hc.mono fun k _ e => .inr (hO.block k e)
  exact s1.then hc4 fun k _ e => .inl e
theorem wstr_p {w : World} {B b : Nat} {l s : Str} {K : Value → World → Prop} (h : Bld w B b l) (hB : B ≤ w.heap.size) (hl : l.length + s.length ≤ 140737488355328)
    (hK : ∀ v w', Bld w' B b (l ++ s) → Chg (BCh w B b) w w' → K v w') : callF Tryz.prog 78 [.pointer (some ⟨b, 0, none⟩), str s] w K := by
  have hb := h.base
  refine W78_ok ?_
  unfold W78
  refine check_p h fun v w1 h1 hO hz hc => ?_
  rw [nil_ptr, fld_ptr, ld_one]
  refine ⟨v, by rw [add_mk, cell_eq, h1]; rfl, ?_⟩
  obtain ⟨i, z, hi, hzr, h2, h3, h4⟩ := elem_u8.get
  have hz0 : i.zero = some (.int .u8 0) := by
    have : (Tryz.prog.info? U8).map (·.zero) = some (some (.int .u8 0)) := by kernel_rfl
    rw [hi] at this; simpa using this
  obtain ⟨v', w3, hr, hO', hg, _⟩ := Lib.run_append_own_string (P := Tryz.prog) w1 B 44 9 44 U8 i elem_u8.und (by kernel_rfl) hi hz0 h2 h3 v l.length (u8s l) hO (ofL s) (by rw [ofL_size]; unfold maxLen; omega) (by rw [ofL_size]; omega) (by omega)
  unfold semE
  rw [hr]
  dsimp only
  rw [nil_ptr, fld_ptr]
  have hO2 : Own w3 B U8 1 v' (l ++ s).length (u8s (l ++ s)) := by
    rw [u8s_app, List.length_append]
    have e1 : Lib.strCells (ofL s) = u8s s := by unfold Lib.strCells u8s; rw [ofL_data]
    rw [ofL_size, e1] at hO'
    exact hO'
  refine bstore (n := 0) h1 hO hb (Chg.of_grown hg fun k e => e) hO2 fun w4 hb4 hc4 _ => ?_
  rw [lens_str]
  exact hK _ w4 hb4 (BCh.trans hc hc4)
theorem row_u8 {w : World} {n : Nat} {K : Value → World → Prop} (hK : ∀ t w', SlAt w' U8 t 1 [.int .u8 (n : Int)] → Ext w w' → K t w') : bslW U8 1 [(.int .u8 0)] [(0, 1, .int .u8 (n : Int))] w K := by
  rw [bslW]
  simp only [put_int, put_nil, List.length_cons, List.length_nil, List.set_cons_zero]
  refine ⟨by omega, ?_⟩
  refine hK _ _ ⟨_, _, rfl, Nat.le_refl _, fun e => (by cases e), fun _ => ⟨_, _, _, _, rfl, heap_anew _ _ _ rfl, fun i _ => by rw [Nat.zero_add]; simp⟩⟩ (Chg.alloc (Chg.refl _ _) _)
theorem wbyte_p {w : World} {B b n : Nat} {l : Str} {K : Value → World → Prop} (h : Bld w B b l) (hB : B ≤ w.heap.size) (hl : l.length + 1 ≤ 140737488355328) (hn : n < 256)
    (hK : ∀ w', Bld w' B b (l ++ [UInt8.ofNat n]) → Chg (BCh w B b) w w' → K .nilIface w') : callF Tryz.prog 80 [.pointer (some ⟨b, 0, none⟩), .int .u8 (n : Int)] w K := by
  have hb := h.base
  refine W80_ok ?_
  unfold W80
  refine check_p h fun v w1 h1 hO hz hc => ?_
  rw [nil_ptr, fld_ptr, ld_one]
  refine ⟨v, by rw [add_mk, cell_eq, h1]; rfl, ?_⟩
  refine row_u8 fun t w2 ht hx2 => ?_
  refine append_own2 elem_u8 (hO.ext hx2) ht (m := 1) rfl (fun u hu => by simp only [List.mem_singleton] at hu; subst hu; rfl) (by omega) (by omega) (by have := hx2.size; omega) fun v' w3 hO3 hc3 _ => ?_
  rw [nil_ptr, fld_ptr]
  have hO2 : Own w3 B U8 1 v' (l ++ [UInt8.ofNat n]).length (u8s (l ++ [UInt8.ofNat n])) := by
    rw [u8s_app, List.length_append]
    have e1 : u8s [UInt8.ofNat n] = [.int .u8 (n : Int)] := by
      simp only [u8s, List.map_cons, List.map_nil, UInt8.toNat_ofNat']
      rw [Nat.mod_eq_of_lt (by omega)]
    rw [e1]
    exact hO3
  refine bstore (n := 0) (hx2.at h1 id) (hO.ext hx2) hb hc3 hO2 fun w4 hb4 hc4 _ => ?_
  exact hK w4 hb4 (BCh.trans hc (BCh.from hx2 hc4))
end
end Go.Proofs.YtcnjpcadejcenaaGreatDoor
namespace Go.Proofs.YtcnjpcadejcenaaGreatDoor
open Go Go.Eng Go.RowKit
set_option maxRecDepth 100000
abbrev u8 (n : Nat) : Value := .int .u8 (n : Int)
theorem or192 : ∀ x : Fin 32, IntKind.u8.wrap (BitVec.ofInt IntKind.u8.bits 192 ||| BitVec.ofInt IntKind.u8.bits ((x.val : Nat) : Int)).toNat = ((192 + x.val : Nat) : Int) := by decide +kernel
theorem or224 : ∀ x : Fin 16, IntKind.u8.wrap (BitVec.ofInt IntKind.u8.bits 224 ||| BitVec.ofInt IntKind.u8.bits ((x.val : Nat) : Int)).toNat = ((224 + x.val : Nat) : Int) := by decide +kernel
theorem or240 : ∀ x : Fin 8, IntKind.u8.wrap (BitVec.ofInt IntKind.u8.bits 240 ||| BitVec.ofInt IntKind.u8.bits ((x.val : Nat) : Int)).toNat = ((240 + x.val : Nat) : Int) := by decide +kernel
theorem or128 : ∀ x : Fin 64, IntKind.u8.wrap (BitVec.ofInt IntKind.u8.bits 128 ||| BitVec.ofInt IntKind.u8.bits ((x.val : Nat) : Int)).toNat = ((128 + x.val : Nat) : Int) := by decide +kernel
theorem and63 : ∀ x : Fin 256, IntKind.u8.wrap (BitVec.ofInt IntKind.u8.bits ((x.val : Nat) : Int) &&& BitVec.ofInt IntKind.u8.bits 63).toNat = ((x.val % 64 : Nat) : Int) := by decide +kernel
theorem u8_wrap (n : Nat) : IntKind.u8.wrap (n : Int) = ((n % 256 : Nat) : Int) := by
  simp only [IntKind.wrap, IntKind.bits, IntKind.signed, Bool.false_and]
  rw [show (2 : Int) ^ 8 = 256 by decide]
  simp
theorem u32_wrap {n : Nat} (h : n < 4294967296) : IntKind.u32.wrap (n : Int) = (n : Int) := by
  simp only [IntKind.wrap, IntKind.bits, IntKind.signed, Bool.false_and]
  rw [show (2 : Int) ^ 32 = 4294967296 by decide]
  simp only [Bool.false_eq_true, if_false]
  omega
theorem shr_n (r k : Nat) (hk : k ≤ 32) (K : Value → Prop) : binW .shr (.int .i32 (r : Int)) (.int .u64 (k : Int)) K ↔ K (.int .i32 ((r / 2 ^ k : Nat) : Int)) := by
  have e : (r : Int).fdiv (2 ^ min (k : Int).toNat IntKind.i32.bits) = ((r / 2 ^ k : Nat) : Int) := by
    rw [Int.toNat_natCast, show min k IntKind.i32.bits = k from Nat.min_eq_left hk, Int.fdiv_eq_ediv_of_nonneg _ (by exact Int.le_of_lt (Int.pow_pos (by decide)))]
    rw [Int.natCast_ediv, Int.natCast_pow]; rfl
  simp only [binW]
  rw [e]
  constructor
  · exact fun h => h.2
  · exact fun h => ⟨by omega, h⟩
theorem tail_n (x : Nat) (K : Value → Prop) : (cvtW .u8 (.int .i32 (x : Int)) fun t => binW .and t (.int .u8 63) fun t => binW .or (.int .u8 128) t K) ↔ K (u8 (128 + x % 64)) := by
  rw [cvt_int, u8_wrap, bin_and, and63 ⟨x % 256, by omega⟩, bin_or, or128 ⟨x % 256 % 64, by omega⟩]
  simp only
  rw [show x % 256 % 64 = x % 64 by omega]
theorem row2 {w : World} {a b : Nat} {K : Value → World → Prop} (hK : ∀ t w', SlAt w' U8 t 2 [u8 a, u8 b] → Ext w w' → K t w') : bslW U8 2 [(.int .u8 0), (.int .u8 0)] [(0, 1, u8 a), (1, 1, u8 b)] w K := by
  rw [bslW]
  simp only [put_int, put_nil, List.length_cons, List.length_nil, List.set_cons_zero, List.set_cons_succ]
  refine ⟨by omega, by omega, ?_⟩
  refine hK _ _ ⟨_, _, rfl, Nat.le_refl _, fun e => (by cases e), fun _ => ⟨_, _, _, _, rfl, heap_anew _ _ _ rfl, fun i _ => by rw [Nat.zero_add]; simp⟩⟩ (Chg.alloc (Chg.refl _ _) _)
theorem row3 {w : World} {a b c : Nat} {K : Value → World → Prop} (hK : ∀ t w', SlAt w' U8 t 3 [u8 a, u8 b, u8 c] → Ext w w' → K t w') : bslW U8 3 [(.int .u8 0), (.int .u8 0), (.int .u8 0)] [(0, 1, u8 a), (1, 1, u8 b), (2, 1, u8 c)] w K := by
  rw [bslW]
  simp only [put_int, put_nil, List.length_cons, List.length_nil, List.set_cons_zero, List.set_cons_succ]
  refine ⟨by omega, by omega, by omega, ?_⟩
  refine hK _ _ ⟨_, _, rfl, Nat.le_refl _, fun e => (by cases e), fun _ => ⟨_, _, _, _, rfl, heap_anew _ _ _ rfl, fun i _ => by rw [Nat.zero_add]; simp⟩⟩ (Chg.alloc (Chg.refl _ _) _)
theorem row4 {w : World} {a b c d : Nat} {K : Value → World → Prop} (hK : ∀ t w', SlAt w' U8 t 4 [u8 a, u8 b, u8 c, u8 d] → Ext w w' → K t w') : bslW U8 4 [(.int .u8 0), (.int .u8 0), (.int .u8 0), (.int .u8 0)] [(0, 1, u8 a), (1, 1, u8 b), (2, 1, u8 c), (3, 1, u8 d)] w K := by
  rw [bslW]
  simp only [put_int, put_nil, List.length_cons, List.length_nil, List.set_cons_zero, List.set_cons_succ]
  refine ⟨by omega, by omega, by omega, by omega, ?_⟩
  refine hK _ _ ⟨_, _, rfl, Nat.le_refl _, fun e => (by cases e), fun _ => ⟨_, _, _, _, rfl, heap_anew _ _ _ rfl, fun i _ => by rw [Nat.zero_add]; simp⟩⟩ (Chg.alloc (Chg.refl _ _) _)
theorem u8s_nat (l : List Nat) (h : ∀ x ∈ l, x < 256) : u8s (l.map b8) = l.map u8 := by
  unfold u8s
  rw [List.map_map]
  apply List.map_congr_left
  intro x hx
  have := h x hx
  simp only [Function.comp, b8, UInt8.toNat_ofNat', u8]
  rw [Nat.mod_eq_of_lt (by omega)]
section
variable [HX]
theorem arune_p {w : World} {B r : Nat} {l : Str} {v : Value} {K : Value → World → Prop} (hO : Own w B U8 1 v l.length (u8s l)) (hB : B ≤ w.heap.size) (hl : l.length + 4 ≤ 140737488355328) (hr : r < 55296 ∨ 57343 < r ∧ r ≤ 1114111)
    (hK : ∀ v' w', Own w' B U8 1 v' (l ++ wrM r).length (u8s (l ++ wrM r)) → (∀ k, ¬ OwnS w B U8 k → k < w.heap.size → w'.heap[k]? = w.heap[k]?) → Chg (fun k => v.ownBlock = some k) w w' → K v' w') :
    callF Tryz.prog 185 [v, .int .i32 (r : Int)] w K := by
  have fin : ∀ (bs : List Nat) (t : Value) (w1 : World), wrM r = bs.map b8 → (∀ x ∈ bs, x < 256) → bs.length ≤ 4 → SlAt w1 U8 t bs.length (bs.map u8) → Ext w w1 → semE Tryz.prog (Builtin.append_ #[44, 44] 44 #[v, t]) w1 K := by
    intro bs t w1 he hlt hlen ht hx
    refine append_own2 elem_u8 (hO.ext hx) ht (m := bs.length) (by simp) (fun u hu => by simp only [List.mem_map] at hu; obtain ⟨x, _, rfl⟩ := hu; rfl) (by omega) (by omega) (by have := hx.size; omega) fun v' w3 hO3 hc3 _ => ?_
    have hc : Chg (fun k => v.ownBlock = some k) w w3 := (Chg.of_ext hx).trans hc3
    refine hK v' w3 ?_ (fun k hk hlt => hc.heap k hlt fun e => hk (hO.block k e)) hc
    rw [u8s_app, he, u8s_nat bs hlt, List.length_append, List.length_map]
    exact hO3
  refine W185_ok ?_
  unfold W185
  rw [cvt_int, u32_wrap (by omega), bin_leq, condW_dec]
  refine ⟨fun h => ?_, fun h => ?_⟩
  · rw [cvt_int, u8_wrap, Nat.mod_eq_of_lt (by omega)]
    refine row_u8 fun t w1 ht hx => ?_
    refine fin [r] t w1 ?_ (fun x hx => by simp only [List.mem_singleton] at hx; omega) (by simp) ht hx
    unfold wrM; rw [if_pos (by omega)]; rfl
  refine W223_ok ?_
  unfold W223
  rw [cvt_int, u32_wrap (by omega), bin_leq, condW_dec]
  refine ⟨fun h2 => ?_, fun h2 => ?_⟩
  · rw [show (6 : Int) = ((6 : Nat) : Int) from rfl, shr_n r 6 (by omega), cvt_int, u8_wrap, show r / 2 ^ 6 % 256 = r / 64 by omega, bin_or, or192 ⟨r / 64, by omega⟩, tail_n]
    refine row2 fun t w1 ht hx => ?_
    refine fin [192 + r / 64, 128 + r % 64] t w1 ?_ (fun x hx => by simp only [List.mem_cons, List.not_mem_nil, or_false] at hx; omega) (by simp) ht hx
    unfold wrM; rw [if_neg (by omega), if_pos (by omega)]; rfl
  refine JoinW.cut (fun s' w' => s' = [.bool (decide (r ≤ 65535))] ∧ w' = w) ?_ ?_
  · rw [bin_lss, condW_dec]
    refine ⟨fun h3 => ?_, fun h3 => ?_⟩
    · rw [decide_eq_true h3, decide_eq_true (by omega)]; exact ⟨rfl, rfl⟩
    · rw [bin_lss, decide_eq_true (show (57343 : Int) < (r : Int) by omega)]
      refine GdW.look (decide (r ≤ 65535)) (fun _ J hJ => ?_) fun g => ?_
      · rw [bin_leq]
        rw [show decide ((r : Int) ≤ 65535) = decide (r ≤ 65535) by rw [decide_eq_decide]; omega]
        exact hJ
      · exact ⟨rfl, rfl⟩
  rintro s' g w' ⟨rfl, rfl⟩
  simp only [List.getD_cons_zero]
  rw [condW_dec]
  refine ⟨fun h3 => ?_, fun h3 => ?_⟩
  · rw [show (12 : Int) = ((12 : Nat) : Int) from rfl, shr_n r 12 (by omega), cvt_int, u8_wrap, show r / 2 ^ 12 % 256 = r / 4096 by omega, bin_or, or224 ⟨r / 4096, by omega⟩, show (6 : Int) = ((6 : Nat) : Int) from rfl, shr_n r 6 (by omega), tail_n, tail_n]
    refine row3 fun t w1 ht hx => ?_
    refine fin [224 + r / 4096, 128 + r / 64 % 64, 128 + r % 64] t w1 ?_ (fun x hx => by simp only [List.mem_cons, List.not_mem_nil, or_false] at hx; omega) (by simp) ht hx
    unfold wrM; rw [if_neg (by omega), if_neg (by omega), if_pos (by omega)]; rfl
  rw [bin_gtr, decide_eq_true (show (65535 : Int) < (r : Int) by omega)]
  refine GdW.look true (fun _ J hJ => ?_) fun g => ?_
  · rw [bin_leq, decide_eq_true (show (r : Int) ≤ 1114111 by omega)]; exact hJ
  show condW (.bool true) _ _
  rw [condW_true]
  rw [show (18 : Int) = ((18 : Nat) : Int) from rfl, shr_n r 18 (by omega), cvt_int, u8_wrap, show r / 2 ^ 18 % 256 = r / 262144 by omega, bin_or, or240 ⟨r / 262144, by omega⟩, show (12 : Int) = ((12 : Nat) : Int) from rfl, shr_n r 12 (by omega), tail_n, show (6 : Int) = ((6 : Nat) : Int) from rfl, shr_n r 6 (by omega), tail_n, tail_n]
  refine row4 fun t w1 ht hx => ?_
  refine fin [240 + r / 262144, 128 + r / 4096 % 64, 128 + r / 64 % 64, 128 + r % 64] t w1 ?_ (fun x hx => by simp only [List.mem_cons, List.not_mem_nil, or_false] at hx; omega) (by simp) ht hx
  unfold wrM; rw [if_neg (by omega), if_neg (by omega), if_neg (by omega)]; rfl
theorem wrune_p {w : World} {B b r : Nat} {l : Str} {K : Value → World → Prop} (h : Bld w B b l) (hB : B ≤ w.heap.size) (hl : l.length + 4 ≤ 140737488355328) (hr : r < 55296 ∨ 57343 < r ∧ r ≤ 1114111)
    (hK : ∀ v w', Bld w' B b (l ++ wrM r) → Chg (BCh w B b) w w' → K v w') : callF Tryz.prog 155 [.pointer (some ⟨b, 0, none⟩), .int .i32 (r : Int)] w K := by
  have hb := h.base
  refine W155_ok ?_
  unfold W155
  refine check_p h fun v w1 h1 hO hz hc => ?_
  have hc1 : w1.cell? (⟨b, 0, none⟩ : Addr) |>.isSome := by rw [cell_eq, h1]; rfl
  rw [nil_ptr, fld_ptr, ld_one]
  refine ⟨v, by rw [add_mk, cell_eq, h1]; rfl, ?_⟩
  rw [lenl_at hO.sl, nil_ptr, fld_ptr, ld_one]
  refine ⟨v, by rw [add_mk, cell_eq, h1]; rfl, ?_⟩
  refine arune_p hO (by omega) hl hr fun v' w2 hO2 _ hc2 => ?_
  rw [nil_ptr, fld_ptr]
  refine bstore (n := 0) h1 hO hb hc2 hO2 fun w4 hb4 hc4 _ => ?_
  obtain ⟨p, v4, h4, _, hO4, _⟩ := id hb4
  rw [nil_ptr, fld_ptr, ld_one]
  refine ⟨v4, by rw [add_mk, cell_eq, h4]; rfl, ?_⟩
  rw [lenl_at hO4.sl, bin_sub]
  exact hK _ w4 hb4 (BCh.trans hc hc4)
end
end Go.Proofs.YtcnjpcadejcenaaGreatDoor

namespace Go.Proofs.YtcnjpcadejcenaaGreatDoor
open Go Go.Eng
set_option maxRecDepth 100000
variable [HX]
def plan127 : Plan := { js := [(49003, ⟨[122], [], 121⟩), (44005, ⟨[93], [], 90⟩), (44011, ⟨[87], [], 84⟩), (44017, ⟨[81], [], 78⟩), (44021, ⟨[75], [], 74⟩), (28, ⟨[], [4], 6⟩), (35002, ⟨[69], [], 64⟩), (35004, ⟨[68], [], 67⟩), (35007, ⟨[66], [], 64⟩), (30005, ⟨[43], [], 40⟩), (30011, ⟨[37], [], 34⟩), (30015, ⟨[31], [], 30⟩), (22005, ⟨[25], [], 22⟩), (22009, ⟨[19], [], 18⟩)], ds := [] }
def W127 (v0 v1 : Value) (w : World) (K : Value → World → Prop) : Prop :=
  callF Tryz.prog 170 [v0, v1] w fun t10 w1 =>
  binW .lss t10 (.int .i64 0) fun t12 =>
  condW t12 (
    K (.int .i64 0) w1) (
    binW .lss t10 (.int .i64 128) fun t14 =>
    condW t14 (
      K (.int .i64 1) w1) (
      binW .geq t10 (.int .i64 194) fun t16 =>
      GdW (isB t16 true) [undef] w1 (fun J2 =>
        binW .lss t10 (.int .i64 224) fun t19 =>
        J2 [t19] w1)
      fun s2 _ w3 =>
      pickW t16 (s2.getD 0 undef) (.bool false) fun t20 =>
      GdW (isB t20 true) [undef] w3 (fun J4 =>
        binW .add v1 (.int .i64 1) fun t24 =>
        callF Tryz.prog 171 [v0, t24] w3 fun t25 w5 =>
        J4 [t25] w5)
      fun s4 _ w6 =>
      pickW t20 (s4.getD 0 undef) (.bool false) fun t26 =>
      condW t26 (
        K (.int .i64 2) w6) (
        JoinW (fun J7 =>
          binW .geq t10 (.int .i64 224) fun t28 =>
          GdW (isB t28 true) [undef] w6 (fun J8 =>
            binW .lss t10 (.int .i64 240) fun t31 =>
            J8 [t31] w6)
          fun s8 _ w9 =>
          pickW t28 (s8.getD 0 undef) (.bool false) fun t32 =>
          GdW (isB t32 true) [undef] w9 (fun J10 =>
            binW .add v1 (.int .i64 1) fun t36 =>
            callF Tryz.prog 171 [v0, t36] w9 fun t37 w11 =>
            J10 [t37] w11)
          fun s10 _ w12 =>
          pickW t32 (s10.getD 0 undef) (.bool false) fun t38 =>
          GdW (isB t38 true) [undef] w12 (fun J13 =>
            binW .add v1 (.int .i64 2) fun t42 =>
            callF Tryz.prog 171 [v0, t42] w12 fun t43 w14 =>
            J13 [t43] w14)
          fun s13 _ w15 =>
          pickW t38 (s13.getD 0 undef) (.bool false) fun t44 =>
          condW t44 (
            binW .sub t10 (.int .i64 224) fun t46 =>
            binW .mul t46 (.int .i64 4096) fun t47 =>
            binW .add v1 (.int .i64 1) fun t50 =>
            callF Tryz.prog 170 [v0, t50] w15 fun t51 w16 =>
            binW .sub t51 (.int .i64 128) fun t52 =>
            binW .mul t52 (.int .i64 64) fun t53 =>
            binW .add t47 t53 fun t54 =>
            binW .add v1 (.int .i64 2) fun t57 =>
            callF Tryz.prog 170 [v0, t57] w16 fun t58 w17 =>
            binW .add t54 t58 fun t59 =>
            binW .sub t59 (.int .i64 128) fun t60 =>
            binW .geq t60 (.int .i64 2048) fun t62 =>
            GdW (isB t62 true) [undef] w17 (fun J18 =>
              binW .lss t60 (.int .i64 55296) fun t65 =>
              J18 [t65] w17)
            fun s18 _ w19 =>
            GdW (isB (s18.getD 0 undef) false) [undef] w19 (fun J20 =>
              binW .gtr t60 (.int .i64 57343) fun t68 =>
              J20 [t68] w19)
            fun s20 _ w21 =>
            GdW (isB t62 true) [undef] w21 (fun J22 =>
              pickW (s18.getD 0 undef) (.bool true) (s20.getD 0 undef) fun t69 =>
              J22 [t69] w21)
            fun s22 _ w23 =>
            pickW t62 (s22.getD 0 undef) (.bool false) fun t70 =>
            condW t70 (
              K (.int .i64 3) w23) (
              J7 [] w23)) (
            J7 [] w15))
        fun s7 _ w24 =>
        binW .geq t10 (.int .i64 240) fun t72 =>
        GdW (isB t72 true) [undef] w24 (fun J25 =>
          binW .lss t10 (.int .i64 245) fun t75 =>
          J25 [t75] w24)
        fun s25 _ w26 =>
        pickW t72 (s25.getD 0 undef) (.bool false) fun t76 =>
        GdW (isB t76 true) [undef] w26 (fun J27 =>
          binW .add v1 (.int .i64 1) fun t80 =>
          callF Tryz.prog 171 [v0, t80] w26 fun t81 w28 =>
          J27 [t81] w28)
        fun s27 _ w29 =>
        pickW t76 (s27.getD 0 undef) (.bool false) fun t82 =>
        GdW (isB t82 true) [undef] w29 (fun J30 =>
          binW .add v1 (.int .i64 2) fun t86 =>
          callF Tryz.prog 171 [v0, t86] w29 fun t87 w31 =>
          J30 [t87] w31)
        fun s30 _ w32 =>
        pickW t82 (s30.getD 0 undef) (.bool false) fun t88 =>
        GdW (isB t88 true) [undef] w32 (fun J33 =>
          binW .add v1 (.int .i64 3) fun t92 =>
          callF Tryz.prog 171 [v0, t92] w32 fun t93 w34 =>
          J33 [t93] w34)
        fun s33 _ w35 =>
        pickW t88 (s33.getD 0 undef) (.bool false) fun t94 =>
        condW t94 (
          binW .sub t10 (.int .i64 240) fun t96 =>
          binW .mul t96 (.int .i64 262144) fun t97 =>
          binW .add v1 (.int .i64 1) fun t100 =>
          callF Tryz.prog 170 [v0, t100] w35 fun t101 w36 =>
          binW .sub t101 (.int .i64 128) fun t102 =>
          binW .mul t102 (.int .i64 4096) fun t103 =>
          binW .add t97 t103 fun t104 =>
          binW .add v1 (.int .i64 2) fun t107 =>
          callF Tryz.prog 170 [v0, t107] w36 fun t108 w37 =>
          binW .sub t108 (.int .i64 128) fun t109 =>
          binW .mul t109 (.int .i64 64) fun t110 =>
          binW .add t104 t110 fun t111 =>
          binW .add v1 (.int .i64 3) fun t114 =>
          callF Tryz.prog 170 [v0, t114] w37 fun t115 w38 =>
          binW .add t111 t115 fun t116 =>
          binW .sub t116 (.int .i64 128) fun t117 =>
          binW .geq t117 (.int .i64 65536) fun t119 =>
          GdW (isB t119 true) [undef] w38 (fun J39 =>
            binW .leq t117 (.int .i64 1114111) fun t122 =>
            J39 [t122] w38)
          fun s39 _ w40 =>
          pickW t119 (s39.getD 0 undef) (.bool false) fun t123 =>
          condW t123 (
            K (.int .i64 4) w40) (
            K (.int .i64 0) w40)) (
          K (.int .i64 0) w35))))
theorem W127_eq (v0 v1 : Value) (w : World) (K : Value → World → Prop) : funW Tryz.prog Tryz.f127 plan127 [v0, v1] w K = W127 v0 v1 w K := by kernel_rfl
theorem W127_chk : chkFun Tryz.prog Tryz.f127 plan127 2 = true := by kernel_rfl
theorem W127_ok {v0 v1 : Value} {w : World} {K : Value → World → Prop} (h : W127 v0 v1 w K) : callF Tryz.prog 127 [v0, v1] w K :=
  tie Tryz.prog 127 Tryz.f127 plan127 [v0, v1] w K 2 (W127 v0 v1 w K) rfl mixed Tryz.func127 W127_chk (W127_eq v0 v1 w K) Tryz.call127 h
def plan170 : Plan := { js := [], ds := [] }
def W170 (v0 v1 : Value) (w : World) (K : Value → World → Prop) : Prop :=
  lensW v0 fun t7 =>
  binW .geq v1 t7 fun t8 =>
  condW t8 (
    K (.int .i64 (-1)) w) (
    ixsW v0 v1 fun t11 =>
    cvtW .i64 t11 fun t12 =>
    K t12 w)
theorem W170_eq (v0 v1 : Value) (w : World) (K : Value → World → Prop) : funW Tryz.prog Tryz.f170 plan170 [v0, v1] w K = W170 v0 v1 w K := by kernel_rfl
theorem W170_chk : chkFun Tryz.prog Tryz.f170 plan170 2 = true := by kernel_rfl
theorem W170_ok {v0 v1 : Value} {w : World} {K : Value → World → Prop} (h : W170 v0 v1 w K) : callF Tryz.prog 170 [v0, v1] w K :=
  tie Tryz.prog 170 Tryz.f170 plan170 [v0, v1] w K 2 (W170 v0 v1 w K) rfl mixed Tryz.func170 W170_chk (W170_eq v0 v1 w K) Tryz.call170 h
def plan171 : Plan := { js := [(3006, ⟨[13], [], 10⟩)], ds := [] }
def W171 (v0 v1 : Value) (w : World) (K : Value → World → Prop) : Prop :=
  callF Tryz.prog 170 [v0, v1] w fun t7 w1 =>
  binW .geq t7 (.int .i64 128) fun t8 =>
  GdW (isB t8 true) [undef] w1 (fun J2 =>
    callF Tryz.prog 170 [v0, v1] w1 fun t12 w3 =>
    binW .lss t12 (.int .i64 192) fun t13 =>
    J2 [t13] w3)
  fun s2 _ w4 =>
  pickW t8 (s2.getD 0 undef) (.bool false) fun t14 =>
  K t14 w4
theorem W171_eq (v0 v1 : Value) (w : World) (K : Value → World → Prop) : funW Tryz.prog Tryz.f171 plan171 [v0, v1] w K = W171 v0 v1 w K := by kernel_rfl
theorem W171_chk : chkFun Tryz.prog Tryz.f171 plan171 2 = true := by kernel_rfl
theorem W171_ok {v0 v1 : Value} {w : World} {K : Value → World → Prop} (h : W171 v0 v1 w K) : callF Tryz.prog 171 [v0, v1] w K :=
  tie Tryz.prog 171 Tryz.f171 plan171 [v0, v1] w K 2 (W171 v0 v1 w K) rfl mixed Tryz.func171 W171_chk (W171_eq v0 v1 w K) Tryz.call171 h
def plan72 : Plan := { js := [], ds := [] }
def W72 (v0 v1 : Value) (w : World) (K : Value → World → Prop) : Prop :=
  callF Tryz.prog 133 [v0, v1] w fun t9 w1 =>
  extW 0 t9 fun t10 =>
  extW 1 t9 fun t11 =>
  extW 2 t9 fun t12 =>
  K (.tuple #[t10, t11, t12]) w1
theorem W72_eq (v0 v1 : Value) (w : World) (K : Value → World → Prop) : funW Tryz.prog Tryz.f72 plan72 [v0, v1] w K = W72 v0 v1 w K := by kernel_rfl
theorem W72_chk : chkFun Tryz.prog Tryz.f72 plan72 2 = true := by kernel_rfl
theorem W72_ok {v0 v1 : Value} {w : World} {K : Value → World → Prop} (h : W72 v0 v1 w K) : callF Tryz.prog 72 [v0, v1] w K :=
  tie Tryz.prog 72 Tryz.f72 plan72 [v0, v1] w K 2 (W72 v0 v1 w K) rfl mixed Tryz.func72 W72_chk (W72_eq v0 v1 w K) Tryz.call72 h
def plan133 : Plan := { js := [], ds := [(9, ⟨[0, 1, 2, 3, 4, 5, 6, 7, 8, 9, 10, 11], [[], [], [0, 1], [], [], [], [5], [4, 5, 6], [3, 4, 5, 6, 7], [0, 1, 2], [0, 1, 2, 3, 4, 5, 6, 7, 8, 9], [0, 1, 2, 3, 4, 5, 6, 7, 8, 9, 10]]⟩)] }
def W133 (v0 v1 : Value) (w : World) (K : Value → World → Prop) : Prop :=
  callF Tryz.prog 173 [v0, v1] w fun t10 w1 =>
  binW .geq t10 (.int .i64 0) fun t12 =>
  condW t12 (
    slsW v0 none (some t10) fun t15 =>
    lensW v1 fun t19 =>
    binW .add t10 t19 fun t20 =>
    slsW v0 (some t20) none fun t21 =>
    K (.tuple #[t15, t21, (.bool true)]) w1.drew) (
    K (.tuple #[v0, (.string (ofL [])), (.bool false)]) w1)
theorem W133_eq (v0 v1 : Value) (w : World) (K : Value → World → Prop) : funW Tryz.prog Tryz.f133 plan133 [v0, v1] w K = W133 v0 v1 w K := by kernel_rfl
theorem W133_chk : chkFun Tryz.prog Tryz.f133 plan133 2 = true := by kernel_rfl
theorem W133_ok {v0 v1 : Value} {w : World} {K : Value → World → Prop} (h : W133 v0 v1 w K) : callF Tryz.prog 133 [v0, v1] w K :=
  tie Tryz.prog 133 Tryz.f133 plan133 [v0, v1] w K 2 (W133 v0 v1 w K) rfl mixed Tryz.func133 W133_chk (W133_eq v0 v1 w K) Tryz.call133 h
def plan173 : Plan := { js := [(96004, ⟨[131], [], 129⟩), (96011, ⟨[126], [], 122⟩), (80005, ⟨[106], [], 103⟩), (69009, ⟨[92], [], 85⟩), (51, ⟨[8], [4, 8], 11⟩), (43, ⟨[8, 10], [4, 8], 10⟩), (25005, ⟨[43], [], 41⟩), (7005, ⟨[22], [], 20⟩)], ds := [] }
def W173 (v0 v1 : Value) (w : World) (K : Value → World → Prop) : Prop :=
  lensW v1 fun t15 =>
  binW .eql t15 (.int .i64 0) fun t18 =>
  GdW (isB t18 false) [undef] w (fun J1 =>
    binW .eql v1 v0 fun t22 =>
    J1 [t22] w)
  fun s1 _ w2 =>
  pickW t18 (.bool true) (s1.getD 0 undef) fun t23 =>
  condW t23 (
    K (.int .i64 0) w2) (
    binW .eql t15 (.int .i64 1) fun t26 =>
    condW t26 (
      ixsW v1 (.int .i64 0) fun t29 =>
      callF Tryz.prog 141 [v0, t29] w2 fun t30 w3 =>
      K t30 w3) (
      lensW v0 fun t34 =>
      binW .geq t15 t34 fun t35 =>
      condW t35 (
        K (.int .i64 (-1)) w2) (
        ldW false 1 (.pointer (some ⟨2, 0, none⟩)) w2 fun t38 =>
        binW .leq t15 t38 fun t39 =>
        GdW (isB t39 true) [undef] w2 (fun J4 =>
          lensW v0 fun t42 =>
          binW .leq t42 (.int .i64 64) fun t43 =>
          J4 [t43] w2)
        fun s4 _ w5 =>
        pickW t39 (s4.getD 0 undef) (.bool false) fun t44 =>
        condW t44 (
          callF Tryz.prog 200 [v0, v1] w5 fun t47 w6 =>
          K t47 w6) (
          ixsW v1 (.int .i64 0) fun t49 =>
          ixsW v1 (.int .i64 1) fun t51 =>
          lensW v0 fun t53 =>
          binW .sub t53 t15 fun t55 =>
          binW .add t55 (.int .i64 1) fun t56 =>
          LoopW [(.int .i64 0), (.int .i64 0)] w5 fun s7 _ w8 L7 =>
            binW .lss (s7.getD 0 undef) t56 fun t59 =>
            condW t59 (
              JoinW (fun J9 =>
                ixsW v0 (s7.getD 0 undef) fun t62 =>
                binW .neq t62 t49 fun t64 =>
                condW t64 (
                  binW .add (s7.getD 0 undef) (.int .i64 1) fun t67 =>
                  slsW v0 (some t67) (some t56) fun t69 =>
                  callF Tryz.prog 141 [t69, t49] w8 fun t71 w10 =>
                  binW .lss t71 (.int .i64 0) fun t73 =>
                  condW t73 (
                    K (.int .i64 (-1)) w10) (
                    binW .add t71 (.int .i64 1) fun t76 =>
                    binW .add (s7.getD 0 undef) t76 fun t77 =>
                    J9 [t77] w10)) (
                  J9 [(s7.getD 0 undef)] w8))
              fun s9 _ w11 =>
              binW .add (s9.getD 0 undef) (.int .i64 1) fun t80 =>
              ixsW v0 t80 fun t81 =>
              binW .eql t81 t51 fun t83 =>
              GdW (isB t83 true) [undef] w11 (fun J12 =>
                binW .add (s9.getD 0 undef) t15 fun t89 =>
                slsW v0 (some (s9.getD 0 undef)) (some t89) fun t90 =>
                binW .eql t90 v1 fun t92 =>
                J12 [t92] w11)
              fun s12 _ w13 =>
              pickW t83 (s12.getD 0 undef) (.bool false) fun t93 =>
              condW t93 (
                K (s9.getD 0 undef) w13) (
                binW .add (s9.getD 0 undef) (.int .i64 1) fun t96 =>
                binW .add (s7.getD 1 undef) (.int .i64 1) fun t98 =>
                ldW false 1 (.pointer (some ⟨2, 0, none⟩)) w13 fun t100 =>
                binW .leq t15 t100 fun t101 =>
                GdW (isB t101 true) [undef] w13 (fun J14 =>
                  callF Tryz.prog 201 [t96] w13 fun t105 w15 =>
                  binW .gtr t98 t105 fun t106 =>
                  J14 [t106] w15)
                fun s14 _ w16 =>
                pickW t101 (s14.getD 0 undef) (.bool false) fun t107 =>
                condW t107 (
                  slsW v0 (some t96) none fun t110 =>
                  callF Tryz.prog 200 [t110, v1] w16 fun t112 w17 =>
                  binW .geq t112 (.int .i64 0) fun t114 =>
                  condW t114 (
                    binW .add t112 t96 fun t117 =>
                    K t117 w17) (
                    K (.int .i64 (-1)) w17)) (
                  ldW false 1 (.pointer (some ⟨2, 0, none⟩)) w16 fun t119 =>
                  binW .gtr t15 t119 fun t120 =>
                  GdW (isB t120 true) [undef] w16 (fun J18 =>
                    binW .shr t96 (.int .u64 4) fun t124 =>
                    binW .add (.int .i64 4) t124 fun t125 =>
                    binW .geq t98 t125 fun t126 =>
                    J18 [t126] w16)
                  fun s18 _ w19 =>
                  pickW t120 (s18.getD 0 undef) (.bool false) fun t127 =>
                  GdW (isB t127 true) [undef] w19 (fun J20 =>
                    binW .lss t96 t56 fun t131 =>
                    J20 [t131] w19)
                  fun s20 _ w21 =>
                  pickW t127 (s20.getD 0 undef) (.bool false) fun t132 =>
                  condW t132 (
                    slsW v0 (some t96) none fun t135 =>
                    callF Tryz.prog 202 [t135, v1] w21 fun t137 w22 =>
                    binW .lss t137 (.int .i64 0) fun t139 =>
                    condW t139 (
                      K (.int .i64 (-1)) w22) (
                      binW .add t96 t137 fun t142 =>
                      K t142 w22)) (
                    L7 [t96, t98] w21)))) (
              K (.int .i64 (-1)) w8)))))
theorem W173_eq (v0 v1 : Value) (w : World) (K : Value → World → Prop) : funW Tryz.prog Tryz.f173 plan173 [v0, v1] w K = W173 v0 v1 w K := by kernel_rfl
theorem W173_chk : chkFun Tryz.prog Tryz.f173 plan173 2 = true := by kernel_rfl
theorem W173_ok {v0 v1 : Value} {w : World} {K : Value → World → Prop} (h : W173 v0 v1 w K) : callF Tryz.prog 173 [v0, v1] w K :=
  tie Tryz.prog 173 Tryz.f173 plan173 [v0, v1] w K 2 (W173 v0 v1 w K) rfl mixed Tryz.func173 W173_chk (W173_eq v0 v1 w K) Tryz.call173 h
end Go.Proofs.YtcnjpcadejcenaaGreatDoor
namespace Go.Proofs.YtcnjpcadejcenaaGreatDoor
open Go Go.Eng
set_option maxRecDepth 100000
section
variable [HX]
theorem byteM_lo (s : Str) (i : Nat) : -1 ≤ byteM s i ∧ byteM s i ≤ 255 := by
  rcases Nat.lt_or_ge i s.length with h | h
  · rw [byteM_in h]; have := bt_lt s i; omega
  · rw [byteM_out h]; omega
theorem one_ref {s : Str} {i : Nat} {w : World} {K : Value → World → Prop} (hl : s.length ≤ 4611686018427387904) (hK : K (i64 (byteM s i)) w) : callF Tryz.prog 170 [str s, i64 (i : Int)] w K := by
  refine W170_ok ?_
  unfold W170
  rw [lens_str, bin_geq]
  rcases Nat.lt_or_ge i s.length with h | h
  · rw [decide_eq_false (by omega), condW_false, ixs_str]
    refine ⟨by omega, s[i], by simp [h], ?_⟩
    rw [cvt_int]
    have e : byteM s i = (s[i].toNat : Int) := by
      rw [byteM_in h]; unfold bt
      rw [List.getD_eq_getElem?_getD, List.getElem?_eq_getElem h]; rfl
    rw [e] at hK
    have := UInt8.toNat_lt s[i]
    rw [wrap_id (by omega) (by omega)]
    exact hK
  · rw [decide_eq_true (by omega), condW_true]
    rw [byteM_out h] at hK
    exact hK
theorem more_ref {s : Str} {i : Nat} {w : World} {K : Value → World → Prop} (hl : s.length ≤ 4611686018427387904) (hK : K (.bool (moreM s i)) w) : callF Tryz.prog 171 [str s, i64 (i : Int)] w K := by
  refine W171_ok ?_
  unfold W171
  refine one_ref hl ?_
  rw [bin_geq]
  refine GdW.look (decide (byteM s i < 192)) (fun _ J hJ => ?_) fun g => ?_
  · refine one_ref hl ?_
    rw [bin_lss]
    exact hJ
  · simp only [wsv, wsg, wsh, wsl, cond_true, cond_false, exists_eq_left', Option.some.injEq, Option.isSome_some, List.getElem?_toArray, List.getElem?_cons_zero, List.getElem?_cons_succ, List.length_cons, List.length_nil, List.set_cons_zero, List.set_cons_succ, List.getD_cons_zero, List.getD_cons_succ, Nat.zero_add, Nat.add_zero, Nat.reduceAdd, Nat.reduceLT, Nat.lt_add_one, Nat.zero_lt_succ, decide_true, decide_false, ne_eq, reduceCtorEq]
    exact hK
theorem add1 {i k : Nat} (h : i ≤ 4611686018427387904) (hk : k ≤ 10) : IntKind.i64.wrap ((i : Int) + (k : Nat)) = ((i + k : Nat) : Int) := by rw [wrap_id (by omega) (by omega)]; omega
theorem rune_ref {s : Str} {i : Nat} {w : World} {K : Value → World → Prop} (hl : s.length ≤ 4611686018427387904) (hi : i ≤ 4611686018427387904) (hK : K (i64 (runeM s i)) w) : callF Tryz.prog 127 [str s, i64 (i : Int)] w K := by
  have b0 := byteM_lo s i
  have b1 := byteM_lo s (i + 1)
  have b2 := byteM_lo s (i + 2)
  have b3 := byteM_lo s (i + 3)
  have a1 : IntKind.i64.wrap ((i : Int) + 1) = ((i + 1 : Nat) : Int) := add1 (k := 1) hi (by omega)
  have a2 : IntKind.i64.wrap ((i : Int) + 2) = ((i + 2 : Nat) : Int) := add1 (k := 2) hi (by omega)
  have a3 : IntKind.i64.wrap ((i : Int) + 3) = ((i + 3 : Nat) : Int) := add1 (k := 3) hi (by omega)
  refine W127_ok ?_
  unfold W127
  refine one_ref hl ?_
  unfold runeM at hK
  dsimp only at hK
  rw [bin_lss, condW_dec]
  refine ⟨fun c0 => by rw [if_pos c0] at hK; exact hK, fun c0 => ?_⟩
  rw [if_neg c0] at hK
  rw [bin_lss, condW_dec]
  refine ⟨fun c1 => by rw [if_pos c1] at hK; exact hK, fun c1 => ?_⟩
  rw [if_neg c1] at hK
  simp only [wsv, wsg, wsh, wsl, cond_true, cond_false, exists_eq_left', Option.some.injEq, Option.isSome_some, List.getElem?_toArray, List.getElem?_cons_zero, List.getElem?_cons_succ, List.length_cons, List.length_nil, List.set_cons_zero, List.set_cons_succ, List.getD_cons_zero, List.getD_cons_succ, Nat.zero_add, Nat.add_zero, Nat.reduceAdd, Nat.reduceLT, Nat.lt_add_one, Nat.zero_lt_succ, decide_true, decide_false, ne_eq, reduceCtorEq]
  intros
  refine GdW.look (moreM s (i + 1)) (fun _ J hJ => ?_) fun g => ?_
  · rw [a1]; exact more_ref hl hJ
  simp only [wsv, wsg, wsh, wsl, cond_true, cond_false, exists_eq_left', Option.some.injEq, Option.isSome_some, List.getElem?_toArray, List.getElem?_cons_zero, List.getElem?_cons_succ, List.length_cons, List.length_nil, List.set_cons_zero, List.set_cons_succ, List.getD_cons_zero, List.getD_cons_succ, Nat.zero_add, Nat.add_zero, Nat.reduceAdd, Nat.reduceLT, Nat.lt_add_one, Nat.zero_lt_succ, decide_true, decide_false, ne_eq, reduceCtorEq]
  rw [condW_b]
  refine ⟨fun c2 => ?_, fun c2 => ?_⟩
  · simp only [Bool.and_eq_true, decide_eq_true_eq] at c2
    rw [if_pos ⟨c2.1.1, c2.1.2, c2.2⟩] at hK
    exact hK
  have c2' : ¬ (194 ≤ byteM s i ∧ byteM s i < 224 ∧ moreM s (i + 1) = true) := fun h => by
    rw [decide_eq_true h.1, decide_eq_true h.2.1, h.2.2] at c2; cases c2
  rw [if_neg c2'] at hK
  have four : (¬ (224 ≤ byteM s i ∧ byteM s i < 240 ∧ moreM s (i + 1) = true ∧ moreM s (i + 2) = true ∧
    2048 ≤ (byteM s i - 224) * 4096 + (byteM s (i + 1) - 128) * 64 + byteM s (i + 2) - 128 ∧ ((byteM s i - 224) * 4096 + (byteM s (i + 1) - 128) * 64 + byteM s (i + 2) - 128 < 55296 ∨ 57343 < (byteM s i - 224) * 4096 + (byteM s (i + 1) - 128) * 64 + byteM s (i + 2) - 128))) → K (.int .i64 (if 240 ≤ byteM s i ∧ byteM s i < 245 ∧ moreM s (i + 1) = true ∧ moreM s (i + 2) = true ∧ moreM s (i + 3) = true ∧
    65536 ≤ (byteM s i - 240) * 262144 + (byteM s (i + 1) - 128) * 4096 + (byteM s (i + 2) - 128) * 64 + byteM s (i + 3) - 128 ∧ (byteM s i - 240) * 262144 + (byteM s (i + 1) - 128) * 4096 + (byteM s (i + 2) - 128) * 64 + byteM s (i + 3) - 128 ≤ 1114111 then 4 else 0 : Nat)) w := fun h => by
    rw [if_neg h] at hK; exact hK
  refine JoinW.cut (fun s' w' => s' = [] ∧ w' = w ∧ (¬ (224 ≤ byteM s i ∧ byteM s i < 240 ∧ moreM s (i + 1) = true ∧ moreM s (i + 2) = true ∧
    2048 ≤ (byteM s i - 224) * 4096 + (byteM s (i + 1) - 128) * 64 + byteM s (i + 2) - 128 ∧ ((byteM s i - 224) * 4096 + (byteM s (i + 1) - 128) * 64 + byteM s (i + 2) - 128 < 55296 ∨ 57343 < (byteM s i - 224) * 4096 + (byteM s (i + 1) - 128) * 64 + byteM s (i + 2) - 128)))) ?_ ?_
  · simp only [wsv, wsg, wsh, wsl, cond_true, cond_false, exists_eq_left', Option.some.injEq, Option.isSome_some, List.getElem?_toArray, List.getElem?_cons_zero, List.getElem?_cons_succ, List.length_cons, List.length_nil, List.set_cons_zero, List.set_cons_succ, List.getD_cons_zero, List.getD_cons_succ, Nat.zero_add, Nat.add_zero, Nat.reduceAdd, Nat.reduceLT, Nat.lt_add_one, Nat.zero_lt_succ, decide_true, decide_false, ne_eq, reduceCtorEq]
    intros
    refine GdW.look (moreM s (i + 1)) (fun _ J hJ => ?_) fun g => ?_
    · rw [a1]; exact more_ref hl hJ
    simp only [wsv, wsg, wsh, wsl, cond_true, cond_false, exists_eq_left', Option.some.injEq, Option.isSome_some, List.getElem?_toArray, List.getElem?_cons_zero, List.getElem?_cons_succ, List.length_cons, List.length_nil, List.set_cons_zero, List.set_cons_succ, List.getD_cons_zero, List.getD_cons_succ, Nat.zero_add, Nat.add_zero, Nat.reduceAdd, Nat.reduceLT, Nat.lt_add_one, Nat.zero_lt_succ, decide_true, decide_false, ne_eq, reduceCtorEq]
    refine GdW.look (moreM s (i + 2)) (fun _ J hJ => ?_) fun g => ?_
    · rw [a2]; exact more_ref hl hJ
    simp only [wsv, wsg, wsh, wsl, cond_true, cond_false, exists_eq_left', Option.some.injEq, Option.isSome_some, List.getElem?_toArray, List.getElem?_cons_zero, List.getElem?_cons_succ, List.length_cons, List.length_nil, List.set_cons_zero, List.set_cons_succ, List.getD_cons_zero, List.getD_cons_succ, Nat.zero_add, Nat.add_zero, Nat.reduceAdd, Nat.reduceLT, Nat.lt_add_one, Nat.zero_lt_succ, decide_true, decide_false, ne_eq, reduceCtorEq]
    rw [condW_b]
    refine ⟨fun c3 => ?_, fun c3 h => ?_⟩
    · simp only [Bool.and_eq_true, decide_eq_true_eq] at c3
      obtain ⟨⟨⟨d1, d2⟩, d3⟩, d4⟩ := c3
      rw [a1]
      refine one_ref hl ?_
      simp only [wsv, wsg, wsh, wsl, cond_true, cond_false, exists_eq_left', Option.some.injEq, Option.isSome_some, List.getElem?_toArray, List.getElem?_cons_zero, List.getElem?_cons_succ, List.length_cons, List.length_nil, List.set_cons_zero, List.set_cons_succ, List.getD_cons_zero, List.getD_cons_succ, Nat.zero_add, Nat.add_zero, Nat.reduceAdd, Nat.reduceLT, Nat.lt_add_one, Nat.zero_lt_succ, decide_true, decide_false, ne_eq, reduceCtorEq]
      rw [a2]
      refine one_ref hl ?_
      simp only [wsv, wsg, wsh, wsl, cond_true, cond_false, exists_eq_left', Option.some.injEq, Option.isSome_some, List.getElem?_toArray, List.getElem?_cons_zero, List.getElem?_cons_succ, List.length_cons, List.length_nil, List.set_cons_zero, List.set_cons_succ, List.getD_cons_zero, List.getD_cons_succ, Nat.zero_add, Nat.add_zero, Nat.reduceAdd, Nat.reduceLT, Nat.lt_add_one, Nat.zero_lt_succ, decide_true, decide_false, ne_eq, reduceCtorEq]
      have e1 : IntKind.i64.wrap (byteM s i - 224) = byteM s i - 224 := wrap_id (by omega) (by omega)
      have e2 : IntKind.i64.wrap ((byteM s i - 224) * 4096) = (byteM s i - 224) * 4096 := wrap_id (by omega) (by omega)
      have e3 : IntKind.i64.wrap (byteM s (i + 1) - 128) = byteM s (i + 1) - 128 := wrap_id (by omega) (by omega)
      have e4 : IntKind.i64.wrap ((byteM s (i + 1) - 128) * 64) = (byteM s (i + 1) - 128) * 64 := wrap_id (by omega) (by omega)
      have e5 : IntKind.i64.wrap ((byteM s i - 224) * 4096 + (byteM s (i + 1) - 128) * 64) = (byteM s i - 224) * 4096 + (byteM s (i + 1) - 128) * 64 := wrap_id (by omega) (by omega)
      have e6 : IntKind.i64.wrap ((byteM s i - 224) * 4096 + (byteM s (i + 1) - 128) * 64 + byteM s (i + 2)) = (byteM s i - 224) * 4096 + (byteM s (i + 1) - 128) * 64 + byteM s (i + 2) := wrap_id (by omega) (by omega)
      have e7 : IntKind.i64.wrap ((byteM s i - 224) * 4096 + (byteM s (i + 1) - 128) * 64 + byteM s (i + 2) - 128) = (byteM s i - 224) * 4096 + (byteM s (i + 1) - 128) * 64 + byteM s (i + 2) - 128 := wrap_id (by omega) (by omega)
      simp only [e1, e2, e3, e4, e5, e6, e7]
      intro _ _ _
      rw [condW_b]
      refine ⟨fun c4 => ?_, fun c4 h => ?_⟩
      · simp only [Bool.and_eq_true, Bool.or_eq_true, decide_eq_true_eq] at c4
        rw [if_pos ⟨d1, d2, d3, d4, c4.1, c4.2⟩] at hK
        exact hK
      · have : (decide (2048 ≤ (byteM s i - 224) * 4096 + (byteM s (i + 1) - 128) * 64 + byteM s (i + 2) - 128) && (decide ((byteM s i - 224) * 4096 + (byteM s (i + 1) - 128) * 64 + byteM s (i + 2) - 128 < 55296) || decide (57343 < (byteM s i - 224) * 4096 + (byteM s (i + 1) - 128) * 64 + byteM s (i + 2) - 128))) = true := by
          simp only [Bool.and_eq_true, Bool.or_eq_true, decide_eq_true_eq]
          exact h.2.2.2.2
        rw [c4] at this; cases this
    · rw [decide_eq_true h.1, decide_eq_true h.2.1, h.2.2.1, h.2.2.2.1] at c3; cases c3
  · rintro s' g w' ⟨rfl, rfl, hno⟩
    have hK := four hno
    intro g2
    refine GdW.look (moreM s (i + 1)) (fun _ J hJ => ?_) fun g => ?_
    · rw [a1]; exact more_ref hl hJ
    simp only [wsv, wsg, wsh, wsl, cond_true, cond_false, exists_eq_left', Option.some.injEq, Option.isSome_some, List.getElem?_toArray, List.getElem?_cons_zero, List.getElem?_cons_succ, List.length_cons, List.length_nil, List.set_cons_zero, List.set_cons_succ, List.getD_cons_zero, List.getD_cons_succ, Nat.zero_add, Nat.add_zero, Nat.reduceAdd, Nat.reduceLT, Nat.lt_add_one, Nat.zero_lt_succ, decide_true, decide_false, ne_eq, reduceCtorEq]
    refine GdW.look (moreM s (i + 2)) (fun _ J hJ => ?_) fun g => ?_
    · rw [a2]; exact more_ref hl hJ
    simp only [wsv, wsg, wsh, wsl, cond_true, cond_false, exists_eq_left', Option.some.injEq, Option.isSome_some, List.getElem?_toArray, List.getElem?_cons_zero, List.getElem?_cons_succ, List.length_cons, List.length_nil, List.set_cons_zero, List.set_cons_succ, List.getD_cons_zero, List.getD_cons_succ, Nat.zero_add, Nat.add_zero, Nat.reduceAdd, Nat.reduceLT, Nat.lt_add_one, Nat.zero_lt_succ, decide_true, decide_false, ne_eq, reduceCtorEq]
    refine GdW.look (moreM s (i + 3)) (fun _ J hJ => ?_) fun g => ?_
    · rw [a3]; exact more_ref hl hJ
    simp only [wsv, wsg, wsh, wsl, cond_true, cond_false, exists_eq_left', Option.some.injEq, Option.isSome_some, List.getElem?_toArray, List.getElem?_cons_zero, List.getElem?_cons_succ, List.length_cons, List.length_nil, List.set_cons_zero, List.set_cons_succ, List.getD_cons_zero, List.getD_cons_succ, Nat.zero_add, Nat.add_zero, Nat.reduceAdd, Nat.reduceLT, Nat.lt_add_one, Nat.zero_lt_succ, decide_true, decide_false, ne_eq, reduceCtorEq]
    rw [condW_b]
    refine ⟨fun c3 => ?_, fun c3 => ?_⟩
    · simp only [Bool.and_eq_true, decide_eq_true_eq] at c3
      obtain ⟨⟨⟨⟨d1, d2⟩, d3⟩, d4⟩, d5⟩ := c3
      rw [a1]
      refine one_ref hl ?_
      simp only [wsv, wsg, wsh, wsl, cond_true, cond_false, exists_eq_left', Option.some.injEq, Option.isSome_some, List.getElem?_toArray, List.getElem?_cons_zero, List.getElem?_cons_succ, List.length_cons, List.length_nil, List.set_cons_zero, List.set_cons_succ, List.getD_cons_zero, List.getD_cons_succ, Nat.zero_add, Nat.add_zero, Nat.reduceAdd, Nat.reduceLT, Nat.lt_add_one, Nat.zero_lt_succ, decide_true, decide_false, ne_eq, reduceCtorEq]
      rw [a2]
      refine one_ref hl ?_
      simp only [wsv, wsg, wsh, wsl, cond_true, cond_false, exists_eq_left', Option.some.injEq, Option.isSome_some, List.getElem?_toArray, List.getElem?_cons_zero, List.getElem?_cons_succ, List.length_cons, List.length_nil, List.set_cons_zero, List.set_cons_succ, List.getD_cons_zero, List.getD_cons_succ, Nat.zero_add, Nat.add_zero, Nat.reduceAdd, Nat.reduceLT, Nat.lt_add_one, Nat.zero_lt_succ, decide_true, decide_false, ne_eq, reduceCtorEq]
      rw [a3]
      refine one_ref hl ?_
      simp only [wsv, wsg, wsh, wsl, cond_true, cond_false, exists_eq_left', Option.some.injEq, Option.isSome_some, List.getElem?_toArray, List.getElem?_cons_zero, List.getElem?_cons_succ, List.length_cons, List.length_nil, List.set_cons_zero, List.set_cons_succ, List.getD_cons_zero, List.getD_cons_succ, Nat.zero_add, Nat.add_zero, Nat.reduceAdd, Nat.reduceLT, Nat.lt_add_one, Nat.zero_lt_succ, decide_true, decide_false, ne_eq, reduceCtorEq]
      have e1 : IntKind.i64.wrap (byteM s i - 240) = byteM s i - 240 := wrap_id (by omega) (by omega)
      have e2 : IntKind.i64.wrap ((byteM s i - 240) * 262144) = (byteM s i - 240) * 262144 := wrap_id (by omega) (by omega)
      have e3 : IntKind.i64.wrap (byteM s (i + 1) - 128) = byteM s (i + 1) - 128 := wrap_id (by omega) (by omega)
      have e4 : IntKind.i64.wrap ((byteM s (i + 1) - 128) * 4096) = (byteM s (i + 1) - 128) * 4096 := wrap_id (by omega) (by omega)
      have e5 : IntKind.i64.wrap ((byteM s i - 240) * 262144 + (byteM s (i + 1) - 128) * 4096) = (byteM s i - 240) * 262144 + (byteM s (i + 1) - 128) * 4096 := wrap_id (by omega) (by omega)
      have e6 : IntKind.i64.wrap (byteM s (i + 2) - 128) = byteM s (i + 2) - 128 := wrap_id (by omega) (by omega)
      have e7 : IntKind.i64.wrap ((byteM s (i + 2) - 128) * 64) = (byteM s (i + 2) - 128) * 64 := wrap_id (by omega) (by omega)
      have e8 : IntKind.i64.wrap ((byteM s i - 240) * 262144 + (byteM s (i + 1) - 128) * 4096 + (byteM s (i + 2) - 128) * 64) = (byteM s i - 240) * 262144 + (byteM s (i + 1) - 128) * 4096 + (byteM s (i + 2) - 128) * 64 := wrap_id (by omega) (by omega)
      have e9 : IntKind.i64.wrap ((byteM s i - 240) * 262144 + (byteM s (i + 1) - 128) * 4096 + (byteM s (i + 2) - 128) * 64 + byteM s (i + 3)) = (byteM s i - 240) * 262144 + (byteM s (i + 1) - 128) * 4096 + (byteM s (i + 2) - 128) * 64 + byteM s (i + 3) := wrap_id (by omega) (by omega)
      have e10 : IntKind.i64.wrap ((byteM s i - 240) * 262144 + (byteM s (i + 1) - 128) * 4096 + (byteM s (i + 2) - 128) * 64 + byteM s (i + 3) - 128) = (byteM s i - 240) * 262144 + (byteM s (i + 1) - 128) * 4096 + (byteM s (i + 2) - 128) * 64 + byteM s (i + 3) - 128 := wrap_id (by omega) (by omega)
      simp only [e1, e2, e3, e4, e5, e6, e7, e8, e9, e10]
      intro _
      rw [condW_b]
      refine ⟨fun c4 => ?_, fun c4 => ?_⟩
      · simp only [Bool.and_eq_true, decide_eq_true_eq] at c4
        rw [if_pos ⟨d1, d2, d3, d4, d5, c4.1, c4.2⟩] at hK
        exact hK
      · rw [if_neg (fun h => by rw [decide_eq_true h.2.2.2.2.2.1, decide_eq_true h.2.2.2.2.2.2] at c4; cases c4)] at hK
        exact hK
    · rw [if_neg (fun h => by rw [decide_eq_true h.1, decide_eq_true h.2.1, h.2.2.1, h.2.2.2.1, h.2.2.2.2.1] at c3; cases c3)] at hK
      exact hK
end
end Go.Proofs.YtcnjpcadejcenaaGreatDoor

namespace Go.Proofs.YtcnjpcadejcenaaGreatDoor
open Go Go.Eng Go.RowKit
set_option maxRecDepth 100000
section
variable [HX]
theorem range_str {l : Str} {w : World} {K : Value → World → Prop} (hK : K (.pointer (some ⟨w.heap.size, 0, none⟩)) (w.alloc (.stringIter (ofL l) 0))) : semE Tryz.prog (Instr.range 9 (str l)) w K := by
  have hT : Tryz.prog.underlying 9 = some .string := by kernel_rfl
  have hr : (Instr.range 9 (str l)).run Tryz.prog w = .ok (.pointer (some ⟨w.heap.size, 0, none⟩)) (w.alloc (.stringIter (ofL l) 0)) := by
    simp [Instr.range, run_bind, run_underlying' hT, run_pure, newObj, Sem.run]
  unfold semE
  rw [hr]
  exact hK
theorem setObj_chg' {w : World} {r : Nat} {o : Obj} (h : r < w.heap.size) : Chg (· = r) w { w with heap := w.heap.setIfInBounds r o } :=
  ⟨rfl, rfl, rfl, by simp, fun k _ hk => by
    show (w.heap.setIfInBounds r o)[k]? = _
    rw [Array.getElem?_setIfInBounds_ne (by omega)]⟩
theorem next_str {r pos : Nat} {l : Str} {T : TypeId} {w : World} {K : Value → World → Prop} (hw : w.heap[r]? = some (.stringIter (ofL l) pos))
    (h0 : l.length ≤ pos → K (.tuple #[.bool false]) w)
    (h1 : pos < l.length → ∀ w', w'.heap[r]? = some (.stringIter (ofL l) (pos + (Utf8.decode (ofL l) pos).2)) → Chg (· = r) w w' → w'.heap.size = w.heap.size → K (.tuple #[.bool true, i64 pos, .int .i32 (Utf8.decode (ofL l) pos).1]) w') :
    semE Tryz.prog (Instr.next (.pointer (some ⟨r, 0, none⟩)) true T) w K := by
  have hg : (getObj r).run Tryz.prog w = .ok (.stringIter (ofL l) pos) w := by simp [getObj, Sem.run, hw]
  have hlt : r < w.heap.size := (Array.getElem?_eq_some_iff.1 hw).1
  unfold semE
  simp only [Instr.next, run_bind, hg, ofL_size]
  by_cases hp : pos < l.length
  · have hset : (setObj r (.stringIter (ofL l) (pos + (Utf8.decode (ofL l) pos).2))).run Tryz.prog w = .ok () { w with heap := w.heap.setIfInBounds r (.stringIter (ofL l) (pos + (Utf8.decode (ofL l) pos).2)) } := by simp [setObj, Sem.run, hw]
    rw [if_pos hp]
    simp only [run_bind, hset, run_pure]
    exact h1 hp _ (by simp [hlt]) (setObj_chg' hlt) (by simp)
  · rw [if_neg hp]
    simp only [run_pure]
    exact h0 (by omega)
end
end Go.Proofs.YtcnjpcadejcenaaGreatDoor
