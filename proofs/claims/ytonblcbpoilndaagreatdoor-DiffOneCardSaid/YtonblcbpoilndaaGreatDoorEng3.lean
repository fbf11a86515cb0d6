/- One plain sentence: each operation of Go's text does what its weakest precondition says. Conditions: none. -/
import Derived.Test.YtonblcbpoilndaaGreatDoorEng2
set_option linter.all false
set_option linter.unusedSimpArgs false
set_option linter.unusedVariables false
set_option linter.unusedSectionVars false
namespace Go.Eng
open Go

theorem evl_map (f : Fr) (a : Array Operand) : a.map (ev f) = (evl f a).toArray := by apply Array.ext'; simp [evl]
theorem run_pure_fn {P : Program} {fn : Fn} {a b : Array Value} {w : World} : (Instr.makeFunc fn a b).run P w = .ok (.func fn a b) w := rfl

theorem build_run {P : Program} {T : TypeId} {f : Fr} {parts : Array (Nat × Operand)} {K : Value → Prop} (h : buildW P T f parts.toList K) :
    Yields1 P (Instr.build T (parts.map fun (i, x) => (i, ev f x))) K := by
  unfold buildW at h
  have hparts : (parts.map fun (i, x) => (i, ev f x)).toList = parts.toList.map fun p => (p.1, ev f p.2) := by simp
  split at h
  · rename_i fs z hd hz
    split at h
    · rename_i l hl
      replace h := andB.out h
      obtain ⟨hall, hp⟩ := h
      obtain ⟨cs, hk, hf⟩ := putW_fill _ _ _ hl hp
      refine ⟨_, hk, fun w => ?_⟩
      have hmap : ∀ w, (fs.mapM fun g => do pure (g.offset, ← sizeOf g.type) : Sem (Array (Nat × Nat))).run P w = .ok (fs.map fun g => (g.offset, sizeT P g.type)) w := by
        intro w
        have : ∀ (l : List Field), (∀ g ∈ l, (P.info? g.type).isSome = true) → ∀ w, (l.mapM fun g => do pure (g.offset, ← sizeOf g.type) : Sem (List (Nat × Nat))).run P w = .ok (l.map fun g => (g.offset, sizeT P g.type)) w := by
          intro l
          induction l with
          | nil => intro _ w; rfl
          | cons g l ih =>
            intro hg w
            rw [List.mapM_cons]
            simp only [run_bind, run_sizeOf' (hg g (by simp)), run_pure, ih (fun x hx => hg x (by simp [hx])), List.map_cons]
        have hfs := this fs.toList (fun g hg => Array.all_eq_true_iff_forall_mem.1 hall g (by simpa using hg)) w
        rw [Array.mapM_eq_mapM_toList, ← bind_pure_comp, run_bind, hfs]
        show Result.ok _ _ = _
        congr 1
        apply Array.ext'; simp
      simp only [Instr.build, run_bind, zeroT_run hz, run_underlying' hd, hmap]
      rw [hparts]
      have hpl : (fun (i : Nat) => (fs.map fun (g : Field) => (g.offset, sizeT P g.type))[i]?) = sPlace P fs := by
        funext i; rw [Array.getElem?_map]; unfold sPlace; cases fs[i]? <;> rfl
      rw [hpl]
      simp only [Array.toArray_toList] at hf
      rw [hf]
      rfl
    · exact h.elim
  · rename_i n e z hd hz
    split at h
    · rename_i l hl
      replace h := andB.out h
      obtain ⟨hall, hp⟩ := h
      obtain ⟨cs, hk, hf⟩ := putW_fill _ _ _ hl hp
      refine ⟨_, hk, fun w => ?_⟩
      simp only [Instr.build, run_bind, zeroT_run hz, run_underlying' hd, run_sizeOf' hall]
      rw [hparts]
      simp only [Array.toArray_toList] at hf
      rw [hf]
      rfl
    · exact h.elim
  · exact h.elim

theorem extract_ofL (s : ByteArray) (l h : Nat) : s.extract l h = ofL ((s.data.toList.take h).drop l) := by
  apply ByteArray.ext
  apply Array.ext'
  simp [ofL, ByteArray.extract, ByteArray.copySlice, List.drop_take]

theorem slice_run {P : Program} {T : TypeId} {x : Value} {lo hi mx : Option Value} {K : Value → Prop} (h : sliceW P T x lo hi mx K) :
    Yields1 P (Instr.sliceAt T x lo hi mx) K := by
  unfold sliceW at h
  split at h
  · rename_i hd
    replace h := andB.out h
    obtain ⟨hm, h⟩ := h
    cases mx with
    | some _ => cases hm
    | none =>
      cases x <;> simp only [slsW] at h <;> try exact h.elim
      rename_i s
      have h' : bdW (none : Option Value) s.size s.size fun m => bdW hi s.size m fun h => bdW lo 0 h fun l => (fun l h (_ : Nat) => K (.string (ofL ((s.data.toList.take h).drop l)))) l h m := h
      obtain ⟨l, hh, m, hk, hr⟩ := bounds_run (P := P) (isSlice := false) (by simp) h'
      refine ⟨_, hk, fun w => ?_⟩
      simp only [Instr.sliceAt, run_bind, run_underlying' hd, Instr.slice]
      simp [hr, run_bind, run_underlying' hd, run_pure]
      apply extract_ofL
  · rename_i e hd
    replace h := andB.out h
    obtain ⟨hm, h⟩ := h
    replace h := andB.out h
    obtain ⟨he, h⟩ := h
    replace hm : mx.isSome = true → hi.isSome = true := fun hx => by rw [hx] at hm; simpa using hm
    cases x <;> simp only [sllW] at h <;> try exact h.elim
    rename_i a len cap
    obtain ⟨l, hh, m, hk, hr⟩ := bounds_run (P := P) (isSlice := true) (K := fun l h m => K (.slice (if m = l then a else a.map (·.add (l * sizeT P e))) (h - l) (m - l))) hm h
    refine ⟨_, hk, fun w => ?_⟩
    simp only [Instr.sliceAt, run_bind, run_underlying' hd, Instr.slice]
    simp [hr, run_bind, run_underlying' hd, run_pure, run_sizeOf' he]
  · rename_i n e hd
    replace h := andB.out h
    obtain ⟨hm, h⟩ := h
    replace h := andB.out h
    obtain ⟨he, h⟩ := h
    replace hm : mx.isSome = true → hi.isSome = true := fun hx => by rw [hx] at hm; simpa using hm
    cases x <;> simp only [slaW] at h <;> try exact h.elim
    rename_i a
    cases a with
    | none => exact h.elim
    | some a =>
      obtain ⟨l, hh, m, hk, hr⟩ := bounds_run (P := P) (isSlice := false) (K := fun l h m => K (.slice (some (if m = l then a else a.add (l * sizeT P e))) (h - l) (m - l))) hm h
      refine ⟨_, hk, fun w => ?_⟩
      simp [Instr.sliceAt, Instr.sureAddr, run_bind, run_underlying' hd, hr, run_pure, run_sizeOf' he]
  · exact h.elim

theorem pure_sound {P : Program} {f : Fr} {o : Oper} {K : Value → Prop} (h : pureW P f o.op K) : YieldsN P (execOp (ev f) o) K := by
  obtain ⟨dst, op, type, pos, after, guard⟩ := o
  cases op <;> simp only [pureW] at h <;> try exact h.elim
  case move x => exact ⟨_, h, fun w => rfl⟩
  case assign x => exact ⟨_, h, fun w => rfl⟩
  case pick c a b =>
    simp only [execOp]
    generalize ev f c = cv at *
    cases cv <;> simp only [pickW] at h <;> try exact h.elim
    rename_i t
    exact ⟨_, h, fun w => by cases t <;> rfl⟩
  case nilCheck x =>
    simp only [execOp]
    generalize ev f x = v at *
    cases v <;> simp only [nilW] at h <;> try exact h.elim
    case pointer a => cases a <;> first | exact h.elim | exact ⟨_, h, fun w => rfl⟩
    case func fn _ _ => cases fn <;> first | exact h.elim | exact ⟨_, h, fun w => rfl⟩
    case iface => exact ⟨_, h, fun w => rfl⟩
  case binOp op T x y yT =>
    simp only [execOp]
    refine YieldsN.of1 ?_
    unfold cmpW at h
    cases hd : P.underlying T with
    | none =>
      rw [hd] at h
      exact y_bin (by cases op <;> exact h)
    | some d =>
      rw [hd] at h
      cases hk : EqK.of d with
      | none => simp only [hk] at h; exact y_bin (by cases op <;> exact h)
      | some k =>
        simp only [hk] at h
        cases op <;> first
          | exact y_eq (n := false) hd hk h
          | exact y_eq (n := true) hd hk h
          | exact y_bin h
  case unOp op T x =>
    simp only [execOp]
    refine YieldsN.of1 ?_
    generalize ev f x = v at *
    cases op <;> cases v <;> simp only [unW] at h <;> first
      | exact h.elim
      | exact ⟨_, h, fun w => rfl⟩
  case convert s d x =>
    simp only [execOp]
    refine YieldsN.of1 ?_
    unfold convW at h
    generalize ev f x = v at *
    split at h
    · rename_i k1 k2 hs hd
      cases v <;> simp only [cvtW] at h <;> try exact h.elim
      exact ⟨_, h, fun w => by simp [convert, run_bind, run_underlying' hs, run_underlying' hd, Conv.intToInt, run_pure]⟩
    · rename_i k1 hs hd
      cases v <;> simp only [cvsW] at h <;> try exact h.elim
      · exact ⟨_, h, fun w => by simp [convert, run_bind, run_underlying' hs, run_underlying' hd, Conv.intToString, run_pure]⟩
      · exact ⟨_, h, fun w => by simp [convert, run_bind, run_underlying' hs, run_underlying' hd, run_pure]⟩
    · rename_i hs hd
      cases v <;> simp only [cvsW] at h <;> try exact h.elim
      · exact ⟨_, h, fun w => by simp [convert, run_bind, run_underlying' hs, run_underlying' hd, Conv.intToString, run_pure]⟩
      · exact ⟨_, h, fun w => by simp [convert, run_bind, run_underlying' hs, run_underlying' hd, run_pure]⟩
    · exact h.elim
  case makeInterface T x =>
    simp only [execOp]
    refine YieldsN.of1 ?_
    cases hd : P.underlying T with
    | none => rw [hd] at h; exact h.elim
    | some d =>
      rw [hd] at h
      cases d <;> first
        | exact h.elim
        | exact ⟨_, h, fun w => by simp [Instr.makeInterface, run_bind, run_underlying' hd, run_pure]⟩
  case makeFunc fn first cap =>
    simp only [execOp]
    refine YieldsN.of1 ⟨_, h, fun w => by rw [run_pure_fn, evl_map, evl_map]⟩
  case field T x i =>
    simp only [execOp]
    refine YieldsN.of1 ?_
    split at h
    · rename_i fs hd
      split at h
      · rename_i g hg
        replace h := andB.out h
        obtain ⟨h1, h2⟩ := h
        obtain ⟨cs, hx, v, hk, hr⟩ := part_run h1 h2
        exact ⟨v, hk, fun w => by simp [Instr.field, run_bind, run_underlying' hd, hg, hx, asAgg, run_pure, hr]⟩
      · exact h.elim
    · exact h.elim
  case fieldAddr T x i =>
    simp only [execOp]
    refine YieldsN.of1 ?_
    split at h
    · rename_i fs hd
      split at h
      · rename_i g hg
        replace h := andB.out h
        obtain ⟨h1, h2⟩ := h
        replace h1 : sizeT P g.type ≠ 0 := fun hz => by rw [hz] at h1; simp at h1
        generalize ev f x = v at *
        cases v <;> simp only [fldW] at h2 <;> try exact h2.elim
        rename_i a
        cases a with
        | none => exact h2.elim
        | some a =>
          have hinfo : (P.info? g.type).isSome = true := by
            unfold sizeT at h1
            cases hi : P.info? g.type with
            | none => rw [hi] at h1; exact absurd rfl h1
            | some i => rfl
          exact ⟨_, h2, fun w => by simp [Instr.fieldAt, run_bind, run_underlying' hd, hg, Instr.sureAddr, run_pure, fieldPlace, run_sizeOf' hinfo, h1]⟩
      · exact h.elim
    · exact h.elim
  case indexAddr T x i =>
    simp only [execOp]
    refine YieldsN.of1 ?_
    unfold indexAddrW at h
    generalize ev f x = v at *
    generalize ev f i = iv at *
    split at h
    · rename_i e hd
      replace h := andB.out h
      obtain ⟨he, h⟩ := h
      unfold ixaW at h
      split at h
      · rename_i a n cap k j _
        obtain ⟨h0, h1, hk⟩ := h
        exact ⟨_, hk, fun w => by simp [Instr.indexAt, asIntOf, run_bind, run_underlying' hd, run_pure, h0, h1, run_sizeOf' he]⟩
      · rename_i heq; cases heq
      · exact h.elim
    · rename_i n e hd
      replace h := andB.out h
      obtain ⟨he, h⟩ := h
      unfold ixaW at h
      split at h
      · rename_i heq; cases heq
      · rename_i n' a k j heq
        cases heq
        obtain ⟨h0, h1, hk⟩ := h
        exact ⟨_, hk, fun w => by simp [Instr.indexAt, asIntOf, run_bind, run_underlying' hd, run_pure, h0, h1, Instr.sureAddr, run_sizeOf' he]⟩
      · exact h.elim
    · exact h.elim
  case index T x i =>
    simp only [execOp]
    refine YieldsN.of1 ?_
    unfold indexW at h
    generalize ev f x = v at *
    generalize ev f i = iv at *
    split at h
    · rename_i hd
      unfold ixsW at h
      split at h
      · rename_i s k j
        obtain ⟨h0, b, hb, hk⟩ := h
        have hb' : s[j.toNat]? = some b := by
          rw [← hb]
          show (if h : j.toNat < s.size then some s[j.toNat] else none) = _
          by_cases hlt : j.toNat < s.size
          · rw [dif_pos hlt, List.getElem?_eq_getElem (by simpa using hlt)]; rfl
          · rw [dif_neg hlt, List.getElem?_eq_none (by simpa using hlt)]
        exact ⟨_, hk, fun w => by simp [Instr.index, asIntOf, run_bind, run_underlying' hd, run_pure, h0, hb']⟩
      · exact h.elim
    · rename_i n e hd
      replace h := andB.out h
      obtain ⟨he, h⟩ := h
      cases iv <;> simp only [ixgW] at h <;> try exact h.elim
      rename_i k j
      obtain ⟨h0, h1, hp⟩ := h
      obtain ⟨cs, hx, u, hk, hr⟩ := part_run (P := P) he hp
      exact ⟨u, hk, fun w => by simp [Instr.index, asIntOf, run_bind, run_underlying' hd, run_pure, hx, h0, h1, run_sizeOf' (underlying_info he), hr]⟩
    · exact h.elim
  case slice T x lo hi mx =>
    simp only [execOp]
    exact YieldsN.of1 (slice_run h)
  case extract t i =>
    simp only [execOp]
    refine YieldsN.of1 ?_
    generalize ev f t = v at *
    cases v <;> simp only [extW] at h <;> try exact h.elim
    split at h
    · rename_i v hv
      exact ⟨_, h, fun w => by simp [Instr.extract, hv, run_pure]⟩
    · exact h.elim
  case build T parts =>
    simp only [execOp]
    exact YieldsN.of1 (build_run h)
  case call c =>
    obtain ⟨callee, args, argTypes⟩ := c
    cases callee <;> simp only at h <;> try exact h.elim
    rename_i b
    have hargs : args.map (ev f) = (evl f args).toArray := by rw [evl_map]
    simp only [execOp, resolve, hargs]
    generalize evl f args = as at *
    unfold pureCallW at h
    split at h
    · rename_i x
      split at h
      · rename_i T hT
        split at h
        · rename_i hd
          unfold lensW at h
          split at h
          · exact ⟨_, h, fun w => by simp [run_bind, run_pure, invoke, builtin, Builtin.len_, hT, run_underlying' hd, goInt]⟩
          · exact h.elim
        · rename_i e hd
          unfold lenlW at h
          split at h
          · exact ⟨_, h, fun w => by simp [run_bind, run_pure, invoke, builtin, Builtin.len_, hT, run_underlying' hd, goInt]⟩
          · exact h.elim
        · rename_i n e hd
          exact ⟨_, h, fun w => by simp [run_bind, run_pure, invoke, builtin, Builtin.len_, hT, run_underlying' hd, goInt]⟩
        · exact h.elim
      · exact h.elim
    · rename_i x
      split at h
      · rename_i T hT
        split at h
        · rename_i e hd
          unfold capW at h
          split at h
          · exact ⟨_, h, fun w => by simp [run_bind, run_pure, invoke, builtin, Builtin.cap_, hT, run_underlying' hd, goInt]⟩
          · exact h.elim
        · exact h.elim
      · exact h.elim
    · rename_i x y
      unfold minW at h
      split at h
      · exact ⟨_, h, fun w => by simp [run_bind, run_pure, invoke, builtin, Builtin.min_, Builtin.min2]⟩
      · exact h.elim
    · rename_i x y
      unfold maxW at h
      split at h
      · exact ⟨_, h, fun w => by simp [run_bind, run_pure, invoke, builtin, Builtin.max_, Builtin.max2]⟩
      · exact h.elim
    · exact h.elim
end Go.Eng
