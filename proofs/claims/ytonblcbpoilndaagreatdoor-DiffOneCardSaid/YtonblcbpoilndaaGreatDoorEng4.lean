/- One plain sentence: operations that read or write memory, or call, do what their weakest preconditions say. Conditions: none. -/
import Derived.Test.YtonblcbpoilndaaGreatDoorEng3
set_option linter.all false
set_option linter.unusedSimpArgs false
set_option linter.unusedVariables false
set_option linter.unusedSectionVars false
namespace Go.Eng
open Go

def isC : Operand → Bool
  | .const _ => true
  | _ => false
def stand (c : Bool) : Operand := bif c then .const undef else .tmp 0

/-- '==' and '!=' where memory or the operands' form may matter -/
def eqQ (P : Program) (op : BinOp) (T : TypeId) (cx cy : Bool) (a b : Value) (w : World) (K : Value → Prop) : Prop :=
  semQ P (do eqGuard op T (stand cx) (stand cy) a b; binOp op T a b) w K

def readW (P : Program) (f : Fr) (o : Oper) (w : World) (K : Value → Prop) : Prop :=
  match o.op with
  | .load T a => andB (P.underlying T).isSome (ldW (isAggT P T) (sizeT P T) (ev f a) w K)
  | .lookup T x i ok => semQ P (Instr.lookup T (ev f x) (ev f i) ok) w K
  | .binOp op T x y _ => eqQ P op T (isC x) (isC y) (ev f x) (ev f y) w K
  | .convert s d x => semQ P (convert s d (ev f x)) w K
  | .typeAssert x xT aT ok => semQ P (Instr.typeAssert (ev f x) xT aT ok) w K
  | .entry it => semQ P (Instr.entry (ev f it)) w K
  | .call { callee := .builtin b, args, argTypes } => (match b with
      | .len => semQ P (Builtin.len_ argTypes o.type (evl f args).toArray) w K
      | _ => False)
  | _ => False

def isRead (P : Program) : Op → Bool
  | .load .. | .lookup .. | .binOp .. | .typeAssert .. | .entry .. => true
  | .convert s d _ => (match P.underlying s, P.underlying d with | some (.slice _), some .string => true | _, _ => false)
  | .call { callee := .builtin b, .. } => (match b with | .len => true | _ => false)
  | _ => false

def zerosOf (n : Nat) (z : List Value) : List Value := match n with | 0 => [] | n + 1 => z ++ zerosOf n z

def buildSliceW (P : Program) (T : TypeId) (len : Nat) (f : Fr) (parts : List (Nat × Operand)) (w : World) (K : Value → World → Prop) : Prop :=
  match P.underlying T with
  | some (.slice e) => (match zeroT P e, partsAt (fun i => some (i * sizeT P e, sizeT P e)) f parts with
      | some z, some l => andB (P.info? e).isSome (andB (Nat.beq z.cells.size (sizeT P e)) (andB (Nat.ble (len * sizeT P e) 1000) (bslW e len (zerosOf len z.cells.toList) l w K)))
      | _, _ => False)
  | _ => False

def effW [HX] (P : Program) (f : Fr) (o : Oper) (w : World) (K : Value → World → Prop) : Prop :=
  match o.op with
  | .alloc T => (match zeroT P T with | some z => allocW T z.cells.toList w K | none => False)
  | .box T x => boxW T (ev f x) w K
  | .buildSlice T n parts => buildSliceW P T n f parts.toList w K
  | .store T a x => andB (P.info? T).isSome (stW (sizeT P T) (ev f a) (ev f x) w (K undef))
  | .mapUpdate T m k x | .insert T m k x => semU P (Instr.mapUpdate T (ev f m) (ev f k) (ev f x)) w (K undef)
  | .makeMap T r => semE P (Instr.makeMap T (r.map (ev f))) w K
  | .makeSlice T l c => semE P (Instr.makeSlice T (ev f l) (ev f c)) w K
  | .range T x => semE P (Instr.range T (ev f x)) w K
  | .next it s => semE P (Instr.next (ev f it) s o.type) w K
  | .convert s d x => semE P (convert s d (ev f x)) w K
  | .call { callee := .value x, args, .. } => (match x with
      | .func g => callF P g (evl f args) w K
      | _ => callV P (ev f x) (evl f args) w K)
  | .call { callee := .invoke r m, args, .. } => semN P (callMethod (ev f r) m (evl f args).toArray) w K
  | .panic x => pncW (ev f x) w
  | .call { callee := .builtin b, args, argTypes } => (match b with
      | .append => semE P (Builtin.append_ argTypes o.type (evl f args).toArray) w K
      | .copy => semE P (Builtin.copy_ argTypes o.type (evl f args).toArray) w K
      | .delete => semE P (Builtin.delete_ argTypes o.type (evl f args).toArray) w K
      | .clear => semE P (Builtin.clear_ argTypes o.type (evl f args).toArray) w K
      | .panic => pncW ((evl f args).getD 0 undef) w
      | _ => False)
  | _ => False

def anyW [HX] (P : Program) (f : Fr) (o : Oper) (w : World) (K : Value → World → Prop) : Prop :=
  bif isPure P o.op then pureW P f o.op (fun v => K v w) else (bif isRead P o.op then readW P f o w (fun v => K v w) else effW P f o w K)

/-! ### Soundness -/

theorem run_load1 {P : Program} {a : Addr} {w : World} {v : Value} (h : w.cell? a = some v) : (load a).run P w = .ok v w := by
  simp [load, Sem.run, h]

theorem loadCellsFrom_run {P : Program} {a : Addr} {w : World} : ∀ (n i : Nat) (l : List Value) (acc : Array Value), cellsAt w a i n = some l →
    (loadCellsFrom a i n acc).run P w = .ok (acc ++ l.toArray) w
  | 0, i, l, acc, h => by
    simp only [cellsAt, Option.some.injEq] at h
    subst h
    simp [loadCellsFrom, run_pure]
  | n + 1, i, l, acc, h => by
    simp only [cellsAt] at h
    cases hc : w.cell? (a.add i) with
    | none => simp [hc] at h
    | some v =>
      cases hr : cellsAt w a (i + 1) n with
      | none => simp [hc, hr] at h
      | some l' =>
        simp only [hc, hr, Option.map_some, Option.some.injEq] at h
        subst h
        simp only [loadCellsFrom, run_bind, run_load1 hc, loadCellsFrom_run n (i + 1) l' _ hr]
        simp

theorem ld_run {P : Program} {T : TypeId} {x : Value} {w : World} {K : Value → Prop} (hT : (P.underlying T).isSome = true) (h : ldW (isAggT P T) (sizeT P T) x w K) :
    ∃ v, K v ∧ (Instr.loadAt T x).run P w = .ok v w := by
  cases x <;> simp only [ldW] at h <;> try exact h.elim
  rename_i a
  cases a with
  | none => exact h.elim
  | some a =>
    simp only at h
    cases ha : isAggT P T with
    | true =>
      rw [ha] at h
      obtain ⟨l, hl, hk⟩ := h
      refine ⟨_, hk, ?_⟩
      simp [Instr.loadAt, Instr.sureAddr, loadVar, run_bind, run_pure, run_isAgg' hT, ha, run_sizeOf' (underlying_info hT), loadCells, loadCellsFrom_run _ _ _ _ hl]
    | false =>
      rw [ha] at h
      obtain ⟨v, hv, hk⟩ := h
      refine ⟨_, hk, ?_⟩
      simp [Instr.loadAt, Instr.sureAddr, loadVar, run_bind, run_pure, run_isAgg' hT, ha]
      first | exact run_load1 hv | (rw [hv])

theorem eqGuard_stand (op : BinOp) (T : TypeId) (x y : Operand) (a b : Value) : eqGuard op T (stand (isC x)) (stand (isC y)) a b = eqGuard op T x y a b := by
  cases x <;> cases y <;> rfl

theorem read_sound {P : Program} {f : Fr} {o : Oper} {w : World} {K : Value → Prop} (h : readW P f o w K) :
    ∃ v, K v ∧ (execOp (ev f) o).run P w = .ok (.value v) w := by
  have key : ∀ (s : Sem Value), (∃ v, K v ∧ s.run P w = .ok v w) → ∃ v, K v ∧ (do pure (.value (← s)) : Sem Next).run P w = .ok (.value v) w := by
    rintro s ⟨v, hk, hr⟩
    exact ⟨v, hk, by rw [run_bind, hr]; rfl⟩
  have key2 : ∀ (s : Sem Value), semQ P s w K → ∃ v, K v ∧ s.run P w = .ok v w := fun s ⟨v, hr, hk⟩ => ⟨v, hk, hr⟩
  obtain ⟨dst, op, type, pos, after, guard⟩ := o
  cases op <;> simp only [readW] at h <;> try exact h.elim
  case load T a => simp only [execOp]; exact key _ (ld_run (andB.out h).1 (andB.out h).2)
  case lookup T x i ok => simp only [execOp]; exact key _ (key2 _ h)
  case binOp op T x y yT =>
    simp only [execOp]
    refine key _ (key2 _ ?_)
    unfold eqQ at h
    rw [eqGuard_stand] at h
    exact h
  case convert s d x => simp only [execOp]; exact key _ (key2 _ h)
  case typeAssert x xT aT ok => simp only [execOp]; exact key _ (key2 _ h)
  case entry it => simp only [execOp]; exact key _ (key2 _ h)
  case call c =>
    obtain ⟨callee, args, argTypes⟩ := c
    cases callee <;> simp only at h <;> try exact h.elim
    rename_i b
    cases b <;> simp only at h <;> try exact h.elim
    simp only [execOp, resolve, evl_map]
    obtain ⟨v, hk, hr⟩ := key2 _ h
    exact ⟨v, hk, by simp [run_bind, run_pure, invoke, builtin, hr]⟩

theorem storeCells_run {P : Program} {a : Addr} {K : World → Prop} : ∀ (l : List Value) (i : Nat) (w : World), stCells a l i w K → ∃ w', K w' ∧ (storeCells a l i).run P w = .ok () w'
  | [], i, w, h => ⟨w, h, rfl⟩
  | v :: r, i, w, h => by
    obtain ⟨h1, h2, h3, h4⟩ := h
    obtain ⟨w', hk, hr⟩ := storeCells_run (P := P) r (i + 1) _ h4
    refine ⟨w', hk, ?_⟩
    obtain ⟨old, ho⟩ := Option.isSome_iff_exists.1 h2
    have hs : (store (a.add i) v).run P w = .ok () (w.setCell (a.add i) v) := by
      cases v <;> first
        | (simp [one1] at h1; done)
        | (simp [store, Sem.run, ho, h3]; done)
    simp only [storeCells, run_bind, hs, hr]

theorem st_run {P : Program} {T : TypeId} {x v : Value} {w : World} {K : World → Prop} (hT : (P.info? T).isSome = true) (h : stW (sizeT P T) x v w K) :
    ∃ w', K w' ∧ (Instr.storeAt T x v).run P w = .ok () w' := by
  cases x <;> simp only [stW] at h <;> try exact h.elim
  rename_i a
  cases a with
  | none => exact h.elim
  | some a =>
    obtain ⟨h1, h2⟩ := h
    obtain ⟨w', hk, hr⟩ := storeCells_run (P := P) _ _ _ h2
    refine ⟨w', hk, ?_⟩
    simp [Instr.storeAt, Instr.sureAddr, storeVar, run_bind, run_pure, run_sizeOf' hT, h1, hr]

theorem zerosOf_range {z : Array Value} {size : Nat} (hz : z.size = size) : ∀ len, ((Array.range (len * size)).map (z[· % z.size]!)) = (zerosOf len z.toList).toArray := by
  subst hz
  have hlen : ∀ len, (zerosOf len z.toList).length = len * z.size := by
    intro len
    induction len with
    | zero => simp [zerosOf]
    | succ n ih => simp [zerosOf, ih, Nat.succ_mul, Nat.add_comm]
  intro len
  apply Array.ext (by simp [hlen])
  intro i h1 h2
  simp only [Array.getElem_map, Array.getElem_range, List.getElem_toArray]
  simp at h1
  have : ∀ (len i : Nat) (h : i < (zerosOf len z.toList).length), (zerosOf len z.toList)[i] = z[i % z.size]! := by
    intro len
    induction len with
    | zero => intro i h; simp [zerosOf] at h
    | succ n ih =>
      intro i h
      have hpos : 0 < z.size := by
        rcases Nat.eq_zero_or_pos z.size with h0 | h0
        · rw [hlen, h0] at h; simp at h
        · exact h0
      simp only [zerosOf, List.getElem_append]
      split
      · rename_i hi
        have hi' : i < z.size := by simpa using hi
        rw [Nat.mod_eq_of_lt hi', getElem!_pos z i hi']
        simp
      · rename_i hi
        have hi' : z.size ≤ i := by simpa using hi
        rw [ih]
        simp only [Array.length_toList]
        congr 1
        rw [Nat.mod_eq_sub_mod hi']
  rw [this]

theorem eff_sound [HX] {P : Program} {f : Fr} {o : Oper} {w : World} {K : Value → World → Prop} (h : effW P f o w K) : Res P K ((execOp (ev f) o).run P w) := by
  have keyV : ∀ (s : Sem Value), semE P s w K → Res P K ((do pure (.value (← s)) : Sem Next).run P w) := by
    intro s hs
    unfold semE at hs
    rw [run_bind]
    cases hr : s.run P w with
    | ok v w' => rw [hr] at hs; exact hs
    | halt x w' => rw [hr] at hs; exact hs.elim
  have keyU : ∀ (s : Sem Unit), semU P s w (K undef) → Res P K ((do s; pure .skip : Sem Next).run P w) := by
    intro s hs
    unfold semU at hs
    rw [run_bind]
    cases hr : s.run P w with
    | ok v w' => rw [hr] at hs; exact hs
    | halt x w' => rw [hr] at hs; exact hs.elim
  have keyP : ∀ (x : Value), pncW x w → Res P K ((do pure (.value (← Instr.panic x)) : Sem Next).run P w) := by
    intro x hs
    unfold pncW at hs
    split at hs
    · exact hs
    · exact hs.elim
  obtain ⟨dst, op, type, pos, after, guard⟩ := o
  cases op <;> simp only [effW] at h <;> try exact h.elim
  case alloc T =>
    cases hz : zeroT P T with
    | none => rw [hz] at h; exact h.elim
    | some z =>
      rw [hz] at h
      simp only [execOp]
      have hr : (Instr.alloc T true (.tuple #[])).run P w = .ok (.pointer (some ⟨w.heap.size, 0, none⟩)) (w.alloc (.cells z.cells T)) := by
        simp [Instr.alloc, run_bind, zeroT_run hz, newVar, newRow, newObj, Sem.run, run_pure]
      rw [run_bind, hr]
      exact h
  case box T x =>
    simp only [execOp]
    have hr : (Instr.box T (ev f x)).run P w = .ok (.pointer (some ⟨w.heap.size, 0, none⟩)) (w.alloc (.cells (ev f x).cells T)) := by
      simp [Instr.box, run_bind, newVar, newRow, newObj, Sem.run, run_pure]
    rw [run_bind, hr]
    exact h
  case buildSlice T n parts =>
    simp only [execOp]
    unfold buildSliceW at h
    split at h
    · rename_i e hd
      split at h
      · rename_i z l hz hl
        replace h := andB.out h
        obtain ⟨h1, h⟩ := h
        replace h := andB.out h
        obtain ⟨h2, h⟩ := h
        replace h := andB.out h
        obtain ⟨h3, h4⟩ := h
        replace h2 := Nat.eq_of_beq_eq_true h2
        replace h3 := Nat.le_of_ble_eq_true h3
        unfold bslW at h4
        obtain ⟨cs, hk, hf⟩ := putW_fill _ _ _ hl h4
        have hparts : (parts.map fun (i, x) => (i, ev f x)).toList = parts.toList.map fun p => (p.1, ev f p.2) := by simp
        have hr : (Instr.buildSlice T n (parts.map fun (i, x) => (i, ev f x))).run P w = .ok (.slice (some ⟨w.heap.size, 0, none⟩) n n) (w.alloc (.cells cs.toArray e)) := by
          simp only [Instr.buildSlice, run_bind, run_underlying' hd, run_sizeOf' h1]
          rw [if_neg (by omega)]
          have hcells := zerosOf_range (z := z.cells) h2 n
          by_cases h0 : n * sizeT P e = 0
          · rw [if_pos h0]
            simp only [run_bind, run_pure]
            have hc : ((Array.range (n * sizeT P e)).map ((#[] : Array Value)[· % (#[] : Array Value).size]!)) = (zerosOf n z.cells.toList).toArray := by
              rw [← hcells, h0]; simp [show Array.range 0 = #[] from rfl]
            rw [hc, hparts, hf]
            simp [run_bind, newRow, newObj, Sem.run, run_pure]
          · rw [if_neg h0]
            simp only [run_bind, run_pure, zeroT_run hz]
            rw [hcells, hparts, hf]
            simp [run_bind, newRow, newObj, Sem.run, run_pure]
        rw [run_bind, hr]
        exact hk
      · exact h.elim
    · exact h.elim
  case store T a x =>
    simp only [execOp]
    obtain ⟨w', hk, hr⟩ := st_run (andB.out h).1 (andB.out h).2
    rw [run_bind, hr]
    exact hk
  case mapUpdate T m k x => simp only [execOp]; exact keyU _ h
  case insert T m k x => simp only [execOp]; exact keyU _ h
  case makeMap T r => simp only [execOp]; exact keyV _ h
  case makeSlice T l c => simp only [execOp]; exact keyV _ h
  case range T x => simp only [execOp]; exact keyV _ h
  case next it s => simp only [execOp]; exact keyV _ h
  case panic x =>
    simp only [execOp]
    exact keyP _ h
  case convert s d x => simp only [execOp]; exact keyV _ h
  case call c =>
    obtain ⟨callee, args, argTypes⟩ := c
    cases callee with
    | value x =>
      simp only [execOp, resolve, evl_map]
      cases x <;> simp only at h
      case func g =>
        unfold callF at h
        have : (do let d ← (Deferred.ofValue (ev f (.func g)) (evl f args).toArray); invoke d.target d.args : Sem Next) = callFunc g (evl f args).toArray := by
          show callFunc g (#[] ++ (evl f args).toArray ++ #[]) = _
          simp
        rw [this]
        exact h
      all_goals exact h
    | invoke r m =>
      simp only at h
      simp only [execOp, resolve, evl_map]
      have : (do let d ← (pure { target := .fn (.method m) #[], args := #[ev f r] ++ (evl f args).toArray } : Sem Deferred); invoke d.target d.args : Sem Next) = callMethod (ev f r) m (evl f args).toArray := by
        show invoke (.fn (.method m) #[]) (#[ev f r] ++ (evl f args).toArray) = _
        simp [invoke]
      rw [this]
      exact h
    | builtin b =>
      simp only [execOp, resolve, evl_map]
      cases b <;> simp only at h <;> first
        | exact h.elim
        | exact keyV _ h
        | (have e : (evl f args).getD 0 undef = (evl f args).toArray.getD 0 .nilIface := by
             cases hl : evl f args with
             | nil => rw [hl] at h; exact h.elim
             | cons a r => rfl
           rw [e] at h
           exact keyP _ h)

theorem any_sound [HX] {P : Program} {f : Fr} {o : Oper} {w : World} {K : Value → World → Prop} (h : anyW P f o w K) : Res P K ((execOp (ev f) o).run P w) := by
  unfold anyW at h
  cases hp : isPure P o.op with
  | true =>
    rw [hp] at h
    simp only [cond_true] at h
    obtain ⟨v, hk, hr⟩ := pure_sound (o := o) h
    rw [hr]
    exact hk
  | false =>
    rw [hp] at h
    simp only [cond_false] at h
    cases hq : isRead P o.op with
    | true =>
      rw [hq] at h
      simp only [cond_true] at h
      obtain ⟨v, hk, hr⟩ := read_sound (o := o) h
      rw [hr]
      exact hk
    | false =>
      rw [hq] at h
      exact eff_sound h
end Go.Eng
