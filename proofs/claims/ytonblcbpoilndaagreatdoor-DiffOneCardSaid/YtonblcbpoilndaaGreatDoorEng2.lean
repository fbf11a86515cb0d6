/- One plain sentence: a pure operation of Go's text yields the value that its weakest precondition names, in every world. Conditions: none. -/
import Derived.Test.YtonblcbpoilndaaGreatDoorEng1
set_option linter.all false
set_option linter.unusedSimpArgs false
set_option linter.unusedVariables false
set_option linter.unusedSectionVars false
namespace Go.Eng
open Go

def isAggD : TypeDesc → Bool
  | .struct _ | .array _ _ => true
  | _ => false
def isAggT (P : Program) (T : TypeId) : Bool := match P.underlying T with | some d => isAggD d | none => false
def sizeT (P : Program) (T : TypeId) : Nat := match P.info? T with | some i => i.size | none => 0
def zeroT (P : Program) (T : TypeId) : Option Value := match P.info? T with | some i => i.zero | none => none

def partsAt (places : Nat → Option (Nat × Nat)) (f : Fr) : List (Nat × Operand) → Option (List (Nat × Nat × Value))
  | [] => some []
  | (i, x) :: r => match places i, partsAt places f r with
    | some (off, size), some l => some ((off, size, ev f x) :: l)
    | _, _ => none

def sPlace (P : Program) (fs : Array Field) (i : Nat) : Option (Nat × Nat) := match fs[i]? with | some g => some (g.offset, sizeT P g.type) | none => none

def buildW (P : Program) (T : TypeId) (f : Fr) (parts : List (Nat × Operand)) (K : Value → Prop) : Prop :=
  match P.underlying T, zeroT P T with
  | some (.struct fs), some z =>
    (match partsAt (sPlace P fs) f parts with
     | some l => andB (fs.all (fun g => (P.info? g.type).isSome)) (putW z.cells.toList l fun cs => K (.agg cs.toArray))
     | none => False)
  | some (.array _ e), some z =>
    (match partsAt (fun i => some (i * sizeT P e, sizeT P e)) f parts with
     | some l => andB (P.info? e).isSome (putW z.cells.toList l fun cs => K (.agg cs.toArray))
     | none => False)
  | _, _ => False

def isEqOp : BinOp → Bool
  | .eql | .neq => true
  | _ => false

def cmpW (P : Program) (op : BinOp) (T : TypeId) (x y : Value) (K : Value → Prop) : Prop :=
  match op, (match P.underlying T with | some d => EqK.of d | none => none) with
  | .eql, some k => eqW k false x y K
  | .neq, some k => eqW k true x y K
  | _, _ => binW op x y K

def convW (P : Program) (s d : TypeId) (x : Value) (K : Value → Prop) : Prop :=
  match P.underlying s, P.underlying d with
  | some (.int _), some (.int k) => cvtW k x K
  | some (.int _), some .string => cvsW x K
  | some .string, some .string => cvsW x K
  | _, _ => False

def indexAddrW (P : Program) (T : TypeId) (x i : Value) (K : Value → Prop) : Prop :=
  match P.underlying T with
  | some (.slice e) => andB (P.info? e).isSome (ixaW none (sizeT P e) x i K)
  | some (.array n e) => andB (P.info? e).isSome (ixaW (some n) (sizeT P e) x i K)
  | _ => False

def indexW (P : Program) (T : TypeId) (x i : Value) (K : Value → Prop) : Prop :=
  match P.underlying T with
  | some .string => ixsW x i K
  | some (.array n e) => andB (P.underlying e).isSome (ixgW n (isAggT P e) (sizeT P e) x i K)
  | _ => False

def sliceW (P : Program) (T : TypeId) (x : Value) (lo hi mx : Option Value) (K : Value → Prop) : Prop :=
  match P.underlying T with
  | some .string => andB (!mx.isSome) (slsW x lo hi K)
  | some (.slice e) => andB (!mx.isSome || hi.isSome) (andB (P.info? e).isSome (sllW (sizeT P e) x lo hi mx K))
  | some (.array n e) => andB (!mx.isSome || hi.isSome) (andB (P.info? e).isSome (slaW n (sizeT P e) x lo hi mx K))
  | _ => False

def pureCallW (P : Program) (b : Builtin) (argTypes : Array TypeId) (args : List Value) (K : Value → Prop) : Prop :=
  match b, args with
  | .len, [x] => (match argTypes[0]? with
      | some T => (match P.underlying T with
        | some .string => lensW x K
        | some (.slice _) => lenlW x K
        | some (.array n _) => K (.int .i64 n)
        | _ => False)
      | none => False)
  | .cap, [x] => (match argTypes[0]? with
      | some T => (match P.underlying T with
        | some (.slice _) => capW x K
        | _ => False)
      | none => False)
  | .min, [x, y] => minW x y K
  | .max, [x, y] => maxW x y K
  | _, _ => False

def pureW (P : Program) (f : Fr) (op : Op) (K : Value → Prop) : Prop :=
  match op with
  | .move x | .assign x => K (ev f x)
  | .pick c a b => pickW (ev f c) (ev f a) (ev f b) K
  | .nilCheck x => nilW (ev f x) K
  | .binOp op T x y _ => cmpW P op T (ev f x) (ev f y) K
  | .unOp op _ x => unW op (ev f x) K
  | .convert s d x => convW P s d (ev f x) K
  | .makeInterface T x => (match P.underlying T with | some (.interface _) => False | none => False | _ => K (.iface T (ev f x)))
  | .makeFunc fn first cap => K (.func fn (evl f first).toArray (evl f cap).toArray)
  | .field T x i => (match P.underlying T with
      | some (.struct fs) => (match fs[i]? with | some g => andB (P.underlying g.type).isSome (partW (isAggT P g.type) g.offset (sizeT P g.type) (ev f x) K) | none => False)
      | _ => False)
  | .fieldAddr T x i => (match P.underlying T with
      | some (.struct fs) => (match fs[i]? with | some g => andB (!(Nat.beq (sizeT P g.type) 0)) (fldW g.offset (ev f x) K) | none => False)
      | _ => False)
  | .indexAddr T x i => indexAddrW P T (ev f x) (ev f i) K
  | .index T x i => indexW P T (ev f x) (ev f i) K
  | .slice T x lo hi mx => sliceW P T (ev f x) (lo.map (ev f)) (hi.map (ev f)) (mx.map (ev f)) K
  | .extract t i => extW i (ev f t) K
  | .build T parts => buildW P T f parts.toList K
  | .call { callee := .builtin b, args, argTypes } => pureCallW P b argTypes (evl f args) K
  | _ => False

/-- the operations that 'pureW' knows (the builtins: by name; len of a map is none) -/
def isPure (P : Program) : Op → Bool
  | .move _ | .assign _ | .pick .. | .nilCheck _ | .unOp .. | .makeInterface .. | .makeFunc .. | .field .. | .fieldAddr .. | .indexAddr .. | .index .. | .slice ..
  | .extract .. | .build .. => true
  | .binOp op T _ _ _ => (match op with
    | .eql | .neq => (match P.underlying T with | some (.interface _) | some (.struct _) | some (.array _ _) | some (.chan _ _) | none => false | _ => true)
    | _ => true)
  | .convert s d _ => (match P.underlying s, P.underlying d with | some (.int _), some (.int _) | some (.int _), some .string | some .string, some .string => true | _, _ => false)
  | .call { callee := .builtin b, argTypes, .. } => (match b with
    | .min | .max | .cap => true
    | .len => (match argTypes[0]? with | some T => (match P.underlying T with | some (.map _ _) | none => false | _ => true) | none => false)
    | _ => false)
  | _ => false

/-- what an operation's run comes to -/
def Yields1 (P : Program) (s : Sem Value) (K : Value → Prop) : Prop := ∃ v, K v ∧ ∀ w, s.run P w = .ok v w

theorem run_bind {α β : Type} (P : Program) (s : Sem α) (k : α → Sem β) (w : World) :
    (s >>= k).run P w = match s.run P w with | .ok a w' => (k a).run P w' | .halt h w' => .halt h w' := by
  show (Sem.bind s k).run P w = _
  induction s generalizing w with
  | pure a => simp [Sem.bind, Sem.run]
  | load m a c ih => simp only [Sem.bind, Sem.run]; (repeat' split) <;> simp_all
  | store m a v c ih =>
    cases v <;> simp only [Sem.bind, Sem.run] <;> ((repeat' split) <;> simp_all)
  | new o c ih => simp [Sem.bind, Sem.run, ih]
  | shape r c ih => simp [Sem.bind, Sem.run, ih]
  | freeze a n c ih => simp [Sem.bind, Sem.run, ih]
  | frozen a c ih => simp [Sem.bind, Sem.run, ih]
  | getObj r c ih => simp only [Sem.bind, Sem.run]; (repeat' split) <;> simp_all
  | setObj r o c ih => simp only [Sem.bind, Sem.run]; (repeat' split) <;> simp_all
  | choose q c ih => simp only [Sem.bind, Sem.run]; (repeat' split) <;> simp_all
  | sys c k' ih => simp [Sem.bind, Sem.run, ih]
  | program c ih => simp [Sem.bind, Sem.run, ih]
  | mark m c ih => simp [Sem.bind, Sem.run, ih]
  | halt h => simp [Sem.bind, Sem.run]

theorem run_pure {α : Type} (P : Program) (a : α) (w : World) : (pure a : Sem α).run P w = .ok a w := rfl

theorem run_underlying' {P : Program} {T : TypeId} {d : TypeDesc} (h : P.underlying T = some d) (w : World) : (underlying T).run P w = .ok d w := by
  simp [underlying, run_bind, program, Sem.run, h, run_pure]

theorem run_typeInfo' {P : Program} {T : TypeId} {i : TypeInfo} (h : P.info? T = some i) (w : World) : (typeInfo T).run P w = .ok i w := by
  simp [typeInfo, run_bind, program, Sem.run, h, run_pure]

theorem run_sizeOf' {P : Program} {T : TypeId} (h : (P.info? T).isSome = true) (w : World) : (sizeOf T).run P w = .ok (sizeT P T) w := by
  cases hi : P.info? T with
  | none => rw [hi] at h; cases h
  | some i => simp [sizeOf, run_bind, run_typeInfo' hi, run_pure, sizeT, hi]

theorem underlying_info {P : Program} {T : TypeId} (h : (P.underlying T).isSome = true) : (P.info? T).isSome = true := by
  unfold Program.underlying at h
  cases hi : P.info? T with
  | none => simp [hi] at h
  | some i => rfl

theorem run_isAgg' {P : Program} {T : TypeId} (h : (P.underlying T).isSome = true) (w : World) : (isAgg T).run P w = .ok (isAggT P T) w := by
  cases hi : P.underlying T with
  | none => rw [hi] at h; cases h
  | some d =>
    simp only [isAgg, run_bind, run_underlying' hi, isAggT, hi]
    cases d <;> rfl

theorem zeroT_run {P : Program} {T : TypeId} {z : Value} (h : zeroT P T = some z) (w : World) : (zeroValue T).run P w = .ok z w := by
  unfold zeroT at h
  cases hi : P.info? T with
  | none => simp [hi] at h
  | some i =>
    simp only [hi] at h
    simp [zeroValue, run_bind, run_typeInfo' hi, h, run_pure]

theorem part_run {P : Program} {T : TypeId} {off : Nat} {x : Value} {K : Value → Prop} (hT : (P.underlying T).isSome = true) (h : partW (isAggT P T) off (sizeT P T) x K) :
    ∃ cs, x = .agg cs ∧ Yields1 P (part T cs off) K := by
  cases x with
  | agg cs =>
    refine ⟨cs, rfl, ?_⟩
    simp only [partW] at h
    cases ha : isAggT P T with
    | true =>
      rw [ha] at h
      exact ⟨_, h, fun w => by simp [part, run_bind, run_isAgg' hT, ha, run_sizeOf' (underlying_info hT), run_pure]⟩
    | false =>
      rw [ha] at h
      obtain ⟨c, hc, hk⟩ := h
      exact ⟨c, hk, fun w => by simp [part, run_bind, run_isAgg' hT, ha, hc, run_pure]⟩
  | _ => exact h.elim

theorem bdW_run {P : Program} {x : Option Value} {dflt lim : Nat} {K : Nat → Prop} (h : bdW x dflt lim K) :
    ∃ n, K n ∧ ((x = none ∧ n = dflt) ∨ ∃ v, x = some v ∧ ∀ (code : BoundsCode) (w : World), (Instr.sliceBound v lim code).run P w = .ok n w) := by
  cases x with
  | none => exact ⟨dflt, h, .inl ⟨rfl, rfl⟩⟩
  | some v =>
    cases v <;> simp only [bdW] at h
    case int k i =>
      obtain ⟨h0, h1, hk⟩ := h
      exact ⟨_, hk, .inr ⟨_, rfl, fun code w => by simp [Instr.sliceBound, asIntOf, run_bind, run_pure, h0, h1]⟩⟩

theorem bounds_run {P : Program} {isSlice : Bool} {len cap : Nat} {lo hi mx : Option Value} {K : Nat → Nat → Nat → Prop} (hm : mx.isSome = true → hi.isSome = true)
    (h : bdW mx cap cap fun m => bdW hi len m fun h => bdW lo 0 h fun l => K l h m) :
    ∃ l h m, K l h m ∧ ∀ w, (Instr.sliceBounds isSlice len cap lo hi mx).run P w = .ok (l, h, m) w := by
  obtain ⟨m, h1, hm1⟩ := bdW_run (P := P) h
  obtain ⟨hh, h2, hh1⟩ := bdW_run (P := P) h1
  obtain ⟨l, h3, hl1⟩ := bdW_run (P := P) h2
  refine ⟨l, hh, m, h3, fun w => ?_⟩
  rcases hm1 with ⟨rfl, rfl⟩ | ⟨vm, rfl, rm⟩ <;> rcases hh1 with ⟨rfl, rfl⟩ | ⟨vh, rfl, rh⟩ <;> rcases hl1 with ⟨rfl, rfl⟩ | ⟨vl, rfl, rl⟩ <;>
    first
      | (simp at hm; done)
      | simp [Instr.sliceBounds, run_bind, run_pure, *]

theorem putW_fill {place : Nat → Option (Nat × Nat)} {f : Fr} {K : List Value → Prop} : ∀ (parts : List (Nat × Operand)) (l : List (Nat × Nat × Value)) (cells : List Value),
    partsAt place f parts = some l → putW cells l K → ∃ cs, K cs ∧ Instr.fill place cells.toArray (parts.map fun p => (p.1, ev f p.2)) = some cs.toArray
  | [], l, cells, hp, h => by
    simp only [partsAt, Option.some.injEq] at hp
    subst hp
    exact ⟨cells, h, rfl⟩
  | (i, x) :: r, l, cells, hp, h => by
    simp only [partsAt] at hp
    cases hpl : place i with
    | none => simp [hpl] at hp
    | some os =>
      obtain ⟨off, size⟩ := os
      cases hr : partsAt place f r with
      | none => simp [hpl, hr] at hp
      | some l' =>
        simp only [hpl, hr, Option.some.injEq] at hp
        subst hp
        obtain ⟨h1, h2, h3⟩ := h
        obtain ⟨cs, hk, hf⟩ := putW_fill r l' _ hr h3
        refine ⟨cs, hk, ?_⟩
        simp only [List.map_cons, Instr.fill, hpl]
        rw [if_neg (by simp [h1]; omega)]
        rw [← hf]
        congr 1
        have key : ∀ (vs : List Value) (k : Nat) (cs : List Value), off + k + vs.length ≤ cs.length →
            (vs.zipIdx k).foldl (fun (a : Array Value) (p : Value × Nat) => a.setIfInBounds (off + p.2) p.1) cs.toArray = (cs.take (off + k) ++ (vs ++ cs.drop (off + k + vs.length))).toArray := by
          intro vs
          induction vs with
          | nil => intro k cs _; simp
          | cons v vs ih =>
            intro k cs hle
            simp only [List.length_cons] at hle
            simp only [List.zipIdx_cons, List.foldl_cons]
            rw [List.setIfInBounds_toArray, ih (k + 1) _ (by simp; omega)]
            congr 1
            apply List.ext_getElem?
            intro j
            simp only [List.getElem?_append, List.length_take, List.length_set, List.getElem?_take, List.getElem?_set, List.getElem?_drop, List.length_cons, List.getElem?_cons]
            (repeat' split) <;> first
              | rfl
              | omega
              | (simp_all; done)
              | (congr 1; omega)
              | (rename_i h1 h2 h3; simp at h1; omega)
        have hk := key (ev f x).cells.toList 0 cells (by simp; omega)
        simp only [Nat.add_zero] at hk
        rw [← h1]
        simp only [Array.length_toList] at hk
        rw [← hk, ← Array.foldl_toList]
        simp

/-- An operation yields one value in every world. -/
def YieldsN (P : Program) (s : Sem Next) (K : Value → Prop) : Prop := ∃ v, K v ∧ ∀ w, s.run P w = .ok (.value v) w

theorem YieldsN.of1 {P : Program} {s : Sem Value} {K : Value → Prop} (h : Yields1 P s K) : YieldsN P (do pure (.value (← s))) K := by
  obtain ⟨v, hk, hr⟩ := h
  exact ⟨v, hk, fun w => by rw [run_bind, hr]; rfl⟩

theorem y_part {P : Program} {T : TypeId} {off : Nat} {x : Value} {K : Value → Prop} (hT : (P.underlying T).isSome = true) (h : partW (isAggT P T) off (sizeT P T) x K) :
    Yields1 P (do part T (← asAgg x) off) K := by
  obtain ⟨cs, rfl, v, hk, hr⟩ := part_run hT h
  exact ⟨v, hk, fun w => by rw [run_bind]; exact hr w⟩

theorem beq_dec {α : Type} [BEq α] [LawfulBEq α] [DecidableEq α] (a b : α) : (a == b) = decide (a = b) := by
  by_cases h : a = b <;> simp [h]

theorem y_bin {P : Program} {op : BinOp} {T : TypeId} {x y : Operand} {f : Fr} {K : Value → Prop} (h : binW op (ev f x) (ev f y) K) :
    Yields1 P (do eqGuard op T x y (ev f x) (ev f y); binOp op T (ev f x) (ev f y)) K := by
  generalize ev f x = a at *
  generalize ev f y = b at *
  cases a <;> cases b <;> simp only [binW] at h <;> first | exact h.elim | skip
  case int.int k a k' b =>
    have hg : ∀ w, (eqGuard op T x y (.int k a) (.int k' b)).run P w = .ok () w := fun w => by cases op <;> simp [eqGuard, run_pure]
    cases op <;> simp only at h
    case shl => exact ⟨_, h.2, fun w => by rw [run_bind, hg]; simp [binOp, Op.shift, run_pure, Int.not_lt.2 h.1]⟩
    case shr => exact ⟨_, h.2, fun w => by rw [run_bind, hg]; simp [binOp, Op.shift, run_pure, Int.not_lt.2 h.1]⟩
    case quo => obtain ⟨rfl, hb, hk⟩ := h; exact ⟨_, hk, fun w => by rw [run_bind, hg]; simp [binOp, Op.intDiv, run_pure, hb]⟩
    case rem => obtain ⟨rfl, hb, hk⟩ := h; exact ⟨_, hk, fun w => by rw [run_bind, hg]; simp [binOp, Op.intDiv, run_pure, hb]⟩
    case add => obtain ⟨rfl, hk⟩ := h; exact ⟨_, hk, fun w => by rw [run_bind, hg]; simp [binOp, Op.intArith, run_pure]⟩
    case sub => obtain ⟨rfl, hk⟩ := h; exact ⟨_, hk, fun w => by rw [run_bind, hg]; simp [binOp, Op.intArith, run_pure]⟩
    case mul => obtain ⟨rfl, hk⟩ := h; exact ⟨_, hk, fun w => by rw [run_bind, hg]; simp [binOp, Op.intArith, run_pure]⟩
    case and => obtain ⟨rfl, hk⟩ := h; exact ⟨_, hk, fun w => by rw [run_bind, hg]; simp only [binOp, Op.intBits, ne_eq, not_true_eq_false, if_false]; rfl⟩
    case or => obtain ⟨rfl, hk⟩ := h; exact ⟨_, hk, fun w => by rw [run_bind, hg]; simp only [binOp, Op.intBits, ne_eq, not_true_eq_false, if_false]; rfl⟩
    case xor => obtain ⟨rfl, hk⟩ := h; exact ⟨_, hk, fun w => by rw [run_bind, hg]; simp only [binOp, Op.intBits, ne_eq, not_true_eq_false, if_false]; rfl⟩
    case andNot => obtain ⟨rfl, hk⟩ := h; exact ⟨_, hk, fun w => by rw [run_bind, hg]; simp only [binOp, Op.intBits, ne_eq, not_true_eq_false, if_false]; rfl⟩
    case eql => obtain ⟨rfl, hk⟩ := h; exact ⟨_, hk, fun w => by rw [run_bind, hg]; simp [binOp, Op.intCmp, run_pure, beq_dec]⟩
    case neq => obtain ⟨rfl, hk⟩ := h; exact ⟨_, hk, fun w => by rw [run_bind, hg]; simp [binOp, Op.intCmp, run_pure, bne, beq_dec]⟩
    case lss => obtain ⟨rfl, hk⟩ := h; exact ⟨_, hk, fun w => by rw [run_bind, hg]; simp [binOp, Op.intCmp, run_pure]⟩
    case leq => obtain ⟨rfl, hk⟩ := h; exact ⟨_, hk, fun w => by rw [run_bind, hg]; simp [binOp, Op.intCmp, run_pure]⟩
    case gtr => obtain ⟨rfl, hk⟩ := h; exact ⟨_, hk, fun w => by rw [run_bind, hg]; simp [binOp, Op.intCmp, run_pure]⟩
    case geq => obtain ⟨rfl, hk⟩ := h; exact ⟨_, hk, fun w => by rw [run_bind, hg]; simp [binOp, Op.intCmp, run_pure]⟩
  case string.string a b =>
    have hg : ∀ w, (eqGuard op T x y (.string a) (.string b)).run P w = .ok () w := fun w => by cases op <;> simp [eqGuard, run_pure]
    have he : (a.toList == b.toList) = decide (a.data.toList = b.data.toList) := by rw [ByteArray.toList_eq, ByteArray.toList_eq, beq_dec]
    have hl : Op.bytesLess a.toList b.toList = Op.bytesLess a.data.toList b.data.toList := by rw [ByteArray.toList_eq, ByteArray.toList_eq]
    cases op <;> simp only at h <;> first | exact h.elim | skip
    case add => exact ⟨_, h.2, fun w => by rw [run_bind, hg]; simp only [binOp, Op.stringOp]; rw [if_neg (by have := h.1; omega)]; rfl⟩
    case eql => exact ⟨_, h, fun w => by rw [run_bind, hg]; simp only [binOp, Op.stringOp]; rw [he]; rfl⟩
    case neq => exact ⟨_, h, fun w => by rw [run_bind, hg]; simp only [binOp, Op.stringOp]; rw [he]; simp [run_pure]⟩
    case lss => exact ⟨_, h, fun w => by rw [run_bind, hg]; simp only [binOp, Op.stringOp]; rw [hl]; rfl⟩
    case leq => exact ⟨_, h, fun w => by rw [run_bind, hg]; simp only [binOp, Op.stringOp]; rw [he, hl]; rfl⟩
    case gtr => exact ⟨_, h, fun w => by rw [run_bind, hg]; simp only [binOp, Op.stringOp]; rw [he, hl]; rfl⟩
    case geq => exact ⟨_, h, fun w => by rw [run_bind, hg]; simp only [binOp, Op.stringOp]; rw [hl]; rfl⟩

theorem eqK_guard {P : Program} {op : BinOp} {T : TypeId} {x y : Operand} {k : EqK} {n : Bool} {a b : Value} {K : Value → Prop} (h : eqW k n a b K) (w : World) :
    (eqGuard op T x y a b).run P w = .ok () w := by
  cases op <;> simp only [eqGuard] <;> first | rfl | (cases a <;> cases b <;> first | rfl | (cases k <;> exact h.elim))

theorem y_eq {P : Program} {T : TypeId} {x y : Operand} {f : Fr} {d : TypeDesc} {k : EqK} {n : Bool} {K : Value → Prop} (hd : P.underlying T = some d) (hk : EqK.of d = some k)
    (h : eqW k n (ev f x) (ev f y) K) :
    Yields1 P (do eqGuard (bif n then .neq else .eql) T x y (ev f x) (ev f y); binOp (bif n then .neq else .eql) T (ev f x) (ev f y)) K := by
  have hg := fun w => eqK_guard (P := P) (op := (bif n then .neq else .eql)) (T := T) (x := x) (y := y) h w
  generalize ev f x = a at *
  generalize ev f y = b at *
  have key : ∀ (a b : Value) (r : Bool), (∀ m w, (Op.equalIn (m + 1) T a b).run P w = .ok r w) →
      (binOp .eql T a b = (do pure (.bool (← Op.equal T a b)))) → (binOp .neq T a b = (do pure (.bool (!(← Op.equal T a b))))) → K (.bool (n ^^ r)) → (∀ w, (eqGuard (bif n then .neq else .eql) T x y a b).run P w = .ok () w) →
      Yields1 P (do eqGuard (bif n then .neq else .eql) T x y a b; binOp (bif n then .neq else .eql) T a b) K := by
    intro a b r h0 h1 h2 hK hg
    have he : ∀ w, (Op.equal T a b).run P w = .ok r w := fun w => h0 9999 w
    refine ⟨_, hK, fun w => ?_⟩
    rw [run_bind, hg]
    cases n
    · simp only [cond_false, h1, run_bind, he, run_pure, Bool.false_bne]
    · simp only [cond_true, h2, run_bind, he, run_pure, Bool.true_bne]
  have hu := fun w => run_underlying' hd w
  cases d <;> simp only [EqK.of, reduceCtorEq, Option.some.injEq] at hk <;> subst hk <;> unfold eqW at h <;> split at h <;> first
    | exact h.elim
    | (rename_i he _ _; cases he; done)
    | (rename_i he; cases he; done)
    | exact key _ _ _ (fun m w => by simp only [Op.equalIn, run_bind, hu]; exact run_pure _ _ _) rfl rfl h hg
    | exact key _ _ true (fun m w => by simp [Op.equalIn, run_bind, hu, run_pure]) rfl rfl (by simpa using h) hg
    | exact key _ _ false (fun m w => by simp [Op.equalIn, run_bind, hu, run_pure]) rfl rfl (by simpa using h) hg
    | (rename_i he1 he2 he3; cases he1; done)
    | (simp_all; done)
end Go.Eng
