/- One plain sentence: weakest preconditions, contracts and plain laws that the claim rests on, text behind text. Conditions: those that each states. -/
import Derived.Orders
import Derived.Laws.World
import Derived.KernelRfl
import Derived.Laws.Strings
import Derived.Tactics
import Derived.Scope
import Derived.Below
import Derived.Laws.AppendOwn
import Derived.Laws.BytesArg
import Derived.Test.YtdkikjcpgihjlaaGreatDoorProg
set_option linter.all false
set_option linter.unusedSimpArgs false
set_option linter.unusedVariables false
set_option linter.unusedSectionVars false
namespace Go.Eng
open Go
abbrev Fr := Nat → Value
def upd (f : Fr) (d : Option Nat) (v : Value) : Fr :=
  match d with
  | none => f
  | some d => fun j => bif Nat.beq j d then v else f j
def ev (f : Fr) : Operand → Value
  | .tmp t => f t
  | .const v => v
  | .global g => .pointer (some ⟨g, 0, none⟩)
  | .func g => .func (.func g) #[] #[]
def evl (f : Fr) (a : Array Operand) : List Value := a.toList.map (ev f)
def ofL (l : List UInt8) : ByteArray := ⟨l.toArray⟩
theorem ofL_data (l : List UInt8) : (ofL l).data.toList = l := by simp [ofL]
theorem ofL_size (l : List UInt8) : (ofL l).size = l.length := by simp [ofL, ByteArray.size]
theorem ofL_inj {a b : List UInt8} : ofL a = ofL b ↔ a = b := by
  constructor
  · intro h; have := congrArg (fun s => s.data.toList) h; simpa [ofL] using this
  · rintro rfl; rfl
class HX where
  X : List PanicEntry → World → Prop
@[reducible] def noX : HX := ⟨fun _ _ => False⟩
def EndK [HX] (K : Value → World → Prop) : Ending → World → Prop
  | .returned v, w => K v w
  | .panicked c, w => HX.X c w
  | .outgrown, _ => False
theorem EndK.mono [HX] {K K' : Value → World → Prop} (hk : ∀ v w, K v w → K' v w) {e : Ending} {w : World} (h : EndK K e w) : EndK K' e w := by
  cases e with
  | returned v => exact hk _ _ h
  | panicked c => exact h
  | outgrown => exact h.elim
def Res [HX] (P : Program) (K : Value → World → Prop) : Result Next → Prop
  | .ok (.value v) w => K v w
  | .ok .skip w => K undef w
  | .ok (.enter g args) w => Calls P g args w (EndK K)
  | .ok (.row r args) w => Rows P r args w K
  | .halt (.panic v) w => HX.X [{ v, recovered := false }] w
  | _ => False
theorem Res.upon [HX] {P : Program} {K : Value → World → Prop} {o : Oper} {a : Act} {next : Act → World → Prop} {Q : Exit → Act → World → Prop}
    (hk : ∀ v w, K v w → next (a.put o.dst v) w) (hx : ∀ c w, HX.X c w → Q (.panic c) a w) {r : Result Next} (h : Res P K r) : o.upon P a next Q r := by
  cases r with
  | ok n w =>
    cases n <;> simp only [Res] at h <;> simp only [Oper.upon] <;> first
      | exact hk _ _ h
      | exact h.elim
      | exact h.mono fun _ _ he => hk _ _ he
      | (refine h.mono fun e w' he => ?_
         cases e with
         | returned v => exact hk _ _ he
         | panicked c => exact hx _ _ he
         | outgrown => exact he.elim)
  | halt x w =>
    cases x <;> simp only [Res] at h <;> simp only [Oper.upon] <;> first
      | exact h.elim
      | exact hx _ _ h
theorem Res.mono [HX] {P : Program} {K K' : Value → World → Prop} (hk : ∀ v w, K v w → K' v w) {r : Result Next} (h : Res P K r) : Res P K' r := by
  cases r with
  | ok n w =>
    cases n <;> simp only [Res] at h ⊢ <;> first
      | exact hk _ _ h
      | exact h.elim
      | exact h.mono fun _ _ he => hk _ _ he
      | exact h.mono fun e w' he => he.mono hk
  | halt x w =>
    cases x <;> simp only [Res] at h ⊢ <;> first
      | exact h.elim
      | exact h
def andB (c : Bool) (A : Prop) : Prop := bif c then A else False
theorem andB.out {c : Bool} {A : Prop} (h : andB c A) : c = true ∧ A := by
  cases c with
  | true => exact ⟨rfl, h⟩
  | false => exact h.elim
def pickW (c a b : Value) (K : Value → Prop) : Prop := match c with | .bool t => K (bif t then a else b) | _ => False
def nilW (v : Value) (K : Value → Prop) : Prop :=
  match v with
  | .pointer (some _) => K v
  | .func (.func _) _ _ => K v
  | .iface _ _ => K v
  | _ => False
def binW (op : BinOp) (x y : Value) (K : Value → Prop) : Prop :=
  match x, y with
  | .int k a, .int k' b =>
    match op with
    | .shl => 0 ≤ b ∧ K (.int k (k.wrap (a * 2 ^ min b.toNat k.bits)))
    | .shr => 0 ≤ b ∧ K (.int k (a.fdiv (2 ^ min b.toNat k.bits)))
    | .add => k = k' ∧ K (.int k (k.wrap (a + b)))
    | .sub => k = k' ∧ K (.int k (k.wrap (a - b)))
    | .mul => k = k' ∧ K (.int k (k.wrap (a * b)))
    | .quo => k = k' ∧ b ≠ 0 ∧ K (.int k (k.wrap (a.tdiv b)))
    | .rem => k = k' ∧ b ≠ 0 ∧ K (.int k (a.tmod b))
    | .and => k = k' ∧ K (.int k (k.wrap (BitVec.ofInt k.bits a &&& BitVec.ofInt k.bits b).toNat))
    | .or => k = k' ∧ K (.int k (k.wrap (BitVec.ofInt k.bits a ||| BitVec.ofInt k.bits b).toNat))
    | .xor => k = k' ∧ K (.int k (k.wrap (BitVec.ofInt k.bits a ^^^ BitVec.ofInt k.bits b).toNat))
    | .andNot => k = k' ∧ K (.int k (k.wrap (BitVec.ofInt k.bits a &&& ~~~ BitVec.ofInt k.bits b).toNat))
    | .eql => k = k' ∧ K (.bool (decide (a = b)))
    | .neq => k = k' ∧ K (.bool (decide (a ≠ b)))
    | .lss => k = k' ∧ K (.bool (decide (a < b)))
    | .leq => k = k' ∧ K (.bool (decide (a ≤ b)))
    | .gtr => k = k' ∧ K (.bool (decide (b < a)))
    | .geq => k = k' ∧ K (.bool (decide (b ≤ a)))
  | .string a, .string b =>
    match op with
    | .add => ((a.size + b.size : Nat) : Int) ≤ IntKind.i64.max ∧ K (.string (a ++ b))
    | .eql => K (.bool (decide (a.data.toList = b.data.toList)))
    | .neq => K (.bool (decide (a.data.toList ≠ b.data.toList)))
    | .lss => K (.bool (Op.bytesLess a.data.toList b.data.toList))
    | .leq => K (.bool (Op.bytesLess a.data.toList b.data.toList || decide (a.data.toList = b.data.toList)))
    | .gtr => K (.bool (!(Op.bytesLess a.data.toList b.data.toList || decide (a.data.toList = b.data.toList))))
    | .geq => K (.bool (!Op.bytesLess a.data.toList b.data.toList))
    | _ => False
  | _, _ => False
inductive EqK | bool | ptr | slice | map | func
def EqK.of : TypeDesc → Option EqK
  | .bool => some .bool
  | .pointer _ => some .ptr
  | .slice _ => some .slice
  | .map _ _ => some .map
  | .func _ _ _ => some .func
  | _ => none
def eqW (k : EqK) (n : Bool) (x y : Value) (K : Value → Prop) : Prop :=
  match k, x, y with
  | .bool, .bool a, .bool b => K (.bool (n ^^ (a == b)))
  | .ptr, .pointer none, .pointer b => K (.bool (n ^^ b.isNone))
  | .ptr, .pointer (some _), .pointer none => K (.bool n)
  | .slice, .slice none _ _, .slice b _ _ => K (.bool (n ^^ b.isNone))
  | .slice, .slice (some _) _ _, .slice none _ _ => K (.bool n)
  | .map, .map none, .map b => K (.bool (n ^^ b.isNone))
  | .map, .map (some _), .map none => K (.bool n)
  | .func, .nilFunc, .nilFunc => K (.bool (!n))
  | .func, .nilFunc, .func _ _ _ => K (.bool n)
  | .func, .func _ _ _, .nilFunc => K (.bool n)
  | _, _, _ => False
def unW (op : UnOp) (x : Value) (K : Value → Prop) : Prop :=
  match op, x with
  | .not, .bool b => K (.bool (!b))
  | .neg, .int k n => K (.int k (k.wrap (0 - n)))
  | .xor, .int k n => K (.int k (k.wrap (BitVec.ofInt k.bits (if k.signed then -1 else k.max) ^^^ BitVec.ofInt k.bits n).toNat))
  | _, _ => False
def cvtW (k : IntKind) (x : Value) (K : Value → Prop) : Prop := match x with | .int _ n => K (.int k (k.wrap n)) | _ => False
def cvsW (x : Value) (K : Value → Prop) : Prop := match x with | .int _ n => K (.string (Utf8.encode n)) | .string s => K (.string s) | _ => False
def partW (agg : Bool) (off size : Nat) (x : Value) (K : Value → Prop) : Prop :=
  match x with
  | .agg cs => bif agg then K (.agg (cs.extract off (off + size))) else (∃ c, cs[off]? = some c ∧ K c)
  | _ => False
def fldW (off : Nat) (x : Value) (K : Value → Prop) : Prop :=
  match x with
  | .pointer (some a) => K (.pointer (some (a.add off)))
  | _ => False
def ixaW (len : Option Nat) (size : Nat) (x i : Value) (K : Value → Prop) : Prop :=
  match len, x, i with
  | none, .slice (some a) n _, .int _ i => 0 ≤ i ∧ i < n ∧ K (.pointer (some (a.add (i.toNat * size))))
  | some n, .pointer (some a), .int _ i => 0 ≤ i ∧ i < n ∧ K (.pointer (some (a.add (i.toNat * size))))
  | _, _, _ => False
def ixsW (x i : Value) (K : Value → Prop) : Prop :=
  match x, i with
  | .string s, .int _ i => 0 ≤ i ∧ ∃ b, s.data.toList[i.toNat]? = some b ∧ K (.int .u8 b.toNat)
  | _, _ => False
def ixgW (len : Nat) (agg : Bool) (size : Nat) (x i : Value) (K : Value → Prop) : Prop :=
  match i with
  | .int _ i => 0 ≤ i ∧ i < len ∧ partW agg (i.toNat * size) size x K
  | _ => False
def bdW (x : Option Value) (dflt : Nat) (lim : Nat) (K : Nat → Prop) : Prop :=
  match x with
  | none => K dflt
  | some (.int _ i) => 0 ≤ i ∧ i ≤ lim ∧ K i.toNat
  | some _ => False
def slsW (x : Value) (lo hi : Option Value) (K : Value → Prop) : Prop :=
  match x with
  | .string s => bdW hi s.size s.size fun h => bdW lo 0 h fun l => K (.string (ofL ((s.data.toList.take h).drop l)))
  | _ => False
def sllW (size : Nat) (x : Value) (lo hi mx : Option Value) (K : Value → Prop) : Prop :=
  match x with
  | .slice a len cap => bdW mx cap cap fun m => (bdW hi len m fun h => bdW lo 0 h fun l =>
      K (.slice (if m = l then a else a.map (·.add (l * size))) (h - l) (m - l)))
  | _ => False
def slaW (n size : Nat) (x : Value) (lo hi mx : Option Value) (K : Value → Prop) : Prop :=
  match x with
  | .pointer (some a) => bdW mx n n fun m => (bdW hi n m fun h => bdW lo 0 h fun l =>
      K (.slice (some (if m = l then a else a.add (l * size))) (h - l) (m - l)))
  | _ => False
def extW (i : Nat) (x : Value) (K : Value → Prop) : Prop := match x with | .tuple vs => (match vs[i]? with | some v => K v | none => False) | _ => False
def putW (cells : List Value) : List (Nat × Nat × Value) → (List Value → Prop) → Prop
  | [], K => K cells
  | (off, size, v) :: r, K => v.cells.size = size ∧ off + size ≤ cells.length ∧ putW (cells.take off ++ (v.cells.toList ++ cells.drop (off + size))) r K
def lensW (x : Value) (K : Value → Prop) : Prop := match x with | .string s => K (.int .i64 s.size) | _ => False
def lenlW (x : Value) (K : Value → Prop) : Prop := match x with | .slice _ n _ => K (.int .i64 n) | _ => False
def capW (x : Value) (K : Value → Prop) : Prop := match x with | .slice _ _ n => K (.int .i64 n) | _ => False
def minW (x y : Value) (K : Value → Prop) : Prop := match x, y with | .int k a, .int _ b => K (.int k (if b < a then b else a)) | _, _ => False
def min3W (x y z : Value) (K : Value → Prop) : Prop := match x, y, z with | .int k a, .int _ b, .int _ c => K (.int k (if c < (if b < a then b else a) then c else (if b < a then b else a))) | _, _, _ => False
def maxW (x y : Value) (K : Value → Prop) : Prop := match x, y with | .int k a, .int _ b => K (.int k (if a < b then b else a)) | _, _ => False
def cellsAt (w : World) (a : Addr) : Nat → Nat → Option (List Value)
  | _, 0 => some []
  | i, n + 1 => match w.cell? (a.add i) with | some v => (cellsAt w a (i + 1) n).map (v :: ·) | none => none
def ldW (agg : Bool) (n : Nat) (x : Value) (w : World) (K : Value → Prop) : Prop :=
  match x with
  | .pointer (some a) => bif agg then (∃ l, cellsAt w a 0 n = some l ∧ K (.agg l.toArray)) else (∃ v, w.cell? a = some v ∧ K v)
  | _ => False
def semQ (P : Program) (s : Sem Value) (w : World) (K : Value → Prop) : Prop := ∃ v, s.run P w = .ok v w ∧ K v
def semE (P : Program) (s : Sem Value) (w : World) (K : Value → World → Prop) : Prop := match s.run P w with | .ok v w' => K v w' | _ => False
def semU (P : Program) (s : Sem Unit) (w : World) (K : World → Prop) : Prop := match s.run P w with | .ok _ w' => K w' | _ => False
def semN [HX] (P : Program) (s : Sem Next) (w : World) (K : Value → World → Prop) : Prop := Res P K (s.run P w)
def allocW (T : TypeId) (zero : List Value) (w : World) (K : Value → World → Prop) : Prop :=
  K (.pointer (some ⟨w.heap.size, 0, none⟩)) (w.alloc (.cells zero.toArray T))
def boxW (T : TypeId) (v : Value) (w : World) (K : Value → World → Prop) : Prop :=
  K (.pointer (some ⟨w.heap.size, 0, none⟩)) (w.alloc (.cells v.cells T))
def bslW (T : TypeId) (len : Nat) (zero : List Value) (parts : List (Nat × Nat × Value)) (w : World) (K : Value → World → Prop) : Prop :=
  putW zero parts fun cs => K (.slice (some ⟨w.heap.size, 0, none⟩) len len) (w.alloc (.cells cs.toArray T))
def one1 : Value → Bool
  | .agg _ | .tuple _ => false
  | _ => true
def stCells (a : Addr) : List Value → Nat → World → (World → Prop) → Prop
  | [], _, w, K => K w
  | v :: r, i, w, K => one1 v = true ∧ (w.cell? (a.add i)).isSome = true ∧ w.frozen? (a.add i) = false ∧ stCells a r (i + 1) (w.setCell (a.add i) v) K
def stW (n : Nat) (x v : Value) (w : World) (K : World → Prop) : Prop :=
  match x with
  | .pointer (some a) => v.cells.size = n ∧ stCells a v.cells.toList 0 w K
  | _ => False
def callW [HX] (P : Program) (g : FuncId) (args : List Value) (w : World) (K : Value → World → Prop) : Prop :=
  Calls P g args.toArray w (EndK K)
def pncW [HX] (x : Value) (w : World) : Prop := match x with | .iface T v => HX.X [{ v := .iface T v, recovered := false }] w | _ => False
def callF [HX] (P : Program) (g : FuncId) (args : List Value) (w : World) (K : Value → World → Prop) : Prop :=
  Res P K ((callFunc g args.toArray).run P w)
def callV [HX] (P : Program) (v : Value) (args : List Value) (w : World) (K : Value → World → Prop) : Prop :=
  semN P (do let d ← Deferred.ofValue v args.toArray; invoke d.target d.args) w K
end Go.Eng
namespace Go.Eng
open Go
def isAggD : TypeDesc → Bool
  | .struct _ | .array _ _ => true
  | _ => false
def isAggT (P : Program) (T : TypeId) : Bool := match P.underlying T with | some d => isAggD d | none => false
def sizeT (P : Program) (T : TypeId) : Nat := match P.info? T with | some i => i.size | none => 0
def zeroT (P : Program) (T : TypeId) : Option Value := match P.info? T with | some i => i.zero | none => none
def partsAt (places : Nat → Option (Nat × Nat)) (f : Fr) : List (Nat × Operand) → Option (List (Nat × Nat × Value))
  | [] => some []
  | (i, x) :: r => match places i, partsAt places f r with
    | some (off, size), some l => some ((off, size, ev f x) :: l)
    | _, _ => none
def sPlace (P : Program) (fs : Array Field) (i : Nat) : Option (Nat × Nat) := match fs[i]? with | some g => some (g.offset, sizeT P g.type) | none => none
def buildW (P : Program) (T : TypeId) (f : Fr) (parts : List (Nat × Operand)) (K : Value → Prop) : Prop :=
  match P.underlying T, zeroT P T with
  | some (.struct fs), some z =>
    (match partsAt (sPlace P fs) f parts with
     | some l => andB (fs.all (fun g => (P.info? g.type).isSome)) (putW z.cells.toList l fun cs => K (.agg cs.toArray))
     | none => False)
  | some (.array _ e), some z =>
    (match partsAt (fun i => some (i * sizeT P e, sizeT P e)) f parts with
     | some l => andB (P.info? e).isSome (putW z.cells.toList l fun cs => K (.agg cs.toArray))
     | none => False)
  | _, _ => False
def cmpW (P : Program) (op : BinOp) (T : TypeId) (x y : Value) (K : Value → Prop) : Prop :=
  match op, (match P.underlying T with | some d => EqK.of d | none => none) with
  | .eql, some k => eqW k false x y K
  | .neq, some k => eqW k true x y K
  | _, _ => binW op x y K
def convW (P : Program) (s d : TypeId) (x : Value) (K : Value → Prop) : Prop :=
  match P.underlying s, P.underlying d with
  | some (.int _), some (.int k) => cvtW k x K
  | some (.int _), some .string => cvsW x K
  | some .string, some .string => cvsW x K
  | _, _ => False
def indexAddrW (P : Program) (T : TypeId) (x i : Value) (K : Value → Prop) : Prop :=
  match P.underlying T with
  | some (.slice e) => andB (P.info? e).isSome (ixaW none (sizeT P e) x i K)
  | some (.array n e) => andB (P.info? e).isSome (ixaW (some n) (sizeT P e) x i K)
  | _ => False
def indexW (P : Program) (T : TypeId) (x i : Value) (K : Value → Prop) : Prop :=
  match P.underlying T with
  | some .string => ixsW x i K
  | some (.array n e) => andB (P.underlying e).isSome (ixgW n (isAggT P e) (sizeT P e) x i K)
  | _ => False
def sliceW (P : Program) (T : TypeId) (x : Value) (lo hi mx : Option Value) (K : Value → Prop) : Prop :=
  match P.underlying T with
  | some .string => andB (!mx.isSome) (slsW x lo hi K)
  | some (.slice e) => andB (!mx.isSome || hi.isSome) (andB (P.info? e).isSome (sllW (sizeT P e) x lo hi mx K))
  | some (.array n e) => andB (!mx.isSome || hi.isSome) (andB (P.info? e).isSome (slaW n (sizeT P e) x lo hi mx K))
  | _ => False
def pureCallW (P : Program) (b : Builtin) (argTypes : Array TypeId) (args : List Value) (K : Value → Prop) : Prop :=
  match b, args with
  | .len, [x] => (match argTypes[0]? with
      | some T => (match P.underlying T with
        | some .string => lensW x K
        | some (.slice _) => lenlW x K
        | some (.array n _) => K (.int .i64 n)
        | _ => False)
      | none => False)
  | .cap, [x] => (match argTypes[0]? with
      | some T => (match P.underlying T with
        | some (.slice _) => capW x K
        | _ => False)
      | none => False)
  | .min, [x, y] => minW x y K
  | .min, [x, y, z] => min3W x y z K
  | .max, [x, y] => maxW x y K
  | _, _ => False
def pureW (P : Program) (f : Fr) (op : Op) (K : Value → Prop) : Prop :=
  match op with
  | .move x | .assign x => K (ev f x)
  | .pick c a b => pickW (ev f c) (ev f a) (ev f b) K
  | .nilCheck x => nilW (ev f x) K
  | .binOp op T x y _ => cmpW P op T (ev f x) (ev f y) K
  | .unOp op _ x => unW op (ev f x) K
  | .convert s d x => convW P s d (ev f x) K
  | .makeInterface T x => (match P.underlying T with | some (.interface _) => False | none => False | _ => K (.iface T (ev f x)))
  | .makeFunc fn first cap => K (.func fn (evl f first).toArray (evl f cap).toArray)
  | .field T x i => (match P.underlying T with
      | some (.struct fs) => (match fs[i]? with | some g => andB (P.underlying g.type).isSome (partW (isAggT P g.type) g.offset (sizeT P g.type) (ev f x) K) | none => False)
      | _ => False)
  | .fieldAddr T x i => (match P.underlying T with
      | some (.struct fs) => (match fs[i]? with | some g => andB (!(Nat.beq (sizeT P g.type) 0)) (fldW g.offset (ev f x) K) | none => False)
      | _ => False)
  | .indexAddr T x i => indexAddrW P T (ev f x) (ev f i) K
  | .index T x i => indexW P T (ev f x) (ev f i) K
  | .slice T x lo hi mx => sliceW P T (ev f x) (lo.map (ev f)) (hi.map (ev f)) (mx.map (ev f)) K
  | .extract t i => extW i (ev f t) K
  | .build T parts => buildW P T f parts.toList K
  | .call { callee := .builtin b, args, argTypes } => pureCallW P b argTypes (evl f args) K
  | _ => False
def isPure (P : Program) : Op → Bool
  | .move _ | .assign _ | .pick .. | .nilCheck _ | .unOp .. | .makeInterface .. | .makeFunc .. | .field .. | .fieldAddr .. | .indexAddr .. | .index .. | .slice ..
  | .extract .. | .build .. => true
  | .binOp op T _ _ _ => (match op with
    | .eql | .neq => (match P.underlying T with | some (.interface _) | some (.struct _) | some (.array _ _) | some (.chan _ _) | none => false | _ => true)
    | _ => true)
  | .convert s d _ => (match P.underlying s, P.underlying d with | some (.int _), some (.int _) | some (.int _), some .string | some .string, some .string => true | _, _ => false)
  | .call { callee := .builtin b, argTypes, .. } => (match b with
    | .min | .max | .cap => true
    | .len => (match argTypes[0]? with | some T => (match P.underlying T with | some (.map _ _) | none => false | _ => true) | none => false)
    | _ => false)
  | _ => false
def Yields1 (P : Program) (s : Sem Value) (K : Value → Prop) : Prop := ∃ v, K v ∧ ∀ w, s.run P w = .ok v w
theorem run_bind {α β : Type} (P : Program) (s : Sem α) (k : α → Sem β) (w : World) :
    (s >>= k).run P w = match s.run P w with | .ok a w' => (k a).run P w' | .halt h w' => .halt h w' := by
  show (Sem.bind s k).run P w = _
  induction s generalizing w with
  | pure a => simp [Sem.bind, Sem.run]
  | load m a c ih => simp only [Sem.bind, Sem.run]; (repeat' split) <;> simp_all
  | store m a v c ih =>
    cases v <;> simp only [Sem.bind, Sem.run] <;> ((repeat' split) <;> simp_all)
  | new o c ih => simp [Sem.bind, Sem.run, ih]
  | shape r c ih => simp [Sem.bind, Sem.run, ih]
  | freeze a n c ih => simp [Sem.bind, Sem.run, ih]
  | frozen a c ih => simp [Sem.bind, Sem.run, ih]
  | getObj r c ih => simp only [Sem.bind, Sem.run]; (repeat' split) <;> simp_all
  | setObj r o c ih => simp only [Sem.bind, Sem.run]; (repeat' split) <;> simp_all
  | choose q c ih => simp only [Sem.bind, Sem.run]; (repeat' split) <;> simp_all
  | sys c k' ih => simp [Sem.bind, Sem.run, ih]
  | program c ih => simp [Sem.bind, Sem.run, ih]
  | mark m c ih => simp [Sem.bind, Sem.run, ih]
  | halt h => simp [Sem.bind, Sem.run]
theorem run_pure {α : Type} (P : Program) (a : α) (w : World) : (pure a : Sem α).run P w = .ok a w := rfl
theorem run_underlying' {P : Program} {T : TypeId} {d : TypeDesc} (h : P.underlying T = some d) (w : World) : (underlying T).run P w = .ok d w := by
  simp [underlying, run_bind, program, Sem.run, h, run_pure]
theorem run_typeInfo' {P : Program} {T : TypeId} {i : TypeInfo} (h : P.info? T = some i) (w : World) : (typeInfo T).run P w = .ok i w := by
  simp [typeInfo, run_bind, program, Sem.run, h, run_pure]
theorem run_sizeOf' {P : Program} {T : TypeId} (h : (P.info? T).isSome = true) (w : World) : (sizeOf T).run P w = .ok (sizeT P T) w := by
  cases hi : P.info? T with
  | none => rw [hi] at h; cases h
  | some i => simp [sizeOf, run_bind, run_typeInfo' hi, run_pure, sizeT, hi]
theorem underlying_info {P : Program} {T : TypeId} (h : (P.underlying T).isSome = true) : (P.info? T).isSome = true := by
  unfold Program.underlying at h
  cases hi : P.info? T with
  | none => simp [hi] at h
  | some i => rfl
theorem run_isAgg' {P : Program} {T : TypeId} (h : (P.underlying T).isSome = true) (w : World) : (isAgg T).run P w = .ok (isAggT P T) w := by
  cases hi : P.underlying T with
  | none => rw [hi] at h; cases h
  | some d =>
    simp only [isAgg, run_bind, run_underlying' hi, isAggT, hi]
    cases d <;> rfl
theorem zeroT_run {P : Program} {T : TypeId} {z : Value} (h : zeroT P T = some z) (w : World) : (zeroValue T).run P w = .ok z w := by
  unfold zeroT at h
  cases hi : P.info? T with
  | none => simp [hi] at h
  | some i =>
    simp only [hi] at h
    simp [zeroValue, run_bind, run_typeInfo' hi, h, run_pure]
theorem part_run {P : Program} {T : TypeId} {off : Nat} {x : Value} {K : Value → Prop} (hT : (P.underlying T).isSome = true) (h : partW (isAggT P T) off (sizeT P T) x K) :
    ∃ cs, x = .agg cs ∧ Yields1 P (part T cs off) K := by
  cases x with
  | agg cs =>
    refine ⟨cs, rfl, ?_⟩
    simp only [partW] at h
    cases ha : isAggT P T with
    | true =>
      rw [ha] at h
      exact ⟨_, h, fun w => by simp [part, run_bind, run_isAgg' hT, ha, run_sizeOf' (underlying_info hT), run_pure]⟩
    | false =>
      rw [ha] at h
      obtain ⟨c, hc, hk⟩ := h
      exact ⟨c, hk, fun w => by simp [part, run_bind, run_isAgg' hT, ha, hc, run_pure]⟩
  | _ => exact h.elim
theorem bdW_run {P : Program} {x : Option Value} {dflt lim : Nat} {K : Nat → Prop} (h : bdW x dflt lim K) :
    ∃ n, K n ∧ ((x = none ∧ n = dflt) ∨ ∃ v, x = some v ∧ ∀ (code : BoundsCode) (w : World), (Instr.sliceBound v lim code).run P w = .ok n w) := by
  cases x with
  | none => exact ⟨dflt, h, .inl ⟨rfl, rfl⟩⟩
  | some v =>
    cases v <;> simp only [bdW] at h
    case int k i =>
      obtain ⟨h0, h1, hk⟩ := h
      exact ⟨_, hk, .inr ⟨_, rfl, fun code w => by simp [Instr.sliceBound, asIntOf, run_bind, run_pure, h0, h1]⟩⟩
theorem bounds_run {P : Program} {isSlice : Bool} {len cap : Nat} {lo hi mx : Option Value} {K : Nat → Nat → Nat → Prop} (hm : mx.isSome = true → hi.isSome = true)
    (h : bdW mx cap cap fun m => bdW hi len m fun h => bdW lo 0 h fun l => K l h m) :
    ∃ l h m, K l h m ∧ ∀ w, (Instr.sliceBounds isSlice len cap lo hi mx).run P w = .ok (l, h, m) w := by
  obtain ⟨m, h1, hm1⟩ := bdW_run (P := P) h
  obtain ⟨hh, h2, hh1⟩ := bdW_run (P := P) h1
  obtain ⟨l, h3, hl1⟩ := bdW_run (P := P) h2
  refine ⟨l, hh, m, h3, fun w => ?_⟩
  rcases hm1 with ⟨rfl, rfl⟩ | ⟨vm, rfl, rm⟩ <;> rcases hh1 with ⟨rfl, rfl⟩ | ⟨vh, rfl, rh⟩ <;> rcases hl1 with ⟨rfl, rfl⟩ | ⟨vl, rfl, rl⟩ <;>
    first
      | (simp at hm; done)
      | simp [Instr.sliceBounds, run_bind, run_pure, *]
theorem putW_fill {place : Nat → Option (Nat × Nat)} {f : Fr} {K : List Value → Prop} : ∀ (parts : List (Nat × Operand)) (l : List (Nat × Nat × Value)) (cells : List Value),
    partsAt place f parts = some l → putW cells l K → ∃ cs, K cs ∧ Instr.fill place cells.toArray (parts.map fun p => (p.1, ev f p.2)) = some cs.toArray
  | [], l, cells, hp, h => by
    simp only [partsAt, Option.some.injEq] at hp
    subst hp
    exact ⟨cells, h, rfl⟩
  | (i, x) :: r, l, cells, hp, h => by
    simp only [partsAt] at hp
    cases hpl : place i with
    | none => simp [hpl] at hp
    | some os =>
      obtain ⟨off, size⟩ := os
      cases hr : partsAt place f r with
      | none => simp [hpl, hr] at hp
      | some l' =>
        simp only [hpl, hr, Option.some.injEq] at hp
        subst hp
        obtain ⟨h1, h2, h3⟩ := h
        obtain ⟨cs, hk, hf⟩ := putW_fill r l' _ hr h3
        refine ⟨cs, hk, ?_⟩
        simp only [List.map_cons, Instr.fill, hpl]
        rw [if_neg (by simp [h1]; omega)]
        rw [← hf]
        congr 1
        have key : ∀ (vs : List Value) (k : Nat) (cs : List Value), off + k + vs.length ≤ cs.length →
            (vs.zipIdx k).foldl (fun (a : Array Value) (p : Value × Nat) => a.setIfInBounds (off + p.2) p.1) cs.toArray = (cs.take (off + k) ++ (vs ++ cs.drop (off + k + vs.length))).toArray := by
          intro vs
          induction vs with
          | nil => intro k cs _; simp
          | cons v vs ih =>
            intro k cs hle
            simp only [List.length_cons] at hle
            simp only [List.zipIdx_cons, List.foldl_cons]
            rw [List.setIfInBounds_toArray, ih (k + 1) _ (by simp; omega)]
            congr 1
            apply List.ext_getElem?
            intro j
            simp only [List.getElem?_append, List.length_take, List.length_set, List.getElem?_take, List.getElem?_set, List.getElem?_drop, List.length_cons, List.getElem?_cons]
            (repeat' split) <;> first
              | rfl
              | omega
              | (simp_all; done)
              | (congr 1; omega)
              | (rename_i h1 h2 h3; simp at h1; omega)
        have hk := key (ev f x).cells.toList 0 cells (by simp; omega)
        simp only [Nat.add_zero] at hk
        rw [← h1]
        simp only [Array.length_toList] at hk
        rw [← hk, ← Array.foldl_toList]
        simp
def YieldsN (P : Program) (s : Sem Next) (K : Value → Prop) : Prop := ∃ v, K v ∧ ∀ w, s.run P w = .ok (.value v) w
theorem YieldsN.of1 {P : Program} {s : Sem Value} {K : Value → Prop} (h : Yields1 P s K) : YieldsN P (do pure (.value (← s))) K := by
  obtain ⟨v, hk, hr⟩ := h
  exact ⟨v, hk, fun w => by rw [run_bind, hr]; rfl⟩
theorem beq_dec {α : Type} [BEq α] [LawfulBEq α] [DecidableEq α] (a b : α) : (a == b) = decide (a = b) := by
  by_cases h : a = b <;> simp [h]
theorem y_bin {P : Program} {op : BinOp} {T : TypeId} {x y : Operand} {f : Fr} {K : Value → Prop} (h : binW op (ev f x) (ev f y) K) :
    Yields1 P (do eqGuard op T x y (ev f x) (ev f y); binOp op T (ev f x) (ev f y)) K := by
  generalize ev f x = a at *
  generalize ev f y = b at *
  cases a <;> cases b <;> simp only [binW] at h <;> first | exact h.elim | skip
  case int.int k a k' b =>
    have hg : ∀ w, (eqGuard op T x y (.int k a) (.int k' b)).run P w = .ok () w := fun w => by cases op <;> simp [eqGuard, run_pure]
    cases op <;> simp only at h
    case shl => exact ⟨_, h.2, fun w => by rw [run_bind, hg]; simp [binOp, Op.shift, run_pure, Int.not_lt.2 h.1]⟩
    case shr => exact ⟨_, h.2, fun w => by rw [run_bind, hg]; simp [binOp, Op.shift, run_pure, Int.not_lt.2 h.1]⟩
    case quo => obtain ⟨rfl, hb, hk⟩ := h; exact ⟨_, hk, fun w => by rw [run_bind, hg]; simp [binOp, Op.intDiv, run_pure, hb]⟩
    case rem => obtain ⟨rfl, hb, hk⟩ := h; exact ⟨_, hk, fun w => by rw [run_bind, hg]; simp [binOp, Op.intDiv, run_pure, hb]⟩
    case add => obtain ⟨rfl, hk⟩ := h; exact ⟨_, hk, fun w => by rw [run_bind, hg]; simp [binOp, Op.intArith, run_pure]⟩
    case sub => obtain ⟨rfl, hk⟩ := h; exact ⟨_, hk, fun w => by rw [run_bind, hg]; simp [binOp, Op.intArith, run_pure]⟩
    case mul => obtain ⟨rfl, hk⟩ := h; exact ⟨_, hk, fun w => by rw [run_bind, hg]; simp [binOp, Op.intArith, run_pure]⟩
    case and => obtain ⟨rfl, hk⟩ := h; exact ⟨_, hk, fun w => by rw [run_bind, hg]; simp only [binOp, Op.intBits, ne_eq, not_true_eq_false, if_false]; rfl⟩
    case or => obtain ⟨rfl, hk⟩ := h; exact ⟨_, hk, fun w => by rw [run_bind, hg]; simp only [binOp, Op.intBits, ne_eq, not_true_eq_false, if_false]; rfl⟩
    case xor => obtain ⟨rfl, hk⟩ := h; exact ⟨_, hk, fun w => by rw [run_bind, hg]; simp only [binOp, Op.intBits, ne_eq, not_true_eq_false, if_false]; rfl⟩
    case andNot => obtain ⟨rfl, hk⟩ := h; exact ⟨_, hk, fun w => by rw [run_bind, hg]; simp only [binOp, Op.intBits, ne_eq, not_true_eq_false, if_false]; rfl⟩
    case eql => obtain ⟨rfl, hk⟩ := h; exact ⟨_, hk, fun w => by rw [run_bind, hg]; simp [binOp, Op.intCmp, run_pure, beq_dec]⟩
    case neq => obtain ⟨rfl, hk⟩ := h; exact ⟨_, hk, fun w => by rw [run_bind, hg]; simp [binOp, Op.intCmp, run_pure, bne, beq_dec]⟩
    case lss => obtain ⟨rfl, hk⟩ := h; exact ⟨_, hk, fun w => by rw [run_bind, hg]; simp [binOp, Op.intCmp, run_pure]⟩
    case leq => obtain ⟨rfl, hk⟩ := h; exact ⟨_, hk, fun w => by rw [run_bind, hg]; simp [binOp, Op.intCmp, run_pure]⟩
    case gtr => obtain ⟨rfl, hk⟩ := h; exact ⟨_, hk, fun w => by rw [run_bind, hg]; simp [binOp, Op.intCmp, run_pure]⟩
    case geq => obtain ⟨rfl, hk⟩ := h; exact ⟨_, hk, fun w => by rw [run_bind, hg]; simp [binOp, Op.intCmp, run_pure]⟩
  case string.string a b =>
    have hg : ∀ w, (eqGuard op T x y (.string a) (.string b)).run P w = .ok () w := fun w => by cases op <;> simp [eqGuard, run_pure]
    have he : (a.toList == b.toList) = decide (a.data.toList = b.data.toList) := by rw [ByteArray.toList_eq, ByteArray.toList_eq, beq_dec]
    have hl : Op.bytesLess a.toList b.toList = Op.bytesLess a.data.toList b.data.toList := by rw [ByteArray.toList_eq, ByteArray.toList_eq]
    cases op <;> simp only at h <;> first | exact h.elim | skip
    case add => exact ⟨_, h.2, fun w => by rw [run_bind, hg]; simp only [binOp, Op.stringOp]; rw [if_neg (by have := h.1; omega)]; rfl⟩
    case eql => exact ⟨_, h, fun w => by rw [run_bind, hg]; simp only [binOp, Op.stringOp]; rw [he]; rfl⟩
    case neq => exact ⟨_, h, fun w => by rw [run_bind, hg]; simp only [binOp, Op.stringOp]; rw [he]; simp [run_pure]⟩
    case lss => exact ⟨_, h, fun w => by rw [run_bind, hg]; simp only [binOp, Op.stringOp]; rw [hl]; rfl⟩
    case leq => exact ⟨_, h, fun w => by rw [run_bind, hg]; simp only [binOp, Op.stringOp]; rw [he, hl]; rfl⟩
    case gtr => exact ⟨_, h, fun w => by rw [run_bind, hg]; simp only [binOp, Op.stringOp]; rw [he, hl]; rfl⟩
    case geq => exact ⟨_, h, fun w => by rw [run_bind, hg]; simp only [binOp, Op.stringOp]; rw [hl]; rfl⟩
theorem eqK_guard {P : Program} {op : BinOp} {T : TypeId} {x y : Operand} {k : EqK} {n : Bool} {a b : Value} {K : Value → Prop} (h : eqW k n a b K) (w : World) :
    (eqGuard op T x y a b).run P w = .ok () w := by
  cases op <;> simp only [eqGuard] <;> first | rfl | (cases a <;> cases b <;> first | rfl | (cases k <;> exact h.elim))
theorem y_eq {P : Program} {T : TypeId} {x y : Operand} {f : Fr} {d : TypeDesc} {k : EqK} {n : Bool} {K : Value → Prop} (hd : P.underlying T = some d) (hk : EqK.of d = some k)
    (h : eqW k n (ev f x) (ev f y) K) :
    Yields1 P (do eqGuard (bif n then .neq else .eql) T x y (ev f x) (ev f y); binOp (bif n then .neq else .eql) T (ev f x) (ev f y)) K := by
  have hg := fun w => eqK_guard (P := P) (op := (bif n then .neq else .eql)) (T := T) (x := x) (y := y) h w
  generalize ev f x = a at *
  generalize ev f y = b at *
  have key : ∀ (a b : Value) (r : Bool), (∀ m w, (Op.equalIn (m + 1) T a b).run P w = .ok r w) →
      (binOp .eql T a b = (do pure (.bool (← Op.equal T a b)))) → (binOp .neq T a b = (do pure (.bool (!(← Op.equal T a b))))) → K (.bool (n ^^ r)) → (∀ w, (eqGuard (bif n then .neq else .eql) T x y a b).run P w = .ok () w) →
      Yields1 P (do eqGuard (bif n then .neq else .eql) T x y a b; binOp (bif n then .neq else .eql) T a b) K := by
    intro a b r h0 h1 h2 hK hg
    have he : ∀ w, (Op.equal T a b).run P w = .ok r w := fun w => h0 9999 w
    refine ⟨_, hK, fun w => ?_⟩
    rw [run_bind, hg]
    cases n
    · simp only [cond_false, h1, run_bind, he, run_pure, Bool.false_bne]
    · simp only [cond_true, h2, run_bind, he, run_pure, Bool.true_bne]
  have hu := fun w => run_underlying' hd w
  cases d <;> simp only [EqK.of, reduceCtorEq, Option.some.injEq] at hk <;> subst hk <;> unfold eqW at h <;> split at h <;> first
    | exact h.elim
    | (rename_i he _ _; cases he; done)
    | (rename_i he; cases he; done)
    | exact key _ _ _ (fun m w => by simp only [Op.equalIn, run_bind, hu]; exact run_pure _ _ _) rfl rfl h hg
    | exact key _ _ true (fun m w => by simp [Op.equalIn, run_bind, hu, run_pure]) rfl rfl (by simpa using h) hg
    | exact key _ _ false (fun m w => by simp [Op.equalIn, run_bind, hu, run_pure]) rfl rfl (by simpa using h) hg
    | (rename_i he1 he2 he3; cases he1; done)
    | (simp_all; done)
end Go.Eng
namespace Go.Eng
open Go
theorem evl_map (f : Fr) (a : Array Operand) : a.map (ev f) = (evl f a).toArray := by apply Array.ext'; simp [evl]
theorem run_pure_fn {P : Program} {fn : Fn} {a b : Array Value} {w : World} : (Instr.makeFunc fn a b).run P w = .ok (.func fn a b) w := rfl
theorem build_run {P : Program} {T : TypeId} {f : Fr} {parts : Array (Nat × Operand)} {K : Value → Prop} (h : buildW P T f parts.toList K) :
    Yields1 P (Instr.build T (parts.map fun (i, x) => (i, ev f x))) K := by
  unfold buildW at h
  have hparts : (parts.map fun (i, x) => (i, ev f x)).toList = parts.toList.map fun p => (p.1, ev f p.2) := by simp
  split at h
  · rename_i fs z hd hz
    split at h
    · rename_i l hl
      replace h := andB.out h
      obtain ⟨hall, hp⟩ := h
      obtain ⟨cs, hk, hf⟩ := putW_fill _ _ _ hl hp
      refine ⟨_, hk, fun w => ?_⟩
      have hmap : ∀ w, (fs.mapM fun g => do pure (g.offset, ← sizeOf g.type) : Sem (Array (Nat × Nat))).run P w = .ok (fs.map fun g => (g.offset, sizeT P g.type)) w := by
        intro w
        have : ∀ (l : List Field), (∀ g ∈ l, (P.info? g.type).isSome = true) → ∀ w, (l.mapM fun g => do pure (g.offset, ← sizeOf g.type) : Sem (List (Nat × Nat))).run P w = .ok (l.map fun g => (g.offset, sizeT P g.type)) w := by
          intro l
          induction l with
          | nil => intro _ w; rfl
          | cons g l ih =>
            intro hg w
            rw [List.mapM_cons]
            simp only [run_bind, run_sizeOf' (hg g (by simp)), run_pure, ih (fun x hx => hg x (by simp [hx])), List.map_cons]
        have hfs := this fs.toList (fun g hg => Array.all_eq_true_iff_forall_mem.1 hall g (by simpa using hg)) w
        rw [Array.mapM_eq_mapM_toList, ← bind_pure_comp, run_bind, hfs]
        show Result.ok _ _ = _
        congr 1
        apply Array.ext'; simp
      simp only [Instr.build, run_bind, zeroT_run hz, run_underlying' hd, hmap]
      rw [hparts]
      have hpl : (fun (i : Nat) => (fs.map fun (g : Field) => (g.offset, sizeT P g.type))[i]?) = sPlace P fs := by
        funext i; rw [Array.getElem?_map]; unfold sPlace; cases fs[i]? <;> rfl
      rw [hpl]
      simp only [Array.toArray_toList] at hf
      rw [hf]
      rfl
    · exact h.elim
  · rename_i n e z hd hz
    split at h
    · rename_i l hl
      replace h := andB.out h
      obtain ⟨hall, hp⟩ := h
      obtain ⟨cs, hk, hf⟩ := putW_fill _ _ _ hl hp
      refine ⟨_, hk, fun w => ?_⟩
      simp only [Instr.build, run_bind, zeroT_run hz, run_underlying' hd, run_sizeOf' hall]
      rw [hparts]
      simp only [Array.toArray_toList] at hf
      rw [hf]
      rfl
    · exact h.elim
  · exact h.elim
theorem extract_ofL (s : ByteArray) (l h : Nat) : s.extract l h = ofL ((s.data.toList.take h).drop l) := by
  apply ByteArray.ext
  apply Array.ext'
  simp [ofL, ByteArray.extract, ByteArray.copySlice, List.drop_take]
theorem slice_run {P : Program} {T : TypeId} {x : Value} {lo hi mx : Option Value} {K : Value → Prop} (h : sliceW P T x lo hi mx K) :
    Yields1 P (Instr.sliceAt T x lo hi mx) K := by
  unfold sliceW at h
  split at h
  · rename_i hd
    replace h := andB.out h
    obtain ⟨hm, h⟩ := h
    cases mx with
    | some _ => cases hm
    | none =>
      cases x <;> simp only [slsW] at h <;> try exact h.elim
      rename_i s
      have h' : bdW (none : Option Value) s.size s.size fun m => bdW hi s.size m fun h => bdW lo 0 h fun l => (fun l h (_ : Nat) => K (.string (ofL ((s.data.toList.take h).drop l)))) l h m := h
      obtain ⟨l, hh, m, hk, hr⟩ := bounds_run (P := P) (isSlice := false) (by simp) h'
      refine ⟨_, hk, fun w => ?_⟩
      simp only [Instr.sliceAt, run_bind, run_underlying' hd, Instr.slice]
      simp [hr, run_bind, run_underlying' hd, run_pure]
      apply extract_ofL
  · rename_i e hd
    replace h := andB.out h
    obtain ⟨hm, h⟩ := h
    replace h := andB.out h
    obtain ⟨he, h⟩ := h
    replace hm : mx.isSome = true → hi.isSome = true := fun hx => by rw [hx] at hm; simpa using hm
    cases x <;> simp only [sllW] at h <;> try exact h.elim
    rename_i a len cap
    obtain ⟨l, hh, m, hk, hr⟩ := bounds_run (P := P) (isSlice := true) (K := fun l h m => K (.slice (if m = l then a else a.map (·.add (l * sizeT P e))) (h - l) (m - l))) hm h
    refine ⟨_, hk, fun w => ?_⟩
    simp only [Instr.sliceAt, run_bind, run_underlying' hd, Instr.slice]
    simp [hr, run_bind, run_underlying' hd, run_pure, run_sizeOf' he]
  · rename_i n e hd
    replace h := andB.out h
    obtain ⟨hm, h⟩ := h
    replace h := andB.out h
    obtain ⟨he, h⟩ := h
    replace hm : mx.isSome = true → hi.isSome = true := fun hx => by rw [hx] at hm; simpa using hm
    cases x <;> simp only [slaW] at h <;> try exact h.elim
    rename_i a
    cases a with
    | none => exact h.elim
    | some a =>
      obtain ⟨l, hh, m, hk, hr⟩ := bounds_run (P := P) (isSlice := false) (K := fun l h m => K (.slice (some (if m = l then a else a.add (l * sizeT P e))) (h - l) (m - l))) hm h
      refine ⟨_, hk, fun w => ?_⟩
      simp [Instr.sliceAt, Instr.sureAddr, run_bind, run_underlying' hd, hr, run_pure, run_sizeOf' he]
  · exact h.elim
theorem pure_sound {P : Program} {f : Fr} {o : Oper} {K : Value → Prop} (h : pureW P f o.op K) : YieldsN P (execOp (ev f) o) K := by
  obtain ⟨dst, op, type, pos, after, guard⟩ := o
  cases op <;> simp only [pureW] at h <;> try exact h.elim
  case move x => exact ⟨_, h, fun w => rfl⟩
  case assign x => exact ⟨_, h, fun w => rfl⟩
  case pick c a b =>
    simp only [execOp]
    generalize ev f c = cv at *
    cases cv <;> simp only [pickW] at h <;> try exact h.elim
    rename_i t
    exact ⟨_, h, fun w => by cases t <;> rfl⟩
  case nilCheck x =>
    simp only [execOp]
    generalize ev f x = v at *
    cases v <;> simp only [nilW] at h <;> try exact h.elim
    case pointer a => cases a <;> first | exact h.elim | exact ⟨_, h, fun w => rfl⟩
    case func fn _ _ => cases fn <;> first | exact h.elim | exact ⟨_, h, fun w => rfl⟩
    case iface => exact ⟨_, h, fun w => rfl⟩
  case binOp op T x y yT =>
    simp only [execOp]
    refine YieldsN.of1 ?_
    unfold cmpW at h
    cases hd : P.underlying T with
    | none =>
      rw [hd] at h
      exact y_bin (by cases op <;> exact h)
    | some d =>
      rw [hd] at h
      cases hk : EqK.of d with
      | none => simp only [hk] at h; exact y_bin (by cases op <;> exact h)
      | some k =>
        simp only [hk] at h
        cases op <;> first
          | exact y_eq (n := false) hd hk h
          | exact y_eq (n := true) hd hk h
          | exact y_bin h
  case unOp op T x =>
    simp only [execOp]
    refine YieldsN.of1 ?_
    generalize ev f x = v at *
    cases op <;> cases v <;> simp only [unW] at h <;> first
      | exact h.elim
      | exact ⟨_, h, fun w => rfl⟩
  case convert s d x =>
    simp only [execOp]
    refine YieldsN.of1 ?_
    unfold convW at h
    generalize ev f x = v at *
    split at h
    · rename_i k1 k2 hs hd
      cases v <;> simp only [cvtW] at h <;> try exact h.elim
      exact ⟨_, h, fun w => by simp [convert, run_bind, run_underlying' hs, run_underlying' hd, Conv.intToInt, run_pure]⟩
    · rename_i k1 hs hd
      cases v <;> simp only [cvsW] at h <;> try exact h.elim
      · exact ⟨_, h, fun w => by simp [convert, run_bind, run_underlying' hs, run_underlying' hd, Conv.intToString, run_pure]⟩
      · exact ⟨_, h, fun w => by simp [convert, run_bind, run_underlying' hs, run_underlying' hd, run_pure]⟩
    · rename_i hs hd
      cases v <;> simp only [cvsW] at h <;> try exact h.elim
      · exact ⟨_, h, fun w => by simp [convert, run_bind, run_underlying' hs, run_underlying' hd, Conv.intToString, run_pure]⟩
      · exact ⟨_, h, fun w => by simp [convert, run_bind, run_underlying' hs, run_underlying' hd, run_pure]⟩
    · exact h.elim
  case makeInterface T x =>
    simp only [execOp]
    refine YieldsN.of1 ?_
    cases hd : P.underlying T with
    | none => rw [hd] at h; exact h.elim
    | some d =>
      rw [hd] at h
      cases d <;> first
        | exact h.elim
        | exact ⟨_, h, fun w => by simp [Instr.makeInterface, run_bind, run_underlying' hd, run_pure]⟩
  case makeFunc fn first cap =>
    simp only [execOp]
    refine YieldsN.of1 ⟨_, h, fun w => by rw [run_pure_fn, evl_map, evl_map]⟩
  case field T x i =>
    simp only [execOp]
    refine YieldsN.of1 ?_
    split at h
    · rename_i fs hd
      split at h
      · rename_i g hg
        replace h := andB.out h
        obtain ⟨h1, h2⟩ := h
        obtain ⟨cs, hx, v, hk, hr⟩ := part_run h1 h2
        exact ⟨v, hk, fun w => by simp [Instr.field, run_bind, run_underlying' hd, hg, hx, asAgg, run_pure, hr]⟩
      · exact h.elim
    · exact h.elim
  case fieldAddr T x i =>
    simp only [execOp]
    refine YieldsN.of1 ?_
    split at h
    · rename_i fs hd
      split at h
      · rename_i g hg
        replace h := andB.out h
        obtain ⟨h1, h2⟩ := h
        replace h1 : sizeT P g.type ≠ 0 := fun hz => by rw [hz] at h1; simp at h1
        generalize ev f x = v at *
        cases v <;> simp only [fldW] at h2 <;> try exact h2.elim
        rename_i a
        cases a with
        | none => exact h2.elim
        | some a =>
          have hinfo : (P.info? g.type).isSome = true := by
            unfold sizeT at h1
            cases hi : P.info? g.type with
            | none => rw [hi] at h1; exact absurd rfl h1
            | some i => rfl
          exact ⟨_, h2, fun w => by simp [Instr.fieldAt, run_bind, run_underlying' hd, hg, Instr.sureAddr, run_pure, fieldPlace, run_sizeOf' hinfo, h1]⟩
      · exact h.elim
    · exact h.elim
  case indexAddr T x i =>
    simp only [execOp]
    refine YieldsN.of1 ?_
    unfold indexAddrW at h
    generalize ev f x = v at *
    generalize ev f i = iv at *
    split at h
    · rename_i e hd
      replace h := andB.out h
      obtain ⟨he, h⟩ := h
      unfold ixaW at h
      split at h
      · rename_i a n cap k j _
        obtain ⟨h0, h1, hk⟩ := h
        exact ⟨_, hk, fun w => by simp [Instr.indexAt, asIntOf, run_bind, run_underlying' hd, run_pure, h0, h1, run_sizeOf' he]⟩
      · rename_i heq; cases heq
      · exact h.elim
    · rename_i n e hd
      replace h := andB.out h
      obtain ⟨he, h⟩ := h
      unfold ixaW at h
      split at h
      · rename_i heq; cases heq
      · rename_i n' a k j heq
        cases heq
        obtain ⟨h0, h1, hk⟩ := h
        exact ⟨_, hk, fun w => by simp [Instr.indexAt, asIntOf, run_bind, run_underlying' hd, run_pure, h0, h1, Instr.sureAddr, run_sizeOf' he]⟩
      · exact h.elim
    · exact h.elim
  case index T x i =>
    simp only [execOp]
    refine YieldsN.of1 ?_
    unfold indexW at h
    generalize ev f x = v at *
    generalize ev f i = iv at *
    split at h
    · rename_i hd
      unfold ixsW at h
      split at h
      · rename_i s k j
        obtain ⟨h0, b, hb, hk⟩ := h
        have hb' : s[j.toNat]? = some b := by
          rw [← hb]
          show (if h : j.toNat < s.size then some s[j.toNat] else none) = _
          by_cases hlt : j.toNat < s.size
          · rw [dif_pos hlt, List.getElem?_eq_getElem (by simpa using hlt)]; rfl
          · rw [dif_neg hlt, List.getElem?_eq_none (by simpa using hlt)]
        exact ⟨_, hk, fun w => by simp [Instr.index, asIntOf, run_bind, run_underlying' hd, run_pure, h0, hb']⟩
      · exact h.elim
    · rename_i n e hd
      replace h := andB.out h
      obtain ⟨he, h⟩ := h
      cases iv <;> simp only [ixgW] at h <;> try exact h.elim
      rename_i k j
      obtain ⟨h0, h1, hp⟩ := h
      obtain ⟨cs, hx, u, hk, hr⟩ := part_run (P := P) he hp
      exact ⟨u, hk, fun w => by simp [Instr.index, asIntOf, run_bind, run_underlying' hd, run_pure, hx, h0, h1, run_sizeOf' (underlying_info he), hr]⟩
    · exact h.elim
  case slice T x lo hi mx =>
    simp only [execOp]
    exact YieldsN.of1 (slice_run h)
  case extract t i =>
    simp only [execOp]
    refine YieldsN.of1 ?_
    generalize ev f t = v at *
    cases v <;> simp only [extW] at h <;> try exact h.elim
    split at h
    · rename_i v hv
      exact ⟨_, h, fun w => by simp [Instr.extract, hv, run_pure]⟩
    · exact h.elim
  case build T parts =>
    simp only [execOp]
    exact YieldsN.of1 (build_run h)
  case call c =>
    obtain ⟨callee, args, argTypes⟩ := c
    cases callee <;> simp only at h <;> try exact h.elim
    rename_i b
    have hargs : args.map (ev f) = (evl f args).toArray := by rw [evl_map]
    simp only [execOp, resolve, hargs]
    generalize evl f args = az at *
    unfold pureCallW at h
    split at h
    · rename_i x
      split at h
      · rename_i T hT
        split at h
        · rename_i hd
          unfold lensW at h
          split at h
          · exact ⟨_, h, fun w => by simp [run_bind, run_pure, invoke, builtin, Builtin.len_, hT, run_underlying' hd, goInt]⟩
          · exact h.elim
        · rename_i e hd
          unfold lenlW at h
          split at h
          · exact ⟨_, h, fun w => by simp [run_bind, run_pure, invoke, builtin, Builtin.len_, hT, run_underlying' hd, goInt]⟩
          · exact h.elim
        · rename_i n e hd
          exact ⟨_, h, fun w => by simp [run_bind, run_pure, invoke, builtin, Builtin.len_, hT, run_underlying' hd, goInt]⟩
        · exact h.elim
      · exact h.elim
    · rename_i x
      split at h
      · rename_i T hT
        split at h
        · rename_i e hd
          unfold capW at h
          split at h
          · exact ⟨_, h, fun w => by simp [run_bind, run_pure, invoke, builtin, Builtin.cap_, hT, run_underlying' hd, goInt]⟩
          · exact h.elim
        · exact h.elim
      · exact h.elim
    · rename_i x y
      unfold minW at h
      split at h
      · exact ⟨_, h, fun w => by simp [run_bind, run_pure, invoke, builtin, Builtin.min_, Builtin.min2]⟩
      · exact h.elim
    · rename_i x y z
      unfold min3W at h
      split at h
      · exact ⟨_, h, fun w => by simp [run_bind, run_pure, invoke, builtin, Builtin.min_, Builtin.min2]⟩
      · exact h.elim
    · rename_i x y
      unfold maxW at h
      split at h
      · exact ⟨_, h, fun w => by simp [run_bind, run_pure, invoke, builtin, Builtin.max_, Builtin.max2]⟩
      · exact h.elim
    · exact h.elim
end Go.Eng
namespace Go.Eng
open Go
def isC : Operand → Bool
  | .const _ => true
  | _ => false
def stand (c : Bool) : Operand := bif c then .const undef else .tmp 0
def eqQ (P : Program) (op : BinOp) (T : TypeId) (cx cy : Bool) (a b : Value) (w : World) (K : Value → Prop) : Prop :=
  semQ P (do eqGuard op T (stand cx) (stand cy) a b; binOp op T a b) w K
def readW (P : Program) (f : Fr) (o : Oper) (w : World) (K : Value → Prop) : Prop :=
  match o.op with
  | .load T a => andB (P.underlying T).isSome (ldW (isAggT P T) (sizeT P T) (ev f a) w K)
  | .lookup T x i ok => semQ P (Instr.lookup T (ev f x) (ev f i) ok) w K
  | .binOp op T x y _ => eqQ P op T (isC x) (isC y) (ev f x) (ev f y) w K
  | .convert s d x => semQ P (convert s d (ev f x)) w K
  | .typeAssert x xT aT ok => semQ P (Instr.typeAssert (ev f x) xT aT ok) w K
  | .entry it => semQ P (Instr.entry (ev f it)) w K
  | .call { callee := .builtin b, args, argTypes } => (match b with
      | .len => semQ P (Builtin.len_ argTypes o.type (evl f args).toArray) w K
      | _ => False)
  | _ => False
def isRead (P : Program) : Op → Bool
  | .load .. | .lookup .. | .binOp .. | .typeAssert .. | .entry .. => true
  | .convert s d _ => (match P.underlying s, P.underlying d with | some (.slice _), some .string => true | _, _ => false)
  | .call { callee := .builtin b, .. } => (match b with | .len => true | _ => false)
  | _ => false
def zerosOf (n : Nat) (z : List Value) : List Value := match n with | 0 => [] | n + 1 => z ++ zerosOf n z
def buildSliceW (P : Program) (T : TypeId) (len : Nat) (f : Fr) (parts : List (Nat × Operand)) (w : World) (K : Value → World → Prop) : Prop :=
  match P.underlying T with
  | some (.slice e) => (match zeroT P e, partsAt (fun i => some (i * sizeT P e, sizeT P e)) f parts with
      | some z, some l => andB (P.info? e).isSome (andB (Nat.beq z.cells.size (sizeT P e)) (andB (Nat.ble (len * sizeT P e) 1000) (bslW e len (zerosOf len z.cells.toList) l w K)))
      | _, _ => False)
  | _ => False
def effW [HX] (P : Program) (f : Fr) (o : Oper) (w : World) (K : Value → World → Prop) : Prop :=
  match o.op with
  | .alloc T => (match zeroT P T with | some z => allocW T z.cells.toList w K | none => False)
  | .box T x => boxW T (ev f x) w K
  | .buildSlice T n parts => buildSliceW P T n f parts.toList w K
  | .store T a x => andB (P.info? T).isSome (stW (sizeT P T) (ev f a) (ev f x) w (K undef))
  | .mapUpdate T m k x | .insert T m k x => semU P (Instr.mapUpdate T (ev f m) (ev f k) (ev f x)) w (K undef)
  | .makeMap T r => semE P (Instr.makeMap T (r.map (ev f))) w K
  | .makeSlice T l c => semE P (Instr.makeSlice T (ev f l) (ev f c)) w K
  | .range T x => semE P (Instr.range T (ev f x)) w K
  | .next it s => semE P (Instr.next (ev f it) s o.type) w K
  | .convert s d x => semE P (convert s d (ev f x)) w K
  | .call { callee := .value x, args, .. } => (match x with
      | .func g => callF P g (evl f args) w K
      | _ => callV P (ev f x) (evl f args) w K)
  | .call { callee := .invoke r m, args, .. } => semN P (callMethod (ev f r) m (evl f args).toArray) w K
  | .panic x => pncW (ev f x) w
  | .call { callee := .builtin b, args, argTypes } => (match b with
      | .append => semE P (Builtin.append_ argTypes o.type (evl f args).toArray) w K
      | .copy => semE P (Builtin.copy_ argTypes o.type (evl f args).toArray) w K
      | .delete => semE P (Builtin.delete_ argTypes o.type (evl f args).toArray) w K
      | .clear => semE P (Builtin.clear_ argTypes o.type (evl f args).toArray) w K
      | .panic => pncW ((evl f args).getD 0 undef) w
      | _ => False)
  | _ => False
def anyW [HX] (P : Program) (f : Fr) (o : Oper) (w : World) (K : Value → World → Prop) : Prop :=
  match isPure P o.op with
  | true => pureW P f o.op (fun v => K v w)
  | false => (match isRead P o.op with
    | true => readW P f o w (fun v => K v w)
    | false => effW P f o w K)
theorem run_load1 {P : Program} {a : Addr} {w : World} {v : Value} (h : w.cell? a = some v) : (load a).run P w = .ok v w := by
  simp [load, Sem.run, h]
theorem loadCellsFrom_run {P : Program} {a : Addr} {w : World} : ∀ (n i : Nat) (l : List Value) (acc : Array Value), cellsAt w a i n = some l →
    (loadCellsFrom a i n acc).run P w = .ok (acc ++ l.toArray) w
  | 0, i, l, acc, h => by
    simp only [cellsAt, Option.some.injEq] at h
    subst h
    simp [loadCellsFrom, run_pure]
  | n + 1, i, l, acc, h => by
    simp only [cellsAt] at h
    cases hc : w.cell? (a.add i) with
    | none => simp [hc] at h
    | some v =>
      cases hr : cellsAt w a (i + 1) n with
      | none => simp [hc, hr] at h
      | some l' =>
        simp only [hc, hr, Option.map_some, Option.some.injEq] at h
        subst h
        simp only [loadCellsFrom, run_bind, run_load1 hc, loadCellsFrom_run n (i + 1) l' _ hr]
        simp
theorem ld_run {P : Program} {T : TypeId} {x : Value} {w : World} {K : Value → Prop} (hT : (P.underlying T).isSome = true) (h : ldW (isAggT P T) (sizeT P T) x w K) :
    ∃ v, K v ∧ (Instr.loadAt T x).run P w = .ok v w := by
  cases x <;> simp only [ldW] at h <;> try exact h.elim
  rename_i a
  cases a with
  | none => exact h.elim
  | some a =>
    simp only at h
    cases ha : isAggT P T with
    | true =>
      rw [ha] at h
      obtain ⟨l, hl, hk⟩ := h
      refine ⟨_, hk, ?_⟩
      simp [Instr.loadAt, Instr.sureAddr, loadVar, run_bind, run_pure, run_isAgg' hT, ha, run_sizeOf' (underlying_info hT), loadCells, loadCellsFrom_run _ _ _ _ hl]
    | false =>
      rw [ha] at h
      obtain ⟨v, hv, hk⟩ := h
      refine ⟨_, hk, ?_⟩
      simp [Instr.loadAt, Instr.sureAddr, loadVar, run_bind, run_pure, run_isAgg' hT, ha]
      first | exact run_load1 hv | (rw [hv])
theorem eqGuard_stand (op : BinOp) (T : TypeId) (x y : Operand) (a b : Value) : eqGuard op T (stand (isC x)) (stand (isC y)) a b = eqGuard op T x y a b := by
  cases x <;> cases y <;> rfl
theorem read_sound {P : Program} {f : Fr} {o : Oper} {w : World} {K : Value → Prop} (h : readW P f o w K) :
    ∃ v, K v ∧ (execOp (ev f) o).run P w = .ok (.value v) w := by
  have key : ∀ (s : Sem Value), (∃ v, K v ∧ s.run P w = .ok v w) → ∃ v, K v ∧ (do pure (.value (← s)) : Sem Next).run P w = .ok (.value v) w := by
    rintro s ⟨v, hk, hr⟩
    exact ⟨v, hk, by rw [run_bind, hr]; rfl⟩
  have key2 : ∀ (s : Sem Value), semQ P s w K → ∃ v, K v ∧ s.run P w = .ok v w := fun s ⟨v, hr, hk⟩ => ⟨v, hk, hr⟩
  obtain ⟨dst, op, type, pos, after, guard⟩ := o
  cases op <;> simp only [readW] at h <;> try exact h.elim
  case load T a => simp only [execOp]; exact key _ (ld_run (andB.out h).1 (andB.out h).2)
  case lookup T x i ok => simp only [execOp]; exact key _ (key2 _ h)
  case binOp op T x y yT =>
    simp only [execOp]
    refine key _ (key2 _ ?_)
    unfold eqQ at h
    rw [eqGuard_stand] at h
    exact h
  case convert s d x => simp only [execOp]; exact key _ (key2 _ h)
  case typeAssert x xT aT ok => simp only [execOp]; exact key _ (key2 _ h)
  case entry it => simp only [execOp]; exact key _ (key2 _ h)
  case call c =>
    obtain ⟨callee, args, argTypes⟩ := c
    cases callee <;> simp only at h <;> try exact h.elim
    rename_i b
    cases b <;> simp only at h <;> try exact h.elim
    simp only [execOp, resolve, evl_map]
    obtain ⟨v, hk, hr⟩ := key2 _ h
    exact ⟨v, hk, by simp [run_bind, run_pure, invoke, builtin, hr]⟩
theorem storeCells_run {P : Program} {a : Addr} {K : World → Prop} : ∀ (l : List Value) (i : Nat) (w : World), stCells a l i w K → ∃ w', K w' ∧ (storeCells a l i).run P w = .ok () w'
  | [], i, w, h => ⟨w, h, rfl⟩
  | v :: r, i, w, h => by
    obtain ⟨h1, h2, h3, h4⟩ := h
    obtain ⟨w', hk, hr⟩ := storeCells_run (P := P) r (i + 1) _ h4
    refine ⟨w', hk, ?_⟩
    obtain ⟨old, ho⟩ := Option.isSome_iff_exists.1 h2
    have hs : (store (a.add i) v).run P w = .ok () (w.setCell (a.add i) v) := by
      cases v <;> first
        | (simp [one1] at h1; done)
        | (simp [store, Sem.run, ho, h3]; done)
    simp only [storeCells, run_bind, hs, hr]
theorem st_run {P : Program} {T : TypeId} {x v : Value} {w : World} {K : World → Prop} (hT : (P.info? T).isSome = true) (h : stW (sizeT P T) x v w K) :
    ∃ w', K w' ∧ (Instr.storeAt T x v).run P w = .ok () w' := by
  cases x <;> simp only [stW] at h <;> try exact h.elim
  rename_i a
  cases a with
  | none => exact h.elim
  | some a =>
    obtain ⟨h1, h2⟩ := h
    obtain ⟨w', hk, hr⟩ := storeCells_run (P := P) _ _ _ h2
    refine ⟨w', hk, ?_⟩
    simp [Instr.storeAt, Instr.sureAddr, storeVar, run_bind, run_pure, run_sizeOf' hT, h1, hr]
theorem zerosOf_range {z : Array Value} {size : Nat} (hz : z.size = size) : ∀ len, ((Array.range (len * size)).map (z[· % z.size]!)) = (zerosOf len z.toList).toArray := by
  subst hz
  have hlen : ∀ len, (zerosOf len z.toList).length = len * z.size := by
    intro len
    induction len with
    | zero => simp [zerosOf]
    | succ n ih => simp [zerosOf, ih, Nat.succ_mul, Nat.add_comm]
  intro len
  apply Array.ext (by simp [hlen])
  intro i h1 h2
  simp only [Array.getElem_map, Array.getElem_range, List.getElem_toArray]
  simp at h1
  have : ∀ (len i : Nat) (h : i < (zerosOf len z.toList).length), (zerosOf len z.toList)[i] = z[i % z.size]! := by
    intro len
    induction len with
    | zero => intro i h; simp [zerosOf] at h
    | succ n ih =>
      intro i h
      have hpos : 0 < z.size := by
        rcases Nat.eq_zero_or_pos z.size with h0 | h0
        · rw [hlen, h0] at h; simp at h
        · exact h0
      simp only [zerosOf, List.getElem_append]
      split
      · rename_i hi
        have hi' : i < z.size := by simpa using hi
        rw [Nat.mod_eq_of_lt hi', getElem!_pos z i hi']
        simp
      · rename_i hi
        have hi' : z.size ≤ i := by simpa using hi
        rw [ih]
        simp only [Array.length_toList]
        congr 1
        rw [Nat.mod_eq_sub_mod hi']
  rw [this]
theorem eff_sound [HX] {P : Program} {f : Fr} {o : Oper} {w : World} {K : Value → World → Prop} (h : effW P f o w K) : Res P K ((execOp (ev f) o).run P w) := by
  have keyV : ∀ (s : Sem Value), semE P s w K → Res P K ((do pure (.value (← s)) : Sem Next).run P w) := by
    intro s hs
    unfold semE at hs
    rw [run_bind]
    cases hr : s.run P w with
    | ok v w' => rw [hr] at hs; exact hs
    | halt x w' => rw [hr] at hs; exact hs.elim
  have keyU : ∀ (s : Sem Unit), semU P s w (K undef) → Res P K ((do s; pure .skip : Sem Next).run P w) := by
    intro s hs
    unfold semU at hs
    rw [run_bind]
    cases hr : s.run P w with
    | ok v w' => rw [hr] at hs; exact hs
    | halt x w' => rw [hr] at hs; exact hs.elim
  have keyP : ∀ (x : Value), pncW x w → Res P K ((do pure (.value (← Instr.panic x)) : Sem Next).run P w) := by
    intro x hs
    unfold pncW at hs
    split at hs
    · exact hs
    · exact hs.elim
  obtain ⟨dst, op, type, pos, after, guard⟩ := o
  cases op <;> simp only [effW] at h <;> try exact h.elim
  case alloc T =>
    cases hz : zeroT P T with
    | none => rw [hz] at h; exact h.elim
    | some z =>
      rw [hz] at h
      simp only [execOp]
      have hr : (Instr.alloc T true (.tuple #[])).run P w = .ok (.pointer (some ⟨w.heap.size, 0, none⟩)) (w.alloc (.cells z.cells T)) := by
        simp [Instr.alloc, run_bind, zeroT_run hz, newVar, newRow, newObj, Sem.run, run_pure]
      rw [run_bind, hr]
      exact h
  case box T x =>
    simp only [execOp]
    have hr : (Instr.box T (ev f x)).run P w = .ok (.pointer (some ⟨w.heap.size, 0, none⟩)) (w.alloc (.cells (ev f x).cells T)) := by
      simp [Instr.box, run_bind, newVar, newRow, newObj, Sem.run, run_pure]
    rw [run_bind, hr]
    exact h
  case buildSlice T n parts =>
    simp only [execOp]
    unfold buildSliceW at h
    split at h
    · rename_i e hd
      split at h
      · rename_i z l hz hl
        replace h := andB.out h
        obtain ⟨h1, h⟩ := h
        replace h := andB.out h
        obtain ⟨h2, h⟩ := h
        replace h := andB.out h
        obtain ⟨h3, h4⟩ := h
        replace h2 := Nat.eq_of_beq_eq_true h2
        replace h3 := Nat.le_of_ble_eq_true h3
        unfold bslW at h4
        obtain ⟨cs, hk, hf⟩ := putW_fill _ _ _ hl h4
        have hparts : (parts.map fun (i, x) => (i, ev f x)).toList = parts.toList.map fun p => (p.1, ev f p.2) := by simp
        have hr : (Instr.buildSlice T n (parts.map fun (i, x) => (i, ev f x))).run P w = .ok (.slice (some ⟨w.heap.size, 0, none⟩) n n) (w.alloc (.cells cs.toArray e)) := by
          simp only [Instr.buildSlice, run_bind, run_underlying' hd, run_sizeOf' h1]
          rw [if_neg (by omega)]
          have hcells := zerosOf_range (z := z.cells) h2 n
          by_cases h0 : n * sizeT P e = 0
          · rw [if_pos h0]
            simp only [run_bind, run_pure]
            have hc : ((Array.range (n * sizeT P e)).map ((#[] : Array Value)[· % (#[] : Array Value).size]!)) = (zerosOf n z.cells.toList).toArray := by
              rw [← hcells, h0]; simp [show Array.range 0 = #[] from rfl]
            rw [hc, hparts, hf]
            simp [run_bind, newRow, newObj, Sem.run, run_pure]
          · rw [if_neg h0]
            simp only [run_bind, run_pure, zeroT_run hz]
            rw [hcells, hparts, hf]
            simp [run_bind, newRow, newObj, Sem.run, run_pure]
        rw [run_bind, hr]
        exact hk
      · exact h.elim
    · exact h.elim
  case store T a x =>
    simp only [execOp]
    obtain ⟨w', hk, hr⟩ := st_run (andB.out h).1 (andB.out h).2
    rw [run_bind, hr]
    exact hk
  case mapUpdate T m k x => simp only [execOp]; exact keyU _ h
  case insert T m k x => simp only [execOp]; exact keyU _ h
  case makeMap T r => simp only [execOp]; exact keyV _ h
  case makeSlice T l c => simp only [execOp]; exact keyV _ h
  case range T x => simp only [execOp]; exact keyV _ h
  case next it s => simp only [execOp]; exact keyV _ h
  case panic x =>
    simp only [execOp]
    exact keyP _ h
  case convert s d x => simp only [execOp]; exact keyV _ h
  case call c =>
    obtain ⟨callee, args, argTypes⟩ := c
    cases callee with
    | value x =>
      simp only [execOp, resolve, evl_map]
      cases x <;> simp only at h
      case func g =>
        unfold callF at h
        have : (do let d ← (Deferred.ofValue (ev f (.func g)) (evl f args).toArray); invoke d.target d.args : Sem Next) = callFunc g (evl f args).toArray := by
          show callFunc g (#[] ++ (evl f args).toArray ++ #[]) = _
          simp
        rw [this]
        exact h
      all_goals exact h
    | invoke r m =>
      simp only at h
      simp only [execOp, resolve, evl_map]
      have : (do let d ← (pure { target := .fn (.method m) #[], args := #[ev f r] ++ (evl f args).toArray } : Sem Deferred); invoke d.target d.args : Sem Next) = callMethod (ev f r) m (evl f args).toArray := by
        show invoke (.fn (.method m) #[]) (#[ev f r] ++ (evl f args).toArray) = _
        simp [invoke]
      rw [this]
      exact h
    | builtin b =>
      simp only [execOp, resolve, evl_map]
      cases b <;> simp only at h <;> first
        | exact h.elim
        | exact keyV _ h
        | (have e : (evl f args).getD 0 undef = (evl f args).toArray.getD 0 .nilIface := by
             cases hl : evl f args with
             | nil => rw [hl] at h; exact h.elim
             | cons a r => rfl
           rw [e] at h
           exact keyP _ h)
theorem any_sound [HX] {P : Program} {f : Fr} {o : Oper} {w : World} {K : Value → World → Prop} (h : anyW P f o w K) : Res P K ((execOp (ev f) o).run P w) := by
  unfold anyW at h
  cases hp : isPure P o.op with
  | true =>
    rw [hp] at h
    simp only at h
    obtain ⟨v, hk, hr⟩ := pure_sound (o := o) h
    rw [hr]
    exact hk
  | false =>
    rw [hp] at h
    simp only at h
    cases hq : isRead P o.op with
    | true =>
      rw [hq] at h
      simp only at h
      obtain ⟨v, hk, hr⟩ := read_sound (o := o) h
      rw [hr]
      exact hk
    | false =>
      rw [hq] at h
      exact eff_sound h
end Go.Eng
namespace Go.Eng
open Go
def memb : List Nat → Nat → Bool
  | [], _ => false
  | x :: r, i => bif Nat.beq x i then true else memb r i
theorem memb_iff {l : List Nat} {i : Nat} : memb l i = true ↔ i ∈ l := by
  induction l with
  | nil => simp [memb]
  | cons x r ih =>
    simp only [memb, List.mem_cons]
    cases h : Nat.beq x i with
    | true => simp [Nat.eq_of_beq_eq_true h]
    | false =>
      have : ¬ i = x := fun e => by subst e; simp at h
      simp [this, ih]
def isB (v : Value) (want : Bool) : Bool := match v with | .bool b => b == want | _ => false
def dstOf (ops : List Oper) (g : Nat) : Option Nat := match ops[g]? with | some o => o.dst | none => none
def yv (ops : List Oper) (f : Fr) (g : Nat) (want : Bool) : Bool := match dstOf ops g with | some d => isB (f d) want | none => false
def wantF (ops : List Oper) (f : Fr) (o : Oper) : Bool := match o.guard with | none => true | some (g, want) => yv ops f g want
def Ag (n : Nat) (D : List Deferred) (f : Fr) (a : Act) : Prop := a.defers = D ∧ a.tmps.size = n ∧ ∀ t, a.tmps.getD t undef = f t
theorem ev_eq {f : Fr} {a : Act} {x : Operand} (h : ∀ t, x = .tmp t → a.tmps.getD t undef = f t) : a.eval x = ev f x := by
  cases x <;> first | rfl | exact h _ rfl
theorem eval_fun {n : Nat} {D : List Deferred} {f : Fr} {a : Act} (h : Ag n D f a) : a.eval = ev f := funext fun _ => ev_eq fun t _ => h.2.2 t
theorem wanted_eq {ops : List Oper} {f : Fr} {a : Act} {o : Oper} (h : ∀ g want d, o.guard = some (g, want) → dstOf ops g = some d → a.tmps.getD d undef = f d) :
    Region.wanted o (yielded ops.toArray a.tmps) = wantF ops f o := by
  unfold Region.wanted wantF
  cases hg : o.guard with
  | none => rfl
  | some gw =>
    obtain ⟨g, want⟩ := gw
    have hy : yielded ops.toArray a.tmps g = match dstOf ops g with | some d => (match f d with | .bool b => some b | _ => none) | none => none := by
      unfold yielded
      have h' := h g want
      unfold dstOf at *
      simp only [List.getElem?_toArray]
      cases hx : ops[g]? with
      | none => rfl
      | some o' =>
        rw [hx] at h'
        cases hd : o'.dst with
        | none => simp [hd]
        | some d =>
          have hfd := h' d hg hd
          simp only [Option.bind_some, hd]
          rw [← hfd]
          rcases Nat.lt_or_ge d a.tmps.size with hlt | hge
          · have e1 : a.tmps[d]? = some a.tmps[d] := by simp [hlt]
            have e2 : a.tmps.getD d undef = a.tmps[d] := by simp [hlt]
            rw [e1, e2]
            generalize a.tmps[d] = x
            cases x <;> rfl
          · simp [Array.getElem?_eq_none hge, undef, Array.getD, Nat.not_lt.2 hge]
    simp only [yv, hy]
    cases hd : dstOf ops g with
    | none => simp
    | some d => simp only [isB]; cases f d <;> simp
theorem put_size (a : Act) (d : Option Nat) (v : Value) : (a.put d v).tmps.size = a.tmps.size := by cases d <;> simp [Act.put]
theorem put_defers (a : Act) (d : Option Nat) (v : Value) : (a.put d v).defers = a.defers := by cases d <;> rfl
theorem put_get (a : Act) (d : Nat) (v : Value) (t : Nat) (hd : d < a.tmps.size) : (a.put (some d) v).tmps.getD t undef = if t = d then v else a.tmps.getD t undef := by
  simp only [Act.put, Array.getD_eq_getD_getElem?, Array.getElem?_setIfInBounds]
  by_cases h : t = d
  · subst h; simp [hd]
  · rw [if_neg h, if_neg (Ne.symm h)]
theorem upd_some (f : Fr) (d : Nat) (v : Value) (t : Nat) : upd f (some d) v t = if t = d then v else f t := by
  simp only [upd]
  by_cases h : t = d
  · subst h; simp
  · have : Nat.beq t d = false := by
      cases hb : Nat.beq t d with
      | false => rfl
      | true => exact absurd (Nat.eq_of_beq_eq_true hb) h
    simp [this, h]
theorem Ag.put {n : Nat} {D : List Deferred} {f : Fr} {a : Act} {d : Option Nat} (h : Ag n D f a) (hd : ∀ t, d = some t → t < n) (v : Value) : Ag n D (upd f d v) (a.put d v) := by
  refine ⟨by rw [put_defers]; exact h.1, by rw [put_size]; exact h.2.1, fun t => ?_⟩
  cases d with
  | none => exact h.2.2 t
  | some d => rw [put_get _ _ _ _ (by rw [h.2.1]; exact hd d rfl), upd_some, h.2.2]
structure DE where
  fl : List Nat
  anc : List (List Nat)
def bindsOn (o : Oper) : List Nat := (o.after.toList.filter (Region.binds .any)).map (·.on)
def allIn (done : List Nat) : List Nat → Bool
  | [] => true
  | x :: r => bif memb done x then allIn done r else false
theorem allIn_iff {done l : List Nat} : allIn done l = true ↔ ∀ x ∈ l, x ∈ done := by
  induction l with
  | nil => simp [allIn]
  | cons x r ih =>
    simp only [allIn, List.mem_cons, forall_eq_or_imp]
    cases h : memb done x with
    | true => simp [memb_iff.1 h, ih]
    | false =>
      have : x ∉ done := fun e => by simp [memb_iff.2 e] at h
      simp [this]
def nextFl (ops : List Oper) (done : List Nat) : List Nat → Option (Nat × Oper)
  | [] => none
  | i :: r => bif memb done i then nextFl ops done r else
      (match ops[i]? with
       | some o => bif allIn done (bindsOn o) then some (i, o) else nextFl ops done r
       | none => nextFl ops done r)
def effs (ops : List Oper) (fl done : List Nat) : Nat → List Oper → List (Nat × Oper)
  | _, [] => []
  | i, o :: r => bif (bif memb done i then false else (bif memb fl i then false else allIn done (bindsOn o))) then (i, o) :: effs ops fl done (i + 1) r else effs ops fl done (i + 1) r
def anyQ (P : Program) (f : Fr) (o : Oper) (w : World) (K : Value → Prop) : Prop :=
  match isPure P o.op with
  | true => pureW P f o.op K
  | false => readW P f o w K
def GqW (c : Bool) (A : (Value → Prop) → Prop) (B : Value → Prop) : Prop := ∃ v, (c = true → A (fun x => x = v)) ∧ (c = false → v = undef) ∧ B v
def GeW (c : Bool) (w : World) (A : (Value → World → Prop) → Prop) (B : Value → World → Prop) : Prop := (c = true → A B) ∧ (c = false → B undef w)
def qfW (P : Program) (ops : List Oper) (f : Fr) (o : Oper) (w : World) (K : Value → Prop) : Prop :=
  match o.guard with
  | none => anyQ P f o w K
  | some (g, want) => GqW (yv ops f g want) (anyQ P f o w) K
def geW [HX] (P : Program) (ops : List Oper) (f : Fr) (o : Oper) (w : World) (K : Value → World → Prop) : Prop :=
  match o.guard with
  | none => anyW P f o w K
  | some (g, want) => GeW (yv ops f g want) w (anyW P f o w) K
def stabW (P : Program) (ops : List Oper) (f : Fr) (w : World) (rest : Prop) : List Nat → Prop
  | [] => rest
  | i :: r => match ops[i]? with
    | some o => (match o.dst with
      | some d => (match isPure P o.op with
        | true => stabW P ops f w rest r
        | false =>
          ((match o.guard with
            | none => readW P f o w (fun x => x = f d)
            | some (g, want) => yv ops f g want = true → readW P f o w (fun x => x = f d)) ∧ stabW P ops f w rest r))
      | none => stabW P ops f w rest r)
    | none => stabW P ops f w rest r
def notIn (l : List Nat) : List Nat → List Nat
  | [] => []
  | x :: r => bif memb l x then notIn l r else x :: notIn l r
theorem mem_notIn {l r : List Nat} {x : Nat} (h : x ∈ r) (hl : x ∉ l) : x ∈ notIn l r := by
  induction r with
  | nil => cases h
  | cons y r ih =>
    simp only [notIn]
    rcases List.mem_cons.1 h with rfl | h
    · have : memb l x = false := by
        cases hm : memb l x with
        | false => rfl
        | true => exact absurd (memb_iff.1 hm) hl
      simp [this]
    · cases hm : memb l y with
      | true => exact ih h
      | false => simp [ih h]
def tallW : Prop := ∀ (_ : HX) (P : Program) (ops : List Oper) (f : Fr) (o : Oper) (w : World) (K : Value → World → Prop), geW P ops f o w K → True
def conjW (p : Nat × Oper → Prop) : List (Nat × Oper) → Prop
  | [] => tallW
  | [x] => p x
  | x :: y :: r => p x ∧ conjW p (y :: r)
theorem conjW_mem {p : Nat × Oper → Prop} : ∀ {l : List (Nat × Oper)} {x}, conjW p l → x ∈ l → p x
  | [], _, _, h => by cases h
  | [y], x, h, hx => by simp at hx; subst hx; exact h
  | y :: z :: r, x, h, hx => by
    rcases List.mem_cons.1 hx with rfl | hx
    · exact h.1
    · exact conjW_mem h.2 hx
def drawW [HX] (P : Program) (ops : List Oper) (e : DE) : Nat → List Nat → List Nat → Fr → World → (Fr → World → Prop) → Prop
  | 0, _, _, _, _, _ => False
  | n + 1, done, pend, f, w, K =>
    match nextFl ops done e.fl with
    | some (i, o) => qfW P ops f o w fun v => drawW P ops e n (i :: done) (i :: pend) (upd f o.dst v) w K
    | none => match effs ops e.fl done 0 ops with
      | [] => K f w
      | x :: r => conjW (fun io => geW P ops f io.2 w fun v w' =>
          stabW P ops (upd f io.2.dst v) w' (drawW P ops e n (io.1 :: done) (notIn (e.anc.getD io.1 []) pend) (upd f io.2.dst v) w' K) (notIn (e.anc.getD io.1 []) pend)) (x :: r)
def looksL (ops : List Oper) (o : Oper) : List Nat :=
  (o.op.operands.toList.filterMap fun | .tmp t => some t | _ => none) ++ (match o.guard with | some (g, _) => (dstOf ops g).toList | none => [])
def noSel (o : Oper) : Bool := match o.op with | .select .. => false | _ => true
def chkFl (P : Program) (ops : List Oper) (e : DE) (i : Nat) : Bool :=
  match ops[i]? with
  | some o => (isPure P o.op || isRead P o.op) &&
    (match o.dst with
     | some d => (List.range ops.length).all fun k => match ops[k]? with
        | some ok => (k == i || ok.dst != some d) && (!(memb (looksL ops ok) d) || memb (e.anc.getD k []) i) &&
            (match ok.dst with
             | some dk => !(memb (looksL ops o) dk) || memb (e.anc.getD i []) k || (!(memb e.fl k) && memb (e.anc.getD k []) i)
             | none => true)
        | none => true
     | none => false)
  | none => false
def chkOp (n : Nat) (ops : List Oper) (e : DE) (k : Nat) : Bool :=
  match ops[k]? with
  | some o => (match o.dst with | some d => decide (d < n) | none => true) && noSel o && (bindsOn o).all (fun x => decide (x < k)) &&
      (e.anc.getD k []).all (fun x => (bindsOn o).any fun y => x == y || memb (e.anc.getD y []) x)
  | none => true
def chkDraw (P : Program) (n : Nat) (ops : List Oper) (e : DE) : Bool :=
  e.fl.all (chkFl P ops e) && (List.range ops.length).all (chkOp n ops e)
section
variable {P : Program} {n : Nat} {ops : List Oper} {e : DE}
theorem chk_op (h : chkDraw P n ops e = true) {k : Nat} {o : Oper} (hk : ops[k]? = some o) :
    (∀ d, o.dst = some d → d < n) ∧ noSel o = true ∧ (∀ x ∈ bindsOn o, x < k) ∧ ∀ x ∈ e.anc.getD k [], ∃ y ∈ bindsOn o, x = y ∨ x ∈ e.anc.getD y [] := by
  simp only [chkDraw, Bool.and_eq_true, List.all_eq_true] at h
  have hlt : k < ops.length := by
    rcases Nat.lt_or_ge k ops.length with h' | h'
    · exact h'
    · rw [List.getElem?_eq_none h'] at hk; cases hk
  have := h.2 k (List.mem_range.2 hlt)
  simp only [chkOp, hk, Bool.and_eq_true, List.all_eq_true, List.any_eq_true, Bool.or_eq_true, beq_iff_eq, decide_eq_true_eq] at this
  obtain ⟨⟨⟨h1, h2⟩, h3⟩, h4⟩ := this
  refine ⟨fun d hd => by simpa [hd] using h1, h2, h3, fun x hx => ?_⟩
  obtain ⟨y, hy, hxy⟩ := h4 x hx
  exact ⟨y, hy, hxy.imp id memb_iff.1⟩
theorem chk_fl (h : chkDraw P n ops e = true) {i : Nat} (hi : i ∈ e.fl) : ∃ o d, ops[i]? = some o ∧ o.dst = some d ∧ (isPure P o.op = true ∨ isRead P o.op = true) ∧
    ∀ k ok, ops[k]? = some ok → (k ≠ i → ok.dst ≠ some d) ∧ (d ∈ looksL ops ok → i ∈ e.anc.getD k []) ∧
      ∀ dk, ok.dst = some dk → dk ∈ looksL ops o → k ∈ e.anc.getD i [] ∨ (k ∉ e.fl ∧ i ∈ e.anc.getD k []) := by
  simp only [chkDraw, Bool.and_eq_true, List.all_eq_true] at h
  have h1 := h.1 i hi
  unfold chkFl at h1
  cases ho : ops[i]? with
  | none => simp [ho] at h1
  | some o =>
    simp only [ho] at h1
    cases hd : o.dst with
    | none => simp [hd] at h1
    | some d =>
      simp only [hd, Bool.and_eq_true, Bool.or_eq_true, List.all_eq_true] at h1
      refine ⟨o, d, rfl, hd, h1.1, fun k ok hk => ?_⟩
      have hlt : k < ops.length := by
        rcases Nat.lt_or_ge k ops.length with h' | h'
        · exact h'
        · rw [List.getElem?_eq_none h'] at hk; cases hk
      have h2 := h1.2 k (List.mem_range.2 hlt)
      simp only [hk, Bool.and_eq_true, Bool.or_eq_true, beq_iff_eq, bne_iff_ne, Bool.not_eq_true'] at h2
      obtain ⟨⟨h3, h4⟩, h5⟩ := h2
      refine ⟨fun hne => h3.resolve_left hne, fun hm => ?_, fun dk hdk hm => ?_⟩
      · rcases h4 with h4 | h4
        · rw [memb_iff.2 hm] at h4; cases h4
        · exact memb_iff.1 h4
      · simp only [hdk, Bool.and_eq_true, Bool.or_eq_true, Bool.not_eq_true'] at h5
        rcases h5 with (h5 | h5) | ⟨h5, h6⟩
        · rw [memb_iff.2 hm] at h5; cases h5
        · exact .inl (memb_iff.1 h5)
        · exact .inr ⟨(fun hk' => by rw [memb_iff.2 hk'] at h5; cases h5), memb_iff.1 h6⟩
theorem anc_in (h : chkDraw P n ops e = true) {done : List Nat} (hc : ∀ k ∈ done, ∀ o, ops[k]? = some o → ∀ x ∈ bindsOn o, x ∈ done) :
    ∀ (k : Nat) (o : Oper), ops[k]? = some o → (∀ x ∈ bindsOn o, x ∈ done) → ∀ x ∈ e.anc.getD k [], x ∈ done := by
  intro k
  induction k using Nat.strongRecOn with
  | _ k ih =>
    intro o ho hd x hx
    obtain ⟨_, _, h3, h4⟩ := chk_op h ho
    obtain ⟨y, hy, hxy⟩ := h4 x hx
    rcases hxy with rfl | hxy
    · exact hd x hy
    · have hyd := hd y hy
      cases hoy : ops[y]? with
      | none =>
        rw [List.getElem?_eq_none_iff] at hoy
        have hk : k < ops.length := by
          rcases Nat.lt_or_ge k ops.length with h' | h'
          · exact h'
          · rw [List.getElem?_eq_none h'] at ho; cases ho
        have := h3 y hy
        omega
      | some oy => exact ih y (h3 y hy) oy hoy (fun z hz => hc y hyd oy hoy z hz) x hxy
end
end Go.Eng
namespace Go.Eng
open Go
section
variable {P : Program} {n : Nat} {D : List Deferred} {ops : List Oper} {e : DE}
def YY (P : Program) (ops : List Oper) (f : Fr) (o : Oper) (d : Nat) (w : World) : Prop :=
  (wantF ops f o = true ∧ (execOp (ev f) o).run P w = .ok (.value (f d)) w) ∨ (wantF ops f o = false ∧ f d = undef)
structure Inv (R : Fr → Prop) (P : Program) (n : Nat) (D : List Deferred) (ops : List Oper) (e : DE) (listed : Array Bool) (a : Act) (done pend : List Nat) (f : Fr) (w : World) : Prop where
  fr : R f
  defers : a.defers = D
  size : a.tmps.size = n
  lsize : listed.size = ops.length
  l1 : ∀ i : Nat, listed.getD i false = true → i ∈ done
  l2 : ∀ i ∈ done, i < ops.length ∧ (listed.getD i false = false → i ∈ e.fl ∧ i ∈ pend)
  l3 : ∀ t, (∀ i ∈ done, listed.getD i false = false → dstOf ops i ≠ some t) → a.tmps.getD t undef = f t
  l4 : ∀ i ∈ done, listed.getD i false = false → ∀ o d, ops[i]? = some o → o.dst = some d → YY P ops f o d w ∧ (isPure P o.op = true → ∀ w', YY P ops f o d w')
  l5 : ∀ i ∈ done, ∀ o, ops[i]? = some o → ∀ x ∈ bindsOn o, x ∈ done
  l6 : ∀ i : Nat, listed.getD i false = true → ∀ o, ops[i]? = some o → ∀ x ∈ bindsOn o, listed.getD x false = true
theorem looks_op {o : Oper} {t : Nat} (h : Operand.tmp t ∈ o.op.operands.toList) : t ∈ looksL ops o := by
  unfold looksL
  exact List.mem_append_left _ (List.mem_filterMap.2 ⟨.tmp t, h, rfl⟩)
theorem looks_guard {o : Oper} {g : Nat} {want : Bool} {d : Nat} (hg : o.guard = some (g, want)) (hd : dstOf ops g = some d) : d ∈ looksL ops o := by
  unfold looksL
  refine List.mem_append_right _ ?_
  simp [hg, hd]
theorem noSel_spec {o : Oper} (h : noSel o = true) : ∀ cs b, o.op ≠ .select cs b := by
  intro cs b he
  simp [noSel, he] at h
theorem exec_same {o : Oper} (hs : noSel o = true) {ρ ρ' : Operand → Value} (h : ∀ x ∈ o.op.operands.toList, ρ x = ρ' x) : execOp ρ o = execOp ρ' o :=
  execOp_congr o (noSel_spec hs) (fun x hx => h x (by simpa using hx))
theorem ev_same {f f' : Fr} {x : Operand} (h : ∀ t, x = .tmp t → f t = f' t) : ev f x = ev f' x := by
  cases x <;> first | rfl | exact h _ rfl
theorem wantF_same {f f' : Fr} {o : Oper} (h : ∀ t ∈ looksL ops o, f t = f' t) : wantF ops f o = wantF ops f' o := by
  unfold wantF
  cases hg : o.guard with
  | none => rfl
  | some gw =>
    obtain ⟨g, want⟩ := gw
    simp only [yv]
    cases hd : dstOf ops g with
    | none => rfl
    | some d => simp only [h d (looks_guard hg hd)]
theorem YY.same {f f' : Fr} {o : Oper} {d : Nat} {w : World} (hs : noSel o = true) (h : ∀ t ∈ looksL ops o, f t = f' t) (hd : f d = f' d) (hy : YY P ops f o d w) : YY P ops f' o d w := by
  unfold YY at *
  rw [← wantF_same h, ← hd]
  rw [← exec_same hs (ρ := ev f) (ρ' := ev f') (fun x hx => ev_same fun t ht => h t (looks_op (ht ▸ hx)))]
  exact hy
theorem qf_sound {f : Fr} {o : Oper} {w : World} {K : Value → Prop} (hp : isPure P o.op = true ∨ isRead P o.op = true) (h : qfW P ops f o w K) :
    ∃ v, K v ∧ ((wantF ops f o = true ∧ (execOp (ev f) o).run P w = .ok (.value v) w ∧ (isPure P o.op = true → ∀ w', (execOp (ev f) o).run P w' = .ok (.value v) w')) ∨ (wantF ops f o = false ∧ v = undef)) := by
  have key : ∀ K : Value → Prop, anyQ P f o w K → ∃ v, K v ∧ (execOp (ev f) o).run P w = .ok (.value v) w ∧ (isPure P o.op = true → ∀ w', (execOp (ev f) o).run P w' = .ok (.value v) w') := by
    intro K h
    unfold anyQ at h
    cases hp' : isPure P o.op with
    | true =>
      rw [hp'] at h
      obtain ⟨v, hk, hr⟩ := pure_sound (o := o) h
      exact ⟨v, hk, hr w, fun _ => hr⟩
    | false =>
      rw [hp'] at h
      obtain ⟨v, hk, hr⟩ := read_sound (o := o) h
      exact ⟨v, hk, hr, fun hh => by cases hh⟩
  unfold qfW at h
  unfold wantF
  cases hg : o.guard with
  | none =>
    simp only [hg] at h
    obtain ⟨v, hk, h1, h2⟩ := key K h
    exact ⟨v, hk, .inl ⟨rfl, h1, h2⟩⟩
  | some gw =>
    obtain ⟨g, want⟩ := gw
    simp only [hg] at h
    obtain ⟨v, ht, hf, hk⟩ := h
    cases hc : yv ops f g want with
    | true =>
      obtain ⟨v', rfl, h1, h2⟩ := key _ (ht hc)
      exact ⟨v', hk, .inl ⟨hc, h1, h2⟩⟩
    | false => exact ⟨v, hk, .inr ⟨hc, hf hc⟩⟩
theorem nextFl_some {done : List Nat} : ∀ {l : List Nat} {i : Nat} {o : Oper}, nextFl ops done l = some (i, o) → i ∈ l ∧ i ∉ done ∧ ops[i]? = some o ∧ ∀ x ∈ bindsOn o, x ∈ done
  | [], _, _, h => by cases h
  | j :: l, i, o, h => by
    simp only [nextFl] at h
    cases hm : memb done j with
    | true => rw [hm] at h; obtain ⟨h1, h2⟩ := nextFl_some (l := l) h; exact ⟨List.mem_cons_of_mem _ h1, h2⟩
    | false =>
      rw [hm] at h
      simp only [cond_false] at h
      have rec_ : nextFl ops done l = some (i, o) → i ∈ j :: l ∧ i ∉ done ∧ ops[i]? = some o ∧ ∀ x ∈ bindsOn o, x ∈ done := fun h => by
        obtain ⟨h1, h2⟩ := nextFl_some (l := l) h
        exact ⟨List.mem_cons_of_mem _ h1, h2⟩
      cases ho : ops[j]? with
      | none => rw [ho] at h; exact rec_ h
      | some o' =>
        rw [ho] at h
        simp only at h
        cases hall : allIn done (bindsOn o') with
        | true =>
          rw [hall] at h
          simp only [cond_true, Option.some.injEq, Prod.mk.injEq] at h
          obtain ⟨rfl, rfl⟩ := h
          exact ⟨List.mem_cons_self, (fun hd => by rw [memb_iff.2 hd] at hm; cases hm), ho, allIn_iff.1 hall⟩
        | false => rw [hall] at h; exact rec_ h
theorem nextFl_none {done : List Nat} : ∀ {l : List Nat}, nextFl ops done l = none → ∀ i ∈ l, i ∉ done → ∀ o, ops[i]? = some o → ¬ ∀ x ∈ bindsOn o, x ∈ done
  | [], _, _, hi, _, _, _, _ => by cases hi
  | j :: l, h, i, hi, hd, o, ho, hall => by
    simp only [nextFl] at h
    cases hm : memb done j with
    | true =>
      rw [hm] at h
      rcases List.mem_cons.1 hi with rfl | hi
      · exact hd (memb_iff.1 hm)
      · exact nextFl_none (l := l) h i hi hd o ho hall
    | false =>
      rw [hm] at h
      simp only [cond_false] at h
      rcases List.mem_cons.1 hi with rfl | hi
      · rw [ho] at h
        simp [allIn_iff.2 hall] at h
      · cases ho' : ops[j]? with
        | none => rw [ho'] at h; exact nextFl_none (l := l) h i hi hd o ho hall
        | some o' =>
          rw [ho'] at h
          simp only at h
          cases hall' : allIn done (bindsOn o') with
          | true => rw [hall'] at h; cases h
          | false => rw [hall'] at h; exact nextFl_none (l := l) h i hi hd o ho hall
theorem mem_effs {fl done : List Nat} : ∀ (l : List Oper) (k i : Nat) (o : Oper), l[i]? = some o → k + i ∉ done → k + i ∉ fl → (∀ x ∈ bindsOn o, x ∈ done) → (k + i, o) ∈ effs ops fl done k l
  | [], _, i, o, h, _, _, _ => by simp at h
  | p :: l, k, 0, o, h, h1, h2, h3 => by
    simp only [List.getElem?_cons_zero, Option.some.injEq] at h
    subst h
    have e1 : memb done k = false := by
      cases hm : memb done k with
      | false => rfl
      | true => exact absurd (memb_iff.1 hm) h1
    have e2 : memb fl k = false := by
      cases hm : memb fl k with
      | false => rfl
      | true => exact absurd (memb_iff.1 hm) h2
    simp [effs, e1, e2, allIn_iff.2 h3]
  | p :: l, k, i + 1, o, h, h1, h2, h3 => by
    have h' : l[i]? = some o := by simpa using h
    have := mem_effs (fl := fl) (done := done) l (k + 1) i o h' (by rwa [show k + 1 + i = k + (i + 1) by omega]) (by rwa [show k + 1 + i = k + (i + 1) by omega]) h3
    rw [show k + 1 + i = k + (i + 1) by omega] at this
    simp only [effs]
    generalize (bif memb done k then false else bif memb fl k then false else allIn done (bindsOn p)) = b
    cases b
    · exact this
    · exact List.mem_cons_of_mem _ this
theorem effs_mem {fl done : List Nat} : ∀ (l : List Oper) (k : Nat) (io : Nat × Oper), io ∈ effs ops fl done k l → k ≤ io.1 ∧ l[io.1 - k]? = some io.2 ∧ io.1 ∉ done ∧ io.1 ∉ fl ∧ ∀ x ∈ bindsOn io.2, x ∈ done
  | [], _, _, h => by cases h
  | p :: l, k, io, h => by
    simp only [effs] at h
    have tail : io ∈ effs ops fl done (k + 1) l → k ≤ io.1 ∧ (p :: l)[io.1 - k]? = some io.2 ∧ io.1 ∉ done ∧ io.1 ∉ fl ∧ ∀ x ∈ bindsOn io.2, x ∈ done := by
      intro h
      obtain ⟨h1, h2, h3⟩ := effs_mem l (k + 1) io h
      refine ⟨by omega, ?_, h3⟩
      rw [show io.1 - k = (io.1 - (k + 1)) + 1 by omega]
      simpa using h2
    cases hm : memb done k with
    | true => rw [hm] at h; exact tail h
    | false =>
      cases hf : memb fl k with
      | true => rw [hm, hf] at h; exact tail h
      | false =>
        cases ha : allIn done (bindsOn p) with
        | false => rw [hm, hf, ha] at h; exact tail h
        | true =>
          rw [hm, hf, ha] at h
          simp only [cond_false, cond_true] at h
          rcases List.mem_cons.1 h with rfl | h
          · refine ⟨Nat.le_refl _, by simp, (fun hd => by rw [memb_iff.2 hd] at hm; cases hm), (fun hd => by rw [memb_iff.2 hd] at hf; cases hf), allIn_iff.1 ha⟩
          · exact tail h
theorem stab_rest {f : Fr} {w : World} {R : Prop} : ∀ {l : List Nat}, stabW P ops f w R l → R
  | [], h => h
  | i :: l, h => by
    unfold stabW at h
    split at h
    · split at h
      · cases hp : isPure P _ <;> rw [hp] at h
        · exact stab_rest (l := l) h.2
        · exact stab_rest (l := l) h
      · exact stab_rest (l := l) h
    · exact stab_rest (l := l) h
theorem stab_get {f : Fr} {w : World} {R : Prop} : ∀ {l : List Nat}, stabW P ops f w R l → ∀ i ∈ l, ∀ o d, ops[i]? = some o → o.dst = some d → isPure P o.op = false → wantF ops f o = true →
    readW P f o w (fun x => x = f d)
  | [], _, _, hi, _, _, _, _, _, _ => by cases hi
  | j :: l, h, i, hi, o, d, ho, hd, hp, hw => by
    rcases List.mem_cons.1 hi with rfl | hi
    · unfold stabW at h
      simp only [ho, hd, hp] at h
      unfold wantF at hw
      cases hg : o.guard with
      | none => simp only [hg] at h; exact h.1
      | some gw =>
        obtain ⟨g, want⟩ := gw
        simp only [hg] at h hw
        exact h.1 hw
    · unfold stabW at h
      split at h
      · split at h
        · cases hp' : isPure P _ <;> rw [hp'] at h
          · exact stab_get (l := l) h.2 i hi o d ho hd hp hw
          · exact stab_get (l := l) h i hi o d ho hd hp hw
        · exact stab_get (l := l) h i hi o d ho hd hp hw
      · exact stab_get (l := l) h i hi o d ho hd hp hw
end
end Go.Eng
namespace Go.Eng
open Go
section
variable {R : Fr → Prop} {P : Program} {n : Nat} {D : List Deferred} {ops : List Oper} {e : DE}
theorem nodup_le : ∀ (N : Nat) (l : List Nat), l.Nodup → (∀ i ∈ l, i < N) → l.length ≤ N
  | 0, [], _, _ => Nat.le_refl _
  | 0, x :: _, _, h => by have := h x List.mem_cons_self; omega
  | N + 1, l, hnd, h => by
    have h1 : (l.erase N).length ≤ N := nodup_le N (l.erase N) (hnd.erase N) fun i hi => by
      have h2 := h i (List.mem_of_mem_erase hi)
      have h3 : i ≠ N := fun e => by subst e; exact (List.Nodup.not_mem_erase hnd) hi
      omega
    have h4 := List.length_erase (a := N) (l := l)
    split at h4 <;> omega
theorem lt_of_some {k : Nat} {o : Oper} (h : ops[k]? = some o) : k < ops.length := by
  rcases Nat.lt_or_ge k ops.length with h' | h'
  · exact h'
  · rw [List.getElem?_eq_none h'] at h; cases h
theorem dstOf_some {k : Nat} {o : Oper} (h : ops[k]? = some o) : dstOf ops k = o.dst := by simp [dstOf, h]
theorem Inv.float (hR : ∀ f o v, o ∈ ops → R f → R (upd f o.dst v)) (hc : chkDraw P n ops e = true) {listed : Array Bool} {a : Act} {done pend : List Nat} {f : Fr} {w : World} (I : Inv R P n D ops e listed a done pend f w)
    {i : Nat} {o : Oper} (hi : i ∈ e.fl) (hd : i ∉ done) (ho : ops[i]? = some o) (hb : ∀ x ∈ bindsOn o, x ∈ done) {v : Value}
    (hv : (wantF ops f o = true ∧ (execOp (ev f) o).run P w = .ok (.value v) w ∧ (isPure P o.op = true → ∀ w', (execOp (ev f) o).run P w' = .ok (.value v) w')) ∨ (wantF ops f o = false ∧ v = undef)) :
    Inv R P n D ops e listed a (i :: done) (i :: pend) (upd f o.dst v) w := by
  obtain ⟨o', d, ho', hdst, hkind, hall⟩ := chk_fl hc hi
  rw [ho] at ho'
  cases ho'
  have hself : d ∉ looksL ops o := fun hm => hd (anc_in hc I.l5 i o ho hb i ((hall i o ho).2.1 hm))
  have hfd : ∀ t, t ≠ d → upd f o.dst v t = f t := fun t ht => by rw [hdst, upd_some, if_neg ht]
  refine ⟨hR _ _ _ (List.mem_of_getElem? ho) I.fr, I.defers, I.size, I.lsize, fun k hk => List.mem_cons_of_mem _ (I.l1 k hk), ?_, ?_, ?_, ?_, I.l6⟩
  · intro k hk
    rcases List.mem_cons.1 hk with rfl | hk
    · exact ⟨lt_of_some ho, fun _ => ⟨hi, List.mem_cons_self⟩⟩
    · exact ⟨(I.l2 k hk).1, fun hl => ⟨((I.l2 k hk).2 hl).1, List.mem_cons_of_mem _ ((I.l2 k hk).2 hl).2⟩⟩
  · intro t ht
    have htd : t ≠ d := fun h => by
      subst h
      refine ht i List.mem_cons_self ?_ (by rw [dstOf_some ho, hdst])
      cases hl : listed.getD i false with
      | false => rfl
      | true => exact absurd (I.l1 i hl) hd
    rw [hfd t htd]
    exact I.l3 t fun k hk hl => ht k (List.mem_cons_of_mem _ hk) hl
  · intro k hk hl ok dk hok hdk
    rcases List.mem_cons.1 hk with rfl | hk
    · rw [ho] at hok
      cases hok
      rw [hdst] at hdk
      cases hdk
      have hsame : ∀ t ∈ looksL ops o, f t = upd f o.dst v t := fun t ht => (hfd t (fun h => hself (h ▸ ht))).symm
      have hval : upd f o.dst v d = v := by rw [hdst, upd_some, if_pos rfl]
      have hsel := (chk_op hc ho).2.1
      have hex : execOp (ev f) o = execOp (ev (upd f o.dst v)) o := exec_same hsel (fun x hx => ev_same fun t ht => hsame t (looks_op (ht ▸ hx)))
      rcases hv with ⟨h1, h2, h3⟩ | ⟨h1, h2⟩
      · rw [hex] at h2 h3
        rw [wantF_same hsame] at h1
        exact ⟨.inl ⟨h1, by rw [hval]; exact h2⟩, fun hp w' => .inl ⟨h1, by rw [hval]; exact h3 hp w'⟩⟩
      · rw [wantF_same hsame] at h1
        exact ⟨.inr ⟨h1, by rw [hval]; exact h2⟩, fun _ _ => .inr ⟨h1, by rw [hval]; exact h2⟩⟩
    · have hki : k ≠ i := fun h => hd (h ▸ hk)
      have hdl : d ∉ looksL ops ok := fun hm => hd (anc_in hc I.l5 k ok hok (I.l5 k hk ok hok) i ((hall k ok hok).2.1 hm))
      have hdd : dk ≠ d := fun h => (hall k ok hok).1 hki (by rw [hdk, h])
      have hsel := (chk_op hc hok).2.1
      have h4 := I.l4 k hk hl ok dk hok hdk
      have hsame : ∀ t ∈ looksL ops ok, f t = upd f o.dst v t := fun t ht => (hfd t (fun h => hdl (h ▸ ht))).symm
      exact ⟨h4.1.same hsel hsame (hfd dk hdd).symm, fun hp w' => (h4.2 hp w').same hsel hsame (hfd dk hdd).symm⟩
  · intro k hk ok hok x hx
    rcases List.mem_cons.1 hk with rfl | hk
    · rw [ho] at hok
      cases hok
      exact List.mem_cons_of_mem _ (hb x hx)
    · exact List.mem_cons_of_mem _ (I.l5 k hk ok hok x hx)
theorem draw_norm [HX] (hR : ∀ f o v, o ∈ ops → R f → R (upd f o.dst v)) (hc : chkDraw P n ops e = true) {K : Fr → World → Prop} {listed : Array Bool} {a : Act} {w : World} : ∀ (m : Nat) (done pend : List Nat) (f : Fr),
    Inv R P n D ops e listed a done pend f w → drawW P ops e m done pend f w K →
    ∃ m' done' pend' f', Inv R P n D ops e listed a done' pend' f' w ∧ drawW P ops e (m' + 1) done' pend' f' w K ∧ nextFl ops done' e.fl = none
  | 0, _, _, _, _, h => by cases h
  | m + 1, done, pend, f, I, h => by
    cases hn : nextFl ops done e.fl with
    | none => exact ⟨m, done, pend, f, I, h, hn⟩
    | some io =>
      obtain ⟨i, o⟩ := io
      simp only [drawW, hn] at h
      obtain ⟨h1, h2, h3, h4⟩ := nextFl_some hn
      obtain ⟨o', d, ho', hdst, hkind, _⟩ := chk_fl hc h1
      rw [h3] at ho'
      cases ho'
      obtain ⟨v, hk, hv⟩ := qf_sound hkind h
      exact draw_norm hR hc m _ _ _ (I.float hR hc h1 h2 h3 h4 hv) hk
theorem mem_ready' {listed : Array Bool} {i : Nat} (hsz : listed.size = ops.length) : i ∈ Region.ready .any ops.toArray listed ↔
    ∃ o, ops[i]? = some o ∧ listed.getD i false = false ∧ ∀ x ∈ bindsOn o, listed.getD x false = true := by
  unfold Region.ready
  simp only [List.mem_filter, List.mem_range, List.size_toArray, Bool.and_eq_true, Bool.not_eq_true', List.getElem?_toArray]
  constructor
  · rintro ⟨h1, h2, h3⟩
    have ho : ops[i]? = some ops[i] := List.getElem?_eq_getElem h1
    rw [ho] at h3
    simp only [Option.map_some, Option.getD_some, Array.all_eq_true_iff_forall_mem, Bool.or_eq_true, Bool.not_eq_true'] at h3
    refine ⟨_, ho, ?_, fun x hx => ?_⟩
    · simp only [Array.getD_eq_getD_getElem?] at h2 ⊢
      have : i < listed.size := by rw [hsz]; exact h1
      simpa [this] using h2
    · simp only [bindsOn, List.mem_map, List.mem_filter, Array.mem_toList_iff] at hx
      obtain ⟨ed, ⟨hm, hb⟩, rfl⟩ := hx
      rcases h3 ed hm with h3 | h3
      · rw [hb] at h3; cases h3
      · exact h3
  · rintro ⟨o, ho, h2, h3⟩
    have h1 := lt_of_some ho
    refine ⟨h1, ?_, ?_⟩
    · simp only [Array.getD_eq_getD_getElem?] at h2 ⊢
      have : i < listed.size := by rw [hsz]; exact h1
      simpa [this] using h2
    · rw [ho]
      simp only [Option.map_some, Option.getD_some, Array.all_eq_true_iff_forall_mem, Bool.or_eq_true, Bool.not_eq_true']
      intro ed hm
      cases hb : Region.binds .any ed with
      | false => exact .inl rfl
      | true => exact .inr (h3 _ (by simp only [bindsOn, List.mem_map, List.mem_filter, Array.mem_toList_iff]; exact ⟨ed, ⟨hm, hb⟩, rfl⟩))
theorem getD_set (listed : Array Bool) (i k : Nat) (hi : i < listed.size) : (listed.setIfInBounds i true).getD k false = (if k = i then true else listed.getD k false) := by
  simp only [Array.getD_eq_getD_getElem?, Array.getElem?_setIfInBounds]
  by_cases h : k = i
  · subst h; simp [hi]
  · rw [if_neg h, if_neg (Ne.symm h)]
theorem draw_sound [HX] (hR : ∀ f o v, o ∈ ops → R f → R (upd f o.dst v)) (hc : chkDraw P n ops e = true) {Q : Exit → Act → World → Prop} {K : Fr → World → Prop}
    (hQ : ∀ f a w, Ag n D f a → R f → K f w → Q .normal a w) (hX : ∀ c f a w, a.defers = D → R f → (∀ t, (∀ o ∈ ops, o.dst ≠ some t) → a.tmps.getD t undef = f t) → HX.X c w → Q (.panic c) a w) : ∀ (m : Nat) (listed : Array Bool) (a : Act) (done pend : List Nat) (f : Fr) (w : World) (k : Nat),
    Inv R P n D ops e listed a done pend f w → drawW P ops e k done pend f w K → (∀ l : List Nat, l.Nodup → (∀ i ∈ l, i < ops.length ∧ listed.getD i false = false) → l.length ≤ m) →
    wpAny P .any ops.toArray Q m listed a w := by
  -- all is listed: the end
  have fin : ∀ (listed : Array Bool) (a : Act) (done pend : List Nat) (f : Fr) (w : World) (k : Nat), Inv R P n D ops e listed a done pend f w → drawW P ops e k done pend f w K →
      (∀ i, i < ops.length → listed.getD i false = true) → Q .normal a w := by
    intro listed a done pend f w k I h hall
    obtain ⟨k', done', pend', f', I', h', hn⟩ := draw_norm hR hc k done pend f I h
    simp only [drawW, hn] at h'
    have hag : Ag n D f' a := ⟨I'.defers, I'.size, fun t => I'.l3 t fun i hi hl => by
      have := hall i (I'.l2 i hi).1
      rw [this] at hl
      cases hl⟩
    cases he : effs ops e.fl done' 0 ops with
    | nil => rw [he] at h'; exact hQ _ _ _ hag I'.fr h'
    | cons x r =>
      have hx : x ∈ effs ops e.fl done' 0 ops := by rw [he]; exact List.mem_cons_self
      obtain ⟨_, h2, h3, _⟩ := effs_mem ops 0 x hx
      exact absurd (I'.l1 x.1 (hall x.1 (lt_of_some (by simpa using h2)))) h3
  -- nothing may come: all is listed
  have stop : ∀ (listed : Array Bool), listed.size = ops.length → Region.ready .any ops.toArray listed = [] → ∀ i, i < ops.length → listed.getD i false = true := by
    intro listed hsz hr i
    induction i using Nat.strongRecOn with
    | _ i ih =>
      intro hi
      cases hl : listed.getD i false with
      | true => rfl
      | false =>
        have ho : ops[i]? = some ops[i] := List.getElem?_eq_getElem hi
        have : i ∈ Region.ready .any ops.toArray listed := (mem_ready' hsz).2 ⟨_, ho, hl, fun x hx => by
          have := (chk_op hc ho).2.2.1 x hx
          exact ih x this (by omega)⟩
        rw [hr] at this
        cases this
  intro m
  induction m with
  | zero =>
    intro listed a done pend f w k I h hcount
    have hall : ∀ i, i < ops.length → listed.getD i false = true := fun i hi => by
      cases hl : listed.getD i false with
      | true => rfl
      | false => have := hcount [i] (by simp) (by intro j hj; rw [List.mem_singleton.1 hj]; exact ⟨hi, hl⟩); simp at this
    refine ⟨?_, fin _ _ _ _ _ _ _ I h hall⟩
    cases hr : Region.ready .any ops.toArray listed with
    | nil => rfl
    | cons i r =>
      have : i ∈ Region.ready .any ops.toArray listed := by rw [hr]; exact List.mem_cons_self
      obtain ⟨o, ho, hl, _⟩ := (mem_ready' I.lsize).1 this
      rw [hall i (lt_of_some ho)] at hl
      cases hl
  | succ m ih =>
    intro listed a done pend f w k I h hcount
    refine ⟨fun hr => fin _ _ _ _ _ _ _ I h (stop listed I.lsize hr), fun i hi => ?_⟩
    obtain ⟨o, ho, hl, hb⟩ := (mem_ready' I.lsize).1 hi
    have hilt := lt_of_some ho
    have hils : i < listed.size := by rw [I.lsize]; exact hilt
    obtain ⟨k', done', pend', f', I', h', hn⟩ := draw_norm hR hc k done pend f I h
    clear I h
    -- what i looks at is the same in the slots and in the frame
    have hagree : ∀ t ∈ looksL ops o, a.tmps.getD t undef = f' t := fun t ht => I'.l3 t fun j hj hlj hdj => by
      obtain ⟨hjf, _⟩ := (I'.l2 j hj).2 hlj
      obtain ⟨oj, dj, hoj, hdst, _, hall⟩ := chk_fl hc hjf
      rw [dstOf_some hoj, hdst] at hdj
      cases hdj
      have hanc := (hall i o ho).2.1 ht
      have hlist : ∀ x ∈ e.anc.getD i [], listed.getD x false = true := by
        have := anc_in hc (done := (List.range ops.length).filter fun x => listed.getD x false) (fun x hx ox hox y hy => by
          simp only [List.mem_filter, List.mem_range] at hx ⊢
          exact ⟨by have := (chk_op hc hox).2.2.1 y hy; omega, I'.l6 x hx.2 ox hox y hy⟩) i o ho (fun x hx => by
          simp only [List.mem_filter, List.mem_range]
          exact ⟨by have := (chk_op hc ho).2.2.1 x hx; omega, hb x hx⟩)
        intro x hx
        have := this x hx
        simp only [List.mem_filter] at this
        exact this.2
      rw [hlist j hanc] at hlj
      cases hlj
    have hsel := (chk_op hc ho).2.1
    have hwant : Region.wanted o (yielded ops.toArray a.tmps) = wantF ops f' o := wanted_eq fun g want d hg hd => hagree d (looks_guard hg hd)
    have hexec : execOp a.eval o = execOp (ev f') o := exec_same hsel fun x hx => ev_eq fun t ht => hagree t (looks_op (ht ▸ hx))
    have hcount' : ∀ l : List Nat, l.Nodup → (∀ j ∈ l, j < ops.length ∧ (listed.setIfInBounds i true).getD j false = false) → l.length ≤ m := by
      intro l hnd hl'
      have hil : i ∉ l := fun hm => by
        have := (hl' i hm).2
        rw [getD_set _ _ _ hils, if_pos rfl] at this
        cases this
      have := hcount (i :: l) (List.nodup_cons.2 ⟨hil, hnd⟩) (fun j hj => by
        rcases List.mem_cons.1 hj with rfl | hj
        · exact ⟨hilt, hl⟩
        · have hne : j ≠ i := fun h => hil (h ▸ hj)
          have := hl' j hj
          rw [getD_set _ _ _ hils, if_neg hne] at this
          exact this)
      simpa using this
    have hl6 : ∀ j : Nat, (listed.setIfInBounds i true).getD j false = true → ∀ oj, ops[j]? = some oj → ∀ x ∈ bindsOn oj, (listed.setIfInBounds i true).getD x false = true := by
      intro j hj oj hoj x hx
      rw [getD_set _ _ _ hils]
      by_cases hxi : x = i
      · rw [if_pos hxi]
      · rw [if_neg hxi]
        rw [getD_set _ _ _ hils] at hj
        by_cases hji : j = i
        · subst hji; rw [ho] at hoj; cases hoj; exact hb x hx
        · rw [if_neg hji] at hj; exact I'.l6 j hj oj hoj x hx
    by_cases hdone : i ∈ done'
    · -- a float that the canonical run has taken already
      obtain ⟨hif, _⟩ := (I'.l2 i hdone).2 hl
      obtain ⟨o', d, ho', hdst, _, hall⟩ := chk_fl hc hif
      rw [ho] at ho'
      cases ho'
      have hdn := (chk_op hc ho).1 d hdst
      have hI : Inv R P n D ops e (listed.setIfInBounds i true) (a.put o.dst (f' d)) done' pend' f' w := by
        refine ⟨I'.fr, by rw [put_defers]; exact I'.defers, by rw [put_size]; exact I'.size, by simp [I'.lsize], ?_, ?_, ?_, ?_, I'.l5, hl6⟩
        · intro j hj
          rw [getD_set _ _ _ hils] at hj
          by_cases hji : j = i
          · subst hji; exact hdone
          · rw [if_neg hji] at hj; exact I'.l1 j hj
        · intro j hj
          refine ⟨(I'.l2 j hj).1, fun hlj => ?_⟩
          rw [getD_set _ _ _ hils] at hlj
          by_cases hji : j = i
          · rw [if_pos hji] at hlj; cases hlj
          · rw [if_neg hji] at hlj; exact (I'.l2 j hj).2 hlj
        · intro t ht
          rw [hdst, put_get _ _ _ _ (by rw [I'.size]; exact hdn)]
          by_cases htd : t = d
          · rw [if_pos htd, htd]
          · rw [if_neg htd]
            refine I'.l3 t fun j hj hlj hdj => ?_
            by_cases hji : j = i
            · subst hji
              rw [dstOf_some ho, hdst] at hdj
              cases hdj
              exact htd rfl
            · exact ht j hj (by rw [getD_set _ _ _ hils, if_neg hji]; exact hlj) hdj
        · intro j hj hlj
          rw [getD_set _ _ _ hils] at hlj
          by_cases hji : j = i
          · rw [if_pos hji] at hlj; cases hlj
          · rw [if_neg hji] at hlj; exact I'.l4 j hj hlj
      have hnext := ih _ _ done' pend' f' w (k' + 1) hI h' hcount'
      have hy := (I'.l4 i hdone hl o d ho hdst).1
      unfold wpOp
      simp only [List.getElem?_toArray, ho]
      rw [hwant]
      rcases hy with ⟨h1, h2⟩ | ⟨h1, h2⟩
      · rw [if_pos h1]
        refine .inl ?_
        unfold Oper.wp
        rw [hexec, h2]
        exact hnext
      · rw [if_neg (by rw [h1]; simp), ← h2]
        exact hnext
    · -- an operation that acts
      have hbd : ∀ x ∈ bindsOn o, x ∈ done' := fun x hx => I'.l1 x (hb x hx)
      have hnf : i ∉ e.fl := fun hf => nextFl_none hn i hf hdone o ho hbd
      have hmem : (i, o) ∈ effs ops e.fl done' 0 ops := by
        have := mem_effs (ops := ops) (fl := e.fl) (done := done') ops 0 i o ho (by simpa using hdone) (by simpa using hnf) hbd
        simpa using this
      simp only [drawW, hn] at h'
      have hge : geW P ops f' o w fun v w' => stabW P ops (upd f' o.dst v) w' (drawW P ops e k' (i :: done') (notIn (e.anc.getD i []) pend') (upd f' o.dst v) w' K) (notIn (e.anc.getD i []) pend') := by
        cases he : effs ops e.fl done' 0 ops with
        | nil => rw [he] at hmem; cases hmem
        | cons x r =>
          rw [he] at h' hmem
          exact conjW_mem h' hmem
      have hdn := (chk_op hc ho).1
      have hlanc : ∀ x ∈ e.anc.getD i [], listed.getD x false = true := by
        have := anc_in hc (done := (List.range ops.length).filter fun x => listed.getD x false) (fun x hx ox hox y hy => by
          simp only [List.mem_filter, List.mem_range] at hx ⊢
          exact ⟨by have := (chk_op hc hox).2.2.1 y hy; omega, I'.l6 x hx.2 ox hox y hy⟩) i o ho (fun x hx => by
          simp only [List.mem_filter, List.mem_range]
          exact ⟨by have := (chk_op hc ho).2.2.1 x hx; omega, hb x hx⟩)
        intro x hx
        have := this x hx
        simp only [List.mem_filter] at this
        exact this.2
      -- what stands behind it
      have cont : ∀ v w', stabW P ops (upd f' o.dst v) w' (drawW P ops e k' (i :: done') (notIn (e.anc.getD i []) pend') (upd f' o.dst v) w' K) (notIn (e.anc.getD i []) pend') →
          wpAny P .any ops.toArray Q m (listed.setIfInBounds i true) (a.put o.dst v) w' := by
        intro v w' hst
        refine ih _ _ (i :: done') (notIn (e.anc.getD i []) pend') (upd f' o.dst v) w' k' ?_ (stab_rest hst) hcount'
        have hunl : ∀ j ∈ i :: done', (listed.setIfInBounds i true).getD j false = false → j ≠ i ∧ j ∈ done' ∧ listed.getD j false = false := by
          intro j hj hlj
          rw [getD_set _ _ _ hils] at hlj
          by_cases hji : j = i
          · rw [if_pos hji] at hlj; cases hlj
          · rw [if_neg hji] at hlj
            exact ⟨hji, (List.mem_cons.1 hj).resolve_left hji, hlj⟩
        refine ⟨hR _ _ _ (List.mem_of_getElem? ho) I'.fr, by rw [put_defers]; exact I'.defers, by rw [put_size]; exact I'.size, by simp [I'.lsize], ?_, ?_, ?_, ?_, ?_, hl6⟩
        · intro j hj
          rw [getD_set _ _ _ hils] at hj
          by_cases hji : j = i
          · subst hji; exact List.mem_cons_self
          · rw [if_neg hji] at hj; exact List.mem_cons_of_mem _ (I'.l1 j hj)
        · intro j hj
          refine ⟨?_, fun hlj => ?_⟩
          · rcases List.mem_cons.1 hj with rfl | hj
            · exact hilt
            · exact (I'.l2 j hj).1
          · obtain ⟨hji, hjd, hlj'⟩ := hunl j hj hlj
            obtain ⟨h1, h2⟩ := (I'.l2 j hjd).2 hlj'
            exact ⟨h1, mem_notIn h2 fun hm => by rw [hlanc j hm] at hlj'; cases hlj'⟩
        · intro t ht
          have h3 : ∀ (h : ∀ d, o.dst = some d → t ≠ d), a.tmps.getD t undef = f' t := fun h => I'.l3 t fun j hj hlj hdj => by
            have hji : j ≠ i := fun h' => hdone (h' ▸ hj)
            exact ht j (List.mem_cons_of_mem _ hj) (by rw [getD_set _ _ _ hils, if_neg hji]; exact hlj) hdj
          cases hdst : o.dst with
          | none => rw [hdst] at h3; exact h3 (fun d hd => by cases hd)
          | some d =>
            rw [put_get _ _ _ _ (by rw [I'.size]; exact hdn d hdst), upd_some]
            by_cases htd : t = d
            · rw [if_pos htd, if_pos htd]
            · rw [if_neg htd, if_neg htd]
              exact h3 (fun d' hd' => by rw [hdst] at hd'; cases hd'; exact htd)
        · intro j hj hlj oj dj hoj hdj
          obtain ⟨hji, hjd, hlj'⟩ := hunl j hj hlj
          obtain ⟨hjf, hjp⟩ := (I'.l2 j hjd).2 hlj'
          obtain ⟨oj', dj', hoj', hdj', hkind, hall⟩ := chk_fl hc hjf
          rw [hoj] at hoj'
          cases hoj'
          rw [hdj] at hdj'
          cases hdj'
          have hselj := (chk_op hc hoj).2.1
          have hanc : j ∉ e.anc.getD i [] := fun hm => by rw [hlanc j hm] at hlj'; cases hlj'
          -- the slot that i writes is none of j's
          have hfree : ∀ t, (t ∈ looksL ops oj ∨ t = dj) → f' t = upd f' o.dst v t := by
            intro t ht
            cases hdst : o.dst with
            | none => rfl
            | some d =>
              rw [upd_some]
              by_cases htd : t = d
              · exfalso
                subst htd
                rcases ht with ht | ht
                · rcases (hall i o ho).2.2 t hdst ht with h1 | ⟨_, h1⟩
                  · exact hdone (anc_in hc I'.l5 j oj hoj (I'.l5 j hjd oj hoj) i h1)
                  · exact hanc h1
                · exact (hall i o ho).1 (Ne.symm hji) (by rw [hdst, ht])
              · rw [if_neg htd]
          obtain ⟨hy1, hy2⟩ := I'.l4 j hjd hlj' oj dj hoj hdj
          have hpure : isPure P oj.op = true → ∀ w', YY P ops (upd f' o.dst v) oj dj w' := fun hp w' => (hy2 hp w').same hselj (fun t ht => hfree t (.inl ht)) (hfree dj (.inr rfl))
          refine ⟨?_, hpure⟩
          cases hp : isPure P oj.op with
          | true => exact hpure hp w'
          | false =>
            cases hwj : wantF ops (upd f' o.dst v) oj with
            | true =>
              have := stab_get hst j (mem_notIn hjp hanc) oj dj hoj hdj hp hwj
              obtain ⟨x, rfl, hr⟩ := read_sound this
              exact .inl ⟨hwj, hr⟩
            | false =>
              refine .inr ⟨hwj, ?_⟩
              have hw0 : wantF ops f' oj = false := by rw [wantF_same (fun t ht => hfree t (.inl ht))]; exact hwj
              rcases hy1 with ⟨h1, _⟩ | ⟨_, h1⟩
              · rw [hw0] at h1; cases h1
              · rw [← hfree dj (.inr rfl)]; exact h1
        · intro j hj oj hoj x hx
          rcases List.mem_cons.1 hj with rfl | hj
          · rw [ho] at hoj; cases hoj; exact List.mem_cons_of_mem _ (hbd x hx)
          · exact List.mem_cons_of_mem _ (I'.l5 j hj oj hoj x hx)
      unfold wpOp
      simp only [List.getElem?_toArray, ho]
      rw [hwant]
      unfold geW at hge
      unfold wantF
      have hxa : ∀ c w, HX.X c w → Q (.panic c) a w := fun c w hx => hX c f' a w I'.defers I'.fr (fun t ht => I'.l3 t fun j hj _ hdj => by
        obtain ⟨oj, hoj⟩ : ∃ oj, ops[j]? = some oj := ⟨_, List.getElem?_eq_getElem (I'.l2 j hj).1⟩
        rw [dstOf_some hoj] at hdj
        exact ht oj (List.mem_of_getElem? hoj) hdj) hx
      have act : ∀ {K' : Value → World → Prop}, (∀ v w', K' v w' → wpAny P .any ops.toArray Q m (listed.setIfInBounds i true) (a.put o.dst v) w') → anyW P f' o w K' →
          o.wp P a w (wpAny P .any ops.toArray Q m (listed.setIfInBounds i true)) Q := by
        intro K' hk ha
        unfold Oper.wp
        rw [hexec]
        exact (any_sound ha).upon hk hxa
      cases hg : o.guard with
      | none =>
        simp only [hg] at hge
        exact .inl (act cont hge)
      | some gw =>
        obtain ⟨g, want⟩ := gw
        simp only [hg] at hge
        obtain ⟨h1, h2⟩ := hge
        cases hcv : yv ops f' g want with
        | true => simp only [hcv, if_true]; exact .inl (act cont (h1 hcv))
        | false => simp only [hcv, Bool.false_eq_true, if_false]; exact cont _ _ (h2 hcv)
theorem region_draw [HX] {id : Nat} (hR : ∀ f o v, o ∈ ops → R f → R (upd f o.dst v)) (hm : P.follows .mixedOrders = true) (hc : chkDraw P n ops e = true) {Q : Exit → Act → World → Prop} {K : Fr → World → Prop} {f : Fr} {a : Act} {w : World} {k : Nat}
    (hQ : ∀ f a w, Ag n D f a → R f → K f w → Q .normal a w) (hX : ∀ c f a w, a.defers = D → R f → (∀ t, (∀ o ∈ ops, o.dst ≠ some t) → a.tmps.getD t undef = f t) → HX.X c w → Q (.panic c) a w) (ha : Ag n D f a) (hf : R f) (h : drawW P ops e k [] [] f w.drew K) : (Code.region id ops.toArray true).wp P Q a w := by
  refine wp_region_any hm ?_
  have hfalse : ∀ i : Nat, (Array.replicate ops.length false).getD i false = false := fun i => by
    simp only [Array.getD_eq_getD_getElem?, Array.getElem?_replicate]
    split <;> rfl
  refine draw_sound hR hc hQ hX _ _ a [] [] f _ k ⟨hf, ha.1, ha.2.1, by simp, ?_, ?_, ?_, ?_, ?_, ?_⟩ h ?_
  · intro i hi; rw [show ops.toArray.size = ops.length from by simp, hfalse] at hi; cases hi
  · intro i hi; cases hi
  · intro t _; exact ha.2.2 t
  · intro i hi; cases hi
  · intro i hi; cases hi
  · intro i hi; rw [show ops.toArray.size = ops.length from by simp, hfalse] at hi; cases hi
  · intro l hnd hl
    have : l.length ≤ ops.length := by
      exact nodup_le _ l hnd fun i hi => (hl i hi).1
    simpa using this
end
end Go.Eng
namespace Go.Eng
open Go
structure PE where
  C : List Nat
  V : List Nat
  lo : Nat
structure Plan where
  js : List (Nat × PE)
  ds : List (Nat × DE)
def lk {α : Type} : List (Nat × α) → Nat → Option α
  | [], _ => none
  | (k, e) :: r, i => bif Nat.beq k i then some e else lk r i
def inS (V : List Nat) (lo t : Nat) : Bool := bif Nat.ble lo t then true else memb V t
def ovl : List Nat → Nat → List Value → Fr → Fr
  | [], _, _, f => f
  | c :: C, k, s, f => fun j => bif Nat.beq j c then s.getD k undef else ovl C (k + 1) s f j
def ovf (e : PE) (f : Fr) (s : List Value) (g : Fr) : Fr := ovl e.C 0 s (fun j => bif inS e.V e.lo j then g j else f j)
def JoinW (A : (List Value → World → Prop) → Prop) (B : List Value → Fr → World → Prop) : Prop :=
  ∃ J : List Value → World → Prop, A J ∧ ∀ s g w, J s w → B s g w
def GdW (c : Bool) (u : List Value) (w : World) (A : (List Value → World → Prop) → Prop) (B : List Value → Fr → World → Prop) : Prop :=
  ∃ J : List Value → World → Prop, (c = true → A J) ∧ (c = false → J u w) ∧ ∀ s g w', J s w' → B s g w'
def LoopW (s0 : List Value) (w0 : World) (B : List Value → Fr → World → (List Value → World → Prop) → Prop) : Prop :=
  ∃ (I : List Value → World → Prop) (μ : List Value → World → Nat), I s0 w0 ∧ ∀ s g w, I s w → B s g w (fun s' w' => I s' w' ∧ μ s' w' < μ s w)
def condW (v : Value) (A B : Prop) : Prop := match v with | .bool t => (t = true → A) ∧ (t = false → B) | _ => False
def gEq : Option (Nat × Bool) → Nat → Bool → Bool
  | some (g', w'), g, w => bif Nat.beq g g' then w == w' else false
  | none, _, _ => false
def grpOf (g : Nat) (want : Bool) : List Oper → List Oper
  | [] => []
  | o :: r => bif gEq o.guard g want then o :: grpOf g want r else []
def restOf (g : Nat) (want : Bool) : List Oper → List Oper
  | [] => []
  | o :: r => bif gEq o.guard g want then restOf g want r else o :: r
def opsL [HX] (P : Program) : List Oper → Fr → World → (Fr → World → Prop) → Prop
  | [], f, w, K => K f w
  | o :: r, f, w, K => anyW P f o w fun v w' => opsL P r (upd f o.dst v) w' K
def undefs : List Oper → Fr → Fr
  | [], f => f
  | o :: r, f => undefs r (upd f o.dst undef)
def inPos (i k : Nat) : Nat := i * 1000 + k
def opsW [HX] (P : Program) (pl : Plan) (i : Nat) (ops : List Oper) : Nat → List Oper → Fr → World → (Fr → World → Prop) → Prop
  | 0, _, _, _, _ => False
  | _ + 1, [], f, w, K => K f w
  | n + 1, o :: r, f, w, K =>
    match o.guard with
    | none => anyW P f o w fun v w' => opsW P pl i ops n r (upd f o.dst v) w' K
    | some (g, want) =>
      match lk pl.js (inPos i (o :: r).length) with
      | some e => GdW (yv ops f g want) (e.C.map (undefs (grpOf g want (o :: r)) f)) w (fun J => opsL P (grpOf g want (o :: r)) f w fun f' w' => J (e.C.map f') w')
          fun s h w' => opsW P pl i ops n (restOf g want (o :: r)) (ovf e f s h) w' K
      | none => False
def nodes : Code → Nat
  | .seq a b => nodes a + nodes b + 1
  | .cond _ a b => nodes a + nodes b + 1
  | .block _ b => nodes b + 1
  | .loop b => nodes b + 1
  | .scope b => nodes b + 1
  | _ => 1
def codeW [HX] (P : Program) (pl : Plan) : Code → Nat → Fr → World → (Fr → World → Prop) → (Nat → Fr → World → Prop) → (Fr → World → Prop) → Prop
  | .skip, _, f, w, kn, _, _ => kn f w
  | .label _, _, f, w, kn, _, _ => kn f w
  | .region _ ops draw, i, f, w, kn, _, _ =>
    bif draw then (match lk pl.ds i with | some e => drawW P ops.toList e (ops.toList.length + 1) [] [] f w.drew kn | none => False)
    else opsW P pl i ops.toList (ops.toList.length + 1) ops.toList f w kn
  | .seq a b, i, f, w, kn, kx, kr =>
    match lk pl.js i with
    | none => codeW P pl a (i + 1) f w (fun f' w' => codeW P pl b (i + 1 + nodes a) f' w' kn kx kr) kx kr
    | some e => JoinW (fun J => codeW P pl a (i + 1) f w (fun f' w' => J (e.C.map f') w') kx kr) fun s g w' => codeW P pl b (i + 1 + nodes a) (ovf e f s g) w' kn kx kr
  | .cond c a b, i, f, w, kn, kx, kr => condW (ev f c) (codeW P pl a (i + 1) f w kn kx kr) (codeW P pl b (i + 1 + nodes a) f w kn kx kr)
  | .block id b, i, f, w, kn, kx, kr => codeW P pl b (i + 1) f w kn (fun j f' w' => bif Nat.beq j id then kn f' w' else kx j f' w') kr
  | .loop b, i, f, w, _, kx, kr =>
    match lk pl.js i with
    | none => False
    | some e => LoopW (e.C.map f) w fun s g w' again => codeW P pl b (i + 1) (ovf e f s g) w' (fun f' w'' => again (e.C.map f') w'') kx kr
  | .scope b, i, f, w, kn, kx, kr => codeW P pl b (i + 1) f w kn kx kr
  | .exit id, _, f, w, _, kx, _ => kx id f w
  | .ret, _, f, w, _, _, kr => kr f w
  | _, _, _, _, _, _, _ => False
def chkPE (V : List Nat) (lo : Nat) (e : PE) : Bool := Nat.ble lo e.lo && e.V.all (inS V lo) && e.C.all (inS e.V e.lo)
def dstIn (V : List Nat) (lo : Nat) (o : Oper) : Bool := match o.dst with | some d => inS V lo d | none => true
def dstLt (n : Nat) (o : Oper) : Bool := match o.dst with | some d => Nat.blt d n | none => true
def chkGuards (pl : Plan) (V : List Nat) (lo : Nat) (i : Nat) (ops : List Oper) : List Oper → Bool
  | [] => true
  | o :: r => (match o.guard with
    | none => true
    | some (g, want) => (match lk pl.js (inPos i (o :: r).length) with
      | some e => chkPE V lo e && (grpOf g want (o :: r)).all fun x => dstIn e.V e.lo x && (match x.dst, dstOf ops g with | some d, some dg => !(Nat.beq d dg) | _, _ => true)
      | none => true)) && chkGuards pl V lo i ops r
def chk (P : Program) (n : Nat) (pl : Plan) (V : List Nat) (lo : Nat) : Code → Nat → Bool
  | .region _ ops draw, i => ops.toList.all (fun o => dstIn V lo o && dstLt n o) &&
    (bif draw then (match lk pl.ds i with | some e => chkDraw P n ops.toList e | none => true) else chkGuards pl V lo i ops.toList ops.toList)
  | .seq a b, i => (match lk pl.js i with | none => chk P n pl V lo a (i + 1) | some e => chkPE V lo e && chk P n pl e.V e.lo a (i + 1)) && chk P n pl V lo b (i + 1 + nodes a)
  | .cond _ a b, i => chk P n pl V lo a (i + 1) && chk P n pl V lo b (i + 1 + nodes a)
  | .block _ b, i => chk P n pl V lo b (i + 1)
  | .scope b, i => chk P n pl V lo b (i + 1)
  | .loop b, i => (match lk pl.js i with | none => true | some e => chkPE V lo e && chk P n pl e.V e.lo b (i + 1))
  | _, _ => true
def Same (V : List Nat) (lo : Nat) (f f' : Fr) : Prop := ∀ t, inS V lo t = false → f' t = f t
theorem Same.refl (V : List Nat) (lo : Nat) (f : Fr) : Same V lo f f := fun _ _ => rfl
theorem Same.trans {V : List Nat} {lo : Nat} {f g h : Fr} (h1 : Same V lo f g) (h2 : Same V lo g h) : Same V lo f h := fun t ht => (h2 t ht).trans (h1 t ht)
theorem inS_iff {V : List Nat} {lo t : Nat} : inS V lo t = true ↔ lo ≤ t ∨ t ∈ V := by
  unfold inS
  cases h : Nat.ble lo t with
  | true => simp [Nat.le_of_ble_eq_true h]
  | false =>
    have : ¬ lo ≤ t := fun hle => by rw [Nat.ble_eq_true_of_le hle] at h; cases h
    simp [this, memb_iff]
theorem chkPE_sub {V : List Nat} {lo : Nat} {e : PE} (h : chkPE V lo e = true) : (∀ t, inS e.V e.lo t = true → inS V lo t = true) ∧ ∀ c ∈ e.C, inS e.V e.lo c = true := by
  simp only [chkPE, Bool.and_eq_true, List.all_eq_true] at h
  refine ⟨fun t ht => ?_, h.2⟩
  rcases inS_iff.1 ht with h1 | h1
  · exact inS_iff.2 (.inl (Nat.le_trans (Nat.le_of_ble_eq_true h.1.1) h1))
  · exact h.1.2 t h1
theorem Same.wider {V V' : List Nat} {lo lo' : Nat} {f f' : Fr} (hs : ∀ t, inS V lo t = true → inS V' lo' t = true) (h : Same V lo f f') : Same V' lo' f f' := fun t ht => h t (by
  cases hi : inS V lo t with
  | false => rfl
  | true => rw [hs t hi] at ht; cases ht)
theorem ovl_map (f' : Fr) : ∀ (C : List Nat) (k : Nat) (s : List Value) (f : Fr) (t : Nat), (∀ j, j < C.length → s.getD (k + j) undef = f' (C.getD j 0)) → (t ∉ C → f t = f' t) → ovl C k s f t = f' t
  | [], _, _, _, _, _, h => h (by simp)
  | c :: C, k, s, f, t, hs, h => by
    simp only [ovl]
    cases hb : Nat.beq t c with
    | true =>
      have := hs 0 (by simp)
      simp only [cond_true]
      rw [Nat.eq_of_beq_eq_true hb]
      simpa using this
    | false =>
      simp only [cond_false]
      have hne : t ≠ c := fun e => by subst e; simp at hb
      refine ovl_map f' C (k + 1) s f t (fun j hj => ?_) fun hn => h (by simp [hne, hn])
      have := hs (j + 1) (by simp; omega)
      rw [show k + 1 + j = k + (j + 1) by omega, this]
      rfl
theorem ovf_self {e : PE} {f f' : Fr} (h : Same e.V e.lo f f') : ovf e f (e.C.map f') f' = f' := by
  funext t
  refine ovl_map f' e.C 0 _ _ t (fun j hj => ?_) fun _ => ?_
  · simp [hj]
  · cases hi : inS e.V e.lo t with
    | true => simp [hi]
    | false => simp [hi, h t hi]
theorem Same.upd {V : List Nat} {lo : Nat} {f : Fr} {o : Oper} (h : dstIn V lo o = true) (v : Value) : Same V lo f (upd f o.dst v) := by
  intro t ht
  unfold dstIn at h
  cases hd : o.dst with
  | none => rfl
  | some d =>
    rw [hd] at h
    rw [upd_some, if_neg]
    intro e
    subst e
    have h : inS V lo t = true := h
    rw [h] at ht
    cases ht
theorem dstLt_spec {n : Nat} {o : Oper} (h : dstLt n o = true) : ∀ t, o.dst = some t → t < n := by
  intro t ht
  rw [dstLt, ht] at h
  exact Nat.le_of_ble_eq_true h
theorem gEq_spec {x : Option (Nat × Bool)} {g : Nat} {w : Bool} (h : gEq x g w = true) : x = some (g, w) := by
  cases x with
  | none => cases h
  | some p =>
    obtain ⟨g', w'⟩ := p
    simp only [gEq] at h
    cases hb : Nat.beq g g' with
    | false => rw [hb] at h; cases h
    | true =>
      rw [hb] at h
      simp only [cond_true, beq_iff_eq] at h
      rw [Nat.eq_of_beq_eq_true hb, h]
theorem grp_split (g : Nat) (want : Bool) : ∀ l : List Oper, l = grpOf g want l ++ restOf g want l ∧ ∀ o ∈ grpOf g want l, o.guard = some (g, want)
  | [] => ⟨rfl, by simp [grpOf]⟩
  | o :: r => by
    simp only [grpOf, restOf]
    cases h : gEq o.guard g want with
    | false => simp
    | true =>
      obtain ⟨h1, h2⟩ := grp_split g want r
      refine ⟨by simp only [cond_true, List.cons_append]; rw [← h1], fun x hx => ?_⟩
      simp only [cond_true, List.mem_cons] at hx
      rcases hx with rfl | hx
      · exact gEq_spec h
      · exact h2 x hx
section
variable [HX] {P : Program} {n : Nat} {D : List Deferred} {ops : List Oper} {Q : Exit → Act → World → Prop} {V : List Nat} {lo : Nat}
def PX [HX] (V : List Nat) (lo : Nat) (D : List Deferred) (Q : Exit → Act → World → Prop) (f : Fr) : Prop :=
  ∀ c a w, a.defers = D → (∀ t, inS V lo t = false → a.tmps.getD t undef = f t) → HX.X c w → Q (.panic c) a w
theorem PX.same {f f' : Fr} (h : PX V lo D Q f) (hs : Same V lo f f') : PX V lo D Q f' := fun c a w hd ht hx => h c a w hd (fun t hn => (ht t hn).trans (hs t hn)) hx
theorem PX.sub {V' : List Nat} {lo' : Nat} {f : Fr} (h : PX V lo D Q f) (hs : ∀ t, inS V' lo' t = true → inS V lo t = true) : PX V' lo' D Q f := fun c a w hd ht hx => h c a w hd (fun t hn => ht t (by
  cases hh : inS V' lo' t with
  | false => rfl
  | true => rw [hs t hh] at hn; cases hn)) hx
theorem PX.ag {f : Fr} {a : Act} (h : PX V lo D Q f) (hag : Ag n D f a) : ∀ c w, HX.X c w → Q (.panic c) a w := fun c w hx => h c a w hag.1 (fun t _ => hag.2.2 t) hx
theorem want_ag {f : Fr} {a : Act} {o : Oper} (h : Ag n D f a) : Region.wanted o (yielded ops.toArray a.tmps) = wantF ops f o := wanted_eq fun _ _ d _ _ => h.2.2 d
theorem op_step {f : Fr} {a : Act} {w : World} {o : Oper} {rest : List Oper} {K : Value → World → Prop} (hag : Ag n D f a) (hw : wantF ops f o = true) (h : anyW P f o w K)
    (hk : ∀ v w', K v w' → wpList P ops.toArray Q rest (a.put o.dst v) w') (hx : ∀ c w, HX.X c w → Q (.panic c) a w) : wpList P ops.toArray Q (o :: rest) a w := by
  unfold wpList
  rw [if_pos (by rw [want_ag hag]; exact hw)]
  refine .inl ?_
  unfold Oper.wp
  rw [eval_fun hag]
  exact (any_sound h).upon hk hx
theorem op_skip {f : Fr} {a : Act} {w : World} {o : Oper} {rest : List Oper} (hag : Ag n D f a) (hw : wantF ops f o = false)
    (hk : wpList P ops.toArray Q rest (a.put o.dst undef) w) : wpList P ops.toArray Q (o :: rest) a w := by
  unfold wpList
  rw [if_neg (by rw [want_ag hag, hw]; simp)]
  exact hk
theorem yv_upd {f : Fr} {g : Nat} {want : Bool} {o : Oper} {v : Value} (h : ∀ d dg, o.dst = some d → dstOf ops g = some dg → d ≠ dg) : yv ops (upd f o.dst v) g want = yv ops f g want := by
  unfold yv
  cases hg : dstOf ops g with
  | none => rfl
  | some dg =>
    cases hd : o.dst with
    | none => rfl
    | some d => simp only; rw [upd_some, if_neg (Ne.symm (h d dg hd hg))]
theorem opsL_sound {g : Nat} {want : Bool} : ∀ (grp rest : List Oper) (f : Fr) (a : Act) (w : World) (K : Fr → World → Prop), (∀ o ∈ grp, o.guard = some (g, want)) →
    (∀ o ∈ grp, dstIn V lo o = true ∧ (∀ t, o.dst = some t → t < n) ∧ ∀ d dg, o.dst = some d → dstOf ops g = some dg → d ≠ dg) → Ag n D f a → yv ops f g want = true → opsL P grp f w K →
    (∀ f' a' w', Ag n D f' a' → Same V lo f f' → K f' w' → wpList P ops.toArray Q rest a' w') → PX V lo D Q f → wpList P ops.toArray Q (grp ++ rest) a w
  | [], rest, f, a, w, K, _, _, hag, _, h, hk, _ => hk f a w hag (Same.refl _ _ _) h
  | o :: grp, rest, f, a, w, K, hg, hd, hag, hy, h, hk, hX => by
    obtain ⟨h1, h2, h3⟩ := hd o List.mem_cons_self
    refine op_step hag (by simp only [wantF, hg o List.mem_cons_self]; exact hy) h (fun v w' h' => ?_) (hX.ag hag)
    refine opsL_sound grp rest (upd f o.dst v) (a.put o.dst v) w' K (fun x hx => hg x (List.mem_cons_of_mem _ hx)) (fun x hx => hd x (List.mem_cons_of_mem _ hx)) (hag.put h2 v) (by rw [yv_upd h3]; exact hy) h' ?_ (hX.same (Same.upd h1 v))
    exact fun f' a' w'' hag' hs hK => hk f' a' w'' hag' (Same.trans (Same.upd h1 v) hs) hK
theorem undefs_sound {g : Nat} {want : Bool} : ∀ (grp rest : List Oper) (f : Fr) (a : Act) (w : World), (∀ o ∈ grp, o.guard = some (g, want)) →
    (∀ o ∈ grp, dstIn V lo o = true ∧ (∀ t, o.dst = some t → t < n) ∧ ∀ d dg, o.dst = some d → dstOf ops g = some dg → d ≠ dg) → Ag n D f a → yv ops f g want = false →
    (∀ a', Ag n D (undefs grp f) a' → Same V lo f (undefs grp f) → wpList P ops.toArray Q rest a' w) → wpList P ops.toArray Q (grp ++ rest) a w
  | [], rest, f, a, w, _, _, hag, _, hk => hk a hag (Same.refl _ _ _)
  | o :: grp, rest, f, a, w, hg, hd, hag, hy, hk => by
    obtain ⟨h1, h2, h3⟩ := hd o List.mem_cons_self
    refine op_skip hag (by simp only [wantF, hg o List.mem_cons_self]; exact hy) ?_
    refine undefs_sound grp rest (upd f o.dst undef) (a.put o.dst undef) w (fun x hx => hg x (List.mem_cons_of_mem _ hx)) (fun x hx => hd x (List.mem_cons_of_mem _ hx)) (hag.put h2 undef) (by rw [yv_upd h3]; exact hy) ?_
    exact fun a' hag' hs => hk a' hag' (Same.trans (Same.upd h1 undef) hs)
theorem chkGuards_rest {pl : Plan} {i : Nat} : ∀ (x y : List Oper), chkGuards pl V lo i ops (x ++ y) = true → chkGuards pl V lo i ops y = true
  | [], _, h => h
  | o :: x, y, h => by
    simp only [List.cons_append, chkGuards, Bool.and_eq_true] at h
    exact chkGuards_rest x y h.2
theorem opsW_sound {pl : Plan} {i : Nat} {K : Fr → World → Prop} : ∀ (m : Nat) (l : List Oper) (f : Fr) (a : Act) (w : World), (∀ o ∈ l, dstIn V lo o = true ∧ dstLt n o = true) → chkGuards pl V lo i ops l = true →
    Ag n D f a → opsW P pl i ops m l f w K → (∀ f' a' w', Ag n D f' a' → Same V lo f f' → K f' w' → Q .normal a' w') → PX V lo D Q f → wpList P ops.toArray Q l a w
  | 0, _, _, _, _, _, _, _, h, _, _ => by cases h
  | m + 1, [], f, a, w, _, _, hag, h, hQ, _ => hQ f a w hag (Same.refl _ _ _) h
  | m + 1, o :: r, f, a, w, hd, hc, hag, h, hQ, hX => by
    unfold opsW at h
    cases hg : o.guard with
    | none =>
      simp only [hg] at h
      have hd0 := hd o List.mem_cons_self
      refine op_step hag (by simp [wantF, hg]) h (fun v w' h' => ?_) (hX.ag hag)
      simp only [chkGuards, Bool.and_eq_true] at hc
      refine opsW_sound m r _ _ w' (fun x hx => hd x (List.mem_cons_of_mem _ hx)) hc.2 (hag.put (dstLt_spec hd0.2) v) h' ?_ (hX.same (Same.upd hd0.1 v))
      exact fun f' a' w'' hag' hs hK => hQ f' a' w'' hag' (Same.trans (Same.upd hd0.1 v) hs) hK
    | some gw =>
      obtain ⟨g, want⟩ := gw
      simp only [hg] at h
      cases he : lk pl.js (inPos i (o :: r).length) with
      | none => simp only [he] at h
      | some e =>
        simp only [he] at h
        obtain ⟨J, hT, hF, hB⟩ := h
        obtain ⟨hsplit, hgs⟩ := grp_split g want (o :: r)
        have hc0 := hc
        simp only [chkGuards, hg, he, Bool.and_eq_true, List.all_eq_true] at hc
        obtain ⟨⟨hpe, hgrp⟩, hc2⟩ := hc
        obtain ⟨hsub, hC⟩ := chkPE_sub hpe
        have hgd : ∀ x ∈ grpOf g want (o :: r), dstIn e.V e.lo x = true ∧ (∀ t, x.dst = some t → t < n) ∧ ∀ d dg, x.dst = some d → dstOf ops g = some dg → d ≠ dg := by
          intro x hx
          have h1 := hgrp x hx
          refine ⟨h1.1, dstLt_spec (hd x (by rw [hsplit]; exact List.mem_append_left _ hx)).2, fun d dg hxd hdg hne => ?_⟩
          have h2 := h1.2
          simp only [hxd, hdg, hne] at h2
          simp at h2
        have hcr : chkGuards pl V lo i ops (restOf g want (o :: r)) = true := by
          rw [hsplit] at hc0
          exact chkGuards_rest _ _ hc0
        have hdr : ∀ x ∈ restOf g want (o :: r), dstIn V lo x = true ∧ dstLt n x = true := fun x hx => hd x (by rw [hsplit]; exact List.mem_append_right _ hx)
        rw [hsplit]
        cases hy : yv ops f g want with
        | true =>
          refine opsL_sound (V := e.V) (lo := e.lo) _ _ f a w _ hgs hgd hag hy (hT hy) (fun f' a' w' hag' hs hJ => ?_) (hX.sub hsub)
          have h' := hB _ f' _ hJ
          simp only [ovf_self hs] at h'
          refine opsW_sound m _ f' a' w' hdr hcr hag' h' ?_ (hX.same (Same.wider hsub hs))
          exact fun f'' a'' w'' hag'' hs' hK => hQ f'' a'' w'' hag'' (Same.trans (Same.wider hsub hs) hs') hK
        | false =>
          refine undefs_sound (V := e.V) (lo := e.lo) _ _ f a w hgs hgd hag hy fun a' hag' hs => ?_
          have h' := hB _ (undefs (grpOf g want (o :: r)) f) _ (hF hy)
          simp only [ovf_self hs] at h'
          refine opsW_sound m _ _ a' w hdr hcr hag' h' ?_ (hX.same (Same.wider hsub hs))
          exact fun f'' a'' w'' hag'' hs' hK => hQ f'' a'' w'' hag'' (Same.trans (Same.wider hsub hs) hs') hK
end
end Go.Eng
namespace Go.Eng
open Go
section
variable [HX] {P : Program} {n : Nat} {D : List Deferred} {pl : Plan}
theorem codeW_sound (hm : P.follows .mixedOrders = true) : ∀ (c : Code) (V : List Nat) (lo i : Nat) (f : Fr) (a : Act) (w : World) (kn : Fr → World → Prop) (kx : Nat → Fr → World → Prop) (kr : Fr → World → Prop) (Q : Exit → Act → World → Prop),
    chk P n pl V lo c i = true → Ag n D f a → codeW P pl c i f w kn kx kr →
    (∀ f' a' w', Ag n D f' a' → Same V lo f f' → kn f' w' → Q .normal a' w') → (∀ j f' a' w', Ag n D f' a' → Same V lo f f' → kx j f' w' → Q (.exit j) a' w') →
    (∀ f' a' w', Ag n D f' a' → Same V lo f f' → kr f' w' → Q .ret a' w') → PX V lo D Q f → c.wp P Q a w := by
  intro c
  induction c with
  | skip => intro V lo i f a w kn kx kr Q _ hag h hn _ _ _; exact wp_skip (hn f a w hag (Same.refl _ _ _) h)
  | label l => intro V lo i f a w kn kx kr Q _ hag h hn _ _ _; exact wp_label (hn f a w hag (Same.refl _ _ _) h)
  | exit id => intro V lo i f a w kn kx kr Q _ hag h _ hx _ _; exact wp_exit (hx id f a w hag (Same.refl _ _ _) h)
  | ret => intro V lo i f a w kn kx kr Q _ hag h _ _ hr _; exact wp_ret (hr f a w hag (Same.refl _ _ _) h)
  | goto l => intro V lo i f a w kn kx kr Q _ _ h _ _ _ _; exact h.elim
  | refuse l => intro V lo i f a w kn kx kr Q _ _ h _ _ _ _; exact h.elim
  | scope b ih =>
    intro V lo i f a w kn kx kr Q hc hag h hn hx hr hX
    simp only [chk] at hc
    simp only [codeW] at h
    refine wp_scope_straight ?_
    exact ih V lo _ f a w kn kx kr _ hc hag h hn hx hr hX
  | rangeFunc f' ps az b => intro V lo i f a w kn kx kr Q _ _ h _ _ _ _; exact h.elim
  | region id ops draw =>
    intro V lo i f a w kn kx kr Q hc hag h hn _ _ hX
    simp only [chk, Bool.and_eq_true, List.all_eq_true] at hc
    simp only [codeW] at h
    cases draw with
    | false =>
      simp only [cond_false] at h hc
      refine wp_region_list ?_
      have := opsW_sound (ops := ops.toList) (Q := Q) (n := n) (V := V) (lo := lo) _ _ f a w hc.1 hc.2 hag h hn hX
      simpa using this
    | true =>
      simp only [cond_true] at h hc
      cases he : lk pl.ds i with
      | none => simp only [he] at h
      | some e =>
        simp only [he] at h hc
        have := region_draw (R := Same V lo f) (id := id) (Q := Q) (K := kn) (fun f' o v ho hs => Same.trans hs (Same.upd (hc.1 o ho).1 v)) hm hc.2
          (fun f' a' w' hag' hs hk => hn f' a' w' hag' hs hk) (fun c f' a' w' hd hs ht hx => hX c a' w' hd (fun t hn => (ht t fun o ho he => by
            have := (hc.1 o ho).1
            simp only [dstIn, he] at this
            rw [this] at hn; cases hn).trans (hs t hn)) hx) hag (Same.refl _ _ _) h
        simpa using this
  | seq x y ihx ihy =>
    intro V lo i f a w kn kx kr Q hc hag h hn hx hr hX
    simp only [chk, Bool.and_eq_true] at hc
    simp only [codeW] at h
    refine wp_seq ?_
    cases he : lk pl.js i with
    | none =>
      simp only [he] at h hc
      refine ihx V lo (i + 1) f a w _ kx kr _ hc.1 hag h ?_ hx hr hX
      intro f' a' w' hag' hs h'
      exact ihy V lo _ f' a' w' kn kx kr Q hc.2 hag' h' (fun f'' a'' w'' hag'' hs' hk => hn f'' a'' w'' hag'' (hs.trans hs') hk)
        (fun j f'' a'' w'' hag'' hs' hk => hx j f'' a'' w'' hag'' (hs.trans hs') hk) (fun f'' a'' w'' hag'' hs' hk => hr f'' a'' w'' hag'' (hs.trans hs') hk) (hX.same hs)
    | some e =>
      simp only [he, Bool.and_eq_true] at h hc
      obtain ⟨hsub, hC⟩ := chkPE_sub hc.1.1
      obtain ⟨J, hA, hB⟩ := h
      refine ihx e.V e.lo (i + 1) f a w _ kx kr _ hc.1.2 hag hA ?_ (fun j f' a' w' hag' hs hk => hx j f' a' w' hag' (hs.wider hsub) hk) (fun f' a' w' hag' hs hk => hr f' a' w' hag' (hs.wider hsub) hk) (hX.sub hsub)
      intro f' a' w' hag' hs hJ
      have h' := hB _ f' _ hJ
      simp only [ovf_self hs] at h'
      have hs0 := hs.wider hsub
      exact ihy V lo _ f' a' w' kn kx kr Q hc.2 hag' h' (fun f'' a'' w'' hag'' hs' hk => hn f'' a'' w'' hag'' (hs0.trans hs') hk)
        (fun j f'' a'' w'' hag'' hs' hk => hx j f'' a'' w'' hag'' (hs0.trans hs') hk) (fun f'' a'' w'' hag'' hs' hk => hr f'' a'' w'' hag'' (hs0.trans hs') hk) (hX.same hs0)
  | cond c x y ihx ihy =>
    intro V lo i f a w kn kx kr Q hc hag h hn hx hr hX
    simp only [chk, Bool.and_eq_true] at hc
    simp only [codeW] at h
    have he : a.eval c = ev f c := congrFun (eval_fun hag) c
    cases hv : ev f c <;> rw [hv] at h <;> simp only [condW] at h <;> try exact h.elim
    rename_i t
    refine wp_cond_split (he.trans hv) (fun ht => ?_) (fun ht => ?_)
    · exact ihx V lo _ f a w kn kx kr Q hc.1 hag (h.1 ht) hn hx hr hX
    · exact ihy V lo _ f a w kn kx kr Q hc.2 hag (h.2 ht) hn hx hr hX
  | block id b ih =>
    intro V lo i f a w kn kx kr Q hc hag h hn hx hr hX
    simp only [chk] at hc
    simp only [codeW] at h
    refine wp_block ?_
    refine ih V lo _ f a w kn _ kr _ hc hag h hn ?_ hr hX
    intro j f' a' w' hag' hs hk
    simp only [Exit.inBlock]
    cases hj : Nat.beq j id with
    | true =>
      rw [hj] at hk
      rw [if_pos (Nat.eq_of_beq_eq_true hj)]
      exact hn f' a' w' hag' hs hk
    | false =>
      rw [hj] at hk
      rw [if_neg (fun e => by subst e; simp at hj)]
      exact hx j f' a' w' hag' hs hk
  | loop b ih =>
    intro V lo i f a w kn kx kr Q hc hag h hn hx hr hX
    simp only [chk] at hc
    simp only [codeW] at h
    cases he : lk pl.js i with
    | none => simp only [he] at h
    | some e =>
      simp only [he, Bool.and_eq_true] at h hc
      obtain ⟨hsub, hC⟩ := chkPE_sub hc.1
      obtain ⟨I, μ, h0, hround⟩ := h
      refine wp_loop (fun a' w' => ∃ f', Ag n D f' a' ∧ Same e.V e.lo f f' ∧ I (e.C.map f') w') (fun a' w' => μ (e.C.map fun t => a'.tmps.getD t undef) w') ⟨f, hag, Same.refl _ _ _, h0⟩ ?_
      rintro a' w' ⟨f', hag', hs, hI⟩
      have h' := hround _ f' _ hI
      simp only [ovf_self hs] at h'
      have hfun : (fun t => a'.tmps.getD t undef) = f' := funext hag'.2.2
      refine ih e.V e.lo _ f' a' w' _ kx kr _ hc.2 hag' h' ?_ (fun j f'' a'' w'' hag'' hs' hk => hx j f'' a'' w'' hag'' ((hs.trans hs').wider hsub) hk)
        (fun f'' a'' w'' hag'' hs' hk => hr f'' a'' w'' hag'' ((hs.trans hs').wider hsub) hk) ((hX.sub hsub).same hs)
      intro f'' a'' w'' hag'' hs' hk
      have hfun' : (fun t => a''.tmps.getD t undef) = f'' := funext hag''.2.2
      refine ⟨⟨f'', hag'', hs.trans hs', hk.1⟩, ?_⟩
      rw [hfun, hfun']
      exact hk.2
def resW (P : Program) : List ResultVar → Fr → World → (List Value → Prop) → Prop
  | [], _, _, K => K []
  | .tmp t :: r, f, w, K => resW P r f w fun l => K (f t :: l)
  | .cell a T :: r, f, w, K => andB (P.underlying T).isSome (ldW (isAggT P T) (sizeT P T) (f a) w fun v => resW P r f w fun l => K (v :: l))
def one : List Value → Value
  | [v] => v
  | l => .tuple l.toArray
def resOf (tmps : Array Value) : ResultVar → Sem Value
  | .tmp t => pure (tmps.getD t undef)
  | .cell x t => do loadVar t (← asAddr (tmps.getD x undef))
theorem results_eq (fn : Func) (tmps : Array Value) : results fn tmps = (do let vs ← fn.results.mapM (resOf tmps); pure (if h : vs.size = 1 then vs[0] else .tuple vs)) := rfl
theorem res_run {f : Fr} {a : Act} {w : World} (hag : Ag n D f a) : ∀ (l : List ResultVar) (K : List Value → Prop), resW P l f w K →
    ∃ vs, K vs ∧ (l.mapM (resOf a.tmps)).run P w = .ok vs w
  | [], K, h => ⟨[], h, rfl⟩
  | .tmp t :: r, K, h => by
    obtain ⟨vs, hk, hr⟩ := res_run hag r _ h
    refine ⟨_, hk, ?_⟩
    rw [List.mapM_cons, run_bind]
    simp only [resOf, run_pure, run_bind, hr]
    rw [hag.2.2 t]
  | .cell x T :: r, K, h => by
    replace h := andB.out h
    obtain ⟨hT, h⟩ := h
    obtain ⟨v, h', hl⟩ := ld_run hT h
    obtain ⟨vs, hk, hr⟩ := res_run hag r _ h'
    refine ⟨_, hk, ?_⟩
    have hl' : (resOf a.tmps (.cell x T)).run P w = .ok v w := by
      show (do loadVar T (← asAddr (a.tmps.getD x undef)) : Sem Value).run P w = .ok v w
      rw [hag.2.2 x]
      cases hv : f x <;> rw [hv] at h hl <;> simp only [ldW] at h <;> try exact h.elim
      rename_i p
      cases p with
      | none => exact h.elim
      | some p => exact hl
    rw [List.mapM_cons, run_bind]
    simp only [hl', run_bind, hr, run_pure]
theorem results_run {fn : Func} {f : Fr} {a : Act} {w : World} {K : Value → Prop} (hag : Ag n D f a) (h : resW P fn.results.toList f w fun l => K (one l)) :
    ∃ v, K v ∧ (results fn a.tmps).run P w = .ok v w := by
  obtain ⟨vs, hk, hr⟩ := res_run hag _ _ h
  refine ⟨_, hk, ?_⟩
  rw [results_eq, run_bind]
  have : (fn.results.mapM (resOf a.tmps)).run P w = .ok vs.toArray w := by
    rw [Array.mapM_eq_mapM_toList, ← bind_pure_comp, run_bind, hr]
    rfl
  rw [this]
  simp only [run_pure]
  congr 1
  cases vs with
  | nil => rfl
  | cons v r => cases r <;> rfl
def fr0 (args : List Value) : Fr := fun j => args.getD j undef
def funW [HX] (P : Program) (fn : Func) (pl : Plan) (args : List Value) (w : World) (K : Value → World → Prop) : Prop :=
  match fn.body with
  | some c => codeW P pl c 0 (fr0 args) w (fun f w' => resW P fn.results.toList f w' fun l => K (one l) w') (fun _ _ _ => False) (fun f w' => resW P fn.results.toList f w' fun l => K (one l) w')
  | none => False
def chkFun (P : Program) (fn : Func) (pl : Plan) (k : Nat) : Bool :=
  match fn.body with
  | some c => Nat.ble k fn.ntmps && chk P fn.ntmps pl [] 0 c 0
  | none => false
theorem funW_sound {g : FuncId} {fn : Func} {args : List Value} {w : World} {K : Value → World → Prop} (hm : P.follows .mixedOrders = true) (hf : P.funcs[g]? = some fn) (hc : chkFun P fn pl args.length = true)
    (h : funW P fn pl args w K) : callW P g args w K := by
  unfold funW at h
  unfold chkFun at hc
  cases hb : fn.body with
  | none => rw [hb] at h; exact h.elim
  | some c =>
    rw [hb] at h hc
    simp only [Bool.and_eq_true] at hc
    unfold callW
    refine calls_of_wp hf hb ?_
    have hle : args.length ≤ fn.ntmps := Nat.le_of_ble_eq_true hc.1
    have hag : Ag fn.ntmps [] (fr0 args) { tmps := args.toArray ++ Array.replicate (fn.ntmps - args.toArray.size) undef, defers := [] } := by
      refine ⟨rfl, by simp; omega, fun t => ?_⟩
      simp only [Array.getD_eq_getD_getElem?, Array.getElem?_append, List.size_toArray, List.getElem?_toArray, Array.getElem?_replicate, fr0, List.getD_eq_getElem?_getD]
      split
      · rfl
      · rename_i hlt
        rw [List.getElem?_eq_none (by omega)]
        split <;> rfl
    have hend : ∀ (f' : Fr) (a' : Act) (w' : World), Ag fn.ntmps [] f' a' → (resW P fn.results.toList f' w' fun l => K (one l) w') → a'.defers = [] ∧ ∃ v, (results fn a'.tmps).run P w' = .ok v w' ∧ EndK K (.returned v) w' := by
      intro f' a' w' hag' hk
      obtain ⟨v, hk', hr⟩ := results_run (K := fun v => K v w') hag' hk
      exact ⟨hag'.1, v, hr, hk'⟩
    exact codeW_sound hm c [] 0 0 _ _ w _ _ _ _ hc.2 hag h (fun f' a' w' hag' _ hk => hend f' a' w' hag' hk) (fun _ _ _ _ _ _ hk => hk.elim) (fun f' a' w' hag' _ hk => hend f' a' w' hag' hk) (fun c a' w' hd _ hx => ⟨hd, hx⟩)
theorem tie (P : Program) (g : FuncId) (fn : Func) (pl : Plan) (args : List Value) (w : World) (K : Value → World → Prop) (k : Nat) (X : Prop) (hk : args.length = k) (hm : P.follows .mixedOrders = true) (hf : P.funcs[g]? = some fn)
    (hc : chkFun P fn pl k = true) (he : funW P fn pl args w K = X) (hr : ∀ (az : Array Value) (w : World), (callFunc g az).run P w = .ok (.enter g az) w) (h : X) : callF P g args w K := by
  unfold callF
  rw [hr]
  exact funW_sound hm hf (by rw [hk]; exact hc) (by rw [he]; exact h)
theorem callF_calls {g : FuncId} {args : List Value} {w : World} {K : Value → World → Prop} (hr : (callFunc g args.toArray).run P w = .ok (.enter g args.toArray) w) (h : callF P g args w K) :
    Calls P g args.toArray w (EndK K) := by
  unfold callF at h
  rw [hr] at h
  exact h
end
end Go.Eng
namespace Go.Eng
open Go
def cellO (o : Option Obj) (i : Nat) : Option Value := match o with | some (.cells c _ _) => c[i]? | _ => none
def frO (o : Option Obj) (i : Nat) : Bool := match o with | some (.cells _ _ (lo, hi)) => decide (lo ≤ i) && decide (i < hi) | _ => false
def setO (o : Option Obj) (i : Nat) (v : Value) : Option Obj := match o with | some (.cells c t f) => some (.cells (c.setIfInBounds i v) t f) | o => o
theorem cellO_some (c : Array Value) (t : TypeId) (f : Nat × Nat) (i : Nat) : cellO (some (.cells c t f)) i = c[i]? := rfl
theorem frO_some (c : Array Value) (t : TypeId) (lo hi : Nat) (i : Nat) : frO (some (.cells c t (lo, hi))) i = (decide (lo ≤ i) && decide (i < hi)) := rfl
theorem frO_zero (c : Array Value) (t : TypeId) (i : Nat) : frO (some (.cells c t (0, 0))) i = false := by simp [frO]
theorem setO_some (c : Array Value) (t : TypeId) (f : Nat × Nat) (i : Nat) (v : Value) : setO (some (.cells c t f)) i v = some (.cells (c.setIfInBounds i v) t f) := rfl
theorem cell_eq (w : World) (b o : Nat) : w.cell? ⟨b, o, none⟩ = cellO w.heap[b]? o := by
  unfold World.cell? cellO
  cases w.heap[b]? with
  | none => rfl
  | some x => cases x <;> rfl
theorem frozen_eq (w : World) (b o : Nat) : w.frozen? ⟨b, o, none⟩ = frO w.heap[b]? o := by
  unfold World.frozen? frO
  cases w.heap[b]? with
  | none => rfl
  | some x => cases x <;> rfl
theorem heap_set_same (w : World) (b o : Nat) (v : Value) : (w.setCell ⟨b, o, none⟩ v).heap[b]? = setO w.heap[b]? o v := by
  unfold World.setCell setO
  simp only [Array.getElem?_modify, if_true]
  cases w.heap[b]? with
  | none => rfl
  | some x => cases x <;> simp
theorem heap_set_other (w : World) (b o k : Nat) (v : Value) (h : k ≠ b) : (w.setCell ⟨b, o, none⟩ v).heap[k]? = w.heap[k]? := by
  unfold World.setCell
  simp only [Array.getElem?_modify]
  rw [if_neg (Ne.symm h)]
theorem size_set (w : World) (a : Addr) (v : Value) : (w.setCell a v).heap.size = w.heap.size := by simp
theorem heap_anew (w : World) (o : Obj) (k : Nat) (h : k = w.heap.size) : (w.alloc o).heap[k]? = some o := by subst h; show (w.heap.push o)[w.heap.size]? = _; simp
theorem heap_aold (w : World) (o : Obj) (k : Nat) (h : k ≠ w.heap.size) : (w.alloc o).heap[k]? = w.heap[k]? := by
  show (w.heap.push o)[k]? = _
  rw [Array.getElem?_push, if_neg h]
theorem size_alloc (w : World) (o : Obj) : (w.alloc o).heap.size = w.heap.size + 1 := by simp
theorem heap_drew (w : World) (k : Nat) : w.drew.heap[k]? = w.heap[k]? := rfl
theorem size_drew (w : World) : w.drew.heap.size = w.heap.size := rfl
theorem add_mk (b o n : Nat) : (⟨b, o, none⟩ : Addr).add n = ⟨b, o + n, none⟩ := by
  unfold Addr.add
  split
  · rename_i h; subst h; rfl
  · rfl
structure Chg (S : Nat → Prop) (w w' : World) : Prop where
  os : w'.os = w.os
  tape : w'.tape = w.tape
  output : w'.output = w.output
  size : w.heap.size ≤ w'.heap.size
  heap : ∀ k, k < w.heap.size → ¬ S k → w'.heap[k]? = w.heap[k]?
abbrev Ext := Chg (fun _ => False)
theorem Chg.refl (S : Nat → Prop) (w : World) : Chg S w w := ⟨rfl, rfl, rfl, Nat.le_refl _, fun _ _ _ => rfl⟩
theorem Chg.trans {S : Nat → Prop} {w w1 w2 : World} (h1 : Chg S w w1) (h2 : Chg S w1 w2) : Chg S w w2 :=
  ⟨h2.os.trans h1.os, h2.tape.trans h1.tape, h2.output.trans h1.output, Nat.le_trans h1.size h2.size, fun k hk hs => (h2.heap k (Nat.lt_of_lt_of_le hk h1.size) hs).trans (h1.heap k hk hs)⟩
theorem Chg.mono {S T : Nat → Prop} {w w' : World} (h : Chg S w w') (hs : ∀ k, k < w.heap.size → S k → T k) : Chg T w w' :=
  ⟨h.os, h.tape, h.output, h.size, fun k hk hn => h.heap k hk fun e => hn (hs k hk e)⟩
theorem Chg.of_ext {S : Nat → Prop} {w w' : World} (h : Ext w w') : Chg S w w' := h.mono fun _ _ e => e.elim
theorem Chg.drew {S : Nat → Prop} {w w' : World} (h : Chg S w w') : Chg S w w'.drew := ⟨h.os, h.tape, h.output, h.size, h.heap⟩
theorem Chg.alloc {S : Nat → Prop} {w w' : World} (h : Chg S w w') (o : Obj) : Chg S w (w'.alloc o) :=
  ⟨h.os, h.tape, h.output, by rw [size_alloc]; exact Nat.le_succ_of_le h.size, fun k hk hs => by rw [heap_aold _ _ _ (by have := h.size; omega)]; exact h.heap k hk hs⟩
theorem Chg.set {S : Nat → Prop} {w w' : World} (h : Chg S w w') {b o : Nat} (hb : S b ∨ w.heap.size ≤ b) (v : Value) : Chg S w (w'.setCell ⟨b, o, none⟩ v) :=
  ⟨h.os, h.tape, h.output, by rw [size_set]; exact h.size, fun k hk hs => by
    have hne : k ≠ b := fun e => by
      subst e
      rcases hb with hb | hb
      · exact hs hb
      · omega
    rw [heap_set_other _ _ _ _ _ hne]
    exact h.heap k hk hs⟩
theorem Chg.then {S T : Nat → Prop} {w w1 w2 : World} (h1 : Chg S w w1) (h2 : Chg T w1 w2) (hT : ∀ k, k < w.heap.size → T k → S k) : Chg S w w2 :=
  ⟨h2.os.trans h1.os, h2.tape.trans h1.tape, h2.output.trans h1.output, Nat.le_trans h1.size h2.size, fun k hk hs => (h2.heap k (Nat.lt_of_lt_of_le hk h1.size) fun e => hs (hT k hk e)).trans (h1.heap k hk hs)⟩
theorem Chg.below {w w' : World} (h : Ext w w') : RowKit.Below w.heap.size w w' := ⟨h.os, h.tape, h.output, h.size, fun k hk => h.heap k hk id⟩
theorem Chg.of_below {w w' : World} (h : RowKit.Below w.heap.size w w') : Ext w w' := ⟨h.os, h.tape, h.output, h.size, fun k hk _ => h.block k hk⟩
abbrev str (l : List UInt8) : Value := .string (ofL l)
abbrev i64 (n : Int) : Value := .int .i64 n
theorem wrap_id {n : Int} (h1 : -9223372036854775808 ≤ n) (h2 : n < 9223372036854775808) : IntKind.i64.wrap n = n := by
  have e1 : (2 : Int) ^ 64 = 18446744073709551616 := by decide
  have e2 : (2 : Int) ^ (64 - 1) = 9223372036854775808 := by decide
  simp only [IntKind.wrap, IntKind.bits, IntKind.signed, Bool.true_and, e1, e2]
  by_cases h : n % 18446744073709551616 ≥ 9223372036854775808
  · rw [if_pos (by simpa using h)]; omega
  · rw [if_neg (by simpa using h)]; omega
theorem condW_true (A B : Prop) : condW (.bool true) A B ↔ A := by simp [condW]
theorem condW_false (A B : Prop) : condW (.bool false) A B ↔ B := by simp [condW]
theorem condW_dec (p : Prop) [Decidable p] (A B : Prop) : condW (.bool (decide p)) A B ↔ (p → A) ∧ (¬ p → B) := by simp [condW]
theorem pick_t (a b : Value) (K : Value → Prop) : pickW (.bool true) a b K ↔ K a := Iff.rfl
theorem pick_f (a b : Value) (K : Value → Prop) : pickW (.bool false) a b K ↔ K b := Iff.rfl
section forms
variable (k : IntKind) (a b : Int) (s t : ByteArray) (x y : Value) (ad : Addr) (w : World) (K : Value → Prop) (KE : Value → World → Prop) (KW : World → Prop)
theorem bin_add : binW .add (.int k a) (.int k b) K ↔ K (.int k (k.wrap (a + b))) := by simp [binW]
theorem bin_sub : binW .sub (.int k a) (.int k b) K ↔ K (.int k (k.wrap (a - b))) := by simp [binW]
theorem bin_mul : binW .mul (.int k a) (.int k b) K ↔ K (.int k (k.wrap (a * b))) := by simp [binW]
theorem bin_quo : binW .quo (.int k a) (.int k b) K ↔ b ≠ 0 ∧ K (.int k (k.wrap (a.tdiv b))) := by simp [binW]
theorem bin_rem : binW .rem (.int k a) (.int k b) K ↔ b ≠ 0 ∧ K (.int k (a.tmod b)) := by simp [binW]
theorem bin_eql : binW .eql (.int k a) (.int k b) K ↔ K (.bool (decide (a = b))) := by simp [binW]
theorem bin_neq : binW .neq (.int k a) (.int k b) K ↔ K (.bool (decide (a ≠ b))) := by simp [binW]
theorem bin_lss : binW .lss (.int k a) (.int k b) K ↔ K (.bool (decide (a < b))) := by simp [binW]
theorem bin_leq : binW .leq (.int k a) (.int k b) K ↔ K (.bool (decide (a ≤ b))) := by simp [binW]
theorem bin_gtr : binW .gtr (.int k a) (.int k b) K ↔ K (.bool (decide (b < a))) := by simp [binW]
theorem bin_geq : binW .geq (.int k a) (.int k b) K ↔ K (.bool (decide (b ≤ a))) := by simp [binW]
theorem bin_shr : binW .shr (.int k a) (.int k b) K ↔ 0 ≤ b ∧ K (.int k (a.fdiv (2 ^ min b.toNat k.bits))) := by simp [binW]
theorem ofL_app (l m : List UInt8) : ofL l ++ ofL m = ofL (l ++ m) := by
  apply ByteArray.ext; simp [ofL, ByteArray.data_append]
theorem bin_sadd (l m : List UInt8) : binW .add (.string (ofL l)) (.string (ofL m)) K ↔ ((l.length + m.length : Nat) : Int) ≤ IntKind.i64.max ∧ K (.string (ofL (l ++ m))) := by simp [binW, ofL_size, ofL_app]
theorem bin_seq (l m : List UInt8) : binW .eql (.string (ofL l)) (.string (ofL m)) K ↔ K (.bool (decide (l = m))) := by simp [binW, ofL_data]
theorem bin_sne (l m : List UInt8) : binW .neq (.string (ofL l)) (.string (ofL m)) K ↔ K (.bool (decide (l ≠ m))) := by simp [binW, ofL_data]
theorem bin_slt (l m : List UInt8) : binW .lss (.string (ofL l)) (.string (ofL m)) K ↔ K (.bool (Op.bytesLess l m)) := by simp [binW, ofL_data]
theorem bin_sgt (l m : List UInt8) : binW .gtr (.string (ofL l)) (.string (ofL m)) K ↔ K (.bool (!(Op.bytesLess l m || decide (l = m)))) := by simp [binW, ofL_data]
theorem bin_sge (l m : List UInt8) : binW .geq (.string (ofL l)) (.string (ofL m)) K ↔ K (.bool (!Op.bytesLess l m)) := by simp [binW, ofL_data]
theorem bin_sle (l m : List UInt8) : binW .leq (.string (ofL l)) (.string (ofL m)) K ↔ K (.bool (Op.bytesLess l m || decide (l = m))) := by simp [binW, ofL_data]
theorem nil_ptr : nilW (.pointer (some ad)) K ↔ K (.pointer (some ad)) := Iff.rfl
theorem fld_ptr (off : Nat) : fldW off (.pointer (some ad)) K ↔ K (.pointer (some (ad.add off))) := Iff.rfl
theorem ld_one (n : Nat) : ldW false n (.pointer (some ad)) w K ↔ ∃ v, w.cell? ad = some v ∧ K v := Iff.rfl
theorem ld_agg (n : Nat) : ldW true n (.pointer (some ad)) w K ↔ ∃ l, cellsAt w ad 0 n = some l ∧ K (.agg l.toArray) := Iff.rfl
theorem st_agg (n : Nat) (l : List Value) : stW n (.pointer (some ad)) (.agg l.toArray) w KW ↔ l.length = n ∧ stCells ad l 0 w KW := by simp [stW, Value.cells]
theorem one_int : one1 (.int k a) = true := rfl
theorem one_bool (c : Bool) : one1 (.bool c) = true := rfl
theorem one_str : one1 (.string s) = true := rfl
theorem one_slice (p : Option Addr) (n m : Nat) : one1 (.slice p n m) = true := rfl
theorem one_ptr (p : Option Addr) : one1 (.pointer p) = true := rfl
theorem one_map (p : Option Nat) : one1 (.map p) = true := rfl
theorem ext_tuple (i : Nat) (l : List Value) : extW i (.tuple l.toArray) K ↔ ∃ v, l[i]? = some v ∧ K v := by
  simp only [extW, List.getElem?_toArray]
  cases l[i]? <;> simp
theorem ixa_slice (size n c : Nat) : ixaW none size (.slice (some ad) n c) (.int k a) K ↔ 0 ≤ a ∧ a < n ∧ K (.pointer (some (ad.add (a.toNat * size)))) := Iff.rfl
theorem ixa_arr (m size : Nat) : ixaW (some m) size (.pointer (some ad)) (.int k a) K ↔ 0 ≤ a ∧ a < m ∧ K (.pointer (some (ad.add (a.toNat * size)))) := Iff.rfl
theorem ixs_str (l : List UInt8) : ixsW (.string (ofL l)) (.int k a) K ↔ 0 ≤ a ∧ ∃ c, l[a.toNat]? = some c ∧ K (.int .u8 c.toNat) := by simp [ixsW, ofL_data]
theorem lens_str (l : List UInt8) : lensW (.string (ofL l)) K ↔ K (.int .i64 l.length) := by simp [lensW, ofL_size]
theorem lenl_sl (p : Option Addr) (n c : Nat) : lenlW (.slice p n c) K ↔ K (.int .i64 n) := Iff.rfl
theorem un_not (c : Bool) : unW .not (.bool c) K ↔ K (.bool (!c)) := Iff.rfl
theorem un_neg : unW .neg (.int k a) K ↔ K (.int k (k.wrap (0 - a))) := Iff.rfl
theorem cvt_int (k' : IntKind) : cvtW k' (.int k a) K ↔ K (.int k' (k'.wrap a)) := Iff.rfl
theorem min_int : minW (.int k a) (.int k b) K ↔ K (.int k (if b < a then b else a)) := Iff.rfl
theorem max_int : maxW (.int k a) (.int k b) K ↔ K (.int k (if a < b then b else a)) := Iff.rfl
theorem bd_none (n m : Nat) (KN : Nat → Prop) : bdW none n m KN ↔ KN n := Iff.rfl
theorem bd_some (n m : Nat) (KN : Nat → Prop) : bdW (some (.int k a)) n m KN ↔ 0 ≤ a ∧ a ≤ m ∧ KN a.toNat := Iff.rfl
theorem sls_str (l : List UInt8) (lo hi : Option Value) : slsW (.string (ofL l)) lo hi K ↔ bdW hi l.length l.length fun h => bdW lo 0 h fun m => K (.string (ofL ((l.take h).drop m))) := by simp only [slsW, ofL_size, ofL_data]
theorem sll_sl (size : Nat) (p : Option Addr) (n c : Nat) (lo hi mx : Option Value) : sllW size (.slice p n c) lo hi mx K ↔ bdW mx c c fun m => (bdW hi n m fun h => bdW lo 0 h fun l => K (.slice (if m = l then p else p.map (·.add (l * size))) (h - l) (m - l))) := Iff.rfl
theorem isB_t (c : Bool) : isB (.bool c) true = c := by cases c <;> rfl
theorem isB_f (c : Bool) : isB (.bool c) false = !c := by cases c <;> rfl
end forms
theorem GdW.go {c : Bool} {u : List Value} {w : World} {A : (List Value → World → Prop) → Prop} {B : List Value → Fr → World → Prop}
    (h1 : c = true → A (fun s w' => ∀ g, B s g w')) (h2 : c = false → ∀ g, B u g w) : GdW c u w A B :=
  ⟨fun s w' => ∀ g, B s g w', h1, fun h => h2 h, fun s g _ h => h g⟩
theorem GdW.t {u : List Value} {w : World} {A : (List Value → World → Prop) → Prop} {B : List Value → Fr → World → Prop} (h : A (fun s w' => ∀ g, B s g w')) : GdW true u w A B :=
  GdW.go (fun _ => h) (fun e => by cases e)
theorem GdW.f {u : List Value} {w : World} {A : (List Value → World → Prop) → Prop} {B : List Value → Fr → World → Prop} (h : ∀ g, B u g w) : GdW false u w A B :=
  GdW.go (fun e => by cases e) (fun _ => h)
theorem GdW.cut {c : Bool} {u : List Value} {w : World} {A : (List Value → World → Prop) → Prop} {B : List Value → Fr → World → Prop} (J : List Value → World → Prop)
    (h1 : c = true → A J) (h2 : c = false → J u w) (h3 : ∀ s g w', J s w' → B s g w') : GdW c u w A B := ⟨J, h1, h2, h3⟩
theorem JoinW.go {A : (List Value → World → Prop) → Prop} {B : List Value → Fr → World → Prop} (h : A (fun s w' => ∀ g, B s g w')) : JoinW A B := ⟨_, h, fun _ g _ h => h g⟩
theorem JoinW.cut {A : (List Value → World → Prop) → Prop} {B : List Value → Fr → World → Prop} (J : List Value → World → Prop) (h1 : A J) (h2 : ∀ s g w', J s w' → B s g w') : JoinW A B := ⟨J, h1, h2⟩
theorem LoopW.go {s0 : List Value} {w0 : World} {B : List Value → Fr → World → (List Value → World → Prop) → Prop} (I : List Value → World → Prop) (μ : List Value → World → Nat)
    (h0 : I s0 w0) (h : ∀ s g w, I s w → B s g w (fun s' w' => I s' w' ∧ μ s' w' < μ s w)) : LoopW s0 w0 B := ⟨I, μ, h0, h⟩
theorem put_one (c : List Value) (i : Nat) (v : Value) (r : List (Nat × Nat × Value)) (K : List Value → Prop) (h : v.cells = #[v]) : putW c ((i, 1, v) :: r) K ↔ i < c.length ∧ putW (c.set i v) r K := by
  simp only [putW, h]
  constructor
  · rintro ⟨_, h2, h3⟩
    rw [List.set_eq_take_append_cons_drop, if_pos (by omega)]
    exact ⟨by omega, by simpa using h3⟩
  · rintro ⟨h2, h3⟩
    rw [List.set_eq_take_append_cons_drop, if_pos (by omega)] at h3
    exact ⟨rfl, by omega, by simpa using h3⟩
theorem put_nil (c : List Value) (K : List Value → Prop) : putW c [] K ↔ K c := Iff.rfl
theorem put_map (c : List Value) (i : Nat) (v : Option Nat) (r : List (Nat × Nat × Value)) (K : List Value → Prop) : putW c ((i, 1, .map v) :: r) K ↔ i < c.length ∧ putW (c.set i (.map v)) r K := put_one c i _ r K rfl
theorem put_int (c : List Value) (i : Nat) (k : IntKind) (v : Int) (r : List (Nat × Nat × Value)) (K : List Value → Prop) : putW c ((i, 1, .int k v) :: r) K ↔ i < c.length ∧ putW (c.set i (.int k v)) r K := put_one c i _ r K rfl
theorem put_str (c : List Value) (i : Nat) (v : ByteArray) (r : List (Nat × Nat × Value)) (K : List Value → Prop) : putW c ((i, 1, .string v) :: r) K ↔ i < c.length ∧ putW (c.set i (.string v)) r K := put_one c i _ r K rfl
theorem put_bool (c : List Value) (i : Nat) (v : Bool) (r : List (Nat × Nat × Value)) (K : List Value → Prop) : putW c ((i, 1, .bool v) :: r) K ↔ i < c.length ∧ putW (c.set i (.bool v)) r K := put_one c i _ r K rfl
theorem put_ptr (c : List Value) (i : Nat) (v : Option Addr) (r : List (Nat × Nat × Value)) (K : List Value → Prop) : putW c ((i, 1, .pointer v) :: r) K ↔ i < c.length ∧ putW (c.set i (.pointer v)) r K := put_one c i _ r K rfl
theorem put_slice (c : List Value) (i : Nat) (p : Option Addr) (n m : Nat) (r : List (Nat × Nat × Value)) (K : List Value → Prop) : putW c ((i, 1, .slice p n m) :: r) K ↔ i < c.length ∧ putW (c.set i (.slice p n m)) r K := put_one c i _ r K rfl
end Go.Eng
namespace Go.Eng
open Go
structure ElemT (P : Program) (t e : TypeId) (size bytes : Nat) : Prop where
  und : P.underlying t = some (.slice e)
  info : (P.info? e).map (fun i => (i.zero.map (·.cells.size), i.size, i.bytes)) = some (some size, size, bytes)
  pos : 0 < size
theorem ElemT.get {P : Program} {t e : TypeId} {size bytes : Nat} (h : ElemT P t e size bytes) : ∃ i z, P.info? e = some i ∧ i.zero = some z ∧ i.size = size ∧ i.bytes = bytes ∧ z.cells.size = size := by
  have hi := h.info
  cases hx : P.info? e with
  | none => rw [hx] at hi; cases hi
  | some i =>
    rw [hx] at hi
    simp only [Option.map_some, Option.some.injEq, Prod.mk.injEq] at hi
    obtain ⟨h1, h2, h3⟩ := hi
    cases hz : i.zero with
    | none => rw [hz] at h1; cases h1
    | some z =>
      rw [hz] at h1
      exact ⟨i, z, rfl, hz, h2, h3, by simpa using h1⟩
def SlAt (w : World) (T : TypeId) (v : Value) (n : Nat) (cs : List Value) : Prop :=
  ∃ p cap, v = .slice p n cap ∧ n ≤ cap ∧ (p = none → n = 0 ∧ cap = 0) ∧ (cs ≠ [] → ∃ b off c fr, p = some ⟨b, off, none⟩ ∧ w.heap[b]? = some (.cells c T fr) ∧ ∀ i, i < cs.length → c[off + i]? = cs[i]?)
theorem SlAt.nil (w : World) (T : TypeId) : SlAt w T (.slice none 0 0) 0 [] := ⟨none, 0, rfl, Nat.le_refl _, fun _ => ⟨rfl, rfl⟩, fun h => absurd rfl h⟩
theorem SlAt.chg {S : Nat → Prop} {w w' : World} {T : TypeId} {v : Value} {n : Nat} {cs : List Value} (h : SlAt w T v n cs) (hc : Chg S w w')
    (hS : ∀ k c fr, S k → w.heap[k]? ≠ some (.cells c T fr)) : SlAt w' T v n cs := by
  obtain ⟨p, cap, hv, h1, h2, h3⟩ := h
  refine ⟨p, cap, hv, h1, h2, fun hne => ?_⟩
  obtain ⟨b, off, c, fr, hp, hb, hcs⟩ := h3 hne
  have hlt : b < w.heap.size := (Array.getElem?_eq_some_iff.1 hb).1
  exact ⟨b, off, c, fr, hp, by rw [hc.heap b hlt fun e => hS b c fr e hb]; exact hb, hcs⟩
theorem SlAt.ext {w w' : World} {T : TypeId} {v : Value} {n : Nat} {cs : List Value} (h : SlAt w T v n cs) (hc : Ext w w') : SlAt w' T v n cs :=
  h.chg hc fun _ _ _ e => e.elim
theorem SlAt.shape {w : World} {T : TypeId} {v : Value} {n : Nat} {cs : List Value} (h : SlAt w T v n cs) : ∃ p cap, v = .slice p n cap ∧ n ≤ cap := by
  obtain ⟨p, cap, hv, h1, _⟩ := h
  exact ⟨p, cap, hv, h1⟩
theorem lenl_at {w : World} {T : TypeId} {v : Value} {n : Nat} {cs : List Value} (h : SlAt w T v n cs) (K : Value → Prop) : lenlW v K ↔ K (i64 n) := by
  obtain ⟨p, cap, rfl, _⟩ := h.shape
  exact Iff.rfl
theorem ixa_at {w : World} {T : TypeId} {v : Value} {n size : Nat} {cs : List Value} {k : IntKind} {i : Nat} {K : Value → Prop} (h : SlAt w T v n cs) (hl : cs.length = n * size) (hs : 0 < size) (hi : i < n)
    (hK : ∀ b o c fr, w.heap[b]? = some (.cells c T fr) → (∀ j, j < size → c[o + j]? = cs[i * size + j]?) → K (.pointer (some ⟨b, o, none⟩))) : ixaW none size v (.int k i) K := by
  obtain ⟨p, cap, rfl, h1, _, h3⟩ := h
  have hlt : i * size + size ≤ n * size := by rw [← Nat.succ_mul]; exact Nat.mul_le_mul_right _ hi
  obtain ⟨b, off, c, fr, rfl, hb, hcs⟩ := h3 (fun e => by rw [e] at hl; simp at hl; omega)
  refine ⟨Int.natCast_nonneg _, by omega, ?_⟩
  rw [add_mk, Int.toNat_natCast]
  exact hK b _ c fr hb fun j hj => by rw [show off + i * size + j = off + (i * size + j) by omega]; exact hcs _ (by omega)
theorem ixa_ld {w : World} {T : TypeId} {v : Value} {n : Nat} {cs : List Value} {k : IntKind} {i : Nat} {x : Value} {K : Value → Prop} (h : SlAt w T v n cs) (hl : cs.length = n) (hi : cs[i]? = some x) (hK : K x) :
    ixaW none 1 v (.int k i) fun t => ldW false 1 t w K := by
  have hi' : i < cs.length := (List.getElem?_eq_some_iff.1 hi).1
  refine ixa_at (size := 1) h (by omega) (by omega) (by omega) fun b o c fr hb hc => ?_
  refine ⟨x, ?_, hK⟩
  rw [cell_eq, hb, cellO_some]
  have := hc 0 (by omega)
  simpa [hi] using this
abbrev Own (w : World) (base : Nat) (e : TypeId) (size : Nat) (v : Value) (n : Nat) (xs : List Value) : Prop := w.ownsRow base e size v n xs
theorem Own.sl {w : World} {base : Nat} {e : TypeId} {size : Nat} {v : Value} {n : Nat} {xs : List Value} (h : Own w base e size v n xs) : SlAt w e v n xs := by
  obtain ⟨hl, ⟨rfl, rfl⟩ | ⟨g, cap, cur, rfl, _, hg, h1, _, h2, h3⟩⟩ := h
  · have : xs = [] := List.eq_nil_of_length_eq_zero (by simpa using hl)
    subst this
    exact SlAt.nil w e
  · refine ⟨_, _, rfl, h1, fun h => (by cases h), fun _ => ⟨g, 0, cur, (0, 0), rfl, hg, fun i hi => ?_⟩⟩
    rw [← h3, List.getElem?_take, if_pos (by omega), Nat.zero_add]
    simp
def OwnS (w : World) (base : Nat) (e : TypeId) (k : Nat) : Prop := base ≤ k ∧ ∃ c, w.heap[k]? = some (.cells c e (0, 0))
theorem Own.block {w : World} {base : Nat} {e : TypeId} {size : Nat} {v : Value} {n : Nat} {xs : List Value} (h : Own w base e size v n xs) : ∀ k, v.ownBlock = some k → OwnS w base e k := by
  intro k hk
  obtain ⟨hl, ⟨rfl, rfl⟩ | ⟨g, cap, cur, rfl, hb, hg, _⟩⟩ := h
  · simp [Value.ownBlock] at hk
  · simp [Value.ownBlock] at hk
    subst hk
    exact ⟨hb, cur, hg⟩
theorem one1_oneCell' {v : Value} (h : one1 v = true) : v.oneCell' = true := by cases v <;> first | rfl | (simp [one1] at h)
theorem Chg.of_grown {w w' : World} {row : Option Nat} {S : Nat → Prop} (h : w.grownBy w' row) (hS : ∀ k, row = some k → S k) : Chg S w w' :=
  ⟨h.os, h.tape, h.output, h.size, fun k hk hn => h.block k hk fun e => hn (hS k e.symm)⟩
theorem append_own2 {P : Program} {t e T : TypeId} {size bytes : Nat} (hT : ElemT P t e size bytes) {w : World} {base : Nat} {v x : Value} {n m : Nat} {xs news : List Value} {ty : TypeId} {K : Value → World → Prop}
    (hown : Own w base e size v n xs) (hx : SlAt w T x m news) (hl : news.length = m * size) (h1 : ∀ u ∈ news, one1 u = true) (hlen : n + m ≤ 4611686018427387904) (hb : (n + m) * bytes ≤ 140737488355328) (hbase : base ≤ w.heap.size)
    (hK : ∀ v' w', Own w' base e size v' (n + m) (xs ++ news) → Chg (fun k => v.ownBlock = some k) w w' → (v' = .slice none 0 0 ↔ v = .slice none 0 0 ∧ m = 0) → K v' w') :
    semE P (Builtin.append_ #[t, t] ty #[v, x]) w K := by
  obtain ⟨i, z, hi, hz, h2, h3, h4⟩ := hT.get
  obtain ⟨p, cap, rfl, hcap, hnil, hcells⟩ := hx
  have hm : n + m ≤ maxLen := by unfold maxLen; omega
  cases p with
  | none =>
    obtain ⟨rfl, rfl⟩ := hnil rfl
    have hn : news = [] := List.eq_nil_of_length_eq_zero (by simpa using hl)
    subst hn
    have hr : (Builtin.append_ #[t, t] ty #[v, .slice none 0 0]).run P w = .ok v w := by
      obtain ⟨hl', ⟨rfl, rfl⟩ | ⟨g, cap, cur, rfl, _, hg, h1, _, h2, h3⟩⟩ := hown
      · simp [Builtin.append_, run_bind, run_underlying' hT.und, run_sizeOf' (show (P.info? e).isSome = true by rw [hi]; rfl), Builtin.lenOf, run_pure, Builtin.firstCells]
      · simp [Builtin.append_, run_bind, run_underlying' hT.und, run_sizeOf' (show (P.info? e).isSome = true by rw [hi]; rfl), Builtin.lenOf, run_pure, Builtin.firstCells, h1, storeCells]
    unfold semE
    rw [hr]
    simp only [Nat.add_zero, List.append_nil] at hK
    exact hK v w hown (Chg.refl _ _) (by simp)
  | some a =>
    have hcell : ∀ j u, news[j]? = some u → w.cell? (a.add j) = some u := by
      intro j u hu
      have hne : news ≠ [] := fun e => by subst e; simp at hu
      obtain ⟨b, off, c, fr, hp, hb', hcs⟩ := hcells hne
      cases hp
      rw [add_mk, cell_eq, hb', cellO_some, hcs j (List.getElem?_eq_some_iff.1 hu).1, hu]
    obtain ⟨v', w', hr, hown', hg, hnil'⟩ := run_append_own (P := P) w base t ty e i z size bytes hT.und hi hz h2 h3 h4 hT.pos v n xs hown a m cap news hl hcell (fun u hu => one1_oneCell' (h1 u hu)) hm hb hbase
    unfold semE
    rw [hr]
    exact hK v' w' hown' (Chg.of_grown hg fun k e => e) hnil'
theorem own_new {w : World} {base : Nat} {e : TypeId} {size n : Nat} {cs : List Value} (hb : base ≤ w.heap.size) (hl : cs.length = n * size) (hn : n ≤ 4611686018427387904) : Own (w.alloc (.cells cs.toArray e)) base e size (.slice (some ⟨w.heap.size, 0, none⟩) n n) n cs :=
  ⟨hl, .inr ⟨w.heap.size, n, cs.toArray, rfl, hb, heap_anew _ _ _ rfl, Nat.le_refl _, by unfold maxLen; omega, by simpa using hl, by simp [← hl]⟩⟩
theorem Own.chg {S : Nat → Prop} {w w' : World} {base : Nat} {e : TypeId} {size : Nat} {v : Value} {n : Nat} {xs : List Value} (h : Own w base e size v n xs) (hc : Chg S w w') (hS : ∀ k, OwnS w base e k → ¬ S k) : Own w' base e size v n xs := by
  obtain ⟨hl, hn | ⟨g, cap, cur, hv, hb, hg, r⟩⟩ := h
  · exact ⟨hl, .inl hn⟩
  · exact ⟨hl, .inr ⟨g, cap, cur, hv, hb, by rw [hc.heap g (Array.getElem?_eq_some_iff.1 hg).1 (hS g ⟨hb, cur, hg⟩)]; exact hg, r⟩⟩
theorem Own.ext {w w' : World} {base : Nat} {e : TypeId} {size : Nat} {v : Value} {n : Nat} {xs : List Value} (h : Own w base e size v n xs) (hc : Ext w w') : Own w' base e size v n xs := h.chg hc fun _ _ e => e
theorem Own.base {w : World} {base base' : Nat} {e : TypeId} {size : Nat} {v : Value} {n : Nat} {xs : List Value} (h : Own w base e size v n xs) (hb : base' ≤ base) : Own w base' e size v n xs := by
  obtain ⟨hl, hn | ⟨g, cap, cur, hv, hg, r⟩⟩ := h
  · exact ⟨hl, .inl hn⟩
  · exact ⟨hl, .inr ⟨g, cap, cur, hv, Nat.le_trans hb hg, r⟩⟩
def u8s (l : List UInt8) : List Value := l.map fun b => .int .u8 b.toNat
theorem u8s_length (l : List UInt8) : (u8s l).length = l.length := by simp [u8s]
theorem u8s_get (l : List UInt8) (i : Nat) : (u8s l)[i]? = (l[i]?).map fun b => .int .u8 b.toNat := by simp [u8s]
theorem u8s_app (a b : List UInt8) : u8s (a ++ b) = u8s a ++ u8s b := by simp [u8s]
abbrev Byt (w : World) (T : TypeId) (v : Value) (l : List UInt8) : Prop := SlAt w T v l.length (u8s l)
theorem conv_bytes {P : Program} {src dst e T : TypeId} (hs : P.underlying src = some (.slice e)) (he : P.underlying e = some (.int .u8)) (hd : P.underlying dst = some .string) {w : World} {v : Value} {l : List UInt8} {K : Value → Prop}
    (h : Byt w T v l) : semQ P (convert src dst v) w K ↔ K (str l) := by
  have hr : (convert src dst v).run P w = .ok (str l) w := by
    obtain ⟨p, cap, rfl, hcap, hnil, hcells⟩ := h
    cases p with
    | none =>
      obtain ⟨h0, _⟩ := hnil rfl
      have : l = [] := List.eq_nil_of_length_eq_zero h0
      subst this
      rw [run_convert_bytes_nil (P := P) w src e hs he _ _ dst hd]
      rfl
    | some a =>
      cases l with
      | nil =>
        rw [run_convert_bytes_string w src dst e _ _ cap hs he hd]
        have hl : (loadCells a 0).run P w = .ok (([] : List Int).map (Value.int .u8)).toArray w := rfl
        have := run_bytesToString w a 0 cap [] hl
        exact this
      | cons x l =>
        obtain ⟨b, off, c, fr, hp, hb, hcs⟩ := hcells (by simp [u8s])
        cases hp
        have := run_convert_bytes_arg (P := P) w src e hs he b off (x :: l).length cap ((x :: l).map fun b => (b.toNat : Int)) (by simp) (fun i hi => by
          rw [cell_eq, hb, cellO_some, hcs i (by rw [u8s_length]; exact hi), u8s_get, List.getElem?_eq_getElem hi]
          rw [List.getD_eq_getElem?_getD, List.getElem?_map, List.getElem?_eq_getElem hi]; rfl) dst hd
        rw [this]
        simp [str, ofL, strOfNums, Function.comp_def]
  constructor
  · rintro ⟨u, hu, hk⟩
    rw [hr] at hu
    cases hu
    exact hk
  · exact fun hk => ⟨_, hr, hk⟩
end Go.Eng
namespace Go.Eng
open Go
abbrev Str := List UInt8
def MapAt (w : World) (m : Nat) (A : List (Str × Value)) : Prop :=
  ∃ es clock, w.heap[m]? = some (.map es clock) ∧ es.toList.map (fun e => (e.key, e.val)) = A.map (fun p => (str p.1, p.2)) ∧ (A.map (·.1)).Nodup ∧ (es.toList.map (·.born)).Nodup ∧ ∀ e ∈ es.toList, e.born < clock
theorem MapAt.lt {w : World} {m : Nat} {A : List (Str × Value)} (h : MapAt w m A) : m < w.heap.size := by
  obtain ⟨es, clock, hb, _⟩ := h
  exact (Array.getElem?_eq_some_iff.1 hb).1
theorem MapAt.ne {w : World} {m b : Nat} {A : List (Str × Value)} {c : Array Value} {T : TypeId} {fr : Nat × Nat} (h : MapAt w m A) (hb : w.heap[b]? = some (.cells c T fr)) : m ≠ b := by
  obtain ⟨es, clock, hm, _⟩ := h
  intro e
  subst e
  rw [hm] at hb
  cases hb
theorem MapAt.chg {S : Nat → Prop} {w w' : World} {m : Nat} {A : List (Str × Value)} (h : MapAt w m A) (hc : Chg S w w') (hS : ¬ S m) : MapAt w' m A := by
  have hl := h.lt
  obtain ⟨es, clock, hb, r⟩ := h
  exact ⟨es, clock, by rw [hc.heap m hl hS]; exact hb, r⟩
theorem str_beq (a b : Str) : (ofL a == ofL b) = decide (a = b) := by
  have h : (ofL a == ofL b) = ((ofL a).data == (ofL b).data) := rfl
  rw [h, Bool.eq_iff_iff]
  simp [ofL]
def afind : List (Str × Value) → Str → Nat → Option (Nat × Value)
  | [], _, _ => none
  | (k, v) :: r, x, i => if x = k then some (i, v) else afind r x (i + 1)
theorem findNow_str : ∀ (l : List MapEntry) (A : List (Str × Value)) (x : Str) (i : Nat), l.map (fun e => (e.key, e.val)) = A.map (fun p => (str p.1, p.2)) → Instr.findNow .string (str x) l i = some (afind A x i)
  | [], A, x, i, h => by
    have : A = [] := by simpa using h.symm
    subst this
    rfl
  | e :: l, [], x, i, h => by simp at h
  | e :: l, (k, v) :: A, x, i, h => by
    simp only [List.map_cons, List.cons.injEq, Prod.mk.injEq] at h
    obtain ⟨⟨hk, hv⟩, hr⟩ := h
    simp only [Instr.findNow, hk, Instr.sameNow, str_beq, afind, hv]
    by_cases hx : x = k
    · simp [hx]
    · simp only [hx, decide_false, if_false]
      exact findNow_str l A x (i + 1) hr
section
variable {P : Program} {T kt et : TypeId} {w : World} {m : Nat} {A : List (Str × Value)}
theorem run_checkKey (hk : P.underlying kt = some .string) (e : Bool) (s : ByteArray) (w : World) : (Instr.checkKey e 10000 kt (.string s)).run P w = .ok () w := by
  show (Instr.checkKey e (9999 + 1) kt (.string s)).run P w = .ok () w
  unfold Instr.checkKey
  simp [run_bind, run_underlying' hk, run_pure]
theorem run_findKey (hk : P.underlying kt = some .string) (x : Str) (es : List MapEntry) (h : es.map (fun e => (e.key, e.val)) = A.map (fun p => (str p.1, p.2))) (w : World) : (Instr.findKey kt (str x) es).run P w = .ok (afind A x 0) w := by
  simp only [Instr.findKey, run_bind, run_underlying' hk]
  rw [findNow_str es A x 0 h]
  rfl
end
end Go.Eng
namespace Go.Eng
open Go
theorem Chg.at {S : Nat → Prop} {w w' : World} {k : Nat} {o : Obj} (hc : Chg S w w') (h : w.heap[k]? = some o) (hS : ¬ S k) : w'.heap[k]? = some o := by
  rw [hc.heap k (Array.getElem?_eq_some_iff.1 h).1 hS]; exact h
theorem Chg.new {w w1 w2 : World} {a : Nat} (h1 : Ext w w1) (hc : Chg (fun k => k = a) w1 w2) (ha : w.heap.size ≤ a) : Ext w w2 := h1.then hc fun k hk e => by omega
theorem at_lt {w : World} {k : Nat} {o : Obj} (h : w.heap[k]? = some o) : k < w.heap.size := (Array.getElem?_eq_some_iff.1 h).1
theorem alloc_new {T : TypeId} {z : List Value} {w : World} {K : Value → World → Prop} (h : ∀ a w', a = w.heap.size → w'.heap.size = w.heap.size + 1 → w'.heap[a]? = some (.cells z.toArray T (0, 0)) → Ext w w' → K (.pointer (some ⟨a, 0, none⟩)) w') : allocW T z w K :=
  h _ _ rfl (by simp) (heap_anew _ _ _ rfl) (Chg.alloc (Chg.refl _ _) _)
theorem box_new {T : TypeId} {z : List Value} {w : World} {K : Value → World → Prop} (h : ∀ a w', a = w.heap.size → w'.heap.size = w.heap.size + 1 → w'.heap[a]? = some (.cells z.toArray T (0, 0)) → Ext w w' → K (.pointer (some ⟨a, 0, none⟩)) w') : boxW T (.agg z.toArray) w K :=
  h _ _ rfl (by simp) (heap_anew _ _ _ rfl) (Chg.alloc (Chg.refl _ _) _)
theorem row_new {T : TypeId} {n : Nat} {cs : List Value} {w : World} {K : Value → World → Prop} (h : ∀ a w', a = w.heap.size → w'.heap.size = w.heap.size + 1 → w'.heap[a]? = some (.cells cs.toArray T (0, 0)) → Ext w w' → w' = w.alloc (.cells cs.toArray T) → K (.slice (some ⟨a, 0, none⟩) n n) w') :
    K (.slice (some ⟨w.heap.size, 0, none⟩) n n) (w.alloc (.cells cs.toArray T)) :=
  h _ _ rfl (by simp) (heap_anew _ _ _ rfl) (Chg.alloc (Chg.refl _ _) _) rfl
theorem st_at {a off : Nat} {w : World} {T : TypeId} {cs : Array Value} {v : Value} {K : World → Prop} (hb : w.heap[a]? = some (.cells cs T (0, 0))) (h1 : one1 v = true) (hoff : off < cs.size)
    (hK : ∀ w', w'.heap.size = w.heap.size → w'.heap[a]? = some (.cells (cs.setIfInBounds off v) T (0, 0)) → Chg (fun k => k = a) w w' → K w') : stW 1 (.pointer (some ⟨a, off, none⟩)) v w K := by
  have hc : v.cells.toList = [v] := by cases v <;> first | rfl | (simp [one1] at h1)
  have hc2 : v.cells = #[v] := by cases v <;> first | rfl | (simp [one1] at h1)
  have hz : (⟨a, off, none⟩ : Addr).add 0 = ⟨a, off, none⟩ := rfl
  simp only [stW, hc2]
  refine ⟨rfl, ?_⟩
  simp only [stCells, hz]
  refine ⟨h1, ?_, ?_, ?_⟩
  · rw [cell_eq, hb, cellO_some]; simp [hoff]
  · rw [frozen_eq, hb, frO_zero]
  · refine hK _ (by simp) ?_ (Chg.set (S := fun k => k = a) (Chg.refl _ _) (.inl rfl) _)
    rw [heap_set_same, hb, setO_some]
theorem st_all {a : Nat} {w : World} {T : TypeId} {K : World → Prop} : ∀ (l : List Value) (i : Nat) (cs : List Value), w.heap[a]? = some (.cells cs.toArray T (0, 0)) → cs.length = i + l.length → (∀ v ∈ l, one1 v = true) →
    (∀ w', w'.heap.size = w.heap.size → w'.heap[a]? = some (.cells (cs.take i ++ l).toArray T (0, 0)) → Chg (fun k => k = a) w w' → K w') → stCells ⟨a, 0, none⟩ l i w K := by
  intro l
  induction l generalizing w with
  | nil =>
    intro i cs hb hl _ hK
    refine hK w rfl ?_ (Chg.refl _ _)
    simp only [List.length_nil, Nat.add_zero] at hl
    rw [List.take_of_length_le (by omega), List.append_nil]; exact hb
  | cons v r ih =>
    intro i cs hb hl h1 hK
    have hadd : (⟨a, 0, none⟩ : Addr).add i = ⟨a, i, none⟩ := by rw [add_mk]; simp
    simp only [List.length_cons] at hl
    simp only [stCells, hadd]
    refine ⟨h1 v List.mem_cons_self, ?_, ?_, ?_⟩
    · rw [cell_eq, hb, cellO_some]; simp; omega
    · rw [frozen_eq, hb, frO_zero]
    · have hb' : (w.setCell ⟨a, i, none⟩ v).heap[a]? = some (.cells (cs.set i v).toArray T (0, 0)) := by
        rw [heap_set_same, hb, setO_some]; simp
      refine ih (i + 1) (cs.set i v) hb' (by rw [List.length_set]; omega) (fun u hu => h1 u (List.mem_cons_of_mem _ hu)) fun w' hz hb2 hc => ?_
      refine hK w' (by rw [hz]; simp) ?_ ((Chg.set (S := fun k => k = a) (Chg.refl _ _) (.inl rfl) _).trans hc)
      rw [hb2]
      have : (cs.set i v).take (i + 1) ++ r = cs.take i ++ v :: r := by
        rw [List.take_add_one, List.getElem?_set_self (by omega), List.take_set_of_le (by omega)]
        simp
      rw [this]
theorem st_agg_at {a n : Nat} {w : World} {T : TypeId} {l cs : List Value} {K : World → Prop} (hb : w.heap[a]? = some (.cells cs.toArray T (0, 0))) (hl : l.length = n) (hc : cs.length = n) (h1 : l.all one1 = true)
    (hK : ∀ w', w'.heap.size = w.heap.size → w'.heap[a]? = some (.cells l.toArray T (0, 0)) → Chg (fun k => k = a) w w' → K w') : stW n (.pointer (some ⟨a, 0, none⟩)) (.agg l.toArray) w K := by
  rw [st_agg]
  refine ⟨hl, ?_⟩
  refine st_all l 0 cs hb (by omega) (fun v hv => List.all_eq_true.1 h1 v hv) fun w' hz hb' hc' => hK w' hz ?_ hc'
  simpa using hb'
theorem cellsAt_of {a : Nat} {w : World} {T : TypeId} {cs : List Value} {fr : Nat × Nat} (hb : w.heap[a]? = some (.cells cs.toArray T fr)) : ∀ (n i : Nat), i + n = cs.length → cellsAt w ⟨a, 0, none⟩ i n = some (cs.drop i)
  | 0, i, h => by simp only [cellsAt]; rw [List.drop_of_length_le (by omega)]
  | n + 1, i, h => by
    have hi : i < cs.length := by omega
    simp only [cellsAt, add_mk, cell_eq, hb, cellO_some, Nat.zero_add, List.getElem?_toArray, List.getElem?_eq_getElem hi]
    rw [cellsAt_of hb n (i + 1) (by omega)]
    simp
theorem ld_all {a n : Nat} {w : World} {T : TypeId} {l : List Value} {fr : Nat × Nat} {K : Value → Prop} (hb : w.heap[a]? = some (.cells l.toArray T fr)) (hn : l.length = n) (hK : K (.agg l.toArray)) : ldW true n (.pointer (some ⟨a, 0, none⟩)) w K := by
  rw [ld_agg]
  exact ⟨l, by rw [cellsAt_of hb n 0 (by omega)]; rfl, hK⟩
theorem ret_agg {a n : Nat} {T : TypeId} {l cs : List Value} {w : World} {K : Value → World → Prop} (hb : w.heap[a]? = some (.cells cs.toArray T (0, 0))) (hl : l.length = n) (hc : cs.length = n) (h1 : l.all one1 = true)
    (hK : ∀ w', Chg (fun k => k = a) w w' → K (.agg l.toArray) w') : stW n (.pointer (some ⟨a, 0, none⟩)) (.agg l.toArray) w fun w5 => ldW true n (.pointer (some ⟨a, 0, none⟩)) w5 fun r6 => K r6 w5 :=
  st_agg_at hb hl hc h1 fun w' _ hb' hcw => ld_all hb' hl (hK w' hcw)
end Go.Eng
namespace Go.Eng
open Go
inductive JV where
  | mk (k : Int) (b : Bool) (t : Str) (xs : List JV) (ks : List Str)
namespace JV
def k : JV → Int | .mk k _ _ _ _ => k
def b : JV → Bool | .mk _ b _ _ _ => b
def t : JV → Str | .mk _ _ t _ _ => t
def xs : JV → List JV | .mk _ _ _ xs _ => xs
def ks : JV → List Str | .mk _ _ _ _ ks => ks
theorem eta (v : JV) : v = .mk v.k v.b v.t v.xs v.ks := by cases v; rfl
theorem ind {p : JV → Prop} (h : ∀ k b t xs ks, (∀ x ∈ xs, p x) → p (.mk k b t xs ks)) (v : JV) : p v :=
  JV.rec (motive_1 := p) (motive_2 := fun l => ∀ x ∈ l, p x) (fun k b t xs ks ih => h k b t xs ks ih) (by intro x hx; cases hx)
    (fun x l hx hl y hy => by rcases List.mem_cons.1 hy with rfl | hy; exact hx; exact hl y hy) v
def null : JV := .mk 0 false [] [] []
end JV
def Fits (n : Nat) (ks : List Str) (t : Str) : Prop := n ≤ 9223372036854775807 ∧ ks.length ≤ 9223372036854775807 ∧ t.length ≤ 9223372036854775807 ∧ ∀ s ∈ ks, s.length ≤ 9223372036854775807
mutual
/-- the five cells of a value -/
def VRep (w : World) : JV → List Value → Prop
  | .mk k b t xs ks, cs => ∃ sv kv T1 T2 L, cs = [i64 k, .bool b, str t, sv, kv] ∧ SlAt w T1 sv xs.length L ∧ VReps w xs L ∧ SlAt w T2 kv ks.length (ks.map str) ∧ Fits xs.length ks t
/-- the cells of a row of values -/
def VReps (w : World) : List JV → List Value → Prop
  | [], L => L = []
  | x :: xs, L => ∃ c r, L = c ++ r ∧ VRep w x c ∧ VReps w xs r
end
theorem VRep.out {w : World} {v : JV} {cs : List Value} (h : VRep w v cs) : ∃ sv kv T1 T2 L, cs = [i64 v.k, .bool v.b, str v.t, sv, kv] ∧ SlAt w T1 sv v.xs.length L ∧ VReps w v.xs L ∧ SlAt w T2 kv v.ks.length (v.ks.map str) ∧ Fits v.xs.length v.ks v.t := by
  cases v with
  | mk k b t xs ks => simpa only [VRep, JV.k, JV.b, JV.t, JV.xs, JV.ks] using h
theorem VRep.mk {w : World} {v : JV} {sv kv : Value} {T1 T2 : TypeId} {L : List Value} (h1 : SlAt w T1 sv v.xs.length L) (h2 : VReps w v.xs L) (h3 : SlAt w T2 kv v.ks.length (v.ks.map str)) (h4 : Fits v.xs.length v.ks v.t) : VRep w v [i64 v.k, .bool v.b, str v.t, sv, kv] := by
  cases v with
  | mk k b t xs ks => simp only [VRep]; exact ⟨sv, kv, T1, T2, L, rfl, h1, h2, h3, h4⟩
theorem VRep.len {w : World} {v : JV} {cs : List Value} (h : VRep w v cs) : cs.length = 5 := by
  obtain ⟨sv, kv, T1, T2, L, rfl, _⟩ := h.out; rfl
theorem VRep.one {w : World} {v : JV} {cs : List Value} (h : VRep w v cs) : ∀ u ∈ cs, one1 u = true := by
  obtain ⟨sv, kv, T1, T2, L, rfl, h1, _, h3, _⟩ := h.out
  obtain ⟨p, c, rfl, _⟩ := h1.shape
  obtain ⟨p', c', rfl, _⟩ := h3.shape
  intro u hu
  simp only [List.mem_cons, List.not_mem_nil, or_false] at hu
  rcases hu with rfl | rfl | rfl | rfl | rfl <;> rfl
theorem VRep.all_one {w : World} {v : JV} {cs : List Value} (h : VRep w v cs) : cs.all one1 = true := List.all_eq_true.2 h.one
theorem VReps.len {w : World} : ∀ {xs : List JV} {L : List Value}, VReps w xs L → L.length = xs.length * 5
  | [], L, h => by simp only [VReps] at h; subst h; rfl
  | x :: xs, L, h => by
    simp only [VReps] at h
    obtain ⟨c, r, rfl, hc, hr⟩ := h
    rw [List.length_append, hc.len, VReps.len hr, List.length_cons]; omega
theorem VReps.one {w : World} : ∀ {xs : List JV} {L : List Value}, VReps w xs L → ∀ u ∈ L, one1 u = true
  | [], L, h => by simp only [VReps] at h; subst h; intro u hu; cases hu
  | x :: xs, L, h => by
    simp only [VReps] at h
    obtain ⟨c, r, rfl, hc, hr⟩ := h
    intro u hu
    rcases List.mem_append.1 hu with hu | hu
    · exact hc.one u hu
    · exact VReps.one hr u hu
theorem VReps.get {w : World} : ∀ {xs : List JV} {L : List Value} {i : Nat} {x : JV}, VReps w xs L → xs[i]? = some x → ∃ cs, VRep w x cs ∧ ∀ j, j < 5 → L[i * 5 + j]? = cs[j]?
  | [], _, _, _, _, h => by simp at h
  | y :: xs, L, 0, x, h, hx => by
    simp only [List.getElem?_cons_zero, Option.some.injEq] at hx
    subst hx
    simp only [VReps] at h
    obtain ⟨c, r, rfl, hc, hr⟩ := h
    refine ⟨c, hc, fun j hj => ?_⟩
    rw [Nat.zero_mul, Nat.zero_add, List.getElem?_append_left (by rw [hc.len]; exact hj)]
  | y :: xs, L, i + 1, x, h, hx => by
    simp only [List.getElem?_cons_succ] at hx
    simp only [VReps] at h
    obtain ⟨c, r, rfl, hc, hr⟩ := h
    obtain ⟨cs, h1, h2⟩ := VReps.get hr hx
    refine ⟨cs, h1, fun j hj => ?_⟩
    rw [List.getElem?_append_right (by rw [hc.len]; omega), hc.len, ← h2 j hj]
    congr 1; omega
theorem VReps.app {w : World} : ∀ {xs ys : List JV} {L M : List Value}, VReps w xs L → VReps w ys M → VReps w (xs ++ ys) (L ++ M)
  | [], ys, L, M, h, h' => by simp only [VReps] at h; subst h; exact h'
  | x :: xs, ys, L, M, h, h' => by
    simp only [VReps] at h
    obtain ⟨c, r, rfl, hc, hr⟩ := h
    simp only [List.cons_append, VReps]
    exact ⟨c, r ++ M, by simp, hc, VReps.app hr h'⟩
theorem VReps.one' {w : World} {x : JV} {cs : List Value} (h : VRep w x cs) : VReps w [x] cs := by
  simp only [VReps]; exact ⟨cs, [], by simp, h, rfl⟩
theorem VReps.snoc {w : World} {xs : List JV} {x : JV} {L cs : List Value} (h : VReps w xs L) (hx : VRep w x cs) : VReps w (xs ++ [x]) (L ++ cs) := h.app (VReps.one' hx)
mutual
theorem VRep.ext {w w' : World} (hx : Ext w w') : ∀ {v : JV} {cs : List Value}, VRep w v cs → VRep w' v cs
  | .mk k b t xs ks, cs, h => by
    simp only [VRep] at h ⊢
    obtain ⟨sv, kv, T1, T2, L, rfl, h1, h2, h3, h4⟩ := h
    exact ⟨sv, kv, T1, T2, L, rfl, h1.ext hx, VReps.ext hx h2, h3.ext hx, h4⟩
theorem VReps.ext {w w' : World} (hx : Ext w w') : ∀ {xs : List JV} {L : List Value}, VReps w xs L → VReps w' xs L
  | [], L, h => by simp only [VReps] at h ⊢; exact h
  | x :: xs, L, h => by
    simp only [VReps] at h ⊢
    obtain ⟨c, r, rfl, hc, hr⟩ := h
    exact ⟨c, r, rfl, VRep.ext hx hc, VReps.ext hx hr⟩
end
theorem vrep_null (w : World) : VRep w JV.null [i64 0, .bool false, str [], .slice none 0 0, .slice none 0 0] :=
  VRep.mk (v := JV.null) (T1 := 0) (T2 := 0) (SlAt.nil w 0) (by simp [JV.null, JV.xs, VReps]) (SlAt.nil w 0) (by simp [Fits, JV.null, JV.xs, JV.ks, JV.t])
theorem item_at {w : World} {T : TypeId} {sv : Value} {xs : List JV} {L : List Value} {k : IntKind} {i : Nat} {x : JV} {K : Value → Prop} (h : SlAt w T sv xs.length L) (hr : VReps w xs L) (hi : xs[i]? = some x)
    (hK : ∀ b o c fr cs, w.heap[b]? = some (.cells c T fr) → VRep w x cs → (∀ j, j < 5 → c[o + j]? = cs[j]?) → K (.pointer (some ⟨b, o, none⟩))) : ixaW none 5 sv (.int k i) K := by
  obtain ⟨cs, hc, hg⟩ := hr.get hi
  refine ixa_at (size := 5) h hr.len (by omega) (List.getElem?_eq_some_iff.1 hi).1 fun b o c fr hb hcc => ?_
  exact hK b o c fr cs hb hc fun j hj => (hcc j hj).trans (hg j hj)
theorem ld_cells {w : World} {b o n : Nat} {c : Array Value} {T : TypeId} {fr : Nat × Nat} {cs : List Value} {K : Value → Prop} (hb : w.heap[b]? = some (.cells c T fr)) (hn : cs.length = n) (hc : ∀ j, j < n → c[o + j]? = cs[j]?) (hK : K (.agg cs.toArray)) :
    ldW true n (.pointer (some ⟨b, o, none⟩)) w K := by
  rw [ld_agg]
  refine ⟨cs, ?_, hK⟩
  have key : ∀ (m i : Nat), i + m = n → cellsAt w ⟨b, o, none⟩ i m = some (cs.drop i) := by
    intro m
    induction m with
    | zero => intro i h; simp only [cellsAt]; rw [List.drop_of_length_le (by omega)]
    | succ m ih =>
      intro i h
      have hi : i < cs.length := by omega
      simp only [cellsAt, add_mk, cell_eq, hb, cellO_some, hc i (by omega), List.getElem?_eq_getElem hi]
      rw [ih (i + 1) (by omega)]
      simp
  simpa using key n 0 (by omega)
theorem item_ld {w : World} {T : TypeId} {sv : Value} {xs : List JV} {L : List Value} {k : IntKind} {i : Nat} {x : JV} {K : Value → Prop} (h : SlAt w T sv xs.length L) (hr : VReps w xs L) (hi : xs[i]? = some x)
    (hK : ∀ cs, VRep w x cs → K (.agg cs.toArray)) : ixaW none 5 sv (.int k i) fun p => ldW true 5 p w K :=
  item_at h hr hi fun _ _ _ _ cs hb hc hg => ld_cells hb hc.len hg (hK cs hc)
theorem text_ld {w : World} {T : TypeId} {kv : Value} {ks : List Str} {k : IntKind} {i : Nat} {x : Str} {K : Value → Prop} (h : SlAt w T kv ks.length (ks.map str)) (hi : ks[i]? = some x) (hK : K (str x)) : ixaW none 1 kv (.int k i) fun p => ldW false 1 p w K :=
  ixa_ld h (by simp) (by simp [hi]) hK
end Go.Eng
namespace Go.Num
open Go.Eng
def isDig (c : UInt8) : Bool := decide (48 ≤ c.toNat) && decide (c.toNat ≤ 57)
def dig (a : Str) : Str := match a with | [] => [] | c :: d => if c = 45 then d else c :: d
def neg (a : Str) : Bool := a.head? == some 45
def goodN (a : Str) : Bool := decide (1 ≤ (dig a).length) && decide ((dig a).length ≤ 100) && (!((dig a).head? == some 48) || decide (a = [48])) && (dig a).all isDig
def dval (c : UInt8) : Nat := c.toNat - 48
def dec (d : Str) : Nat := d.foldl (fun n c => n * 10 + dval c) 0
theorem dec_go (d : Str) (n : Nat) : d.foldl (fun n c => n * 10 + dval c) n = n * 10 ^ d.length + dec d := by
  unfold dec
  induction d generalizing n with
  | nil => simp
  | cons c d ih =>
    simp only [List.foldl_cons, List.length_cons]
    rw [ih, ih (0 * 10 + dval c), Nat.pow_succ, Nat.zero_mul, Nat.zero_add, Nat.add_mul, ← Nat.add_assoc]
    congr 2
    rw [Nat.mul_assoc, Nat.mul_comm 10]
theorem dec_app (a b : Str) : dec (a ++ b) = dec a * 10 ^ b.length + dec b := by
  unfold dec; rw [List.foldl_append, dec_go]; rfl
theorem dec_cons (c : UInt8) (d : Str) : dec (c :: d) = dval c * 10 ^ d.length + dec d := by
  have := dec_app [c] d; simpa [dec] using this
theorem dval_lt {c : UInt8} (h : isDig c = true) : dval c < 10 := by
  simp only [isDig, Bool.and_eq_true, decide_eq_true_eq] at h; unfold dval; omega
theorem dec_lt {d : Str} (h : d.all isDig = true) : dec d < 10 ^ d.length := by
  induction d with
  | nil => simp [dec]
  | cons c d ih =>
    simp only [List.all_cons, Bool.and_eq_true] at h
    have h1 := ih h.2
    have h2 := dval_lt h.1
    rw [dec_cons, List.length_cons, Nat.pow_succ, Nat.mul_comm (10 ^ _) 10]
    have : dval c * 10 ^ d.length + 10 ^ d.length ≤ 10 * 10 ^ d.length := by rw [← Nat.succ_mul]; exact Nat.mul_le_mul_right _ h2
    omega
theorem dec_inj_len {a b : Str} (ha : a.all isDig = true) (hb : b.all isDig = true) (hl : a.length = b.length) (h : dec a = dec b) : a = b := by
  induction a generalizing b with
  | nil => cases b with
    | nil => rfl
    | cons _ _ => simp at hl
  | cons c a ih =>
    cases b with
    | nil => simp at hl
    | cons e b =>
      simp only [List.all_cons, Bool.and_eq_true] at ha hb
      simp only [List.length_cons, Nat.add_right_cancel_iff] at hl
      rw [dec_cons, dec_cons, hl] at h
      have h1 := dec_lt ha.2
      have h2 := dec_lt hb.2
      rw [hl] at h1
      have hp : 0 < 10 ^ b.length := Nat.pow_pos (by omega)
      have e1 : (dval c * 10 ^ b.length + dec a) / 10 ^ b.length = dval c := by
        rw [Nat.add_comm, Nat.add_mul_div_right _ _ hp, Nat.div_eq_of_lt h1, Nat.zero_add]
      have e2 : (dval e * 10 ^ b.length + dec b) / 10 ^ b.length = dval e := by
        rw [Nat.add_comm, Nat.add_mul_div_right _ _ hp, Nat.div_eq_of_lt h2, Nat.zero_add]
      have hc : dval c = dval e := by rw [← e1, ← e2, h]
      have hr : dec a = dec b := by rw [hc] at h; omega
      have hce : c = e := by
        have h3 := ha.1; have h4 := hb.1
        simp only [isDig, Bool.and_eq_true, decide_eq_true_eq] at h3 h4
        unfold dval at hc
        exact UInt8.toNat_inj.1 (by omega)
      rw [hce, ih ha.2 hb.2 hl hr]
theorem dec_ge {c : UInt8} {d : Str} (hc : isDig c = true) (h0 : c ≠ 48) : 10 ^ d.length ≤ dec (c :: d) := by
  rw [dec_cons]
  have : 1 ≤ dval c := by
    simp only [isDig, Bool.and_eq_true, decide_eq_true_eq] at hc
    unfold dval
    have : c.toNat ≠ 48 := fun e => h0 (UInt8.toNat_inj.1 e)
    omega
  have := Nat.mul_le_mul_right (10 ^ d.length) this
  omega
theorem dec_inj {a b : Str} (ha : a.all isDig = true) (hb : b.all isDig = true) (ha0 : a.head? = some 48 → a = [48]) (hb0 : b.head? = some 48 → b = [48]) (h1 : a ≠ []) (h2 : b ≠ []) (h : dec a = dec b) : a = b := by
  have key : ∀ {a b : Str}, a.all isDig = true → b.all isDig = true → (b.head? = some 48 → b = [48]) → a ≠ [] → b ≠ [] → dec a = dec b → b.length ≤ a.length := by
    intro a b ha hb hb0 h1 h2 h
    cases b with
    | nil => simp
    | cons c d =>
      by_cases hc : c = 48
      · have := hb0 (by simp [hc])
        rw [this]
        cases a with
        | nil => exact absurd rfl h1
        | cons _ _ => simp
      · simp only [List.all_cons, Bool.and_eq_true] at hb
        have h3 := dec_ge (d := d) hb.1 hc
        have h4 := dec_lt ha
        rw [h] at h4
        have : d.length < a.length := by
          rcases Nat.lt_or_ge d.length a.length with h5 | h5
          · exact h5
          · have := Nat.pow_le_pow_right (n := 10) (by omega) h5
            omega
        simp; omega
  exact dec_inj_len ha hb (Nat.le_antisymm (key hb ha ha0 h2 h1 h.symm) (key ha hb hb0 h1 h2 h)) h
def val : List Nat → Nat
  | [] => 0
  | x :: r => x + 1000000000 * val r
def Lim (l : List Nat) : Prop := ∀ x ∈ l, x < 1000000000
def limbs (d : Str) : List Nat := if h : d = [] then [] else dec (d.drop (d.length - 9)) :: limbs (d.take (d.length - 9))
termination_by d.length
decreasing_by
  have : 0 < d.length := List.length_pos_iff.2 h
  simp only [List.length_take]; omega
theorem limbs_nil : limbs [] = [] := by rw [limbs]; simp
theorem limbs_ne {d : Str} (h : d ≠ []) : limbs d = dec (d.drop (d.length - 9)) :: limbs (d.take (d.length - 9)) := by rw [limbs, dif_neg h]
theorem all_take {d : Str} (n : Nat) (h : d.all isDig = true) : (d.take n).all isDig = true := List.all_eq_true.2 fun x hx => List.all_eq_true.1 h x (List.mem_of_mem_take hx)
theorem all_drop {d : Str} (n : Nat) (h : d.all isDig = true) : (d.drop n).all isDig = true := List.all_eq_true.2 fun x hx => List.all_eq_true.1 h x (List.mem_of_mem_drop hx)
theorem dec9 {d : Str} (h : d.all isDig = true) (hl : d.length ≤ 9) : dec d < 1000000000 := by
  have h1 := dec_lt h
  have := Nat.pow_le_pow_right (n := 10) (by omega) hl
  omega
theorem limbs_val : ∀ (n : Nat) (d : Str), d.length ≤ n → d.all isDig = true → val (limbs d) = dec d ∧ Lim (limbs d)
  | n, [], _, _ => by rw [limbs_nil]; exact ⟨rfl, fun x hx => by cases hx⟩
  | 0, _ :: _, h, _ => by simp at h
  | n + 1, c :: d, hn, h => by
    rw [limbs_ne (by simp)]
    generalize hD : c :: d = D at *
    have hpos : 0 < D.length := by rw [← hD]; simp
    obtain ⟨h1, h2⟩ := limbs_val n (D.take (D.length - 9)) (by rw [List.length_take]; omega) (all_take _ h)
    refine ⟨?_, fun x hx => ?_⟩
    · simp only [val, h1]
      have hs : D = D.take (D.length - 9) ++ D.drop (D.length - 9) := (List.take_append_drop _ _).symm
      conv => rhs; rw [hs, dec_app]
      rcases Nat.lt_or_ge D.length 9 with h9 | h9
      · have : D.length - 9 = 0 := by omega
        rw [this]; simp [dec]
      · rw [List.length_drop, show D.length - (D.length - 9) = 9 by omega]
        rw [Nat.add_comm, Nat.mul_comm 1000000000]
    · rcases List.mem_cons.1 hx with rfl | hx
      · exact dec9 (all_drop _ h) (by rw [List.length_drop]; omega)
      · exact h2 x hx
def trimL (l : List Nat) : List Nat := if h : l = [] then [] else if l.getLast h = 0 then trimL l.dropLast else l
termination_by l.length
decreasing_by
  have : 0 < l.length := List.length_pos_iff.2 h
  simp only [List.length_dropLast]; omega
theorem trimL_nil : trimL [] = [] := by rw [trimL]; simp
theorem trimL_zero (l : List Nat) : trimL (l ++ [0]) = trimL l := by rw [trimL]; simp
theorem trimL_ne {l : List Nat} {x : Nat} (h : x ≠ 0) : trimL (l ++ [x]) = l ++ [x] := by rw [trimL]; simp [h]
def Top (l : List Nat) : Prop := ∀ h : l ≠ [], l.getLast h ≠ 0
theorem val_app (a b : List Nat) : val (a ++ b) = val a + 1000000000 ^ a.length * val b := by
  induction a with
  | nil => simp [val]
  | cons x a ih => simp only [List.cons_append, val, ih, List.length_cons, Nat.pow_succ]; rw [Nat.mul_add, ← Nat.add_assoc, ← Nat.mul_assoc, Nat.mul_comm 1000000000 (1000000000 ^ _)]
theorem snoc_ind {p : List Nat → Prop} (h0 : p []) (h1 : ∀ l x, p l → p (l ++ [x])) (l : List Nat) : p l := by
  have : ∀ n (l : List Nat), l.length = n → p l := by
    intro n
    induction n with
    | zero => intro l hl; rw [List.eq_nil_of_length_eq_zero hl]; exact h0
    | succ n ih =>
      intro l hl
      have hne : l ≠ [] := fun e => by subst e; simp at hl
      rw [← List.dropLast_concat_getLast hne]
      exact h1 _ _ (ih _ (by simp [hl]))
  exact this _ l rfl
theorem trimL_spec (l : List Nat) : val (trimL l) = val l ∧ Top (trimL l) ∧ (Lim l → Lim (trimL l)) := by
  induction l using snoc_ind with
  | h0 => rw [trimL_nil]; exact ⟨rfl, fun h => absurd rfl h, id⟩
  | h1 l x ih =>
    by_cases h : x = 0
    · subst h
      rw [trimL_zero]
      refine ⟨by rw [ih.1, val_app]; simp [val], ih.2.1, fun hl => ih.2.2 fun y hy => hl y (List.mem_append_left _ hy)⟩
    · rw [trimL_ne h]
      exact ⟨rfl, fun _ => by simpa using h, id⟩
theorem val_lt {l : List Nat} (h : Lim l) : val l < 1000000000 ^ l.length := by
  induction l with
  | nil => simp [val]
  | cons x l ih =>
    have h1 := ih fun y hy => h y (List.mem_cons_of_mem _ hy)
    have h2 := h x List.mem_cons_self
    simp only [val, List.length_cons, Nat.pow_succ]
    have : 1000000000 * val l + 1000000000 ≤ 1000000000 * 1000000000 ^ l.length := by rw [← Nat.mul_succ]; exact Nat.mul_le_mul_left _ h1
    rw [Nat.mul_comm (1000000000 ^ _)]
    omega
theorem top_ge {l : List Nat} (ht : Top l) (hne : l ≠ []) : 1000000000 ^ (l.length - 1) ≤ val l := by
  have h1 := ht hne
  have h2 := List.dropLast_concat_getLast hne
  rw [← h2, val_app]
  simp only [List.length_append, List.length_dropLast, List.length_cons, List.length_nil, val, Nat.mul_zero, Nat.add_zero]
  have : 1000000000 ^ (l.length - 1) * 1 ≤ 1000000000 ^ (l.length - 1) * l.getLast hne := Nat.mul_le_mul_left _ (by omega)
  rw [show l.length - 1 + 1 - 1 = l.length - 1 by omega]
  omega
theorem top_zero {l : List Nat} (ht : Top l) : val l = 0 ↔ l = [] := by
  constructor
  · intro h
    rcases Classical.em (l = []) with e | e
    · exact e
    · have := top_ge ht e
      have hp : 0 < 1000000000 ^ (l.length - 1) := Nat.pow_pos (by omega)
      omega
  · rintro rfl; rfl
def plusL : List Nat → List Nat → Nat → List Nat
  | [], [], c => [c]
  | a :: x, [], c => (c + a) % 1000000000 :: plusL x [] ((c + a) / 1000000000)
  | [], b :: y, c => (c + b) % 1000000000 :: plusL [] y ((c + b) / 1000000000)
  | a :: x, b :: y, c => (c + a + b) % 1000000000 :: plusL x y ((c + a + b) / 1000000000)
theorem plusL_val : ∀ (x y : List Nat) (c : Nat), val (plusL x y c) = val x + val y + c
  | [], [], c => by simp [plusL, val]
  | a :: x, [], c => by
    have := plusL_val x [] ((c + a) / 1000000000)
    simp only [plusL, val, this]
    have := Nat.mod_add_div (c + a) 1000000000
    rw [Nat.mul_add, Nat.mul_add]; omega
  | [], b :: y, c => by
    have := plusL_val [] y ((c + b) / 1000000000)
    simp only [plusL, val, this]
    have := Nat.mod_add_div (c + b) 1000000000
    rw [Nat.mul_add, Nat.mul_add]; omega
  | a :: x, b :: y, c => by
    have := plusL_val x y ((c + a + b) / 1000000000)
    simp only [plusL, val, this]
    have := Nat.mod_add_div (c + a + b) 1000000000
    rw [Nat.mul_add, Nat.mul_add]; omega
theorem plusL_lim : ∀ (x y : List Nat) (c : Nat), Lim x → Lim y → c ≤ 1 → Lim (plusL x y c)
  | [], [], c, _, _, hc => by intro u hu; simp only [plusL, List.mem_singleton] at hu; subst hu; omega
  | a :: x, [], c, hx, hy, hc => by
    have ha := hx a List.mem_cons_self
    have := plusL_lim x [] ((c + a) / 1000000000) (fun u hu => hx u (List.mem_cons_of_mem _ hu)) hy (by omega)
    intro u hu
    simp only [plusL] at hu
    rcases List.mem_cons.1 hu with rfl | hu
    · exact Nat.mod_lt _ (by omega)
    · exact this u hu
  | [], b :: y, c, hx, hy, hc => by
    have ha := hy b List.mem_cons_self
    have := plusL_lim [] y ((c + b) / 1000000000) hx (fun u hu => hy u (List.mem_cons_of_mem _ hu)) (by omega)
    intro u hu
    simp only [plusL] at hu
    rcases List.mem_cons.1 hu with rfl | hu
    · exact Nat.mod_lt _ (by omega)
    · exact this u hu
  | a :: x, b :: y, c, hx, hy, hc => by
    have ha := hx a List.mem_cons_self
    have hb := hy b List.mem_cons_self
    have := plusL_lim x y ((c + a + b) / 1000000000) (fun u hu => hx u (List.mem_cons_of_mem _ hu)) (fun u hu => hy u (List.mem_cons_of_mem _ hu)) (by omega)
    intro u hu
    simp only [plusL] at hu
    rcases List.mem_cons.1 hu with rfl | hu
    · exact Nat.mod_lt _ (by omega)
    · exact this u hu
def minusL : List Nat → List Nat → Nat → List Nat
  | [], _, _ => []
  | a :: x, y, c =>
    let t := c + y.headD 0
    if a < t then (a + 1000000000 - t) :: minusL x y.tail 1 else (a - t) :: minusL x y.tail 0
theorem val_tail (y : List Nat) : val y = y.headD 0 + 1000000000 * val y.tail := by cases y <;> simp [val]
theorem minusL_val : ∀ (x y : List Nat) (c : Nat), Lim x → Lim y → c ≤ 1 → val y + c ≤ val x → y.length ≤ x.length → val (minusL x y c) = val x - val y - c ∧ Lim (minusL x y c)
  | [], y, c, _, _, _, h, _ => by simp [val] at h; simp [minusL, val, Lim]
  | a :: x, y, c, hx, hy, hc, h, hl => by
    have ha := hx a List.mem_cons_self
    have hx' : Lim x := fun u hu => hx u (List.mem_cons_of_mem _ hu)
    have hy' : Lim y.tail := fun u hu => hy u (List.mem_of_mem_tail hu)
    have hb : y.headD 0 < 1000000000 := by cases y with
      | nil => simp
      | cons b y => exact hy b List.mem_cons_self
    have hl' : y.tail.length ≤ x.length := by simp only [List.length_tail, List.length_cons] at hl ⊢; omega
    rw [val_tail y] at h ⊢
    simp only [val] at h ⊢
    simp only [minusL]
    by_cases hlt : a < c + y.headD 0
    · rw [if_pos hlt]
      have h1 : val y.tail + 1 ≤ val x := by
        rcases Nat.lt_or_ge (val y.tail) (val x) with h1 | h1
        · exact h1
        · have := Nat.mul_le_mul_left 1000000000 h1
          omega
      obtain ⟨h2, h3⟩ := minusL_val x y.tail 1 hx' hy' (by omega) h1 hl'
      refine ⟨?_, fun u hu => ?_⟩
      · simp only [val, h2]
        have : 1000000000 * (val x - val y.tail - 1) = 1000000000 * val x - 1000000000 * val y.tail - 1000000000 := by rw [Nat.mul_sub, Nat.mul_sub, Nat.mul_one]
        rw [this]
        have := Nat.mul_le_mul_left 1000000000 h1
        rw [Nat.mul_add] at this
        omega
      · rcases List.mem_cons.1 hu with rfl | hu
        · omega
        · exact h3 u hu
    · rw [if_neg hlt]
      have h1 : val y.tail + 0 ≤ val x := by
        rcases Nat.lt_or_ge (val x) (val y.tail) with h1 | h1
        · have := Nat.mul_le_mul_left 1000000000 (Nat.succ_le_of_lt h1)
          rw [Nat.mul_succ] at this
          omega
        · omega
      obtain ⟨h2, h3⟩ := minusL_val x y.tail 0 hx' hy' (by omega) h1 hl'
      refine ⟨?_, fun u hu => ?_⟩
      · simp only [val, h2, Nat.sub_zero]
        rw [Nat.mul_sub]
        have := Nat.mul_le_mul_left 1000000000 h1
        rw [Nat.add_zero] at this
        omega
      · rcases List.mem_cons.1 hu with rfl | hu
        · omega
        · exact h3 u hu
def cmpN (a b : Nat) : Int := if a < b then -1 else if b < a then 1 else 0
theorem cmpN_cases (a b : Nat) : (a < b ∧ cmpN a b = -1) ∨ (a = b ∧ cmpN a b = 0) ∨ (b < a ∧ cmpN a b = 1) := by
  unfold cmpN
  rcases Nat.lt_trichotomy a b with h | h | h
  · exact .inl ⟨h, if_pos h⟩
  · exact .inr (.inl ⟨h, by subst h; simp⟩)
  · exact .inr (.inr ⟨h, by rw [if_neg (Nat.not_lt.2 (Nat.le_of_lt h)), if_pos h]⟩)
def sizeR : List (Nat × Nat) → Int
  | [] => 0
  | (a, b) :: r => if cmpN a b ≠ 0 then cmpN a b else sizeR r
def sizeL (x y : List Nat) : Int := if cmpN x.length y.length ≠ 0 then cmpN x.length y.length else sizeR (x.zip y).reverse
theorem sizeR_app (a b : List (Nat × Nat)) : sizeR (a ++ b) = if sizeR a ≠ 0 then sizeR a else sizeR b := by
  induction a with
  | nil => simp [sizeR]
  | cons p a ih =>
    obtain ⟨u, v⟩ := p
    simp only [List.cons_append, sizeR, ih]
    by_cases h : cmpN u v ≠ 0
    · simp [h]
    · simp [h]
theorem sizeR_val : ∀ (x y : List Nat), Lim x → Lim y → x.length = y.length → sizeR (x.zip y).reverse = cmpN (val x) (val y)
  | [], [], _, _, _ => by simp [sizeR, cmpN]
  | [], _ :: _, _, _, h => by simp at h
  | _ :: _, [], _, _, h => by simp at h
  | a :: x, b :: y, hx, hy, h => by
    simp only [List.length_cons, Nat.add_right_cancel_iff] at h
    have ha := hx a List.mem_cons_self
    have hb := hy b List.mem_cons_self
    have ih := sizeR_val x y (fun u hu => hx u (List.mem_cons_of_mem _ hu)) (fun u hu => hy u (List.mem_cons_of_mem _ hu)) h
    simp only [List.zip_cons_cons, List.reverse_cons, sizeR_app, ih, sizeR, val]
    rcases cmpN_cases (val x) (val y) with ⟨h1, e1⟩ | ⟨h1, e1⟩ | ⟨h1, e1⟩
    · have := Nat.mul_le_mul_left 1000000000 (Nat.succ_le_of_lt h1)
      rcases cmpN_cases (a + 1000000000 * val x) (b + 1000000000 * val y) with ⟨h2, e2⟩ | ⟨h2, e2⟩ | ⟨h2, e2⟩
      · rw [e1, e2]; rfl
      · omega
      · omega
    · rw [e1, h1]
      rcases cmpN_cases a b with ⟨h2, e2⟩ | ⟨h2, e2⟩ | ⟨h2, e2⟩
      · rcases cmpN_cases (a + 1000000000 * val y) (b + 1000000000 * val y) with ⟨h3, e3⟩ | ⟨h3, e3⟩ | ⟨h3, e3⟩
        · rw [e2, e3]; rfl
        · omega
        · omega
      · subst h2
        rcases cmpN_cases (a + 1000000000 * val y) (a + 1000000000 * val y) with ⟨h3, e3⟩ | ⟨h3, e3⟩ | ⟨h3, e3⟩
        · omega
        · rw [e2, e3]; rfl
        · omega
      · rcases cmpN_cases (a + 1000000000 * val y) (b + 1000000000 * val y) with ⟨h3, e3⟩ | ⟨h3, e3⟩ | ⟨h3, e3⟩
        · omega
        · omega
        · rw [e2, e3]; rfl
    · have := Nat.mul_le_mul_left 1000000000 (Nat.succ_le_of_lt h1)
      rcases cmpN_cases (a + 1000000000 * val x) (b + 1000000000 * val y) with ⟨h2, e2⟩ | ⟨h2, e2⟩ | ⟨h2, e2⟩
      · omega
      · omega
      · rw [e1, e2]; rfl
theorem sizeL_val {x y : List Nat} (hx : Lim x) (hy : Lim y) (tx : Top x) (ty : Top y) : sizeL x y = cmpN (val x) (val y) := by
  unfold sizeL
  have key : ∀ {x y : List Nat}, Lim x → Top y → x.length < y.length → val x < val y := by
    intro x y hx ty h
    have hne : y ≠ [] := fun e => by subst e; simp at h
    have h1 := top_ge ty hne
    have h2 := val_lt hx
    have h3 := Nat.pow_le_pow_right (n := 1000000000) (by omega) (show x.length ≤ y.length - 1 by omega)
    omega
  rcases cmpN_cases x.length y.length with ⟨h, e⟩ | ⟨h, e⟩ | ⟨h, e⟩
  · have h2 := key hx ty h
    rcases cmpN_cases (val x) (val y) with ⟨h3, e3⟩ | ⟨h3, e3⟩ | ⟨h3, e3⟩
    · rw [e, e3]; rfl
    · omega
    · omega
  · rw [e, if_neg (by simp)]
    exact sizeR_val x y hx hy h
  · have h2 := key hy tx h
    rcases cmpN_cases (val x) (val y) with ⟨h3, e3⟩ | ⟨h3, e3⟩ | ⟨h3, e3⟩
    · omega
    · omega
    · rw [e, e3]; rfl
structure Big where
  below : Bool
  l : List Nat
def Big.trim (x : Big) : Big := ⟨x.below && !(trimL x.l).isEmpty, trimL x.l⟩
def Big.int (x : Big) : Int := if x.below then -(val x.l : Int) else val x.l
structure Big.Ok (x : Big) : Prop where
  lim : Lim x.l
  top : Top x.l
  sign : x.l = [] → x.below = false
theorem trim_ok {x : Big} (h : Lim x.l) : x.trim.Ok := ⟨(trimL_spec x.l).2.2 h, (trimL_spec x.l).2.1, fun e => by simp only [Big.trim] at e ⊢; simp [e]⟩
theorem trim_int (x : Big) : x.trim.int = x.int := by
  unfold Big.int Big.trim
  have h := (trimL_spec x.l).1
  have h2 := top_zero (trimL_spec x.l).2.1
  simp only [h]
  cases hb : x.below with
  | false => simp
  | true =>
    cases he : trimL x.l with
    | nil => have : val x.l = 0 := by rw [← h, he]; rfl
             simp [this]
    | cons _ _ => simp
def readB (a : Str) : Big := (⟨neg a, limbs (dig a)⟩ : Big).trim
def turnB (x : Big) : Big := (⟨!x.below, x.l⟩ : Big).trim
def sumB (x y : Big) : Big :=
  if x.below = y.below then (⟨x.below, plusL x.l y.l 0⟩ : Big).trim
  else if 0 ≤ sizeL x.l y.l then (⟨x.below, minusL x.l y.l 0⟩ : Big).trim
  else (⟨y.below, minusL y.l x.l 0⟩ : Big).trim
def cmpS (a b : Str) : Int := if goodN a && goodN b then (let d := sumB (readB a) (turnB (readB b)); if d.l = [] then 0 else if d.below then -1 else 1) else 0
def num (a : Str) : Int := if neg a then -(dec (dig a) : Int) else dec (dig a)
theorem val_len {x y : List Nat} (hx : Lim x) (ty : Top y) (h : val y ≤ val x) : y.length ≤ x.length := by
  rcases Nat.lt_or_ge x.length y.length with hl | hl
  · have hne : y ≠ [] := fun e => by subst e; simp at hl
    have h1 := top_ge ty hne
    have h2 := val_lt hx
    have h3 := Nat.pow_le_pow_right (n := 1000000000) (by omega) (show x.length ≤ y.length - 1 by omega)
    omega
  · exact hl
theorem sum_spec {x y : Big} (hx : x.Ok) (hy : y.Ok) : (sumB x y).int = x.int + y.int ∧ (sumB x y).Ok := by
  unfold sumB
  have hs := sizeL_val hx.lim hy.lim hx.top hy.top
  by_cases h : x.below = y.below
  · rw [if_pos h]
    refine ⟨?_, trim_ok (plusL_lim _ _ _ hx.lim hy.lim (by omega))⟩
    rw [trim_int]
    unfold Big.int
    rw [plusL_val, ← h]
    cases x.below <;> simp; omega
  · rw [if_neg h, hs]
    by_cases hc : val y.l ≤ val x.l
    · have : 0 ≤ cmpN (val x.l) (val y.l) := by unfold cmpN; rw [if_neg (by omega)]; split <;> omega
      rw [if_pos this]
      obtain ⟨h1, h2⟩ := minusL_val x.l y.l 0 hx.lim hy.lim (by omega) (by omega) (val_len hx.lim hy.top hc)
      refine ⟨?_, trim_ok h2⟩
      rw [trim_int]
      unfold Big.int
      rw [h1]
      cases hxb : x.below <;> cases hyb : y.below <;> simp_all <;> omega
    · have : ¬ 0 ≤ cmpN (val x.l) (val y.l) := by unfold cmpN; rw [if_pos (by omega)]; omega
      rw [if_neg this]
      obtain ⟨h1, h2⟩ := minusL_val y.l x.l 0 hy.lim hx.lim (by omega) (by omega) (val_len hy.lim hx.top (by omega))
      refine ⟨?_, trim_ok h2⟩
      rw [trim_int]
      unfold Big.int
      rw [h1]
      cases hxb : x.below <;> cases hyb : y.below <;> simp_all <;> omega
theorem goodN_out {a : Str} (h : goodN a = true) : 1 ≤ (dig a).length ∧ (dig a).length ≤ 100 ∧ ((dig a).head? = some 48 → a = [48]) ∧ (dig a).all isDig = true := by
  simp only [goodN, Bool.and_eq_true, Bool.or_eq_true, decide_eq_true_eq, Bool.not_eq_true', beq_eq_false_iff_ne, ne_eq] at h
  obtain ⟨⟨⟨h1, h2⟩, h3⟩, h4⟩ := h
  exact ⟨h1, h2, fun e => h3.resolve_left (fun h => h e), h4⟩
theorem read_spec {a : Str} (h : goodN a = true) : (readB a).int = num a ∧ (readB a).Ok := by
  obtain ⟨_, _, _, h4⟩ := goodN_out h
  obtain ⟨h5, h6⟩ := limbs_val _ (dig a) (Nat.le_refl _) h4
  refine ⟨?_, trim_ok h6⟩
  unfold readB
  rw [trim_int]
  unfold Big.int num
  rw [h5]
theorem turn_spec {x : Big} (h : x.Ok) : (turnB x).int = -x.int ∧ (turnB x).Ok := by
  refine ⟨?_, trim_ok h.lim⟩
  unfold turnB
  rw [trim_int]
  unfold Big.int
  cases x.below <;> simp
theorem cmpS_num {a b : Str} (ha : goodN a = true) (hb : goodN b = true) : cmpS a b = if num a = num b then 0 else if num a < num b then -1 else 1 := by
  unfold cmpS
  rw [ha, hb]
  obtain ⟨ra, oa⟩ := read_spec ha
  obtain ⟨rb, ob⟩ := read_spec hb
  obtain ⟨rt, ot⟩ := turn_spec ob
  obtain ⟨rs, os⟩ := sum_spec oa ot
  simp only [Bool.and_self, if_true]
  generalize sumB (readB a) (turnB (readB b)) = d at *
  rw [ra, rt, rb] at rs
  have hz := top_zero os.top
  unfold Big.int at rs
  by_cases hd : d.l = []
  · rw [if_pos hd]
    have : val d.l = 0 := hz.2 hd
    rw [this] at rs
    rw [if_pos (by split at rs <;> omega)]
  · rw [if_neg hd]
    have : val d.l ≠ 0 := fun e => hd (hz.1 e)
    cases hdb : d.below with
    | true => rw [hdb] at rs; simp only [if_true] at rs ⊢; rw [if_neg (by omega), if_pos (by omega)]
    | false => rw [hdb] at rs; simp only [Bool.false_eq_true, if_false] at rs ⊢; rw [if_neg (by omega), if_neg (by omega)]
theorem num_inj {a b : Str} (ha : goodN a = true) (hb : goodN b = true) (h : num a = num b) : a = b := by
  obtain ⟨a1, _, a3, a4⟩ := goodN_out ha
  obtain ⟨b1, _, b3, b4⟩ := goodN_out hb
  have hdig : ∀ {a : Str}, neg a = true → a = 45 :: dig a := by
    intro a h
    cases a with
    | nil => simp [neg] at h
    | cons c d => simp only [neg, List.head?_cons, beq_iff_eq, Option.some.injEq] at h; subst h; simp [dig]
  have hdig0 : ∀ {a : Str}, neg a = false → dig a = a := by
    intro a h
    cases a with
    | nil => rfl
    | cons c d =>
      have : c ≠ 45 := fun e => by subst e; simp [neg] at h
      simp [dig, this]
  have hn48 : neg [48] = false := by decide
  have hd48 : dig [48] = [48] := by decide
  have key : dec (dig a) = dec (dig b) → dig a = dig b := dec_inj a4 b4 (fun e => by rw [a3 e, hd48]) (fun e => by rw [b3 e, hd48]) (fun e => by rw [e] at a1; simp at a1) (fun e => by rw [e] at b1; simp at b1)
  have hpos : ∀ {a : Str}, goodN a = true → neg a = true → 0 < dec (dig a) := by
    intro a ha hn
    obtain ⟨h1, _, h3, h4⟩ := goodN_out ha
    cases hd : dig a with
    | nil => rw [hd] at h1; simp at h1
    | cons c d =>
      have hc : c ≠ 48 := fun e => by
        have := h3 (by rw [hd, e]; rfl)
        rw [this, hn48] at hn; cases hn
      rw [hd] at h4
      simp only [List.all_cons, Bool.and_eq_true] at h4
      have := dec_ge (d := d) h4.1 hc
      have hp : 0 < 10 ^ d.length := Nat.pow_pos (by omega)
      omega
  unfold num at h
  cases hna : neg a with
  | true =>
    cases hnb : neg b with
    | true =>
      rw [hna, hnb] at h
      simp only [if_true] at h
      rw [hdig hna, hdig hnb, key (by omega)]
    | false =>
      rw [hna, hnb] at h
      have := hpos ha hna
      simp at h; omega
  | false =>
    cases hnb : neg b with
    | true =>
      rw [hna, hnb] at h
      have := hpos hb hnb
      simp at h; omega
    | false =>
      rw [hna, hnb] at h
      simp only [Bool.false_eq_true, if_false] at h
      have := key (by omega)
      rwa [hdig0 hna, hdig0 hnb] at this
theorem cmpS_zero {a b : Str} (ha : goodN a = true) (hb : goodN b = true) : cmpS a b = 0 ↔ a = b := by
  rw [cmpS_num ha hb]
  constructor
  · intro h
    by_cases he : num a = num b
    · exact num_inj ha hb he
    · rw [if_neg he] at h; split at h <;> omega
  · rintro rfl; simp
end Go.Num
namespace Go.Eng
open Go Go.Num
mutual
def knownM : JV → Bool
  | .mk k _ _ xs _ => !decide (k = 1) && knownL xs
def knownL : List JV → Bool
  | [] => true
  | x :: xs => knownM x && knownL xs
end
mutual
def sizeM : JV → Int
  | .mk _ _ _ xs _ => sizeLM xs 1
def sizeLM : List JV → Int → Int
  | [], n => n
  | x :: xs, n => if n ≤ 2000 then sizeLM xs (IntKind.i64.wrap (n + sizeM x)) else n
end
mutual
def deepM : JV → Nat → Bool
  | .mk _ _ _ xs _, m => match m with | 0 => false | m + 1 => deepL xs m
def deepL : List JV → Nat → Bool
  | [], _ => true
  | x :: xs, m => deepM x m && deepL xs m
end
def keysOk : List Str → Bool
  | [] => true
  | [a] => decide (a.length ≤ 16384)
  | a :: b :: r => decide (a.length ≤ 16384) && Op.bytesLess a b && keysOk (b :: r)
def headOk (k : Int) (b : Bool) (t : Str) (n : Nat) (ks : List Str) : Bool :=
  decide (0 ≤ k) && decide (k ≤ 6) && (!b || decide (k = 2)) && (decide (t = []) || decide (k = 3) || decide (k = 4)) && (decide (n = 0) || decide (5 ≤ k)) && (decide (k = 6) || decide (ks = [])) &&
    (!decide (k = 3) || goodN t) && (!decide (k = 4) || decide (t.length ≤ 16384)) && (!decide (k = 6) || decide (ks.length = n)) && keysOk ks
mutual
def plainM : JV → Bool
  | .mk k b t xs ks => headOk k b t xs.length ks && plainL xs
def plainL : List JV → Bool
  | [] => true
  | x :: xs => plainM x && plainL xs
end
def goodM (v : JV) : Bool := decide (sizeM v ≤ 2000) && deepM v 24 && plainM v
mutual
def sameM : JV → JV → Bool
  | .mk k b t xs ks, .mk k' b' t' xs' ks' => decide (k = k') && decide (b = b') && decide (t = t') && decide (ks = ks') && sameL xs xs'
def sameL : List JV → List JV → Bool
  | [], [] => true
  | x :: xs, y :: ys => sameM x y && sameL xs ys
  | _, _ => false
end
mutual
theorem same_iff : ∀ (a b : JV), sameM a b = true ↔ a = b
  | .mk k b t xs ks, .mk k' b' t' xs' ks' => by
    have := sameL_iff xs xs'
    simp only [sameM, Bool.and_eq_true, decide_eq_true_eq, this, JV.mk.injEq]
    constructor
    · rintro ⟨⟨⟨⟨h1, h2⟩, h3⟩, h4⟩, h5⟩; exact ⟨h1, h2, h3, h5, h4⟩
    · rintro ⟨h1, h2, h3, h5, h4⟩; exact ⟨⟨⟨⟨h1, h2⟩, h3⟩, h4⟩, h5⟩
theorem sameL_iff : ∀ (a b : List JV), sameL a b = true ↔ a = b
  | [], [] => by simp [sameL]
  | [], _ :: _ => by simp [sameL]
  | _ :: _, [] => by simp [sameL]
  | x :: xs, y :: ys => by simp [sameL, same_iff x y, sameL_iff xs ys]
end
theorem sameL_len : ∀ {xs ys : List JV}, xs.length ≠ ys.length → sameL xs ys = false := by
  intro xs ys h
  cases hs : sameL xs ys with
  | false => rfl
  | true => exact absurd (by rw [(sameL_iff _ _).1 hs]) h
def cmpI (a b : Int) : Int := if a < b then -1 else if b < a then 1 else 0
def cmpB (a b : Str) : Int := if Op.bytesLess a b then -1 else if a = b then 0 else 1
def truthI (b : Bool) : Int := if b then 1 else 0
def orI (a b : Int) : Int := if a = 0 then b else a
theorem orI_zero (a b : Int) : orI a b = 0 ↔ a = 0 ∧ b = 0 := by
  unfold orI
  by_cases h : a = 0
  · rw [if_pos h]; simp [h]
  · rw [if_neg h]; simp [h]
def cmpKs : List Str → List Str → Int
  | [], [] => 0
  | [], _ :: _ => -1
  | _ :: _, [] => 1
  | a :: r, b :: s => orI (cmpB a b) (cmpKs r s)
mutual
def cmpM : JV → JV → Int
  | .mk k b t xs ks, v =>
    orI (cmpI k v.k) (if k = 2 then cmpI (truthI b) (truthI v.b)
    else if k = 3 then cmpS t v.t
    else if k = 4 then cmpB t v.t
    else orI (cmpKs ks v.ks) (cmpL xs v.xs))
def cmpL : List JV → List JV → Int
  | [], [] => 0
  | [], _ :: _ => -1
  | _ :: _, [] => 1
  | x :: xs, y :: ys => orI (cmpM x y) (cmpL xs ys)
end
theorem less_irr (a : Str) : Op.bytesLess a a = false := by
  induction a with
  | nil => rfl
  | cons x a ih => simp [Op.bytesLess, ih]
theorem cmpI_zero (a b : Int) : cmpI a b = 0 ↔ a = b := by
  unfold cmpI
  constructor
  · intro h; split at h
    · omega
    · split at h <;> omega
  · rintro rfl; simp
theorem cmpB_zero (a b : Str) : cmpB a b = 0 ↔ a = b := by
  unfold cmpB
  constructor
  · intro h
    split at h
    · omega
    · split at h
      · assumption
      · omega
  · rintro rfl; simp [less_irr]
theorem cmpKs_zero : ∀ (a b : List Str), cmpKs a b = 0 ↔ a = b
  | [], [] => by simp [cmpKs]
  | [], _ :: _ => by simp [cmpKs]
  | _ :: _, [] => by simp [cmpKs]
  | a :: r, b :: s => by
    simp only [cmpKs, orI_zero, List.cons.injEq, cmpB_zero, cmpKs_zero r s]
theorem truth_inj {a b : Bool} : truthI a = truthI b ↔ a = b := by cases a <;> cases b <;> simp [truthI]
theorem headOk_out {k : Int} {b : Bool} {t : Str} {n : Nat} {ks : List Str} (h : headOk k b t n ks = true) :
    0 ≤ k ∧ k ≤ 6 ∧ (b = true → k = 2) ∧ (t ≠ [] → k = 3 ∨ k = 4) ∧ (n ≠ 0 → 5 ≤ k) ∧ (ks ≠ [] → k = 6) ∧ (k = 3 → goodN t = true) ∧ (k = 4 → t.length ≤ 16384) ∧ (k = 6 → ks.length = n) ∧ keysOk ks = true := by
  simp only [headOk, Bool.and_eq_true, Bool.or_eq_true, decide_eq_true_eq, Bool.not_eq_true', decide_eq_false_iff_not] at h
  obtain ⟨⟨⟨⟨⟨⟨⟨⟨⟨h1, h2⟩, h3⟩, h4⟩, h5⟩, h6⟩, h7⟩, h8⟩, h9⟩, h10⟩ := h
  refine ⟨h1, h2, fun e => ?_, fun e => ?_, fun e => ?_, fun e => ?_, fun e => ?_, fun e => ?_, fun e => ?_, h10⟩
  · rcases h3 with h3 | h3
    · rw [e] at h3; cases h3
    · exact h3
  · rcases h4 with (h4 | h4) | h4
    · exact absurd h4 e
    · exact .inl h4
    · exact .inr h4
  · exact h5.resolve_left e
  · exact h6.resolve_right e
  · exact h7.resolve_left fun h => h e
  · exact h8.resolve_left fun h => h e
  · exact h9.resolve_left fun h => h e
mutual
theorem cmp_zero : ∀ (a b : JV), plainM a = true → plainM b = true → (cmpM a b = 0 ↔ a = b)
  | .mk k b t xs ks, .mk k' b' t' xs' ks', ha, hb => by
    simp only [plainM, Bool.and_eq_true] at ha hb
    have ih := cmpL_zero xs xs' ha.2 hb.2
    obtain ⟨a1, a2, a3, a4, a5, a6, a7, a8, a9, _⟩ := headOk_out ha.1
    obtain ⟨b1, b2, b3, b4, b5, b6, b7, b8, b9, _⟩ := headOk_out hb.1
    simp only [cmpM, JV.k, JV.b, JV.t, JV.ks, JV.xs, JV.mk.injEq]
    rw [orI_zero, cmpI_zero]
    refine and_congr_right fun hk => ?_
    subst hk
    have hnil : ∀ {xs : List JV}, (xs.length ≠ 0 → 5 ≤ k) → ¬ 5 ≤ k → xs = [] := fun {xs} h h5 => List.eq_nil_of_length_eq_zero (Decidable.byContradiction fun e => h5 (h e))
    have hbf : ∀ {b : Bool}, (b = true → k = 2) → k ≠ 2 → b = false := fun {b} h h2 => by cases b with | false => rfl | true => exact absurd (h rfl) h2
    have hks : ∀ {ks : List Str}, (ks ≠ [] → k = 6) → k ≠ 6 → ks = [] := fun {ks} h h2 => Decidable.byContradiction fun e => h2 (h e)
    have hts : ∀ {t : Str}, (t ≠ [] → k = 3 ∨ k = 4) → ¬ (k = 3 ∨ k = 4) → t = [] := fun {t} h h2 => Decidable.byContradiction fun e => h2 (h e)
    by_cases h2 : k = 2
    · rw [if_pos h2, cmpI_zero, truth_inj, hnil a5 (by omega), hnil b5 (by omega), hks a6 (by omega), hks b6 (by omega), hts a4 (by omega), hts b4 (by omega)]; simp
    · rw [if_neg h2, hbf a3 h2, hbf b3 h2]
      by_cases h3 : k = 3
      · rw [if_pos h3, cmpS_zero (a7 h3) (b7 h3), hnil a5 (by omega), hnil b5 (by omega), hks a6 (by omega), hks b6 (by omega)]; simp
      · rw [if_neg h3]
        by_cases h4 : k = 4
        · rw [if_pos h4, cmpB_zero, hnil a5 (by omega), hnil b5 (by omega), hks a6 (by omega), hks b6 (by omega)]; simp
        · rw [if_neg h4, hts a4 (by omega), hts b4 (by omega), orI_zero, cmpKs_zero, ih]
          simp [and_comm]
theorem cmpL_zero : ∀ (a b : List JV), plainL a = true → plainL b = true → (cmpL a b = 0 ↔ a = b)
  | [], [], _, _ => by simp [cmpL]
  | [], _ :: _, _, _ => by simp [cmpL]
  | _ :: _, [], _, _ => by simp [cmpL]
  | x :: xs, y :: ys, ha, hb => by
    simp only [plainL, Bool.and_eq_true] at ha hb
    have h1 := cmp_zero x y ha.1 hb.1
    have h2 := cmpL_zero xs ys ha.2 hb.2
    simp only [cmpL, orI_zero, List.cons.injEq, h1, h2]
end
theorem JV.ind' {p : JV → Prop} (h : ∀ v, (∀ x ∈ v.xs, p x) → p v) (v : JV) : p v := JV.ind (fun k b t xs ks ih => h (.mk k b t xs ks) ih) v
theorem knownM_eq (v : JV) : knownM v = (!decide (v.k = 1) && knownL v.xs) := by cases v; rfl
theorem sizeM_eq (v : JV) : sizeM v = sizeLM v.xs 1 := by cases v; rfl
theorem deepM_zero (v : JV) : deepM v 0 = false := by cases v; rfl
theorem deepM_succ (v : JV) (m : Nat) : deepM v (m + 1) = deepL v.xs m := by cases v; rfl
theorem plainM_eq (v : JV) : plainM v = (headOk v.k v.b v.t v.xs.length v.ks && plainL v.xs) := by cases v; rfl
theorem sameM_eq (a b : JV) : sameM a b = (decide (a.k = b.k) && decide (a.b = b.b) && decide (a.t = b.t) && decide (a.ks = b.ks) && sameL a.xs b.xs) := by cases a; cases b; rfl
theorem cmpM_eq (a v : JV) : cmpM a v = orI (cmpI a.k v.k) (if a.k = 2 then cmpI (truthI a.b) (truthI v.b) else if a.k = 3 then cmpS a.t v.t else if a.k = 4 then cmpB a.t v.t else orI (cmpKs a.ks v.ks) (cmpL a.xs v.xs)) := by cases a; rfl
theorem knownL_all (xs : List JV) : knownL xs = xs.all knownM := by
  induction xs with
  | nil => rfl
  | cons x xs ih => simp [knownL, ih]
theorem deepL_all (xs : List JV) (m : Nat) : deepL xs m = xs.all (deepM · m) := by
  induction xs with
  | nil => rfl
  | cons x xs ih => simp [deepL, ih]
theorem plainL_all (xs : List JV) : plainL xs = xs.all plainM := by
  induction xs with
  | nil => rfl
  | cons x xs ih => simp [plainL, ih]
theorem all_take {α : Type} {p : α → Bool} {xs : List α} {i : Nat} {x : α} (hi : xs[i]? = some x) : (xs.take (i + 1)).all p = ((xs.take i).all p && p x) := by
  rw [List.take_add_one, hi]; simp
theorem all_no {α : Type} {p : α → Bool} {xs : List α} {i : Nat} {x : α} (hi : xs[i]? = some x) (h : p x = false) : xs.all p = false := by
  rw [List.all_eq_false]; exact ⟨x, List.mem_of_getElem? hi, by simp [h]⟩
theorem sizeLM_app (xs ys : List JV) (n : Int) (h : sizeLM xs n ≤ 2000) : sizeLM (xs ++ ys) n = sizeLM ys (sizeLM xs n) := by
  induction xs generalizing n with
  | nil => rfl
  | cons x xs ih =>
    simp only [List.cons_append, sizeLM] at h ⊢
    split at h
    · rename_i hn; rw [if_pos hn, if_pos hn]; exact ih _ h
    · rename_i hn; exact absurd h hn
theorem sizeLM_stop (xs ys : List JV) (n : Int) (h : ¬ sizeLM xs n ≤ 2000) : sizeLM (xs ++ ys) n = sizeLM xs n := by
  induction xs generalizing n with
  | nil =>
    simp only [sizeLM] at h
    cases ys with
    | nil => rfl
    | cons y ys => simp only [List.nil_append, sizeLM]; rw [if_neg h]
  | cons x xs ih =>
    simp only [List.cons_append, sizeLM] at h ⊢
    split at h
    · rename_i hn; rw [if_pos hn, if_pos hn]; exact ih _ h
    · rename_i hn; rw [if_neg hn, if_neg hn]
def idxK : List Str → Str → Option Nat
  | [], _ => none
  | a :: r, k => if a = k then some 0 else (idxK r k).map (· + 1)
theorem idxK_hit {ks : List Str} {k : Str} {i : Nat} (h : idxK (ks.take i) k = none) (hi : ks[i]? = some k) : idxK ks k = some i := by
  induction ks generalizing i with
  | nil => simp at hi
  | cons a r ih =>
    cases i with
    | zero => simp only [List.getElem?_cons_zero, Option.some.injEq] at hi; simp [idxK, hi]
    | succ i =>
      simp only [List.getElem?_cons_succ] at hi
      simp only [List.take_succ_cons, idxK] at h ⊢
      split at h
      · cases h
      · rename_i hn
        rw [if_neg hn, ih (by simpa using h) hi]; rfl
theorem idxK_miss {ks : List Str} {k x : Str} {i : Nat} (h : idxK (ks.take i) k = none) (hi : ks[i]? = some x) (hx : x ≠ k) : idxK (ks.take (i + 1)) k = none := by
  induction ks generalizing i with
  | nil => simp at hi
  | cons a r ih =>
    cases i with
    | zero => simp only [List.getElem?_cons_zero, Option.some.injEq] at hi; simp [idxK, hi, hx]
    | succ i =>
      simp only [List.getElem?_cons_succ] at hi
      simp only [List.take_succ_cons, idxK] at h ⊢
      split at h
      · cases h
      · rename_i hn
        rw [if_neg hn, ih (by simpa using h) hi]; rfl
theorem idxK_spec {ks : List Str} {k : Str} {i : Nat} (h : idxK ks k = some i) : ks[i]? = some k := by
  induction ks generalizing i with
  | nil => cases h
  | cons a r ih =>
    simp only [idxK] at h
    split at h
    · rename_i e; cases h; simp [e]
    · rw [Option.map_eq_some_iff] at h
      obtain ⟨j, hj, rfl⟩ := h
      simpa using ih hj
theorem idxK_none {ks : List Str} {k : Str} : idxK ks k = none ↔ k ∉ ks := by
  induction ks with
  | nil => simp [idxK]
  | cons a r ih =>
    simp only [idxK, List.mem_cons, not_or]
    split
    · rename_i e; simp [e]
    · rename_i e; simp only [Option.map_eq_none_iff, ih]
      exact ⟨fun h => ⟨fun e' => e e'.symm, h⟩, fun h => h.2⟩
def idxI (ks : List Str) (k : Str) : Int := match idxK ks k with | some i => i | none => -1
def getM (v : JV) (k : Str) : Option JV := if v.k = 6 then (match idxK v.ks k with | some i => v.xs[i]? | none => none) else none
def dropP (l : List (Str × JV)) (k : Str) : List (Str × JV) := l.filter fun p => !decide (p.1 = k)
def mkO (l : List (Str × JV)) : JV := .mk 6 false [] (l.map (·.2)) (l.map (·.1))
def insP : List (Str × JV) → Str → JV → List (Str × JV)
  | [], k, x => [(k, x)]
  | (a, y) :: r, k, x => if Op.bytesLess k a then (k, x) :: (a, y) :: r else (a, y) :: insP r k x
def putM (v : JV) (k : Str) (x : JV) : JV := if v.k = 6 then mkO (insP (dropP (v.ks.zip v.xs) k) k x) else mkO [(k, x)]
theorem take_ne {α : Type} [DecidableEq α] {a b : List α} {i : Nat} {x y : α} (hx : a[i]? = some x) (hy : b[i]? = some y) (h : x ≠ y) : a ≠ b := by
  rintro rfl; rw [hx] at hy; cases hy; exact h rfl
theorem take_eq {α : Type} {a b : List α} {i : Nat} {x : α} (h : a.take i = b.take i) (hx : a[i]? = some x) (hy : b[i]? = some x) : a.take (i + 1) = b.take (i + 1) := by
  rw [List.take_add_one, List.take_add_one, h, hx, hy]
theorem sameL_take {xs ys : List JV} (hl : xs.length = ys.length) {i : Nat} {x y : JV} (hx : xs[i]? = some x) (hy : ys[i]? = some y) (h : sameM x y = false) : sameL xs ys = false := by
  cases hs : sameL xs ys with
  | false => rfl
  | true =>
    have := (sameL_iff _ _).1 hs
    subst this
    rw [hx] at hy
    cases hy
    rw [(same_iff x x).2 rfl] at h; cases h
end Go.Eng
namespace Go.Eng
open Go
theorem append_own3 {P : Program} {t e T : TypeId} {size bytes : Nat} (hT : ElemT P t e size bytes) {w : World} {base : Nat} {v x : Value} {n m : Nat} {xs news : List Value} {ty : TypeId} {K : Value → World → Prop}
    (hown : Own w base e size v n xs) (hx : SlAt w T x m news) (hl : news.length = m * size) (h1 : ∀ u ∈ news, one1 u = true) (hlen : n + m ≤ 4611686018427387904) (hb : (n + m) * bytes ≤ 140737488355328) (hbase : base ≤ w.heap.size)
    (hK : ∀ v' w', Own w' base e size v' (n + m) (xs ++ news) → Chg (fun k => v.ownBlock = some k) w w' → (∀ k, v'.ownBlock = some k → v.ownBlock = some k ∨ w.heap.size ≤ k) → K v' w') :
    semE P (Builtin.append_ #[t, t] ty #[v, x]) w K := by
  obtain ⟨i, z, hi, hz, h2, h3, h4⟩ := hT.get
  have hsame : ∀ {K' : Value → World → Prop}, semE P (Builtin.append_ #[t, t] ty #[v, x]) w K' → ∃ v' w', (Builtin.append_ #[t, t] ty #[v, x]).run P w = .ok v' w' ∧ K' v' w' := by
    intro K' h
    unfold semE at h
    split at h
    · rename_i v' w' hr; exact ⟨v', w', hr, h⟩
    · exact h.elim
  obtain ⟨v1, w1, hr1, hO1, hc1, hn1⟩ := hsame (append_own2 hT hown hx hl h1 hlen hb hbase fun v' w' a b c => (⟨a, b, c⟩ : Own w' base e size v' (n + m) (xs ++ news) ∧ Chg (fun k => v.ownBlock = some k) w w' ∧ (v' = .slice none 0 0 ↔ v = .slice none 0 0 ∧ m = 0)))
  unfold semE
  rw [hr1]
  refine hK v1 w1 hO1 hc1 ?_
  obtain ⟨hl', ⟨rfl, rfl⟩ | ⟨g, cap, cur, rfl, hbg, hg, hnc, hcm, hcs, htake⟩⟩ := hown
  · have hnil : xs = [] := List.eq_nil_of_length_eq_zero (by simpa using hl')
    subst hnil
    obtain ⟨v2, w2, hr2, hO2⟩ := hsame (append_own2 hT (base := w.heap.size) (show Own w w.heap.size e size (.slice none 0 0) 0 [] from ⟨by simp, .inl ⟨rfl, rfl⟩⟩) hx hl h1 hlen hb (Nat.le_refl _) fun v' w' a _ _ => a)
    rw [hr1] at hr2
    cases hr2
    intro k hk
    exact .inr (hO2.block k hk).1
  · obtain ⟨p, c, rfl, _, hpn, hcells⟩ := hx
    cases p with
    | none =>
      obtain ⟨rfl, rfl⟩ := hpn rfl
      intro k hk
      have hn : news = [] := List.eq_nil_of_length_eq_zero (by simpa using hl)
      subst hn
      have hr : (Builtin.append_ #[t, t] ty #[.slice (some ⟨g, 0, none⟩) n cap, .slice none 0 0]).run P w = .ok (.slice (some ⟨g, 0, none⟩) n cap) w := by
        simp [Builtin.append_, run_bind, run_underlying' hT.und, run_sizeOf' (show (P.info? e).isSome = true by rw [hi]; rfl), Builtin.lenOf, run_pure, Builtin.firstCells, hnc, storeCells]
      rw [hr1] at hr
      cases hr
      exact .inl hk
    | some a =>
      have hcell : ∀ j u, news[j]? = some u → w.cell? (a.add j) = some u := by
        intro j u hu
        have hne : news ≠ [] := fun e => by subst e; simp at hu
        obtain ⟨b, off, c', fr, hp, hb', hcs'⟩ := hcells hne
        cases hp
        rw [add_mk, cell_eq, hb', cellO_some, hcs' j (List.getElem?_eq_some_iff.1 hu).1, hu]
      subst h2
      by_cases hroom : n + m ≤ cap
      · have hfit : n * i.size + news.length ≤ cur.size := by rw [hl, hcs, ← Nat.add_mul]; exact Nat.mul_le_mul_right _ hroom
        have hr := run_append_room (P := P) w t ty e i hT.und hi g n cap cur hg a m c news hl hcell (fun u hu => one1_oneCell' (h1 u hu)) hroom hfit
        rw [hr1] at hr
        cases hr
        intro k hk
        exact .inl (by simpa [Value.ownBlock] using hk)
      · have holds : ∀ j u, xs[j]? = some u → w.cell? ((⟨g, 0, none⟩ : Addr).add j) = some u := World.ownsRow.cells (base := base) (e := e) (size := i.size) (v := .slice (some ⟨g, 0, none⟩) n cap) (n := n) ⟨hl', .inr ⟨g, cap, cur, rfl, hbg, hg, hnc, hcm, hcs, htake⟩⟩ rfl
        have hr := run_append_grow (P := P) w t ty e i z hT.und hi hz ⟨g, 0, none⟩ n cap xs hl' holds a m c news hl hcell (by omega) (by omega) (growslice_fits (by omega) (by rw [h3]; exact hb))
        rw [hr1] at hr
        cases hr
        intro k hk
        right
        simp [Value.ownBlock] at hk
        omega
theorem GdW_pure (c : Bool) (u v : Value) (w : World) (B : List Value → Fr → World → Prop) : GdW c [u] w (fun J => J [v] w) B ↔ ∀ g, B [bif c then v else u] g w := by
  constructor
  · rintro ⟨J, h1, h2, h3⟩ g
    cases c with
    | true => exact h3 _ g _ (h1 rfl)
    | false => exact h3 _ g _ (h2 rfl)
  · intro h
    refine ⟨fun s w' => s = [bif c then v else u] ∧ w' = w, fun hc => ⟨by rw [hc]; rfl, rfl⟩, fun hc => ⟨by rw [hc]; rfl, rfl⟩, ?_⟩
    rintro s g w' ⟨rfl, rfl⟩
    exact h g
theorem GdW_nest_and (g e f : Bool) (w : World) (B : List Value → Fr → World → Prop) :
    GdW g [undef] w (fun J => pickW (bif g then .bool e else undef) (bif (g && e) then .bool f else undef) (.bool false) fun t => J [t] w) B ↔ ∀ h, B [bif g then .bool (e && f) else undef] h w := by
  cases g with
  | true =>
    rw [← GdW_pure]
    cases e <;> exact Iff.rfl
  | false =>
    constructor
    · rintro ⟨J, _, h2, h3⟩ h; exact h3 _ h _ (h2 rfl)
    · intro h; exact GdW.f h
theorem GdW_nest_or (g e f : Bool) (w : World) (B : List Value → Fr → World → Prop) :
    GdW g [undef] w (fun J => pickW (bif g then .bool e else undef) (.bool true) (bif (g && !e) then .bool f else undef) fun t => J [t] w) B ↔ ∀ h, B [bif g then .bool (e || f) else undef] h w := by
  cases g with
  | true =>
    rw [← GdW_pure]
    cases e <;> exact Iff.rfl
  | false =>
    constructor
    · rintro ⟨J, _, h2, h3⟩ h; exact h3 _ h _ (h2 rfl)
    · intro h; exact GdW.f h
theorem pick_gd_and (c e : Bool) (K : Value → Prop) : pickW (.bool c) (bif c then .bool e else undef) (.bool false) K ↔ K (.bool (c && e)) := by cases c <;> exact Iff.rfl
theorem pick_gd_or (c e : Bool) (K : Value → Prop) : pickW (.bool c) (.bool true) (bif !c then .bool e else undef) K ↔ K (.bool (c || e)) := by cases c <;> exact Iff.rfl
theorem isB_gd_t (c e : Bool) : isB (bif c then .bool e else undef) true = (c && e) := by cases c <;> cases e <;> rfl
theorem isB_gd_f (c e : Bool) : isB (bif c then .bool e else undef) false = (c && !e) := by cases c <;> cases e <;> rfl
theorem GdW.look {c : Bool} {w : World} {A : (List Value → World → Prop) → Prop} {B : List Value → Fr → World → Prop} (e : Bool) (h1 : c = true → ∀ J : List Value → World → Prop, J [.bool e] w → A J) (h2 : ∀ g, B [bif c then .bool e else undef] g w) : GdW c [undef] w A B := by
  refine ⟨fun s w' => s = [bif c then .bool e else undef] ∧ w' = w, fun hc => h1 hc _ ⟨by rw [hc]; rfl, rfl⟩, fun hc => ⟨by rw [hc]; rfl, rfl⟩, ?_⟩
  rintro s g w' ⟨rfl, rfl⟩
  exact h2 g
theorem GdW.act {c : Bool} {w : World} {A : (List Value → World → Prop) → Prop} {B : List Value → Fr → World → Prop} (e : Bool) (R : World → Prop) (h0 : c = false → R w) (h1 : c = true → ∀ J : List Value → World → Prop, (∀ w', R w' → J [.bool e] w') → A J) (h2 : ∀ g w', R w' → B [bif c then .bool e else undef] g w') : GdW c [undef] w A B := by
  refine ⟨fun s w' => s = [bif c then .bool e else undef] ∧ R w', fun hc => h1 hc _ fun w' hR => ⟨by rw [hc]; rfl, hR⟩, fun hc => ⟨by rw [hc]; rfl, h0 hc⟩, ?_⟩
  rintro s g w' ⟨rfl, hR⟩
  exact h2 g w' hR
theorem GqW_f (A : (Value → Prop) → Prop) (B : Value → Prop) : GqW false A B ↔ B undef := by
  constructor
  · rintro ⟨v, _, h, hb⟩; rw [← h rfl]; exact hb
  · intro h; exact ⟨undef, (fun e => by cases e), fun _ => rfl, h⟩
theorem GqW_t (A : (Value → Prop) → Prop) (B : Value → Prop) : GqW true A B ↔ ∃ v, A (fun x => x = v) ∧ B v := by
  constructor
  · rintro ⟨v, h, _, hb⟩; exact ⟨v, h rfl, hb⟩
  · rintro ⟨v, h, hb⟩; exact ⟨v, fun _ => h, (fun e => by cases e), hb⟩
theorem GdW_f (u : List Value) (w : World) (A : (List Value → World → Prop) → Prop) (B : List Value → Fr → World → Prop) : GdW false u w A B ↔ ∀ g, B u g w := by
  constructor
  · rintro ⟨J, _, h2, h3⟩ g; exact h3 _ g _ (h2 rfl)
  · intro h; exact GdW.f h
theorem isB_u (c : Bool) : isB undef c = false := rfl
theorem eq_bb (a b : Bool) (K : Value → Prop) : eqW .bool false (.bool a) (.bool b) K ↔ K (.bool (a == b)) := by simp [eqW]
theorem ne_bb (a b : Bool) (K : Value → Prop) : eqW .bool true (.bool a) (.bool b) K ↔ K (.bool (!(a == b))) := by simp [eqW]
theorem condW_b (b : Bool) (A B : Prop) : condW (.bool b) A B ↔ (b = true → A) ∧ (b = false → B) := Iff.rfl
def wsv0 := And.intro @put_nil <| And.intro @put_map <| And.intro @put_int <| And.intro @put_str <| And.intro @put_bool <| And.intro @put_ptr <| And.intro @put_slice <| And.intro @bin_add <| And.intro @bin_sub <| And.intro @bin_mul <|
  And.intro @bin_quo <| And.intro @bin_rem <| And.intro @bin_eql <| And.intro @bin_neq <| And.intro @bin_lss <| And.intro @bin_leq <| And.intro @bin_gtr <| And.intro @bin_geq <| And.intro @bin_sadd <| And.intro @bin_seq <| And.intro @bin_sne <|
  And.intro @bin_slt <| And.intro @bin_sgt <| And.intro @bin_sge <| And.intro @bin_sle <| And.intro @nil_ptr <| And.intro @fld_ptr <| And.intro @ld_one <| And.intro @one_int <| And.intro @one_bool <| And.intro @one_str <| And.intro @one_slice <|
  And.intro @one_ptr <| And.intro @one_map <| And.intro @ext_tuple <| And.intro @ixa_slice <| And.intro @ixa_arr <| And.intro @ixs_str <| And.intro @lens_str <| And.intro @lenl_sl <| And.intro @un_not <| And.intro @un_neg <| And.intro @cvt_int <|
  And.intro @min_int <| And.intro @max_int <| And.intro @bd_none <| And.intro @bd_some <| And.intro @sls_str <| And.intro @pick_t <| And.intro @pick_f <| And.intro @condW_true @condW_false
def wsg0 := And.intro @isB_u <| And.intro @GqW_f <| And.intro @GqW_t <| And.intro @GdW_f <| And.intro @GdW_pure <| And.intro @GdW_nest_and <| And.intro @GdW_nest_or <| And.intro @pick_gd_and <| And.intro @pick_gd_or <| And.intro @isB_gd_t <| And.intro @isB_gd_f <| And.intro @isB_t @isB_f
def wsh0 := And.intro @add_mk <| And.intro @cell_eq <| And.intro @cellO_some <| And.intro @frozen_eq <| And.intro @frO_zero <| And.intro @heap_drew @size_drew
def wsl0 := And.intro @true_and <| And.intro @and_true <| And.intro @Bool.and_true <| And.intro @Bool.and_false <| And.intro @Bool.true_and <| And.intro @Bool.false_and <| And.intro @Bool.or_true <|
  And.intro @Bool.or_false <| And.intro @Bool.true_or <| And.intro @Bool.false_or <| And.intro @Bool.not_true @Bool.not_false
theorem wsv : type_of% wsv0 := wsv0
theorem wsg : type_of% wsg0 := wsg0
theorem wsh : type_of% wsh0 := wsh0
theorem wsl : type_of% wsl0 := wsl0
end Go.Eng
namespace Go.Proofs.YtdkikjcpgihjlaaGreatDoor
open Go Go.Eng
theorem mixed : Tryz.prog.follows .mixedOrders = true := by kernel_rfl
end Go.Proofs.YtdkikjcpgihjlaaGreatDoor
