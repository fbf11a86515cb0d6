/- One plain sentence: weakest preconditions, contracts and plain laws that the claim rests on, text behind text. Conditions: those that each states. -/
import Derived.Orders
import Derived.Laws.World
import Derived.KernelRfl
import Derived.Laws.Strings
import Derived.Tactics
import Derived.Scope
import Derived.Below
import Derived.Laws.AppendOwn
import Derived.Laws.BytesArg
import Derived.Lib.DecodeN
import Derived.Lib.RuneBytes
import Derived.Lib.Index
set_option linter.all false
set_option linter.unusedSimpArgs false
set_option linter.unusedVariables false
set_option linter.unusedSectionVars false
namespace Go.Eng
open Go
abbrev Fr := Nat → Value
def upd (f : Fr) (d : Option Nat) (v : Value) : Fr :=
 match d with
 | none => f
 | some d => fun j => bif Nat.beq j d then v else f j
def ev (f : Fr) : Operand → Value
 | .tmp t => f t
 | .const v => v
 | .global g => .pointer (some ⟨g,0,none⟩)
 | .func g => .func (.func g) #[] #[]
def evl (f : Fr) (a : Array Operand) : List Value := a.toList.map (ev f)
def ofL (l : List UInt8) : ByteArray := ⟨l.toArray⟩
theorem ofL_data (l : List UInt8) : (ofL l).data.toList = l := by simp [ofL]
theorem ofL_size (l : List UInt8) : (ofL l).size = l.length := by simp [ofL,ByteArray.size]
class HX where
 X : List PanicEntry → World → Prop
@[reducible] def noX : HX := ⟨fun _ _ => False⟩
def EndK [HX] (K : Value → World → Prop) : Ending → World → Prop
 | .returned v,w => K v w
 | .panicked c,w => HX.X c w
 | .outgrown,_ => False
theorem EndK.mono [HX] {K K' : Value → World → Prop} (hk : ∀ v w,K v w → K' v w) {e : Ending} {w : World} (h : EndK K e w) : EndK K' e w := by
 cases e with
 | returned v => exact hk _ _ h
 | panicked c => exact h
 | outgrown => exact h.elim
def Res [HX] (P : Program) (K : Value → World → Prop) : Result Next → Prop
 | .ok (.value v) w => K v w
 | .ok .skip w => K undef w
 | .ok (.enter g args) w => Calls P g args w (EndK K)
 | .ok (.row r args) w => Rows P r args w K
 | .halt (.panic v) w => HX.X [{ v,recovered := false }] w
 | _ => False
theorem Res.upon [HX] {P : Program} {K : Value → World → Prop} {o : Oper} {a : Act} {next : Act → World → Prop} {Q : Exit → Act → World → Prop}
   (hk : ∀ v w,K v w → next (a.put o.dst v) w) (hx : ∀ c w,HX.X c w → Q (.panic c) a w) {r : Result Next} (h : Res P K r) : o.upon P a next Q r := by
 cases r with
 | ok n w =>
   cases n <;> simp only [Res] at h <;> simp only [Oper.upon] <;> first
     | exact hk _ _ h
     | exact h.elim
     | exact h.mono fun _ _ he => hk _ _ he
     | (refine h.mono fun e w' he => ?_
        cases e with
        | returned v => exact hk _ _ he
        | panicked c => exact hx _ _ he
        | outgrown => exact he.elim)
 | halt x w =>
   cases x <;> simp only [Res] at h <;> simp only [Oper.upon] <;> first
     | exact h.elim
     | exact hx _ _ h
theorem Res.mono [HX] {P : Program} {K K' : Value → World → Prop} (hk : ∀ v w,K v w → K' v w) {r : Result Next} (h : Res P K r) : Res P K' r := by
 cases r with
 | ok n w =>
   cases n <;> simp only [Res] at h ⊢ <;> first
     | exact hk _ _ h
     | exact h.elim
     | exact h.mono fun _ _ he => hk _ _ he
     | exact h.mono fun e w' he => he.mono hk
 | halt x w =>
   cases x <;> simp only [Res] at h ⊢ <;> first
     | exact h.elim
     | exact h
def andB (c : Bool) (A : Prop) : Prop := bif c then A else False
theorem andB.out {c : Bool} {A : Prop} (h : andB c A) : c = true ∧ A := by
 cases c with
 | true => exact ⟨rfl,h⟩
 | false => exact h.elim
def pickW (c a b : Value) (K : Value → Prop) : Prop := match c with | .bool t => K (bif t then a else b) | _ => False
def nilW (v : Value) (K : Value → Prop) : Prop :=
 match v with
 | .pointer (some _) => K v
 | .func (.func _) _ _ => K v
 | .iface _ _ => K v
 | _ => False
def binW (op : BinOp) (x y : Value) (K : Value → Prop) : Prop :=
 match x,y with
 | .int k a,.int k' b =>
   match op with
   | .shl => 0 ≤ b ∧ K (.int k (k.wrap (a * 2 ^ min b.toNat k.bits)))
   | .shr => 0 ≤ b ∧ K (.int k (a.fdiv (2 ^ min b.toNat k.bits)))
   | .add => k = k' ∧ K (.int k (k.wrap (a + b)))
   | .sub => k = k' ∧ K (.int k (k.wrap (a - b)))
   | .mul => k = k' ∧ K (.int k (k.wrap (a * b)))
   | .quo => k = k' ∧ b ≠ 0 ∧ K (.int k (k.wrap (a.tdiv b)))
   | .rem => k = k' ∧ b ≠ 0 ∧ K (.int k (a.tmod b))
   | .and => k = k' ∧ K (.int k (k.wrap (BitVec.ofInt k.bits a &&& BitVec.ofInt k.bits b).toNat))
   | .or => k = k' ∧ K (.int k (k.wrap (BitVec.ofInt k.bits a ||| BitVec.ofInt k.bits b).toNat))
   | .xor => k = k' ∧ K (.int k (k.wrap (BitVec.ofInt k.bits a ^^^ BitVec.ofInt k.bits b).toNat))
   | .andNot => k = k' ∧ K (.int k (k.wrap (BitVec.ofInt k.bits a &&& ~~~ BitVec.ofInt k.bits b).toNat))
   | .eql => k = k' ∧ K (.bool (decide (a = b)))
   | .neq => k = k' ∧ K (.bool (decide (a ≠ b)))
   | .lss => k = k' ∧ K (.bool (decide (a < b)))
   | .leq => k = k' ∧ K (.bool (decide (a ≤ b)))
   | .gtr => k = k' ∧ K (.bool (decide (b < a)))
   | .geq => k = k' ∧ K (.bool (decide (b ≤ a)))
 | .string a,.string b =>
   match op with
   | .add => ((a.size + b.size : Nat) : Int) ≤ IntKind.i64.max ∧ K (.string (a ++ b))
   | .eql => K (.bool (decide (a.data.toList = b.data.toList)))
   | .neq => K (.bool (decide (a.data.toList ≠ b.data.toList)))
   | .lss => K (.bool (Op.bytesLess a.data.toList b.data.toList))
   | .leq => K (.bool (Op.bytesLess a.data.toList b.data.toList || decide (a.data.toList = b.data.toList)))
   | .gtr => K (.bool (!(Op.bytesLess a.data.toList b.data.toList || decide (a.data.toList = b.data.toList))))
   | .geq => K (.bool (!Op.bytesLess a.data.toList b.data.toList))
   | _ => False
 | _,_ => False
inductive EqK | bool | ptr | slice | map | func
def EqK.of : TypeDesc → Option EqK
 | .bool => some .bool
 | .pointer _ => some .ptr
 | .slice _ => some .slice
 | .map _ _ => some .map
 | .func _ _ _ => some .func
 | _ => none
def eqW (k : EqK) (n : Bool) (x y : Value) (K : Value → Prop) : Prop :=
 match k,x,y with
 | .bool,.bool a,.bool b => K (.bool (n ^^ (a == b)))
 | .ptr,.pointer none,.pointer b => K (.bool (n ^^ b.isNone))
 | .ptr,.pointer (some _),.pointer none => K (.bool n)
 | .slice,.slice none _ _,.slice b _ _ => K (.bool (n ^^ b.isNone))
 | .slice,.slice (some _) _ _,.slice none _ _ => K (.bool n)
 | .map,.map none,.map b => K (.bool (n ^^ b.isNone))
 | .map,.map (some _),.map none => K (.bool n)
 | .func,.nilFunc,.nilFunc => K (.bool (!n))
 | .func,.nilFunc,.func _ _ _ => K (.bool n)
 | .func,.func _ _ _,.nilFunc => K (.bool n)
 | _,_,_ => False
def unW (op : UnOp) (x : Value) (K : Value → Prop) : Prop :=
 match op,x with
 | .not,.bool b => K (.bool (!b))
 | .neg,.int k n => K (.int k (k.wrap (0 - n)))
 | .xor,.int k n => K (.int k (k.wrap (BitVec.ofInt k.bits (if k.signed then -1 else k.max) ^^^ BitVec.ofInt k.bits n).toNat))
 | _,_ => False
def cvtW (k : IntKind) (x : Value) (K : Value → Prop) : Prop := match x with | .int _ n => K (.int k (k.wrap n)) | _ => False
def cvsW (x : Value) (K : Value → Prop) : Prop := match x with | .int _ n => K (.string (Utf8.encode n)) | .string s => K (.string s) | _ => False
def partW (agg : Bool) (off size : Nat) (x : Value) (K : Value → Prop) : Prop :=
 match x with
 | .agg cs => bif agg then K (.agg (cs.extract off (off + size))) else (∃ c,cs[off]? = some c ∧ K c)
 | _ => False
def fldW (off : Nat) (x : Value) (K : Value → Prop) : Prop :=
 match x with
 | .pointer (some a) => K (.pointer (some (a.add off)))
 | _ => False
def ixaW (len : Option Nat) (size : Nat) (x i : Value) (K : Value → Prop) : Prop :=
 match len,x,i with
 | none,.slice (some a) n _,.int _ i => 0 ≤ i ∧ i < n ∧ K (.pointer (some (a.add (i.toNat * size))))
 | some n,.pointer (some a),.int _ i => 0 ≤ i ∧ i < n ∧ K (.pointer (some (a.add (i.toNat * size))))
 | _,_,_ => False
def ixsW (x i : Value) (K : Value → Prop) : Prop :=
 match x,i with
 | .string s,.int _ i => 0 ≤ i ∧ ∃ b,s.data.toList[i.toNat]? = some b ∧ K (.int .u8 b.toNat)
 | _,_ => False
def ixgW (len : Nat) (agg : Bool) (size : Nat) (x i : Value) (K : Value → Prop) : Prop :=
 match i with
 | .int _ i => 0 ≤ i ∧ i < len ∧ partW agg (i.toNat * size) size x K
 | _ => False
def bdW (x : Option Value) (dflt : Nat) (lim : Nat) (K : Nat → Prop) : Prop :=
 match x with
 | none => K dflt
 | some (.int _ i) => 0 ≤ i ∧ i ≤ lim ∧ K i.toNat
 | some _ => False
def slsW (x : Value) (lo hi : Option Value) (K : Value → Prop) : Prop :=
 match x with
 | .string s => bdW hi s.size s.size fun h => bdW lo 0 h fun l => K (.string (ofL ((s.data.toList.take h).drop l)))
 | _ => False
def sllW (size : Nat) (x : Value) (lo hi mx : Option Value) (K : Value → Prop) : Prop :=
 match x with
 | .slice a len cap => bdW mx cap cap fun m => (bdW hi len m fun h => bdW lo 0 h fun l =>
     K (.slice (if m = l then a else a.map (·.add (l * size))) (h - l) (m - l)))
 | _ => False
def slaW (n size : Nat) (x : Value) (lo hi mx : Option Value) (K : Value → Prop) : Prop :=
 match x with
 | .pointer (some a) => bdW mx n n fun m => (bdW hi n m fun h => bdW lo 0 h fun l =>
     K (.slice (some (if m = l then a else a.add (l * size))) (h - l) (m - l)))
 | _ => False
def extW (i : Nat) (x : Value) (K : Value → Prop) : Prop := match x with | .tuple vs => (match vs[i]? with | some v => K v | none => False) | _ => False
def putW (cells : List Value) : List (Nat × Nat × Value) → (List Value → Prop) → Prop
 | [],K => K cells
 | (off,size,v) :: r,K => v.cells.size = size ∧ off + size ≤ cells.length ∧ putW (cells.take off ++ (v.cells.toList ++ cells.drop (off + size))) r K
def lensW (x : Value) (K : Value → Prop) : Prop := match x with | .string s => K (.int .i64 s.size) | _ => False
def lenlW (x : Value) (K : Value → Prop) : Prop := match x with | .slice _ n _ => K (.int .i64 n) | _ => False
def capW (x : Value) (K : Value → Prop) : Prop := match x with | .slice _ _ n => K (.int .i64 n) | _ => False
def minW (x y : Value) (K : Value → Prop) : Prop := match x,y with | .int k a,.int _ b => K (.int k (if b < a then b else a)) | _,_ => False
def min3W (x y z : Value) (K : Value → Prop) : Prop := match x,y,z with | .int k a,.int _ b,.int _ c => K (.int k (if c < (if b < a then b else a) then c else (if b < a then b else a))) | _,_,_ => False
def maxW (x y : Value) (K : Value → Prop) : Prop := match x,y with | .int k a,.int _ b => K (.int k (if a < b then b else a)) | _,_ => False
def cellsAt (w : World) (a : Addr) : Nat → Nat → Option (List Value)
 | _,0 => some []
 | i,n + 1 => match w.cell? (a.add i) with | some v => (cellsAt w a (i + 1) n).map (v :: ·) | none => none
def ldW (agg : Bool) (n : Nat) (x : Value) (w : World) (K : Value → Prop) : Prop :=
 match x with
 | .pointer (some a) => bif agg then (∃ l,cellsAt w a 0 n = some l ∧ K (.agg l.toArray)) else (∃ v,w.cell? a = some v ∧ K v)
 | _ => False
def semQ (P : Program) (s : Sem Value) (w : World) (K : Value → Prop) : Prop := ∃ v,s.run P w = .ok v w ∧ K v
def semE (P : Program) (s : Sem Value) (w : World) (K : Value → World → Prop) : Prop := match s.run P w with | .ok v w' => K v w' | _ => False
def semU (P : Program) (s : Sem Unit) (w : World) (K : World → Prop) : Prop := match s.run P w with | .ok _ w' => K w' | _ => False
def semN [HX] (P : Program) (s : Sem Next) (w : World) (K : Value → World → Prop) : Prop := Res P K (s.run P w)
def allocW (T : TypeId) (zero : List Value) (w : World) (K : Value → World → Prop) : Prop :=
 K (.pointer (some ⟨w.heap.size,0,none⟩)) (w.alloc (.cells zero.toArray T))
def boxW (T : TypeId) (v : Value) (w : World) (K : Value → World → Prop) : Prop :=
 K (.pointer (some ⟨w.heap.size,0,none⟩)) (w.alloc (.cells v.cells T))
def bslW (T : TypeId) (len : Nat) (zero : List Value) (parts : List (Nat × Nat × Value)) (w : World) (K : Value → World → Prop) : Prop :=
 putW zero parts fun cs => K (.slice (some ⟨w.heap.size,0,none⟩) len len) (w.alloc (.cells cs.toArray T))
def one1 : Value → Bool
 | .agg _ | .tuple _ => false
 | _ => true
def stCells (a : Addr) : List Value → Nat → World → (World → Prop) → Prop
 | [],_,w,K => K w
 | v :: r,i,w,K => one1 v = true ∧ (w.cell? (a.add i)).isSome = true ∧ w.frozen? (a.add i) = false ∧ stCells a r (i + 1) (w.setCell (a.add i) v) K
def stW (n : Nat) (x v : Value) (w : World) (K : World → Prop) : Prop :=
 match x with
 | .pointer (some a) => v.cells.size = n ∧ stCells a v.cells.toList 0 w K
 | _ => False
def callW [HX] (P : Program) (g : FuncId) (args : List Value) (w : World) (K : Value → World → Prop) : Prop :=
 Calls P g args.toArray w (EndK K)
def pncW [HX] (x : Value) (w : World) : Prop := match x with | .iface T v => HX.X [{ v := .iface T v,recovered := false }] w | _ => False
def callF [HX] (P : Program) (g : FuncId) (args : List Value) (w : World) (K : Value → World → Prop) : Prop :=
 Res P K ((callFunc g args.toArray).run P w)
def callV [HX] (P : Program) (v : Value) (args : List Value) (w : World) (K : Value → World → Prop) : Prop :=
 semN P (do let d ← Deferred.ofValue v args.toArray; invoke d.target d.args) w K
end Go.Eng
namespace Go.Eng
open Go
def isAggD : TypeDesc → Bool
 | .struct _ | .array _ _ => true
 | _ => false
def isAggT (P : Program) (T : TypeId) : Bool := match P.underlying T with | some d => isAggD d | none => false
def sizeT (P : Program) (T : TypeId) : Nat := match P.info? T with | some i => i.size | none => 0
def zeroT (P : Program) (T : TypeId) : Option Value := match P.info? T with | some i => i.zero | none => none
def partsAt (places : Nat → Option (Nat × Nat)) (f : Fr) : List (Nat × Operand) → Option (List (Nat × Nat × Value))
 | [] => some []
 | (i,x) :: r => match places i,partsAt places f r with
   | some (off,size),some l => some ((off,size,ev f x) :: l)
   | _,_ => none
def sPlace (P : Program) (fs : Array Field) (i : Nat) : Option (Nat × Nat) := match fs[i]? with | some g => some (g.offset,sizeT P g.type) | none => none
def buildW (P : Program) (T : TypeId) (f : Fr) (parts : List (Nat × Operand)) (K : Value → Prop) : Prop :=
 match P.underlying T,zeroT P T with
 | some (.struct fs),some z =>
   (match partsAt (sPlace P fs) f parts with
    | some l => andB (fs.all (fun g => (P.info? g.type).isSome)) (putW z.cells.toList l fun cs => K (.agg cs.toArray))
    | none => False)
 | some (.array _ e),some z =>
   (match partsAt (fun i => some (i * sizeT P e,sizeT P e)) f parts with
    | some l => andB (P.info? e).isSome (putW z.cells.toList l fun cs => K (.agg cs.toArray))
    | none => False)
 | _,_ => False
def cmpW (P : Program) (op : BinOp) (T : TypeId) (x y : Value) (K : Value → Prop) : Prop :=
 match op,(match P.underlying T with | some d => EqK.of d | none => none) with
 | .eql,some k => eqW k false x y K
 | .neq,some k => eqW k true x y K
 | _,_ => binW op x y K
def convW (P : Program) (s d : TypeId) (x : Value) (K : Value → Prop) : Prop :=
 match P.underlying s,P.underlying d with
 | some (.int _),some (.int k) => cvtW k x K
 | some (.int _),some .string => cvsW x K
 | some .string,some .string => cvsW x K
 | _,_ => False
def indexAddrW (P : Program) (T : TypeId) (x i : Value) (K : Value → Prop) : Prop :=
 match P.underlying T with
 | some (.slice e) => andB (P.info? e).isSome (ixaW none (sizeT P e) x i K)
 | some (.array n e) => andB (P.info? e).isSome (ixaW (some n) (sizeT P e) x i K)
 | _ => False
def indexW (P : Program) (T : TypeId) (x i : Value) (K : Value → Prop) : Prop :=
 match P.underlying T with
 | some .string => ixsW x i K
 | some (.array n e) => andB (P.underlying e).isSome (ixgW n (isAggT P e) (sizeT P e) x i K)
 | _ => False
def sliceW (P : Program) (T : TypeId) (x : Value) (lo hi mx : Option Value) (K : Value → Prop) : Prop :=
 match P.underlying T with
 | some .string => andB (!mx.isSome) (slsW x lo hi K)
 | some (.slice e) => andB (!mx.isSome || hi.isSome) (andB (P.info? e).isSome (sllW (sizeT P e) x lo hi mx K))
 | some (.array n e) => andB (!mx.isSome || hi.isSome) (andB (P.info? e).isSome (slaW n (sizeT P e) x lo hi mx K))
 | _ => False
def pureCallW (P : Program) (b : Builtin) (argTypes : Array TypeId) (args : List Value) (K : Value → Prop) : Prop :=
 match b,args with
 | .len,[x] => (match argTypes[0]? with
     | some T => (match P.underlying T with
       | some .string => lensW x K
       | some (.slice _) => lenlW x K
       | some (.array n _) => K (.int .i64 n)
       | _ => False)
     | none => False)
 | .cap,[x] => (match argTypes[0]? with
     | some T => (match P.underlying T with
       | some (.slice _) => capW x K
       | _ => False)
     | none => False)
 | .min,[x,y] => minW x y K
 | .min,[x,y,z] => min3W x y z K
 | .max,[x,y] => maxW x y K
 | _,_ => False
def pureW (P : Program) (f : Fr) (op : Op) (K : Value → Prop) : Prop :=
 match op with
 | .move x | .assign x => K (ev f x)
 | .pick c a b => pickW (ev f c) (ev f a) (ev f b) K
 | .nilCheck x => nilW (ev f x) K
 | .binOp op T x y _ => cmpW P op T (ev f x) (ev f y) K
 | .unOp op _ x => unW op (ev f x) K
 | .convert s d x => convW P s d (ev f x) K
 | .makeInterface T x => (match P.underlying T with | some (.interface _) => False | none => False | _ => K (.iface T (ev f x)))
 | .makeFunc fn first cap => K (.func fn (evl f first).toArray (evl f cap).toArray)
 | .field T x i => (match P.underlying T with
     | some (.struct fs) => (match fs[i]? with | some g => andB (P.underlying g.type).isSome (partW (isAggT P g.type) g.offset (sizeT P g.type) (ev f x) K) | none => False)
     | _ => False)
 | .fieldAddr T x i => (match P.underlying T with
     | some (.struct fs) => (match fs[i]? with | some g => andB (!(Nat.beq (sizeT P g.type) 0)) (fldW g.offset (ev f x) K) | none => False)
     | _ => False)
 | .indexAddr T x i => indexAddrW P T (ev f x) (ev f i) K
 | .index T x i => indexW P T (ev f x) (ev f i) K
 | .slice T x lo hi mx => sliceW P T (ev f x) (lo.map (ev f)) (hi.map (ev f)) (mx.map (ev f)) K
 | .extract t i => extW i (ev f t) K
 | .build T parts => buildW P T f parts.toList K
 | .call { callee := .builtin b,args,argTypes } => pureCallW P b argTypes (evl f args) K
 | _ => False
def isPure (P : Program) : Op → Bool
 | .move _ | .assign _ | .pick .. | .nilCheck _ | .unOp .. | .makeInterface .. | .makeFunc .. | .field .. | .fieldAddr .. | .indexAddr .. | .index .. | .slice ..
 | .extract .. | .build .. => true
 | .binOp op T _ _ _ => (match op with
   | .eql | .neq => (match P.underlying T with | some (.interface _) | some (.struct _) | some (.array _ _) | some (.chan _ _) | none => false | _ => true)
   | _ => true)
 | .convert s d _ => (match P.underlying s,P.underlying d with | some (.int _),some (.int _) | some (.int _),some .string | some .string,some .string => true | _,_ => false)
 | .call { callee := .builtin b,argTypes,.. } => (match b with
   | .min | .max | .cap => true
   | .len => (match argTypes[0]? with | some T => (match P.underlying T with | some (.map _ _) | none => false | _ => true) | none => false)
   | _ => false)
 | _ => false
def Yields1 (P : Program) (s : Sem Value) (K : Value → Prop) : Prop := ∃ v,K v ∧ ∀ w,s.run P w = .ok v w
theorem run_bind {α β : Type} (P : Program) (s : Sem α) (k : α → Sem β) (w : World) :
   (s >>= k).run P w = match s.run P w with | .ok a w' => (k a).run P w' | .halt h w' => .halt h w' := by
 show (Sem.bind s k).run P w = _
 induction s generalizing w with
 | pure a => simp [Sem.bind,Sem.run]
 | load m a c ih => simp only [Sem.bind,Sem.run]; (repeat' split) <;> simp_all
 | store m a v c ih =>
   cases v <;> simp only [Sem.bind,Sem.run] <;> ((repeat' split) <;> simp_all)
 | new o c ih => simp [Sem.bind,Sem.run,ih]
 | shape r c ih => simp [Sem.bind,Sem.run,ih]
 | freeze a n c ih => simp [Sem.bind,Sem.run,ih]
 | frozen a c ih => simp [Sem.bind,Sem.run,ih]
 | getObj r c ih => simp only [Sem.bind,Sem.run]; (repeat' split) <;> simp_all
 | setObj r o c ih => simp only [Sem.bind,Sem.run]; (repeat' split) <;> simp_all
 | choose q c ih => simp only [Sem.bind,Sem.run]; (repeat' split) <;> simp_all
 | sys c k' ih => simp [Sem.bind,Sem.run,ih]
 | program c ih => simp [Sem.bind,Sem.run,ih]
 | mark m c ih => simp [Sem.bind,Sem.run,ih]
 | halt h => simp [Sem.bind,Sem.run]
theorem run_pure {α : Type} (P : Program) (a : α) (w : World) : (pure a : Sem α).run P w = .ok a w := rfl
theorem run_underlying' {P : Program} {T : TypeId} {d : TypeDesc} (h : P.underlying T = some d) (w : World) : (underlying T).run P w = .ok d w := by
 simp [underlying,run_bind,program,Sem.run,h,run_pure]
theorem run_typeInfo' {P : Program} {T : TypeId} {i : TypeInfo} (h : P.info? T = some i) (w : World) : (typeInfo T).run P w = .ok i w := by
 simp [typeInfo,run_bind,program,Sem.run,h,run_pure]
theorem run_sizeOf' {P : Program} {T : TypeId} (h : (P.info? T).isSome = true) (w : World) : (sizeOf T).run P w = .ok (sizeT P T) w := by
 cases hi : P.info? T with
 | none => rw [hi] at h; cases h
 | some i => simp [sizeOf,run_bind,run_typeInfo' hi,run_pure,sizeT,hi]
theorem underlying_info {P : Program} {T : TypeId} (h : (P.underlying T).isSome = true) : (P.info? T).isSome = true := by
 unfold Program.underlying at h
 cases hi : P.info? T with
 | none => simp [hi] at h
 | some i => rfl
theorem run_isAgg' {P : Program} {T : TypeId} (h : (P.underlying T).isSome = true) (w : World) : (isAgg T).run P w = .ok (isAggT P T) w := by
 cases hi : P.underlying T with
 | none => rw [hi] at h; cases h
 | some d =>
   simp only [isAgg,run_bind,run_underlying' hi,isAggT,hi]
   cases d <;> rfl
theorem zeroT_run {P : Program} {T : TypeId} {z : Value} (h : zeroT P T = some z) (w : World) : (zeroValue T).run P w = .ok z w := by
 unfold zeroT at h
 cases hi : P.info? T with
 | none => simp [hi] at h
 | some i =>
   simp only [hi] at h
   simp [zeroValue,run_bind,run_typeInfo' hi,h,run_pure]
theorem part_run {P : Program} {T : TypeId} {off : Nat} {x : Value} {K : Value → Prop} (hT : (P.underlying T).isSome = true) (h : partW (isAggT P T) off (sizeT P T) x K) :
   ∃ cs,x = .agg cs ∧ Yields1 P (part T cs off) K := by
 cases x with
 | agg cs =>
   refine ⟨cs,rfl,?_⟩
   simp only [partW] at h
   cases ha : isAggT P T with
   | true =>
     rw [ha] at h
     exact ⟨_,h,fun w => by simp [part,run_bind,run_isAgg' hT,ha,run_sizeOf' (underlying_info hT),run_pure]⟩
   | false =>
     rw [ha] at h
     obtain ⟨c,hc,hk⟩ := h
     exact ⟨c,hk,fun w => by simp [part,run_bind,run_isAgg' hT,ha,hc,run_pure]⟩
 | _ => exact h.elim
theorem bdW_run {P : Program} {x : Option Value} {dflt lim : Nat} {K : Nat → Prop} (h : bdW x dflt lim K) :
   ∃ n,K n ∧ ((x = none ∧ n = dflt) ∨ ∃ v,x = some v ∧ ∀ (code : BoundsCode) (w : World),(Instr.sliceBound v lim code).run P w = .ok n w) := by
 cases x with
 | none => exact ⟨dflt,h,.inl ⟨rfl,rfl⟩⟩
 | some v =>
   cases v <;> simp only [bdW] at h
   case int k i =>
     obtain ⟨h0,h1,hk⟩ := h
     exact ⟨_,hk,.inr ⟨_,rfl,fun code w => by simp [Instr.sliceBound,asIntOf,run_bind,run_pure,h0,h1]⟩⟩
theorem bounds_run {P : Program} {isSlice : Bool} {len cap : Nat} {lo hi mx : Option Value} {K : Nat → Nat → Nat → Prop} (hm : mx.isSome = true → hi.isSome = true)
   (h : bdW mx cap cap fun m => bdW hi len m fun h => bdW lo 0 h fun l => K l h m) :
   ∃ l h m,K l h m ∧ ∀ w,(Instr.sliceBounds isSlice len cap lo hi mx).run P w = .ok (l,h,m) w := by
 obtain ⟨m,h1,hm1⟩ := bdW_run (P := P) h
 obtain ⟨hh,h2,hh1⟩ := bdW_run (P := P) h1
 obtain ⟨l,h3,hl1⟩ := bdW_run (P := P) h2
 refine ⟨l,hh,m,h3,fun w => ?_⟩
 rcases hm1 with ⟨rfl,rfl⟩ | ⟨vm,rfl,rm⟩ <;> rcases hh1 with ⟨rfl,rfl⟩ | ⟨vh,rfl,rh⟩ <;> rcases hl1 with ⟨rfl,rfl⟩ | ⟨vl,rfl,rl⟩ <;>
   first
     | (simp at hm; done)
     | simp [Instr.sliceBounds,run_bind,run_pure, *]
theorem putW_fill {place : Nat → Option (Nat × Nat)} {f : Fr} {K : List Value → Prop} : ∀ (parts : List (Nat × Operand)) (l : List (Nat × Nat × Value)) (cells : List Value),
   partsAt place f parts = some l → putW cells l K → ∃ cs,K cs ∧ Instr.fill place cells.toArray (parts.map fun p => (p.1,ev f p.2)) = some cs.toArray
 | [],l,cells,hp,h => by
   simp only [partsAt,Option.some.injEq] at hp
   subst hp
   exact ⟨cells,h,rfl⟩
 | (i,x) :: r,l,cells,hp,h => by
   simp only [partsAt] at hp
   cases hpl : place i with
   | none => simp [hpl] at hp
   | some os =>
     obtain ⟨off,size⟩ := os
     cases hr : partsAt place f r with
     | none => simp [hpl,hr] at hp
     | some l' =>
       simp only [hpl,hr,Option.some.injEq] at hp
       subst hp
       obtain ⟨h1,h2,h3⟩ := h
       obtain ⟨cs,hk,hf⟩ := putW_fill r l' _ hr h3
       refine ⟨cs,hk,?_⟩
       simp only [List.map_cons,Instr.fill,hpl]
       rw [if_neg (by simp [h1]; omega)]
       rw [← hf]
       congr 1
       have key : ∀ (vs : List Value) (k : Nat) (cs : List Value),off + k + vs.length ≤ cs.length →
           (vs.zipIdx k).foldl (fun (a : Array Value) (p : Value × Nat) => a.setIfInBounds (off + p.2) p.1) cs.toArray = (cs.take (off + k) ++ (vs ++ cs.drop (off + k + vs.length))).toArray := by
         intro vs
         induction vs with
         | nil => intro k cs _; simp
         | cons v vs ih =>
           intro k cs hle
           simp only [List.length_cons] at hle
           simp only [List.zipIdx_cons,List.foldl_cons]
           rw [List.setIfInBounds_toArray,ih (k + 1) _ (by simp; omega)]
           congr 1
           apply List.ext_getElem?
           intro j
           simp only [List.getElem?_append,List.length_take,List.length_set,List.getElem?_take,List.getElem?_set,List.getElem?_drop,List.length_cons,List.getElem?_cons]
           (repeat' split) <;> first
             | rfl
             | omega
             | (simp_all; done)
             | (congr 1; omega)
             | (rename_i h1 h2 h3; simp at h1; omega)
       have hk := key (ev f x).cells.toList 0 cells (by simp; omega)
       simp only [Nat.add_zero] at hk
       rw [← h1]
       simp only [Array.length_toList] at hk
       rw [← hk,← Array.foldl_toList]
       simp
def YieldsN (P : Program) (s : Sem Next) (K : Value → Prop) : Prop := ∃ v,K v ∧ ∀ w,s.run P w = .ok (.value v) w
theorem YieldsN.of1 {P : Program} {s : Sem Value} {K : Value → Prop} (h : Yields1 P s K) : YieldsN P (do pure (.value (← s))) K := by
 obtain ⟨v,hk,hr⟩ := h
 exact ⟨v,hk,fun w => by rw [run_bind,hr]; rfl⟩
theorem beq_dec {α : Type} [BEq α] [LawfulBEq α] [DecidableEq α] (a b : α) : (a == b) = decide (a = b) := by
 by_cases h : a = b <;> simp [h]
theorem y_bin {P : Program} {op : BinOp} {T : TypeId} {x y : Operand} {f : Fr} {K : Value → Prop} (h : binW op (ev f x) (ev f y) K) :
   Yields1 P (do eqGuard op T x y (ev f x) (ev f y); binOp op T (ev f x) (ev f y)) K := by
 generalize ev f x = a at *
 generalize ev f y = b at *
 cases a <;> cases b <;> simp only [binW] at h <;> first | exact h.elim | skip
 case int.int k a k' b =>
   have hg : ∀ w,(eqGuard op T x y (.int k a) (.int k' b)).run P w = .ok () w := fun w => by cases op <;> simp [eqGuard,run_pure]
   cases op <;> simp only at h
   case shl => exact ⟨_,h.2,fun w => by rw [run_bind,hg]; simp [binOp,Op.shift,run_pure,Int.not_lt.2 h.1]⟩
   case shr => exact ⟨_,h.2,fun w => by rw [run_bind,hg]; simp [binOp,Op.shift,run_pure,Int.not_lt.2 h.1]⟩
   case quo => obtain ⟨rfl,hb,hk⟩ := h; exact ⟨_,hk,fun w => by rw [run_bind,hg]; simp [binOp,Op.intDiv,run_pure,hb]⟩
   case rem => obtain ⟨rfl,hb,hk⟩ := h; exact ⟨_,hk,fun w => by rw [run_bind,hg]; simp [binOp,Op.intDiv,run_pure,hb]⟩
   case add => obtain ⟨rfl,hk⟩ := h; exact ⟨_,hk,fun w => by rw [run_bind,hg]; simp [binOp,Op.intArith,run_pure]⟩
   case sub => obtain ⟨rfl,hk⟩ := h; exact ⟨_,hk,fun w => by rw [run_bind,hg]; simp [binOp,Op.intArith,run_pure]⟩
   case mul => obtain ⟨rfl,hk⟩ := h; exact ⟨_,hk,fun w => by rw [run_bind,hg]; simp [binOp,Op.intArith,run_pure]⟩
   case and => obtain ⟨rfl,hk⟩ := h; exact ⟨_,hk,fun w => by rw [run_bind,hg]; simp only [binOp,Op.intBits,ne_eq,not_true_eq_false,if_false]; rfl⟩
   case or => obtain ⟨rfl,hk⟩ := h; exact ⟨_,hk,fun w => by rw [run_bind,hg]; simp only [binOp,Op.intBits,ne_eq,not_true_eq_false,if_false]; rfl⟩
   case xor => obtain ⟨rfl,hk⟩ := h; exact ⟨_,hk,fun w => by rw [run_bind,hg]; simp only [binOp,Op.intBits,ne_eq,not_true_eq_false,if_false]; rfl⟩
   case andNot => obtain ⟨rfl,hk⟩ := h; exact ⟨_,hk,fun w => by rw [run_bind,hg]; simp only [binOp,Op.intBits,ne_eq,not_true_eq_false,if_false]; rfl⟩
   case eql => obtain ⟨rfl,hk⟩ := h; exact ⟨_,hk,fun w => by rw [run_bind,hg]; simp [binOp,Op.intCmp,run_pure,beq_dec]⟩
   case neq => obtain ⟨rfl,hk⟩ := h; exact ⟨_,hk,fun w => by rw [run_bind,hg]; simp [binOp,Op.intCmp,run_pure,bne,beq_dec]⟩
   case lss => obtain ⟨rfl,hk⟩ := h; exact ⟨_,hk,fun w => by rw [run_bind,hg]; simp [binOp,Op.intCmp,run_pure]⟩
   case leq => obtain ⟨rfl,hk⟩ := h; exact ⟨_,hk,fun w => by rw [run_bind,hg]; simp [binOp,Op.intCmp,run_pure]⟩
   case gtr => obtain ⟨rfl,hk⟩ := h; exact ⟨_,hk,fun w => by rw [run_bind,hg]; simp [binOp,Op.intCmp,run_pure]⟩
   case geq => obtain ⟨rfl,hk⟩ := h; exact ⟨_,hk,fun w => by rw [run_bind,hg]; simp [binOp,Op.intCmp,run_pure]⟩
 case string.string a b =>
   have hg : ∀ w,(eqGuard op T x y (.string a) (.string b)).run P w = .ok () w := fun w => by cases op <;> simp [eqGuard,run_pure]
   have he : (a.toList == b.toList) = decide (a.data.toList = b.data.toList) := by rw [ByteArray.toList_eq,ByteArray.toList_eq,beq_dec]
   have hl : Op.bytesLess a.toList b.toList = Op.bytesLess a.data.toList b.data.toList := by rw [ByteArray.toList_eq,ByteArray.toList_eq]
   cases op <;> simp only at h <;> first | exact h.elim | skip
   case add => exact ⟨_,h.2,fun w => by rw [run_bind,hg]; simp only [binOp,Op.stringOp]; rw [if_neg (by have := h.1; omega)]; rfl⟩
   case eql => exact ⟨_,h,fun w => by rw [run_bind,hg]; simp only [binOp,Op.stringOp]; rw [he]; rfl⟩
   case neq => exact ⟨_,h,fun w => by rw [run_bind,hg]; simp only [binOp,Op.stringOp]; rw [he]; simp [run_pure]⟩
   case lss => exact ⟨_,h,fun w => by rw [run_bind,hg]; simp only [binOp,Op.stringOp]; rw [hl]; rfl⟩
   case leq => exact ⟨_,h,fun w => by rw [run_bind,hg]; simp only [binOp,Op.stringOp]; rw [he,hl]; rfl⟩
   case gtr => exact ⟨_,h,fun w => by rw [run_bind,hg]; simp only [binOp,Op.stringOp]; rw [he,hl]; rfl⟩
   case geq => exact ⟨_,h,fun w => by rw [run_bind,hg]; simp only [binOp,Op.stringOp]; rw [hl]; rfl⟩
theorem eqK_guard {P : Program} {op : BinOp} {T : TypeId} {x y : Operand} {k : EqK} {n : Bool} {a b : Value} {K : Value → Prop} (h : eqW k n a b K) (w : World) :
   (eqGuard op T x y a b).run P w = .ok () w := by
 cases op <;> simp only [eqGuard] <;> first | rfl | (cases a <;> cases b <;> first | rfl | (cases k <;> exact h.elim))
theorem y_eq {P : Program} {T : TypeId} {x y : Operand} {f : Fr} {d : TypeDesc} {k : EqK} {n : Bool} {K : Value → Prop} (hd : P.underlying T = some d) (hk : EqK.of d = some k)
   (h : eqW k n (ev f x) (ev f y) K) :
   Yields1 P (do eqGuard (bif n then .neq else .eql) T x y (ev f x) (ev f y); binOp (bif n then .neq else .eql) T (ev f x) (ev f y)) K := by
 have hg := fun w => eqK_guard (P := P) (op := (bif n then .neq else .eql)) (T := T) (x := x) (y := y) h w
 generalize ev f x = a at *
 generalize ev f y = b at *
 have key : ∀ (a b : Value) (r : Bool),(∀ m w,(Op.equalIn (m + 1) T a b).run P w = .ok r w) →
     (binOp .eql T a b = (do pure (.bool (← Op.equal T a b)))) → (binOp .neq T a b = (do pure (.bool (!(← Op.equal T a b))))) → K (.bool (n ^^ r)) → (∀ w,(eqGuard (bif n then .neq else .eql) T x y a b).run P w = .ok () w) →
     Yields1 P (do eqGuard (bif n then .neq else .eql) T x y a b; binOp (bif n then .neq else .eql) T a b) K := by
   intro a b r h0 h1 h2 hK hg
   have he : ∀ w,(Op.equal T a b).run P w = .ok r w := fun w => h0 9999 w
   refine ⟨_,hK,fun w => ?_⟩
   rw [run_bind,hg]
   cases n
   · simp only [cond_false,h1,run_bind,he,run_pure,Bool.false_bne]
   · simp only [cond_true,h2,run_bind,he,run_pure,Bool.true_bne]
 have hu := fun w => run_underlying' hd w
 cases d <;> simp only [EqK.of,reduceCtorEq,Option.some.injEq] at hk <;> subst hk <;> unfold eqW at h <;> split at h <;> first
   | exact h.elim
   | (rename_i he _ _; cases he; done)
   | (rename_i he; cases he; done)
   | exact key _ _ _ (fun m w => by simp only [Op.equalIn,run_bind,hu]; exact run_pure _ _ _) rfl rfl h hg
   | exact key _ _ true (fun m w => by simp [Op.equalIn,run_bind,hu,run_pure]) rfl rfl (by simpa using h) hg
   | exact key _ _ false (fun m w => by simp [Op.equalIn,run_bind,hu,run_pure]) rfl rfl (by simpa using h) hg
   | (rename_i he1 he2 he3; cases he1; done)
   | (simp_all; done)
end Go.Eng
namespace Go.Eng
open Go
theorem evl_map (f : Fr) (a : Array Operand) : a.map (ev f) = (evl f a).toArray := by apply Array.ext'; simp [evl]
theorem run_pure_fn {P : Program} {fn : Fn} {a b : Array Value} {w : World} : (Instr.makeFunc fn a b).run P w = .ok (.func fn a b) w := rfl
theorem build_run {P : Program} {T : TypeId} {f : Fr} {parts : Array (Nat × Operand)} {K : Value → Prop} (h : buildW P T f parts.toList K) :
   Yields1 P (Instr.build T (parts.map fun (i,x) => (i,ev f x))) K := by
 unfold buildW at h
 have hparts : (parts.map fun (i,x) => (i,ev f x)).toList = parts.toList.map fun p => (p.1,ev f p.2) := by simp
 split at h
 · rename_i fs z hd hz
   split at h
   · rename_i l hl
     replace h := andB.out h
     obtain ⟨hall,hp⟩ := h
     obtain ⟨cs,hk,hf⟩ := putW_fill _ _ _ hl hp
     refine ⟨_,hk,fun w => ?_⟩
     have hmap : ∀ w,(fs.mapM fun g => do pure (g.offset,← sizeOf g.type) : Sem (Array (Nat × Nat))).run P w = .ok (fs.map fun g => (g.offset,sizeT P g.type)) w := by
       intro w
       have : ∀ (l : List Field),(∀ g ∈ l,(P.info? g.type).isSome = true) → ∀ w,(l.mapM fun g => do pure (g.offset,← sizeOf g.type) : Sem (List (Nat × Nat))).run P w = .ok (l.map fun g => (g.offset,sizeT P g.type)) w := by
         intro l
         induction l with
         | nil => intro _ w; rfl
         | cons g l ih =>
           intro hg w
           rw [List.mapM_cons]
           simp only [run_bind,run_sizeOf' (hg g (by simp)),run_pure,ih (fun x hx => hg x (by simp [hx])),List.map_cons]
       have hfs := this fs.toList (fun g hg => Array.all_eq_true_iff_forall_mem.1 hall g (by simpa using hg)) w
       rw [Array.mapM_eq_mapM_toList,← bind_pure_comp,run_bind,hfs]
       show Result.ok _ _ = _
       congr 1
       apply Array.ext'; simp
     simp only [Instr.build,run_bind,zeroT_run hz,run_underlying' hd,hmap]
     rw [hparts]
     have hpl : (fun (i : Nat) => (fs.map fun (g : Field) => (g.offset,sizeT P g.type))[i]?) = sPlace P fs := by
       funext i; rw [Array.getElem?_map]; unfold sPlace; cases fs[i]? <;> rfl
     rw [hpl]
     simp only [Array.toArray_toList] at hf
     rw [hf]
     rfl
   · exact h.elim
 · rename_i n e z hd hz
   split at h
   · rename_i l hl
     replace h := andB.out h
     obtain ⟨hall,hp⟩ := h
     obtain ⟨cs,hk,hf⟩ := putW_fill _ _ _ hl hp
     refine ⟨_,hk,fun w => ?_⟩
     simp only [Instr.build,run_bind,zeroT_run hz,run_underlying' hd,run_sizeOf' hall]
     rw [hparts]
     simp only [Array.toArray_toList] at hf
     rw [hf]
     rfl
   · exact h.elim
 · exact h.elim
theorem extract_ofL (s : ByteArray) (l h : Nat) : s.extract l h = ofL ((s.data.toList.take h).drop l) := by
 apply ByteArray.ext
 apply Array.ext'
 simp [ofL,ByteArray.extract,ByteArray.copySlice,List.drop_take]
theorem slice_run {P : Program} {T : TypeId} {x : Value} {lo hi mx : Option Value} {K : Value → Prop} (h : sliceW P T x lo hi mx K) :
   Yields1 P (Instr.sliceAt T x lo hi mx) K := by
 unfold sliceW at h
 split at h
 · rename_i hd
   replace h := andB.out h
   obtain ⟨hm,h⟩ := h
   cases mx with
   | some _ => cases hm
   | none =>
     cases x <;> simp only [slsW] at h <;> try exact h.elim
     rename_i s
     have h' : bdW (none : Option Value) s.size s.size fun m => bdW hi s.size m fun h => bdW lo 0 h fun l => (fun l h (_ : Nat) => K (.string (ofL ((s.data.toList.take h).drop l)))) l h m := h
     obtain ⟨l,hh,m,hk,hr⟩ := bounds_run (P := P) (isSlice := false) (by simp) h'
     refine ⟨_,hk,fun w => ?_⟩
     simp only [Instr.sliceAt,run_bind,run_underlying' hd,Instr.slice]
     simp [hr,run_bind,run_underlying' hd,run_pure]
     apply extract_ofL
 · rename_i e hd
   replace h := andB.out h
   obtain ⟨hm,h⟩ := h
   replace h := andB.out h
   obtain ⟨he,h⟩ := h
   replace hm : mx.isSome = true → hi.isSome = true := fun hx => by rw [hx] at hm; simpa using hm
   cases x <;> simp only [sllW] at h <;> try exact h.elim
   rename_i a len cap
   obtain ⟨l,hh,m,hk,hr⟩ := bounds_run (P := P) (isSlice := true) (K := fun l h m => K (.slice (if m = l then a else a.map (·.add (l * sizeT P e))) (h - l) (m - l))) hm h
   refine ⟨_,hk,fun w => ?_⟩
   simp only [Instr.sliceAt,run_bind,run_underlying' hd,Instr.slice]
   simp [hr,run_bind,run_underlying' hd,run_pure,run_sizeOf' he]
 · rename_i n e hd
   replace h := andB.out h
   obtain ⟨hm,h⟩ := h
   replace h := andB.out h
   obtain ⟨he,h⟩ := h
   replace hm : mx.isSome = true → hi.isSome = true := fun hx => by rw [hx] at hm; simpa using hm
   cases x <;> simp only [slaW] at h <;> try exact h.elim
   rename_i a
   cases a with
   | none => exact h.elim
   | some a =>
     obtain ⟨l,hh,m,hk,hr⟩ := bounds_run (P := P) (isSlice := false) (K := fun l h m => K (.slice (some (if m = l then a else a.add (l * sizeT P e))) (h - l) (m - l))) hm h
     refine ⟨_,hk,fun w => ?_⟩
     simp [Instr.sliceAt,Instr.sureAddr,run_bind,run_underlying' hd,hr,run_pure,run_sizeOf' he]
 · exact h.elim
theorem pure_sound {P : Program} {f : Fr} {o : Oper} {K : Value → Prop} (h : pureW P f o.op K) : YieldsN P (execOp (ev f) o) K := by
 obtain ⟨dst,op,type,pos,after,guard⟩ := o
 cases op <;> simp only [pureW] at h <;> try exact h.elim
 case move x => exact ⟨_,h,fun w => rfl⟩
 case assign x => exact ⟨_,h,fun w => rfl⟩
 case pick c a b =>
   simp only [execOp]
   generalize ev f c = cv at *
   cases cv <;> simp only [pickW] at h <;> try exact h.elim
   rename_i t
   exact ⟨_,h,fun w => by cases t <;> rfl⟩
 case nilCheck x =>
   simp only [execOp]
   generalize ev f x = v at *
   cases v <;> simp only [nilW] at h <;> try exact h.elim
   case pointer a => cases a <;> first | exact h.elim | exact ⟨_,h,fun w => rfl⟩
   case func fn _ _ => cases fn <;> first | exact h.elim | exact ⟨_,h,fun w => rfl⟩
   case iface => exact ⟨_,h,fun w => rfl⟩
 case binOp op T x y yT =>
   simp only [execOp]
   refine YieldsN.of1 ?_
   unfold cmpW at h
   cases hd : P.underlying T with
   | none =>
     rw [hd] at h
     exact y_bin (by cases op <;> exact h)
   | some d =>
     rw [hd] at h
     cases hk : EqK.of d with
     | none => simp only [hk] at h; exact y_bin (by cases op <;> exact h)
     | some k =>
       simp only [hk] at h
       cases op <;> first
         | exact y_eq (n := false) hd hk h
         | exact y_eq (n := true) hd hk h
         | exact y_bin h
 case unOp op T x =>
   simp only [execOp]
   refine YieldsN.of1 ?_
   generalize ev f x = v at *
   cases op <;> cases v <;> simp only [unW] at h <;> first
     | exact h.elim
     | exact ⟨_,h,fun w => rfl⟩
 case convert s d x =>
   simp only [execOp]
   refine YieldsN.of1 ?_
   unfold convW at h
   generalize ev f x = v at *
   split at h
   · rename_i k1 k2 hs hd
     cases v <;> simp only [cvtW] at h <;> try exact h.elim
     exact ⟨_,h,fun w => by simp [convert,run_bind,run_underlying' hs,run_underlying' hd,Conv.intToInt,run_pure]⟩
   · rename_i k1 hs hd
     cases v <;> simp only [cvsW] at h <;> try exact h.elim
     · exact ⟨_,h,fun w => by simp [convert,run_bind,run_underlying' hs,run_underlying' hd,Conv.intToString,run_pure]⟩
     · exact ⟨_,h,fun w => by simp [convert,run_bind,run_underlying' hs,run_underlying' hd,run_pure]⟩
   · rename_i hs hd
     cases v <;> simp only [cvsW] at h <;> try exact h.elim
     · exact ⟨_,h,fun w => by simp [convert,run_bind,run_underlying' hs,run_underlying' hd,Conv.intToString,run_pure]⟩
     · exact ⟨_,h,fun w => by simp [convert,run_bind,run_underlying' hs,run_underlying' hd,run_pure]⟩
   · exact h.elim
 case makeInterface T x =>
   simp only [execOp]
   refine YieldsN.of1 ?_
   cases hd : P.underlying T with
   | none => rw [hd] at h; exact h.elim
   | some d =>
     rw [hd] at h
     cases d <;> first
       | exact h.elim
       | exact ⟨_,h,fun w => by simp [Instr.makeInterface,run_bind,run_underlying' hd,run_pure]⟩
 case makeFunc fn first cap =>
   simp only [execOp]
   refine YieldsN.of1 ⟨_,h,fun w => by rw [run_pure_fn,evl_map,evl_map]⟩
 case field T x i =>
   simp only [execOp]
   refine YieldsN.of1 ?_
   split at h
   · rename_i fs hd
     split at h
     · rename_i g hg
       replace h := andB.out h
       obtain ⟨h1,h2⟩ := h
       obtain ⟨cs,hx,v,hk,hr⟩ := part_run h1 h2
       exact ⟨v,hk,fun w => by simp [Instr.field,run_bind,run_underlying' hd,hg,hx,asAgg,run_pure,hr]⟩
     · exact h.elim
   · exact h.elim
 case fieldAddr T x i =>
   simp only [execOp]
   refine YieldsN.of1 ?_
   split at h
   · rename_i fs hd
     split at h
     · rename_i g hg
       replace h := andB.out h
       obtain ⟨h1,h2⟩ := h
       replace h1 : sizeT P g.type ≠ 0 := fun hz => by rw [hz] at h1; simp at h1
       generalize ev f x = v at *
       cases v <;> simp only [fldW] at h2 <;> try exact h2.elim
       rename_i a
       cases a with
       | none => exact h2.elim
       | some a =>
         have hinfo : (P.info? g.type).isSome = true := by
           unfold sizeT at h1
           cases hi : P.info? g.type with
           | none => rw [hi] at h1; exact absurd rfl h1
           | some i => rfl
         exact ⟨_,h2,fun w => by simp [Instr.fieldAt,run_bind,run_underlying' hd,hg,Instr.sureAddr,run_pure,fieldPlace,run_sizeOf' hinfo,h1]⟩
     · exact h.elim
   · exact h.elim
 case indexAddr T x i =>
   simp only [execOp]
   refine YieldsN.of1 ?_
   unfold indexAddrW at h
   generalize ev f x = v at *
   generalize ev f i = iv at *
   split at h
   · rename_i e hd
     replace h := andB.out h
     obtain ⟨he,h⟩ := h
     unfold ixaW at h
     split at h
     · rename_i a n cap k j _
       obtain ⟨h0,h1,hk⟩ := h
       exact ⟨_,hk,fun w => by simp [Instr.indexAt,asIntOf,run_bind,run_underlying' hd,run_pure,h0,h1,run_sizeOf' he]⟩
     · rename_i heq; cases heq
     · exact h.elim
   · rename_i n e hd
     replace h := andB.out h
     obtain ⟨he,h⟩ := h
     unfold ixaW at h
     split at h
     · rename_i heq; cases heq
     · rename_i n' a k j heq
       cases heq
       obtain ⟨h0,h1,hk⟩ := h
       exact ⟨_,hk,fun w => by simp [Instr.indexAt,asIntOf,run_bind,run_underlying' hd,run_pure,h0,h1,Instr.sureAddr,run_sizeOf' he]⟩
     · exact h.elim
   · exact h.elim
 case index T x i =>
   simp only [execOp]
   refine YieldsN.of1 ?_
   unfold indexW at h
   generalize ev f x = v at *
   generalize ev f i = iv at *
   split at h
   · rename_i hd
     unfold ixsW at h
     split at h
     · rename_i s k j
       obtain ⟨h0,b,hb,hk⟩ := h
       have hb' : s[j.toNat]? = some b := by
         rw [← hb]
         show (if h : j.toNat < s.size then some s[j.toNat] else none) = _
         by_cases hlt : j.toNat < s.size
         · rw [dif_pos hlt,List.getElem?_eq_getElem (by simpa using hlt)]; rfl
         · rw [dif_neg hlt,List.getElem?_eq_none (by simpa using hlt)]
       exact ⟨_,hk,fun w => by simp [Instr.index,asIntOf,run_bind,run_underlying' hd,run_pure,h0,hb']⟩
     · exact h.elim
   · rename_i n e hd
     replace h := andB.out h
     obtain ⟨he,h⟩ := h
     cases iv <;> simp only [ixgW] at h <;> try exact h.elim
     rename_i k j
     obtain ⟨h0,h1,hp⟩ := h
     obtain ⟨cs,hx,u,hk,hr⟩ := part_run (P := P) he hp
     exact ⟨u,hk,fun w => by simp [Instr.index,asIntOf,run_bind,run_underlying' hd,run_pure,hx,h0,h1,run_sizeOf' (underlying_info he),hr]⟩
   · exact h.elim
 case slice T x lo hi mx =>
   simp only [execOp]
   exact YieldsN.of1 (slice_run h)
 case extract t i =>
   simp only [execOp]
   refine YieldsN.of1 ?_
   generalize ev f t = v at *
   cases v <;> simp only [extW] at h <;> try exact h.elim
   split at h
   · rename_i v hv
     exact ⟨_,h,fun w => by simp [Instr.extract,hv,run_pure]⟩
   · exact h.elim
 case build T parts =>
   simp only [execOp]
   exact YieldsN.of1 (build_run h)
 case call c =>
   obtain ⟨callee,args,argTypes⟩ := c
   cases callee <;> simp only at h <;> try exact h.elim
   rename_i b
   have hargs : args.map (ev f) = (evl f args).toArray := by rw [evl_map]
   simp only [execOp,resolve,hargs]
   generalize evl f args = az at *
   unfold pureCallW at h
   split at h
   · rename_i x
     split at h
     · rename_i T hT
       split at h
       · rename_i hd
         unfold lensW at h
         split at h
         · exact ⟨_,h,fun w => by simp [run_bind,run_pure,invoke,builtin,Builtin.len_,hT,run_underlying' hd,goInt]⟩
         · exact h.elim
       · rename_i e hd
         unfold lenlW at h
         split at h
         · exact ⟨_,h,fun w => by simp [run_bind,run_pure,invoke,builtin,Builtin.len_,hT,run_underlying' hd,goInt]⟩
         · exact h.elim
       · rename_i n e hd
         exact ⟨_,h,fun w => by simp [run_bind,run_pure,invoke,builtin,Builtin.len_,hT,run_underlying' hd,goInt]⟩
       · exact h.elim
     · exact h.elim
   · rename_i x
     split at h
     · rename_i T hT
       split at h
       · rename_i e hd
         unfold capW at h
         split at h
         · exact ⟨_,h,fun w => by simp [run_bind,run_pure,invoke,builtin,Builtin.cap_,hT,run_underlying' hd,goInt]⟩
         · exact h.elim
       · exact h.elim
     · exact h.elim
   · rename_i x y
     unfold minW at h
     split at h
     · exact ⟨_,h,fun w => by simp [run_bind,run_pure,invoke,builtin,Builtin.min_,Builtin.min2]⟩
     · exact h.elim
   · rename_i x y z
     unfold min3W at h
     split at h
     · exact ⟨_,h,fun w => by simp [run_bind,run_pure,invoke,builtin,Builtin.min_,Builtin.min2]⟩
     · exact h.elim
   · rename_i x y
     unfold maxW at h
     split at h
     · exact ⟨_,h,fun w => by simp [run_bind,run_pure,invoke,builtin,Builtin.max_,Builtin.max2]⟩
     · exact h.elim
   · exact h.elim
end Go.Eng
namespace Go.Eng
open Go
def isC : Operand → Bool
 | .const _ => true
 | _ => false
def stand (c : Bool) : Operand := bif c then .const undef else .tmp 0
def eqQ (P : Program) (op : BinOp) (T : TypeId) (cx cy : Bool) (a b : Value) (w : World) (K : Value → Prop) : Prop :=
 semQ P (do eqGuard op T (stand cx) (stand cy) a b; binOp op T a b) w K
def readW (P : Program) (f : Fr) (o : Oper) (w : World) (K : Value → Prop) : Prop :=
 match o.op with
 | .load T a => andB (P.underlying T).isSome (ldW (isAggT P T) (sizeT P T) (ev f a) w K)
 | .lookup T x i ok => semQ P (Instr.lookup T (ev f x) (ev f i) ok) w K
 | .binOp op T x y _ => eqQ P op T (isC x) (isC y) (ev f x) (ev f y) w K
 | .convert s d x => semQ P (convert s d (ev f x)) w K
 | .typeAssert x xT aT ok => semQ P (Instr.typeAssert (ev f x) xT aT ok) w K
 | .entry it => semQ P (Instr.entry (ev f it)) w K
 | .call { callee := .builtin b,args,argTypes } => (match b with
     | .len => semQ P (Builtin.len_ argTypes o.type (evl f args).toArray) w K
     | _ => False)
 | _ => False
def isRead (P : Program) : Op → Bool
 | .load .. | .lookup .. | .binOp .. | .typeAssert .. | .entry .. => true
 | .convert s d _ => (match P.underlying s,P.underlying d with | some (.slice _),some .string => true | _,_ => false)
 | .call { callee := .builtin b,.. } => (match b with | .len => true | _ => false)
 | _ => false
def zerosOf (n : Nat) (z : List Value) : List Value := match n with | 0 => [] | n + 1 => z ++ zerosOf n z
def buildSliceW (P : Program) (T : TypeId) (len : Nat) (f : Fr) (parts : List (Nat × Operand)) (w : World) (K : Value → World → Prop) : Prop :=
 match P.underlying T with
 | some (.slice e) => (match zeroT P e,partsAt (fun i => some (i * sizeT P e,sizeT P e)) f parts with
     | some z,some l => andB (P.info? e).isSome (andB (Nat.beq z.cells.size (sizeT P e)) (andB (Nat.ble (len * sizeT P e) 1000) (bslW e len (zerosOf len z.cells.toList) l w K)))
     | _,_ => False)
 | _ => False
def effW [HX] (P : Program) (f : Fr) (o : Oper) (w : World) (K : Value → World → Prop) : Prop :=
 match o.op with
 | .alloc T => (match zeroT P T with | some z => allocW T z.cells.toList w K | none => False)
 | .box T x => boxW T (ev f x) w K
 | .buildSlice T n parts => buildSliceW P T n f parts.toList w K
 | .store T a x => andB (P.info? T).isSome (stW (sizeT P T) (ev f a) (ev f x) w (K undef))
 | .mapUpdate T m k x | .insert T m k x => semU P (Instr.mapUpdate T (ev f m) (ev f k) (ev f x)) w (K undef)
 | .makeMap T r => semE P (Instr.makeMap T (r.map (ev f))) w K
 | .makeSlice T l c => semE P (Instr.makeSlice T (ev f l) (ev f c)) w K
 | .range T x => semE P (Instr.range T (ev f x)) w K
 | .next it s => semE P (Instr.next (ev f it) s o.type) w K
 | .convert s d x => semE P (convert s d (ev f x)) w K
 | .call { callee := .value x,args,.. } => (match x with
     | .func g => callF P g (evl f args) w K
     | _ => callV P (ev f x) (evl f args) w K)
 | .call { callee := .invoke r m,args,.. } => semN P (callMethod (ev f r) m (evl f args).toArray) w K
 | .panic x => pncW (ev f x) w
 | .call { callee := .builtin b,args,argTypes } => (match b with
     | .append => semE P (Builtin.append_ argTypes o.type (evl f args).toArray) w K
     | .copy => semE P (Builtin.copy_ argTypes o.type (evl f args).toArray) w K
     | .delete => semE P (Builtin.delete_ argTypes o.type (evl f args).toArray) w K
     | .clear => semE P (Builtin.clear_ argTypes o.type (evl f args).toArray) w K
     | .panic => pncW ((evl f args).getD 0 undef) w
     | _ => False)
 | _ => False
def anyW [HX] (P : Program) (f : Fr) (o : Oper) (w : World) (K : Value → World → Prop) : Prop :=
 match isPure P o.op with
 | true => pureW P f o.op (fun v => K v w)
 | false => (match isRead P o.op with
   | true => readW P f o w (fun v => K v w)
   | false => effW P f o w K)
theorem run_load1 {P : Program} {a : Addr} {w : World} {v : Value} (h : w.cell? a = some v) : (load a).run P w = .ok v w := by
 simp [load,Sem.run,h]
theorem loadCellsFrom_run {P : Program} {a : Addr} {w : World} : ∀ (n i : Nat) (l : List Value) (acc : Array Value),cellsAt w a i n = some l →
   (loadCellsFrom a i n acc).run P w = .ok (acc ++ l.toArray) w
 | 0,i,l,acc,h => by
   simp only [cellsAt,Option.some.injEq] at h
   subst h
   simp [loadCellsFrom,run_pure]
 | n + 1,i,l,acc,h => by
   simp only [cellsAt] at h
   cases hc : w.cell? (a.add i) with
   | none => simp [hc] at h
   | some v =>
     cases hr : cellsAt w a (i + 1) n with
     | none => simp [hc,hr] at h
     | some l' =>
       simp only [hc,hr,Option.map_some,Option.some.injEq] at h
       subst h
       simp only [loadCellsFrom,run_bind,run_load1 hc,loadCellsFrom_run n (i + 1) l' _ hr]
       simp
theorem ld_run {P : Program} {T : TypeId} {x : Value} {w : World} {K : Value → Prop} (hT : (P.underlying T).isSome = true) (h : ldW (isAggT P T) (sizeT P T) x w K) :
   ∃ v,K v ∧ (Instr.loadAt T x).run P w = .ok v w := by
 cases x <;> simp only [ldW] at h <;> try exact h.elim
 rename_i a
 cases a with
 | none => exact h.elim
 | some a =>
   simp only at h
   cases ha : isAggT P T with
   | true =>
     rw [ha] at h
     obtain ⟨l,hl,hk⟩ := h
     refine ⟨_,hk,?_⟩
     simp [Instr.loadAt,Instr.sureAddr,loadVar,run_bind,run_pure,run_isAgg' hT,ha,run_sizeOf' (underlying_info hT),loadCells,loadCellsFrom_run _ _ _ _ hl]
   | false =>
     rw [ha] at h
     obtain ⟨v,hv,hk⟩ := h
     refine ⟨_,hk,?_⟩
     simp [Instr.loadAt,Instr.sureAddr,loadVar,run_bind,run_pure,run_isAgg' hT,ha]
     first | exact run_load1 hv | (rw [hv])
theorem eqGuard_stand (op : BinOp) (T : TypeId) (x y : Operand) (a b : Value) : eqGuard op T (stand (isC x)) (stand (isC y)) a b = eqGuard op T x y a b := by
 cases x <;> cases y <;> rfl
theorem read_sound {P : Program} {f : Fr} {o : Oper} {w : World} {K : Value → Prop} (h : readW P f o w K) :
   ∃ v,K v ∧ (execOp (ev f) o).run P w = .ok (.value v) w := by
 have key : ∀ (s : Sem Value),(∃ v,K v ∧ s.run P w = .ok v w) → ∃ v,K v ∧ (do pure (.value (← s)) : Sem Next).run P w = .ok (.value v) w := by
   rintro s ⟨v,hk,hr⟩
   exact ⟨v,hk,by rw [run_bind,hr]; rfl⟩
 have key2 : ∀ (s : Sem Value),semQ P s w K → ∃ v,K v ∧ s.run P w = .ok v w := fun s ⟨v,hr,hk⟩ => ⟨v,hk,hr⟩
 obtain ⟨dst,op,type,pos,after,guard⟩ := o
 cases op <;> simp only [readW] at h <;> try exact h.elim
 case load T a => simp only [execOp]; exact key _ (ld_run (andB.out h).1 (andB.out h).2)
 case lookup T x i ok => simp only [execOp]; exact key _ (key2 _ h)
 case binOp op T x y yT =>
   simp only [execOp]
   refine key _ (key2 _ ?_)
   unfold eqQ at h
   rw [eqGuard_stand] at h
   exact h
 case convert s d x => simp only [execOp]; exact key _ (key2 _ h)
 case typeAssert x xT aT ok => simp only [execOp]; exact key _ (key2 _ h)
 case entry it => simp only [execOp]; exact key _ (key2 _ h)
 case call c =>
   obtain ⟨callee,args,argTypes⟩ := c
   cases callee <;> simp only at h <;> try exact h.elim
   rename_i b
   cases b <;> simp only at h <;> try exact h.elim
   simp only [execOp,resolve,evl_map]
   obtain ⟨v,hk,hr⟩ := key2 _ h
   exact ⟨v,hk,by simp [run_bind,run_pure,invoke,builtin,hr]⟩
theorem storeCells_run {P : Program} {a : Addr} {K : World → Prop} : ∀ (l : List Value) (i : Nat) (w : World),stCells a l i w K → ∃ w',K w' ∧ (storeCells a l i).run P w = .ok () w'
 | [],i,w,h => ⟨w,h,rfl⟩
 | v :: r,i,w,h => by
   obtain ⟨h1,h2,h3,h4⟩ := h
   obtain ⟨w',hk,hr⟩ := storeCells_run (P := P) r (i + 1) _ h4
   refine ⟨w',hk,?_⟩
   obtain ⟨old,ho⟩ := Option.isSome_iff_exists.1 h2
   have hs : (store (a.add i) v).run P w = .ok () (w.setCell (a.add i) v) := by
     cases v <;> first
       | (simp [one1] at h1; done)
       | (simp [store,Sem.run,ho,h3]; done)
   simp only [storeCells,run_bind,hs,hr]
theorem st_run {P : Program} {T : TypeId} {x v : Value} {w : World} {K : World → Prop} (hT : (P.info? T).isSome = true) (h : stW (sizeT P T) x v w K) :
   ∃ w',K w' ∧ (Instr.storeAt T x v).run P w = .ok () w' := by
 cases x <;> simp only [stW] at h <;> try exact h.elim
 rename_i a
 cases a with
 | none => exact h.elim
 | some a =>
   obtain ⟨h1,h2⟩ := h
   obtain ⟨w',hk,hr⟩ := storeCells_run (P := P) _ _ _ h2
   refine ⟨w',hk,?_⟩
   simp [Instr.storeAt,Instr.sureAddr,storeVar,run_bind,run_pure,run_sizeOf' hT,h1,hr]
theorem zerosOf_range {z : Array Value} {size : Nat} (hz : z.size = size) : ∀ len,((Array.range (len * size)).map (z[· % z.size]!)) = (zerosOf len z.toList).toArray := by
 subst hz
 have hlen : ∀ len,(zerosOf len z.toList).length = len * z.size := by
   intro len
   induction len with
   | zero => simp [zerosOf]
   | succ n ih => simp [zerosOf,ih,Nat.succ_mul,Nat.add_comm]
 intro len
 apply Array.ext (by simp [hlen])
 intro i h1 h2
 simp only [Array.getElem_map,Array.getElem_range,List.getElem_toArray]
 simp at h1
 have : ∀ (len i : Nat) (h : i < (zerosOf len z.toList).length),(zerosOf len z.toList)[i] = z[i % z.size]! := by
   intro len
   induction len with
   | zero => intro i h; simp [zerosOf] at h
   | succ n ih =>
     intro i h
     have hpos : 0 < z.size := by
       rcases Nat.eq_zero_or_pos z.size with h0 | h0
       · rw [hlen,h0] at h; simp at h
       · exact h0
     simp only [zerosOf,List.getElem_append]
     split
     · rename_i hi
       have hi' : i < z.size := by simpa using hi
       rw [Nat.mod_eq_of_lt hi',getElem!_pos z i hi']
       simp
     · rename_i hi
       have hi' : z.size ≤ i := by simpa using hi
       rw [ih]
       simp only [Array.length_toList]
       congr 1
       rw [Nat.mod_eq_sub_mod hi']
 rw [this]
theorem eff_sound [HX] {P : Program} {f : Fr} {o : Oper} {w : World} {K : Value → World → Prop} (h : effW P f o w K) : Res P K ((execOp (ev f) o).run P w) := by
  have keyV : ∀ (s : Sem Value), semE P s w K → Res P K ((do pure (.value (← s)) : Sem Next).run P w) := by
    intro s hs
    unfold semE at hs
    rw [run_bind]
    cases hr : s.run P w with
    | ok v w' => rw [hr] at hs; exact hs
    | halt x w' => rw [hr] at hs; exact hs.elim
  have keyU : ∀ (s : Sem Unit), semU P s w (K undef) → Res P K ((do s; pure .skip : Sem Next).run P w) := by
    intro s hs
    unfold semU at hs
    rw [run_bind]
    cases hr : s.run P w with
    | ok v w' => rw [hr] at hs; exact hs
    | halt x w' => rw [hr] at hs; exact hs.elim
  have keyP : ∀ (x : Value), pncW x w → Res P K ((do pure (.value (← Instr.panic x)) : Sem Next).run P w) := by
    intro x hs
    unfold pncW at hs
    split at hs
    · exact hs
    · exact hs.elim
  obtain ⟨dst, op, type, pos, after, guard⟩ := o
  cases op <;> simp only [effW] at h <;> try exact h.elim
  case alloc T =>
    cases hz : zeroT P T with
    | none => rw [hz] at h; exact h.elim
    | some z =>
      rw [hz] at h
      simp only [execOp]
      have hr : (Instr.alloc T true (.tuple #[])).run P w = .ok (.pointer (some ⟨w.heap.size, 0, none⟩)) (w.alloc (.cells z.cells T)) := by
        simp [Instr.alloc, run_bind, zeroT_run hz, newVar, newRow, newObj, Sem.run, run_pure]
      rw [run_bind, hr]
      exact h
  case box T x =>
    simp only [execOp]
    have hr : (Instr.box T (ev f x)).run P w = .ok (.pointer (some ⟨w.heap.size, 0, none⟩)) (w.alloc (.cells (ev f x).cells T)) := by
      simp [Instr.box, run_bind, newVar, newRow, newObj, Sem.run, run_pure]
    rw [run_bind, hr]
    exact h
  case buildSlice T n parts =>
    simp only [execOp]
    unfold buildSliceW at h
    split at h
    · rename_i e hd
      split at h
      · rename_i z l hz hl
        replace h := andB.out h
        obtain ⟨h1, h⟩ := h
        replace h := andB.out h
        obtain ⟨h2, h⟩ := h
        replace h := andB.out h
        obtain ⟨h3, h4⟩ := h
        replace h2 := Nat.eq_of_beq_eq_true h2
        replace h3 := Nat.le_of_ble_eq_true h3
        unfold bslW at h4
        obtain ⟨cs, hk, hf⟩ := putW_fill _ _ _ hl h4
        have hparts : (parts.map fun (i, x) => (i, ev f x)).toList = parts.toList.map fun p => (p.1, ev f p.2) := by simp
        have hr : (Instr.buildSlice T n (parts.map fun (i, x) => (i, ev f x))).run P w = .ok (.slice (some ⟨w.heap.size, 0, none⟩) n n) (w.alloc (.cells cs.toArray e)) := by
          simp only [Instr.buildSlice, run_bind, run_underlying' hd, run_sizeOf' h1]
          rw [if_neg (by omega)]
          have hcells := zerosOf_range (z := z.cells) h2 n
          by_cases h0 : n * sizeT P e = 0
          · rw [if_pos h0]
            simp only [run_bind, run_pure]
            have hc : ((Array.range (n * sizeT P e)).map ((#[] : Array Value)[· % (#[] : Array Value).size]!)) = (zerosOf n z.cells.toList).toArray := by
              rw [← hcells, h0]; simp [show Array.range 0 = #[] from rfl]
            rw [hc, hparts, hf]
            simp [run_bind, newRow, newObj, Sem.run, run_pure]
          · rw [if_neg h0]
            simp only [run_bind, run_pure, zeroT_run hz]
            rw [hcells, hparts, hf]
            simp [run_bind, newRow, newObj, Sem.run, run_pure]
        rw [run_bind, hr]
        exact hk
      · exact h.elim
    · exact h.elim
  case store T a x =>
    simp only [execOp]
    obtain ⟨w', hk, hr⟩ := st_run (andB.out h).1 (andB.out h).2
    rw [run_bind, hr]
    exact hk
  case mapUpdate T m k x => simp only [execOp]; exact keyU _ h
  case insert T m k x => simp only [execOp]; exact keyU _ h
  case makeMap T r => simp only [execOp]; exact keyV _ h
  case makeSlice T l c => simp only [execOp]; exact keyV _ h
  case range T x => simp only [execOp]; exact keyV _ h
  case next it s => simp only [execOp]; exact keyV _ h
  case panic x =>
    simp only [execOp]
    exact keyP _ h
  case convert s d x => simp only [execOp]; exact keyV _ h
  case call c =>
    obtain ⟨callee, args, argTypes⟩ := c
    cases callee with
    | value x =>
      simp only [execOp, resolve, evl_map]
      cases x <;> simp only at h
      case func g =>
        unfold callF at h
        have : (do let d ← (Deferred.ofValue (ev f (.func g)) (evl f args).toArray); invoke d.target d.args : Sem Next) = callFunc g (evl f args).toArray := by
          show callFunc g (#[] ++ (evl f args).toArray ++ #[]) = _
          simp
        rw [this]
        exact h
      all_goals exact h
    | invoke r m =>
      simp only at h
      simp only [execOp, resolve, evl_map]
      have : (do let d ← (pure { target := .fn (.method m) #[], args := #[ev f r] ++ (evl f args).toArray } : Sem Deferred); invoke d.target d.args : Sem Next) = callMethod (ev f r) m (evl f args).toArray := by
        show invoke (.fn (.method m) #[]) (#[ev f r] ++ (evl f args).toArray) = _
        simp [invoke]
      rw [this]
      exact h
    | builtin b =>
      simp only [execOp, resolve, evl_map]
      cases b <;> simp only at h <;> first
        | exact h.elim
        | exact keyV _ h
        | (have e : (evl f args).getD 0 undef = (evl f args).toArray.getD 0 .nilIface := by
             cases hl : evl f args with
             | nil => rw [hl] at h; exact h.elim
             | cons a r => rfl
           rw [e] at h
           exact keyP _ h)
theorem any_sound [HX] {P : Program} {f : Fr} {o : Oper} {w : World} {K : Value → World → Prop} (h : anyW P f o w K) : Res P K ((execOp (ev f) o).run P w) := by
 unfold anyW at h
 cases hp : isPure P o.op with
 | true =>
   rw [hp] at h
   simp only at h
   obtain ⟨v,hk,hr⟩ := pure_sound (o := o) h
   rw [hr]
   exact hk
 | false =>
   rw [hp] at h
   simp only at h
   cases hq : isRead P o.op with
   | true =>
     rw [hq] at h
     simp only at h
     obtain ⟨v,hk,hr⟩ := read_sound (o := o) h
     rw [hr]
     exact hk
   | false =>
     rw [hq] at h
     exact eff_sound h
end Go.Eng
namespace Go.Eng
open Go
def memb : List Nat → Nat → Bool
 | [],_ => false
 | x :: r,i => bif Nat.beq x i then true else memb r i
theorem memb_iff {l : List Nat} {i : Nat} : memb l i = true ↔ i ∈ l := by
 induction l with
 | nil => simp [memb]
 | cons x r ih =>
   simp only [memb,List.mem_cons]
   cases h : Nat.beq x i with
   | true => simp [Nat.eq_of_beq_eq_true h]
   | false =>
     have : ¬ i = x := fun e => by subst e; simp at h
     simp [this,ih]
def isB (v : Value) (want : Bool) : Bool := match v with | .bool b => b == want | _ => false
def dstOf (ops : List Oper) (g : Nat) : Option Nat := match ops[g]? with | some o => o.dst | none => none
def yv (ops : List Oper) (f : Fr) (g : Nat) (want : Bool) : Bool := match dstOf ops g with | some d => isB (f d) want | none => false
def wantF (ops : List Oper) (f : Fr) (o : Oper) : Bool := match o.guard with | none => true | some (g,want) => yv ops f g want
def Ag (n : Nat) (D : List Deferred) (f : Fr) (a : Act) : Prop := a.defers = D ∧ a.tmps.size = n ∧ ∀ t,a.tmps.getD t undef = f t
theorem ev_eq {f : Fr} {a : Act} {x : Operand} (h : ∀ t,x = .tmp t → a.tmps.getD t undef = f t) : a.eval x = ev f x := by
 cases x <;> first | rfl | exact h _ rfl
theorem eval_fun {n : Nat} {D : List Deferred} {f : Fr} {a : Act} (h : Ag n D f a) : a.eval = ev f := funext fun _ => ev_eq fun t _ => h.2.2 t
theorem wanted_eq {ops : List Oper} {f : Fr} {a : Act} {o : Oper} (h : ∀ g want d,o.guard = some (g,want) → dstOf ops g = some d → a.tmps.getD d undef = f d) :
   Region.wanted o (yielded ops.toArray a.tmps) = wantF ops f o := by
 unfold Region.wanted wantF
 cases hg : o.guard with
 | none => rfl
 | some gw =>
   obtain ⟨g,want⟩ := gw
   have hy : yielded ops.toArray a.tmps g = match dstOf ops g with | some d => (match f d with | .bool b => some b | _ => none) | none => none := by
     unfold yielded
     have h' := h g want
     unfold dstOf at *
     simp only [List.getElem?_toArray]
     cases hx : ops[g]? with
     | none => rfl
     | some o' =>
       rw [hx] at h'
       cases hd : o'.dst with
       | none => simp [hd]
       | some d =>
         have hfd := h' d hg hd
         simp only [Option.bind_some,hd]
         rw [← hfd]
         rcases Nat.lt_or_ge d a.tmps.size with hlt | hge
         · have e1 : a.tmps[d]? = some a.tmps[d] := by simp [hlt]
           have e2 : a.tmps.getD d undef = a.tmps[d] := by simp [hlt]
           rw [e1,e2]
           generalize a.tmps[d] = x
           cases x <;> rfl
         · simp [Array.getElem?_eq_none hge,undef,Array.getD,Nat.not_lt.2 hge]
   simp only [yv,hy]
   cases hd : dstOf ops g with
   | none => simp
   | some d => simp only [isB]; cases f d <;> simp
theorem put_size (a : Act) (d : Option Nat) (v : Value) : (a.put d v).tmps.size = a.tmps.size := by cases d <;> simp [Act.put]
theorem put_defers (a : Act) (d : Option Nat) (v : Value) : (a.put d v).defers = a.defers := by cases d <;> rfl
theorem put_get (a : Act) (d : Nat) (v : Value) (t : Nat) (hd : d < a.tmps.size) : (a.put (some d) v).tmps.getD t undef = if t = d then v else a.tmps.getD t undef := by
 simp only [Act.put,Array.getD_eq_getD_getElem?,Array.getElem?_setIfInBounds]
 by_cases h : t = d
 · subst h; simp [hd]
 · rw [if_neg h,if_neg (Ne.symm h)]
theorem upd_some (f : Fr) (d : Nat) (v : Value) (t : Nat) : upd f (some d) v t = if t = d then v else f t := by
 simp only [upd]
 by_cases h : t = d
 · subst h; simp
 · have : Nat.beq t d = false := by
     cases hb : Nat.beq t d with
     | false => rfl
     | true => exact absurd (Nat.eq_of_beq_eq_true hb) h
   simp [this,h]
theorem Ag.put {n : Nat} {D : List Deferred} {f : Fr} {a : Act} {d : Option Nat} (h : Ag n D f a) (hd : ∀ t,d = some t → t < n) (v : Value) : Ag n D (upd f d v) (a.put d v) := by
 refine ⟨by rw [put_defers]; exact h.1,by rw [put_size]; exact h.2.1,fun t => ?_⟩
 cases d with
 | none => exact h.2.2 t
 | some d => rw [put_get _ _ _ _ (by rw [h.2.1]; exact hd d rfl),upd_some,h.2.2]
structure DE where
 fl : List Nat
 anc : List (List Nat)
def bindsOn (o : Oper) : List Nat := (o.after.toList.filter (Region.binds .any)).map (·.on)
def allIn (done : List Nat) : List Nat → Bool
 | [] => true
 | x :: r => bif memb done x then allIn done r else false
theorem allIn_iff {done l : List Nat} : allIn done l = true ↔ ∀ x ∈ l,x ∈ done := by
 induction l with
 | nil => simp [allIn]
 | cons x r ih =>
   simp only [allIn,List.mem_cons,forall_eq_or_imp]
   cases h : memb done x with
   | true => simp [memb_iff.1 h,ih]
   | false =>
     have : x ∉ done := fun e => by simp [memb_iff.2 e] at h
     simp [this]
def nextFl (ops : List Oper) (done : List Nat) : List Nat → Option (Nat × Oper)
 | [] => none
 | i :: r => bif memb done i then nextFl ops done r else
     (match ops[i]? with
      | some o => bif allIn done (bindsOn o) then some (i,o) else nextFl ops done r
      | none => nextFl ops done r)
def effs (ops : List Oper) (fl done : List Nat) : Nat → List Oper → List (Nat × Oper)
 | _,[] => []
 | i,o :: r => bif (bif memb done i then false else (bif memb fl i then false else allIn done (bindsOn o))) then (i,o) :: effs ops fl done (i + 1) r else effs ops fl done (i + 1) r
def anyQ (P : Program) (f : Fr) (o : Oper) (w : World) (K : Value → Prop) : Prop :=
 match isPure P o.op with
 | true => pureW P f o.op K
 | false => readW P f o w K
def GqW (c : Bool) (A : (Value → Prop) → Prop) (B : Value → Prop) : Prop := ∃ v,(c = true → A (fun x => x = v)) ∧ (c = false → v = undef) ∧ B v
def GeW (c : Bool) (w : World) (A : (Value → World → Prop) → Prop) (B : Value → World → Prop) : Prop := (c = true → A B) ∧ (c = false → B undef w)
def qfW (P : Program) (ops : List Oper) (f : Fr) (o : Oper) (w : World) (K : Value → Prop) : Prop :=
 match o.guard with
 | none => anyQ P f o w K
 | some (g,want) => GqW (yv ops f g want) (anyQ P f o w) K
def geW [HX] (P : Program) (ops : List Oper) (f : Fr) (o : Oper) (w : World) (K : Value → World → Prop) : Prop :=
 match o.guard with
 | none => anyW P f o w K
 | some (g,want) => GeW (yv ops f g want) w (anyW P f o w) K
def stabW (P : Program) (ops : List Oper) (f : Fr) (w : World) (rest : Prop) : List Nat → Prop
 | [] => rest
 | i :: r => match ops[i]? with
   | some o => (match o.dst with
     | some d => (match isPure P o.op with
       | true => stabW P ops f w rest r
       | false =>
         ((match o.guard with
           | none => readW P f o w (fun x => x = f d)
           | some (g,want) => yv ops f g want = true → readW P f o w (fun x => x = f d)) ∧ stabW P ops f w rest r))
     | none => stabW P ops f w rest r)
   | none => stabW P ops f w rest r
def notIn (l : List Nat) : List Nat → List Nat
 | [] => []
 | x :: r => bif memb l x then notIn l r else x :: notIn l r
theorem mem_notIn {l r : List Nat} {x : Nat} (h : x ∈ r) (hl : x ∉ l) : x ∈ notIn l r := by
 induction r with
 | nil => cases h
 | cons y r ih =>
   simp only [notIn]
   rcases List.mem_cons.1 h with rfl | h
   · have : memb l x = false := by
       cases hm : memb l x with
       | false => rfl
       | true => exact absurd (memb_iff.1 hm) hl
     simp [this]
   · cases hm : memb l y with
     | true => exact ih h
     | false => simp [ih h]
def tallW : Prop := ∀ (_ : HX) (P : Program) (ops : List Oper) (f : Fr) (o : Oper) (w : World) (K : Value → World → Prop),geW P ops f o w K → True
def conjW (p : Nat × Oper → Prop) : List (Nat × Oper) → Prop
 | [] => tallW
 | [x] => p x
 | x :: y :: r => p x ∧ conjW p (y :: r)
theorem conjW_mem {p : Nat × Oper → Prop} : ∀ {l : List (Nat × Oper)} {x},conjW p l → x ∈ l → p x
 | [],_,_,h => by cases h
 | [y],x,h,hx => by simp at hx; subst hx; exact h
 | y :: z :: r,x,h,hx => by
   rcases List.mem_cons.1 hx with rfl | hx
   · exact h.1
   · exact conjW_mem h.2 hx
def drawW [HX] (P : Program) (ops : List Oper) (e : DE) : Nat → List Nat → List Nat → Fr → World → (Fr → World → Prop) → Prop
 | 0,_,_,_,_,_ => False
 | n + 1,done,pend,f,w,K =>
   match nextFl ops done e.fl with
   | some (i,o) => qfW P ops f o w fun v => drawW P ops e n (i :: done) (i :: pend) (upd f o.dst v) w K
   | none => match effs ops e.fl done 0 ops with
     | [] => K f w
     | x :: r => conjW (fun io => geW P ops f io.2 w fun v w' =>
         stabW P ops (upd f io.2.dst v) w' (drawW P ops e n (io.1 :: done) (notIn (e.anc.getD io.1 []) pend) (upd f io.2.dst v) w' K) (notIn (e.anc.getD io.1 []) pend)) (x :: r)
def looksL (ops : List Oper) (o : Oper) : List Nat :=
 (o.op.operands.toList.filterMap fun | .tmp t => some t | _ => none) ++ (match o.guard with | some (g,_) => (dstOf ops g).toList | none => [])
def noSel (o : Oper) : Bool := match o.op with | .select .. => false | _ => true
def chkFl (P : Program) (ops : List Oper) (e : DE) (i : Nat) : Bool :=
 match ops[i]? with
 | some o => (isPure P o.op || isRead P o.op) &&
   (match o.dst with
    | some d => (List.range ops.length).all fun k => match ops[k]? with
       | some ok => (k == i || ok.dst != some d) && (!(memb (looksL ops ok) d) || memb (e.anc.getD k []) i) &&
           (match ok.dst with
            | some dk => !(memb (looksL ops o) dk) || memb (e.anc.getD i []) k || (!(memb e.fl k) && memb (e.anc.getD k []) i)
            | none => true)
       | none => true
    | none => false)
 | none => false
def chkOp (n : Nat) (ops : List Oper) (e : DE) (k : Nat) : Bool :=
 match ops[k]? with
 | some o => (match o.dst with | some d => decide (d < n) | none => true) && noSel o && (bindsOn o).all (fun x => decide (x < k)) &&
     (e.anc.getD k []).all (fun x => (bindsOn o).any fun y => x == y || memb (e.anc.getD y []) x)
 | none => true
def chkDraw (P : Program) (n : Nat) (ops : List Oper) (e : DE) : Bool :=
 e.fl.all (chkFl P ops e) && (List.range ops.length).all (chkOp n ops e)
section
variable {P : Program} {n : Nat} {ops : List Oper} {e : DE}
theorem chk_op (h : chkDraw P n ops e = true) {k : Nat} {o : Oper} (hk : ops[k]? = some o) :
   (∀ d,o.dst = some d → d < n) ∧ noSel o = true ∧ (∀ x ∈ bindsOn o,x < k) ∧ ∀ x ∈ e.anc.getD k [],∃ y ∈ bindsOn o,x = y ∨ x ∈ e.anc.getD y [] := by
 simp only [chkDraw,Bool.and_eq_true,List.all_eq_true] at h
 have hlt : k < ops.length := by
   rcases Nat.lt_or_ge k ops.length with h' | h'
   · exact h'
   · rw [List.getElem?_eq_none h'] at hk; cases hk
 have := h.2 k (List.mem_range.2 hlt)
 simp only [chkOp,hk,Bool.and_eq_true,List.all_eq_true,List.any_eq_true,Bool.or_eq_true,beq_iff_eq,decide_eq_true_eq] at this
 obtain ⟨⟨⟨h1,h2⟩,h3⟩,h4⟩ := this
 refine ⟨fun d hd => by simpa [hd] using h1,h2,h3,fun x hx => ?_⟩
 obtain ⟨y,hy,hxy⟩ := h4 x hx
 exact ⟨y,hy,hxy.imp id memb_iff.1⟩
theorem chk_fl (h : chkDraw P n ops e = true) {i : Nat} (hi : i ∈ e.fl) : ∃ o d,ops[i]? = some o ∧ o.dst = some d ∧ (isPure P o.op = true ∨ isRead P o.op = true) ∧
   ∀ k ok,ops[k]? = some ok → (k ≠ i → ok.dst ≠ some d) ∧ (d ∈ looksL ops ok → i ∈ e.anc.getD k []) ∧
     ∀ dk,ok.dst = some dk → dk ∈ looksL ops o → k ∈ e.anc.getD i [] ∨ (k ∉ e.fl ∧ i ∈ e.anc.getD k []) := by
 simp only [chkDraw,Bool.and_eq_true,List.all_eq_true] at h
 have h1 := h.1 i hi
 unfold chkFl at h1
 cases ho : ops[i]? with
 | none => simp [ho] at h1
 | some o =>
   simp only [ho] at h1
   cases hd : o.dst with
   | none => simp [hd] at h1
   | some d =>
     simp only [hd,Bool.and_eq_true,Bool.or_eq_true,List.all_eq_true] at h1
     refine ⟨o,d,rfl,hd,h1.1,fun k ok hk => ?_⟩
     have hlt : k < ops.length := by
       rcases Nat.lt_or_ge k ops.length with h' | h'
       · exact h'
       · rw [List.getElem?_eq_none h'] at hk; cases hk
     have h2 := h1.2 k (List.mem_range.2 hlt)
     simp only [hk,Bool.and_eq_true,Bool.or_eq_true,beq_iff_eq,bne_iff_ne,Bool.not_eq_true'] at h2
     obtain ⟨⟨h3,h4⟩,h5⟩ := h2
     refine ⟨fun hne => h3.resolve_left hne,fun hm => ?_,fun dk hdk hm => ?_⟩
     · rcases h4 with h4 | h4
       · rw [memb_iff.2 hm] at h4; cases h4
       · exact memb_iff.1 h4
     · simp only [hdk,Bool.and_eq_true,Bool.or_eq_true,Bool.not_eq_true'] at h5
       rcases h5 with (h5 | h5) | ⟨h5,h6⟩
       · rw [memb_iff.2 hm] at h5; cases h5
       · exact .inl (memb_iff.1 h5)
       · exact .inr ⟨(fun hk' => by rw [memb_iff.2 hk'] at h5; cases h5),memb_iff.1 h6⟩
theorem anc_in (h : chkDraw P n ops e = true) {done : List Nat} (hc : ∀ k ∈ done,∀ o,ops[k]? = some o → ∀ x ∈ bindsOn o,x ∈ done) :
   ∀ (k : Nat) (o : Oper),ops[k]? = some o → (∀ x ∈ bindsOn o,x ∈ done) → ∀ x ∈ e.anc.getD k [],x ∈ done := by
 intro k
 induction k using Nat.strongRecOn with
 | _ k ih =>
   intro o ho hd x hx
   obtain ⟨_,_,h3,h4⟩ := chk_op h ho
   obtain ⟨y,hy,hxy⟩ := h4 x hx
   rcases hxy with rfl | hxy
   · exact hd x hy
   · have hyd := hd y hy
     cases hoy : ops[y]? with
     | none =>
       rw [List.getElem?_eq_none_iff] at hoy
       have hk : k < ops.length := by
         rcases Nat.lt_or_ge k ops.length with h' | h'
         · exact h'
         · rw [List.getElem?_eq_none h'] at ho; cases ho
       have := h3 y hy
       omega
     | some oy => exact ih y (h3 y hy) oy hoy (fun z hz => hc y hyd oy hoy z hz) x hxy
end
end Go.Eng
namespace Go.Eng
open Go
section
variable {P : Program} {n : Nat} {D : List Deferred} {ops : List Oper} {e : DE}
def YY (P : Program) (ops : List Oper) (f : Fr) (o : Oper) (d : Nat) (w : World) : Prop :=
 (wantF ops f o = true ∧ (execOp (ev f) o).run P w = .ok (.value (f d)) w) ∨ (wantF ops f o = false ∧ f d = undef)
structure Inv (R : Fr → Prop) (P : Program) (n : Nat) (D : List Deferred) (ops : List Oper) (e : DE) (listed : Array Bool) (a : Act) (done pend : List Nat) (f : Fr) (w : World) : Prop where
 fr : R f
 defers : a.defers = D
 size : a.tmps.size = n
 lsize : listed.size = ops.length
 l1 : ∀ i : Nat,listed.getD i false = true → i ∈ done
 l2 : ∀ i ∈ done,i < ops.length ∧ (listed.getD i false = false → i ∈ e.fl ∧ i ∈ pend)
 l3 : ∀ t,(∀ i ∈ done,listed.getD i false = false → dstOf ops i ≠ some t) → a.tmps.getD t undef = f t
 l4 : ∀ i ∈ done,listed.getD i false = false → ∀ o d,ops[i]? = some o → o.dst = some d → YY P ops f o d w ∧ (isPure P o.op = true → ∀ w',YY P ops f o d w')
 l5 : ∀ i ∈ done,∀ o,ops[i]? = some o → ∀ x ∈ bindsOn o,x ∈ done
 l6 : ∀ i : Nat,listed.getD i false = true → ∀ o,ops[i]? = some o → ∀ x ∈ bindsOn o,listed.getD x false = true
theorem looks_op {o : Oper} {t : Nat} (h : Operand.tmp t ∈ o.op.operands.toList) : t ∈ looksL ops o := by
 unfold looksL
 exact List.mem_append_left _ (List.mem_filterMap.2 ⟨.tmp t,h,rfl⟩)
theorem looks_guard {o : Oper} {g : Nat} {want : Bool} {d : Nat} (hg : o.guard = some (g,want)) (hd : dstOf ops g = some d) : d ∈ looksL ops o := by
 unfold looksL
 refine List.mem_append_right _ ?_
 simp [hg,hd]
theorem noSel_spec {o : Oper} (h : noSel o = true) : ∀ cs b,o.op ≠ .select cs b := by
 intro cs b he
 simp [noSel,he] at h
theorem exec_same {o : Oper} (hs : noSel o = true) {ρ ρ' : Operand → Value} (h : ∀ x ∈ o.op.operands.toList,ρ x = ρ' x) : execOp ρ o = execOp ρ' o :=
 execOp_congr o (noSel_spec hs) (fun x hx => h x (by simpa using hx))
theorem ev_same {f f' : Fr} {x : Operand} (h : ∀ t,x = .tmp t → f t = f' t) : ev f x = ev f' x := by
 cases x <;> first | rfl | exact h _ rfl
theorem wantF_same {f f' : Fr} {o : Oper} (h : ∀ t ∈ looksL ops o,f t = f' t) : wantF ops f o = wantF ops f' o := by
 unfold wantF
 cases hg : o.guard with
 | none => rfl
 | some gw =>
   obtain ⟨g,want⟩ := gw
   simp only [yv]
   cases hd : dstOf ops g with
   | none => rfl
   | some d => simp only [h d (looks_guard hg hd)]
theorem YY.same {f f' : Fr} {o : Oper} {d : Nat} {w : World} (hs : noSel o = true) (h : ∀ t ∈ looksL ops o,f t = f' t) (hd : f d = f' d) (hy : YY P ops f o d w) : YY P ops f' o d w := by
 unfold YY at *
 rw [← wantF_same h,← hd]
 rw [← exec_same hs (ρ := ev f) (ρ' := ev f') (fun x hx => ev_same fun t ht => h t (looks_op (ht ▸ hx)))]
 exact hy
theorem qf_sound {f : Fr} {o : Oper} {w : World} {K : Value → Prop} (hp : isPure P o.op = true ∨ isRead P o.op = true) (h : qfW P ops f o w K) :
   ∃ v,K v ∧ ((wantF ops f o = true ∧ (execOp (ev f) o).run P w = .ok (.value v) w ∧ (isPure P o.op = true → ∀ w',(execOp (ev f) o).run P w' = .ok (.value v) w')) ∨ (wantF ops f o = false ∧ v = undef)) := by
 have key : ∀ K : Value → Prop,anyQ P f o w K → ∃ v,K v ∧ (execOp (ev f) o).run P w = .ok (.value v) w ∧ (isPure P o.op = true → ∀ w',(execOp (ev f) o).run P w' = .ok (.value v) w') := by
   intro K h
   unfold anyQ at h
   cases hp' : isPure P o.op with
   | true =>
     rw [hp'] at h
     obtain ⟨v,hk,hr⟩ := pure_sound (o := o) h
     exact ⟨v,hk,hr w,fun _ => hr⟩
   | false =>
     rw [hp'] at h
     obtain ⟨v,hk,hr⟩ := read_sound (o := o) h
     exact ⟨v,hk,hr,fun hh => by cases hh⟩
 unfold qfW at h
 unfold wantF
 cases hg : o.guard with
 | none =>
   simp only [hg] at h
   obtain ⟨v,hk,h1,h2⟩ := key K h
   exact ⟨v,hk,.inl ⟨rfl,h1,h2⟩⟩
 | some gw =>
   obtain ⟨g,want⟩ := gw
   simp only [hg] at h
   obtain ⟨v,ht,hf,hk⟩ := h
   cases hc : yv ops f g want with
   | true =>
     obtain ⟨v',rfl,h1,h2⟩ := key _ (ht hc)
     exact ⟨v',hk,.inl ⟨hc,h1,h2⟩⟩
   | false => exact ⟨v,hk,.inr ⟨hc,hf hc⟩⟩
theorem nextFl_some {done : List Nat} : ∀ {l : List Nat} {i : Nat} {o : Oper},nextFl ops done l = some (i,o) → i ∈ l ∧ i ∉ done ∧ ops[i]? = some o ∧ ∀ x ∈ bindsOn o,x ∈ done
 | [],_,_,h => by cases h
 | j :: l,i,o,h => by
   simp only [nextFl] at h
   cases hm : memb done j with
   | true => rw [hm] at h; obtain ⟨h1,h2⟩ := nextFl_some (l := l) h; exact ⟨List.mem_cons_of_mem _ h1,h2⟩
   | false =>
     rw [hm] at h
     simp only [cond_false] at h
     have rec_ : nextFl ops done l = some (i,o) → i ∈ j :: l ∧ i ∉ done ∧ ops[i]? = some o ∧ ∀ x ∈ bindsOn o,x ∈ done := fun h => by
       obtain ⟨h1,h2⟩ := nextFl_some (l := l) h
       exact ⟨List.mem_cons_of_mem _ h1,h2⟩
     cases ho : ops[j]? with
     | none => rw [ho] at h; exact rec_ h
     | some o' =>
       rw [ho] at h
       simp only at h
       cases hall : allIn done (bindsOn o') with
       | true =>
         rw [hall] at h
         simp only [cond_true,Option.some.injEq,Prod.mk.injEq] at h
         obtain ⟨rfl,rfl⟩ := h
         exact ⟨List.mem_cons_self,(fun hd => by rw [memb_iff.2 hd] at hm; cases hm),ho,allIn_iff.1 hall⟩
       | false => rw [hall] at h; exact rec_ h
theorem nextFl_none {done : List Nat} : ∀ {l : List Nat},nextFl ops done l = none → ∀ i ∈ l,i ∉ done → ∀ o,ops[i]? = some o → ¬ ∀ x ∈ bindsOn o,x ∈ done
 | [],_,_,hi,_,_,_,_ => by cases hi
 | j :: l,h,i,hi,hd,o,ho,hall => by
   simp only [nextFl] at h
   cases hm : memb done j with
   | true =>
     rw [hm] at h
     rcases List.mem_cons.1 hi with rfl | hi
     · exact hd (memb_iff.1 hm)
     · exact nextFl_none (l := l) h i hi hd o ho hall
   | false =>
     rw [hm] at h
     simp only [cond_false] at h
     rcases List.mem_cons.1 hi with rfl | hi
     · rw [ho] at h
       simp [allIn_iff.2 hall] at h
     · cases ho' : ops[j]? with
       | none => rw [ho'] at h; exact nextFl_none (l := l) h i hi hd o ho hall
       | some o' =>
         rw [ho'] at h
         simp only at h
         cases hall' : allIn done (bindsOn o') with
         | true => rw [hall'] at h; cases h
         | false => rw [hall'] at h; exact nextFl_none (l := l) h i hi hd o ho hall
theorem mem_effs {fl done : List Nat} : ∀ (l : List Oper) (k i : Nat) (o : Oper),l[i]? = some o → k + i ∉ done → k + i ∉ fl → (∀ x ∈ bindsOn o,x ∈ done) → (k + i,o) ∈ effs ops fl done k l
 | [],_,i,o,h,_,_,_ => by simp at h
 | p :: l,k,0,o,h,h1,h2,h3 => by
   simp only [List.getElem?_cons_zero,Option.some.injEq] at h
   subst h
   have e1 : memb done k = false := by
     cases hm : memb done k with
     | false => rfl
     | true => exact absurd (memb_iff.1 hm) h1
   have e2 : memb fl k = false := by
     cases hm : memb fl k with
     | false => rfl
     | true => exact absurd (memb_iff.1 hm) h2
   simp [effs,e1,e2,allIn_iff.2 h3]
 | p :: l,k,i + 1,o,h,h1,h2,h3 => by
   have h' : l[i]? = some o := by simpa using h
   have := mem_effs (fl := fl) (done := done) l (k + 1) i o h' (by rwa [show k + 1 + i = k + (i + 1) by omega]) (by rwa [show k + 1 + i = k + (i + 1) by omega]) h3
   rw [show k + 1 + i = k + (i + 1) by omega] at this
   simp only [effs]
   generalize (bif memb done k then false else bif memb fl k then false else allIn done (bindsOn p)) = b
   cases b
   · exact this
   · exact List.mem_cons_of_mem _ this
theorem effs_mem {fl done : List Nat} : ∀ (l : List Oper) (k : Nat) (io : Nat × Oper),io ∈ effs ops fl done k l → k ≤ io.1 ∧ l[io.1 - k]? = some io.2 ∧ io.1 ∉ done ∧ io.1 ∉ fl ∧ ∀ x ∈ bindsOn io.2,x ∈ done
 | [],_,_,h => by cases h
 | p :: l,k,io,h => by
   simp only [effs] at h
   have tail : io ∈ effs ops fl done (k + 1) l → k ≤ io.1 ∧ (p :: l)[io.1 - k]? = some io.2 ∧ io.1 ∉ done ∧ io.1 ∉ fl ∧ ∀ x ∈ bindsOn io.2,x ∈ done := by
     intro h
     obtain ⟨h1,h2,h3⟩ := effs_mem l (k + 1) io h
     refine ⟨by omega,?_,h3⟩
     rw [show io.1 - k = (io.1 - (k + 1)) + 1 by omega]
     simpa using h2
   cases hm : memb done k with
   | true => rw [hm] at h; exact tail h
   | false =>
     cases hf : memb fl k with
     | true => rw [hm,hf] at h; exact tail h
     | false =>
       cases ha : allIn done (bindsOn p) with
       | false => rw [hm,hf,ha] at h; exact tail h
       | true =>
         rw [hm,hf,ha] at h
         simp only [cond_false,cond_true] at h
         rcases List.mem_cons.1 h with rfl | h
         · refine ⟨Nat.le_refl _,by simp,(fun hd => by rw [memb_iff.2 hd] at hm; cases hm),(fun hd => by rw [memb_iff.2 hd] at hf; cases hf),allIn_iff.1 ha⟩
         · exact tail h
theorem stab_rest {f : Fr} {w : World} {R : Prop} : ∀ {l : List Nat},stabW P ops f w R l → R
 | [],h => h
 | i :: l,h => by
   unfold stabW at h
   split at h
   · split at h
     · cases hp : isPure P _ <;> rw [hp] at h
       · exact stab_rest (l := l) h.2
       · exact stab_rest (l := l) h
     · exact stab_rest (l := l) h
   · exact stab_rest (l := l) h
theorem stab_get {f : Fr} {w : World} {R : Prop} : ∀ {l : List Nat},stabW P ops f w R l → ∀ i ∈ l,∀ o d,ops[i]? = some o → o.dst = some d → isPure P o.op = false → wantF ops f o = true →
   readW P f o w (fun x => x = f d)
 | [],_,_,hi,_,_,_,_,_,_ => by cases hi
 | j :: l,h,i,hi,o,d,ho,hd,hp,hw => by
   rcases List.mem_cons.1 hi with rfl | hi
   · unfold stabW at h
     simp only [ho,hd,hp] at h
     unfold wantF at hw
     cases hg : o.guard with
     | none => simp only [hg] at h; exact h.1
     | some gw =>
       obtain ⟨g,want⟩ := gw
       simp only [hg] at h hw
       exact h.1 hw
   · unfold stabW at h
     split at h
     · split at h
       · cases hp' : isPure P _ <;> rw [hp'] at h
         · exact stab_get (l := l) h.2 i hi o d ho hd hp hw
         · exact stab_get (l := l) h i hi o d ho hd hp hw
       · exact stab_get (l := l) h i hi o d ho hd hp hw
     · exact stab_get (l := l) h i hi o d ho hd hp hw
end
end Go.Eng
namespace Go.Eng
open Go
section
variable {R : Fr → Prop} {P : Program} {n : Nat} {D : List Deferred} {ops : List Oper} {e : DE}
theorem nodup_le : ∀ (N : Nat) (l : List Nat),l.Nodup → (∀ i ∈ l,i < N) → l.length ≤ N
 | 0,[],_,_ => Nat.le_refl _
 | 0,x :: _,_,h => by have := h x List.mem_cons_self; omega
 | N + 1,l,hnd,h => by
   have h1 : (l.erase N).length ≤ N := nodup_le N (l.erase N) (hnd.erase N) fun i hi => by
     have h2 := h i (List.mem_of_mem_erase hi)
     have h3 : i ≠ N := fun e => by subst e; exact (List.Nodup.not_mem_erase hnd) hi
     omega
   have h4 := List.length_erase (a := N) (l := l)
   split at h4 <;> omega
theorem lt_of_some {k : Nat} {o : Oper} (h : ops[k]? = some o) : k < ops.length := by
 rcases Nat.lt_or_ge k ops.length with h' | h'
 · exact h'
 · rw [List.getElem?_eq_none h'] at h; cases h
theorem dstOf_some {k : Nat} {o : Oper} (h : ops[k]? = some o) : dstOf ops k = o.dst := by simp [dstOf,h]
theorem Inv.float (hR : ∀ f o v,o ∈ ops → R f → R (upd f o.dst v)) (hc : chkDraw P n ops e = true) {listed : Array Bool} {a : Act} {done pend : List Nat} {f : Fr} {w : World} (I : Inv R P n D ops e listed a done pend f w)
   {i : Nat} {o : Oper} (hi : i ∈ e.fl) (hd : i ∉ done) (ho : ops[i]? = some o) (hb : ∀ x ∈ bindsOn o,x ∈ done) {v : Value}
   (hv : (wantF ops f o = true ∧ (execOp (ev f) o).run P w = .ok (.value v) w ∧ (isPure P o.op = true → ∀ w',(execOp (ev f) o).run P w' = .ok (.value v) w')) ∨ (wantF ops f o = false ∧ v = undef)) :
   Inv R P n D ops e listed a (i :: done) (i :: pend) (upd f o.dst v) w := by
 obtain ⟨o',d,ho',hdst,hkind,hall⟩ := chk_fl hc hi
 rw [ho] at ho'
 cases ho'
 have hself : d ∉ looksL ops o := fun hm => hd (anc_in hc I.l5 i o ho hb i ((hall i o ho).2.1 hm))
 have hfd : ∀ t,t ≠ d → upd f o.dst v t = f t := fun t ht => by rw [hdst,upd_some,if_neg ht]
 refine ⟨hR _ _ _ (List.mem_of_getElem? ho) I.fr,I.defers,I.size,I.lsize,fun k hk => List.mem_cons_of_mem _ (I.l1 k hk),?_,?_,?_,?_,I.l6⟩
 · intro k hk
   rcases List.mem_cons.1 hk with rfl | hk
   · exact ⟨lt_of_some ho,fun _ => ⟨hi,List.mem_cons_self⟩⟩
   · exact ⟨(I.l2 k hk).1,fun hl => ⟨((I.l2 k hk).2 hl).1,List.mem_cons_of_mem _ ((I.l2 k hk).2 hl).2⟩⟩
 · intro t ht
   have htd : t ≠ d := fun h => by
     subst h
     refine ht i List.mem_cons_self ?_ (by rw [dstOf_some ho,hdst])
     cases hl : listed.getD i false with
     | false => rfl
     | true => exact absurd (I.l1 i hl) hd
   rw [hfd t htd]
   exact I.l3 t fun k hk hl => ht k (List.mem_cons_of_mem _ hk) hl
 · intro k hk hl ok dk hok hdk
   rcases List.mem_cons.1 hk with rfl | hk
   · rw [ho] at hok
     cases hok
     rw [hdst] at hdk
     cases hdk
     have hsame : ∀ t ∈ looksL ops o,f t = upd f o.dst v t := fun t ht => (hfd t (fun h => hself (h ▸ ht))).symm
     have hval : upd f o.dst v d = v := by rw [hdst,upd_some,if_pos rfl]
     have hsel := (chk_op hc ho).2.1
     have hex : execOp (ev f) o = execOp (ev (upd f o.dst v)) o := exec_same hsel (fun x hx => ev_same fun t ht => hsame t (looks_op (ht ▸ hx)))
     rcases hv with ⟨h1,h2,h3⟩ | ⟨h1,h2⟩
     · rw [hex] at h2 h3
       rw [wantF_same hsame] at h1
       exact ⟨.inl ⟨h1,by rw [hval]; exact h2⟩,fun hp w' => .inl ⟨h1,by rw [hval]; exact h3 hp w'⟩⟩
     · rw [wantF_same hsame] at h1
       exact ⟨.inr ⟨h1,by rw [hval]; exact h2⟩,fun _ _ => .inr ⟨h1,by rw [hval]; exact h2⟩⟩
   · have hki : k ≠ i := fun h => hd (h ▸ hk)
     have hdl : d ∉ looksL ops ok := fun hm => hd (anc_in hc I.l5 k ok hok (I.l5 k hk ok hok) i ((hall k ok hok).2.1 hm))
     have hdd : dk ≠ d := fun h => (hall k ok hok).1 hki (by rw [hdk,h])
     have hsel := (chk_op hc hok).2.1
     have h4 := I.l4 k hk hl ok dk hok hdk
     have hsame : ∀ t ∈ looksL ops ok,f t = upd f o.dst v t := fun t ht => (hfd t (fun h => hdl (h ▸ ht))).symm
     exact ⟨h4.1.same hsel hsame (hfd dk hdd).symm,fun hp w' => (h4.2 hp w').same hsel hsame (hfd dk hdd).symm⟩
 · intro k hk ok hok x hx
   rcases List.mem_cons.1 hk with rfl | hk
   · rw [ho] at hok
     cases hok
     exact List.mem_cons_of_mem _ (hb x hx)
   · exact List.mem_cons_of_mem _ (I.l5 k hk ok hok x hx)
theorem draw_norm [HX] (hR : ∀ f o v,o ∈ ops → R f → R (upd f o.dst v)) (hc : chkDraw P n ops e = true) {K : Fr → World → Prop} {listed : Array Bool} {a : Act} {w : World} : ∀ (m : Nat) (done pend : List Nat) (f : Fr),
   Inv R P n D ops e listed a done pend f w → drawW P ops e m done pend f w K →
   ∃ m' done' pend' f',Inv R P n D ops e listed a done' pend' f' w ∧ drawW P ops e (m' + 1) done' pend' f' w K ∧ nextFl ops done' e.fl = none
 | 0,_,_,_,_,h => by cases h
 | m + 1,done,pend,f,I,h => by
   cases hn : nextFl ops done e.fl with
   | none => exact ⟨m,done,pend,f,I,h,hn⟩
   | some io =>
     obtain ⟨i,o⟩ := io
     simp only [drawW,hn] at h
     obtain ⟨h1,h2,h3,h4⟩ := nextFl_some hn
     obtain ⟨o',d,ho',hdst,hkind,_⟩ := chk_fl hc h1
     rw [h3] at ho'
     cases ho'
     obtain ⟨v,hk,hv⟩ := qf_sound hkind h
     exact draw_norm hR hc m _ _ _ (I.float hR hc h1 h2 h3 h4 hv) hk
theorem mem_ready' {listed : Array Bool} {i : Nat} (hsz : listed.size = ops.length) : i ∈ Region.ready .any ops.toArray listed ↔
   ∃ o,ops[i]? = some o ∧ listed.getD i false = false ∧ ∀ x ∈ bindsOn o,listed.getD x false = true := by
 unfold Region.ready
 simp only [List.mem_filter,List.mem_range,List.size_toArray,Bool.and_eq_true,Bool.not_eq_true',List.getElem?_toArray]
 constructor
 · rintro ⟨h1,h2,h3⟩
   have ho : ops[i]? = some ops[i] := List.getElem?_eq_getElem h1
   rw [ho] at h3
   simp only [Option.map_some,Option.getD_some,Array.all_eq_true_iff_forall_mem,Bool.or_eq_true,Bool.not_eq_true'] at h3
   refine ⟨_,ho,?_,fun x hx => ?_⟩
   · simp only [Array.getD_eq_getD_getElem?] at h2 ⊢
     have : i < listed.size := by rw [hsz]; exact h1
     simpa [this] using h2
   · simp only [bindsOn,List.mem_map,List.mem_filter,Array.mem_toList_iff] at hx
     obtain ⟨ed,⟨hm,hb⟩,rfl⟩ := hx
     rcases h3 ed hm with h3 | h3
     · rw [hb] at h3; cases h3
     · exact h3
 · rintro ⟨o,ho,h2,h3⟩
   have h1 := lt_of_some ho
   refine ⟨h1,?_,?_⟩
   · simp only [Array.getD_eq_getD_getElem?] at h2 ⊢
     have : i < listed.size := by rw [hsz]; exact h1
     simpa [this] using h2
   · rw [ho]
     simp only [Option.map_some,Option.getD_some,Array.all_eq_true_iff_forall_mem,Bool.or_eq_true,Bool.not_eq_true']
     intro ed hm
     cases hb : Region.binds .any ed with
     | false => exact .inl rfl
     | true => exact .inr (h3 _ (by simp only [bindsOn,List.mem_map,List.mem_filter,Array.mem_toList_iff]; exact ⟨ed,⟨hm,hb⟩,rfl⟩))
theorem getD_set (listed : Array Bool) (i k : Nat) (hi : i < listed.size) : (listed.setIfInBounds i true).getD k false = (if k = i then true else listed.getD k false) := by
 simp only [Array.getD_eq_getD_getElem?,Array.getElem?_setIfInBounds]
 by_cases h : k = i
 · subst h; simp [hi]
 · rw [if_neg h,if_neg (Ne.symm h)]
theorem draw_sound [HX] (hR : ∀ f o v,o ∈ ops → R f → R (upd f o.dst v)) (hc : chkDraw P n ops e = true) {Q : Exit → Act → World → Prop} {K : Fr → World → Prop}
   (hQ : ∀ f a w,Ag n D f a → R f → K f w → Q .normal a w) (hX : ∀ c f a w,a.defers = D → R f → (∀ t,(∀ o ∈ ops,o.dst ≠ some t) → a.tmps.getD t undef = f t) → HX.X c w → Q (.panic c) a w) : ∀ (m : Nat) (listed : Array Bool) (a : Act) (done pend : List Nat) (f : Fr) (w : World) (k : Nat),
   Inv R P n D ops e listed a done pend f w → drawW P ops e k done pend f w K → (∀ l : List Nat,l.Nodup → (∀ i ∈ l,i < ops.length ∧ listed.getD i false = false) → l.length ≤ m) →
   wpAny P .any ops.toArray Q m listed a w := by
 -- all is listed: the end
 have fin : ∀ (listed : Array Bool) (a : Act) (done pend : List Nat) (f : Fr) (w : World) (k : Nat),Inv R P n D ops e listed a done pend f w → drawW P ops e k done pend f w K →
     (∀ i,i < ops.length → listed.getD i false = true) → Q .normal a w := by
   intro listed a done pend f w k I h hall
   obtain ⟨k',done',pend',f',I',h',hn⟩ := draw_norm hR hc k done pend f I h
   simp only [drawW,hn] at h'
   have hag : Ag n D f' a := ⟨I'.defers,I'.size,fun t => I'.l3 t fun i hi hl => by
     have := hall i (I'.l2 i hi).1
     rw [this] at hl
     cases hl⟩
   cases he : effs ops e.fl done' 0 ops with
   | nil => rw [he] at h'; exact hQ _ _ _ hag I'.fr h'
   | cons x r =>
     have hx : x ∈ effs ops e.fl done' 0 ops := by rw [he]; exact List.mem_cons_self
     obtain ⟨_,h2,h3,_⟩ := effs_mem ops 0 x hx
     exact absurd (I'.l1 x.1 (hall x.1 (lt_of_some (by simpa using h2)))) h3
 -- nothing may come: all is listed
 have stop : ∀ (listed : Array Bool),listed.size = ops.length → Region.ready .any ops.toArray listed = [] → ∀ i,i < ops.length → listed.getD i false = true := by
   intro listed hsz hr i
   induction i using Nat.strongRecOn with
   | _ i ih =>
     intro hi
     cases hl : listed.getD i false with
     | true => rfl
     | false =>
       have ho : ops[i]? = some ops[i] := List.getElem?_eq_getElem hi
       have : i ∈ Region.ready .any ops.toArray listed := (mem_ready' hsz).2 ⟨_,ho,hl,fun x hx => by
         have := (chk_op hc ho).2.2.1 x hx
         exact ih x this (by omega)⟩
       rw [hr] at this
       cases this
 intro m
 induction m with
 | zero =>
   intro listed a done pend f w k I h hcount
   have hall : ∀ i,i < ops.length → listed.getD i false = true := fun i hi => by
     cases hl : listed.getD i false with
     | true => rfl
     | false => have := hcount [i] (by simp) (by intro j hj; rw [List.mem_singleton.1 hj]; exact ⟨hi,hl⟩); simp at this
   refine ⟨?_,fin _ _ _ _ _ _ _ I h hall⟩
   cases hr : Region.ready .any ops.toArray listed with
   | nil => rfl
   | cons i r =>
     have : i ∈ Region.ready .any ops.toArray listed := by rw [hr]; exact List.mem_cons_self
     obtain ⟨o,ho,hl,_⟩ := (mem_ready' I.lsize).1 this
     rw [hall i (lt_of_some ho)] at hl
     cases hl
 | succ m ih =>
   intro listed a done pend f w k I h hcount
   refine ⟨fun hr => fin _ _ _ _ _ _ _ I h (stop listed I.lsize hr),fun i hi => ?_⟩
   obtain ⟨o,ho,hl,hb⟩ := (mem_ready' I.lsize).1 hi
   have hilt := lt_of_some ho
   have hils : i < listed.size := by rw [I.lsize]; exact hilt
   obtain ⟨k',done',pend',f',I',h',hn⟩ := draw_norm hR hc k done pend f I h
   clear I h
   -- what i looks at is the same in the slots and in the frame
   have hagree : ∀ t ∈ looksL ops o,a.tmps.getD t undef = f' t := fun t ht => I'.l3 t fun j hj hlj hdj => by
     obtain ⟨hjf,_⟩ := (I'.l2 j hj).2 hlj
     obtain ⟨oj,dj,hoj,hdst,_,hall⟩ := chk_fl hc hjf
     rw [dstOf_some hoj,hdst] at hdj
     cases hdj
     have hanc := (hall i o ho).2.1 ht
     have hlist : ∀ x ∈ e.anc.getD i [],listed.getD x false = true := by
       have := anc_in hc (done := (List.range ops.length).filter fun x => listed.getD x false) (fun x hx ox hox y hy => by
         simp only [List.mem_filter,List.mem_range] at hx ⊢
         exact ⟨by have := (chk_op hc hox).2.2.1 y hy; omega,I'.l6 x hx.2 ox hox y hy⟩) i o ho (fun x hx => by
         simp only [List.mem_filter,List.mem_range]
         exact ⟨by have := (chk_op hc ho).2.2.1 x hx; omega,hb x hx⟩)
       intro x hx
       have := this x hx
       simp only [List.mem_filter] at this
       exact this.2
     rw [hlist j hanc] at hlj
     cases hlj
   have hsel := (chk_op hc ho).2.1
   have hwant : Region.wanted o (yielded ops.toArray a.tmps) = wantF ops f' o := wanted_eq fun g want d hg hd => hagree d (looks_guard hg hd)
   have hexec : execOp a.eval o = execOp (ev f') o := exec_same hsel fun x hx => ev_eq fun t ht => hagree t (looks_op (ht ▸ hx))
   have hcount' : ∀ l : List Nat,l.Nodup → (∀ j ∈ l,j < ops.length ∧ (listed.setIfInBounds i true).getD j false = false) → l.length ≤ m := by
     intro l hnd hl'
     have hil : i ∉ l := fun hm => by
       have := (hl' i hm).2
       rw [getD_set _ _ _ hils,if_pos rfl] at this
       cases this
     have := hcount (i :: l) (List.nodup_cons.2 ⟨hil,hnd⟩) (fun j hj => by
       rcases List.mem_cons.1 hj with rfl | hj
       · exact ⟨hilt,hl⟩
       · have hne : j ≠ i := fun h => hil (h ▸ hj)
         have := hl' j hj
         rw [getD_set _ _ _ hils,if_neg hne] at this
         exact this)
     simpa using this
   have hl6 : ∀ j : Nat,(listed.setIfInBounds i true).getD j false = true → ∀ oj,ops[j]? = some oj → ∀ x ∈ bindsOn oj,(listed.setIfInBounds i true).getD x false = true := by
     intro j hj oj hoj x hx
     rw [getD_set _ _ _ hils]
     by_cases hxi : x = i
     · rw [if_pos hxi]
     · rw [if_neg hxi]
       rw [getD_set _ _ _ hils] at hj
       by_cases hji : j = i
       · subst hji; rw [ho] at hoj; cases hoj; exact hb x hx
       · rw [if_neg hji] at hj; exact I'.l6 j hj oj hoj x hx
   by_cases hdone : i ∈ done'
   · -- a float that the canonical run has taken already
     obtain ⟨hif,_⟩ := (I'.l2 i hdone).2 hl
     obtain ⟨o',d,ho',hdst,_,hall⟩ := chk_fl hc hif
     rw [ho] at ho'
     cases ho'
     have hdn := (chk_op hc ho).1 d hdst
     have hI : Inv R P n D ops e (listed.setIfInBounds i true) (a.put o.dst (f' d)) done' pend' f' w := by
       refine ⟨I'.fr,by rw [put_defers]; exact I'.defers,by rw [put_size]; exact I'.size,by simp [I'.lsize],?_,?_,?_,?_,I'.l5,hl6⟩
       · intro j hj
         rw [getD_set _ _ _ hils] at hj
         by_cases hji : j = i
         · subst hji; exact hdone
         · rw [if_neg hji] at hj; exact I'.l1 j hj
       · intro j hj
         refine ⟨(I'.l2 j hj).1,fun hlj => ?_⟩
         rw [getD_set _ _ _ hils] at hlj
         by_cases hji : j = i
         · rw [if_pos hji] at hlj; cases hlj
         · rw [if_neg hji] at hlj; exact (I'.l2 j hj).2 hlj
       · intro t ht
         rw [hdst,put_get _ _ _ _ (by rw [I'.size]; exact hdn)]
         by_cases htd : t = d
         · rw [if_pos htd,htd]
         · rw [if_neg htd]
           refine I'.l3 t fun j hj hlj hdj => ?_
           by_cases hji : j = i
           · subst hji
             rw [dstOf_some ho,hdst] at hdj
             cases hdj
             exact htd rfl
           · exact ht j hj (by rw [getD_set _ _ _ hils,if_neg hji]; exact hlj) hdj
       · intro j hj hlj
         rw [getD_set _ _ _ hils] at hlj
         by_cases hji : j = i
         · rw [if_pos hji] at hlj; cases hlj
         · rw [if_neg hji] at hlj; exact I'.l4 j hj hlj
     have hnext := ih _ _ done' pend' f' w (k' + 1) hI h' hcount'
     have hy := (I'.l4 i hdone hl o d ho hdst).1
     unfold wpOp
     simp only [List.getElem?_toArray,ho]
     rw [hwant]
     rcases hy with ⟨h1,h2⟩ | ⟨h1,h2⟩
     · rw [if_pos h1]
       refine .inl ?_
       unfold Oper.wp
       rw [hexec,h2]
       exact hnext
     · rw [if_neg (by rw [h1]; simp),← h2]
       exact hnext
   · -- an operation that acts
     have hbd : ∀ x ∈ bindsOn o,x ∈ done' := fun x hx => I'.l1 x (hb x hx)
     have hnf : i ∉ e.fl := fun hf => nextFl_none hn i hf hdone o ho hbd
     have hmem : (i,o) ∈ effs ops e.fl done' 0 ops := by
       have := mem_effs (ops := ops) (fl := e.fl) (done := done') ops 0 i o ho (by simpa using hdone) (by simpa using hnf) hbd
       simpa using this
     simp only [drawW,hn] at h'
     have hge : geW P ops f' o w fun v w' => stabW P ops (upd f' o.dst v) w' (drawW P ops e k' (i :: done') (notIn (e.anc.getD i []) pend') (upd f' o.dst v) w' K) (notIn (e.anc.getD i []) pend') := by
       cases he : effs ops e.fl done' 0 ops with
       | nil => rw [he] at hmem; cases hmem
       | cons x r =>
         rw [he] at h' hmem
         exact conjW_mem h' hmem
     have hdn := (chk_op hc ho).1
     have hlanc : ∀ x ∈ e.anc.getD i [],listed.getD x false = true := by
       have := anc_in hc (done := (List.range ops.length).filter fun x => listed.getD x false) (fun x hx ox hox y hy => by
         simp only [List.mem_filter,List.mem_range] at hx ⊢
         exact ⟨by have := (chk_op hc hox).2.2.1 y hy; omega,I'.l6 x hx.2 ox hox y hy⟩) i o ho (fun x hx => by
         simp only [List.mem_filter,List.mem_range]
         exact ⟨by have := (chk_op hc ho).2.2.1 x hx; omega,hb x hx⟩)
       intro x hx
       have := this x hx
       simp only [List.mem_filter] at this
       exact this.2
     -- what stands behind it
     have cont : ∀ v w',stabW P ops (upd f' o.dst v) w' (drawW P ops e k' (i :: done') (notIn (e.anc.getD i []) pend') (upd f' o.dst v) w' K) (notIn (e.anc.getD i []) pend') →
         wpAny P .any ops.toArray Q m (listed.setIfInBounds i true) (a.put o.dst v) w' := by
       intro v w' hst
       refine ih _ _ (i :: done') (notIn (e.anc.getD i []) pend') (upd f' o.dst v) w' k' ?_ (stab_rest hst) hcount'
       have hunl : ∀ j ∈ i :: done',(listed.setIfInBounds i true).getD j false = false → j ≠ i ∧ j ∈ done' ∧ listed.getD j false = false := by
         intro j hj hlj
         rw [getD_set _ _ _ hils] at hlj
         by_cases hji : j = i
         · rw [if_pos hji] at hlj; cases hlj
         · rw [if_neg hji] at hlj
           exact ⟨hji,(List.mem_cons.1 hj).resolve_left hji,hlj⟩
       refine ⟨hR _ _ _ (List.mem_of_getElem? ho) I'.fr,by rw [put_defers]; exact I'.defers,by rw [put_size]; exact I'.size,by simp [I'.lsize],?_,?_,?_,?_,?_,hl6⟩
       · intro j hj
         rw [getD_set _ _ _ hils] at hj
         by_cases hji : j = i
         · subst hji; exact List.mem_cons_self
         · rw [if_neg hji] at hj; exact List.mem_cons_of_mem _ (I'.l1 j hj)
       · intro j hj
         refine ⟨?_,fun hlj => ?_⟩
         · rcases List.mem_cons.1 hj with rfl | hj
           · exact hilt
           · exact (I'.l2 j hj).1
         · obtain ⟨hji,hjd,hlj'⟩ := hunl j hj hlj
           obtain ⟨h1,h2⟩ := (I'.l2 j hjd).2 hlj'
           exact ⟨h1,mem_notIn h2 fun hm => by rw [hlanc j hm] at hlj'; cases hlj'⟩
       · intro t ht
         have h3 : ∀ (h : ∀ d,o.dst = some d → t ≠ d),a.tmps.getD t undef = f' t := fun h => I'.l3 t fun j hj hlj hdj => by
           have hji : j ≠ i := fun h' => hdone (h' ▸ hj)
           exact ht j (List.mem_cons_of_mem _ hj) (by rw [getD_set _ _ _ hils,if_neg hji]; exact hlj) hdj
         cases hdst : o.dst with
         | none => rw [hdst] at h3; exact h3 (fun d hd => by cases hd)
         | some d =>
           rw [put_get _ _ _ _ (by rw [I'.size]; exact hdn d hdst),upd_some]
           by_cases htd : t = d
           · rw [if_pos htd,if_pos htd]
           · rw [if_neg htd,if_neg htd]
             exact h3 (fun d' hd' => by rw [hdst] at hd'; cases hd'; exact htd)
       · intro j hj hlj oj dj hoj hdj
         obtain ⟨hji,hjd,hlj'⟩ := hunl j hj hlj
         obtain ⟨hjf,hjp⟩ := (I'.l2 j hjd).2 hlj'
         obtain ⟨oj',dj',hoj',hdj',hkind,hall⟩ := chk_fl hc hjf
         rw [hoj] at hoj'
         cases hoj'
         rw [hdj] at hdj'
         cases hdj'
         have hselj := (chk_op hc hoj).2.1
         have hanc : j ∉ e.anc.getD i [] := fun hm => by rw [hlanc j hm] at hlj'; cases hlj'
         -- the slot that i writes is none of j's
         have hfree : ∀ t,(t ∈ looksL ops oj ∨ t = dj) → f' t = upd f' o.dst v t := by
           intro t ht
           cases hdst : o.dst with
           | none => rfl
           | some d =>
             rw [upd_some]
             by_cases htd : t = d
             · exfalso
               subst htd
               rcases ht with ht | ht
               · rcases (hall i o ho).2.2 t hdst ht with h1 | ⟨_,h1⟩
                 · exact hdone (anc_in hc I'.l5 j oj hoj (I'.l5 j hjd oj hoj) i h1)
                 · exact hanc h1
               · exact (hall i o ho).1 (Ne.symm hji) (by rw [hdst,ht])
             · rw [if_neg htd]
         obtain ⟨hy1,hy2⟩ := I'.l4 j hjd hlj' oj dj hoj hdj
         have hpure : isPure P oj.op = true → ∀ w',YY P ops (upd f' o.dst v) oj dj w' := fun hp w' => (hy2 hp w').same hselj (fun t ht => hfree t (.inl ht)) (hfree dj (.inr rfl))
         refine ⟨?_,hpure⟩
         cases hp : isPure P oj.op with
         | true => exact hpure hp w'
         | false =>
           cases hwj : wantF ops (upd f' o.dst v) oj with
           | true =>
             have := stab_get hst j (mem_notIn hjp hanc) oj dj hoj hdj hp hwj
             obtain ⟨x,rfl,hr⟩ := read_sound this
             exact .inl ⟨hwj,hr⟩
           | false =>
             refine .inr ⟨hwj,?_⟩
             have hw0 : wantF ops f' oj = false := by rw [wantF_same (fun t ht => hfree t (.inl ht))]; exact hwj
             rcases hy1 with ⟨h1,_⟩ | ⟨_,h1⟩
             · rw [hw0] at h1; cases h1
             · rw [← hfree dj (.inr rfl)]; exact h1
       · intro j hj oj hoj x hx
         rcases List.mem_cons.1 hj with rfl | hj
         · rw [ho] at hoj; cases hoj; exact List.mem_cons_of_mem _ (hbd x hx)
         · exact List.mem_cons_of_mem _ (I'.l5 j hj oj hoj x hx)
     unfold wpOp
     simp only [List.getElem?_toArray,ho]
     rw [hwant]
     unfold geW at hge
     unfold wantF
     have hxa : ∀ c w,HX.X c w → Q (.panic c) a w := fun c w hx => hX c f' a w I'.defers I'.fr (fun t ht => I'.l3 t fun j hj _ hdj => by
       obtain ⟨oj,hoj⟩ : ∃ oj,ops[j]? = some oj := ⟨_,List.getElem?_eq_getElem (I'.l2 j hj).1⟩
       rw [dstOf_some hoj] at hdj
       exact ht oj (List.mem_of_getElem? hoj) hdj) hx
     have act : ∀ {K' : Value → World → Prop},(∀ v w',K' v w' → wpAny P .any ops.toArray Q m (listed.setIfInBounds i true) (a.put o.dst v) w') → anyW P f' o w K' →
         o.wp P a w (wpAny P .any ops.toArray Q m (listed.setIfInBounds i true)) Q := by
       intro K' hk ha
       unfold Oper.wp
       rw [hexec]
       exact (any_sound ha).upon hk hxa
     cases hg : o.guard with
     | none =>
       simp only [hg] at hge
       exact .inl (act cont hge)
     | some gw =>
       obtain ⟨g,want⟩ := gw
       simp only [hg] at hge
       obtain ⟨h1,h2⟩ := hge
       cases hcv : yv ops f' g want with
       | true => simp only [hcv,if_true]; exact .inl (act cont (h1 hcv))
       | false => simp only [hcv,Bool.false_eq_true,if_false]; exact cont _ _ (h2 hcv)
theorem region_draw [HX] {id : Nat} (hR : ∀ f o v,o ∈ ops → R f → R (upd f o.dst v)) (hm : P.follows .mixedOrders = true) (hc : chkDraw P n ops e = true) {Q : Exit → Act → World → Prop} {K : Fr → World → Prop} {f : Fr} {a : Act} {w : World} {k : Nat}
   (hQ : ∀ f a w,Ag n D f a → R f → K f w → Q .normal a w) (hX : ∀ c f a w,a.defers = D → R f → (∀ t,(∀ o ∈ ops,o.dst ≠ some t) → a.tmps.getD t undef = f t) → HX.X c w → Q (.panic c) a w) (ha : Ag n D f a) (hf : R f) (h : drawW P ops e k [] [] f w.drew K) : (Code.region id ops.toArray true).wp P Q a w := by
 refine wp_region_any hm ?_
 have hfalse : ∀ i : Nat,(Array.replicate ops.length false).getD i false = false := fun i => by
   simp only [Array.getD_eq_getD_getElem?,Array.getElem?_replicate]
   split <;> rfl
 refine draw_sound hR hc hQ hX _ _ a [] [] f _ k ⟨hf,ha.1,ha.2.1,by simp,?_,?_,?_,?_,?_,?_⟩ h ?_
 · intro i hi; rw [show ops.toArray.size = ops.length from by simp,hfalse] at hi; cases hi
 · intro i hi; cases hi
 · intro t _; exact ha.2.2 t
 · intro i hi; cases hi
 · intro i hi; cases hi
 · intro i hi; rw [show ops.toArray.size = ops.length from by simp,hfalse] at hi; cases hi
 · intro l hnd hl
   have : l.length ≤ ops.length := by
     exact nodup_le _ l hnd fun i hi => (hl i hi).1
   simpa using this
end
end Go.Eng
namespace Go.Eng
open Go
structure PE where
 C : List Nat
 V : List Nat
 lo : Nat
structure Plan where
 js : List (Nat × PE)
 ds : List (Nat × DE)
def lk {α : Type} : List (Nat × α) → Nat → Option α
 | [],_ => none
 | (k,e) :: r,i => bif Nat.beq k i then some e else lk r i
def inS (V : List Nat) (lo t : Nat) : Bool := bif Nat.ble lo t then true else memb V t
def ovl : List Nat → Nat → List Value → Fr → Fr
 | [],_,_,f => f
 | c :: C,k,s,f => fun j => bif Nat.beq j c then s.getD k undef else ovl C (k + 1) s f j
def ovf (e : PE) (f : Fr) (s : List Value) (g : Fr) : Fr := ovl e.C 0 s (fun j => bif inS e.V e.lo j then g j else f j)
def JoinW (A : (List Value → World → Prop) → Prop) (B : List Value → Fr → World → Prop) : Prop :=
 ∃ J : List Value → World → Prop,A J ∧ ∀ s g w,J s w → B s g w
def GdW (c : Bool) (u : List Value) (w : World) (A : (List Value → World → Prop) → Prop) (B : List Value → Fr → World → Prop) : Prop :=
 ∃ J : List Value → World → Prop,(c = true → A J) ∧ (c = false → J u w) ∧ ∀ s g w',J s w' → B s g w'
def LoopW (s0 : List Value) (w0 : World) (B : List Value → Fr → World → (List Value → World → Prop) → Prop) : Prop :=
 ∃ (I : List Value → World → Prop) (μ : List Value → World → Nat),I s0 w0 ∧ ∀ s g w,I s w → B s g w (fun s' w' => I s' w' ∧ μ s' w' < μ s w)
def condW (v : Value) (A B : Prop) : Prop := match v with | .bool t => (t = true → A) ∧ (t = false → B) | _ => False
def gEq : Option (Nat × Bool) → Nat → Bool → Bool
 | some (g',w'),g,w => bif Nat.beq g g' then w == w' else false
 | none,_,_ => false
def grpOf (g : Nat) (want : Bool) : List Oper → List Oper
 | [] => []
 | o :: r => bif gEq o.guard g want then o :: grpOf g want r else []
def restOf (g : Nat) (want : Bool) : List Oper → List Oper
 | [] => []
 | o :: r => bif gEq o.guard g want then restOf g want r else o :: r
def opsL [HX] (P : Program) : List Oper → Fr → World → (Fr → World → Prop) → Prop
 | [],f,w,K => K f w
 | o :: r,f,w,K => anyW P f o w fun v w' => opsL P r (upd f o.dst v) w' K
def undefs : List Oper → Fr → Fr
 | [],f => f
 | o :: r,f => undefs r (upd f o.dst undef)
def inPos (i k : Nat) : Nat := i * 1000 + k
def opsW [HX] (P : Program) (pl : Plan) (i : Nat) (ops : List Oper) : Nat → List Oper → Fr → World → (Fr → World → Prop) → Prop
 | 0,_,_,_,_ => False
 | _ + 1,[],f,w,K => K f w
 | n + 1,o :: r,f,w,K =>
   match o.guard with
   | none => anyW P f o w fun v w' => opsW P pl i ops n r (upd f o.dst v) w' K
   | some (g,want) =>
     match lk pl.js (inPos i (o :: r).length) with
     | some e => GdW (yv ops f g want) (e.C.map (undefs (grpOf g want (o :: r)) f)) w (fun J => opsL P (grpOf g want (o :: r)) f w fun f' w' => J (e.C.map f') w')
         fun s h w' => opsW P pl i ops n (restOf g want (o :: r)) (ovf e f s h) w' K
     | none => False
def nodes : Code → Nat
 | .seq a b => nodes a + nodes b + 1
 | .cond _ a b => nodes a + nodes b + 1
 | .block _ b => nodes b + 1
 | .loop b => nodes b + 1
 | .scope b => nodes b + 1
 | _ => 1
def codeW [HX] (P : Program) (pl : Plan) : Code → Nat → Fr → World → (Fr → World → Prop) → (Nat → Fr → World → Prop) → (Fr → World → Prop) → Prop
 | .skip,_,f,w,kn,_,_ => kn f w
 | .label _,_,f,w,kn,_,_ => kn f w
 | .region _ ops draw,i,f,w,kn,_,_ =>
   bif draw then (match lk pl.ds i with | some e => drawW P ops.toList e (ops.toList.length + 1) [] [] f w.drew kn | none => False)
   else opsW P pl i ops.toList (ops.toList.length + 1) ops.toList f w kn
 | .seq a b,i,f,w,kn,kx,kr =>
   match lk pl.js i with
   | none => codeW P pl a (i + 1) f w (fun f' w' => codeW P pl b (i + 1 + nodes a) f' w' kn kx kr) kx kr
   | some e => JoinW (fun J => codeW P pl a (i + 1) f w (fun f' w' => J (e.C.map f') w') kx kr) fun s g w' => codeW P pl b (i + 1 + nodes a) (ovf e f s g) w' kn kx kr
 | .cond c a b,i,f,w,kn,kx,kr => condW (ev f c) (codeW P pl a (i + 1) f w kn kx kr) (codeW P pl b (i + 1 + nodes a) f w kn kx kr)
 | .block id b,i,f,w,kn,kx,kr => codeW P pl b (i + 1) f w kn (fun j f' w' => bif Nat.beq j id then kn f' w' else kx j f' w') kr
 | .loop b,i,f,w,_,kx,kr =>
   match lk pl.js i with
   | none => False
   | some e => LoopW (e.C.map f) w fun s g w' again => codeW P pl b (i + 1) (ovf e f s g) w' (fun f' w'' => again (e.C.map f') w'') kx kr
 | .scope b,i,f,w,kn,kx,kr => codeW P pl b (i + 1) f w kn kx kr
 | .exit id,_,f,w,_,kx,_ => kx id f w
 | .ret,_,f,w,_,_,kr => kr f w
 | _,_,_,_,_,_,_ => False
def chkPE (V : List Nat) (lo : Nat) (e : PE) : Bool := Nat.ble lo e.lo && e.V.all (inS V lo) && e.C.all (inS e.V e.lo)
def dstIn (V : List Nat) (lo : Nat) (o : Oper) : Bool := match o.dst with | some d => inS V lo d | none => true
def dstLt (n : Nat) (o : Oper) : Bool := match o.dst with | some d => Nat.blt d n | none => true
def chkGuards (pl : Plan) (V : List Nat) (lo : Nat) (i : Nat) (ops : List Oper) : List Oper → Bool
 | [] => true
 | o :: r => (match o.guard with
   | none => true
   | some (g,want) => (match lk pl.js (inPos i (o :: r).length) with
     | some e => chkPE V lo e && (grpOf g want (o :: r)).all fun x => dstIn e.V e.lo x && (match x.dst,dstOf ops g with | some d,some dg => !(Nat.beq d dg) | _,_ => true)
     | none => true)) && chkGuards pl V lo i ops r
def chk (P : Program) (n : Nat) (pl : Plan) (V : List Nat) (lo : Nat) : Code → Nat → Bool
 | .region _ ops draw,i => ops.toList.all (fun o => dstIn V lo o && dstLt n o) &&
   (bif draw then (match lk pl.ds i with | some e => chkDraw P n ops.toList e | none => true) else chkGuards pl V lo i ops.toList ops.toList)
 | .seq a b,i => (match lk pl.js i with | none => chk P n pl V lo a (i + 1) | some e => chkPE V lo e && chk P n pl e.V e.lo a (i + 1)) && chk P n pl V lo b (i + 1 + nodes a)
 | .cond _ a b,i => chk P n pl V lo a (i + 1) && chk P n pl V lo b (i + 1 + nodes a)
 | .block _ b,i => chk P n pl V lo b (i + 1)
 | .scope b,i => chk P n pl V lo b (i + 1)
 | .loop b,i => (match lk pl.js i with | none => true | some e => chkPE V lo e && chk P n pl e.V e.lo b (i + 1))
 | _,_ => true
def Same (V : List Nat) (lo : Nat) (f f' : Fr) : Prop := ∀ t,inS V lo t = false → f' t = f t
theorem Same.refl (V : List Nat) (lo : Nat) (f : Fr) : Same V lo f f := fun _ _ => rfl
theorem Same.trans {V : List Nat} {lo : Nat} {f g h : Fr} (h1 : Same V lo f g) (h2 : Same V lo g h) : Same V lo f h := fun t ht => (h2 t ht).trans (h1 t ht)
theorem inS_iff {V : List Nat} {lo t : Nat} : inS V lo t = true ↔ lo ≤ t ∨ t ∈ V := by
 unfold inS
 cases h : Nat.ble lo t with
 | true => simp [Nat.le_of_ble_eq_true h]
 | false =>
   have : ¬ lo ≤ t := fun hle => by rw [Nat.ble_eq_true_of_le hle] at h; cases h
   simp [this,memb_iff]
theorem chkPE_sub {V : List Nat} {lo : Nat} {e : PE} (h : chkPE V lo e = true) : (∀ t,inS e.V e.lo t = true → inS V lo t = true) ∧ ∀ c ∈ e.C,inS e.V e.lo c = true := by
 simp only [chkPE,Bool.and_eq_true,List.all_eq_true] at h
 refine ⟨fun t ht => ?_,h.2⟩
 rcases inS_iff.1 ht with h1 | h1
 · exact inS_iff.2 (.inl (Nat.le_trans (Nat.le_of_ble_eq_true h.1.1) h1))
 · exact h.1.2 t h1
theorem Same.wider {V V' : List Nat} {lo lo' : Nat} {f f' : Fr} (hs : ∀ t,inS V lo t = true → inS V' lo' t = true) (h : Same V lo f f') : Same V' lo' f f' := fun t ht => h t (by
 cases hi : inS V lo t with
 | false => rfl
 | true => rw [hs t hi] at ht; cases ht)
theorem ovl_map (f' : Fr) : ∀ (C : List Nat) (k : Nat) (s : List Value) (f : Fr) (t : Nat),(∀ j,j < C.length → s.getD (k + j) undef = f' (C.getD j 0)) → (t ∉ C → f t = f' t) → ovl C k s f t = f' t
 | [],_,_,_,_,_,h => h (by simp)
 | c :: C,k,s,f,t,hs,h => by
   simp only [ovl]
   cases hb : Nat.beq t c with
   | true =>
     have := hs 0 (by simp)
     simp only [cond_true]
     rw [Nat.eq_of_beq_eq_true hb]
     simpa using this
   | false =>
     simp only [cond_false]
     have hne : t ≠ c := fun e => by subst e; simp at hb
     refine ovl_map f' C (k + 1) s f t (fun j hj => ?_) fun hn => h (by simp [hne,hn])
     have := hs (j + 1) (by simp; omega)
     rw [show k + 1 + j = k + (j + 1) by omega,this]
     rfl
theorem ovf_self {e : PE} {f f' : Fr} (h : Same e.V e.lo f f') : ovf e f (e.C.map f') f' = f' := by
 funext t
 refine ovl_map f' e.C 0 _ _ t (fun j hj => ?_) fun _ => ?_
 · simp [hj]
 · cases hi : inS e.V e.lo t with
   | true => simp [hi]
   | false => simp [hi,h t hi]
theorem Same.upd {V : List Nat} {lo : Nat} {f : Fr} {o : Oper} (h : dstIn V lo o = true) (v : Value) : Same V lo f (upd f o.dst v) := by
 intro t ht
 unfold dstIn at h
 cases hd : o.dst with
 | none => rfl
 | some d =>
   rw [hd] at h
   rw [upd_some,if_neg]
   intro e
   subst e
   have h : inS V lo t = true := h
   rw [h] at ht
   cases ht
theorem dstLt_spec {n : Nat} {o : Oper} (h : dstLt n o = true) : ∀ t,o.dst = some t → t < n := by
 intro t ht
 rw [dstLt,ht] at h
 exact Nat.le_of_ble_eq_true h
theorem gEq_spec {x : Option (Nat × Bool)} {g : Nat} {w : Bool} (h : gEq x g w = true) : x = some (g,w) := by
 cases x with
 | none => cases h
 | some p =>
   obtain ⟨g',w'⟩ := p
   simp only [gEq] at h
   cases hb : Nat.beq g g' with
   | false => rw [hb] at h; cases h
   | true =>
     rw [hb] at h
     simp only [cond_true,beq_iff_eq] at h
     rw [Nat.eq_of_beq_eq_true hb,h]
theorem grp_split (g : Nat) (want : Bool) : ∀ l : List Oper,l = grpOf g want l ++ restOf g want l ∧ ∀ o ∈ grpOf g want l,o.guard = some (g,want)
 | [] => ⟨rfl,by simp [grpOf]⟩
 | o :: r => by
   simp only [grpOf,restOf]
   cases h : gEq o.guard g want with
   | false => simp
   | true =>
     obtain ⟨h1,h2⟩ := grp_split g want r
     refine ⟨by simp only [cond_true,List.cons_append]; rw [← h1],fun x hx => ?_⟩
     simp only [cond_true,List.mem_cons] at hx
     rcases hx with rfl | hx
     · exact gEq_spec h
     · exact h2 x hx
section
variable [HX] {P : Program} {n : Nat} {D : List Deferred} {ops : List Oper} {Q : Exit → Act → World → Prop} {V : List Nat} {lo : Nat}
def PX [HX] (V : List Nat) (lo : Nat) (D : List Deferred) (Q : Exit → Act → World → Prop) (f : Fr) : Prop :=
 ∀ c a w,a.defers = D → (∀ t,inS V lo t = false → a.tmps.getD t undef = f t) → HX.X c w → Q (.panic c) a w
theorem PX.same {f f' : Fr} (h : PX V lo D Q f) (hs : Same V lo f f') : PX V lo D Q f' := fun c a w hd ht hx => h c a w hd (fun t hn => (ht t hn).trans (hs t hn)) hx
theorem PX.sub {V' : List Nat} {lo' : Nat} {f : Fr} (h : PX V lo D Q f) (hs : ∀ t,inS V' lo' t = true → inS V lo t = true) : PX V' lo' D Q f := fun c a w hd ht hx => h c a w hd (fun t hn => ht t (by
 cases hh : inS V' lo' t with
 | false => rfl
 | true => rw [hs t hh] at hn; cases hn)) hx
theorem PX.ag {f : Fr} {a : Act} (h : PX V lo D Q f) (hag : Ag n D f a) : ∀ c w,HX.X c w → Q (.panic c) a w := fun c w hx => h c a w hag.1 (fun t _ => hag.2.2 t) hx
theorem want_ag {f : Fr} {a : Act} {o : Oper} (h : Ag n D f a) : Region.wanted o (yielded ops.toArray a.tmps) = wantF ops f o := wanted_eq fun _ _ d _ _ => h.2.2 d
theorem op_step {f : Fr} {a : Act} {w : World} {o : Oper} {rest : List Oper} {K : Value → World → Prop} (hag : Ag n D f a) (hw : wantF ops f o = true) (h : anyW P f o w K)
   (hk : ∀ v w',K v w' → wpList P ops.toArray Q rest (a.put o.dst v) w') (hx : ∀ c w,HX.X c w → Q (.panic c) a w) : wpList P ops.toArray Q (o :: rest) a w := by
 unfold wpList
 rw [if_pos (by rw [want_ag hag]; exact hw)]
 refine .inl ?_
 unfold Oper.wp
 rw [eval_fun hag]
 exact (any_sound h).upon hk hx
theorem op_skip {f : Fr} {a : Act} {w : World} {o : Oper} {rest : List Oper} (hag : Ag n D f a) (hw : wantF ops f o = false)
   (hk : wpList P ops.toArray Q rest (a.put o.dst undef) w) : wpList P ops.toArray Q (o :: rest) a w := by
 unfold wpList
 rw [if_neg (by rw [want_ag hag,hw]; simp)]
 exact hk
theorem yv_upd {f : Fr} {g : Nat} {want : Bool} {o : Oper} {v : Value} (h : ∀ d dg,o.dst = some d → dstOf ops g = some dg → d ≠ dg) : yv ops (upd f o.dst v) g want = yv ops f g want := by
 unfold yv
 cases hg : dstOf ops g with
 | none => rfl
 | some dg =>
   cases hd : o.dst with
   | none => rfl
   | some d => simp only; rw [upd_some,if_neg (Ne.symm (h d dg hd hg))]
theorem opsL_sound {g : Nat} {want : Bool} : ∀ (grp rest : List Oper) (f : Fr) (a : Act) (w : World) (K : Fr → World → Prop),(∀ o ∈ grp,o.guard = some (g,want)) →
   (∀ o ∈ grp,dstIn V lo o = true ∧ (∀ t,o.dst = some t → t < n) ∧ ∀ d dg,o.dst = some d → dstOf ops g = some dg → d ≠ dg) → Ag n D f a → yv ops f g want = true → opsL P grp f w K →
   (∀ f' a' w',Ag n D f' a' → Same V lo f f' → K f' w' → wpList P ops.toArray Q rest a' w') → PX V lo D Q f → wpList P ops.toArray Q (grp ++ rest) a w
 | [],rest,f,a,w,K,_,_,hag,_,h,hk,_ => hk f a w hag (Same.refl _ _ _) h
 | o :: grp,rest,f,a,w,K,hg,hd,hag,hy,h,hk,hX => by
   obtain ⟨h1,h2,h3⟩ := hd o List.mem_cons_self
   refine op_step hag (by simp only [wantF,hg o List.mem_cons_self]; exact hy) h (fun v w' h' => ?_) (hX.ag hag)
   refine opsL_sound grp rest (upd f o.dst v) (a.put o.dst v) w' K (fun x hx => hg x (List.mem_cons_of_mem _ hx)) (fun x hx => hd x (List.mem_cons_of_mem _ hx)) (hag.put h2 v) (by rw [yv_upd h3]; exact hy) h' ?_ (hX.same (Same.upd h1 v))
   exact fun f' a' w'' hag' hs hK => hk f' a' w'' hag' (Same.trans (Same.upd h1 v) hs) hK
theorem undefs_sound {g : Nat} {want : Bool} : ∀ (grp rest : List Oper) (f : Fr) (a : Act) (w : World),(∀ o ∈ grp,o.guard = some (g,want)) →
   (∀ o ∈ grp,dstIn V lo o = true ∧ (∀ t,o.dst = some t → t < n) ∧ ∀ d dg,o.dst = some d → dstOf ops g = some dg → d ≠ dg) → Ag n D f a → yv ops f g want = false →
   (∀ a',Ag n D (undefs grp f) a' → Same V lo f (undefs grp f) → wpList P ops.toArray Q rest a' w) → wpList P ops.toArray Q (grp ++ rest) a w
 | [],rest,f,a,w,_,_,hag,_,hk => hk a hag (Same.refl _ _ _)
 | o :: grp,rest,f,a,w,hg,hd,hag,hy,hk => by
   obtain ⟨h1,h2,h3⟩ := hd o List.mem_cons_self
   refine op_skip hag (by simp only [wantF,hg o List.mem_cons_self]; exact hy) ?_
   refine undefs_sound grp rest (upd f o.dst undef) (a.put o.dst undef) w (fun x hx => hg x (List.mem_cons_of_mem _ hx)) (fun x hx => hd x (List.mem_cons_of_mem _ hx)) (hag.put h2 undef) (by rw [yv_upd h3]; exact hy) ?_
   exact fun a' hag' hs => hk a' hag' (Same.trans (Same.upd h1 undef) hs)
theorem chkGuards_rest {pl : Plan} {i : Nat} : ∀ (x y : List Oper),chkGuards pl V lo i ops (x ++ y) = true → chkGuards pl V lo i ops y = true
 | [],_,h => h
 | o :: x,y,h => by
   simp only [List.cons_append,chkGuards,Bool.and_eq_true] at h
   exact chkGuards_rest x y h.2
theorem opsW_sound {pl : Plan} {i : Nat} {K : Fr → World → Prop} : ∀ (m : Nat) (l : List Oper) (f : Fr) (a : Act) (w : World),(∀ o ∈ l,dstIn V lo o = true ∧ dstLt n o = true) → chkGuards pl V lo i ops l = true →
   Ag n D f a → opsW P pl i ops m l f w K → (∀ f' a' w',Ag n D f' a' → Same V lo f f' → K f' w' → Q .normal a' w') → PX V lo D Q f → wpList P ops.toArray Q l a w
 | 0,_,_,_,_,_,_,_,h,_,_ => by cases h
 | m + 1,[],f,a,w,_,_,hag,h,hQ,_ => hQ f a w hag (Same.refl _ _ _) h
 | m + 1,o :: r,f,a,w,hd,hc,hag,h,hQ,hX => by
   unfold opsW at h
   cases hg : o.guard with
   | none =>
     simp only [hg] at h
     have hd0 := hd o List.mem_cons_self
     refine op_step hag (by simp [wantF,hg]) h (fun v w' h' => ?_) (hX.ag hag)
     simp only [chkGuards,Bool.and_eq_true] at hc
     refine opsW_sound m r _ _ w' (fun x hx => hd x (List.mem_cons_of_mem _ hx)) hc.2 (hag.put (dstLt_spec hd0.2) v) h' ?_ (hX.same (Same.upd hd0.1 v))
     exact fun f' a' w'' hag' hs hK => hQ f' a' w'' hag' (Same.trans (Same.upd hd0.1 v) hs) hK
   | some gw =>
     obtain ⟨g,want⟩ := gw
     simp only [hg] at h
     cases he : lk pl.js (inPos i (o :: r).length) with
     | none => simp only [he] at h
     | some e =>
       simp only [he] at h
       obtain ⟨J,hT,hF,hB⟩ := h
       obtain ⟨hsplit,hgs⟩ := grp_split g want (o :: r)
       have hc0 := hc
       simp only [chkGuards,hg,he,Bool.and_eq_true,List.all_eq_true] at hc
       obtain ⟨⟨hpe,hgrp⟩,hc2⟩ := hc
       obtain ⟨hsub,hC⟩ := chkPE_sub hpe
       have hgd : ∀ x ∈ grpOf g want (o :: r),dstIn e.V e.lo x = true ∧ (∀ t,x.dst = some t → t < n) ∧ ∀ d dg,x.dst = some d → dstOf ops g = some dg → d ≠ dg := by
         intro x hx
         have h1 := hgrp x hx
         refine ⟨h1.1,dstLt_spec (hd x (by rw [hsplit]; exact List.mem_append_left _ hx)).2,fun d dg hxd hdg hne => ?_⟩
         have h2 := h1.2
         simp only [hxd,hdg,hne] at h2
         simp at h2
       have hcr : chkGuards pl V lo i ops (restOf g want (o :: r)) = true := by
         rw [hsplit] at hc0
         exact chkGuards_rest _ _ hc0
       have hdr : ∀ x ∈ restOf g want (o :: r),dstIn V lo x = true ∧ dstLt n x = true := fun x hx => hd x (by rw [hsplit]; exact List.mem_append_right _ hx)
       rw [hsplit]
       cases hy : yv ops f g want with
       | true =>
         refine opsL_sound (V := e.V) (lo := e.lo) _ _ f a w _ hgs hgd hag hy (hT hy) (fun f' a' w' hag' hs hJ => ?_) (hX.sub hsub)
         have h' := hB _ f' _ hJ
         simp only [ovf_self hs] at h'
         refine opsW_sound m _ f' a' w' hdr hcr hag' h' ?_ (hX.same (Same.wider hsub hs))
         exact fun f'' a'' w'' hag'' hs' hK => hQ f'' a'' w'' hag'' (Same.trans (Same.wider hsub hs) hs') hK
       | false =>
         refine undefs_sound (V := e.V) (lo := e.lo) _ _ f a w hgs hgd hag hy fun a' hag' hs => ?_
         have h' := hB _ (undefs (grpOf g want (o :: r)) f) _ (hF hy)
         simp only [ovf_self hs] at h'
         refine opsW_sound m _ _ a' w hdr hcr hag' h' ?_ (hX.same (Same.wider hsub hs))
         exact fun f'' a'' w'' hag'' hs' hK => hQ f'' a'' w'' hag'' (Same.trans (Same.wider hsub hs) hs') hK
end
end Go.Eng
namespace Go.Eng
open Go
section
variable [HX] {P : Program} {n : Nat} {D : List Deferred} {pl : Plan}
theorem codeW_sound (hm : P.follows .mixedOrders = true) : ∀ (c : Code) (V : List Nat) (lo i : Nat) (f : Fr) (a : Act) (w : World) (kn : Fr → World → Prop) (kx : Nat → Fr → World → Prop) (kr : Fr → World → Prop) (Q : Exit → Act → World → Prop),
   chk P n pl V lo c i = true → Ag n D f a → codeW P pl c i f w kn kx kr →
   (∀ f' a' w',Ag n D f' a' → Same V lo f f' → kn f' w' → Q .normal a' w') → (∀ j f' a' w',Ag n D f' a' → Same V lo f f' → kx j f' w' → Q (.exit j) a' w') →
   (∀ f' a' w',Ag n D f' a' → Same V lo f f' → kr f' w' → Q .ret a' w') → PX V lo D Q f → c.wp P Q a w := by
 intro c
 induction c with
 | skip => intro V lo i f a w kn kx kr Q _ hag h hn _ _ _; exact wp_skip (hn f a w hag (Same.refl _ _ _) h)
 | label l => intro V lo i f a w kn kx kr Q _ hag h hn _ _ _; exact wp_label (hn f a w hag (Same.refl _ _ _) h)
 | exit id => intro V lo i f a w kn kx kr Q _ hag h _ hx _ _; exact wp_exit (hx id f a w hag (Same.refl _ _ _) h)
 | ret => intro V lo i f a w kn kx kr Q _ hag h _ _ hr _; exact wp_ret (hr f a w hag (Same.refl _ _ _) h)
 | goto l => intro V lo i f a w kn kx kr Q _ _ h _ _ _ _; exact h.elim
 | refuse l => intro V lo i f a w kn kx kr Q _ _ h _ _ _ _; exact h.elim
 | scope b ih =>
   intro V lo i f a w kn kx kr Q hc hag h hn hx hr hX
   simp only [chk] at hc
   simp only [codeW] at h
   refine wp_scope_straight ?_
   exact ih V lo _ f a w kn kx kr _ hc hag h hn hx hr hX
 | rangeFunc f' ps az b => intro V lo i f a w kn kx kr Q _ _ h _ _ _ _; exact h.elim
 | region id ops draw =>
   intro V lo i f a w kn kx kr Q hc hag h hn _ _ hX
   simp only [chk,Bool.and_eq_true,List.all_eq_true] at hc
   simp only [codeW] at h
   cases draw with
   | false =>
     simp only [cond_false] at h hc
     refine wp_region_list ?_
     have := opsW_sound (ops := ops.toList) (Q := Q) (n := n) (V := V) (lo := lo) _ _ f a w hc.1 hc.2 hag h hn hX
     simpa using this
   | true =>
     simp only [cond_true] at h hc
     cases he : lk pl.ds i with
     | none => simp only [he] at h
     | some e =>
       simp only [he] at h hc
       have := region_draw (R := Same V lo f) (id := id) (Q := Q) (K := kn) (fun f' o v ho hs => Same.trans hs (Same.upd (hc.1 o ho).1 v)) hm hc.2
         (fun f' a' w' hag' hs hk => hn f' a' w' hag' hs hk) (fun c f' a' w' hd hs ht hx => hX c a' w' hd (fun t hn => (ht t fun o ho he => by
           have := (hc.1 o ho).1
           simp only [dstIn,he] at this
           rw [this] at hn; cases hn).trans (hs t hn)) hx) hag (Same.refl _ _ _) h
       simpa using this
 | seq x y ihx ihy =>
   intro V lo i f a w kn kx kr Q hc hag h hn hx hr hX
   simp only [chk,Bool.and_eq_true] at hc
   simp only [codeW] at h
   refine wp_seq ?_
   cases he : lk pl.js i with
   | none =>
     simp only [he] at h hc
     refine ihx V lo (i + 1) f a w _ kx kr _ hc.1 hag h ?_ hx hr hX
     intro f' a' w' hag' hs h'
     exact ihy V lo _ f' a' w' kn kx kr Q hc.2 hag' h' (fun f'' a'' w'' hag'' hs' hk => hn f'' a'' w'' hag'' (hs.trans hs') hk)
       (fun j f'' a'' w'' hag'' hs' hk => hx j f'' a'' w'' hag'' (hs.trans hs') hk) (fun f'' a'' w'' hag'' hs' hk => hr f'' a'' w'' hag'' (hs.trans hs') hk) (hX.same hs)
   | some e =>
     simp only [he,Bool.and_eq_true] at h hc
     obtain ⟨hsub,hC⟩ := chkPE_sub hc.1.1
     obtain ⟨J,hA,hB⟩ := h
     refine ihx e.V e.lo (i + 1) f a w _ kx kr _ hc.1.2 hag hA ?_ (fun j f' a' w' hag' hs hk => hx j f' a' w' hag' (hs.wider hsub) hk) (fun f' a' w' hag' hs hk => hr f' a' w' hag' (hs.wider hsub) hk) (hX.sub hsub)
     intro f' a' w' hag' hs hJ
     have h' := hB _ f' _ hJ
     simp only [ovf_self hs] at h'
     have hs0 := hs.wider hsub
     exact ihy V lo _ f' a' w' kn kx kr Q hc.2 hag' h' (fun f'' a'' w'' hag'' hs' hk => hn f'' a'' w'' hag'' (hs0.trans hs') hk)
       (fun j f'' a'' w'' hag'' hs' hk => hx j f'' a'' w'' hag'' (hs0.trans hs') hk) (fun f'' a'' w'' hag'' hs' hk => hr f'' a'' w'' hag'' (hs0.trans hs') hk) (hX.same hs0)
 | cond c x y ihx ihy =>
   intro V lo i f a w kn kx kr Q hc hag h hn hx hr hX
   simp only [chk,Bool.and_eq_true] at hc
   simp only [codeW] at h
   have he : a.eval c = ev f c := congrFun (eval_fun hag) c
   cases hv : ev f c <;> rw [hv] at h <;> simp only [condW] at h <;> try exact h.elim
   rename_i t
   refine wp_cond_split (he.trans hv) (fun ht => ?_) (fun ht => ?_)
   · exact ihx V lo _ f a w kn kx kr Q hc.1 hag (h.1 ht) hn hx hr hX
   · exact ihy V lo _ f a w kn kx kr Q hc.2 hag (h.2 ht) hn hx hr hX
 | block id b ih =>
   intro V lo i f a w kn kx kr Q hc hag h hn hx hr hX
   simp only [chk] at hc
   simp only [codeW] at h
   refine wp_block ?_
   refine ih V lo _ f a w kn _ kr _ hc hag h hn ?_ hr hX
   intro j f' a' w' hag' hs hk
   simp only [Exit.inBlock]
   cases hj : Nat.beq j id with
   | true =>
     rw [hj] at hk
     rw [if_pos (Nat.eq_of_beq_eq_true hj)]
     exact hn f' a' w' hag' hs hk
   | false =>
     rw [hj] at hk
     rw [if_neg (fun e => by subst e; simp at hj)]
     exact hx j f' a' w' hag' hs hk
 | loop b ih =>
   intro V lo i f a w kn kx kr Q hc hag h hn hx hr hX
   simp only [chk] at hc
   simp only [codeW] at h
   cases he : lk pl.js i with
   | none => simp only [he] at h
   | some e =>
     simp only [he,Bool.and_eq_true] at h hc
     obtain ⟨hsub,hC⟩ := chkPE_sub hc.1
     obtain ⟨I,μ,h0,hround⟩ := h
     refine wp_loop (fun a' w' => ∃ f',Ag n D f' a' ∧ Same e.V e.lo f f' ∧ I (e.C.map f') w') (fun a' w' => μ (e.C.map fun t => a'.tmps.getD t undef) w') ⟨f,hag,Same.refl _ _ _,h0⟩ ?_
     rintro a' w' ⟨f',hag',hs,hI⟩
     have h' := hround _ f' _ hI
     simp only [ovf_self hs] at h'
     have hfun : (fun t => a'.tmps.getD t undef) = f' := funext hag'.2.2
     refine ih e.V e.lo _ f' a' w' _ kx kr _ hc.2 hag' h' ?_ (fun j f'' a'' w'' hag'' hs' hk => hx j f'' a'' w'' hag'' ((hs.trans hs').wider hsub) hk)
       (fun f'' a'' w'' hag'' hs' hk => hr f'' a'' w'' hag'' ((hs.trans hs').wider hsub) hk) ((hX.sub hsub).same hs)
     intro f'' a'' w'' hag'' hs' hk
     have hfun' : (fun t => a''.tmps.getD t undef) = f'' := funext hag''.2.2
     refine ⟨⟨f'',hag'',hs.trans hs',hk.1⟩,?_⟩
     rw [hfun,hfun']
     exact hk.2
def resW (P : Program) : List ResultVar → Fr → World → (List Value → Prop) → Prop
 | [],_,_,K => K []
 | .tmp t :: r,f,w,K => resW P r f w fun l => K (f t :: l)
 | .cell a T :: r,f,w,K => andB (P.underlying T).isSome (ldW (isAggT P T) (sizeT P T) (f a) w fun v => resW P r f w fun l => K (v :: l))
def one : List Value → Value
 | [v] => v
 | l => .tuple l.toArray
def resOf (tmps : Array Value) : ResultVar → Sem Value
 | .tmp t => pure (tmps.getD t undef)
 | .cell x t => do loadVar t (← asAddr (tmps.getD x undef))
theorem results_eq (fn : Func) (tmps : Array Value) : results fn tmps = (do let vs ← fn.results.mapM (resOf tmps); pure (if h : vs.size = 1 then vs[0] else .tuple vs)) := rfl
theorem res_run {f : Fr} {a : Act} {w : World} (hag : Ag n D f a) : ∀ (l : List ResultVar) (K : List Value → Prop),resW P l f w K →
   ∃ vs,K vs ∧ (l.mapM (resOf a.tmps)).run P w = .ok vs w
 | [],K,h => ⟨[],h,rfl⟩
 | .tmp t :: r,K,h => by
   obtain ⟨vs,hk,hr⟩ := res_run hag r _ h
   refine ⟨_,hk,?_⟩
   rw [List.mapM_cons,run_bind]
   simp only [resOf,run_pure,run_bind,hr]
   rw [hag.2.2 t]
 | .cell x T :: r,K,h => by
   replace h := andB.out h
   obtain ⟨hT,h⟩ := h
   obtain ⟨v,h',hl⟩ := ld_run hT h
   obtain ⟨vs,hk,hr⟩ := res_run hag r _ h'
   refine ⟨_,hk,?_⟩
   have hl' : (resOf a.tmps (.cell x T)).run P w = .ok v w := by
     show (do loadVar T (← asAddr (a.tmps.getD x undef)) : Sem Value).run P w = .ok v w
     rw [hag.2.2 x]
     cases hv : f x <;> rw [hv] at h hl <;> simp only [ldW] at h <;> try exact h.elim
     rename_i p
     cases p with
     | none => exact h.elim
     | some p => exact hl
   rw [List.mapM_cons,run_bind]
   simp only [hl',run_bind,hr,run_pure]
theorem results_run {fn : Func} {f : Fr} {a : Act} {w : World} {K : Value → Prop} (hag : Ag n D f a) (h : resW P fn.results.toList f w fun l => K (one l)) :
   ∃ v,K v ∧ (results fn a.tmps).run P w = .ok v w := by
 obtain ⟨vs,hk,hr⟩ := res_run hag _ _ h
 refine ⟨_,hk,?_⟩
 rw [results_eq,run_bind]
 have : (fn.results.mapM (resOf a.tmps)).run P w = .ok vs.toArray w := by
   rw [Array.mapM_eq_mapM_toList,← bind_pure_comp,run_bind,hr]
   rfl
 rw [this]
 simp only [run_pure]
 congr 1
 cases vs with
 | nil => rfl
 | cons v r => cases r <;> rfl
def fr0 (args : List Value) : Fr := fun j => args.getD j undef
def funW [HX] (P : Program) (fn : Func) (pl : Plan) (args : List Value) (w : World) (K : Value → World → Prop) : Prop :=
 match fn.body with
 | some c => codeW P pl c 0 (fr0 args) w (fun f w' => resW P fn.results.toList f w' fun l => K (one l) w') (fun _ _ _ => False) (fun f w' => resW P fn.results.toList f w' fun l => K (one l) w')
 | none => False
def chkFun (P : Program) (fn : Func) (pl : Plan) (k : Nat) : Bool :=
 match fn.body with
 | some c => Nat.ble k fn.ntmps && chk P fn.ntmps pl [] 0 c 0
 | none => false
theorem funW_sound {g : FuncId} {fn : Func} {args : List Value} {w : World} {K : Value → World → Prop} (hm : P.follows .mixedOrders = true) (hf : P.funcs[g]? = some fn) (hc : chkFun P fn pl args.length = true)
   (h : funW P fn pl args w K) : callW P g args w K := by
 unfold funW at h
 unfold chkFun at hc
 cases hb : fn.body with
 | none => rw [hb] at h; exact h.elim
 | some c =>
   rw [hb] at h hc
   simp only [Bool.and_eq_true] at hc
   unfold callW
   refine calls_of_wp hf hb ?_
   have hle : args.length ≤ fn.ntmps := Nat.le_of_ble_eq_true hc.1
   have hag : Ag fn.ntmps [] (fr0 args) { tmps := args.toArray ++ Array.replicate (fn.ntmps - args.toArray.size) undef,defers := [] } := by
     refine ⟨rfl,by simp; omega,fun t => ?_⟩
     simp only [Array.getD_eq_getD_getElem?,Array.getElem?_append,List.size_toArray,List.getElem?_toArray,Array.getElem?_replicate,fr0,List.getD_eq_getElem?_getD]
     split
     · rfl
     · rename_i hlt
       rw [List.getElem?_eq_none (by omega)]
       split <;> rfl
   have hend : ∀ (f' : Fr) (a' : Act) (w' : World),Ag fn.ntmps [] f' a' → (resW P fn.results.toList f' w' fun l => K (one l) w') → a'.defers = [] ∧ ∃ v,(results fn a'.tmps).run P w' = .ok v w' ∧ EndK K (.returned v) w' := by
     intro f' a' w' hag' hk
     obtain ⟨v,hk',hr⟩ := results_run (K := fun v => K v w') hag' hk
     exact ⟨hag'.1,v,hr,hk'⟩
   exact codeW_sound hm c [] 0 0 _ _ w _ _ _ _ hc.2 hag h (fun f' a' w' hag' _ hk => hend f' a' w' hag' hk) (fun _ _ _ _ _ _ hk => hk.elim) (fun f' a' w' hag' _ hk => hend f' a' w' hag' hk) (fun c a' w' hd _ hx => ⟨hd,hx⟩)
theorem tie (P : Program) (g : FuncId) (fn : Func) (pl : Plan) (args : List Value) (w : World) (K : Value → World → Prop) (k : Nat) (X : Prop) (hk : args.length = k) (hm : P.follows .mixedOrders = true) (hf : P.funcs[g]? = some fn)
   (hc : chkFun P fn pl k = true) (he : funW P fn pl args w K = X) (hr : ∀ (az : Array Value) (w : World),(callFunc g az).run P w = .ok (.enter g az) w) (h : X) : callF P g args w K := by
 unfold callF
 rw [hr]
 exact funW_sound hm hf (by rw [hk]; exact hc) (by rw [he]; exact h)
theorem callF_calls {g : FuncId} {args : List Value} {w : World} {K : Value → World → Prop} (hr : (callFunc g args.toArray).run P w = .ok (.enter g args.toArray) w) (h : callF P g args w K) :
   Calls P g args.toArray w (EndK K) := by
 unfold callF at h
 rw [hr] at h
 exact h
end
end Go.Eng
namespace Go.Eng
open Go
def cellO (o : Option Obj) (i : Nat) : Option Value := match o with | some (.cells c _ _) => c[i]? | _ => none
def frO (o : Option Obj) (i : Nat) : Bool := match o with | some (.cells _ _ (lo,hi)) => decide (lo ≤ i) && decide (i < hi) | _ => false
def setO (o : Option Obj) (i : Nat) (v : Value) : Option Obj := match o with | some (.cells c t f) => some (.cells (c.setIfInBounds i v) t f) | o => o
theorem cellO_some (c : Array Value) (t : TypeId) (f : Nat × Nat) (i : Nat) : cellO (some (.cells c t f)) i = c[i]? := rfl
theorem frO_zero (c : Array Value) (t : TypeId) (i : Nat) : frO (some (.cells c t (0,0))) i = false := by simp [frO]
theorem setO_some (c : Array Value) (t : TypeId) (f : Nat × Nat) (i : Nat) (v : Value) : setO (some (.cells c t f)) i v = some (.cells (c.setIfInBounds i v) t f) := rfl
theorem cell_eq (w : World) (b o : Nat) : w.cell? ⟨b,o,none⟩ = cellO w.heap[b]? o := by
 unfold World.cell? cellO
 cases w.heap[b]? with
 | none => rfl
 | some x => cases x <;> rfl
theorem frozen_eq (w : World) (b o : Nat) : w.frozen? ⟨b,o,none⟩ = frO w.heap[b]? o := by
 unfold World.frozen? frO
 cases w.heap[b]? with
 | none => rfl
 | some x => cases x <;> rfl
theorem heap_set_same (w : World) (b o : Nat) (v : Value) : (w.setCell ⟨b,o,none⟩ v).heap[b]? = setO w.heap[b]? o v := by
 unfold World.setCell setO
 simp only [Array.getElem?_modify,if_true]
 cases w.heap[b]? with
 | none => rfl
 | some x => cases x <;> simp
theorem heap_set_other (w : World) (b o k : Nat) (v : Value) (h : k ≠ b) : (w.setCell ⟨b,o,none⟩ v).heap[k]? = w.heap[k]? := by
 unfold World.setCell
 simp only [Array.getElem?_modify]
 rw [if_neg (Ne.symm h)]
theorem size_set (w : World) (a : Addr) (v : Value) : (w.setCell a v).heap.size = w.heap.size := by simp
theorem heap_anew (w : World) (o : Obj) (k : Nat) (h : k = w.heap.size) : (w.alloc o).heap[k]? = some o := by subst h; show (w.heap.push o)[w.heap.size]? = _; simp
theorem heap_aold (w : World) (o : Obj) (k : Nat) (h : k ≠ w.heap.size) : (w.alloc o).heap[k]? = w.heap[k]? := by
 show (w.heap.push o)[k]? = _
 rw [Array.getElem?_push,if_neg h]
theorem size_alloc (w : World) (o : Obj) : (w.alloc o).heap.size = w.heap.size + 1 := by simp
theorem heap_drew (w : World) (k : Nat) : w.drew.heap[k]? = w.heap[k]? := rfl
theorem size_drew (w : World) : w.drew.heap.size = w.heap.size := rfl
theorem add_mk (b o n : Nat) : (⟨b,o,none⟩ : Addr).add n = ⟨b,o + n,none⟩ := by
 unfold Addr.add
 split
 · rename_i h; subst h; rfl
 · rfl
structure Chg (S : Nat → Prop) (w w' : World) : Prop where
 os : w'.os = w.os
 tape : w'.tape = w.tape
 output : w'.output = w.output
 size : w.heap.size ≤ w'.heap.size
 heap : ∀ k,k < w.heap.size → ¬ S k → w'.heap[k]? = w.heap[k]?
abbrev Ext := Chg (fun _ => False)
theorem Chg.refl (S : Nat → Prop) (w : World) : Chg S w w := ⟨rfl,rfl,rfl,Nat.le_refl _,fun _ _ _ => rfl⟩
theorem Chg.trans {S : Nat → Prop} {w w1 w2 : World} (h1 : Chg S w w1) (h2 : Chg S w1 w2) : Chg S w w2 :=
 ⟨h2.os.trans h1.os,h2.tape.trans h1.tape,h2.output.trans h1.output,Nat.le_trans h1.size h2.size,fun k hk hs => (h2.heap k (Nat.lt_of_lt_of_le hk h1.size) hs).trans (h1.heap k hk hs)⟩
theorem Chg.mono {S T : Nat → Prop} {w w' : World} (h : Chg S w w') (hs : ∀ k,k < w.heap.size → S k → T k) : Chg T w w' :=
 ⟨h.os,h.tape,h.output,h.size,fun k hk hn => h.heap k hk fun e => hn (hs k hk e)⟩
theorem Chg.of_ext {S : Nat → Prop} {w w' : World} (h : Ext w w') : Chg S w w' := h.mono fun _ _ e => e.elim
theorem Chg.drew {S : Nat → Prop} {w w' : World} (h : Chg S w w') : Chg S w w'.drew := ⟨h.os,h.tape,h.output,h.size,h.heap⟩
theorem Chg.alloc {S : Nat → Prop} {w w' : World} (h : Chg S w w') (o : Obj) : Chg S w (w'.alloc o) :=
 ⟨h.os,h.tape,h.output,by rw [size_alloc]; exact Nat.le_succ_of_le h.size,fun k hk hs => by rw [heap_aold _ _ _ (by have := h.size; omega)]; exact h.heap k hk hs⟩
theorem Chg.set {S : Nat → Prop} {w w' : World} (h : Chg S w w') {b o : Nat} (hb : S b ∨ w.heap.size ≤ b) (v : Value) : Chg S w (w'.setCell ⟨b,o,none⟩ v) :=
 ⟨h.os,h.tape,h.output,by rw [size_set]; exact h.size,fun k hk hs => by
   have hne : k ≠ b := fun e => by
     subst e
     rcases hb with hb | hb
     · exact hs hb
     · omega
   rw [heap_set_other _ _ _ _ _ hne]
   exact h.heap k hk hs⟩
theorem Chg.then {S T : Nat → Prop} {w w1 w2 : World} (h1 : Chg S w w1) (h2 : Chg T w1 w2) (hT : ∀ k,k < w.heap.size → T k → S k) : Chg S w w2 :=
 ⟨h2.os.trans h1.os,h2.tape.trans h1.tape,h2.output.trans h1.output,Nat.le_trans h1.size h2.size,fun k hk hs => (h2.heap k (Nat.lt_of_lt_of_le hk h1.size) fun e => hs (hT k hk e)).trans (h1.heap k hk hs)⟩
theorem Chg.below {w w' : World} (h : Ext w w') : RowKit.Below w.heap.size w w' := ⟨h.os,h.tape,h.output,h.size,fun k hk => h.heap k hk id⟩
theorem Chg.of_below {w w' : World} (h : RowKit.Below w.heap.size w w') : Ext w w' := ⟨h.os,h.tape,h.output,h.size,fun k hk _ => h.block k hk⟩
abbrev str (l : List UInt8) : Value := .string (ofL l)
abbrev i64 (n : Int) : Value := .int .i64 n
theorem wrap_id {n : Int} (h1 : -9223372036854775808 ≤ n) (h2 : n < 9223372036854775808) : IntKind.i64.wrap n = n := by
 have e1 : (2 : Int) ^ 64 = 18446744073709551616 := by decide
 have e2 : (2 : Int) ^ (64 - 1) = 9223372036854775808 := by decide
 simp only [IntKind.wrap,IntKind.bits,IntKind.signed,Bool.true_and,e1,e2]
 by_cases h : n % 18446744073709551616 ≥ 9223372036854775808
 · rw [if_pos (by simpa using h)]; omega
 · rw [if_neg (by simpa using h)]; omega
theorem condW_true (A B : Prop) : condW (.bool true) A B ↔ A := by simp [condW]
theorem condW_false (A B : Prop) : condW (.bool false) A B ↔ B := by simp [condW]
theorem condW_dec (p : Prop) [Decidable p] (A B : Prop) : condW (.bool (decide p)) A B ↔ (p → A) ∧ (¬ p → B) := by simp [condW]
theorem pick_t (a b : Value) (K : Value → Prop) : pickW (.bool true) a b K ↔ K a := Iff.rfl
theorem pick_f (a b : Value) (K : Value → Prop) : pickW (.bool false) a b K ↔ K b := Iff.rfl
section forms
variable (k : IntKind) (a b : Int) (s t : ByteArray) (x y : Value) (ad : Addr) (w : World) (K : Value → Prop) (KE : Value → World → Prop) (KW : World → Prop)
theorem bin_add : binW .add (.int k a) (.int k b) K ↔ K (.int k (k.wrap (a + b))) := by simp [binW]
theorem bin_sub : binW .sub (.int k a) (.int k b) K ↔ K (.int k (k.wrap (a - b))) := by simp [binW]
theorem bin_mul : binW .mul (.int k a) (.int k b) K ↔ K (.int k (k.wrap (a * b))) := by simp [binW]
theorem bin_quo : binW .quo (.int k a) (.int k b) K ↔ b ≠ 0 ∧ K (.int k (k.wrap (a.tdiv b))) := by simp [binW]
theorem bin_rem : binW .rem (.int k a) (.int k b) K ↔ b ≠ 0 ∧ K (.int k (a.tmod b)) := by simp [binW]
theorem bin_eql : binW .eql (.int k a) (.int k b) K ↔ K (.bool (decide (a = b))) := by simp [binW]
theorem bin_neq : binW .neq (.int k a) (.int k b) K ↔ K (.bool (decide (a ≠ b))) := by simp [binW]
theorem bin_lss : binW .lss (.int k a) (.int k b) K ↔ K (.bool (decide (a < b))) := by simp [binW]
theorem bin_leq : binW .leq (.int k a) (.int k b) K ↔ K (.bool (decide (a ≤ b))) := by simp [binW]
theorem bin_gtr : binW .gtr (.int k a) (.int k b) K ↔ K (.bool (decide (b < a))) := by simp [binW]
theorem bin_geq : binW .geq (.int k a) (.int k b) K ↔ K (.bool (decide (b ≤ a))) := by simp [binW]
theorem bin_and : binW .and (.int k a) (.int k b) K ↔ K (.int k (k.wrap (BitVec.ofInt k.bits a &&& BitVec.ofInt k.bits b).toNat)) := by simp [binW]
theorem bin_or : binW .or (.int k a) (.int k b) K ↔ K (.int k (k.wrap (BitVec.ofInt k.bits a ||| BitVec.ofInt k.bits b).toNat)) := by simp [binW]
theorem ofL_app (l m : List UInt8) : ofL l ++ ofL m = ofL (l ++ m) := by
 apply ByteArray.ext; simp [ofL,ByteArray.data_append]
theorem bin_sadd (l m : List UInt8) : binW .add (.string (ofL l)) (.string (ofL m)) K ↔ ((l.length + m.length : Nat) : Int) ≤ IntKind.i64.max ∧ K (.string (ofL (l ++ m))) := by simp [binW,ofL_size,ofL_app]
theorem bin_seq (l m : List UInt8) : binW .eql (.string (ofL l)) (.string (ofL m)) K ↔ K (.bool (decide (l = m))) := by simp [binW,ofL_data]
theorem bin_sne (l m : List UInt8) : binW .neq (.string (ofL l)) (.string (ofL m)) K ↔ K (.bool (decide (l ≠ m))) := by simp [binW,ofL_data]
theorem bin_slt (l m : List UInt8) : binW .lss (.string (ofL l)) (.string (ofL m)) K ↔ K (.bool (Op.bytesLess l m)) := by simp [binW,ofL_data]
theorem bin_sgt (l m : List UInt8) : binW .gtr (.string (ofL l)) (.string (ofL m)) K ↔ K (.bool (!(Op.bytesLess l m || decide (l = m)))) := by simp [binW,ofL_data]
theorem bin_sge (l m : List UInt8) : binW .geq (.string (ofL l)) (.string (ofL m)) K ↔ K (.bool (!Op.bytesLess l m)) := by simp [binW,ofL_data]
theorem bin_sle (l m : List UInt8) : binW .leq (.string (ofL l)) (.string (ofL m)) K ↔ K (.bool (Op.bytesLess l m || decide (l = m))) := by simp [binW,ofL_data]
theorem nil_ptr : nilW (.pointer (some ad)) K ↔ K (.pointer (some ad)) := Iff.rfl
theorem fld_ptr (off : Nat) : fldW off (.pointer (some ad)) K ↔ K (.pointer (some (ad.add off))) := Iff.rfl
theorem ld_one (n : Nat) : ldW false n (.pointer (some ad)) w K ↔ ∃ v,w.cell? ad = some v ∧ K v := Iff.rfl
theorem ld_agg (n : Nat) : ldW true n (.pointer (some ad)) w K ↔ ∃ l,cellsAt w ad 0 n = some l ∧ K (.agg l.toArray) := Iff.rfl
theorem st_agg (n : Nat) (l : List Value) : stW n (.pointer (some ad)) (.agg l.toArray) w KW ↔ l.length = n ∧ stCells ad l 0 w KW := by simp [stW,Value.cells]
theorem one_int : one1 (.int k a) = true := rfl
theorem one_bool (c : Bool) : one1 (.bool c) = true := rfl
theorem one_str : one1 (.string s) = true := rfl
theorem one_slice (p : Option Addr) (n m : Nat) : one1 (.slice p n m) = true := rfl
theorem one_ptr (p : Option Addr) : one1 (.pointer p) = true := rfl
theorem one_map (p : Option Nat) : one1 (.map p) = true := rfl
theorem ext_tuple (i : Nat) (l : List Value) : extW i (.tuple l.toArray) K ↔ ∃ v,l[i]? = some v ∧ K v := by
 simp only [extW,List.getElem?_toArray]
 cases l[i]? <;> simp
theorem ixa_slice (size n c : Nat) : ixaW none size (.slice (some ad) n c) (.int k a) K ↔ 0 ≤ a ∧ a < n ∧ K (.pointer (some (ad.add (a.toNat * size)))) := Iff.rfl
theorem ixa_arr (m size : Nat) : ixaW (some m) size (.pointer (some ad)) (.int k a) K ↔ 0 ≤ a ∧ a < m ∧ K (.pointer (some (ad.add (a.toNat * size)))) := Iff.rfl
theorem ixs_str (l : List UInt8) : ixsW (.string (ofL l)) (.int k a) K ↔ 0 ≤ a ∧ ∃ c,l[a.toNat]? = some c ∧ K (.int .u8 c.toNat) := by simp [ixsW,ofL_data]
theorem lens_str (l : List UInt8) : lensW (.string (ofL l)) K ↔ K (.int .i64 l.length) := by simp [lensW,ofL_size]
theorem lenl_sl (p : Option Addr) (n c : Nat) : lenlW (.slice p n c) K ↔ K (.int .i64 n) := Iff.rfl
theorem un_not (c : Bool) : unW .not (.bool c) K ↔ K (.bool (!c)) := Iff.rfl
theorem un_neg : unW .neg (.int k a) K ↔ K (.int k (k.wrap (0 - a))) := Iff.rfl
theorem cvt_int (k' : IntKind) : cvtW k' (.int k a) K ↔ K (.int k' (k'.wrap a)) := Iff.rfl
theorem min_int : minW (.int k a) (.int k b) K ↔ K (.int k (if b < a then b else a)) := Iff.rfl
theorem max_int : maxW (.int k a) (.int k b) K ↔ K (.int k (if a < b then b else a)) := Iff.rfl
theorem bd_none (n m : Nat) (KN : Nat → Prop) : bdW none n m KN ↔ KN n := Iff.rfl
theorem bd_some (n m : Nat) (KN : Nat → Prop) : bdW (some (.int k a)) n m KN ↔ 0 ≤ a ∧ a ≤ m ∧ KN a.toNat := Iff.rfl
theorem sls_str (l : List UInt8) (lo hi : Option Value) : slsW (.string (ofL l)) lo hi K ↔ bdW hi l.length l.length fun h => bdW lo 0 h fun m => K (.string (ofL ((l.take h).drop m))) := by simp only [slsW,ofL_size,ofL_data]
theorem isB_t (c : Bool) : isB (.bool c) true = c := by cases c <;> rfl
theorem isB_f (c : Bool) : isB (.bool c) false = !c := by cases c <;> rfl
end forms
theorem GdW.go {c : Bool} {u : List Value} {w : World} {A : (List Value → World → Prop) → Prop} {B : List Value → Fr → World → Prop}
   (h1 : c = true → A (fun s w' => ∀ g,B s g w')) (h2 : c = false → ∀ g,B u g w) : GdW c u w A B :=
 ⟨fun s w' => ∀ g,B s g w',h1,fun h => h2 h,fun s g _ h => h g⟩
theorem GdW.f {u : List Value} {w : World} {A : (List Value → World → Prop) → Prop} {B : List Value → Fr → World → Prop} (h : ∀ g,B u g w) : GdW false u w A B :=
 GdW.go (fun e => by cases e) (fun _ => h)
theorem JoinW.cut {A : (List Value → World → Prop) → Prop} {B : List Value → Fr → World → Prop} (J : List Value → World → Prop) (h1 : A J) (h2 : ∀ s g w',J s w' → B s g w') : JoinW A B := ⟨J,h1,h2⟩
theorem LoopW.go {s0 : List Value} {w0 : World} {B : List Value → Fr → World → (List Value → World → Prop) → Prop} (I : List Value → World → Prop) (μ : List Value → World → Nat)
   (h0 : I s0 w0) (h : ∀ s g w,I s w → B s g w (fun s' w' => I s' w' ∧ μ s' w' < μ s w)) : LoopW s0 w0 B := ⟨I,μ,h0,h⟩
theorem put_one (c : List Value) (i : Nat) (v : Value) (r : List (Nat × Nat × Value)) (K : List Value → Prop) (h : v.cells = #[v]) : putW c ((i,1,v) :: r) K ↔ i < c.length ∧ putW (c.set i v) r K := by
 simp only [putW,h]
 constructor
 · rintro ⟨_,h2,h3⟩
   rw [List.set_eq_take_append_cons_drop,if_pos (by omega)]
   exact ⟨by omega,by simpa using h3⟩
 · rintro ⟨h2,h3⟩
   rw [List.set_eq_take_append_cons_drop,if_pos (by omega)] at h3
   exact ⟨rfl,by omega,by simpa using h3⟩
theorem put_nil (c : List Value) (K : List Value → Prop) : putW c [] K ↔ K c := Iff.rfl
theorem put_map (c : List Value) (i : Nat) (v : Option Nat) (r : List (Nat × Nat × Value)) (K : List Value → Prop) : putW c ((i,1,.map v) :: r) K ↔ i < c.length ∧ putW (c.set i (.map v)) r K := put_one c i _ r K rfl
theorem put_int (c : List Value) (i : Nat) (k : IntKind) (v : Int) (r : List (Nat × Nat × Value)) (K : List Value → Prop) : putW c ((i,1,.int k v) :: r) K ↔ i < c.length ∧ putW (c.set i (.int k v)) r K := put_one c i _ r K rfl
theorem put_str (c : List Value) (i : Nat) (v : ByteArray) (r : List (Nat × Nat × Value)) (K : List Value → Prop) : putW c ((i,1,.string v) :: r) K ↔ i < c.length ∧ putW (c.set i (.string v)) r K := put_one c i _ r K rfl
theorem put_bool (c : List Value) (i : Nat) (v : Bool) (r : List (Nat × Nat × Value)) (K : List Value → Prop) : putW c ((i,1,.bool v) :: r) K ↔ i < c.length ∧ putW (c.set i (.bool v)) r K := put_one c i _ r K rfl
theorem put_ptr (c : List Value) (i : Nat) (v : Option Addr) (r : List (Nat × Nat × Value)) (K : List Value → Prop) : putW c ((i,1,.pointer v) :: r) K ↔ i < c.length ∧ putW (c.set i (.pointer v)) r K := put_one c i _ r K rfl
theorem put_slice (c : List Value) (i : Nat) (p : Option Addr) (n m : Nat) (r : List (Nat × Nat × Value)) (K : List Value → Prop) : putW c ((i,1,.slice p n m) :: r) K ↔ i < c.length ∧ putW (c.set i (.slice p n m)) r K := put_one c i _ r K rfl
end Go.Eng
namespace Go.Eng
open Go
structure ElemT (P : Program) (t e : TypeId) (size bytes : Nat) : Prop where
 und : P.underlying t = some (.slice e)
 info : (P.info? e).map (fun i => (i.zero.map (·.cells.size),i.size,i.bytes)) = some (some size,size,bytes)
 pos : 0 < size
theorem ElemT.get {P : Program} {t e : TypeId} {size bytes : Nat} (h : ElemT P t e size bytes) : ∃ i z,P.info? e = some i ∧ i.zero = some z ∧ i.size = size ∧ i.bytes = bytes ∧ z.cells.size = size := by
 have hi := h.info
 cases hx : P.info? e with
 | none => rw [hx] at hi; cases hi
 | some i =>
   rw [hx] at hi
   simp only [Option.map_some,Option.some.injEq,Prod.mk.injEq] at hi
   obtain ⟨h1,h2,h3⟩ := hi
   cases hz : i.zero with
   | none => rw [hz] at h1; cases h1
   | some z =>
     rw [hz] at h1
     exact ⟨i,z,rfl,hz,h2,h3,by simpa using h1⟩
def SlAt (w : World) (T : TypeId) (v : Value) (n : Nat) (cs : List Value) : Prop :=
 ∃ p cap,v = .slice p n cap ∧ n ≤ cap ∧ (p = none → n = 0 ∧ cap = 0) ∧ (cs ≠ [] → ∃ b off c fr,p = some ⟨b,off,none⟩ ∧ w.heap[b]? = some (.cells c T fr) ∧ ∀ i,i < cs.length → c[off + i]? = cs[i]?)
theorem SlAt.nil (w : World) (T : TypeId) : SlAt w T (.slice none 0 0) 0 [] := ⟨none,0,rfl,Nat.le_refl _,fun _ => ⟨rfl,rfl⟩,fun h => absurd rfl h⟩
theorem SlAt.chg {S : Nat → Prop} {w w' : World} {T : TypeId} {v : Value} {n : Nat} {cs : List Value} (h : SlAt w T v n cs) (hc : Chg S w w')
   (hS : ∀ k c fr,S k → w.heap[k]? ≠ some (.cells c T fr)) : SlAt w' T v n cs := by
 obtain ⟨p,cap,hv,h1,h2,h3⟩ := h
 refine ⟨p,cap,hv,h1,h2,fun hne => ?_⟩
 obtain ⟨b,off,c,fr,hp,hb,hcs⟩ := h3 hne
 have hlt : b < w.heap.size := (Array.getElem?_eq_some_iff.1 hb).1
 exact ⟨b,off,c,fr,hp,by rw [hc.heap b hlt fun e => hS b c fr e hb]; exact hb,hcs⟩
theorem SlAt.ext {w w' : World} {T : TypeId} {v : Value} {n : Nat} {cs : List Value} (h : SlAt w T v n cs) (hc : Ext w w') : SlAt w' T v n cs :=
 h.chg hc fun _ _ _ e => e.elim
theorem SlAt.shape {w : World} {T : TypeId} {v : Value} {n : Nat} {cs : List Value} (h : SlAt w T v n cs) : ∃ p cap,v = .slice p n cap ∧ n ≤ cap := by
 obtain ⟨p,cap,hv,h1,_⟩ := h
 exact ⟨p,cap,hv,h1⟩
theorem lenl_at {w : World} {T : TypeId} {v : Value} {n : Nat} {cs : List Value} (h : SlAt w T v n cs) (K : Value → Prop) : lenlW v K ↔ K (i64 n) := by
 obtain ⟨p,cap,rfl,_⟩ := h.shape
 exact Iff.rfl
theorem ixa_at {w : World} {T : TypeId} {v : Value} {n size : Nat} {cs : List Value} {k : IntKind} {i : Nat} {K : Value → Prop} (h : SlAt w T v n cs) (hl : cs.length = n * size) (hs : 0 < size) (hi : i < n)
   (hK : ∀ b o c fr,w.heap[b]? = some (.cells c T fr) → (∀ j,j < size → c[o + j]? = cs[i * size + j]?) → K (.pointer (some ⟨b,o,none⟩))) : ixaW none size v (.int k i) K := by
 obtain ⟨p,cap,rfl,h1,_,h3⟩ := h
 have hlt : i * size + size ≤ n * size := by rw [← Nat.succ_mul]; exact Nat.mul_le_mul_right _ hi
 obtain ⟨b,off,c,fr,rfl,hb,hcs⟩ := h3 (fun e => by rw [e] at hl; simp at hl; omega)
 refine ⟨Int.natCast_nonneg _,by omega,?_⟩
 rw [add_mk,Int.toNat_natCast]
 exact hK b _ c fr hb fun j hj => by rw [show off + i * size + j = off + (i * size + j) by omega]; exact hcs _ (by omega)
theorem ixa_ld {w : World} {T : TypeId} {v : Value} {n : Nat} {cs : List Value} {k : IntKind} {i : Nat} {x : Value} {K : Value → Prop} (h : SlAt w T v n cs) (hl : cs.length = n) (hi : cs[i]? = some x) (hK : K x) :
   ixaW none 1 v (.int k i) fun t => ldW false 1 t w K := by
 have hi' : i < cs.length := (List.getElem?_eq_some_iff.1 hi).1
 refine ixa_at (size := 1) h (by omega) (by omega) (by omega) fun b o c fr hb hc => ?_
 refine ⟨x,?_,hK⟩
 rw [cell_eq,hb,cellO_some]
 have := hc 0 (by omega)
 simpa [hi] using this
abbrev Own (w : World) (base : Nat) (e : TypeId) (size : Nat) (v : Value) (n : Nat) (xs : List Value) : Prop := w.ownsRow base e size v n xs
theorem Own.sl {w : World} {base : Nat} {e : TypeId} {size : Nat} {v : Value} {n : Nat} {xs : List Value} (h : Own w base e size v n xs) : SlAt w e v n xs := by
 obtain ⟨hl,⟨rfl,rfl⟩ | ⟨g,cap,cur,rfl,_,hg,h1,_,h2,h3⟩⟩ := h
 · have : xs = [] := List.eq_nil_of_length_eq_zero (by simpa using hl)
   subst this
   exact SlAt.nil w e
 · refine ⟨_,_,rfl,h1,fun h => (by cases h),fun _ => ⟨g,0,cur,(0,0),rfl,hg,fun i hi => ?_⟩⟩
   rw [← h3,List.getElem?_take,if_pos (by omega),Nat.zero_add]
   simp
def OwnS (w : World) (base : Nat) (e : TypeId) (k : Nat) : Prop := base ≤ k ∧ ∃ c,w.heap[k]? = some (.cells c e (0,0))
theorem Own.block {w : World} {base : Nat} {e : TypeId} {size : Nat} {v : Value} {n : Nat} {xs : List Value} (h : Own w base e size v n xs) : ∀ k,v.ownBlock = some k → OwnS w base e k := by
 intro k hk
 obtain ⟨hl,⟨rfl,rfl⟩ | ⟨g,cap,cur,rfl,hb,hg,_⟩⟩ := h
 · simp [Value.ownBlock] at hk
 · simp [Value.ownBlock] at hk
   subst hk
   exact ⟨hb,cur,hg⟩
theorem one1_oneCell' {v : Value} (h : one1 v = true) : v.oneCell' = true := by cases v <;> first | rfl | (simp [one1] at h)
theorem Chg.of_grown {w w' : World} {row : Option Nat} {S : Nat → Prop} (h : w.grownBy w' row) (hS : ∀ k,row = some k → S k) : Chg S w w' :=
 ⟨h.os,h.tape,h.output,h.size,fun k hk hn => h.block k hk fun e => hn (hS k e.symm)⟩
theorem append_own2 {P : Program} {t e T : TypeId} {size bytes : Nat} (hT : ElemT P t e size bytes) {w : World} {base : Nat} {v x : Value} {n m : Nat} {xs news : List Value} {ty : TypeId} {K : Value → World → Prop}
   (hown : Own w base e size v n xs) (hx : SlAt w T x m news) (hl : news.length = m * size) (h1 : ∀ u ∈ news,one1 u = true) (hlen : n + m ≤ 4611686018427387904) (hb : (n + m) * bytes ≤ 140737488355328) (hbase : base ≤ w.heap.size)
   (hK : ∀ v' w',Own w' base e size v' (n + m) (xs ++ news) → Chg (fun k => v.ownBlock = some k) w w' → (v' = .slice none 0 0 ↔ v = .slice none 0 0 ∧ m = 0) → K v' w') :
   semE P (Builtin.append_ #[t,t] ty #[v,x]) w K := by
 obtain ⟨i,z,hi,hz,h2,h3,h4⟩ := hT.get
 obtain ⟨p,cap,rfl,hcap,hnil,hcells⟩ := hx
 have hm : n + m ≤ maxLen := by unfold maxLen; omega
 cases p with
 | none =>
   obtain ⟨rfl,rfl⟩ := hnil rfl
   have hn : news = [] := List.eq_nil_of_length_eq_zero (by simpa using hl)
   subst hn
   have hr : (Builtin.append_ #[t,t] ty #[v,.slice none 0 0]).run P w = .ok v w := by
     obtain ⟨hl',⟨rfl,rfl⟩ | ⟨g,cap,cur,rfl,_,hg,h1,_,h2,h3⟩⟩ := hown
     · simp [Builtin.append_,run_bind,run_underlying' hT.und,run_sizeOf' (show (P.info? e).isSome = true by rw [hi]; rfl),Builtin.lenOf,run_pure,Builtin.firstCells]
     · simp [Builtin.append_,run_bind,run_underlying' hT.und,run_sizeOf' (show (P.info? e).isSome = true by rw [hi]; rfl),Builtin.lenOf,run_pure,Builtin.firstCells,h1,storeCells]
   unfold semE
   rw [hr]
   simp only [Nat.add_zero,List.append_nil] at hK
   exact hK v w hown (Chg.refl _ _) (by simp)
 | some a =>
   have hcell : ∀ j u,news[j]? = some u → w.cell? (a.add j) = some u := by
     intro j u hu
     have hne : news ≠ [] := fun e => by subst e; simp at hu
     obtain ⟨b,off,c,fr,hp,hb',hcs⟩ := hcells hne
     cases hp
     rw [add_mk,cell_eq,hb',cellO_some,hcs j (List.getElem?_eq_some_iff.1 hu).1,hu]
   obtain ⟨v',w',hr,hown',hg,hnil'⟩ := run_append_own (P := P) w base t ty e i z size bytes hT.und hi hz h2 h3 h4 hT.pos v n xs hown a m cap news hl hcell (fun u hu => one1_oneCell' (h1 u hu)) hm hb hbase
   unfold semE
   rw [hr]
   exact hK v' w' hown' (Chg.of_grown hg fun k e => e) hnil'
theorem Own.chg {S : Nat → Prop} {w w' : World} {base : Nat} {e : TypeId} {size : Nat} {v : Value} {n : Nat} {xs : List Value} (h : Own w base e size v n xs) (hc : Chg S w w') (hS : ∀ k,OwnS w base e k → ¬ S k) : Own w' base e size v n xs := by
 obtain ⟨hl,hn | ⟨g,cap,cur,hv,hb,hg,r⟩⟩ := h
 · exact ⟨hl,.inl hn⟩
 · exact ⟨hl,.inr ⟨g,cap,cur,hv,hb,by rw [hc.heap g (Array.getElem?_eq_some_iff.1 hg).1 (hS g ⟨hb,cur,hg⟩)]; exact hg,r⟩⟩
theorem Own.ext {w w' : World} {base : Nat} {e : TypeId} {size : Nat} {v : Value} {n : Nat} {xs : List Value} (h : Own w base e size v n xs) (hc : Ext w w') : Own w' base e size v n xs := h.chg hc fun _ _ e => e
theorem Own.base {w : World} {base base' : Nat} {e : TypeId} {size : Nat} {v : Value} {n : Nat} {xs : List Value} (h : Own w base e size v n xs) (hb : base' ≤ base) : Own w base' e size v n xs := by
 obtain ⟨hl,hn | ⟨g,cap,cur,hv,hg,r⟩⟩ := h
 · exact ⟨hl,.inl hn⟩
 · exact ⟨hl,.inr ⟨g,cap,cur,hv,Nat.le_trans hb hg,r⟩⟩
def u8s (l : List UInt8) : List Value := l.map fun b => .int .u8 b.toNat
theorem u8s_length (l : List UInt8) : (u8s l).length = l.length := by simp [u8s]
theorem u8s_get (l : List UInt8) (i : Nat) : (u8s l)[i]? = (l[i]?).map fun b => .int .u8 b.toNat := by simp [u8s]
theorem u8s_app (a b : List UInt8) : u8s (a ++ b) = u8s a ++ u8s b := by simp [u8s]
abbrev Byt (w : World) (T : TypeId) (v : Value) (l : List UInt8) : Prop := SlAt w T v l.length (u8s l)
end Go.Eng
namespace Go.Eng
open Go
abbrev Str := List UInt8
section
variable {P : Program} {T kt et : TypeId} {w : World} {m : Nat} {A : List (Str × Value)}
end
end Go.Eng
namespace Go.Eng
open Go
theorem Chg.at {S : Nat → Prop} {w w' : World} {k : Nat} {o : Obj} (hc : Chg S w w') (h : w.heap[k]? = some o) (hS : ¬ S k) : w'.heap[k]? = some o := by
 rw [hc.heap k (Array.getElem?_eq_some_iff.1 h).1 hS]; exact h
theorem Chg.new {w w1 w2 : World} {a : Nat} (h1 : Ext w w1) (hc : Chg (fun k => k = a) w1 w2) (ha : w.heap.size ≤ a) : Ext w w2 := h1.then hc fun k hk e => by omega
theorem at_lt {w : World} {k : Nat} {o : Obj} (h : w.heap[k]? = some o) : k < w.heap.size := (Array.getElem?_eq_some_iff.1 h).1
theorem alloc_new {T : TypeId} {z : List Value} {w : World} {K : Value → World → Prop} (h : ∀ a w',a = w.heap.size → w'.heap.size = w.heap.size + 1 → w'.heap[a]? = some (.cells z.toArray T (0,0)) → Ext w w' → K (.pointer (some ⟨a,0,none⟩)) w') : allocW T z w K :=
 h _ _ rfl (by simp) (heap_anew _ _ _ rfl) (Chg.alloc (Chg.refl _ _) _)
theorem box_new {T : TypeId} {z : List Value} {w : World} {K : Value → World → Prop} (h : ∀ a w',a = w.heap.size → w'.heap.size = w.heap.size + 1 → w'.heap[a]? = some (.cells z.toArray T (0,0)) → Ext w w' → K (.pointer (some ⟨a,0,none⟩)) w') : boxW T (.agg z.toArray) w K :=
 h _ _ rfl (by simp) (heap_anew _ _ _ rfl) (Chg.alloc (Chg.refl _ _) _)
theorem row_new {T : TypeId} {n : Nat} {cs : List Value} {w : World} {K : Value → World → Prop} (h : ∀ a w',a = w.heap.size → w'.heap.size = w.heap.size + 1 → w'.heap[a]? = some (.cells cs.toArray T (0,0)) → Ext w w' → w' = w.alloc (.cells cs.toArray T) → K (.slice (some ⟨a,0,none⟩) n n) w') :
   K (.slice (some ⟨w.heap.size,0,none⟩) n n) (w.alloc (.cells cs.toArray T)) :=
 h _ _ rfl (by simp) (heap_anew _ _ _ rfl) (Chg.alloc (Chg.refl _ _) _) rfl
theorem st_at {a off : Nat} {w : World} {T : TypeId} {cs : Array Value} {v : Value} {K : World → Prop} (hb : w.heap[a]? = some (.cells cs T (0,0))) (h1 : one1 v = true) (hoff : off < cs.size)
   (hK : ∀ w',w'.heap.size = w.heap.size → w'.heap[a]? = some (.cells (cs.setIfInBounds off v) T (0,0)) → Chg (fun k => k = a) w w' → K w') : stW 1 (.pointer (some ⟨a,off,none⟩)) v w K := by
 have hc : v.cells.toList = [v] := by cases v <;> first | rfl | (simp [one1] at h1)
 have hc2 : v.cells = #[v] := by cases v <;> first | rfl | (simp [one1] at h1)
 have hz : (⟨a,off,none⟩ : Addr).add 0 = ⟨a,off,none⟩ := rfl
 simp only [stW,hc2]
 refine ⟨rfl,?_⟩
 simp only [stCells,hz]
 refine ⟨h1,?_,?_,?_⟩
 · rw [cell_eq,hb,cellO_some]; simp [hoff]
 · rw [frozen_eq,hb,frO_zero]
 · refine hK _ (by simp) ?_ (Chg.set (S := fun k => k = a) (Chg.refl _ _) (.inl rfl) _)
   rw [heap_set_same,hb,setO_some]
theorem st_all {a : Nat} {w : World} {T : TypeId} {K : World → Prop} : ∀ (l : List Value) (i : Nat) (cs : List Value),w.heap[a]? = some (.cells cs.toArray T (0,0)) → cs.length = i + l.length → (∀ v ∈ l,one1 v = true) →
   (∀ w',w'.heap.size = w.heap.size → w'.heap[a]? = some (.cells (cs.take i ++ l).toArray T (0,0)) → Chg (fun k => k = a) w w' → K w') → stCells ⟨a,0,none⟩ l i w K := by
 intro l
 induction l generalizing w with
 | nil =>
   intro i cs hb hl _ hK
   refine hK w rfl ?_ (Chg.refl _ _)
   simp only [List.length_nil,Nat.add_zero] at hl
   rw [List.take_of_length_le (by omega),List.append_nil]; exact hb
 | cons v r ih =>
   intro i cs hb hl h1 hK
   have hadd : (⟨a,0,none⟩ : Addr).add i = ⟨a,i,none⟩ := by rw [add_mk]; simp
   simp only [List.length_cons] at hl
   simp only [stCells,hadd]
   refine ⟨h1 v List.mem_cons_self,?_,?_,?_⟩
   · rw [cell_eq,hb,cellO_some]; simp; omega
   · rw [frozen_eq,hb,frO_zero]
   · have hb' : (w.setCell ⟨a,i,none⟩ v).heap[a]? = some (.cells (cs.set i v).toArray T (0,0)) := by
       rw [heap_set_same,hb,setO_some]; simp
     refine ih (i + 1) (cs.set i v) hb' (by rw [List.length_set]; omega) (fun u hu => h1 u (List.mem_cons_of_mem _ hu)) fun w' hz hb2 hc => ?_
     refine hK w' (by rw [hz]; simp) ?_ ((Chg.set (S := fun k => k = a) (Chg.refl _ _) (.inl rfl) _).trans hc)
     rw [hb2]
     have : (cs.set i v).take (i + 1) ++ r = cs.take i ++ v :: r := by
       rw [List.take_add_one,List.getElem?_set_self (by omega),List.take_set_of_le (by omega)]
       simp
     rw [this]
theorem st_agg_at {a n : Nat} {w : World} {T : TypeId} {l cs : List Value} {K : World → Prop} (hb : w.heap[a]? = some (.cells cs.toArray T (0,0))) (hl : l.length = n) (hc : cs.length = n) (h1 : l.all one1 = true)
   (hK : ∀ w',w'.heap.size = w.heap.size → w'.heap[a]? = some (.cells l.toArray T (0,0)) → Chg (fun k => k = a) w w' → K w') : stW n (.pointer (some ⟨a,0,none⟩)) (.agg l.toArray) w K := by
 rw [st_agg]
 refine ⟨hl,?_⟩
 refine st_all l 0 cs hb (by omega) (fun v hv => List.all_eq_true.1 h1 v hv) fun w' hz hb' hc' => hK w' hz ?_ hc'
 simpa using hb'
theorem cellsAt_of {a : Nat} {w : World} {T : TypeId} {cs : List Value} {fr : Nat × Nat} (hb : w.heap[a]? = some (.cells cs.toArray T fr)) : ∀ (n i : Nat),i + n = cs.length → cellsAt w ⟨a,0,none⟩ i n = some (cs.drop i)
 | 0,i,h => by simp only [cellsAt]; rw [List.drop_of_length_le (by omega)]
 | n + 1,i,h => by
   have hi : i < cs.length := by omega
   simp only [cellsAt,add_mk,cell_eq,hb,cellO_some,Nat.zero_add,List.getElem?_toArray,List.getElem?_eq_getElem hi]
   rw [cellsAt_of hb n (i + 1) (by omega)]
   simp
theorem ld_all {a n : Nat} {w : World} {T : TypeId} {l : List Value} {fr : Nat × Nat} {K : Value → Prop} (hb : w.heap[a]? = some (.cells l.toArray T fr)) (hn : l.length = n) (hK : K (.agg l.toArray)) : ldW true n (.pointer (some ⟨a,0,none⟩)) w K := by
 rw [ld_agg]
 exact ⟨l,by rw [cellsAt_of hb n 0 (by omega)]; rfl,hK⟩
theorem ret_agg {a n : Nat} {T : TypeId} {l cs : List Value} {w : World} {K : Value → World → Prop} (hb : w.heap[a]? = some (.cells cs.toArray T (0,0))) (hl : l.length = n) (hc : cs.length = n) (h1 : l.all one1 = true)
   (hK : ∀ w',Chg (fun k => k = a) w w' → K (.agg l.toArray) w') : stW n (.pointer (some ⟨a,0,none⟩)) (.agg l.toArray) w fun w5 => ldW true n (.pointer (some ⟨a,0,none⟩)) w5 fun r6 => K r6 w5 :=
 st_agg_at hb hl hc h1 fun w' _ hb' hcw => ld_all hb' hl (hK w' hcw)
end Go.Eng
namespace Go.Eng
open Go
inductive JV where
 | mk (k : Int) (b : Bool) (t : Str) (xs : List JV) (ks : List Str)
namespace JV
def k : JV → Int | .mk k _ _ _ _ => k
def b : JV → Bool | .mk _ b _ _ _ => b
def t : JV → Str | .mk _ _ t _ _ => t
def xs : JV → List JV | .mk _ _ _ xs _ => xs
def ks : JV → List Str | .mk _ _ _ _ ks => ks
theorem ind {p : JV → Prop} (h : ∀ k b t xs ks,(∀ x ∈ xs,p x) → p (.mk k b t xs ks)) (v : JV) : p v :=
 JV.rec (motive_1 := p) (motive_2 := fun l => ∀ x ∈ l,p x) (fun k b t xs ks ih => h k b t xs ks ih) (by intro x hx; cases hx)
   (fun x l hx hl y hy => by rcases List.mem_cons.1 hy with rfl | hy; exact hx; exact hl y hy) v
end JV
end Go.Eng
namespace Go.Num
open Go.Eng
def isDig (c : UInt8) : Bool := decide (48 ≤ c.toNat) && decide (c.toNat ≤ 57)
def dig (a : Str) : Str := match a with | [] => [] | c :: d => if c = 45 then d else c :: d
def neg (a : Str) : Bool := a.head? == some 45
def goodN (a : Str) : Bool := decide (1 ≤ (dig a).length) && decide ((dig a).length ≤ 100) && (!((dig a).head? == some 48) || decide (a = [48])) && (dig a).all isDig
def dval (c : UInt8) : Nat := c.toNat - 48
def dec (d : Str) : Nat := d.foldl (fun n c => n * 10 + dval c) 0
def val : List Nat → Nat
 | [] => 0
 | x :: r => x + 1000000000 * val r
theorem all_take {d : Str} (n : Nat) (h : d.all isDig = true) : (d.take n).all isDig = true := List.all_eq_true.2 fun x hx => List.all_eq_true.1 h x (List.mem_of_mem_take hx)
def num (a : Str) : Int := if neg a then -(dec (dig a) : Int) else dec (dig a)
end Go.Num
namespace Go.Eng
open Go Go.Num
def keysOk : List Str → Bool
 | [] => true
 | [a] => decide (a.length ≤ 16384)
 | a :: b :: r => decide (a.length ≤ 16384) && Op.bytesLess a b && keysOk (b :: r)
def headOk (k : Int) (b : Bool) (t : Str) (n : Nat) (ks : List Str) : Bool :=
 decide (0 ≤ k) && decide (k ≤ 6) && (!b || decide (k = 2)) && (decide (t = []) || decide (k = 3) || decide (k = 4)) && (decide (n = 0) || decide (5 ≤ k)) && (decide (k = 6) || decide (ks = [])) &&
   (!decide (k = 3) || goodN t) && (!decide (k = 4) || decide (t.length ≤ 16384)) && (!decide (k = 6) || decide (ks.length = n)) && keysOk ks
mutual
def plainM : JV → Bool
 | .mk k b t xs ks => headOk k b t xs.length ks && plainL xs
def plainL : List JV → Bool
 | [] => true
 | x :: xs => plainM x && plainL xs
end
theorem all_take {α : Type} {p : α → Bool} {xs : List α} {i : Nat} {x : α} (hi : xs[i]? = some x) : (xs.take (i + 1)).all p = ((xs.take i).all p && p x) := by
 rw [List.take_add_one,hi]; simp
theorem all_no {α : Type} {p : α → Bool} {xs : List α} {i : Nat} {x : α} (hi : xs[i]? = some x) (h : p x = false) : xs.all p = false := by
 rw [List.all_eq_false]; exact ⟨x,List.mem_of_getElem? hi,by simp [h]⟩
def insP : List (Str × JV) → Str → JV → List (Str × JV)
 | [],k,x => [(k,x)]
 | (a,y) :: r,k,x => if Op.bytesLess k a then (k,x) :: (a,y) :: r else (a,y) :: insP r k x
end Go.Eng
namespace Go.Eng
open Go
def byteM (s : Str) (i : Nat) : Int := match s[i]? with | some b => (b.toNat : Int) | none => -1
def moreM (s : Str) (i : Nat) : Bool := decide (128 ≤ byteM s i) && decide (byteM s i < 192)
def runeM (s : Str) (i : Nat) : Nat :=
 let c := byteM s i
 if c < 0 then 0 else if c < 128 then 1
 else if 194 ≤ c ∧ c < 224 ∧ moreM s (i + 1) = true then 2
 else if 224 ≤ c ∧ c < 240 ∧ moreM s (i + 1) = true ∧ moreM s (i + 2) = true ∧
   2048 ≤ (c - 224) * 4096 + (byteM s (i + 1) - 128) * 64 + byteM s (i + 2) - 128 ∧ ((c - 224) * 4096 + (byteM s (i + 1) - 128) * 64 + byteM s (i + 2) - 128 < 55296 ∨ 57343 < (c - 224) * 4096 + (byteM s (i + 1) - 128) * 64 + byteM s (i + 2) - 128) then 3
 else if 240 ≤ c ∧ c < 245 ∧ moreM s (i + 1) = true ∧ moreM s (i + 2) = true ∧ moreM s (i + 3) = true ∧
   65536 ≤ (c - 240) * 262144 + (byteM s (i + 1) - 128) * 4096 + (byteM s (i + 2) - 128) * 64 + byteM s (i + 3) - 128 ∧ (c - 240) * 262144 + (byteM s (i + 1) - 128) * 4096 + (byteM s (i + 2) - 128) * 64 + byteM s (i + 3) - 128 ≤ 1114111 then 4
 else 0
def utfGo (s : Str) : Nat → Nat → Bool
 | 0,i => decide (s.length ≤ i)
 | n + 1,i => if s.length ≤ i then true else if runeM s i = 0 then false else utfGo s n (i + runeM s i)
def utfM (s : Str) : Bool := utfGo s s.length 0
def b8 (n : Nat) : UInt8 := UInt8.ofNat n
def wrM (n : Nat) : Str :=
 if n < 128 then [b8 n] else if n < 2048 then [b8 (192 + n / 64),b8 (128 + n % 64)]
 else if n < 65536 then [b8 (224 + n / 4096),b8 (128 + n / 64 % 64),b8 (128 + n % 64)]
 else [b8 (240 + n / 262144),b8 (128 + n / 4096 % 64),b8 (128 + n / 64 % 64),b8 (128 + n % 64)]
def hexD (n : Nat) : UInt8 := if n < 10 then b8 (48 + n) else b8 (87 + n)
def escB (c : UInt8) : Str :=
 if c = 34 ∨ c = 92 then [92,c] else if c = 8 then [92,98] else if c = 12 then [92,102] else if c = 10 then [92,110] else if c = 13 then [92,114] else if c = 9 then [92,116]
 else if c < 32 then [92,117,48,48,b8 (48 + c.toNat / 16),hexD (c.toNat % 16)] else [c]
inductive RR (α : Type) where
 | ok (v : α) (i : Nat) (count : Nat)
 | bad (code : Int) (i : Nat)
def isDig (c : Int) : Bool := decide (48 ≤ c) && decide (c ≤ 57)
def hexV (c : Int) : Int := if 48 ≤ c ∧ c ≤ 57 then c - 48 else if 97 ≤ c ∧ c ≤ 102 then c - 87 else if 65 ≤ c ∧ c ≤ 70 then c - 55 else -1
def hexM (s : Str) (i : Nat) : Int :=
 if i + 6 ≤ s.length ∧ byteM s i = 92 ∧ byteM s (i + 1) = 117 ∧ 0 ≤ hexV (byteM s (i + 2)) ∧ 0 ≤ hexV (byteM s (i + 3)) ∧ 0 ≤ hexV (byteM s (i + 4)) ∧ 0 ≤ hexV (byteM s (i + 5)) then
   ((hexV (byteM s (i + 2)) * 16 + hexV (byteM s (i + 3))) * 16 + hexV (byteM s (i + 4))) * 16 + hexV (byteM s (i + 5)) else -1
def escM (s : Str) (i : Nat) : Option (Str × Nat) :=
 let c := byteM s (i + 1)
 if c = 34 then some ([34],2) else if c = 92 then some ([92],2) else if c = 47 then some ([47],2) else if c = 98 then some ([8],2) else if c = 102 then some ([12],2)
 else if c = 110 then some ([10],2) else if c = 114 then some ([13],2) else if c = 116 then some ([9],2)
 else
   let a := hexM s i
   let b := hexM s (i + 6)
   if a < 0 ∨ 56320 ≤ a ∧ a ≤ 57343 then none
   else if 55296 ≤ a ∧ a ≤ 56319 then (if b < 56320 ∨ 57343 < b then none else some (wrM (65536 + (a - 55296) * 1024 + b - 56320).toNat,12))
   else some (wrM a.toNat,6)
structure ErrNo where
 json : Int
 long : Int
 deep : Int
 text : Int
 twice : Int
def quotGo (E : ErrNo) (s : Str) (start : Nat) : Nat → Nat → Str → Nat → RR Str
 | 0,i,_,_ => .bad E.json i
 | n + 1,i,out,cnt =>
   if byteM s i = 34 then (if 16384 < out.length then .bad E.long start else .ok out (i + 1) cnt)
   else if byteM s i < 0 then .bad E.json s.length
   else if byteM s i = 92 then (match escM s i with | none => .bad E.json i | some (t,k) => quotGo E s start n (i + k) (out ++ t) cnt)
   else if byteM s i < 32 then .bad E.json i
   else if runeM s i = 0 then .bad E.text i
   else quotGo E s start n (i + runeM s i) (out ++ (s.drop i).take (runeM s i)) cnt
def quotM (E : ErrNo) (s : Str) (i cnt : Nat) : RR Str := quotGo E s i (s.length + 1) (i + 1) [] cnt
end Go.Eng
namespace Go.Eng
open Go
def bt (s : Str) (i : Nat) : Nat := (s.getD i 0).toNat
theorem bt_lt (s : Str) (i : Nat) : bt s i < 256 := UInt8.toNat_lt _
theorem byteM_in {s : Str} {i : Nat} (h : i < s.length) : byteM s i = (bt s i : Int) := by
 unfold byteM bt
 rw [List.getElem?_eq_getElem h,List.getD_eq_getElem?_getD,List.getElem?_eq_getElem h]; rfl
theorem byteM_out {s : Str} {i : Nat} (h : s.length ≤ i) : byteM s i = -1 := by
 unfold byteM
 rw [List.getElem?_eq_none h]
theorem get_bt (s : Str) (i : Nat) : ((ofL s).get! i).toNat = bt s i := by
 unfold bt
 congr 1
 show (s.toArray)[i]! = s.getD i 0
 rw [List.getElem!_toArray,List.getElem!_eq_getElem?_getD,List.getD_eq_getElem?_getD]; rfl
theorem dec_ofL (s : Str) (i : Nat) : Utf8.decode (ofL s) i = Lib.decodeN (s.length - i) (bt s i) (bt s (i + 1)) (bt s (i + 2)) (bt s (i + 3)) := by
 rw [Lib.decode_at,get_bt,get_bt,get_bt,get_bt,ofL_size]
abbrev mor (L k b : Nat) : Prop := k < L ∧ 128 ≤ b ∧ b < 192
abbrev c3 (b0 b1 b2 : Nat) : Nat := (b0 - 224) * 4096 + (b1 - 128) * 64 + (b2 - 128)
abbrev c4 (b0 b1 b2 b3 : Nat) : Nat := (b0 - 240) * 262144 + (b1 - 128) * 4096 + (b2 - 128) * 64 + (b3 - 128)
def decR (L b0 b1 b2 b3 : Nat) : Nat × Nat :=
 if b0 < 128 then (b0,1)
 else if 194 ≤ b0 ∧ b0 < 224 ∧ mor L 1 b1 then ((b0 - 192) * 64 + (b1 - 128),2)
 else if 224 ≤ b0 ∧ b0 < 240 ∧ mor L 1 b1 ∧ mor L 2 b2 ∧ 2048 ≤ c3 b0 b1 b2 ∧ (c3 b0 b1 b2 < 55296 ∨ 57343 < c3 b0 b1 b2) then (c3 b0 b1 b2,3)
 else if 240 ≤ b0 ∧ b0 < 245 ∧ mor L 1 b1 ∧ mor L 2 b2 ∧ mor L 3 b3 ∧ 65536 ≤ c4 b0 b1 b2 b3 ∧ c4 b0 b1 b2 b3 ≤ 1114111 then (c4 b0 b1 b2 b3,4)
 else (65533,1)
theorem dec_decR {L b0 b1 b2 b3 : Nat} (h0 : b0 < 256) (h1 : b1 < 256) (h2 : b2 < 256) (h3 : b3 < 256) : Lib.decodeN L b0 b1 b2 b3 = decR L b0 b1 b2 b3 := by
 have m1 : (1 < L ∧ b1 / 64 = 2) ↔ mor L 1 b1 := by unfold mor; omega
 have m2 : (2 < L ∧ b2 / 64 = 2) ↔ mor L 2 b2 := by unfold mor; omega
 have m3 : (3 < L ∧ b3 / 64 = 2) ↔ mor L 3 b3 := by unfold mor; omega
 unfold Lib.decodeN decR
 simp only [m1,m2,m3]
 by_cases a0 : b0 < 128
 · rw [if_pos a0,if_pos a0]
 rw [if_neg a0,if_neg a0]
 by_cases a1 : b0 < 194
 · rw [if_neg (show ¬ (194 ≤ b0 ∧ b0 < 224 ∧ mor L 1 b1) from fun h => by omega),if_neg (show ¬ (224 ≤ b0 ∧ b0 < 240 ∧ _) from fun h => by omega),if_neg (show ¬ (240 ≤ b0 ∧ b0 < 245 ∧ _) from fun h => by omega)]
   rw [if_neg (show ¬ (b0 / 16 = 14 ∧ _) from fun h => by omega),if_neg (show ¬ (b0 / 8 = 30 ∧ _) from fun h => by omega)]
   by_cases a2 : b0 / 32 = 6 ∧ mor L 1 b1
   · rw [if_pos a2,if_neg (by omega)]
   · rw [if_neg a2]
 by_cases a2 : b0 < 224
 · rw [if_neg (show ¬ (224 ≤ b0 ∧ b0 < 240 ∧ _) from fun h => by omega),if_neg (show ¬ (240 ≤ b0 ∧ b0 < 245 ∧ _) from fun h => by omega)]
   rw [if_neg (show ¬ (b0 / 16 = 14 ∧ _) from fun h => by omega),if_neg (show ¬ (b0 / 8 = 30 ∧ _) from fun h => by omega)]
   by_cases q : mor L 1 b1
   · have q' := q
     unfold mor at q'
     rw [if_pos ⟨by omega,q⟩,if_pos (by omega),if_pos ⟨by omega,a2,q⟩]
     apply Prod.ext
     · show b0 % 32 * 64 + b1 % 64 = (b0 - 192) * 64 + (b1 - 128); omega
     · rfl
   · rw [if_neg (fun h => q h.2),if_neg (fun h => q h.2.2)]
 by_cases a3 : b0 < 240
 · rw [if_neg (show ¬ (194 ≤ b0 ∧ b0 < 224 ∧ mor L 1 b1) from fun h => by omega),if_neg (show ¬ (240 ≤ b0 ∧ b0 < 245 ∧ _) from fun h => by omega)]
   rw [if_neg (show ¬ (b0 / 32 = 6 ∧ _) from fun h => by omega),if_neg (show ¬ (b0 / 8 = 30 ∧ _) from fun h => by omega)]
   by_cases q : mor L 1 b1 ∧ mor L 2 b2
   · have q' := q
     unfold mor at q'
     have e : b0 % 16 * 4096 + b1 % 64 * 64 + b2 % 64 = c3 b0 b1 b2 := by unfold c3; omega
     have e2 : c3 b0 b1 b2 ≤ 65535 := by unfold c3; omega
     rw [if_pos ⟨by omega,q.1,q.2⟩]
     simp only [e]
     by_cases r : 2048 ≤ c3 b0 b1 b2 ∧ (c3 b0 b1 b2 < 55296 ∨ 57343 < c3 b0 b1 b2)
     · rw [if_pos ⟨r.1,by omega⟩,if_pos ⟨by omega,a3,q.1,q.2,r.1,r.2⟩]
     · rw [if_neg (by omega),if_neg (fun h => r ⟨h.2.2.2.2.1,h.2.2.2.2.2⟩)]
   · rw [if_neg (fun h => q ⟨h.2.1,h.2.2⟩),if_neg (fun h => q ⟨h.2.2.1,h.2.2.2.1⟩)]
 · rw [if_neg (show ¬ (194 ≤ b0 ∧ b0 < 224 ∧ mor L 1 b1) from fun h => by omega),if_neg (show ¬ (224 ≤ b0 ∧ b0 < 240 ∧ _) from fun h => by omega)]
   rw [if_neg (show ¬ (b0 / 32 = 6 ∧ _) from fun h => by omega),if_neg (show ¬ (b0 / 16 = 14 ∧ _) from fun h => by omega)]
   by_cases q : mor L 1 b1 ∧ mor L 2 b2 ∧ mor L 3 b3
   · have q' := q
     unfold mor at q'
     by_cases a4 : b0 < 248
     · have e : b0 % 8 * 262144 + b1 % 64 * 4096 + b2 % 64 * 64 + b3 % 64 = c4 b0 b1 b2 b3 := by unfold c4; omega
       rw [if_pos ⟨by omega,q.1,q.2.1,q.2.2⟩]
       simp only [e]
       by_cases r : 65536 ≤ c4 b0 b1 b2 b3 ∧ c4 b0 b1 b2 b3 ≤ 1114111
       · rw [if_pos ⟨r.1,by omega⟩,if_pos ⟨by omega,by have := r.2; unfold c4 at this; omega,q.1,q.2.1,q.2.2,r.1,r.2⟩]
       · rw [if_neg (by omega),if_neg (fun h => r ⟨h.2.2.2.2.2.1,h.2.2.2.2.2.2⟩)]
     · rw [if_neg (show ¬ (b0 / 8 = 30 ∧ _) from fun h => by omega),if_neg (show ¬ (240 ≤ b0 ∧ b0 < 245 ∧ _) from fun h => by omega)]
   · rw [if_neg (fun h => q ⟨h.2.1,h.2.2.1,h.2.2.2⟩),if_neg (fun h => q ⟨h.2.2.1,h.2.2.2.1,h.2.2.2.2.1⟩)]
theorem moreM_iff {s : Str} {i k : Nat} : moreM s (i + k) = true ↔ mor (s.length - i) k (bt s (i + k)) := by
 unfold moreM mor
 rw [Bool.and_eq_true,decide_eq_true_iff,decide_eq_true_iff]
 rcases Nat.lt_or_ge (i + k) s.length with h | h
 · rw [byteM_in h]; omega
 · rw [byteM_out h]; omega
def runR (L b0 b1 b2 b3 : Nat) : Nat :=
 if b0 < 128 then 1
 else if 194 ≤ b0 ∧ b0 < 224 ∧ mor L 1 b1 then 2
 else if 224 ≤ b0 ∧ b0 < 240 ∧ mor L 1 b1 ∧ mor L 2 b2 ∧ 2048 ≤ c3 b0 b1 b2 ∧ (c3 b0 b1 b2 < 55296 ∨ 57343 < c3 b0 b1 b2) then 3
 else if 240 ≤ b0 ∧ b0 < 245 ∧ mor L 1 b1 ∧ mor L 2 b2 ∧ mor L 3 b3 ∧ 65536 ≤ c4 b0 b1 b2 b3 ∧ c4 b0 b1 b2 b3 ≤ 1114111 then 4
 else 0
set_option maxHeartbeats 4000000 in
theorem runeM_runR {s : Str} {i : Nat} (h : i < s.length) : runeM s i = runR (s.length - i) (bt s i) (bt s (i + 1)) (bt s (i + 2)) (bt s (i + 3)) := by
 unfold runeM runR
 simp only [moreM_iff,byteM_in h]
 by_cases h1 : i + 1 < s.length
 · by_cases h2 : i + 2 < s.length
   · by_cases h3 : i + 3 < s.length
     · simp only [byteM_in h1,byteM_in h2,byteM_in h3,mor,c3,c4]
       repeat' split
       all_goals first | rfl | (exfalso; omega)
     · simp only [byteM_in h1,byteM_in h2,mor,c3,c4]
       repeat' split
       all_goals first | rfl | (exfalso; omega)
   · simp only [byteM_in h1,mor,c3,c4]
     repeat' split
     all_goals first | rfl | (exfalso; omega)
 · simp only [mor,c3,c4]
   repeat' split
   all_goals first | rfl | (exfalso; omega)
theorem b8_bt (s : Str) (i : Nat) (h : i < s.length) : UInt8.ofNat (bt s i) = s[i] := by
 unfold bt
 rw [List.getD_eq_getElem?_getD,List.getElem?_eq_getElem h]; simp
theorem take_one {s : Str} {i : Nat} (h : i < s.length) : (s.drop i).take 1 = [UInt8.ofNat (bt s i)] := by
 rw [b8_bt s i h,List.drop_eq_getElem_cons h]; rfl
theorem take_step {s : Str} {i n : Nat} (h : i < s.length) : (s.drop i).take (n + 1) = UInt8.ofNat (bt s i) :: (s.drop (i + 1)).take n := by
 rw [b8_bt s i h,List.drop_eq_getElem_cons h]; rfl
set_option maxHeartbeats 4000000 in
theorem rune_bad {s : Str} {i : Nat} (h : i < s.length) (h0 : runeM s i = 0) : Utf8.decode (ofL s) i = (65533,1) := by
 rw [dec_ofL,dec_decR (bt_lt _ _) (bt_lt _ _) (bt_lt _ _) (bt_lt _ _)]
 rw [runeM_runR h] at h0
 unfold runR at h0
 unfold decR
 repeat' split at h0
 all_goals first | (exfalso; omega) | skip
 all_goals (repeat rw [if_neg (by assumption)])
structure RuneAt (s : Str) (i n c : Nat) : Prop where
 dec : Utf8.decode (ofL s) i = (c,n)
 fits : i + n ≤ s.length
 small : n ≤ 4
 bytes : Lib.encodeRune c = (s.drop i).take n
 low : n = 1 → c = bt s i ∧ c < 128
 high : 2 ≤ n → 128 ≤ c ∧ 128 ≤ bt s i
 top : c ≤ 1114111
 val : c < 55296 ∨ 57343 < c
theorem enc_map (l : List Int) : (l.map fun x => x.toNat.toUInt8) = l.map fun x => UInt8.ofNat x.toNat := rfl
set_option maxHeartbeats 8000000 in
theorem rune_good {s : Str} {i : Nat} (h : i < s.length) (h0 : runeM s i ≠ 0) : ∃ c,RuneAt s i (runeM s i) c := by
 have e := dec_ofL s i
 rw [dec_decR (bt_lt _ _) (bt_lt _ _) (bt_lt _ _) (bt_lt _ _)] at e
 have hr := runeM_runR h
 have l0 := bt_lt s i
 generalize hn : runeM s i = n at *
 unfold runR at hr
 unfold decR at e
 by_cases a1 : bt s i < 128
 · rw [if_pos a1] at hr e
   subst hr
   refine ⟨_,e,by omega,by omega,?_,fun _ => ⟨rfl,a1⟩,fun h => by omega,by omega,by omega⟩
   rw [take_one h,Lib.encodeRune,Lib.encodeRuneZ_one (by omega) (by omega)]
   simp
 rw [if_neg a1] at hr e
 by_cases a2 : 194 ≤ bt s i ∧ bt s i < 224 ∧ mor (s.length - i) 1 (bt s (i + 1))
 · rw [if_pos a2] at hr e
   subst hr
   obtain ⟨a2,a3,a4,a5,a6⟩ := a2
   refine ⟨_,e,by omega,by omega,?_,fun h => by omega,fun h => by omega,by omega,by omega⟩
   rw [take_step h,take_one (by omega),Lib.encodeRune,Lib.encodeRuneZ_two (by omega) (by omega)]
   simp only [List.map_cons,List.map_nil,enc_map]
   rw [show ((192 : Int) + (((bt s i - 192) * 64 + (bt s (i + 1) - 128) : Nat) : Int) / 64).toNat = bt s i by omega,show ((128 : Int) + (((bt s i - 192) * 64 + (bt s (i + 1) - 128) : Nat) : Int) % 64).toNat = bt s (i + 1) by omega]
 rw [if_neg a2] at hr e
 by_cases a3 : 224 ≤ bt s i ∧ bt s i < 240 ∧ mor (s.length - i) 1 (bt s (i + 1)) ∧ mor (s.length - i) 2 (bt s (i + 2)) ∧ 2048 ≤ c3 (bt s i) (bt s (i + 1)) (bt s (i + 2)) ∧ (c3 (bt s i) (bt s (i + 1)) (bt s (i + 2)) < 55296 ∨ 57343 < c3 (bt s i) (bt s (i + 1)) (bt s (i + 2)))
 · rw [if_pos a3] at hr e
   subst hr
   obtain ⟨p1,p2,⟨p3,p4,p5⟩,⟨p6,p7,p8⟩,p9,p10⟩ := a3
   have q3 : c3 (bt s i) (bt s (i + 1)) (bt s (i + 2)) = (bt s i - 224) * 4096 + (bt s (i + 1) - 128) * 64 + (bt s (i + 2) - 128) := rfl
   refine ⟨_,e,by omega,by omega,?_,fun h => by omega,fun h => by omega,by omega,by omega⟩
   rw [take_step h,take_step (by omega),take_one (by omega),Lib.encodeRune,Lib.encodeRuneZ_three (by omega)]
   simp only [List.map_cons,List.map_nil,enc_map]
   rw [show ((224 : Int) + ((c3 (bt s i) (bt s (i + 1)) (bt s (i + 2)) : Nat) : Int) / 4096).toNat = bt s i by unfold c3; omega,show ((128 : Int) + ((c3 (bt s i) (bt s (i + 1)) (bt s (i + 2)) : Nat) : Int) / 64 % 64).toNat = bt s (i + 1) by unfold c3; omega,show ((128 : Int) + ((c3 (bt s i) (bt s (i + 1)) (bt s (i + 2)) : Nat) : Int) % 64).toNat = bt s (i + 2) by unfold c3; omega]
 rw [if_neg a3] at hr e
 by_cases a4 : 240 ≤ bt s i ∧ bt s i < 245 ∧ mor (s.length - i) 1 (bt s (i + 1)) ∧ mor (s.length - i) 2 (bt s (i + 2)) ∧ mor (s.length - i) 3 (bt s (i + 3)) ∧ 65536 ≤ c4 (bt s i) (bt s (i + 1)) (bt s (i + 2)) (bt s (i + 3)) ∧ c4 (bt s i) (bt s (i + 1)) (bt s (i + 2)) (bt s (i + 3)) ≤ 1114111
 · rw [if_pos a4] at hr e
   subst hr
   obtain ⟨p1,p2,⟨p3,p4,p5⟩,⟨p6,p7,p8⟩,⟨p9,p10,p11⟩,p12,p13⟩ := a4
   refine ⟨_,e,by omega,by omega,?_,fun h => by omega,fun h => by omega,by omega,by omega⟩
   rw [take_step h,take_step (by omega),take_step (by omega),take_one (by omega),Lib.encodeRune,Lib.encodeRuneZ_four (by omega) (by omega)]
   simp only [List.map_cons,List.map_nil,enc_map]
   rw [show ((240 : Int) + ((c4 (bt s i) (bt s (i + 1)) (bt s (i + 2)) (bt s (i + 3)) : Nat) : Int) / 262144).toNat = bt s i by unfold c4; omega,show ((128 : Int) + ((c4 (bt s i) (bt s (i + 1)) (bt s (i + 2)) (bt s (i + 3)) : Nat) : Int) / 4096 % 64).toNat = bt s (i + 1) by unfold c4; omega,show ((128 : Int) + ((c4 (bt s i) (bt s (i + 1)) (bt s (i + 2)) (bt s (i + 3)) : Nat) : Int) / 64 % 64).toNat = bt s (i + 2) by unfold c4; omega,show ((128 : Int) + ((c4 (bt s i) (bt s (i + 1)) (bt s (i + 2)) (bt s (i + 3)) : Nat) : Int) % 64).toNat = bt s (i + 3) by unfold c4; omega]
 rw [if_neg a4] at hr
 exact absurd hr h0
def stepM (s : Str) (i : Nat) : Nat := max (runeM s i) 1
theorem dec_step {s : Str} {i : Nat} (h : i < s.length) : (Utf8.decode (ofL s) i).2 = stepM s i := by
 unfold stepM
 by_cases h0 : runeM s i = 0
 · rw [rune_bad h h0,h0]; rfl
 · obtain ⟨c,hc⟩ := rune_good h h0
   rw [hc.dec]
   show runeM s i = max (runeM s i) 1
   omega
theorem step_fits {s : Str} {i : Nat} (h : i < s.length) : i + stepM s i ≤ s.length := by
 unfold stepM
 by_cases h0 : runeM s i = 0
 · rw [h0]; show i + 1 ≤ _; omega
 · obtain ⟨c,hc⟩ := rune_good h h0
   have := hc.fits
   omega
theorem step_pos (s : Str) (i : Nat) : 1 ≤ stepM s i := by unfold stepM; omega
theorem rune_end {s : Str} {i : Nat} (h : s.length ≤ i) : runeM s i = 0 := by
 unfold runeM
 simp only [byteM_out h]
 rfl
theorem wr_enc {n : Nat} (h : n < 55296 ∨ 57343 < n ∧ n ≤ 1114111) : Lib.encodeRune n = wrM n := by
 unfold Lib.encodeRune wrM b8
 by_cases h1 : n < 128
 · rw [Lib.encodeRuneZ_one (by omega) (by omega),if_pos h1]; simp
 rw [if_neg h1]
 by_cases h2 : n < 2048
 · rw [Lib.encodeRuneZ_two (by omega) (by omega),if_pos h2]
   simp only [List.map_cons,List.map_nil,enc_map]
   rw [show ((192 : Int) + (n : Int) / 64).toNat = 192 + n / 64 by omega,show ((128 : Int) + (n : Int) % 64).toNat = 128 + n % 64 by omega]
 rw [if_neg h2]
 by_cases h3 : n < 65536
 · rw [Lib.encodeRuneZ_three (by omega),if_pos h3]
   simp only [List.map_cons,List.map_nil,enc_map]
   rw [show ((224 : Int) + (n : Int) / 4096).toNat = 224 + n / 4096 by omega,show ((128 : Int) + (n : Int) / 64 % 64).toNat = 128 + n / 64 % 64 by omega,show ((128 : Int) + (n : Int) % 64).toNat = 128 + n % 64 by omega]
 · rw [Lib.encodeRuneZ_four (by omega) (by omega),if_neg h3]
   simp only [List.map_cons,List.map_nil,enc_map]
   rw [show ((240 : Int) + (n : Int) / 262144).toNat = 240 + n / 262144 by omega,show ((128 : Int) + (n : Int) / 4096 % 64).toNat = 128 + n / 4096 % 64 by omega,show ((128 : Int) + (n : Int) / 64 % 64).toNat = 128 + n / 64 % 64 by omega,show ((128 : Int) + (n : Int) % 64).toNat = 128 + n % 64 by omega]
end Go.Eng
namespace Go.Lex
open Go Go.Eng Go.Num
structure Tok where
 k : Int
 t : Str
 a : Int
deriving DecidableEq
def isLetter (c : UInt8) : Bool := (97 ≤ c && c ≤ 122) || (65 ≤ c && c ≤ 90) || c == 95
def isDigit (c : UInt8) : Bool := 48 ≤ c && c ≤ 57
def isName (c : UInt8) : Bool := isLetter c || isDigit c || c == 45
def runM (p : UInt8 → Bool) : Str → Nat
 | [] => 0
 | c :: r => if p c then runM p r + 1 else 0
def preM (p s : Str) : Bool := p.isPrefixOf s
def skipF : Nat → Str → Nat × Int
 | 0,_ => (0,0)
 | _ + 1,[] => (0,0)
 | n + 1,c :: r =>
   if c == 32 || c == 9 || c == 13 then ((skipF n r).1 + 1,(skipF n r).2)
   else if c == 35 || preM [47,47] (c :: r) then
     let k := runM (fun b => b != 10) (c :: r)
     ((skipF n ((c :: r).drop k)).1 + k,(skipF n ((c :: r).drop k)).2)
   else if preM [47,42] (c :: r) then
     let i := Lib.index (r.drop 1) [42,47]
     if i < 0 then (0,40)
     else ((skipF n ((c :: r).drop (i.toNat + 4))).1 + (i.toNat + 4),(skipF n ((c :: r).drop (i.toNat + 4))).2)
   else (0,0)
def addM (k : Nat) (r : Nat × Int) : Nat × Int := if r.2 = 0 then (r.1 + k,0) else (0,r.2)
def escOk (c : UInt8) : Bool := c == 34 || c == 92 || c == 110 || c == 116 || c == 114 || c == 36
mutual
/-- the rest of a text,up to its closing quote,and it -/
def textF : Nat → Str → Nat → Nat × Int
 | 0,_,_ => (0,40)
 | _ + 1,[],_ => (0,40)
 | n + 1,c :: r,d =>
   if c == 34 then (1,0)
   else if c == 10 then (0,40)
   else if c == 92 then
     match r with
     | [] => (0,40)
     | e :: r' => if escOk e then addM 2 (textF n r' d) else (0,40)
   else if preM [36,123] (c :: r) then
     if 24 < d + 1 then (0,7)
     else
       let i := insF n (r.drop 1) (d + 1)
       if i.2 = 0 then addM (i.1 + 2) (textF n ((r.drop 1).drop i.1) d) else (0,i.2)
   else addM 1 (textF n r d)
/-- the rest of an insertion behind its opening brace,up to the closing one,and it -/
def insF : Nat → Str → Nat → Nat × Int
 | 0,_,_ => (0,40)
 | _ + 1,[],_ => (0,40)
 | n + 1,c :: r,d =>
   if c == 125 then (1,0)
   else if c == 10 then (0,40)
   else if c == 123 then
     if 24 < d + 1 then (0,7)
     else
       let i := insF n r (d + 1)
       if i.2 = 0 then addM (i.1 + 1) (insF n (r.drop i.1) d) else (0,i.2)
   else if c == 34 then
     let i := textF n r d
     if i.2 = 0 then addM (i.1 + 1) (insF n (r.drop i.1) d) else (0,i.2)
   else addM 1 (insF n r d)
end
def hereL : Str → Str
 | [] => []
 | c :: r => if c == 92 || c == 34 || c == 36 then 92 :: c :: hereL r else if c == 9 then 92 :: 116 :: hereL r else if c == 13 then 92 :: 114 :: hereL r else c :: hereL r
def hereF : Nat → Str → Str → Str × Nat × Int
 | 0,_,_ => ([],0,40)
 | n + 1,name,s =>
   let k := runM (fun b => b != 10) s
   let line := s.take k
   if line.drop (runM (fun b => b == 32 || b == 9) line) = name then ([],k,0)
   else if s.length ≤ k then ([],0,40)
   else
     let x := hereF n name (s.drop (k + 1))
     if x.2.2 = 0 then (hereL line ++ [92,110] ++ x.1,x.2.1 + (k + 1),0) else ([],0,x.2.2)
def heredocM (s : Str) : Str × Nat × Int :=
 let n := if isLetter ((s.drop 2).headD 0) then runM isName (s.drop 2) else 0
 if n = 0 then ([],0,40)
 else if (s.drop (2 + n)).head? = some 10 then
   let x := hereF (s.length + 1) ((s.drop 2).take n) (s.drop (2 + n + 1))
   if x.2.2 = 0 then (x.1,x.2.1 + (2 + n + 1),0) else ([],0,x.2.2)
 else ([],0,40)
def signs2 : List Str := [[61,61],[33,61],[60,61],[62,61],[38,38],[124,124]]
def signs1 : Str := [123,125,91,93,40,41,61,43,45,42,47,37,60,62,33,63,58,44,46]
def signM (s : Str) : Str :=
 if signs2.contains (s.take 2) then s.take 2 else if signs1.contains (s.headD 0) then s.take 1 else []
def oneM (s : Str) : Tok × Nat × Int :=
 let c := s.headD 0
 if c == 10 then (⟨5,[10],0⟩,1,0)
 else if isLetter c then
   let n := runM isName s
   (⟨1,s.take n,0⟩,n,if 32 < n then 3 else 0)
 else if isDigit c then
   let n := runM isDigit s
   (⟨2,s.take n,0⟩,n,if (n < s.length && isLetter ((s.drop n).headD 0)) || (c == 48 && 1 < n) then 40 else if goodN (s.take n) then 0 else 3)
 else if c == 34 then
   let r := textF (s.length + 1) (s.drop 1) 0
   if r.2 = 0 then (⟨3,(s.drop 1).take (r.1 - 1),0⟩,r.1 + 1,0) else (⟨0,[],0⟩,0,r.2)
 else if preM [60,60] s then
   let r := heredocM s
   (⟨3,r.1,0⟩,r.2.1,r.2.2)
 else (⟨4,signM s,0⟩,(signM s).length,if (signM s).length = 0 then 40 else 0)
def badF : Nat → Str → Nat → Option Nat
 | 0,_,_ => none
 | n + 1,s,i => if s.length ≤ i then none else if runeM s i = 0 then some i else badF n s (i + stepM s i)
inductive RS where
 | ok (l : List Tok)
 | bad (code at_ : Int)
deriving DecidableEq
def scanF : Nat → Str → Nat → Nat → RS
 | 0,_,_,_ => .bad 0 0
 | n + 1,s,at_,cnt =>
   let k := skipF (s.length + 1) s
   let r := s.drop k.1
   if k.2 ≠ 0 then .bad k.2 (at_ + k.1 : Nat)
   else if r = [] then .ok [⟨0,[],(at_ + k.1 : Nat)⟩]
   else
     let o := oneM r
     if o.2.2 ≠ 0 then .bad o.2.2 (at_ + k.1 : Nat)
     else if cnt = 4096 then .bad 3 (at_ + k.1 : Nat)
     else match scanF n (r.drop o.2.1) (at_ + k.1 + o.2.1) (cnt + 1) with
       | .ok l => .ok (⟨o.1.k,o.1.t,(at_ + k.1 : Nat)⟩ :: l)
       | x => x
def scanM (s : Str) : RS :=
 if 16384 < s.length then .bad 3 0
 else match badF (s.length + 1) s 0 with
   | some i => .bad 31 (i : Nat)
   | none => scanF (s.length + 1) s 0 0
end Go.Lex
namespace Go.Syn
open Go Go.Eng Go.Lex
structure Ex where
 k : Int
 t : Str
 args : List Nat
 keys : List Str
 a : Int
deriving DecidableEq
structure Atr where
 n : Str
 e : Nat
 a : Int
deriving DecidableEq
structure Blk where
 typ : Str
 labels : List Str
 attrs : List Atr
 blocks : List Nat
 a : Int
deriving DecidableEq
structure Fl where
 ex : List Ex
 bl : List Blk
 top : List Nat
deriving DecidableEq
structure PS where
 toks : List Tok
 i : Nat
 off : Int
 deep : Nat
 quiet : Bool
 ex : List Ex
 bl : List Blk
inductive R (α : Type) where
 | ok (x : α) (s : PS)
 | err (c a : Int)
def R.bind {α β : Type} (r : R α) (f : α → PS → R β) : R β := match r with
 | .ok x s => f x s
 | .err c a => .err c a
def lineRun : List Tok → Nat
 | [] => 0
 | t :: r => if t.k = 5 then lineRun r + 1 else 0
def nowS (s : PS) : PS := if s.quiet = true then { s with i := s.i + lineRun (s.toks.drop s.i) } else s
def tokI (s : PS) : Tok := s.toks.getD s.i ⟨0,[],0⟩
def cur (s : PS) : Tok := { tokI (nowS s) with a := (tokI (nowS s)).a + s.off }
def step1 (s : PS) : PS := { s with i := s.i + 1 }
def nextS (s : PS) : PS := if (cur s).k ≠ 0 then step1 (nowS s) else nowS s
def isS (s : PS) (w : Str) : Bool := decide ((cur s).k = 4) && decide ((cur s).t = w)
def takeS (s : PS) (w : Str) : Bool × PS := if isS s w = true then (true,step1 (nowS s)) else (false,nowS s)
def wantR (s : PS) (w : Str) : R Unit := if isS s w = true then .ok () (step1 (nowS s)) else .err 50 (cur s).a
def kindR (s : PS) (k : Int) : R Tok := if (cur s).k = k then .ok (cur s) (nextS s) else .err 50 (cur s).a
def linesS (s : PS) : PS := { nowS s with i := (nowS s).i + lineRun (s.toks.drop (nowS s).i) }
def putR (s : PS) (e : Ex) : R Nat := .ok s.ex.length { s with ex := s.ex ++ [e] }
def within {α : Type} (s : PS) (a : Int) (quiet : Bool) (f : PS → R α) : R α :=
 if s.deep = 24 then .err 7 a
 else (f { s with deep := s.deep + 1,quiet := quiet }).bind fun x s' => .ok x { s' with deep := s.deep,quiet := s.quiet }
def saysM : Str → Str
 | [] => []
 | [c] => if c = 92 then [] else [c]
 | c :: e :: r => if c = 92 then (if e = 110 then 10 else if e = 116 then 9 else if e = 114 then 13 else e) :: saysM r else c :: saysM (e :: r)
mutual
def braF : Nat → Str → Int → Nat
 | 0,_,_ => 0
 | _ + 1,[],_ => 0
 | n + 1,c :: r,d =>
   if c = 123 then 1 + braF n r (d + 1)
   else if c = 125 then (if d - 1 = 0 then 1 else 1 + braF n r (d - 1))
   else if c = 34 then (1 + quoF n r) + braF n (r.drop (quoF n r)) d
   else 1 + braF n r d
/-- of a text's rest behind its quote -/
def quoF : Nat → Str → Nat
 | 0,_ => 0
 | _ + 1,[] => 0
 | n + 1,c :: r =>
   if c = 34 then 1
   else if c = 92 then (match r with | [] => 1 | _ :: r' => 2 + quoF n r')
   else if preM [36,123] (c :: r) = true then (1 + braF n r 0) + quoF n (r.drop (braF n r 0))
   else 1 + quoF n r
end
def braM (s : Str) : Nat := braF (s.length + 1) s 0
def insP : Str → Option (Nat × Nat)
 | [] => none
 | [_] => none
 | c :: e :: r =>
   if c = 92 then (insP r).map fun x => (x.1 + 2,x.2 + 2)
   else if c = 36 ∧ e = 123 then some (0,1 + braM (e :: r))
   else (insP (e :: r)).map fun x => (x.1 + 1,x.2 + 1)
def plainR (s : PS) (t : Tok) : R Str := if (insP t.t).isSome = true then .err 50 t.a else .ok (saysM t.t) s
def innerR (E : PS → R Nat) (s : PS) (t : Str) (a : Int) : R Nat := match scanM t with
 | .bad c b => .err c (a + b)
 | .ok l => (E ⟨l,0,a,s.deep,false,s.ex,s.bl⟩).bind fun x q => (kindR q 0).bind fun _ q' => .ok x { s with ex := q'.ex,bl := q'.bl }
def partsF (E : PS → R Nat) : Nat → PS → Str → Int → List Nat → List Str → R (List Nat × List Str)
 | 0,_,_,_,_,_ => .err 0 0
 | n + 1,s,rest,a,us,ks =>
   if rest = [] then .ok (us,ks) s
   else match insP rest with
     | none => .ok (us ++ [s.ex.length],ks ++ [[116]]) { s with ex := s.ex ++ [⟨5,saysM rest,[],[],a⟩] }
     | some (i,e) =>
       let s1 := if 0 < i then { s with ex := s.ex ++ [⟨5,saysM (rest.take i),[],[],a⟩] } else s
       let as1 := if 0 < i then us ++ [s.ex.length] else us
       let ks1 := if 0 < i then ks ++ [[116]] else ks
       if i < e then
         (within s1 (a + i) false fun q => innerR E q ((rest.drop (i + 2)).take (e - 1 - (i + 2))) (a + i + 2)).bind fun x s2 => partsF E n s2 (rest.drop e) (a + e) (as1 ++ [x]) (ks1 ++ [[101]])
       else partsF E n s1 (rest.drop e) (a + e) as1 ks1
def textR (E : PS → R Nat) (s : PS) (t : Tok) : R Nat :=
 if (insP t.t).isSome = true then (partsF E (t.t.length + 1) s t.t (t.a + 1) [] []).bind fun x s' => putR s' ⟨6,[],x.1,x.2,t.a⟩
 else putR s ⟨5,saysM t.t,[],[],t.a⟩
def kFor : Str := [102,111,114]
def kIn : Str := [105,110]
def namedK (t : Str) : Int := if t = [110,117,108,108] then 1 else if t = [116,114,117,101] then 2 else if t = [102,97,108,115,101] then 3 else 9
def argsF (E : PS → R Nat) (w : Str) : Nat → PS → List Nat → R (List Nat)
 | 0,_,_ => .err 0 0
 | n + 1,s,out =>
   if (takeS s w).1 = true then .ok out (takeS s w).2
   else if out = [] then (E (takeS s w).2).bind fun x s' => argsF E w n s' (out ++ [x])
   else (wantR (takeS s w).2 [44]).bind fun _ s1 =>
     if (takeS s1 w).1 = true then .ok out (takeS s1 w).2
     else (E (takeS s1 w).2).bind fun x s' => argsF E w n s' (out ++ [x])
def argsR (E : PS → R Nat) (w : Str) (s : PS) : R (List Nat) := argsF E w (s.toks.length + 1) s []
def listR (E : PS → R Nat) (s : PS) (a : Int) : R Ex :=
 let s1 := step1 s
 if (cur s1).k ≠ 1 ∨ (cur s1).t ≠ kFor then (argsR E [93] (nowS s1)).bind fun us s' => .ok ⟨7,[],us,[],a⟩ s'
 else (kindR (step1 (nowS s1)) 1).bind fun t s2 => (kindR s2 1).bind fun u s3 =>
   if u.t ≠ kIn then .err 50 u.a
   else (E s3).bind fun x s4 => (wantR s4 [58]).bind fun _ s5 => (E s5).bind fun y s6 => (wantR s6 [93]).bind fun _ s7 => .ok ⟨29,t.t,[x,y],[],a⟩ s7
def objF (E : PS → R Nat) (a : Int) : Nat → PS → List Nat → List Str → R Ex
 | 0,_,_,_ => .err 0 0
 | n + 1,s,us,ks =>
   if (takeS s [125]).1 = true then .ok ⟨8,[],us,ks,a⟩ (takeS s [125]).2
   else
     let s1 := (takeS s [125]).2
     let t := cur s1
     let s2 := nextS s1
     (if t.k = 3 then plainR s2 t else if t.k = 1 then .ok t.t s2 else .err 50 t.a).bind fun k s3 =>
       if ks.contains k = true then .err 2 t.a
       else (wantR s3 [61]).bind fun _ s4 => (E s4).bind fun x s5 =>
         if (takeS s5 [44]).1 = false ∧ (cur (takeS s5 [44]).2).k ≠ 5 ∧ isS (nowS (takeS s5 [44]).2) [125] = false then .err 50 (cur (nowS (takeS s5 [44]).2)).a
         else objF E a n (linesS (if (takeS s5 [44]).1 = true then (takeS s5 [44]).2 else nowS (takeS s5 [44]).2)) (us ++ [x]) (ks ++ [k])
def objR (E : PS → R Nat) (s : PS) (a : Int) : R Ex := objF E a (s.toks.length + 1) (linesS (step1 s)) [] []
def atomR (E : PS → R Nat) (s : PS) : R Nat :=
 let t := cur s
 let s1 := nowS s
 if t.k = 2 then putR (step1 s1) ⟨4,t.t,[],[],t.a⟩
 else if t.k = 3 then textR E (step1 s1) t
 else if t.k = 1 ∧ t.t ≠ kFor then
   if isS (step1 s1) [40] = true then
     (within (nowS (step1 s1)) (cur (step1 s1)).a true fun q => argsR E [41] (step1 q)).bind fun us s2 => putR s2 ⟨12,t.t,us,[],t.a⟩
   else putR (nowS (step1 s1)) ⟨namedK t.t,if namedK t.t = 9 then t.t else [],[],[],t.a⟩
 else if isS s1 [40] = true then within s1 t.a true fun q => (E (step1 q)).bind fun x q1 => (wantR q1 [41]).bind fun _ q2 => .ok x q2
 else if isS s1 [91] = true then (within s1 t.a true fun q => listR E q t.a).bind fun e s2 => putR s2 e
 else if isS s1 [123] = true then (within s1 t.a false fun q => objR E q t.a).bind fun e s2 => putR s2 e
 else .err 50 t.a
def postF (E : PS → R Nat) : Nat → PS → Nat → R Nat
 | 0,_,_ => .err 0 0
 | n + 1,s,x =>
   let t := cur s
   let s1 := nowS s
   if (takeS s1 [46]).1 = true then (kindR (takeS s1 [46]).2 1).bind fun u s2 => (putR s2 ⟨10,u.t,[x],[],t.a⟩).bind fun y s3 => postF E n s3 y
   else if isS s1 [91] = true then
     (within s1 t.a true fun q =>
       if (takeS (step1 q) [42]).1 = true then (wantR (takeS (step1 q) [42]).2 [93]).bind fun _ q2 => .ok none q2
       else (E (takeS (step1 q) [42]).2).bind fun y q1 => (wantR q1 [93]).bind fun _ q2 => .ok (some y) q2).bind fun o s2 =>
       match o with
       | some y => (putR s2 ⟨11,[],[x,y],[],t.a⟩).bind fun z s3 => postF E n s3 z
       | none => (wantR s2 [46]).bind fun _ s3 => (kindR s3 1).bind fun u s4 => (putR s4 ⟨30,u.t,[x],[],t.a⟩).bind fun z s5 => postF E n s5 z
   else .ok x s1
def postR (E : PS → R Nat) (s : PS) : R Nat := (atomR E s).bind fun x s1 => postF E (s.toks.length + 1) s1 x
def signR (E S : PS → R Nat) (s : PS) : R Nat :=
 let t := cur s
 let s1 := nowS s
 if isS s1 [33] = true then (within s1 t.a s1.quiet fun q => S (step1 q)).bind fun x s2 => putR s2 ⟨14,[],[x],[],t.a⟩
 else if isS s1 [45] = true then (within s1 t.a s1.quiet fun q => S (step1 q)).bind fun x s2 => putR s2 ⟨13,[],[x],[],t.a⟩
 else postR E s1
def joinK (n : Nat) (w : Str) : Int :=
 if n = 0 then (if w = [124,124] then 27 else 0)
 else if n = 1 then (if w = [38,38] then 26 else 0)
 else if n = 2 then (if w = [61,61] then 20 else if w = [33,61] then 21 else 0)
 else if n = 3 then (if w = [60] then 22 else if w = [62] then 23 else if w = [60,61] then 24 else if w = [62,61] then 25 else 0)
 else if n = 4 then (if w = [43] then 15 else if w = [45] then 16 else 0)
 else if n = 5 then (if w = [42] then 17 else if w = [47] then 18 else if w = [37] then 19 else 0)
 else 0
def levelK (t : Tok) (n : Nat) : Int := if t.k = 4 then joinK n t.t else 0
def joinF (J : PS → R Nat) (n : Nat) : Nat → PS → Nat → R Nat
 | 0,_,_ => .err 0 0
 | f + 1,s,a =>
   let t := cur s
   if levelK t n = 0 then .ok a (nowS s)
   else (J (step1 (nowS s))).bind fun b s1 => (putR s1 ⟨levelK t n,[],[a,b],[],t.a⟩).bind fun x s2 => joinF J n f s2 x
def joinU (E S : PS → R Nat) : Nat → PS → R Nat
 | 0 => signR E S
 | m + 1 => fun s => (joinU E S m s).bind fun a s1 => joinF (joinU E S m) (5 - m) (s.toks.length + 1) s1 a
def exprR (E S : PS → R Nat) (s : PS) : R Nat := (joinU E S 6 s).bind fun a s1 =>
 let t := cur s1
 if (takeS s1 [63]).1 = true then
   (within (takeS s1 [63]).2 t.a (takeS s1 [63]).2.quiet fun q => (E q).bind fun x q1 => (wantR q1 [58]).bind fun _ q2 => (E q2).bind fun y q3 => .ok (x,y) q3).bind fun z s2 => putR s2 ⟨28,[],[a,z.1,z.2],[],t.a⟩
 else .ok a (takeS s1 [63]).2
def dead : PS → R Nat := fun _ => .err 0 0
def exprD : Nat → (PS → R Nat) × (PS → R Nat)
 | 0 => (exprR dead dead,signR dead dead)
 | d + 1 => (exprR (exprD d).1 (exprD d).2,signR (exprD d).1 (exprD d).2)
def labelsF : Nat → PS → List Str → R (List Str)
 | 0,_,_ => .err 0 0
 | n + 1,s,ls =>
   if (cur s).k = 3 then (plainR (nextS s) (cur s)).bind fun l s1 => labelsF n s1 (ls ++ [l])
   else .ok ls (nowS s)
def itemR (E B : PS → R Nat) (s : PS) (us : List Atr) (bs : List Nat) : R (List Atr × List Nat) := (kindR s 1).bind fun t s1 =>
 if (takeS s1 [61]).1 = true then (E (takeS s1 [61]).2).bind fun x s2 => .ok (us ++ [⟨t.t,x,t.a⟩],bs) s2
 else (B { (takeS s1 [61]).2 with i := (takeS s1 [61]).2.i - 1 }).bind fun x s2 => .ok (us,bs ++ [x]) s2
def itemsF (E B : PS → R Nat) : Nat → PS → List Atr → List Nat → R (List Atr × List Nat)
 | 0,_,_,_ => .err 0 0
 | n + 1,s,us,bs =>
   if (takeS s [125]).1 = true then .ok (us,bs) (takeS s [125]).2
   else (itemR E B (takeS s [125]).2 us bs).bind fun x s1 =>
     if (cur s1).k ≠ 5 ∧ isS (nowS s1) [125] = false then .err 50 (cur (nowS s1)).a
     else itemsF E B n (linesS (nowS s1)) x.1 x.2
def blockR (E B : PS → R Nat) (s : PS) : R Nat := (kindR s 1).bind fun t s1 => (labelsF (s.toks.length + 1) s1 []).bind fun ls s2 =>
 if isS s2 [123] = false then .err 50 (cur s2).a
 else (within (nowS s2) (cur s2).a false fun q => itemsF E B (s.toks.length + 1) (linesS (step1 q)) [] []).bind fun x s3 =>
   .ok s3.bl.length { s3 with bl := s3.bl ++ [⟨t.t,ls,x.1,x.2,t.a⟩] }
def blockD : Nat → PS → R Nat
 | 0 => blockR dead dead
 | d + 1 => blockR (exprD d).1 (blockD d)
def topF : Nat → PS → List Nat → R (List Nat)
 | 0,_,_ => .err 0 0
 | n + 1,s,top =>
   if (cur s).k = 0 then .ok top (nowS s)
   else (blockD 24 (nowS s)).bind fun x s1 =>
     if (cur s1).k ≠ 5 ∧ (cur s1).k ≠ 0 then .err 50 (cur (nowS s1)).a
     else topF n (linesS (nowS s1)) (top ++ [x])
inductive PR where
 | ok (f : Fl)
 | bad (c a : Int)
deriving DecidableEq
def parseM (s : Str) : PR := match scanM s with
 | .bad c a => .bad c a
 | .ok l => match topF (l.length + 1) (linesS ⟨l,0,0,0,false,[],[]⟩) [] with
   | .ok top s' => .ok ⟨s'.ex,s'.bl,top⟩
   | .err c a => .bad c a
end Go.Syn
namespace Go.Syn
open Go Go.Eng Go.Lex
theorem drop_le {s : Str} (k : Nat) {n : Nat} (h : s.length ≤ n) : (s.drop k).length ≤ n := by rw [List.length_drop]; omega
theorem fuel_bq : ∀ (N : Nat) (r : Str),r.length ≤ N → (∀ m m' c,r.length < m → r.length < m' → braF m r c = braF m' r c) ∧ (∀ m m',r.length < m → r.length < m' → quoF m r = quoF m' r) := by
 intro N
 induction N with
 | zero =>
   intro r hr
   have : r = [] := List.eq_nil_of_length_eq_zero (by omega)
   subst this
   refine ⟨fun m m' c h h' => ?_,fun m m' h h' => ?_⟩
   · obtain ⟨m,rfl⟩ : ∃ k,m = k + 1 := ⟨m - 1,by simp at h; omega⟩
     obtain ⟨m',rfl⟩ : ∃ k,m' = k + 1 := ⟨m' - 1,by simp at h'; omega⟩
     rfl
   · obtain ⟨m,rfl⟩ : ∃ k,m = k + 1 := ⟨m - 1,by simp at h; omega⟩
     obtain ⟨m',rfl⟩ : ∃ k,m' = k + 1 := ⟨m' - 1,by simp at h'; omega⟩
     rfl
 | succ N ih =>
   intro r hr
   cases r with
   | nil => exact ⟨fun m m' c h h' => (ih [] (by simp)).1 m m' c h h',fun m m' h h' => (ih [] (by simp)).2 m m' h h'⟩
   | cons c r =>
     simp only [List.length_cons] at hr
     have hr : r.length ≤ N := by omega
     refine ⟨fun m m' d h h' => ?_,fun m m' h h' => ?_⟩
     · obtain ⟨m,rfl⟩ : ∃ k,m = k + 1 := ⟨m - 1,by simp at h; omega⟩
       obtain ⟨m',rfl⟩ : ∃ k,m' = k + 1 := ⟨m' - 1,by simp at h'; omega⟩
       simp only [List.length_cons] at h h'
       have hb := fun d => (ih r hr).1 m m' d (by omega) (by omega)
       have hq := (ih r hr).2 m m' (by omega) (by omega)
       have hd := fun k d => (ih (r.drop k) (drop_le k hr)).1 m m' d (by rw [List.length_drop]; omega) (by rw [List.length_drop]; omega)
       simp only [braF,hb,hq,hd]
     · obtain ⟨m,rfl⟩ : ∃ k,m = k + 1 := ⟨m - 1,by simp at h; omega⟩
       obtain ⟨m',rfl⟩ : ∃ k,m' = k + 1 := ⟨m' - 1,by simp at h'; omega⟩
       simp only [List.length_cons] at h h'
       have hb := fun d => (ih r hr).1 m m' d (by omega) (by omega)
       have hq := (ih r hr).2 m m' (by omega) (by omega)
       have hd := fun k => (ih (r.drop k) (drop_le k hr)).2 m m' (by rw [List.length_drop]; omega) (by rw [List.length_drop]; omega)
       cases r with
       | nil => simp only [quoF,hb,hq,hd]
       | cons e r' =>
         have h2 := (ih r' (by simp at hr; omega)).2 m m' (by simp at h; omega) (by simp at h'; omega)
         simp only [quoF,hb,hd,hq,h2]
def braX (r : Str) (c : Int) : Nat := braF (r.length + 1) r c
def quoX (r : Str) : Nat := quoF (r.length + 1) r
theorem braF_x {m : Nat} {r : Str} {c : Int} (h : r.length < m) : braF m r c = braX r c := (fuel_bq r.length r (Nat.le_refl _)).1 _ _ _ h (Nat.lt_succ_self _)
theorem quoF_x {m : Nat} {r : Str} (h : r.length < m) : quoF m r = quoX r := (fuel_bq r.length r (Nat.le_refl _)).2 _ _ h (Nat.lt_succ_self _)
theorem drop_lt {r : Str} (k : Nat) {m : Nat} (h : r.length < m) : (r.drop k).length < m := by rw [List.length_drop]; omega
theorem braX_nil (c : Int) : braX [] c = 0 := rfl
theorem braX_cons (c : UInt8) (r : Str) (d : Int) : braX (c :: r) d = if c = 123 then 1 + braX r (d + 1) else if c = 125 then (if d - 1 = 0 then 1 else 1 + braX r (d - 1)) else if c = 34 then (1 + quoX r) + braX (r.drop (quoX r)) d else 1 + braX r d := by
 have h : r.length < (c :: r).length := by simp
 show braF ((c :: r).length + 1) (c :: r) d = _
 rw [braF,quoF_x h]
 rw [braF_x h,braF_x h,braF_x h,braF_x (drop_lt _ h)]
theorem quoX_nil : quoX [] = 0 := rfl
theorem quoX_cons (c : UInt8) (r : Str) : quoX (c :: r) = if c = 34 then 1 else if c = 92 then (match r with | [] => 1 | _ :: r' => 2 + quoX r') else if preM [36,123] (c :: r) = true then (1 + braX r 0) + quoX (r.drop (braX r 0)) else 1 + quoX r := by
 cases r with
 | nil => rfl
 | cons e r' =>
   have h : (e :: r').length < (c :: e :: r').length := by simp
   have h2 : r'.length < (c :: e :: r').length := by simp; omega
   have hd : ∀ k,quoF (c :: e :: r').length ((e :: r').drop k) = quoX ((e :: r').drop k) := fun k => quoF_x (drop_lt k h)
   show quoF ((c :: e :: r').length + 1) (c :: e :: r') = _
   rw [quoF.eq_def]
   simp only [quoF_x h,braF_x h,quoF_x h2,hd]
theorem fuel_ti : ∀ (N : Nat) (r : Str),r.length ≤ N → (∀ m m' d,r.length < m → r.length < m' → textF m r d = textF m' r d) ∧ (∀ m m' d,r.length < m → r.length < m' → insF m r d = insF m' r d) := by
 intro N
 induction N with
 | zero =>
   intro r hr
   have : r = [] := List.eq_nil_of_length_eq_zero (by omega)
   subst this
   refine ⟨fun m m' d h h' => ?_,fun m m' d h h' => ?_⟩
   · obtain ⟨m,rfl⟩ : ∃ k,m = k + 1 := ⟨m - 1,by simp at h; omega⟩
     obtain ⟨m',rfl⟩ : ∃ k,m' = k + 1 := ⟨m' - 1,by simp at h'; omega⟩
     rfl
   · obtain ⟨m,rfl⟩ : ∃ k,m = k + 1 := ⟨m - 1,by simp at h; omega⟩
     obtain ⟨m',rfl⟩ : ∃ k,m' = k + 1 := ⟨m' - 1,by simp at h'; omega⟩
     rfl
 | succ N ih =>
   intro r hr
   cases r with
   | nil => exact ⟨fun m m' d h h' => (ih [] (by simp)).1 m m' d h h',fun m m' d h h' => (ih [] (by simp)).2 m m' d h h'⟩
   | cons c r =>
     simp only [List.length_cons] at hr
     have hr : r.length ≤ N := by omega
     refine ⟨fun m m' d h h' => ?_,fun m m' d h h' => ?_⟩
     · obtain ⟨m,rfl⟩ : ∃ k,m = k + 1 := ⟨m - 1,by simp at h; omega⟩
       obtain ⟨m',rfl⟩ : ∃ k,m' = k + 1 := ⟨m' - 1,by simp at h'; omega⟩
       simp only [List.length_cons] at h h'
       have ht := fun d => (ih r hr).1 m m' d (by omega) (by omega)
       have hi := fun k d => (ih (r.drop k) (drop_le k hr)).2 m m' d (by rw [List.length_drop]; omega) (by rw [List.length_drop]; omega)
       have hd := fun k j d => (ih ((r.drop k).drop j) (drop_le j (drop_le k hr))).1 m m' d (by rw [List.length_drop,List.length_drop]; omega) (by rw [List.length_drop,List.length_drop]; omega)
       cases r with
       | nil => simp only [textF,ht,hi,hd]
       | cons e r' =>
         have h2 := fun d => (ih r' (by simp at hr; omega)).1 m m' d (by simp at h; omega) (by simp at h'; omega)
         simp only [textF,ht,hi,hd,h2]
     · obtain ⟨m,rfl⟩ : ∃ k,m = k + 1 := ⟨m - 1,by simp at h; omega⟩
       obtain ⟨m',rfl⟩ : ∃ k,m' = k + 1 := ⟨m' - 1,by simp at h'; omega⟩
       simp only [List.length_cons] at h h'
       have ht := fun d => (ih r hr).1 m m' d (by omega) (by omega)
       have hi := fun d => (ih r hr).2 m m' d (by omega) (by omega)
       have hd := fun k d => (ih (r.drop k) (drop_le k hr)).2 m m' d (by rw [List.length_drop]; omega) (by rw [List.length_drop]; omega)
       simp only [insF,ht,hi,hd]
def textX (r : Str) (d : Nat) : Nat × Int := textF (r.length + 1) r d
def insX (r : Str) (d : Nat) : Nat × Int := insF (r.length + 1) r d
theorem textF_x {m : Nat} {r : Str} {d : Nat} (h : r.length < m) : textF m r d = textX r d := (fuel_ti r.length r (Nat.le_refl _)).1 _ _ _ h (Nat.lt_succ_self _)
theorem insF_x {m : Nat} {r : Str} {d : Nat} (h : r.length < m) : insF m r d = insX r d := (fuel_ti r.length r (Nat.le_refl _)).2 _ _ _ h (Nat.lt_succ_self _)
theorem textX_nil (d : Nat) : textX [] d = (0,40) := rfl
theorem insX_nil (d : Nat) : insX [] d = (0,40) := rfl
theorem textX_cons (c : UInt8) (r : Str) (d : Nat) : textX (c :: r) d = if c == 34 then (1,0) else if c == 10 then (0,40) else if c == 92 then (match r with | [] => (0,40) | e :: r' => if Lex.escOk e then addM 2 (textX r' d) else (0,40))
   else if preM [36,123] (c :: r) then (if 24 < d + 1 then (0,7) else if (insX (r.drop 1) (d + 1)).2 = 0 then addM ((insX (r.drop 1) (d + 1)).1 + 2) (textX ((r.drop 1).drop (insX (r.drop 1) (d + 1)).1) d) else (0,(insX (r.drop 1) (d + 1)).2)) else addM 1 (textX r d) := by
 cases r with
 | nil => rfl
 | cons e r' =>
   have h : (e :: r').length < (c :: e :: r').length := by simp
   have h2 : r'.length < (c :: e :: r').length := by simp; omega
   have hi : ∀ k d,insF (c :: e :: r').length ((e :: r').drop k) d = insX ((e :: r').drop k) d := fun k d => insF_x (drop_lt k h)
   have hd : ∀ k j d,textF (c :: e :: r').length (((e :: r').drop k).drop j) d = textX (((e :: r').drop k).drop j) d := fun k j d => textF_x (drop_lt j (drop_lt k h))
   show textF ((c :: e :: r').length + 1) (c :: e :: r') d = _
   rw [textF.eq_def]
   simp only [textF_x h,textF_x h2,hi,hd]
theorem insX_cons (c : UInt8) (r : Str) (d : Nat) : insX (c :: r) d = if c == 125 then (1,0) else if c == 10 then (0,40) else if c == 123 then (if 24 < d + 1 then (0,7) else if (insX r (d + 1)).2 = 0 then addM ((insX r (d + 1)).1 + 1) (insX (r.drop (insX r (d + 1)).1) d) else (0,(insX r (d + 1)).2))
   else if c == 34 then (if (textX r d).2 = 0 then addM ((textX r d).1 + 1) (insX (r.drop (textX r d).1) d) else (0,(textX r d).2)) else addM 1 (insX r d) := by
 have h : r.length < (c :: r).length := by simp
 have hd : ∀ k d,insF (c :: r).length (r.drop k) d = insX (r.drop k) d := fun k d => insF_x (drop_lt k h)
 show insF ((c :: r).length + 1) (c :: r) d = _
 rw [insF.eq_def]
 simp only [insF_x h,textF_x h,hd]
theorem add_ok {k n : Nat} {r : Nat × Int} (h : addM k r = (n,0)) : r = (n - k,0) ∧ k ≤ n := by
 obtain ⟨a,b⟩ := r
 unfold addM at h
 split at h
 · rename_i e
   simp only at e
   subst e
   injection h with h1 _
   subst h1
   exact ⟨by simp,by omega⟩
 · rename_i e
   injection h with _ h2
   exact absurd h2 e
theorem ins_bra : ∀ (N : Nat) (r : Str),r.length ≤ N →
   (∀ d k,textX r d = (k,0) → quoX r = k ∧ 1 ≤ k ∧ k ≤ r.length) ∧
   (∀ d k,insX r d = (k,0) → (1 ≤ k ∧ k ≤ r.length) ∧ ∀ c : Int,1 ≤ c → braX r c = if c = 1 then k else k + braX (r.drop k) (c - 1)) := by
 intro N
 induction N with
 | zero =>
   intro r hr
   have : r = [] := List.eq_nil_of_length_eq_zero (by omega)
   subst this
   refine ⟨fun d k h => ?_,fun d k h => ?_⟩
   · rw [textX_nil] at h; cases h
   · rw [insX_nil] at h; cases h
 | succ N ih =>
   intro r hr
   cases r with
   | nil => exact ih [] (by simp)
   | cons c r =>
     simp only [List.length_cons] at hr
     have hr : r.length ≤ N := by omega
     refine ⟨fun d k h => ?_,fun d k h => ?_⟩
     · rw [textX_cons] at h
       rw [quoX_cons]
       simp only [beq_iff_eq] at h
       split at h
       · rename_i e
         rw [if_pos e]
         injection h with h1 _
         subst h1
         simp
       rename_i e
       rw [if_neg e]
       split at h
       · cases h
       split at h
       · rename_i e2
         rw [if_pos e2]
         cases r with
         | nil => cases h
         | cons x r' =>
           simp only at h ⊢
           split at h
           · obtain ⟨h1,h2⟩ := add_ok h
             obtain ⟨q1,q2,q3⟩ := (ih r' (by simp at hr; omega)).1 d _ h1
             simp only [List.length_cons]
             omega
           · cases h
       rename_i e2
       rw [if_neg e2]
       split at h
       · rename_i e3
         rw [if_pos e3]
         split at h
         · cases h
         split at h
         · rename_i e4
           obtain ⟨h1,h2⟩ := add_ok h
           cases r with
           | nil => simp [preM] at e3
           | cons x r' =>
             have hx : x = 123 := by
               simp [preM] at e3
               exact e3.2.symm
             subst hx
             simp only [List.drop_succ_cons,List.drop_zero] at h1 h2 e4
             have hr' : r'.length ≤ N := by simp at hr; omega
             obtain ⟨⟨b1,b2⟩,b3⟩ := (ih r' hr').2 (d + 1) (insX r' (d + 1)).1 (Prod.ext rfl e4)
             have hb := b3 1 (by omega)
             rw [if_pos rfl] at hb
             have hbx : braX (123 :: r') 0 = 1 + (insX r' (d + 1)).1 := by
               rw [braX_cons,if_pos rfl]
               show 1 + braX r' (0 + 1) = _
               rw [show (0 : Int) + 1 = 1 from rfl,hb]
             rw [hbx]
             have hdr : (123 :: r').drop (1 + (insX r' (d + 1)).1) = r'.drop (insX r' (d + 1)).1 := by rw [Nat.add_comm]; rfl
             rw [hdr]
             obtain ⟨q1,q2,q3⟩ := (ih (r'.drop (insX r' (d + 1)).1) (drop_le _ hr')).1 d _ h1
             rw [List.length_drop] at q3
             simp only [List.length_cons]
             omega
         · rename_i e4
           injection h with _ h2
           exact absurd h2 e4
       · rename_i e3
         rw [if_neg e3]
         obtain ⟨h1,h2⟩ := add_ok h
         obtain ⟨q1,q2,q3⟩ := (ih r hr).1 d _ h1
         simp only [List.length_cons]
         omega
     · rw [insX_cons] at h
       simp only [beq_iff_eq] at h
       split at h
       · rename_i e
         injection h with h1 _
         subst h1
         refine ⟨by simp,fun cc hc => ?_⟩
         rw [braX_cons,if_neg (by rw [e]; decide),if_pos e]
         by_cases h1 : cc = 1
         · subst h1; simp
         · rw [if_neg (by omega),if_neg h1]; rfl
       rename_i e
       split at h
       · cases h
       rename_i e10
       split at h
       · rename_i e2
         split at h
         · cases h
         split at h
         · rename_i e4
           obtain ⟨h1,h2⟩ := add_ok h
           obtain ⟨⟨b1,b2⟩,b3⟩ := (ih r hr).2 (d + 1) (insX r (d + 1)).1 (Prod.ext rfl e4)
           obtain ⟨⟨f1,f2⟩,f3⟩ := (ih (r.drop (insX r (d + 1)).1) (drop_le _ hr)).2 d _ h1
           rw [List.length_drop] at f2
           refine ⟨by simp only [List.length_cons]; omega,fun cc hc => ?_⟩
           rw [braX_cons,if_pos e2,b3 (cc + 1) (by omega),if_neg (by omega),show cc + 1 - 1 = cc from by omega,f3 cc hc]
           by_cases h1' : cc = 1
           · rw [if_pos h1',if_pos h1']; omega
           · rw [if_neg h1',if_neg h1',List.drop_drop]
             have : (c :: r).drop k = r.drop (k - 1) := by
               obtain ⟨j,rfl⟩ : ∃ j,k = j + 1 := ⟨k - 1,by omega⟩
               rfl
             rw [this,show (insX r (d + 1)).1 + (k - ((insX r (d + 1)).1 + 1)) = k - 1 from by omega]
             omega
         · rename_i e4
           injection h with _ h2
           exact absurd h2 e4
       rename_i e2
       split at h
       · rename_i e3
         split at h
         · rename_i e4
           obtain ⟨h1,h2⟩ := add_ok h
           obtain ⟨q1,q2,q3⟩ := (ih r hr).1 d (textX r d).1 (Prod.ext rfl e4)
           obtain ⟨⟨f1,f2⟩,f3⟩ := (ih (r.drop (textX r d).1) (drop_le _ hr)).2 d _ h1
           rw [List.length_drop] at f2
           refine ⟨by simp only [List.length_cons]; omega,fun cc hc => ?_⟩
           rw [braX_cons,if_neg e2,if_neg e,if_pos e3,q1,f3 cc hc]
           by_cases h1' : cc = 1
           · rw [if_pos h1',if_pos h1']; omega
           · rw [if_neg h1',if_neg h1',List.drop_drop]
             have : (c :: r).drop k = r.drop (k - 1) := by
               obtain ⟨j,rfl⟩ : ∃ j,k = j + 1 := ⟨k - 1,by omega⟩
               rfl
             rw [this,show (textX r d).1 + (k - ((textX r d).1 + 1)) = k - 1 from by omega]
             omega
         · rename_i e4
           injection h with _ h2
           exact absurd h2 e4
       · rename_i e3
         obtain ⟨h1,h2⟩ := add_ok h
         obtain ⟨⟨f1,f2⟩,f3⟩ := (ih r hr).2 d _ h1
         refine ⟨by simp only [List.length_cons]; omega,fun cc hc => ?_⟩
         rw [braX_cons,if_neg e2,if_neg e,if_neg e3,f3 cc hc]
         by_cases h1' : cc = 1
         · rw [if_pos h1',if_pos h1']; omega
         · rw [if_neg h1',if_neg h1']
           have : (c :: r).drop k = r.drop (k - 1) := by
             obtain ⟨j,rfl⟩ : ∃ j,k = j + 1 := ⟨k - 1,by omega⟩
             rfl
           rw [this]
           omega
end Go.Syn
namespace Go.Syn
open Go Go.Eng Go.Lex
structure Forest (L : List (List Nat)) (roots : List Nat) : Prop where
 ahead : ∀ (i : Nat) (us : List Nat),L[i]? = some us → ∀ a ∈ us,a < i
 once : ∀ j,j < L.length → L.flatten.count j + roots.count j = 1
 low : ∀ r ∈ roots,r < L.length
theorem Forest.perm {L : List (List Nat)} {r r' : List Nat} (h : Forest L r) (hp : r.Perm r') : Forest L r' :=
 ⟨h.ahead,fun j hj => by rw [← hp.count_eq]; exact h.once j hj,fun x hx => h.low x (hp.mem_iff.2 hx)⟩
theorem Forest.nil : Forest [] [] := ⟨fun i us h => by simp at h,fun j hj => by simp at hj,fun r h => by simp at h⟩
theorem Forest.flat_lt {L : List (List Nat)} {r : List Nat} (h : Forest L r) : ∀ x ∈ L.flatten,x < L.length := by
 intro x hx
 obtain ⟨us,has,hxa⟩ := List.mem_flatten.1 hx
 obtain ⟨i,hi⟩ := List.getElem?_of_mem has
 have h1 := h.ahead i us hi x hxa
 have h2 := (List.getElem?_eq_some_iff.1 hi).1
 omega
theorem Forest.put {L : List (List Nat)} {us roots : List Nat} (h : Forest L (us ++ roots)) : Forest (L ++ [us]) (L.length :: roots) := by
 refine ⟨fun i bs hi => ?_,fun j hj => ?_,fun r hr => ?_⟩
 · by_cases hl : i < L.length
   · rw [List.getElem?_append_left hl] at hi
     exact h.ahead i bs hi
   · rw [List.getElem?_append_right (by omega)] at hi
     have : i - L.length = 0 := by
       by_cases h0 : i - L.length = 0
       · exact h0
       · rw [List.getElem?_eq_none (by simp; omega)] at hi
         cases hi
     rw [this] at hi
     simp only [List.getElem?_cons_zero,Option.some.injEq] at hi
     subst hi
     intro a ha
     have := h.low a (List.mem_append_left _ ha)
     omega
 · rw [List.flatten_append,List.count_append]
   simp only [List.flatten_cons,List.flatten_nil,List.append_nil,List.count_cons]
   by_cases hl : j < L.length
   · have h1 := h.once j hl
     rw [List.count_append] at h1
     have : (L.length == j) = false := by simp; omega
     rw [this]
     simp only [Bool.false_eq_true,if_false]
     omega
   · have hj2 : j = L.length := by rw [List.length_append,List.length_cons,List.length_nil] at hj; omega
     subst hj2
     have e1 : L.flatten.count L.length = 0 := List.count_eq_zero.2 fun hm => by have := h.flat_lt _ hm; omega
     have e2 : us.count L.length = 0 := List.count_eq_zero.2 fun hm => by have := h.low _ (List.mem_append_left _ hm); omega
     have e3 : roots.count L.length = 0 := List.count_eq_zero.2 fun hm => by have := h.low _ (List.mem_append_right _ hm); omega
     rw [e1,e2,e3]
     simp
 · rw [List.length_append,List.length_cons,List.length_nil]
   rcases List.mem_cons.1 hr with rfl | hr
   · omega
   · have := h.low r (List.mem_append_right _ hr)
     omega
abbrev exL (ex : List Ex) : List (List Nat) := ex.map (·.args)
theorem forest_put {ex : List Ex} {e : Ex} {roots : List Nat} (h : Forest (exL ex) (e.args ++ roots)) : Forest (exL (ex ++ [e])) (ex.length :: roots) := by
 have := h.put
 rw [List.length_map] at this
 simpa [exL] using this
def Sat {α : Type} (r : R α) (P : α → PS → Prop) (Q : Int → Prop) : Prop := match r with
 | .ok x s => P x s
 | .err _ a => Q a
theorem Sat.bind {α β : Type} {r : R α} {f : α → PS → R β} {P : α → PS → Prop} {P' : β → PS → Prop} {Q : Int → Prop} (h : Sat r P Q) (hf : ∀ x s,P x s → Sat (f x s) P' Q) : Sat (r.bind f) P' Q := by
 cases r with
 | ok x s => exact hf x s h
 | err c a => exact h
theorem Sat.mono {α : Type} {r : R α} {P P' : α → PS → Prop} {Q : Int → Prop} (h : Sat r P Q) (hp : ∀ x s,P x s → P' x s) : Sat r P' Q := by
 cases r with
 | ok x s => exact hp x s h
 | err c a => exact h
def TextOk (N a : Int) (t : Str) : Prop := insP t = none ∨ a + t.length + 2 ≤ N
structure TG (N off : Int) (l : List Tok) : Prop where
 ne : l ≠ []
 pos : ∀ i t,l[i]? = some t → 0 ≤ t.a + off ∧ t.a + off ≤ N ∧ (t.k ≠ 0 → t.a + off < N) ∧ (t.k = 3 → TextOk N (t.a + off) t.t) ∧ (t.k = 1 → t.t ≠ []) ∧ (i + 1 = l.length → t.k = 0)
structure WS (N : Int) (s : PS) : Prop where
 tg : TG N s.off s.toks
 lt : s.i < s.toks.length
 pN : 0 ≤ N
structure Go1 (N : Int) (s s' : PS) : Prop where
 toks : s'.toks = s.toks
 off : s'.off = s.off
 deep : s'.deep = s.deep
 quiet : s'.quiet = s.quiet
 le : s.i ≤ s'.i
 lt : s'.i < s'.toks.length
 exs : ∀ e ∈ s'.ex,e ∈ s.ex ∨ (0 ≤ e.a ∧ e.a < N)
theorem Go1.trans {N : Int} {s s1 s2 : PS} (h : Go1 N s s1) (h' : Go1 N s1 s2) : Go1 N s s2 :=
 ⟨h'.toks.trans h.toks,h'.off.trans h.off,h'.deep.trans h.deep,h'.quiet.trans h.quiet,Nat.le_trans h.le h'.le,h'.lt,fun e he => (h'.exs e he).elim (h.exs e) .inr⟩
theorem Go1.refl {N : Int} {s : PS} (h : WS N s) : Go1 N s s := ⟨rfl,rfl,rfl,rfl,Nat.le_refl _,h.lt,fun _ he => .inl he⟩
theorem Go1.ws {N : Int} {s s' : PS} (h : Go1 N s s') (hs : WS N s) : WS N s' := ⟨by rw [h.toks,h.off]; exact hs.tg,h.lt,hs.pN⟩
theorem ws_frame {N : Int} {s : PS} (h : WS N s) (d : Nat) (q : Bool) : WS N { s with deep := d,quiet := q } := ⟨h.tg,h.lt,h.pN⟩
theorem lineRun_lt : ∀ {l : List Tok},l ≠ [] → (∀ t,l.getLast? = some t → t.k ≠ 5) → lineRun l < l.length
 | [],h,_ => absurd rfl h
 | [t],_,h => by
   have := h t rfl
   simp [lineRun,this]
 | t :: u :: r,_,h => by
   have ih := lineRun_lt (l := u :: r) (by simp) (fun x hx => h x (by simpa using hx))
   simp only [lineRun,List.length_cons] at ih ⊢
   split <;> omega
theorem TG.last {N off : Int} {l : List Tok} (h : TG N off l) {i : Nat} (hi : i < l.length) : lineRun (l.drop i) < l.length - i := by
 have hne : l.drop i ≠ [] := fun e => by have := congrArg List.length e; rw [List.length_drop,List.length_nil] at this; omega
 have := lineRun_lt hne fun t ht => by
   rw [List.getLast?_drop] at ht
   rw [if_neg (by omega)] at ht
   rw [List.getLast?_eq_getElem?] at ht
   have := (h.pos _ t ht).2.2.2.2.2 (by omega)
   omega
 rw [List.length_drop] at this
 exact this
theorem now_go {N : Int} {s : PS} (h : WS N s) : Go1 N s (nowS s) := by
 unfold nowS
 split
 · have := h.tg.last h.lt
   exact ⟨rfl,rfl,rfl,rfl,Nat.le_add_right _ _,(by show s.i + _ < s.toks.length; have := h.lt; omega),fun _ he => .inl he⟩
 · exact Go1.refl h
theorem tok_some {N : Int} {s : PS} (h : WS N s) : s.toks[s.i]? = some (tokI s) := by
 unfold tokI
 rw [List.getD_eq_getElem?_getD,List.getElem?_eq_getElem h.lt]
 rfl
theorem cur_pos {N : Int} {s : PS} (h : WS N s) : 0 ≤ (cur s).a ∧ (cur s).a ≤ N ∧ ((cur s).k ≠ 0 → (cur s).a < N) ∧ ((cur s).k = 3 → TextOk N (cur s).a (cur s).t) ∧ ((cur s).k = 1 → (cur s).t ≠ []) := by
 have hg := now_go h
 have hn := hg.ws h
 have h1 := hn.tg.pos _ _ (tok_some hn)
 rw [hg.off] at h1
 exact ⟨h1.1,h1.2.1,h1.2.2.1,h1.2.2.2.1,h1.2.2.2.2.1⟩
theorem step_go {N : Int} {s : PS} (h : WS N s) (hk : (cur s).k ≠ 0) : Go1 N s (step1 (nowS s)) ∧ s.i < (step1 (nowS s)).i := by
 have hg := now_go h
 have hn := hg.ws h
 have h1 := (hn.tg.pos _ _ (tok_some hn)).2.2.2.2.2
 have hlt : (nowS s).i + 1 < (nowS s).toks.length := by
   have := hn.lt
   by_cases he : (nowS s).i + 1 = (nowS s).toks.length
   · exact absurd (h1 he) hk
   · omega
 exact ⟨⟨hg.toks,hg.off,hg.deep,hg.quiet,Nat.le_trans hg.le (Nat.le_succ _),hlt,hg.exs⟩,Nat.lt_succ_of_le hg.le⟩
theorem now_now (s : PS) (h : ∀ k,s.quiet = true → k = lineRun (s.toks.drop s.i) → lineRun (s.toks.drop (s.i + k)) = 0) : nowS (nowS s) = nowS s := by
 unfold nowS
 split
 · rename_i hq
   have := h _ hq rfl
   simp only [hq,if_true,this,Nat.add_zero]
 · rfl
theorem lineRun_drop : ∀ (l : List Tok),lineRun (l.drop (lineRun l)) = 0
 | [] => rfl
 | t :: r => by
   simp only [lineRun]
   split
   · exact lineRun_drop r
   · rename_i h
     simp [lineRun,h]
theorem nowS_idem (s : PS) : nowS (nowS s) = nowS s := now_now s fun k _ hk => by rw [← List.drop_drop,hk]; exact lineRun_drop _
theorem cur_now (s : PS) : cur (nowS s) = cur s := by
 unfold cur
 rw [nowS_idem]
 have : (nowS s).off = s.off := by unfold nowS; split <;> rfl
 rw [this]
abbrev Later (N : Int) (s : PS) (s' : PS) : Prop := Go1 N s s' ∧ s.i < s'.i
abbrev InN (N : Int) (a : Int) : Prop := 0 ≤ a ∧ a ≤ N
theorem is_kind {s : PS} {w : Str} (h : isS s w = true) : (cur s).k ≠ 0 := by
 unfold isS at h
 simp only [Bool.and_eq_true,decide_eq_true_eq] at h
 rw [h.1]; decide
theorem take_go {N : Int} {s : PS} (h : WS N s) (w : Str) : Go1 N s (takeS s w).2 ∧ ((takeS s w).1 = true → s.i < (takeS s w).2.i) ∧ (takeS s w).2.ex = s.ex ∧ (takeS s w).2.bl = s.bl := by
 have e1 : (nowS s).ex = s.ex := by unfold nowS; split <;> rfl
 have e2 : (nowS s).bl = s.bl := by unfold nowS; split <;> rfl
 unfold takeS
 split
 · rename_i hi
   have := step_go h (is_kind hi)
   exact ⟨this.1,fun _ => this.2,e1,e2⟩
 · exact ⟨now_go h,(fun e => by cases e),e1,e2⟩
theorem now_ex (s : PS) : (nowS s).ex = s.ex ∧ (nowS s).bl = s.bl := by unfold nowS; split <;> exact ⟨rfl,rfl⟩
theorem want_sat {N : Int} {s : PS} (h : WS N s) (w : Str) : Sat (wantR s w) (fun _ s' => Later N s s' ∧ s'.ex = s.ex ∧ s'.bl = s.bl) (InN N) := by
 unfold wantR
 split
 · rename_i hi
   exact ⟨step_go h (is_kind hi),now_ex s⟩
 · have := cur_pos h
   exact ⟨this.1,this.2.1⟩
theorem next_go {N : Int} {s : PS} (h : WS N s) : Go1 N s (nextS s) ∧ ((cur s).k ≠ 0 → s.i < (nextS s).i) ∧ (nextS s).ex = s.ex ∧ (nextS s).bl = s.bl := by
 unfold nextS
 split
 · rename_i hk
   have := step_go h hk
   exact ⟨this.1,fun _ => this.2,now_ex s⟩
 · rename_i hk
   exact ⟨now_go h,fun e => absurd e hk,now_ex s⟩
theorem kind_sat {N : Int} {s : PS} (h : WS N s) (k : Int) (hk0 : k ≠ 0) : Sat (kindR s k) (fun t s' => Later N s s' ∧ s'.ex = s.ex ∧ s'.bl = s.bl ∧ t = cur s ∧ t.k = k) (InN N) := by
 unfold kindR
 split
 · rename_i hk
   have := next_go h
   exact ⟨⟨this.1,this.2.1 (by omega)⟩,this.2.2.1,this.2.2.2,rfl,hk⟩
 · have := cur_pos h
   exact ⟨this.1,this.2.1⟩
theorem lines_go {N : Int} {s : PS} (h : WS N s) : Go1 N s (linesS s) ∧ (linesS s).ex = s.ex ∧ (linesS s).bl = s.bl := by
 have hg := now_go h
 have hn := hg.ws h
 have h1 := hn.tg.last hn.lt
 rw [hg.toks] at h1
 have h2 := hn.lt
 rw [hg.toks] at h2
 refine ⟨⟨hg.toks,hg.off,hg.deep,hg.quiet,?_,?_,hg.exs⟩,now_ex s⟩
 · have := hg.le
   show s.i ≤ (nowS s).i + _
   omega
 · show (nowS s).i + _ < (nowS s).toks.length
   rw [hg.toks]
   omega
def EOk (N : Int) (F : PS → R Nat) : Prop := ∀ s,WS N s → Sat (F s) (fun x s' => Later N s s' ∧ s'.bl = s.bl ∧ ∀ roots,Forest (exL s.ex) roots → Forest (exL s'.ex) (x :: roots)) (InN N)
theorem put_sat {N : Int} {s : PS} (h : WS N s) {e : Ex} (ha : 0 ≤ e.a ∧ e.a < N) : Sat (putR s e) (fun x s' => Go1 N s s' ∧ s'.i = s.i ∧ s'.bl = s.bl ∧ ∀ roots,Forest (exL s.ex) (e.args ++ roots) → Forest (exL s'.ex) (x :: roots)) (InN N) :=
 ⟨⟨rfl,rfl,rfl,rfl,Nat.le_refl _,h.lt,fun x hx => by
   rcases List.mem_append.1 hx with hx | hx
   · exact .inl hx
   · rw [List.mem_singleton] at hx
     subst hx
     exact .inr ha⟩,rfl,rfl,fun _ hf => forest_put hf⟩
theorem within_sat {N : Int} {s : PS} (h : WS N s) {α : Type} {a : Int} (ha : InN N a) {q : Bool} {f : PS → R α} {P : α → PS → Prop} (hf : WS N { s with deep := s.deep + 1,quiet := q } → Sat (f { s with deep := s.deep + 1,quiet := q }) P (InN N)) :
   Sat (within s a q f) (fun x s' => ∃ s1,P x s1 ∧ s' = { s1 with deep := s.deep,quiet := s.quiet }) (InN N) := by
 unfold within
 split
 · exact ha
 · exact (hf (ws_frame h _ _)).bind fun x s1 h1 => ⟨s1,h1,rfl⟩
theorem Go1.back {N : Int} {s s1 : PS} {d : Nat} {q : Bool} (h : Go1 N { s with deep := d,quiet := q } s1) : Go1 N s { s1 with deep := s.deep,quiet := s.quiet } := ⟨h.toks,h.off,rfl,rfl,h.le,h.lt,h.exs⟩
end Go.Syn
namespace Go.Syn
open Go Go.Eng Go.Lex
theorem run_le (p : UInt8 → Bool) : ∀ s : Str,runM p s ≤ s.length
 | [] => Nat.le_refl _
 | c :: r => by
   have := run_le p r
   simp only [runM,List.length_cons]
   split <;> omega
theorem idx_len : ∀ (s : Str) (i : Nat),Lib.index s [42,47] = (i : Int) → i + 2 ≤ s.length
 | [],i,h => by
   unfold Lib.index at h
   simp at h
 | b :: l,i,h => by
   unfold Lib.index at h
   split at h
   · rename_i hp
     have hi : i = 0 := by omega
     subst hi
     cases l with
     | nil => simp [List.isPrefixOf] at hp
     | cons c l => simp
   · split at h
     · omega
     · rename_i hq
       have h1 : Lib.index l [42,47] ≠ -1 := by simpa using hq
       have hg := Lib.index_ge l [42,47]
       have := idx_len l (i - 1) (by omega)
       simp only [List.length_cons]
       omega
theorem pre_len {p s : Str} (h : preM p s = true) : p.length ≤ s.length := by
 unfold preM at h
 exact (List.isPrefixOf_iff_prefix.1 h).length_le
theorem skip_le : ∀ (n : Nat) (s : Str),(skipF n s).1 ≤ s.length
 | 0,_ => Nat.zero_le _
 | _ + 1,[] => Nat.zero_le _
 | n + 1,c :: r => by
   simp only [skipF]
   split
   · have := skip_le n r
     simp only [List.length_cons]
     omega
   split
   · have h1 := skip_le n ((c :: r).drop (runM (fun b => b != 10) (c :: r)))
     have h2 := run_le (fun b => b != 10) (c :: r)
     rw [List.length_drop] at h1
     simp only
     omega
   split
   · rename_i hp
     split
     · exact Nat.zero_le _
     · rename_i hi
       obtain ⟨i,hii⟩ := Int.eq_ofNat_of_zero_le (by omega : 0 ≤ Lib.index (r.drop 1) [42,47])
       have h1 := idx_len _ _ hii
       have h2 := skip_le n ((c :: r).drop ((Lib.index (r.drop 1) [42,47]).toNat + 4))
       rw [hii] at h2 ⊢
       rw [List.length_drop] at h1 h2
       simp only [List.length_cons,Int.toNat_natCast] at h2 ⊢
       omega
   · exact Nat.zero_le _
def noD : Str → Bool
 | [] => true
 | [c] => c != 92 && c != 36
 | c :: e :: r => if c = 92 then noD r else c != 36 && noD (e :: r)
theorem noD_ins : ∀ (n : Nat) (t : Str),t.length ≤ n → noD t = true → insP t = none
 | _,[],_,_ => rfl
 | _,[_],_,_ => rfl
 | 0,c :: e :: r,h,_ => by simp at h
 | n + 1,c :: e :: r,h,hd => by
   simp only [noD] at hd
   simp only [insP]
   simp only [List.length_cons] at h
   split
   · rename_i hc
     rw [if_pos hc] at hd
     rw [noD_ins n r (by omega) hd]
     rfl
   · rename_i hc
     rw [if_neg hc] at hd
     simp only [Bool.and_eq_true,bne_iff_ne,ne_eq] at hd
     rw [if_neg (fun e => hd.1 e.1),noD_ins n (e :: r) (by simp only [List.length_cons]; omega) hd.2]
     rfl
theorem noD_cons {c : UInt8} {r : Str} (h1 : c ≠ 92) (h2 : c ≠ 36) (h : noD r = true) : noD (c :: r) = true := by
 cases r with
 | nil => simp [noD,h1,h2]
 | cons e r => simp [noD,h1,h2,h]
theorem noD_esc {c : UInt8} {r : Str} (h : noD r = true) : noD (92 :: c :: r) = true := by simp [noD,h]
theorem noD_app : ∀ (n : Nat) (a b : Str),a.length ≤ n → noD a = true → noD b = true → noD (a ++ b) = true
 | _,[],b,_,_,hb => hb
 | 0,_ :: _,b,h,_,_ => by simp at h
 | _,[c],b,_,ha,hb => by
   simp only [noD,Bool.and_eq_true,bne_iff_ne,ne_eq] at ha
   exact noD_cons ha.1 ha.2 hb
 | n + 1,c :: e :: r,b,h,ha,hb => by
   simp only [noD] at ha
   simp only [List.length_cons] at h
   split at ha
   · rename_i hc
     subst hc
     exact noD_esc (noD_app n r b (by omega) ha hb)
   · rename_i hc
     simp only [Bool.and_eq_true,bne_iff_ne,ne_eq] at ha
     exact noD_cons hc ha.1 (noD_app n (e :: r) b (by simp only [List.length_cons]; omega) ha.2 hb)
theorem noD_line : ∀ s : Str,noD (hereL s) = true
 | [] => rfl
 | c :: r => by
   have ih := noD_line r
   simp only [hereL]
   split
   · exact noD_esc ih
   rename_i h1
   split
   · exact noD_esc ih
   split
   · exact noD_esc ih
   · simp only [Bool.or_eq_true,beq_iff_eq,not_or] at h1
     exact noD_cons h1.1.1 h1.2 ih
theorem here_ok : ∀ (n : Nat) (name s : Str) (t : Str) (k : Nat),hereF n name s = (t,k,0) → k ≤ s.length ∧ noD t = true
 | 0,_,_,_,_,h => by simp [hereF] at h
 | n + 1,name,s,t,k,h => by
   have hr := run_le (fun b => b != 10) s
   simp only [hereF] at h
   split at h
   · injection h with h1 h2
     injection h2 with h2 _
     subst h1 h2
     exact ⟨hr,rfl⟩
   split at h
   · cases h
   rename_i hlen
   split at h
   · rename_i he
     injection h with h1 h2
     injection h2 with h2 _
     obtain ⟨i1,i2⟩ := here_ok n name (s.drop (runM (fun b => b != 10) s + 1)) (hereF n name (s.drop (runM (fun b => b != 10) s + 1))).1 (hereF n name (s.drop (runM (fun b => b != 10) s + 1))).2.1 (Prod.ext rfl (Prod.ext rfl he))
     rw [List.length_drop] at i1
     subst h1 h2
     refine ⟨by omega,?_⟩
     refine noD_app _ _ _ (Nat.le_refl _) (noD_app _ _ _ (Nat.le_refl _) (noD_line _) rfl) i2
   · rename_i he
     injection h with _ h2
     injection h2 with _ h2
     exact absurd h2 he
theorem head_lt {s : Str} {m : Nat} {c : UInt8} (hm : (s.drop m).head? = some c) : m < s.length := by
 by_cases hl : m < s.length
 · exact hl
 · rw [List.drop_of_length_le (by omega)] at hm; cases hm
theorem heredoc_ok {s t : Str} {k : Nat} (h : heredocM s = (t,k,0)) : 1 ≤ k ∧ k ≤ s.length ∧ noD t = true := by
 unfold heredocM at h
 simp only at h
 generalize (if isLetter ((s.drop 2).headD 0) = true then runM isName (s.drop 2) else 0) = n at h
 split at h
 · cases h
 split at h
 · rename_i hh
   have hlt := head_lt hh
   generalize hH : hereF (s.length + 1) ((s.drop 2).take n) (s.drop (2 + n + 1)) = x at h
   obtain ⟨x1,x2,x3⟩ := x
   simp only at h
   split at h
   · rename_i he
     subst he
     injection h with h1 h2
     injection h2 with h2 _
     obtain ⟨i1,i2⟩ := here_ok _ _ _ _ _ hH
     rw [List.length_drop] at i1
     subst h1 h2
     exact ⟨by omega,by omega,i2⟩
   · rename_i he
     injection h with _ h2
     injection h2 with _ h2
     exact absurd h2 he
 · cases h
theorem one_ok {s : Str} {t : Tok} {k : Nat} (hs : s ≠ []) (h : oneM s = (t,k,0)) : 1 ≤ k ∧ k ≤ s.length ∧ t.k ≠ 0 ∧ t.a = 0 ∧ (t.k = 1 → t.t ≠ []) ∧ (t.k = 3 → insP t.t = none ∨ t.t.length + 2 ≤ k) := by
 obtain ⟨c,r,rfl⟩ : ∃ c r,s = c :: r := by
   cases s with
   | nil => exact absurd rfl hs
   | cons c r => exact ⟨c,r,rfl⟩
 unfold oneM at h
 simp only [List.headD_cons] at h
 split at h
 · injection h with h1 h2
   injection h2 with h2 _
   subst h1 h2
   simp
 split at h
 · rename_i hl
   injection h with h1 h2
   injection h2 with h2 h3
   have hp : 1 ≤ runM isName (c :: r) := by
     simp only [runM]
     rw [if_pos (by unfold isName; rw [hl]; rfl)]
     omega
   have := run_le isName (c :: r)
   subst h1 h2
   refine ⟨hp,this,by simp,rfl,fun _ => ?_,fun e => by simp at e⟩
   intro e
   have e := congrArg List.length e
   rw [List.length_take,List.length_nil] at e
   omega
 split at h
 · rename_i hl
   injection h with h1 h2
   injection h2 with h2 h3
   have hp : 1 ≤ runM isDigit (c :: r) := by
     simp only [runM]
     rw [if_pos hl]
     omega
   have := run_le isDigit (c :: r)
   subst h1 h2
   exact ⟨hp,this,by simp,rfl,fun e => by simp at e,fun e => by simp at e⟩
 split at h
 · split at h
   · rename_i he
     injection h with h1 h2
     injection h2 with h2 _
     have hx : textF ((c :: r).length + 1) ((c :: r).drop 1) 0 = textX r 0 := textF_x (by simp; omega)
     rw [hx] at he h1 h2
     obtain ⟨_,q2,q3⟩ := (ins_bra r.length r (Nat.le_refl _)).1 0 (textX r 0).1 (Prod.ext rfl he)
     subst h1 h2
     refine ⟨by omega,by simp only [List.length_cons]; omega,by simp,rfl,fun e => by simp at e,fun _ => .inr ?_⟩
     rw [List.length_take]
     simp only [List.drop_succ_cons,List.drop_zero]
     omega
   · rename_i he
     injection h with _ h2
     injection h2 with _ h2
     exact absurd h2 he
 split at h
 · injection h with h1 h2
   injection h2 with h2 h3
   obtain ⟨i1,i2,i3⟩ := heredoc_ok (s := c :: r) (t := (heredocM (c :: r)).1) (k := (heredocM (c :: r)).2.1) (Prod.ext rfl (Prod.ext rfl h3))
   subst h1 h2
   exact ⟨i1,i2,by simp,rfl,fun e => by simp at e,fun _ => .inl (noD_ins _ _ (Nat.le_refl _) i3)⟩
 · injection h with h1 h2
   injection h2 with h2 h3
   subst h1 h2
   split at h3
   · cases h3
   rename_i hz
   refine ⟨by omega,?_,by simp,rfl,fun e => by simp at e,fun e => by simp at e⟩
   unfold signM
   split
   · exact List.length_take_le' _ _
   · split
     · exact List.length_take_le' _ _
     · simp
theorem scanF_ok : ∀ (n : Nat) (s : Str) (a cnt : Nat) (l : List Tok),scanF n s a cnt = .ok l → TG ((a + s.length : Nat) : Int) 0 l
 | 0,_,_,_,_,h => by simp [scanF] at h
 | n + 1,s,a,cnt,l,h => by
   have hk := skip_le (s.length + 1) s
   simp only [scanF] at h
   split at h
   · cases h
   split at h
   · rename_i hr
     injection h with h
     subst h
     have : s.length ≤ (skipF (s.length + 1) s).1 := by
       have := congrArg List.length hr
       rw [List.length_drop,List.length_nil] at this
       omega
     refine ⟨by simp,fun i t ht => ?_⟩
     have hi : i = 0 := by
       by_cases h0 : i = 0
       · exact h0
       · rw [List.getElem?_eq_none (by simp; omega)] at ht; cases ht
     subst hi
     simp only [List.getElem?_cons_zero,Option.some.injEq] at ht
     subst ht
     refine ⟨by simp only; omega,by simp only; omega,fun e => absurd rfl e,fun e => by simp at e,fun e => by simp at e,fun _ => rfl⟩
   rename_i hr
   split at h
   · cases h
   rename_i ho
   split at h
   · cases h
   have hlen : s.length - (skipF (s.length + 1) s).1 = (s.drop (skipF (s.length + 1) s).1).length := (List.length_drop ..).symm
   obtain ⟨o1,o2,o3,o4,o5,o6⟩ := one_ok hr (Prod.ext rfl (Prod.ext rfl (Classical.not_not.1 ho)) : oneM (s.drop (skipF (s.length + 1) s).1) = ((oneM (s.drop (skipF (s.length + 1) s).1)).1,(oneM (s.drop (skipF (s.length + 1) s).1)).2.1,0))
   split at h
   · rename_i l' hl'
     injection h with h
     subst h
     have ih := scanF_ok n _ _ _ _ hl'
     rw [List.length_drop] at ih
     have eN : a + (skipF (s.length + 1) s).1 + (oneM (s.drop (skipF (s.length + 1) s).1)).2.1 + ((s.drop (skipF (s.length + 1) s).1).length - (oneM (s.drop (skipF (s.length + 1) s).1)).2.1) = a + s.length := by omega
     rw [eN] at ih
     refine ⟨by simp,fun i t ht => ?_⟩
     cases i with
     | zero =>
       simp only [List.getElem?_cons_zero,Option.some.injEq] at ht
       subst ht
       refine ⟨by simp only; omega,by simp only; omega,fun _ => by simp only; omega,fun e => ?_,fun e => o5 e,fun e => ?_⟩
       · rcases o6 e with h | h
         · exact .inl h
         · exact .inr (by simp only; omega)
       · simp only [List.length_cons] at e
         have := ih.ne
         exact absurd (List.eq_nil_of_length_eq_zero (by omega)) this
     | succ i =>
       simp only [List.getElem?_cons_succ] at ht
       have := ih.pos i t ht
       exact ⟨this.1,this.2.1,this.2.2.1,this.2.2.2.1,this.2.2.2.2.1,fun e => this.2.2.2.2.2 (by simp only [List.length_cons] at e; omega)⟩
   · rename_i hne
     exact absurd h (hne l)
theorem scanF_bad : ∀ (n : Nat) (s : Str) (a cnt : Nat) (c b : Int),scanF n s a cnt = .bad c b → 0 ≤ b ∧ b ≤ ((a + s.length : Nat) : Int)
 | 0,_,_,_,_,_,h => by
   simp only [scanF] at h
   injection h with _ h
   subst h
   omega
 | n + 1,s,a,cnt,c,b,h => by
   have hk := skip_le (s.length + 1) s
   simp only [scanF] at h
   split at h
   · injection h with _ h
     subst h
     omega
   split at h
   · cases h
   rename_i hr
   split at h
   · injection h with _ h
     subst h
     omega
   rename_i ho
   split at h
   · injection h with _ h
     subst h
     omega
   obtain ⟨o1,o2,_⟩ := one_ok hr (Prod.ext rfl (Prod.ext rfl (Classical.not_not.1 ho)) : oneM (s.drop (skipF (s.length + 1) s).1) = ((oneM (s.drop (skipF (s.length + 1) s).1)).1,(oneM (s.drop (skipF (s.length + 1) s).1)).2.1,0))
   rw [List.length_drop] at o2
   split at h
   · cases h
   · have ih := scanF_bad n _ _ _ c b h
     rw [List.length_drop,List.length_drop] at ih
     omega
theorem badF_le : ∀ (n : Nat) (s : Str) (i j : Nat),badF n s i = some j → j < s.length
 | 0,_,_,_,h => by simp [badF] at h
 | n + 1,s,i,j,h => by
   simp only [badF] at h
   split at h
   · cases h
   split at h
   · injection h with h
     omega
   · exact badF_le n s _ j h
theorem scan_tg {s : Str} {l : List Tok} (h : scanM s = .ok l) {N off : Int} (h0 : 0 ≤ off) (hN : off + s.length ≤ N) : TG N off l := by
 unfold scanM at h
 split at h
 · cases h
 split at h
 · cases h
 have := scanF_ok _ _ _ _ _ h
 refine ⟨this.ne,fun i t ht => ?_⟩
 obtain ⟨h1,h2,h3,h4,h5,h6⟩ := this.pos i t ht
 rw [Nat.zero_add] at h2 h3 h4
 rw [Int.add_zero] at h1 h2 h3 h4
 refine ⟨by omega,by omega,fun e => by have := h3 e; omega,fun e => ?_,h5,h6⟩
 rcases h4 e with h | h
 · exact .inl h
 · exact .inr (by omega)
theorem scan_bad {s : Str} {c b : Int} (h : scanM s = .bad c b) : 0 ≤ b ∧ b ≤ (s.length : Nat) := by
 unfold scanM at h
 split at h
 · injection h with _ h
   subst h
   omega
 split at h
 · rename_i i hi
   injection h with _ h
   subst h
   have := badF_le _ _ _ _ hi
   omega
 · have := scanF_bad _ _ _ _ _ _ h
   rw [Nat.zero_add] at this
   exact this
end Go.Syn
namespace Go.Syn
open Go Go.Eng Go.Lex
theorem bq_le : ∀ (N : Nat) (r : Str),r.length ≤ N → (∀ c,braX r c ≤ r.length) ∧ quoX r ≤ r.length := by
 intro N
 induction N with
 | zero =>
   intro r hr
   have : r = [] := List.eq_nil_of_length_eq_zero (by omega)
   subst this
   exact ⟨fun c => Nat.le_refl _,Nat.le_refl _⟩
 | succ N ih =>
   intro r hr
   cases r with
   | nil => exact ih [] (by simp)
   | cons c r =>
     simp only [List.length_cons] at hr
     have hr : r.length ≤ N := by omega
     have h1 := ih r hr
     refine ⟨fun d => ?_,?_⟩
     · rw [braX_cons]
       have h2 := (ih (r.drop (quoX r)) (drop_le _ hr)).1 d
       rw [List.length_drop] at h2
       have h3 := h1.1 (d + 1)
       have h4 := h1.1 (d - 1)
       have h5 := h1.1 d
       have h6 := h1.2
       simp only [List.length_cons]
       (repeat' split) <;> omega
     · rw [quoX_cons]
       have h2 := (ih (r.drop (braX r 0)) (drop_le _ hr)).2
       rw [List.length_drop] at h2
       have h3 := h1.1 0
       have h6 := h1.2
       cases r with
       | nil =>
         simp only [List.length_cons,List.length_nil] at *
         (repeat' split) <;> omega
       | cons e r' =>
         have h7 := (ih r' (by simp only [List.length_cons] at hr; omega)).2
         simp only [List.length_cons] at *
         (repeat' split) <;> omega
theorem braX_le (r : Str) (c : Int) : braX r c ≤ r.length := (bq_le r.length r (Nat.le_refl _)).1 c
theorem ins_some : ∀ (n : Nat) (t : Str),t.length ≤ n → ∀ i e,insP t = some (i,e) → i + 2 ≤ t.length ∧ i + 1 ≤ e ∧ e ≤ t.length
 | _,[],_,i,e,h => by simp [insP] at h
 | _,[_],_,i,e,h => by simp [insP] at h
 | 0,_ :: _ :: _,h,_,_,_ => by simp at h
 | n + 1,c :: x :: r,hn,i,e,h => by
   simp only [List.length_cons] at hn
   simp only [insP] at h
   split at h
   · cases hr : insP r with
     | none => rw [hr] at h; cases h
     | some y =>
       rw [hr] at h
       simp only [Option.map_some,Option.some.injEq,Prod.mk.injEq] at h
       obtain ⟨rfl,rfl⟩ := h
       have := ins_some n r (by omega) y.1 y.2 hr
       simp only [List.length_cons]
       omega
   split at h
   · simp only [Option.some.injEq,Prod.mk.injEq] at h
     obtain ⟨rfl,rfl⟩ := h
     have := braX_le (x :: r) 0
     have e1 : braM (x :: r) = braX (x :: r) 0 := rfl
     rw [e1]
     simp only [List.length_cons] at this ⊢
     omega
   · cases hr : insP (x :: r) with
     | none => rw [hr] at h; cases h
     | some y =>
       rw [hr] at h
       simp only [Option.map_some,Option.some.injEq,Prod.mk.injEq] at h
       obtain ⟨rfl,rfl⟩ := h
       have := ins_some n (x :: r) (by simp only [List.length_cons]; omega) y.1 y.2 hr
       simp only [List.length_cons] at this ⊢
       omega
section
variable {N : Int} {E S : PS → R Nat}
theorem inner_sat (hE : EOk N E) {s : PS} (h : WS N s) {t : Str} {a : Int} (h0 : 0 ≤ a) (h1 : a + t.length ≤ N) : Sat (innerR E s t a) (fun x s' => Go1 N s s' ∧ s'.bl = s.bl ∧ ∀ roots,Forest (exL s.ex) roots → Forest (exL s'.ex) (x :: roots)) (InN N) := by
 unfold innerR
 split
 · rename_i c b hs
   have := scan_bad hs
   exact ⟨by omega,by omega⟩
 · rename_i l hs
   have htg := scan_tg hs h0 h1
   have hw : WS N ⟨l,0,a,s.deep,false,s.ex,s.bl⟩ := ⟨htg,List.length_pos_iff.2 htg.ne,h.pN⟩
   refine (hE _ hw).bind fun x q ⟨⟨hg,_⟩,hb,hf⟩ => ?_
   have hq := hg.ws hw
   unfold kindR
   split
   · refine ⟨⟨rfl,rfl,rfl,rfl,Nat.le_refl _,h.lt,fun e he => ?_⟩,?_,fun roots hr => ?_⟩
     · have : e ∈ (nextS q).ex := he
       rw [(next_go hq).2.2.1] at this
       exact hg.exs e this
     · show (nextS q).bl = s.bl
       rw [(next_go hq).2.2.2]; exact hb
     · show Forest (exL (nextS q).ex) _
       rw [(next_go hq).2.2.1]; exact hf roots hr
   · have := cur_pos hq
     exact ⟨this.1,this.2.1⟩
theorem plain_sat {s : PS} (h : WS N s) {t : Tok} (ht : InN N t.a) : Sat (plainR s t) (fun _ s' => s' = s) (InN N) := by
 unfold plainR
 split
 · exact ht
 · rfl
theorem parts_sat (hE : EOk N E) : ∀ (n : Nat) (s : PS) (rest : Str) (a : Int) (us : List Nat) (ks : List Str),WS N s → 0 ≤ a → a + rest.length + 1 ≤ N →
   Sat (partsF E n s rest a us ks) (fun x s' => Go1 N s s' ∧ s'.bl = s.bl ∧ ∀ roots,Forest (exL s.ex) (us ++ roots) → Forest (exL s'.ex) (x.1 ++ roots)) (InN N)
 | 0,s,_,_,_,_,h,_,_ => ⟨Int.le_refl _,h.pN⟩
 | n + 1,s,rest,a,us,ks,h,h0,h1 => by
   have one : ∀ (e : Ex),e.args = [] → 0 ≤ e.a → e.a < N → Go1 N s { s with ex := s.ex ++ [e] } ∧ ∀ roots,Forest (exL s.ex) (us ++ roots) → Forest (exL (s.ex ++ [e])) ((us ++ [s.ex.length]) ++ roots) := fun e he h2 h3 =>
     ⟨⟨rfl,rfl,rfl,rfl,Nat.le_refl _,h.lt,fun x hx => by
       rcases List.mem_append.1 hx with hx | hx
       · exact .inl hx
       · rw [List.mem_singleton] at hx; subst hx; exact .inr ⟨h2,h3⟩⟩,
      fun roots hf => by
       have := forest_put (e := e) (roots := us ++ roots) (by rw [he]; exact hf)
       refine this.perm ?_
       rw [List.append_assoc]
       exact (List.perm_middle).symm⟩
   simp only [partsF]
   split
   · exact ⟨Go1.refl h,rfl,fun _ hf => hf⟩
   split
   · have := one ⟨5,saysM rest,[],[],a⟩ rfl h0 (by show a < N; omega)
     exact ⟨this.1,rfl,this.2⟩
   · rename_i i e hi
     obtain ⟨i1,i2,i3⟩ := ins_some rest.length rest (Nat.le_refl _) i e hi
     have hs1 : ∃ s1 as1,s1 = (if 0 < i then { s with ex := s.ex ++ [⟨5,saysM (rest.take i),[],[],a⟩] } else s) ∧ as1 = (if 0 < i then us ++ [s.ex.length] else us) ∧ Go1 N s s1 ∧ s1.bl = s.bl ∧ ∀ roots,Forest (exL s.ex) (us ++ roots) → Forest (exL s1.ex) (as1 ++ roots) := by
       refine ⟨_,_,rfl,rfl,?_⟩
       split
       · have := one ⟨5,saysM (rest.take i),[],[],a⟩ rfl h0 (by show a < N; omega)
         exact ⟨this.1,rfl,this.2⟩
       · exact ⟨Go1.refl h,rfl,fun _ hf => hf⟩
     obtain ⟨s1,as1,e1,e2,g1,b1,f1⟩ := hs1
     rw [← e1,← e2]
     have hw1 := g1.ws h
     have hd : ((rest.drop e).length : Int) = rest.length - e := by rw [List.length_drop]; omega
     split
     · refine Sat.bind (within_sat hw1 (a := a + i) ⟨by omega,by omega⟩ (P := fun x s' => Go1 N { s1 with deep := s1.deep + 1,quiet := false } s' ∧ s'.bl = s1.bl ∧ ∀ roots,Forest (exL s1.ex) roots → Forest (exL s'.ex) (x :: roots)) fun hw => inner_sat hE hw (by omega) ?_) fun x s2 ⟨q,⟨g2,b2,f2⟩,e3⟩ => ?_
       · rw [List.length_take,List.length_drop]
         omega
       · subst e3
         have g2' := g2.back
         refine Sat.mono (parts_sat hE n _ (rest.drop e) (a + e) (as1 ++ [x]) _ ((g2').ws hw1) (by omega) (by rw [hd]; omega)) fun y s3 ⟨g3,b3,f3⟩ => ⟨g1.trans (g2'.trans g3),b3.trans (b2.trans b1),fun roots hf => f3 roots ?_⟩
         have := f2 _ (f1 roots hf)
         refine this.perm ?_
         rw [List.append_assoc]
         exact (List.perm_middle).symm
     · refine Sat.mono (parts_sat hE n s1 (rest.drop e) (a + e) as1 _ hw1 (by omega) (by rw [hd]; omega)) fun y s3 ⟨g3,b3,f3⟩ => ⟨g1.trans g3,b3.trans b1,fun roots hf => f3 roots (f1 roots hf)⟩
theorem text_sat (hE : EOk N E) {s : PS} (h : WS N s) {t : Tok} (ha : 0 ≤ t.a ∧ t.a < N) (ht : TextOk N t.a t.t) : Sat (textR E s t) (fun x s' => Go1 N s s' ∧ s'.bl = s.bl ∧ ∀ roots,Forest (exL s.ex) roots → Forest (exL s'.ex) (x :: roots)) (InN N) := by
 unfold textR
 split
 · rename_i hi
   have ht : t.a + t.t.length + 2 ≤ N := ht.resolve_left fun e => by rw [e] at hi; cases hi
   refine (parts_sat hE (t.t.length + 1) s t.t (t.a + 1) [] [] h (by omega) (by omega)).bind fun x s1 ⟨g1,b1,f1⟩ => ?_
   refine (put_sat (g1.ws h) (e := ⟨6,[],x.1,x.2,t.a⟩) ha).mono fun y s2 ⟨g2,_,b2,f2⟩ => ⟨g1.trans g2,b2.trans b1,fun roots hf => f2 roots (f1 roots hf)⟩
 · exact (put_sat h (e := ⟨5,saysM t.t,[],[],t.a⟩) ha).mono fun y s2 ⟨g2,_,b2,f2⟩ => ⟨g2,b2,fun roots hf => f2 roots hf⟩
theorem args_sat (hE : EOk N E) (w : Str) : ∀ (n : Nat) (s : PS) (out : List Nat),WS N s →
   Sat (argsF E w n s out) (fun x s' => Later N s s' ∧ s'.bl = s.bl ∧ ∀ roots,Forest (exL s.ex) (out ++ roots) → Forest (exL s'.ex) (x ++ roots)) (InN N)
 | 0,s,_,h => ⟨Int.le_refl _,h.pN⟩
 | n + 1,s,out,h => by
   have step : ∀ {s1 : PS},Go1 N s s1 → s1.ex = s.ex → s1.bl = s.bl → Sat ((E s1).bind fun x s' => argsF E w n s' (out ++ [x])) (fun x s' => Later N s s' ∧ s'.bl = s.bl ∧ ∀ roots,Forest (exL s.ex) (out ++ roots) → Forest (exL s'.ex) (x ++ roots)) (InN N) := fun {s1} g1 x1 b1 => by
     refine (hE s1 (g1.ws h)).bind fun x s2 ⟨g2,b2,f2⟩ => ?_
     refine Sat.mono (args_sat hE w n s2 (out ++ [x]) (g2.1.ws (g1.ws h))) fun y s3 ⟨g3,b3,f3⟩ => ⟨⟨g1.trans (g2.1.trans g3.1),by have := g1.le; have := g2.2; have := g3.2; omega⟩,b3.trans (b2.trans b1),fun roots hf => f3 roots ?_⟩
     have := f2 _ (by rw [x1]; exact hf)
     refine this.perm ?_
     rw [List.append_assoc]
     exact (List.perm_middle).symm
   have t1 := take_go h w
   simp only [argsF]
   split
   · rename_i ht
     exact ⟨⟨t1.1,t1.2.1 ht⟩,t1.2.2.2,fun roots hf => by rw [t1.2.2.1]; exact hf⟩
   split
   · rename_i ho
     have := step t1.1 t1.2.2.1 t1.2.2.2
     exact this
   · refine (want_sat (t1.1.ws h) [44]).bind fun _ s1 ⟨g1,x1,b1⟩ => ?_
     have g01 := t1.1.trans g1.1
     have t2 := take_go (g01.ws h) w
     split
     · rename_i ht
       exact ⟨⟨g01.trans t2.1,by have := t1.1.le; have := g1.2; have := t2.1.le; omega⟩,t2.2.2.2.trans (b1.trans t1.2.2.2),fun roots hf => by rw [t2.2.2.1,x1,t1.2.2.1]; exact hf⟩
     · exact step (g01.trans t2.1) (t2.2.2.1.trans (x1.trans t1.2.2.1)) (t2.2.2.2.trans (b1.trans t1.2.2.2))
theorem argsR_sat (hE : EOk N E) (w : Str) {s : PS} (h : WS N s) : Sat (argsR E w s) (fun x s' => Later N s s' ∧ s'.bl = s.bl ∧ ∀ roots,Forest (exL s.ex) roots → Forest (exL s'.ex) (x ++ roots)) (InN N) :=
 (args_sat hE w _ s [] h).mono fun x s' ⟨g,b,f⟩ => ⟨g,b,fun roots hf => f roots hf⟩
theorem list_sat (hE : EOk N E) {s : PS} (h : WS N s) (hk : (cur s).k ≠ 0) (hq : nowS s = s) {a : Int} (ha : 0 ≤ a ∧ a < N) : Sat (listR E s a) (fun e s' => Later N s s' ∧ s'.bl = s.bl ∧ (0 ≤ e.a ∧ e.a < N) ∧ ∀ roots,Forest (exL s.ex) roots → Forest (exL s'.ex) (e.args ++ roots)) (InN N) := by
 have hs := step_go h hk
 rw [hq] at hs
 have hw := hs.1.ws h
 have hn := now_go hw
 have ex1 : (nowS (step1 s)).ex = s.ex := (now_ex _).1
 have bl1 : (nowS (step1 s)).bl = s.bl := (now_ex _).2
 unfold listR
 simp only
 split
 · refine (argsR_sat hE [93] (hn.ws hw)).bind fun us s1 ⟨g1,b1,f1⟩ => ?_
   exact ⟨⟨hs.1.trans (hn.trans g1.1),by have := hs.2; have := hn.le; have := g1.2; omega⟩,b1.trans bl1,ha,fun roots hf => f1 roots (by rw [ex1]; exact hf)⟩
 · rename_i hc
   have hk1 : (cur (step1 s)).k ≠ 0 := fun e => hc (.inl (by rw [e]; decide))
   have h2 := step_go hw hk1
   refine (kind_sat (h2.1.ws hw) 1 (by decide)).bind fun t s2 ⟨g2,x2,b2,_⟩ => ?_
   have hw2 := g2.1.ws (h2.1.ws hw)
   refine (kind_sat hw2 1 (by decide)).bind fun u s3 ⟨g3,x3,b3,hu,_⟩ => ?_
   have hw3 := g3.1.ws hw2
   split
   · have := cur_pos hw2
     rw [hu]
     exact ⟨this.1,this.2.1⟩
   refine (hE s3 hw3).bind fun x s4 ⟨g4,b4,f4⟩ => ?_
   have hw4 := g4.1.ws hw3
   refine (want_sat hw4 [58]).bind fun _ s5 ⟨g5,x5,b5⟩ => ?_
   have hw5 := g5.1.ws hw4
   refine (hE s5 hw5).bind fun y s6 ⟨g6,b6,f6⟩ => ?_
   have hw6 := g6.1.ws hw5
   refine (want_sat hw6 [93]).bind fun _ s7 ⟨g7,x7,b7⟩ => ?_
   have e01 : (step1 (nowS (step1 s))).ex = s.ex := ex1
   have e02 : (step1 (nowS (step1 s))).bl = s.bl := bl1
   refine ⟨⟨hs.1.trans (h2.1.trans (g2.1.trans (g3.1.trans (g4.1.trans (g5.1.trans (g6.1.trans g7.1)))))),by have := hs.2; have := h2.2; have := g2.2; have := g3.2; have := g4.2; have := g5.2; have := g6.2; have := g7.2; omega⟩,
     b7.trans (b6.trans (b5.trans (b4.trans (b3.trans (b2.trans e02))))),ha,fun roots hf => ?_⟩
   rw [x7]
   have h1 := f4 roots (by rw [x3,x2,e01]; exact hf)
   have h2 := f6 _ (by rw [x5]; exact h1)
   exact h2.perm (List.Perm.swap _ _ _)
theorem obj_sat (hE : EOk N E) {a : Int} (ha : 0 ≤ a ∧ a < N) : ∀ (n : Nat) (s : PS) (us : List Nat) (ks : List Str),WS N s →
   Sat (objF E a n s us ks) (fun e s' => Later N s s' ∧ s'.bl = s.bl ∧ (0 ≤ e.a ∧ e.a < N) ∧ ∀ roots,Forest (exL s.ex) (us ++ roots) → Forest (exL s'.ex) (e.args ++ roots)) (InN N)
 | 0,s,_,_,h => ⟨Int.le_refl _,h.pN⟩
 | n + 1,s,us,ks,h => by
   have t1 := take_go h [125]
   simp only [objF]
   split
   · rename_i ht
     exact ⟨⟨t1.1,t1.2.1 ht⟩,t1.2.2.2,ha,fun roots hf => by rw [t1.2.2.1]; exact hf⟩
   have hw1 := t1.1.ws h
   have n1 := next_go hw1
   have hw2 := n1.1.ws hw1
   have hc := cur_pos hw1
   have hca : InN N (cur (takeS s [125]).2).a := ⟨hc.1,hc.2.1⟩
   refine Sat.bind (P := fun _ s3 => s3 = nextS (takeS s [125]).2 ∧ (cur (takeS s [125]).2).k ≠ 0) ?_ fun k s3 ⟨e3,hk0⟩ => ?_
   · split
     · rename_i hk
       exact (plain_sat hw2 hca).mono fun _ s3 e => ⟨e,by rw [hk]; decide⟩
     · split
       · rename_i hk
         exact ⟨rfl,by rw [hk]; decide⟩
       · exact hca
   subst e3
   split
   · exact hca
   refine (want_sat hw2 [61]).bind fun _ s4 ⟨g4,x4,b4⟩ => ?_
   have hw4 := g4.1.ws hw2
   refine (hE s4 hw4).bind fun x s5 ⟨g5,b5,f5⟩ => ?_
   have hw5 := g5.1.ws hw4
   have t5 := take_go hw5 [44]
   have hw6 := t5.1.ws hw5
   have n6 := now_go hw6
   have g05 := t1.1.trans (n1.1.trans (g4.1.trans (g5.1.trans t5.1)))
   split
   · have := cur_pos (n6.ws hw6)
     exact ⟨this.1,this.2.1⟩
   have l6 : ∃ s6,s6 = (if (takeS s5 [44]).1 = true then (takeS s5 [44]).2 else nowS (takeS s5 [44]).2) ∧ Go1 N (takeS s5 [44]).2 s6 ∧ s6.ex = (takeS s5 [44]).2.ex ∧ s6.bl = (takeS s5 [44]).2.bl := by
     refine ⟨_,rfl,?_⟩
     split
     · exact ⟨Go1.refl hw6,rfl,rfl⟩
     · exact ⟨n6,(now_ex _).1,(now_ex _).2⟩
   obtain ⟨s6,e6,g6,x6,b6⟩ := l6
   rw [← e6]
   have hw7 := g6.ws hw6
   have l7 := lines_go hw7
   refine Sat.mono (obj_sat hE ha n (linesS s6) (us ++ [x]) (ks ++ [k]) (l7.1.ws hw7)) fun e s8 ⟨g8,b8,ha8,f8⟩ => ⟨⟨g05.trans (g6.trans (l7.1.trans g8.1)),by have := g05.le; have := g6.le; have := l7.1.le; have := g8.2; omega⟩,
     b8.trans (l7.2.2.trans (b6.trans (t5.2.2.2.trans (b5.trans (b4.trans (n1.2.2.2.trans t1.2.2.2)))))),ha8,fun roots hf => f8 roots ?_⟩
   rw [l7.2.1,x6,t5.2.2.1]
   have := f5 (us ++ roots) (by rw [x4,n1.2.2.1,t1.2.2.1]; exact hf)
   refine this.perm ?_
   rw [List.append_assoc]
   exact (List.perm_middle).symm
end
end Go.Syn
namespace Go.Syn
open Go Go.Eng Go.Lex
theorem _root_.And.tr {N : Int} {s s1 s2 : PS} (h : Later N s s1) (h' : Later N s1 s2) : Later N s s2 := ⟨h.1.trans h'.1,Nat.lt_trans h.2 h'.2⟩
theorem Go1.tr {N : Int} {s s1 s2 : PS} (h : Go1 N s s1) (h' : Later N s1 s2) : Later N s s2 := ⟨h.trans h'.1,Nat.lt_of_le_of_lt h.le h'.2⟩
section
variable {N : Int} {E S : PS → R Nat}
theorem run_here {l : List Tok} {i : Nat} {t : Tok} (h : l[i]? = some t) (hk : t.k ≠ 5) : lineRun (l.drop i) = 0 := by
 have hlt := (List.getElem?_eq_some_iff.1 h).1
 rw [List.drop_eq_getElem_cons hlt]
 have : l[i] = t := (List.getElem?_eq_some_iff.1 h).2
 simp [lineRun,this,hk]
theorem now_here {N : Int} {s : PS} (h : WS N s) (hk : (tokI s).k ≠ 5) : nowS s = s := by
 unfold nowS
 split
 · rw [run_here (tok_some h) hk]
   rfl
 · rfl
theorem sign_here {N : Int} {s : PS} (h : WS N s) {w : Str} (hi : isS s w = true) (d : Nat) (q : Bool) : nowS { nowS s with deep := d,quiet := q } = { nowS s with deep := d,quiet := q } ∧ (cur { nowS s with deep := d,quiet := q }).k ≠ 0 ∧ (cur { nowS s with deep := d,quiet := q }).a = (cur s).a := by
 have hw := (now_go h).ws h
 have hk : (tokI (nowS s)).k = 4 := by
   unfold isS cur at hi
   simp only [Bool.and_eq_true,decide_eq_true_eq] at hi
   exact hi.1
 have e1 : nowS { nowS s with deep := d,quiet := q } = { nowS s with deep := d,quiet := q } := now_here (ws_frame hw d q) (by show (tokI (nowS s)).k ≠ 5; rw [hk]; decide)
 have e2 : (nowS s).off = s.off := by unfold nowS; split <;> rfl
 refine ⟨e1,?_,?_⟩
 · unfold cur
   rw [e1]
   show (tokI (nowS s)).k ≠ 0
   rw [hk]; decide
 · unfold cur
   rw [e1]
   show (tokI (nowS s)).a + (nowS s).off = (tokI (nowS s)).a + s.off
   rw [e2]
abbrev Leaves (N : Int) (s : PS) (x : Nat) (s' : PS) : Prop := Later N s s' ∧ s'.bl = s.bl ∧ ∀ roots,Forest (exL s.ex) roots → Forest (exL s'.ex) (x :: roots)
theorem put_later {s s1 : PS} (h : WS N s) (hg : Later N s s1) (hb : s1.bl = s.bl) {e : Ex} (ha : 0 ≤ e.a ∧ e.a < N) (hf : ∀ roots,Forest (exL s.ex) roots → Forest (exL s1.ex) (e.args ++ roots)) : Sat (putR s1 e) (Leaves N s) (InN N) :=
 (put_sat (hg.1.ws h) ha).mono fun x s2 ⟨g2,i2,b2,f2⟩ => ⟨⟨hg.1.trans g2,by have := hg.2; rw [i2]; exact this⟩,b2.trans hb,fun roots hr => f2 roots (hf roots hr)⟩
theorem atom_sat (hE : EOk N E) : EOk N (atomR E) := by
 intro s h
 have n1 := now_go h
 have hw1 := n1.ws h
 have hc := cur_pos h
 have x1 := now_ex s
 unfold atomR
 simp only
 split
 · rename_i hk
   have h2 := step_go h (by rw [hk]; decide)
   exact put_later h h2 x1.2 (e := ⟨4,(cur s).t,[],[],(cur s).a⟩) ⟨hc.1,hc.2.2.1 (by rw [hk]; decide)⟩ fun roots hr => by show Forest (exL (nowS s).ex) _; rw [x1.1]; exact hr
 split
 · rename_i hk
   have h2 := step_go h (by rw [hk]; decide)
   refine (text_sat hE (h2.1.ws h) (t := cur s) ⟨hc.1,hc.2.2.1 (by rw [hk]; decide)⟩ (hc.2.2.2.1 hk)).mono fun x s2 ⟨g2,b2,f2⟩ => ⟨⟨h2.1.trans g2,by have := h2.2; have := g2.le; omega⟩,b2.trans x1.2,fun roots hr => f2 roots (by show Forest (exL (nowS s).ex) _; rw [x1.1]; exact hr)⟩
 split
 · rename_i hk
   have hk0 : (cur s).k ≠ 0 := by rw [hk.1]; decide
   have h2 := step_go h hk0
   have hw2 := h2.1.ws h
   have n2 := now_go hw2
   have hw3 := n2.ws hw2
   have hat : 0 ≤ (cur s).a ∧ (cur s).a < N := ⟨hc.1,hc.2.2.1 hk0⟩
   split
   · rename_i hi
     have hc2 := cur_pos hw2
     refine Sat.bind (within_sat hw3 (a := (cur (step1 (nowS s))).a) (q := true) ⟨hc2.1,hc2.2.1⟩ (P := fun us s' => Later N { nowS (step1 (nowS s)) with deep := (nowS (step1 (nowS s))).deep + 1,quiet := true } s' ∧ s'.bl = s.bl ∧ ∀ roots,Forest (exL s.ex) roots → Forest (exL s'.ex) (us ++ roots)) fun hw => ?_) fun us s2 ⟨q,⟨g2,b2,f2⟩,e2⟩ => ?_
     · have hh := sign_here hw2 hi ((nowS (step1 (nowS s))).deep + 1) true
       have h4 := step_go hw hh.2.1
       rw [hh.1] at h4
       exact (argsR_sat hE [41] (h4.1.ws hw)).mono fun us s' ⟨g,b,f⟩ => ⟨h4.tr g,b.trans ((now_ex _).2.trans x1.2),fun roots hr => f roots (by show Forest (exL (nowS (step1 (nowS s))).ex) _; rw [(now_ex _).1]; show Forest (exL (nowS s).ex) _; rw [x1.1]; exact hr)⟩
     · subst e2
       have g2' := g2.1.back
       refine put_later h ⟨h2.1.trans (n2.trans g2'),?_⟩ b2 (e := ⟨12,(cur s).t,us,[],(cur s).a⟩) hat f2
       have := h2.2; have := n2.le; have := g2'.le
       omega
   · exact put_later h ⟨h2.1.trans n2,by have := h2.2; have := n2.le; omega⟩ ((now_ex _).2.trans x1.2) (e := ⟨namedK (cur s).t,if namedK (cur s).t = 9 then (cur s).t else [],[],[],(cur s).a⟩) hat fun roots hr => by rw [(now_ex _).1]; show Forest (exL (nowS s).ex) _; rw [x1.1]; exact hr
 have hca : InN N (cur s).a := ⟨hc.1,hc.2.1⟩
 have is_now : ∀ w,isS (nowS s) w = isS s w := fun w => by unfold isS; rw [cur_now]
 split
 · rename_i hi
   rw [is_now] at hi
   refine (within_sat hw1 (a := (cur s).a) (q := true) hca (P := fun x s' => Later N { nowS s with deep := (nowS s).deep + 1,quiet := true } s' ∧ s'.bl = s.bl ∧ ∀ roots,Forest (exL s.ex) roots → Forest (exL s'.ex) (x :: roots)) fun hw => ?_).mono fun x s2 ⟨q,⟨g2,b2,f2⟩,e2⟩ => ?_
   · have hh := sign_here h hi ((nowS s).deep + 1) true
     have h4 := step_go hw hh.2.1
     rw [hh.1] at h4
     refine (hE _ (h4.1.ws hw)).bind fun x q1 ⟨g1,b1,f1⟩ => ?_
     refine (want_sat (g1.1.ws (h4.1.ws hw)) [41]).bind fun _ q2 ⟨g2,e2,b2⟩ => ?_
     refine ⟨h4.tr (g1.tr g2),b2.trans (b1.trans x1.2),fun roots hr => ?_⟩
     rw [e2]
     exact f1 roots (by show Forest (exL (nowS s).ex) _; rw [x1.1]; exact hr)
   · subst e2
     have g2' := g2.1.back
     exact ⟨⟨n1.trans g2',by have := n1.le; have := g2.2; show s.i < q.i; simp only at this; omega⟩,b2,f2⟩
 split
 · rename_i hi
   rw [is_now] at hi
   refine Sat.bind (within_sat hw1 (a := (cur s).a) (q := true) hca (P := fun (e : Ex) s' => Later N { nowS s with deep := (nowS s).deep + 1,quiet := true } s' ∧ s'.bl = s.bl ∧ (0 ≤ e.a ∧ e.a < N) ∧ ∀ roots,Forest (exL s.ex) roots → Forest (exL s'.ex) (e.args ++ roots)) fun hw => ?_) fun e s2 ⟨q,⟨g2,b2,a2,f2⟩,e2⟩ => ?_
   · have hh := sign_here h hi ((nowS s).deep + 1) true
     refine (list_sat hE hw hh.2.1 hh.1 ⟨hc.1,hc.2.2.1 (is_kind hi)⟩).mono fun e s' ⟨g,b,a,f⟩ => ⟨g,b.trans x1.2,a,fun roots hr => f roots (by show Forest (exL (nowS s).ex) _; rw [x1.1]; exact hr)⟩
   · subst e2
     have g2' := g2.1.back
     exact put_later h ⟨n1.trans g2',by have := n1.le; have := g2.2; show s.i < q.i; simp only at this; omega⟩ b2 a2 f2
 split
 · rename_i hi
   rw [is_now] at hi
   refine Sat.bind (within_sat hw1 (a := (cur s).a) (q := false) hca (P := fun (e : Ex) s' => Later N { nowS s with deep := (nowS s).deep + 1,quiet := false } s' ∧ s'.bl = s.bl ∧ (0 ≤ e.a ∧ e.a < N) ∧ ∀ roots,Forest (exL s.ex) roots → Forest (exL s'.ex) (e.args ++ roots)) fun hw => ?_) fun e s2 ⟨q,⟨g2,b2,a2,f2⟩,e2⟩ => ?_
   · have hh := sign_here h hi ((nowS s).deep + 1) false
     have h4 := step_go hw hh.2.1
     rw [hh.1] at h4
     have l4 := lines_go (h4.1.ws hw)
     unfold objR
     refine (obj_sat hE ⟨hc.1,hc.2.2.1 (is_kind hi)⟩ _ _ [] [] (l4.1.ws (h4.1.ws hw))).mono fun e s' ⟨g,b,a,f⟩ => ⟨h4.tr (Go1.tr l4.1 g),b.trans (l4.2.2.trans x1.2),a,fun roots hr => f roots (by rw [l4.2.1]; show Forest (exL (nowS s).ex) _; rw [x1.1]; exact hr)⟩
   · subst e2
     have g2' := g2.1.back
     exact put_later h ⟨n1.trans g2',by have := n1.le; have := g2.2; show s.i < q.i; simp only at this; omega⟩ b2 a2 f2
 · exact hca
abbrev Grows (N : Int) (s : PS) (x : Nat) (y : Nat) (s' : PS) : Prop := Go1 N s s' ∧ s'.bl = s.bl ∧ ∀ roots,Forest (exL s.ex) (x :: roots) → Forest (exL s'.ex) (y :: roots)
theorem post_satF (hE : EOk N E) : ∀ (n : Nat) (s : PS) (x : Nat),WS N s → Sat (postF E n s x) (Grows N s x) (InN N)
 | 0,s,_,h => ⟨Int.le_refl _,h.pN⟩
 | n + 1,s,x,h => by
   have n1 := now_go h
   have hw1 := n1.ws h
   have hc := cur_pos h
   have x1 := now_ex s
   have is_now : ∀ w,isS (nowS s) w = isS s w := fun w => by unfold isS; rw [cur_now]
   have hca : InN N (cur s).a := ⟨hc.1,hc.2.1⟩
   have more : ∀ {s2 : PS} {e : Ex},Go1 N s s2 → s2.bl = s.bl → 0 ≤ e.a ∧ e.a < N → (∀ roots,Forest (exL s.ex) (x :: roots) → Forest (exL s2.ex) (e.args ++ roots)) → Sat ((putR s2 e).bind fun y s3 => postF E n s3 y) (Grows N s x) (InN N) := fun {s2 e} g2 b2 ha f2 => by
     refine (put_sat (g2.ws h) ha).bind fun y s3 ⟨g3,_,b3,f3⟩ => ?_
     exact (post_satF hE n s3 y (g3.ws (g2.ws h))).mono fun z s4 ⟨g4,b4,f4⟩ => ⟨g2.trans (g3.trans g4),b4.trans (b3.trans b2),fun roots hr => f4 roots (f3 roots (f2 roots hr))⟩
   simp only [postF]
   have t1 := take_go hw1 [46]
   split
   · rename_i ht
     have hk0 : (cur s).k ≠ 0 := by
       have : isS (nowS s) [46] = true := by
         unfold takeS at ht
         split at ht
         · assumption
         · cases ht
       rw [is_now] at this
       exact is_kind this
     have hw2 := t1.1.ws hw1
     refine (kind_sat hw2 1 (by decide)).bind fun u s2 ⟨g2,x2,b2,_⟩ => ?_
     exact more (e := ⟨10,u.t,[x],[],(cur s).a⟩) (n1.trans (t1.1.trans g2.1)) (b2.trans (t1.2.2.2.trans x1.2)) ⟨hc.1,hc.2.2.1 hk0⟩ fun roots hr => by rw [x2,t1.2.2.1,x1.1]; exact hr
   split
   · rename_i hi
     rw [is_now] at hi
     have hat : 0 ≤ (cur s).a ∧ (cur s).a < N := ⟨hc.1,hc.2.2.1 (is_kind hi)⟩
     refine Sat.bind (within_sat hw1 (a := (cur s).a) (q := true) hca (P := fun (o : Option Nat) s' => Go1 N { nowS s with deep := (nowS s).deep + 1,quiet := true } s' ∧ s'.bl = s.bl ∧ (o = none → s'.ex = s.ex) ∧ ∀ y,o = some y → ∀ roots,Forest (exL s.ex) roots → Forest (exL s'.ex) (y :: roots)) fun hw => ?_) fun o s2 ⟨q,⟨g2,b2,f2,f2'⟩,e2⟩ => ?_
     · have hh := sign_here h hi ((nowS s).deep + 1) true
       have h4 := step_go hw hh.2.1
       rw [hh.1] at h4
       have hw4 := h4.1.ws hw
       have t4 := take_go hw4 [42]
       have ex4 : (step1 { nowS s with deep := (nowS s).deep + 1,quiet := true }).ex = s.ex := x1.1
       have bl4 : (step1 { nowS s with deep := (nowS s).deep + 1,quiet := true }).bl = s.bl := x1.2
       split
       · refine (want_sat (t4.1.ws hw4) [93]).bind fun _ q2 ⟨g5,x5,b5⟩ => ?_
         exact ⟨h4.1.trans (t4.1.trans g5.1),b5.trans (t4.2.2.2.trans bl4),fun _ => x5.trans (t4.2.2.1.trans ex4),fun y e => by cases e⟩
       · refine (hE _ (t4.1.ws hw4)).bind fun y q1 ⟨g5,b5,f5⟩ => ?_
         refine (want_sat (g5.1.ws (t4.1.ws hw4)) [93]).bind fun _ q2 ⟨g6,x6,b6⟩ => ?_
         refine ⟨h4.1.trans (t4.1.trans (g5.1.trans g6.1)),b6.trans (b5.trans (t4.2.2.2.trans bl4)),fun e => (by cases e),fun z e roots hr => ?_⟩
         injection e with e
         subst e
         rw [x6]
         exact f5 roots (by rw [t4.2.2.1,ex4]; exact hr)
     · subst e2
       have g2' := g2.back
       have g02 := n1.trans g2'
       cases o with
       | some y =>
         simp only
         refine more (e := ⟨11,[],[x,y],[],(cur s).a⟩) g02 b2 hat fun roots hr => ?_
         exact (f2' y rfl _ hr).perm (List.Perm.swap _ _ _)
       | none =>
         simp only
         have hw2 := g02.ws h
         refine (want_sat hw2 [46]).bind fun _ s3 ⟨g3,x3,b3⟩ => ?_
         refine (kind_sat (g3.1.ws hw2) 1 (by decide)).bind fun u s4 ⟨g4,x4,b4,_⟩ => ?_
         exact more (e := ⟨30,u.t,[x],[],(cur s).a⟩) (g02.trans (g3.1.trans g4.1)) (b4.trans (b3.trans b2)) hat fun roots hr => by rw [x4,x3]; show Forest (exL q.ex) _; rw [f2 rfl]; exact hr
   · exact ⟨n1,x1.2,fun roots hr => by rw [x1.1]; exact hr⟩
theorem post_sat (hE : EOk N E) : EOk N (postR E) := by
 intro s h
 unfold postR
 refine (atom_sat hE s h).bind fun x s1 ⟨g1,b1,f1⟩ => ?_
 exact (post_satF hE _ s1 x (g1.1.ws h)).mono fun y s2 ⟨g2,b2,f2⟩ => ⟨⟨g1.1.trans g2,by have := g1.2; have := g2.le; omega⟩,b2.trans b1,fun roots hr => f2 roots (f1 roots hr)⟩
theorem sign_sat (hE : EOk N E) (hS : EOk N S) : EOk N (signR E S) := by
 intro s h
 have n1 := now_go h
 have hw1 := n1.ws h
 have hc := cur_pos h
 have x1 := now_ex s
 have is_now : ∀ w,isS (nowS s) w = isS s w := fun w => by unfold isS; rw [cur_now]
 have hca : InN N (cur s).a := ⟨hc.1,hc.2.1⟩
 have one : ∀ (w : Str) (k : Int),isS s w = true → Sat ((within (nowS s) (cur s).a (nowS s).quiet fun q => S (step1 q)).bind fun x s2 => putR s2 ⟨k,[],[x],[],(cur s).a⟩) (Leaves N s) (InN N) := fun w k hi => by
   refine Sat.bind (within_sat hw1 (a := (cur s).a) (q := (nowS s).quiet) hca (P := fun x s' => Later N { nowS s with deep := (nowS s).deep + 1,quiet := (nowS s).quiet } s' ∧ s'.bl = s.bl ∧ ∀ roots,Forest (exL s.ex) roots → Forest (exL s'.ex) (x :: roots)) fun hw => ?_) fun x s2 ⟨q,⟨g2,b2,f2⟩,e2⟩ => ?_
   · have hh := sign_here h hi ((nowS s).deep + 1) (nowS s).quiet
     have h4 := step_go hw hh.2.1
     rw [hh.1] at h4
     refine (hS _ (h4.1.ws hw)).mono fun x q1 ⟨g1,b1,f1⟩ => ⟨h4.tr g1,b1.trans x1.2,fun roots hr => f1 roots (by show Forest (exL (nowS s).ex) _; rw [x1.1]; exact hr)⟩
   · subst e2
     have g2' := g2.1.back
     exact put_later h ⟨n1.trans g2',by have := n1.le; have := g2.2; show s.i < q.i; simp only at this; omega⟩ b2 (e := ⟨k,[],[x],[],(cur s).a⟩) ⟨hc.1,hc.2.2.1 (is_kind hi)⟩ f2
 unfold signR
 simp only
 split
 · rename_i hi
   rw [is_now] at hi
   exact one [33] 14 hi
 split
 · rename_i hi
   rw [is_now] at hi
   exact one [45] 13 hi
 · exact (post_sat hE (nowS s) hw1).mono fun x s2 ⟨g2,b2,f2⟩ => ⟨⟨n1.trans g2.1,by have := n1.le; have := g2.2; omega⟩,b2.trans x1.2,fun roots hr => f2 roots (by rw [x1.1]; exact hr)⟩
theorem join_satF {J : PS → R Nat} (hJ : EOk N J) (k : Nat) : ∀ (f : Nat) (s : PS) (x : Nat),WS N s → Sat (joinF J k f s x) (Grows N s x) (InN N)
 | 0,s,_,h => ⟨Int.le_refl _,h.pN⟩
 | f + 1,s,x,h => by
   have n1 := now_go h
   have x1 := now_ex s
   have hc := cur_pos h
   simp only [joinF]
   split
   · exact ⟨n1,x1.2,fun roots hr => by rw [x1.1]; exact hr⟩
   · rename_i hl
     have hk0 : (cur s).k ≠ 0 := fun e => hl (by unfold levelK; rw [e]; rfl)
     have h2 := step_go h hk0
     refine (hJ _ (h2.1.ws h)).bind fun b s1 ⟨g1,b1,f1⟩ => ?_
     have g01 := h2.1.trans g1.1
     refine (put_sat (g01.ws h) (e := ⟨levelK (cur s) k,[],[x,b],[],(cur s).a⟩) ⟨hc.1,hc.2.2.1 hk0⟩).bind fun y s2 ⟨g2,_,b2,f2⟩ => ?_
     refine (join_satF hJ k f s2 y (g2.ws (g01.ws h))).mono fun z s3 ⟨g3,b3,f3⟩ => ⟨g01.trans (g2.trans g3),b3.trans (b2.trans (b1.trans x1.2)),fun roots hr => f3 roots (f2 roots ?_)⟩
     exact (f1 _ (by show Forest (exL (nowS s).ex) _; rw [x1.1]; exact hr)).perm (List.Perm.swap _ _ _)
theorem joinU_sat (hE : EOk N E) (hS : EOk N S) : ∀ m,EOk N (joinU E S m)
 | 0 => sign_sat hE hS
 | m + 1 => fun s h => by
   simp only [joinU]
   refine (joinU_sat hE hS m s h).bind fun a s1 ⟨g1,b1,f1⟩ => ?_
   exact (join_satF (joinU_sat hE hS m) (5 - m) _ s1 a (g1.1.ws h)).mono fun y s2 ⟨g2,b2,f2⟩ => ⟨⟨g1.1.trans g2,by have := g1.2; have := g2.le; omega⟩,b2.trans b1,fun roots hr => f2 roots (f1 roots hr)⟩
theorem expr_sat (hE : EOk N E) (hS : EOk N S) : EOk N (exprR E S) := by
 intro s h
 unfold exprR
 refine (joinU_sat hE hS 6 s h).bind fun a s1 ⟨g1,b1,f1⟩ => ?_
 have hw1 := g1.1.ws h
 have hc := cur_pos hw1
 have t1 := take_go hw1 [63]
 have hw2 := t1.1.ws hw1
 simp only
 split
 · rename_i ht
   have hk0 : (cur s1).k ≠ 0 := by
     have : isS s1 [63] = true := by
       unfold takeS at ht
       split at ht
       · assumption
       · cases ht
     exact is_kind this
   refine Sat.bind (within_sat hw2 (a := (cur s1).a) (q := (takeS s1 [63]).2.quiet) ⟨hc.1,hc.2.1⟩ (P := fun (z : Nat × Nat) s' => Go1 N { (takeS s1 [63]).2 with deep := (takeS s1 [63]).2.deep + 1,quiet := (takeS s1 [63]).2.quiet } s' ∧ s'.bl = s.bl ∧ ∀ roots,Forest (exL s.ex) roots → Forest (exL s'.ex) ([a,z.1,z.2] ++ roots)) fun hw => ?_) fun z s2 ⟨q,⟨g2,b2,f2⟩,e2⟩ => ?_
   · refine (hE _ hw).bind fun x q1 ⟨g3,b3,f3⟩ => ?_
     have hw3 := g3.1.ws hw
     refine (want_sat hw3 [58]).bind fun _ q2 ⟨g4,x4,b4⟩ => ?_
     have hw4 := g4.1.ws hw3
     refine (hE _ hw4).bind fun y q3 ⟨g5,b5,f5⟩ => ?_
     refine ⟨g3.1.trans (g4.1.trans g5.1),b5.trans (b4.trans (b3.trans (t1.2.2.2.trans b1))),fun roots hr => ?_⟩
     have k1 := f3 _ (by show Forest (exL (takeS s1 [63]).2.ex) _; rw [t1.2.2.1]; exact f1 roots hr)
     have k2 := f5 _ (by rw [x4]; exact k1)
     refine k2.perm ?_
     show (y :: x :: a :: roots).Perm (a :: x :: y :: roots)
     exact ((List.Perm.swap x y _).trans ((List.Perm.swap a y _).cons x)).trans (List.Perm.swap a x _)
   · subst e2
     have g2' := g2.back
     exact put_later h ⟨g1.1.trans (t1.1.trans g2'),by have := g1.2; have := t1.1.le; have := g2.le; show s.i < q.i; simp only at this; omega⟩ b2 (e := ⟨28,[],[a,z.1,z.2],[],(cur s1).a⟩) ⟨hc.1,hc.2.2.1 hk0⟩ f2
 · exact ⟨⟨g1.1.trans t1.1,by have := g1.2; have := t1.1.le; omega⟩,t1.2.2.2.trans b1,fun roots hr => by rw [t1.2.2.1]; exact f1 roots hr⟩
end
theorem dead_ok (N : Int) : EOk N dead := fun _ h => ⟨Int.le_refl _,h.pN⟩
theorem exprD_ok (N : Int) : ∀ d,EOk N (exprD d).1 ∧ EOk N (exprD d).2
 | 0 => ⟨expr_sat (dead_ok N) (dead_ok N),sign_sat (dead_ok N) (dead_ok N)⟩
 | d + 1 => ⟨expr_sat (exprD_ok N d).1 (exprD_ok N d).2,sign_sat (exprD_ok N d).1 (exprD_ok N d).2⟩
end Go.Syn
