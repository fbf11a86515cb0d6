/- One plain sentence: weakest preconditions, contracts and plain laws that the claim rests on, text behind text. Conditions: those that each states. -/
import Derived.Orders
import Derived.Laws.World
import Derived.KernelRfl
import Derived.Laws.Strings
import Derived.Tactics
import Derived.Scope
import Derived.Below
import Derived.Laws.AppendOwn
import Derived.Laws.BytesArg
import Derived.Lib.DecodeN
import Derived.Lib.RuneBytes
import Derived.Lib.Index
import Derived.Test.YtofhaneggcpdaaaGreatDoorProg
import Derived.Recover
import Derived.Shelf.Strings.BuilderK
import Derived.Shelf.Strings.Cut
import Derived.Shelf.Strings.Prefix
import Derived.Shelf.Strings.Search3
import Derived.Shelf.Small.Strs
import Derived.Shelf.Strings.OnBuilder
import Derived.Shelf.Strings.Repeat
import Derived.Shelf.Strings.SlTrimAscii
import Derived.Shelf.Small.Utf8
import Derived.Shelf.Strings.BuilderX
import Derived.Shelf.Lays
import Derived.Lib.ConvBytes
import Derived.Lib.ParseIntBCases
import Derived.Lib.Builder
import Derived.ProofKit
import Derived.WalkKit
set_option linter.all false
set_option linter.unusedSimpArgs false
set_option linter.unusedVariables false
set_option linter.unusedSectionVars false
namespace Go.Eng
open Go
abbrev Fr := Nat → Value
def upd (f : Fr) (d : Option Nat) (v : Value) : Fr :=
 match d with
 | none => f
 | some d => fun j => bif Nat.beq j d then v else f j
def ev (f : Fr) : Operand → Value
 | .tmp t => f t
 | .const v => v
 | .global g => .pointer (some ⟨g,0,none⟩)
 | .func g => .func (.func g) #[] #[]
def evl (f : Fr) (a : Array Operand) : List Value := a.toList.map (ev f)
def ofL (l : List UInt8) : ByteArray := ⟨l.toArray⟩
theorem ofL_data (l : List UInt8) : (ofL l).data.toList = l := by simp [ofL]
theorem ofL_size (l : List UInt8) : (ofL l).size = l.length := by simp [ofL,ByteArray.size]
class HX where
 X : List PanicEntry → World → Prop
@[reducible] def noX : HX := ⟨fun _ _ => False⟩
def EndK [HX] (K : Value → World → Prop) : Ending → World → Prop
 | .returned v,w => K v w
 | .panicked c,w => HX.X c w
 | .outgrown,_ => False
theorem EndK.mono [HX] {K K' : Value → World → Prop} (hk : ∀ v w,K v w → K' v w) {e : Ending} {w : World} (h : EndK K e w) : EndK K' e w := by
 cases e with
 | returned v => exact hk _ _ h
 | panicked c => exact h
 | outgrown => exact h.elim
def Res [HX] (P : Program) (K : Value → World → Prop) : Result Next → Prop
 | .ok (.value v) w => K v w
 | .ok .skip w => K undef w
 | .ok (.enter g args) w => Calls P g args w (EndK K)
 | .ok (.row r args) w => Rows P r args w K
 | .halt (.panic v) w => HX.X [{ v,recovered := false }] w
 | _ => False
theorem Res.upon [HX] {P : Program} {K : Value → World → Prop} {o : Oper} {a : Act} {next : Act → World → Prop} {Q : Exit → Act → World → Prop}
   (hk : ∀ v w,K v w → next (a.put o.dst v) w) (hx : ∀ c w,HX.X c w → Q (.panic c) a w) {r : Result Next} (h : Res P K r) : o.upon P a next Q r := by
 cases r with
 | ok n w =>
   cases n <;> simp only [Res] at h <;> simp only [Oper.upon] <;> first
     | exact hk _ _ h
     | exact h.elim
     | exact h.mono fun _ _ he => hk _ _ he
     | (refine h.mono fun e w' he => ?_
        cases e with
        | returned v => exact hk _ _ he
        | panicked c => exact hx _ _ he
        | outgrown => exact he.elim)
 | halt x w =>
   cases x <;> simp only [Res] at h <;> simp only [Oper.upon] <;> first
     | exact h.elim
     | exact hx _ _ h
theorem Res.mono [HX] {P : Program} {K K' : Value → World → Prop} (hk : ∀ v w,K v w → K' v w) {r : Result Next} (h : Res P K r) : Res P K' r := by
 cases r with
 | ok n w =>
   cases n <;> simp only [Res] at h ⊢ <;> first
     | exact hk _ _ h
     | exact h.elim
     | exact h.mono fun _ _ he => hk _ _ he
     | exact h.mono fun e w' he => he.mono hk
 | halt x w =>
   cases x <;> simp only [Res] at h ⊢ <;> first
     | exact h.elim
     | exact h
def andB (c : Bool) (A : Prop) : Prop := bif c then A else False
theorem andB.out {c : Bool} {A : Prop} (h : andB c A) : c = true ∧ A := by
 cases c with
 | true => exact ⟨rfl,h⟩
 | false => exact h.elim
def pickW (c a b : Value) (K : Value → Prop) : Prop := match c with | .bool t => K (bif t then a else b) | _ => False
def nilW (v : Value) (K : Value → Prop) : Prop :=
 match v with
 | .pointer (some _) => K v
 | .func (.func _) _ _ => K v
 | .iface _ _ => K v
 | _ => False
def binW (op : BinOp) (x y : Value) (K : Value → Prop) : Prop :=
 match x,y with
 | .int k a,.int k' b =>
   match op with
   | .shl => 0 ≤ b ∧ K (.int k (k.wrap (a * 2 ^ min b.toNat k.bits)))
   | .shr => 0 ≤ b ∧ K (.int k (a.fdiv (2 ^ min b.toNat k.bits)))
   | .add => k = k' ∧ K (.int k (k.wrap (a + b)))
   | .sub => k = k' ∧ K (.int k (k.wrap (a - b)))
   | .mul => k = k' ∧ K (.int k (k.wrap (a * b)))
   | .quo => k = k' ∧ b ≠ 0 ∧ K (.int k (k.wrap (a.tdiv b)))
   | .rem => k = k' ∧ b ≠ 0 ∧ K (.int k (a.tmod b))
   | .and => k = k' ∧ K (.int k (k.wrap (BitVec.ofInt k.bits a &&& BitVec.ofInt k.bits b).toNat))
   | .or => k = k' ∧ K (.int k (k.wrap (BitVec.ofInt k.bits a ||| BitVec.ofInt k.bits b).toNat))
   | .xor => k = k' ∧ K (.int k (k.wrap (BitVec.ofInt k.bits a ^^^ BitVec.ofInt k.bits b).toNat))
   | .andNot => k = k' ∧ K (.int k (k.wrap (BitVec.ofInt k.bits a &&& ~~~ BitVec.ofInt k.bits b).toNat))
   | .eql => k = k' ∧ K (.bool (decide (a = b)))
   | .neq => k = k' ∧ K (.bool (decide (a ≠ b)))
   | .lss => k = k' ∧ K (.bool (decide (a < b)))
   | .leq => k = k' ∧ K (.bool (decide (a ≤ b)))
   | .gtr => k = k' ∧ K (.bool (decide (b < a)))
   | .geq => k = k' ∧ K (.bool (decide (b ≤ a)))
 | .string a,.string b =>
   match op with
   | .add => ((a.size + b.size : Nat) : Int) ≤ IntKind.i64.max ∧ K (.string (a ++ b))
   | .eql => K (.bool (decide (a.data.toList = b.data.toList)))
   | .neq => K (.bool (decide (a.data.toList ≠ b.data.toList)))
   | .lss => K (.bool (Op.bytesLess a.data.toList b.data.toList))
   | .leq => K (.bool (Op.bytesLess a.data.toList b.data.toList || decide (a.data.toList = b.data.toList)))
   | .gtr => K (.bool (!(Op.bytesLess a.data.toList b.data.toList || decide (a.data.toList = b.data.toList))))
   | .geq => K (.bool (!Op.bytesLess a.data.toList b.data.toList))
   | _ => False
 | _,_ => False
inductive EqK | bool | ptr | slice | map | func
def EqK.of : TypeDesc → Option EqK
 | .bool => some .bool
 | .pointer _ => some .ptr
 | .slice _ => some .slice
 | .map _ _ => some .map
 | .func _ _ _ => some .func
 | _ => none
def eqW (k : EqK) (n : Bool) (x y : Value) (K : Value → Prop) : Prop :=
 match k,x,y with
 | .bool,.bool a,.bool b => K (.bool (n ^^ (a == b)))
 | .ptr,.pointer none,.pointer b => K (.bool (n ^^ b.isNone))
 | .ptr,.pointer (some _),.pointer none => K (.bool n)
 | .slice,.slice none _ _,.slice b _ _ => K (.bool (n ^^ b.isNone))
 | .slice,.slice (some _) _ _,.slice none _ _ => K (.bool n)
 | .map,.map none,.map b => K (.bool (n ^^ b.isNone))
 | .map,.map (some _),.map none => K (.bool n)
 | .func,.nilFunc,.nilFunc => K (.bool (!n))
 | .func,.nilFunc,.func _ _ _ => K (.bool n)
 | .func,.func _ _ _,.nilFunc => K (.bool n)
 | _,_,_ => False
def unW (op : UnOp) (x : Value) (K : Value → Prop) : Prop :=
 match op,x with
 | .not,.bool b => K (.bool (!b))
 | .neg,.int k n => K (.int k (k.wrap (0 - n)))
 | .xor,.int k n => K (.int k (k.wrap (BitVec.ofInt k.bits (if k.signed then -1 else k.max) ^^^ BitVec.ofInt k.bits n).toNat))
 | _,_ => False
def cvtW (k : IntKind) (x : Value) (K : Value → Prop) : Prop := match x with | .int _ n => K (.int k (k.wrap n)) | _ => False
def cvsW (x : Value) (K : Value → Prop) : Prop := match x with | .int _ n => K (.string (Utf8.encode n)) | .string s => K (.string s) | _ => False
def partW (agg : Bool) (off size : Nat) (x : Value) (K : Value → Prop) : Prop :=
 match x with
 | .agg cs => bif agg then K (.agg (cs.extract off (off + size))) else (∃ c,cs[off]? = some c ∧ K c)
 | _ => False
def fldW (off : Nat) (x : Value) (K : Value → Prop) : Prop :=
 match x with
 | .pointer (some a) => K (.pointer (some (a.add off)))
 | _ => False
def ixaW (len : Option Nat) (size : Nat) (x i : Value) (K : Value → Prop) : Prop :=
 match len,x,i with
 | none,.slice (some a) n _,.int _ i => 0 ≤ i ∧ i < n ∧ K (.pointer (some (a.add (i.toNat * size))))
 | some n,.pointer (some a),.int _ i => 0 ≤ i ∧ i < n ∧ K (.pointer (some (a.add (i.toNat * size))))
 | _,_,_ => False
def ixsW (x i : Value) (K : Value → Prop) : Prop :=
 match x,i with
 | .string s,.int _ i => 0 ≤ i ∧ ∃ b,s.data.toList[i.toNat]? = some b ∧ K (.int .u8 b.toNat)
 | _,_ => False
def ixgW (len : Nat) (agg : Bool) (size : Nat) (x i : Value) (K : Value → Prop) : Prop :=
 match i with
 | .int _ i => 0 ≤ i ∧ i < len ∧ partW agg (i.toNat * size) size x K
 | _ => False
def bdW (x : Option Value) (dflt : Nat) (lim : Nat) (K : Nat → Prop) : Prop :=
 match x with
 | none => K dflt
 | some (.int _ i) => 0 ≤ i ∧ i ≤ lim ∧ K i.toNat
 | some _ => False
def slsW (x : Value) (lo hi : Option Value) (K : Value → Prop) : Prop :=
 match x with
 | .string s => bdW hi s.size s.size fun h => bdW lo 0 h fun l => K (.string (ofL ((s.data.toList.take h).drop l)))
 | _ => False
def sllW (size : Nat) (x : Value) (lo hi mx : Option Value) (K : Value → Prop) : Prop :=
 match x with
 | .slice a len cap => bdW mx cap cap fun m => (bdW hi len m fun h => bdW lo 0 h fun l =>
     K (.slice (if m = l then a else a.map (·.add (l * size))) (h - l) (m - l)))
 | _ => False
def slaW (n size : Nat) (x : Value) (lo hi mx : Option Value) (K : Value → Prop) : Prop :=
 match x with
 | .pointer (some a) => bdW mx n n fun m => (bdW hi n m fun h => bdW lo 0 h fun l =>
     K (.slice (some (if m = l then a else a.add (l * size))) (h - l) (m - l)))
 | _ => False
def extW (i : Nat) (x : Value) (K : Value → Prop) : Prop := match x with | .tuple vs => (match vs[i]? with | some v => K v | none => False) | _ => False
def putW (cells : List Value) : List (Nat × Nat × Value) → (List Value → Prop) → Prop
 | [],K => K cells
 | (off,size,v) :: r,K => v.cells.size = size ∧ off + size ≤ cells.length ∧ putW (cells.take off ++ (v.cells.toList ++ cells.drop (off + size))) r K
def lensW (x : Value) (K : Value → Prop) : Prop := match x with | .string s => K (.int .i64 s.size) | _ => False
def lenlW (x : Value) (K : Value → Prop) : Prop := match x with | .slice _ n _ => K (.int .i64 n) | _ => False
def capW (x : Value) (K : Value → Prop) : Prop := match x with | .slice _ _ n => K (.int .i64 n) | _ => False
def minW (x y : Value) (K : Value → Prop) : Prop := match x,y with | .int k a,.int _ b => K (.int k (if b < a then b else a)) | _,_ => False
def min3W (x y z : Value) (K : Value → Prop) : Prop := match x,y,z with | .int k a,.int _ b,.int _ c => K (.int k (if c < (if b < a then b else a) then c else (if b < a then b else a))) | _,_,_ => False
def maxW (x y : Value) (K : Value → Prop) : Prop := match x,y with | .int k a,.int _ b => K (.int k (if a < b then b else a)) | _,_ => False
def cellsAt (w : World) (a : Addr) : Nat → Nat → Option (List Value)
 | _,0 => some []
 | i,n + 1 => match w.cell? (a.add i) with | some v => (cellsAt w a (i + 1) n).map (v :: ·) | none => none
def ldW (agg : Bool) (n : Nat) (x : Value) (w : World) (K : Value → Prop) : Prop :=
 match x with
 | .pointer (some a) => bif agg then (∃ l,cellsAt w a 0 n = some l ∧ K (.agg l.toArray)) else (∃ v,w.cell? a = some v ∧ K v)
 | _ => False
def semQ (P : Program) (s : Sem Value) (w : World) (K : Value → Prop) : Prop := ∃ v,s.run P w = .ok v w ∧ K v
def semE (P : Program) (s : Sem Value) (w : World) (K : Value → World → Prop) : Prop := match s.run P w with | .ok v w' => K v w' | _ => False
def semU (P : Program) (s : Sem Unit) (w : World) (K : World → Prop) : Prop := match s.run P w with | .ok _ w' => K w' | _ => False
def semN [HX] (P : Program) (s : Sem Next) (w : World) (K : Value → World → Prop) : Prop := Res P K (s.run P w)
def allocW (T : TypeId) (zero : List Value) (w : World) (K : Value → World → Prop) : Prop :=
 K (.pointer (some ⟨w.heap.size,0,none⟩)) (w.alloc (.cells zero.toArray T))
def boxW (T : TypeId) (v : Value) (w : World) (K : Value → World → Prop) : Prop :=
 K (.pointer (some ⟨w.heap.size,0,none⟩)) (w.alloc (.cells v.cells T))
def bslW (T : TypeId) (len : Nat) (zero : List Value) (parts : List (Nat × Nat × Value)) (w : World) (K : Value → World → Prop) : Prop :=
 putW zero parts fun cs => K (.slice (some ⟨w.heap.size,0,none⟩) len len) (w.alloc (.cells cs.toArray T))
def one1 : Value → Bool
 | .agg _ | .tuple _ => false
 | _ => true
def stCells (a : Addr) : List Value → Nat → World → (World → Prop) → Prop
 | [],_,w,K => K w
 | v :: r,i,w,K => one1 v = true ∧ (w.cell? (a.add i)).isSome = true ∧ w.frozen? (a.add i) = false ∧ stCells a r (i + 1) (w.setCell (a.add i) v) K
def stW (n : Nat) (x v : Value) (w : World) (K : World → Prop) : Prop :=
 match x with
 | .pointer (some a) => v.cells.size = n ∧ stCells a v.cells.toList 0 w K
 | _ => False
def callW [HX] (P : Program) (g : FuncId) (args : List Value) (w : World) (K : Value → World → Prop) : Prop :=
 Calls P g args.toArray w (EndK K)
def pncW [HX] (x : Value) (w : World) : Prop := match x with | .iface T v => HX.X [{ v := .iface T v,recovered := false }] w | _ => False
def callF [HX] (P : Program) (g : FuncId) (args : List Value) (w : World) (K : Value → World → Prop) : Prop :=
 Res P K ((callFunc g args.toArray).run P w)
def callV [HX] (P : Program) (v : Value) (args : List Value) (w : World) (K : Value → World → Prop) : Prop :=
 semN P (do let d ← Deferred.ofValue v args.toArray; invoke d.target d.args) w K
end Go.Eng
namespace Go.Eng
open Go
def isAggD : TypeDesc → Bool
 | .struct _ | .array _ _ => true
 | _ => false
def isAggT (P : Program) (T : TypeId) : Bool := match P.underlying T with | some d => isAggD d | none => false
def sizeT (P : Program) (T : TypeId) : Nat := match P.info? T with | some i => i.size | none => 0
def zeroT (P : Program) (T : TypeId) : Option Value := match P.info? T with | some i => i.zero | none => none
def partsAt (places : Nat → Option (Nat × Nat)) (f : Fr) : List (Nat × Operand) → Option (List (Nat × Nat × Value))
 | [] => some []
 | (i,x) :: r => match places i,partsAt places f r with
   | some (off,size),some l => some ((off,size,ev f x) :: l)
   | _,_ => none
def sPlace (P : Program) (fs : Array Field) (i : Nat) : Option (Nat × Nat) := match fs[i]? with | some g => some (g.offset,sizeT P g.type) | none => none
def buildW (P : Program) (T : TypeId) (f : Fr) (parts : List (Nat × Operand)) (K : Value → Prop) : Prop :=
 match P.underlying T,zeroT P T with
 | some (.struct fs),some z =>
   (match partsAt (sPlace P fs) f parts with
    | some l => andB (fs.all (fun g => (P.info? g.type).isSome)) (putW z.cells.toList l fun cs => K (.agg cs.toArray))
    | none => False)
 | some (.array _ e),some z =>
   (match partsAt (fun i => some (i * sizeT P e,sizeT P e)) f parts with
    | some l => andB (P.info? e).isSome (putW z.cells.toList l fun cs => K (.agg cs.toArray))
    | none => False)
 | _,_ => False
def cmpW (P : Program) (op : BinOp) (T : TypeId) (x y : Value) (K : Value → Prop) : Prop :=
 match op,(match P.underlying T with | some d => EqK.of d | none => none) with
 | .eql,some k => eqW k false x y K
 | .neq,some k => eqW k true x y K
 | _,_ => binW op x y K
def convW (P : Program) (s d : TypeId) (x : Value) (K : Value → Prop) : Prop :=
 match P.underlying s,P.underlying d with
 | some (.int _),some (.int k) => cvtW k x K
 | some (.int _),some .string => cvsW x K
 | some .string,some .string => cvsW x K
 | _,_ => False
def indexAddrW (P : Program) (T : TypeId) (x i : Value) (K : Value → Prop) : Prop :=
 match P.underlying T with
 | some (.slice e) => andB (P.info? e).isSome (ixaW none (sizeT P e) x i K)
 | some (.array n e) => andB (P.info? e).isSome (ixaW (some n) (sizeT P e) x i K)
 | _ => False
def indexW (P : Program) (T : TypeId) (x i : Value) (K : Value → Prop) : Prop :=
 match P.underlying T with
 | some .string => ixsW x i K
 | some (.array n e) => andB (P.underlying e).isSome (ixgW n (isAggT P e) (sizeT P e) x i K)
 | _ => False
def sliceW (P : Program) (T : TypeId) (x : Value) (lo hi mx : Option Value) (K : Value → Prop) : Prop :=
 match P.underlying T with
 | some .string => andB (!mx.isSome) (slsW x lo hi K)
 | some (.slice e) => andB (!mx.isSome || hi.isSome) (andB (P.info? e).isSome (sllW (sizeT P e) x lo hi mx K))
 | some (.array n e) => andB (!mx.isSome || hi.isSome) (andB (P.info? e).isSome (slaW n (sizeT P e) x lo hi mx K))
 | _ => False
def pureCallW (P : Program) (b : Builtin) (argTypes : Array TypeId) (args : List Value) (K : Value → Prop) : Prop :=
 match b,args with
 | .len,[x] => (match argTypes[0]? with
     | some T => (match P.underlying T with
       | some .string => lensW x K
       | some (.slice _) => lenlW x K
       | some (.array n _) => K (.int .i64 n)
       | _ => False)
     | none => False)
 | .cap,[x] => (match argTypes[0]? with
     | some T => (match P.underlying T with
       | some (.slice _) => capW x K
       | _ => False)
     | none => False)
 | .min,[x,y] => minW x y K
 | .min,[x,y,z] => min3W x y z K
 | .max,[x,y] => maxW x y K
 | _,_ => False
def pureW (P : Program) (f : Fr) (op : Op) (K : Value → Prop) : Prop :=
 match op with
 | .move x | .assign x => K (ev f x)
 | .pick c a b => pickW (ev f c) (ev f a) (ev f b) K
 | .nilCheck x => nilW (ev f x) K
 | .binOp op T x y _ => cmpW P op T (ev f x) (ev f y) K
 | .unOp op _ x => unW op (ev f x) K
 | .convert s d x => convW P s d (ev f x) K
 | .makeInterface T x => (match P.underlying T with | some (.interface _) => False | none => False | _ => K (.iface T (ev f x)))
 | .makeFunc fn first cap => K (.func fn (evl f first).toArray (evl f cap).toArray)
 | .field T x i => (match P.underlying T with
     | some (.struct fs) => (match fs[i]? with | some g => andB (P.underlying g.type).isSome (partW (isAggT P g.type) g.offset (sizeT P g.type) (ev f x) K) | none => False)
     | _ => False)
 | .fieldAddr T x i => (match P.underlying T with
     | some (.struct fs) => (match fs[i]? with | some g => andB (!(Nat.beq (sizeT P g.type) 0)) (fldW g.offset (ev f x) K) | none => False)
     | _ => False)
 | .indexAddr T x i => indexAddrW P T (ev f x) (ev f i) K
 | .index T x i => indexW P T (ev f x) (ev f i) K
 | .slice T x lo hi mx => sliceW P T (ev f x) (lo.map (ev f)) (hi.map (ev f)) (mx.map (ev f)) K
 | .extract t i => extW i (ev f t) K
 | .build T parts => buildW P T f parts.toList K
 | .call { callee := .builtin b,args,argTypes } => pureCallW P b argTypes (evl f args) K
 | _ => False
def isPure (P : Program) : Op → Bool
 | .move _ | .assign _ | .pick .. | .nilCheck _ | .unOp .. | .makeInterface .. | .makeFunc .. | .field .. | .fieldAddr .. | .indexAddr .. | .index .. | .slice ..
 | .extract .. | .build .. => true
 | .binOp op T _ _ _ => (match op with
   | .eql | .neq => (match P.underlying T with | some (.interface _) | some (.struct _) | some (.array _ _) | some (.chan _ _) | none => false | _ => true)
   | _ => true)
 | .convert s d _ => (match P.underlying s,P.underlying d with | some (.int _),some (.int _) | some (.int _),some .string | some .string,some .string => true | _,_ => false)
 | .call { callee := .builtin b,argTypes,.. } => (match b with
   | .min | .max | .cap => true
   | .len => (match argTypes[0]? with | some T => (match P.underlying T with | some (.map _ _) | none => false | _ => true) | none => false)
   | _ => false)
 | _ => false
def Yields1 (P : Program) (s : Sem Value) (K : Value → Prop) : Prop := ∃ v,K v ∧ ∀ w,s.run P w = .ok v w
theorem run_bind {α β : Type} (P : Program) (s : Sem α) (k : α → Sem β) (w : World) :
   (s >>= k).run P w = match s.run P w with | .ok a w' => (k a).run P w' | .halt h w' => .halt h w' := by
 show (Sem.bind s k).run P w = _
 induction s generalizing w with
 | pure a => simp [Sem.bind,Sem.run]
 | load m a c ih => simp only [Sem.bind,Sem.run]; (repeat' split) <;> simp_all
 | store m a v c ih =>
   cases v <;> simp only [Sem.bind,Sem.run] <;> ((repeat' split) <;> simp_all)
 | new o c ih => simp [Sem.bind,Sem.run,ih]
 | shape r c ih => simp [Sem.bind,Sem.run,ih]
 | freeze a n c ih => simp [Sem.bind,Sem.run,ih]
 | frozen a c ih => simp [Sem.bind,Sem.run,ih]
 | getObj r c ih => simp only [Sem.bind,Sem.run]; (repeat' split) <;> simp_all
 | setObj r o c ih => simp only [Sem.bind,Sem.run]; (repeat' split) <;> simp_all
 | choose q c ih => simp only [Sem.bind,Sem.run]; (repeat' split) <;> simp_all
 | sys c k' ih => simp [Sem.bind,Sem.run,ih]
 | program c ih => simp [Sem.bind,Sem.run,ih]
 | mark m c ih => simp [Sem.bind,Sem.run,ih]
 | halt h => simp [Sem.bind,Sem.run]
theorem run_pure {α : Type} (P : Program) (a : α) (w : World) : (pure a : Sem α).run P w = .ok a w := rfl
theorem run_underlying' {P : Program} {T : TypeId} {d : TypeDesc} (h : P.underlying T = some d) (w : World) : (underlying T).run P w = .ok d w := by
 simp [underlying,run_bind,program,Sem.run,h,run_pure]
theorem run_typeInfo' {P : Program} {T : TypeId} {i : TypeInfo} (h : P.info? T = some i) (w : World) : (typeInfo T).run P w = .ok i w := by
 simp [typeInfo,run_bind,program,Sem.run,h,run_pure]
theorem run_sizeOf' {P : Program} {T : TypeId} (h : (P.info? T).isSome = true) (w : World) : (sizeOf T).run P w = .ok (sizeT P T) w := by
 cases hi : P.info? T with
 | none => rw [hi] at h; cases h
 | some i => simp [sizeOf,run_bind,run_typeInfo' hi,run_pure,sizeT,hi]
theorem underlying_info {P : Program} {T : TypeId} (h : (P.underlying T).isSome = true) : (P.info? T).isSome = true := by
 unfold Program.underlying at h
 cases hi : P.info? T with
 | none => simp [hi] at h
 | some i => rfl
theorem run_isAgg' {P : Program} {T : TypeId} (h : (P.underlying T).isSome = true) (w : World) : (isAgg T).run P w = .ok (isAggT P T) w := by
 cases hi : P.underlying T with
 | none => rw [hi] at h; cases h
 | some d =>
   simp only [isAgg,run_bind,run_underlying' hi,isAggT,hi]
   cases d <;> rfl
theorem zeroT_run {P : Program} {T : TypeId} {z : Value} (h : zeroT P T = some z) (w : World) : (zeroValue T).run P w = .ok z w := by
 unfold zeroT at h
 cases hi : P.info? T with
 | none => simp [hi] at h
 | some i =>
   simp only [hi] at h
   simp [zeroValue,run_bind,run_typeInfo' hi,h,run_pure]
theorem part_run {P : Program} {T : TypeId} {off : Nat} {x : Value} {K : Value → Prop} (hT : (P.underlying T).isSome = true) (h : partW (isAggT P T) off (sizeT P T) x K) :
   ∃ cs,x = .agg cs ∧ Yields1 P (part T cs off) K := by
 cases x with
 | agg cs =>
   refine ⟨cs,rfl,?_⟩
   simp only [partW] at h
   cases ha : isAggT P T with
   | true =>
     rw [ha] at h
     exact ⟨_,h,fun w => by simp [part,run_bind,run_isAgg' hT,ha,run_sizeOf' (underlying_info hT),run_pure]⟩
   | false =>
     rw [ha] at h
     obtain ⟨c,hc,hk⟩ := h
     exact ⟨c,hk,fun w => by simp [part,run_bind,run_isAgg' hT,ha,hc,run_pure]⟩
 | _ => exact h.elim
theorem bdW_run {P : Program} {x : Option Value} {dflt lim : Nat} {K : Nat → Prop} (h : bdW x dflt lim K) :
   ∃ n,K n ∧ ((x = none ∧ n = dflt) ∨ ∃ v,x = some v ∧ ∀ (code : BoundsCode) (w : World),(Instr.sliceBound v lim code).run P w = .ok n w) := by
 cases x with
 | none => exact ⟨dflt,h,.inl ⟨rfl,rfl⟩⟩
 | some v =>
   cases v <;> simp only [bdW] at h
   case int k i =>
     obtain ⟨h0,h1,hk⟩ := h
     exact ⟨_,hk,.inr ⟨_,rfl,fun code w => by simp [Instr.sliceBound,asIntOf,run_bind,run_pure,h0,h1]⟩⟩
theorem bounds_run {P : Program} {isSlice : Bool} {len cap : Nat} {lo hi mx : Option Value} {K : Nat → Nat → Nat → Prop} (hm : mx.isSome = true → hi.isSome = true)
   (h : bdW mx cap cap fun m => bdW hi len m fun h => bdW lo 0 h fun l => K l h m) :
   ∃ l h m,K l h m ∧ ∀ w,(Instr.sliceBounds isSlice len cap lo hi mx).run P w = .ok (l,h,m) w := by
 obtain ⟨m,h1,hm1⟩ := bdW_run (P := P) h
 obtain ⟨hh,h2,hh1⟩ := bdW_run (P := P) h1
 obtain ⟨l,h3,hl1⟩ := bdW_run (P := P) h2
 refine ⟨l,hh,m,h3,fun w => ?_⟩
 rcases hm1 with ⟨rfl,rfl⟩ | ⟨vm,rfl,rm⟩ <;> rcases hh1 with ⟨rfl,rfl⟩ | ⟨vh,rfl,rh⟩ <;> rcases hl1 with ⟨rfl,rfl⟩ | ⟨vl,rfl,rl⟩ <;>
   first
     | (simp at hm; done)
     | simp [Instr.sliceBounds,run_bind,run_pure, *]
theorem putW_fill {place : Nat → Option (Nat × Nat)} {f : Fr} {K : List Value → Prop} : ∀ (parts : List (Nat × Operand)) (l : List (Nat × Nat × Value)) (cells : List Value),
   partsAt place f parts = some l → putW cells l K → ∃ cs,K cs ∧ Instr.fill place cells.toArray (parts.map fun p => (p.1,ev f p.2)) = some cs.toArray
 | [],l,cells,hp,h => by
   simp only [partsAt,Option.some.injEq] at hp
   subst hp
   exact ⟨cells,h,rfl⟩
 | (i,x) :: r,l,cells,hp,h => by
   simp only [partsAt] at hp
   cases hpl : place i with
   | none => simp [hpl] at hp
   | some os =>
     obtain ⟨off,size⟩ := os
     cases hr : partsAt place f r with
     | none => simp [hpl,hr] at hp
     | some l' =>
       simp only [hpl,hr,Option.some.injEq] at hp
       subst hp
       obtain ⟨h1,h2,h3⟩ := h
       obtain ⟨cs,hk,hf⟩ := putW_fill r l' _ hr h3
       refine ⟨cs,hk,?_⟩
       simp only [List.map_cons,Instr.fill,hpl]
       rw [if_neg (by simp [h1]; omega)]
       rw [← hf]
       congr 1
       have key : ∀ (vs : List Value) (k : Nat) (cs : List Value),off + k + vs.length ≤ cs.length →
           (vs.zipIdx k).foldl (fun (a : Array Value) (p : Value × Nat) => a.setIfInBounds (off + p.2) p.1) cs.toArray = (cs.take (off + k) ++ (vs ++ cs.drop (off + k + vs.length))).toArray := by
         intro vs
         induction vs with
         | nil => intro k cs _; simp
         | cons v vs ih =>
           intro k cs hle
           simp only [List.length_cons] at hle
           simp only [List.zipIdx_cons,List.foldl_cons]
           rw [List.setIfInBounds_toArray,ih (k + 1) _ (by simp; omega)]
           congr 1
           apply List.ext_getElem?
           intro j
           simp only [List.getElem?_append,List.length_take,List.length_set,List.getElem?_take,List.getElem?_set,List.getElem?_drop,List.length_cons,List.getElem?_cons]
           (repeat' split) <;> first
             | rfl
             | omega
             | (simp_all; done)
             | (congr 1; omega)
             | (rename_i h1 h2 h3; simp at h1; omega)
       have hk := key (ev f x).cells.toList 0 cells (by simp; omega)
       simp only [Nat.add_zero] at hk
       rw [← h1]
       simp only [Array.length_toList] at hk
       rw [← hk,← Array.foldl_toList]
       simp
def YieldsN (P : Program) (s : Sem Next) (K : Value → Prop) : Prop := ∃ v,K v ∧ ∀ w,s.run P w = .ok (.value v) w
theorem YieldsN.of1 {P : Program} {s : Sem Value} {K : Value → Prop} (h : Yields1 P s K) : YieldsN P (do pure (.value (← s))) K := by
 obtain ⟨v,hk,hr⟩ := h
 exact ⟨v,hk,fun w => by rw [run_bind,hr]; rfl⟩
theorem beq_dec {α : Type} [BEq α] [LawfulBEq α] [DecidableEq α] (a b : α) : (a == b) = decide (a = b) := by
 by_cases h : a = b <;> simp [h]
theorem y_bin {P : Program} {op : BinOp} {T : TypeId} {x y : Operand} {f : Fr} {K : Value → Prop} (h : binW op (ev f x) (ev f y) K) :
   Yields1 P (do eqGuard op T x y (ev f x) (ev f y); binOp op T (ev f x) (ev f y)) K := by
 generalize ev f x = a at *
 generalize ev f y = b at *
 cases a <;> cases b <;> simp only [binW] at h <;> first | exact h.elim | skip
 case int.int k a k' b =>
   have hg : ∀ w,(eqGuard op T x y (.int k a) (.int k' b)).run P w = .ok () w := fun w => by cases op <;> simp [eqGuard,run_pure]
   cases op <;> simp only at h
   case shl => exact ⟨_,h.2,fun w => by rw [run_bind,hg]; simp [binOp,Op.shift,run_pure,Int.not_lt.2 h.1]⟩
   case shr => exact ⟨_,h.2,fun w => by rw [run_bind,hg]; simp [binOp,Op.shift,run_pure,Int.not_lt.2 h.1]⟩
   case quo => obtain ⟨rfl,hb,hk⟩ := h; exact ⟨_,hk,fun w => by rw [run_bind,hg]; simp [binOp,Op.intDiv,run_pure,hb]⟩
   case rem => obtain ⟨rfl,hb,hk⟩ := h; exact ⟨_,hk,fun w => by rw [run_bind,hg]; simp [binOp,Op.intDiv,run_pure,hb]⟩
   case add => obtain ⟨rfl,hk⟩ := h; exact ⟨_,hk,fun w => by rw [run_bind,hg]; simp [binOp,Op.intArith,run_pure]⟩
   case sub => obtain ⟨rfl,hk⟩ := h; exact ⟨_,hk,fun w => by rw [run_bind,hg]; simp [binOp,Op.intArith,run_pure]⟩
   case mul => obtain ⟨rfl,hk⟩ := h; exact ⟨_,hk,fun w => by rw [run_bind,hg]; simp [binOp,Op.intArith,run_pure]⟩
   case and => obtain ⟨rfl,hk⟩ := h; exact ⟨_,hk,fun w => by rw [run_bind,hg]; simp only [binOp,Op.intBits,ne_eq,not_true_eq_false,if_false]; rfl⟩
   case or => obtain ⟨rfl,hk⟩ := h; exact ⟨_,hk,fun w => by rw [run_bind,hg]; simp only [binOp,Op.intBits,ne_eq,not_true_eq_false,if_false]; rfl⟩
   case xor => obtain ⟨rfl,hk⟩ := h; exact ⟨_,hk,fun w => by rw [run_bind,hg]; simp only [binOp,Op.intBits,ne_eq,not_true_eq_false,if_false]; rfl⟩
   case andNot => obtain ⟨rfl,hk⟩ := h; exact ⟨_,hk,fun w => by rw [run_bind,hg]; simp only [binOp,Op.intBits,ne_eq,not_true_eq_false,if_false]; rfl⟩
   case eql => obtain ⟨rfl,hk⟩ := h; exact ⟨_,hk,fun w => by rw [run_bind,hg]; simp [binOp,Op.intCmp,run_pure,beq_dec]⟩
   case neq => obtain ⟨rfl,hk⟩ := h; exact ⟨_,hk,fun w => by rw [run_bind,hg]; simp [binOp,Op.intCmp,run_pure,bne,beq_dec]⟩
   case lss => obtain ⟨rfl,hk⟩ := h; exact ⟨_,hk,fun w => by rw [run_bind,hg]; simp [binOp,Op.intCmp,run_pure]⟩
   case leq => obtain ⟨rfl,hk⟩ := h; exact ⟨_,hk,fun w => by rw [run_bind,hg]; simp [binOp,Op.intCmp,run_pure]⟩
   case gtr => obtain ⟨rfl,hk⟩ := h; exact ⟨_,hk,fun w => by rw [run_bind,hg]; simp [binOp,Op.intCmp,run_pure]⟩
   case geq => obtain ⟨rfl,hk⟩ := h; exact ⟨_,hk,fun w => by rw [run_bind,hg]; simp [binOp,Op.intCmp,run_pure]⟩
 case string.string a b =>
   have hg : ∀ w,(eqGuard op T x y (.string a) (.string b)).run P w = .ok () w := fun w => by cases op <;> simp [eqGuard,run_pure]
   have he : (a.toList == b.toList) = decide (a.data.toList = b.data.toList) := by rw [ByteArray.toList_eq,ByteArray.toList_eq,beq_dec]
   have hl : Op.bytesLess a.toList b.toList = Op.bytesLess a.data.toList b.data.toList := by rw [ByteArray.toList_eq,ByteArray.toList_eq]
   cases op <;> simp only at h <;> first | exact h.elim | skip
   case add => exact ⟨_,h.2,fun w => by rw [run_bind,hg]; simp only [binOp,Op.stringOp]; rw [if_neg (by have := h.1; omega)]; rfl⟩
   case eql => exact ⟨_,h,fun w => by rw [run_bind,hg]; simp only [binOp,Op.stringOp]; rw [he]; rfl⟩
   case neq => exact ⟨_,h,fun w => by rw [run_bind,hg]; simp only [binOp,Op.stringOp]; rw [he]; simp [run_pure]⟩
   case lss => exact ⟨_,h,fun w => by rw [run_bind,hg]; simp only [binOp,Op.stringOp]; rw [hl]; rfl⟩
   case leq => exact ⟨_,h,fun w => by rw [run_bind,hg]; simp only [binOp,Op.stringOp]; rw [he,hl]; rfl⟩
   case gtr => exact ⟨_,h,fun w => by rw [run_bind,hg]; simp only [binOp,Op.stringOp]; rw [he,hl]; rfl⟩
   case geq => exact ⟨_,h,fun w => by rw [run_bind,hg]; simp only [binOp,Op.stringOp]; rw [hl]; rfl⟩
theorem eqK_guard {P : Program} {op : BinOp} {T : TypeId} {x y : Operand} {k : EqK} {n : Bool} {a b : Value} {K : Value → Prop} (h : eqW k n a b K) (w : World) :
   (eqGuard op T x y a b).run P w = .ok () w := by
 cases op <;> simp only [eqGuard] <;> first | rfl | (cases a <;> cases b <;> first | rfl | (cases k <;> exact h.elim))
theorem y_eq {P : Program} {T : TypeId} {x y : Operand} {f : Fr} {d : TypeDesc} {k : EqK} {n : Bool} {K : Value → Prop} (hd : P.underlying T = some d) (hk : EqK.of d = some k)
   (h : eqW k n (ev f x) (ev f y) K) :
   Yields1 P (do eqGuard (bif n then .neq else .eql) T x y (ev f x) (ev f y); binOp (bif n then .neq else .eql) T (ev f x) (ev f y)) K := by
 have hg := fun w => eqK_guard (P := P) (op := (bif n then .neq else .eql)) (T := T) (x := x) (y := y) h w
 generalize ev f x = a at *
 generalize ev f y = b at *
 have key : ∀ (a b : Value) (r : Bool),(∀ m w,(Op.equalIn (m + 1) T a b).run P w = .ok r w) →
     (binOp .eql T a b = (do pure (.bool (← Op.equal T a b)))) → (binOp .neq T a b = (do pure (.bool (!(← Op.equal T a b))))) → K (.bool (n ^^ r)) → (∀ w,(eqGuard (bif n then .neq else .eql) T x y a b).run P w = .ok () w) →
     Yields1 P (do eqGuard (bif n then .neq else .eql) T x y a b; binOp (bif n then .neq else .eql) T a b) K := by
   intro a b r h0 h1 h2 hK hg
   have he : ∀ w,(Op.equal T a b).run P w = .ok r w := fun w => h0 9999 w
   refine ⟨_,hK,fun w => ?_⟩
   rw [run_bind,hg]
   cases n
   · simp only [cond_false,h1,run_bind,he,run_pure,Bool.false_bne]
   · simp only [cond_true,h2,run_bind,he,run_pure,Bool.true_bne]
 have hu := fun w => run_underlying' hd w
 cases d <;> simp only [EqK.of,reduceCtorEq,Option.some.injEq] at hk <;> subst hk <;> unfold eqW at h <;> split at h <;> first
   | exact h.elim
   | (rename_i he _ _; cases he; done)
   | (rename_i he; cases he; done)
   | exact key _ _ _ (fun m w => by simp only [Op.equalIn,run_bind,hu]; exact run_pure _ _ _) rfl rfl h hg
   | exact key _ _ true (fun m w => by simp [Op.equalIn,run_bind,hu,run_pure]) rfl rfl (by simpa using h) hg
   | exact key _ _ false (fun m w => by simp [Op.equalIn,run_bind,hu,run_pure]) rfl rfl (by simpa using h) hg
   | (rename_i he1 he2 he3; cases he1; done)
   | (simp_all; done)
end Go.Eng
namespace Go.Eng
open Go
theorem evl_map (f : Fr) (a : Array Operand) : a.map (ev f) = (evl f a).toArray := by apply Array.ext'; simp [evl]
theorem run_pure_fn {P : Program} {fn : Fn} {a b : Array Value} {w : World} : (Instr.makeFunc fn a b).run P w = .ok (.func fn a b) w := rfl
theorem build_run {P : Program} {T : TypeId} {f : Fr} {parts : Array (Nat × Operand)} {K : Value → Prop} (h : buildW P T f parts.toList K) :
   Yields1 P (Instr.build T (parts.map fun (i,x) => (i,ev f x))) K := by
 unfold buildW at h
 have hparts : (parts.map fun (i,x) => (i,ev f x)).toList = parts.toList.map fun p => (p.1,ev f p.2) := by simp
 split at h
 · rename_i fs z hd hz
   split at h
   · rename_i l hl
     replace h := andB.out h
     obtain ⟨hall,hp⟩ := h
     obtain ⟨cs,hk,hf⟩ := putW_fill _ _ _ hl hp
     refine ⟨_,hk,fun w => ?_⟩
     have hmap : ∀ w,(fs.mapM fun g => do pure (g.offset,← sizeOf g.type) : Sem (Array (Nat × Nat))).run P w = .ok (fs.map fun g => (g.offset,sizeT P g.type)) w := by
       intro w
       have : ∀ (l : List Field),(∀ g ∈ l,(P.info? g.type).isSome = true) → ∀ w,(l.mapM fun g => do pure (g.offset,← sizeOf g.type) : Sem (List (Nat × Nat))).run P w = .ok (l.map fun g => (g.offset,sizeT P g.type)) w := by
         intro l
         induction l with
         | nil => intro _ w; rfl
         | cons g l ih =>
           intro hg w
           rw [List.mapM_cons]
           simp only [run_bind,run_sizeOf' (hg g (by simp)),run_pure,ih (fun x hx => hg x (by simp [hx])),List.map_cons]
       have hfs := this fs.toList (fun g hg => Array.all_eq_true_iff_forall_mem.1 hall g (by simpa using hg)) w
       rw [Array.mapM_eq_mapM_toList,← bind_pure_comp,run_bind,hfs]
       show Result.ok _ _ = _
       congr 1
       apply Array.ext'; simp
     simp only [Instr.build,run_bind,zeroT_run hz,run_underlying' hd,hmap]
     rw [hparts]
     have hpl : (fun (i : Nat) => (fs.map fun (g : Field) => (g.offset,sizeT P g.type))[i]?) = sPlace P fs := by
       funext i; rw [Array.getElem?_map]; unfold sPlace; cases fs[i]? <;> rfl
     rw [hpl]
     simp only [Array.toArray_toList] at hf
     rw [hf]
     rfl
   · exact h.elim
 · rename_i n e z hd hz
   split at h
   · rename_i l hl
     replace h := andB.out h
     obtain ⟨hall,hp⟩ := h
     obtain ⟨cs,hk,hf⟩ := putW_fill _ _ _ hl hp
     refine ⟨_,hk,fun w => ?_⟩
     simp only [Instr.build,run_bind,zeroT_run hz,run_underlying' hd,run_sizeOf' hall]
     rw [hparts]
     simp only [Array.toArray_toList] at hf
     rw [hf]
     rfl
   · exact h.elim
 · exact h.elim
theorem extract_ofL (s : ByteArray) (l h : Nat) : s.extract l h = ofL ((s.data.toList.take h).drop l) := by
 apply ByteArray.ext
 apply Array.ext'
 simp [ofL,ByteArray.extract,ByteArray.copySlice,List.drop_take]
theorem slice_run {P : Program} {T : TypeId} {x : Value} {lo hi mx : Option Value} {K : Value → Prop} (h : sliceW P T x lo hi mx K) :
   Yields1 P (Instr.sliceAt T x lo hi mx) K := by
 unfold sliceW at h
 split at h
 · rename_i hd
   replace h := andB.out h
   obtain ⟨hm,h⟩ := h
   cases mx with
   | some _ => cases hm
   | none =>
     cases x <;> simp only [slsW] at h <;> try exact h.elim
     rename_i s
     have h' : bdW (none : Option Value) s.size s.size fun m => bdW hi s.size m fun h => bdW lo 0 h fun l => (fun l h (_ : Nat) => K (.string (ofL ((s.data.toList.take h).drop l)))) l h m := h
     obtain ⟨l,hh,m,hk,hr⟩ := bounds_run (P := P) (isSlice := false) (by simp) h'
     refine ⟨_,hk,fun w => ?_⟩
     simp only [Instr.sliceAt,run_bind,run_underlying' hd,Instr.slice]
     simp [hr,run_bind,run_underlying' hd,run_pure]
     apply extract_ofL
 · rename_i e hd
   replace h := andB.out h
   obtain ⟨hm,h⟩ := h
   replace h := andB.out h
   obtain ⟨he,h⟩ := h
   replace hm : mx.isSome = true → hi.isSome = true := fun hx => by rw [hx] at hm; simpa using hm
   cases x <;> simp only [sllW] at h <;> try exact h.elim
   rename_i a len cap
   obtain ⟨l,hh,m,hk,hr⟩ := bounds_run (P := P) (isSlice := true) (K := fun l h m => K (.slice (if m = l then a else a.map (·.add (l * sizeT P e))) (h - l) (m - l))) hm h
   refine ⟨_,hk,fun w => ?_⟩
   simp only [Instr.sliceAt,run_bind,run_underlying' hd,Instr.slice]
   simp [hr,run_bind,run_underlying' hd,run_pure,run_sizeOf' he]
 · rename_i n e hd
   replace h := andB.out h
   obtain ⟨hm,h⟩ := h
   replace h := andB.out h
   obtain ⟨he,h⟩ := h
   replace hm : mx.isSome = true → hi.isSome = true := fun hx => by rw [hx] at hm; simpa using hm
   cases x <;> simp only [slaW] at h <;> try exact h.elim
   rename_i a
   cases a with
   | none => exact h.elim
   | some a =>
     obtain ⟨l,hh,m,hk,hr⟩ := bounds_run (P := P) (isSlice := false) (K := fun l h m => K (.slice (some (if m = l then a else a.add (l * sizeT P e))) (h - l) (m - l))) hm h
     refine ⟨_,hk,fun w => ?_⟩
     simp [Instr.sliceAt,Instr.sureAddr,run_bind,run_underlying' hd,hr,run_pure,run_sizeOf' he]
 · exact h.elim
theorem pure_sound {P : Program} {f : Fr} {o : Oper} {K : Value → Prop} (h : pureW P f o.op K) : YieldsN P (execOp (ev f) o) K := by
 obtain ⟨dst,op,type,pos,after,guard⟩ := o
 cases op <;> simp only [pureW] at h <;> try exact h.elim
 case move x => exact ⟨_,h,fun w => rfl⟩
 case assign x => exact ⟨_,h,fun w => rfl⟩
 case pick c a b =>
   simp only [execOp]
   generalize ev f c = cv at *
   cases cv <;> simp only [pickW] at h <;> try exact h.elim
   rename_i t
   exact ⟨_,h,fun w => by cases t <;> rfl⟩
 case nilCheck x =>
   simp only [execOp]
   generalize ev f x = v at *
   cases v <;> simp only [nilW] at h <;> try exact h.elim
   case pointer a => cases a <;> first | exact h.elim | exact ⟨_,h,fun w => rfl⟩
   case func fn _ _ => cases fn <;> first | exact h.elim | exact ⟨_,h,fun w => rfl⟩
   case iface => exact ⟨_,h,fun w => rfl⟩
 case binOp op T x y yT =>
   simp only [execOp]
   refine YieldsN.of1 ?_
   unfold cmpW at h
   cases hd : P.underlying T with
   | none =>
     rw [hd] at h
     exact y_bin (by cases op <;> exact h)
   | some d =>
     rw [hd] at h
     cases hk : EqK.of d with
     | none => simp only [hk] at h; exact y_bin (by cases op <;> exact h)
     | some k =>
       simp only [hk] at h
       cases op <;> first
         | exact y_eq (n := false) hd hk h
         | exact y_eq (n := true) hd hk h
         | exact y_bin h
 case unOp op T x =>
   simp only [execOp]
   refine YieldsN.of1 ?_
   generalize ev f x = v at *
   cases op <;> cases v <;> simp only [unW] at h <;> first
     | exact h.elim
     | exact ⟨_,h,fun w => rfl⟩
 case convert s d x =>
   simp only [execOp]
   refine YieldsN.of1 ?_
   unfold convW at h
   generalize ev f x = v at *
   split at h
   · rename_i k1 k2 hs hd
     cases v <;> simp only [cvtW] at h <;> try exact h.elim
     exact ⟨_,h,fun w => by simp [convert,run_bind,run_underlying' hs,run_underlying' hd,Conv.intToInt,run_pure]⟩
   · rename_i k1 hs hd
     cases v <;> simp only [cvsW] at h <;> try exact h.elim
     · exact ⟨_,h,fun w => by simp [convert,run_bind,run_underlying' hs,run_underlying' hd,Conv.intToString,run_pure]⟩
     · exact ⟨_,h,fun w => by simp [convert,run_bind,run_underlying' hs,run_underlying' hd,run_pure]⟩
   · rename_i hs hd
     cases v <;> simp only [cvsW] at h <;> try exact h.elim
     · exact ⟨_,h,fun w => by simp [convert,run_bind,run_underlying' hs,run_underlying' hd,Conv.intToString,run_pure]⟩
     · exact ⟨_,h,fun w => by simp [convert,run_bind,run_underlying' hs,run_underlying' hd,run_pure]⟩
   · exact h.elim
 case makeInterface T x =>
   simp only [execOp]
   refine YieldsN.of1 ?_
   cases hd : P.underlying T with
   | none => rw [hd] at h; exact h.elim
   | some d =>
     rw [hd] at h
     cases d <;> first
       | exact h.elim
       | exact ⟨_,h,fun w => by simp [Instr.makeInterface,run_bind,run_underlying' hd,run_pure]⟩
 case makeFunc fn first cap =>
   simp only [execOp]
   refine YieldsN.of1 ⟨_,h,fun w => by rw [run_pure_fn,evl_map,evl_map]⟩
 case field T x i =>
   simp only [execOp]
   refine YieldsN.of1 ?_
   split at h
   · rename_i fs hd
     split at h
     · rename_i g hg
       replace h := andB.out h
       obtain ⟨h1,h2⟩ := h
       obtain ⟨cs,hx,v,hk,hr⟩ := part_run h1 h2
       exact ⟨v,hk,fun w => by simp [Instr.field,run_bind,run_underlying' hd,hg,hx,asAgg,run_pure,hr]⟩
     · exact h.elim
   · exact h.elim
 case fieldAddr T x i =>
   simp only [execOp]
   refine YieldsN.of1 ?_
   split at h
   · rename_i fs hd
     split at h
     · rename_i g hg
       replace h := andB.out h
       obtain ⟨h1,h2⟩ := h
       replace h1 : sizeT P g.type ≠ 0 := fun hz => by rw [hz] at h1; simp at h1
       generalize ev f x = v at *
       cases v <;> simp only [fldW] at h2 <;> try exact h2.elim
       rename_i a
       cases a with
       | none => exact h2.elim
       | some a =>
         have hinfo : (P.info? g.type).isSome = true := by
           unfold sizeT at h1
           cases hi : P.info? g.type with
           | none => rw [hi] at h1; exact absurd rfl h1
           | some i => rfl
         exact ⟨_,h2,fun w => by simp [Instr.fieldAt,run_bind,run_underlying' hd,hg,Instr.sureAddr,run_pure,fieldPlace,run_sizeOf' hinfo,h1]⟩
     · exact h.elim
   · exact h.elim
 case indexAddr T x i =>
   simp only [execOp]
   refine YieldsN.of1 ?_
   unfold indexAddrW at h
   generalize ev f x = v at *
   generalize ev f i = iv at *
   split at h
   · rename_i e hd
     replace h := andB.out h
     obtain ⟨he,h⟩ := h
     unfold ixaW at h
     split at h
     · rename_i a n cap k j _
       obtain ⟨h0,h1,hk⟩ := h
       exact ⟨_,hk,fun w => by simp [Instr.indexAt,asIntOf,run_bind,run_underlying' hd,run_pure,h0,h1,run_sizeOf' he]⟩
     · rename_i heq; cases heq
     · exact h.elim
   · rename_i n e hd
     replace h := andB.out h
     obtain ⟨he,h⟩ := h
     unfold ixaW at h
     split at h
     · rename_i heq; cases heq
     · rename_i n' a k j heq
       cases heq
       obtain ⟨h0,h1,hk⟩ := h
       exact ⟨_,hk,fun w => by simp [Instr.indexAt,asIntOf,run_bind,run_underlying' hd,run_pure,h0,h1,Instr.sureAddr,run_sizeOf' he]⟩
     · exact h.elim
   · exact h.elim
 case index T x i =>
   simp only [execOp]
   refine YieldsN.of1 ?_
   unfold indexW at h
   generalize ev f x = v at *
   generalize ev f i = iv at *
   split at h
   · rename_i hd
     unfold ixsW at h
     split at h
     · rename_i s k j
       obtain ⟨h0,b,hb,hk⟩ := h
       have hb' : s[j.toNat]? = some b := by
         rw [← hb]
         show (if h : j.toNat < s.size then some s[j.toNat] else none) = _
         by_cases hlt : j.toNat < s.size
         · rw [dif_pos hlt,List.getElem?_eq_getElem (by simpa using hlt)]; rfl
         · rw [dif_neg hlt,List.getElem?_eq_none (by simpa using hlt)]
       exact ⟨_,hk,fun w => by simp [Instr.index,asIntOf,run_bind,run_underlying' hd,run_pure,h0,hb']⟩
     · exact h.elim
   · rename_i n e hd
     replace h := andB.out h
     obtain ⟨he,h⟩ := h
     cases iv <;> simp only [ixgW] at h <;> try exact h.elim
     rename_i k j
     obtain ⟨h0,h1,hp⟩ := h
     obtain ⟨cs,hx,u,hk,hr⟩ := part_run (P := P) he hp
     exact ⟨u,hk,fun w => by simp [Instr.index,asIntOf,run_bind,run_underlying' hd,run_pure,hx,h0,h1,run_sizeOf' (underlying_info he),hr]⟩
   · exact h.elim
 case slice T x lo hi mx =>
   simp only [execOp]
   exact YieldsN.of1 (slice_run h)
 case extract t i =>
   simp only [execOp]
   refine YieldsN.of1 ?_
   generalize ev f t = v at *
   cases v <;> simp only [extW] at h <;> try exact h.elim
   split at h
   · rename_i v hv
     exact ⟨_,h,fun w => by simp [Instr.extract,hv,run_pure]⟩
   · exact h.elim
 case build T parts =>
   simp only [execOp]
   exact YieldsN.of1 (build_run h)
 case call c =>
   obtain ⟨callee,args,argTypes⟩ := c
   cases callee <;> simp only at h <;> try exact h.elim
   rename_i b
   have hargs : args.map (ev f) = (evl f args).toArray := by rw [evl_map]
   simp only [execOp,resolve,hargs]
   generalize evl f args = az at *
   unfold pureCallW at h
   split at h
   · rename_i x
     split at h
     · rename_i T hT
       split at h
       · rename_i hd
         unfold lensW at h
         split at h
         · exact ⟨_,h,fun w => by simp [run_bind,run_pure,invoke,builtin,Builtin.len_,hT,run_underlying' hd,goInt]⟩
         · exact h.elim
       · rename_i e hd
         unfold lenlW at h
         split at h
         · exact ⟨_,h,fun w => by simp [run_bind,run_pure,invoke,builtin,Builtin.len_,hT,run_underlying' hd,goInt]⟩
         · exact h.elim
       · rename_i n e hd
         exact ⟨_,h,fun w => by simp [run_bind,run_pure,invoke,builtin,Builtin.len_,hT,run_underlying' hd,goInt]⟩
       · exact h.elim
     · exact h.elim
   · rename_i x
     split at h
     · rename_i T hT
       split at h
       · rename_i e hd
         unfold capW at h
         split at h
         · exact ⟨_,h,fun w => by simp [run_bind,run_pure,invoke,builtin,Builtin.cap_,hT,run_underlying' hd,goInt]⟩
         · exact h.elim
       · exact h.elim
     · exact h.elim
   · rename_i x y
     unfold minW at h
     split at h
     · exact ⟨_,h,fun w => by simp [run_bind,run_pure,invoke,builtin,Builtin.min_,Builtin.min2]⟩
     · exact h.elim
   · rename_i x y z
     unfold min3W at h
     split at h
     · exact ⟨_,h,fun w => by simp [run_bind,run_pure,invoke,builtin,Builtin.min_,Builtin.min2]⟩
     · exact h.elim
   · rename_i x y
     unfold maxW at h
     split at h
     · exact ⟨_,h,fun w => by simp [run_bind,run_pure,invoke,builtin,Builtin.max_,Builtin.max2]⟩
     · exact h.elim
   · exact h.elim
end Go.Eng
namespace Go.Eng
open Go
def isC : Operand → Bool
 | .const _ => true
 | _ => false
def stand (c : Bool) : Operand := bif c then .const undef else .tmp 0
def eqQ (P : Program) (op : BinOp) (T : TypeId) (cx cy : Bool) (a b : Value) (w : World) (K : Value → Prop) : Prop :=
 semQ P (do eqGuard op T (stand cx) (stand cy) a b; binOp op T a b) w K
def readW (P : Program) (f : Fr) (o : Oper) (w : World) (K : Value → Prop) : Prop :=
 match o.op with
 | .load T a => andB (P.underlying T).isSome (ldW (isAggT P T) (sizeT P T) (ev f a) w K)
 | .lookup T x i ok => semQ P (Instr.lookup T (ev f x) (ev f i) ok) w K
 | .binOp op T x y _ => eqQ P op T (isC x) (isC y) (ev f x) (ev f y) w K
 | .convert s d x => semQ P (convert s d (ev f x)) w K
 | .typeAssert x xT aT ok => semQ P (Instr.typeAssert (ev f x) xT aT ok) w K
 | .entry it => semQ P (Instr.entry (ev f it)) w K
 | .call { callee := .builtin b,args,argTypes } => (match b with
     | .len => semQ P (Builtin.len_ argTypes o.type (evl f args).toArray) w K
     | _ => False)
 | _ => False
def isRead (P : Program) : Op → Bool
 | .load .. | .lookup .. | .binOp .. | .typeAssert .. | .entry .. => true
 | .convert s d _ => (match P.underlying s,P.underlying d with | some (.slice _),some .string => true | _,_ => false)
 | .call { callee := .builtin b,.. } => (match b with | .len => true | _ => false)
 | _ => false
def zerosOf (n : Nat) (z : List Value) : List Value := match n with | 0 => [] | n + 1 => z ++ zerosOf n z
def buildSliceW (P : Program) (T : TypeId) (len : Nat) (f : Fr) (parts : List (Nat × Operand)) (w : World) (K : Value → World → Prop) : Prop :=
 match P.underlying T with
 | some (.slice e) => (match zeroT P e,partsAt (fun i => some (i * sizeT P e,sizeT P e)) f parts with
     | some z,some l => andB (P.info? e).isSome (andB (Nat.beq z.cells.size (sizeT P e)) (andB (Nat.ble (len * sizeT P e) 1000) (bslW e len (zerosOf len z.cells.toList) l w K)))
     | _,_ => False)
 | _ => False
def effW [HX] (P : Program) (f : Fr) (o : Oper) (w : World) (K : Value → World → Prop) : Prop :=
 match o.op with
 | .alloc T => (match zeroT P T with | some z => allocW T z.cells.toList w K | none => False)
 | .box T x => boxW T (ev f x) w K
 | .buildSlice T n parts => buildSliceW P T n f parts.toList w K
 | .store T a x => andB (P.info? T).isSome (stW (sizeT P T) (ev f a) (ev f x) w (K undef))
 | .mapUpdate T m k x | .insert T m k x => semU P (Instr.mapUpdate T (ev f m) (ev f k) (ev f x)) w (K undef)
 | .makeMap T r => semE P (Instr.makeMap T (r.map (ev f))) w K
 | .makeSlice T l c => semE P (Instr.makeSlice T (ev f l) (ev f c)) w K
 | .range T x => semE P (Instr.range T (ev f x)) w K
 | .next it s => semE P (Instr.next (ev f it) s o.type) w K
 | .convert s d x => semE P (convert s d (ev f x)) w K
 | .call { callee := .value x,args,.. } => (match x with
     | .func g => callF P g (evl f args) w K
     | _ => callV P (ev f x) (evl f args) w K)
 | .call { callee := .invoke r m,args,.. } => semN P (callMethod (ev f r) m (evl f args).toArray) w K
 | .panic x => pncW (ev f x) w
 | .call { callee := .builtin b,args,argTypes } => (match b with
     | .append => semE P (Builtin.append_ argTypes o.type (evl f args).toArray) w K
     | .copy => semE P (Builtin.copy_ argTypes o.type (evl f args).toArray) w K
     | .delete => semE P (Builtin.delete_ argTypes o.type (evl f args).toArray) w K
     | .clear => semE P (Builtin.clear_ argTypes o.type (evl f args).toArray) w K
     | .panic => pncW ((evl f args).getD 0 undef) w
     | _ => False)
 | _ => False
def anyW [HX] (P : Program) (f : Fr) (o : Oper) (w : World) (K : Value → World → Prop) : Prop :=
 match isPure P o.op with
 | true => pureW P f o.op (fun v => K v w)
 | false => (match isRead P o.op with
   | true => readW P f o w (fun v => K v w)
   | false => effW P f o w K)
theorem run_load1 {P : Program} {a : Addr} {w : World} {v : Value} (h : w.cell? a = some v) : (load a).run P w = .ok v w := by
 simp [load,Sem.run,h]
theorem loadCellsFrom_run {P : Program} {a : Addr} {w : World} : ∀ (n i : Nat) (l : List Value) (acc : Array Value),cellsAt w a i n = some l →
   (loadCellsFrom a i n acc).run P w = .ok (acc ++ l.toArray) w
 | 0,i,l,acc,h => by
   simp only [cellsAt,Option.some.injEq] at h
   subst h
   simp [loadCellsFrom,run_pure]
 | n + 1,i,l,acc,h => by
   simp only [cellsAt] at h
   cases hc : w.cell? (a.add i) with
   | none => simp [hc] at h
   | some v =>
     cases hr : cellsAt w a (i + 1) n with
     | none => simp [hc,hr] at h
     | some l' =>
       simp only [hc,hr,Option.map_some,Option.some.injEq] at h
       subst h
       simp only [loadCellsFrom,run_bind,run_load1 hc,loadCellsFrom_run n (i + 1) l' _ hr]
       simp
theorem ld_run {P : Program} {T : TypeId} {x : Value} {w : World} {K : Value → Prop} (hT : (P.underlying T).isSome = true) (h : ldW (isAggT P T) (sizeT P T) x w K) :
   ∃ v,K v ∧ (Instr.loadAt T x).run P w = .ok v w := by
 cases x <;> simp only [ldW] at h <;> try exact h.elim
 rename_i a
 cases a with
 | none => exact h.elim
 | some a =>
   simp only at h
   cases ha : isAggT P T with
   | true =>
     rw [ha] at h
     obtain ⟨l,hl,hk⟩ := h
     refine ⟨_,hk,?_⟩
     simp [Instr.loadAt,Instr.sureAddr,loadVar,run_bind,run_pure,run_isAgg' hT,ha,run_sizeOf' (underlying_info hT),loadCells,loadCellsFrom_run _ _ _ _ hl]
   | false =>
     rw [ha] at h
     obtain ⟨v,hv,hk⟩ := h
     refine ⟨_,hk,?_⟩
     simp [Instr.loadAt,Instr.sureAddr,loadVar,run_bind,run_pure,run_isAgg' hT,ha]
     first | exact run_load1 hv | (rw [hv])
theorem eqGuard_stand (op : BinOp) (T : TypeId) (x y : Operand) (a b : Value) : eqGuard op T (stand (isC x)) (stand (isC y)) a b = eqGuard op T x y a b := by
 cases x <;> cases y <;> rfl
theorem read_sound {P : Program} {f : Fr} {o : Oper} {w : World} {K : Value → Prop} (h : readW P f o w K) :
   ∃ v,K v ∧ (execOp (ev f) o).run P w = .ok (.value v) w := by
 have key : ∀ (s : Sem Value),(∃ v,K v ∧ s.run P w = .ok v w) → ∃ v,K v ∧ (do pure (.value (← s)) : Sem Next).run P w = .ok (.value v) w := by
   rintro s ⟨v,hk,hr⟩
   exact ⟨v,hk,by rw [run_bind,hr]; rfl⟩
 have key2 : ∀ (s : Sem Value),semQ P s w K → ∃ v,K v ∧ s.run P w = .ok v w := fun s ⟨v,hr,hk⟩ => ⟨v,hk,hr⟩
 obtain ⟨dst,op,type,pos,after,guard⟩ := o
 cases op <;> simp only [readW] at h <;> try exact h.elim
 case load T a => simp only [execOp]; exact key _ (ld_run (andB.out h).1 (andB.out h).2)
 case lookup T x i ok => simp only [execOp]; exact key _ (key2 _ h)
 case binOp op T x y yT =>
   simp only [execOp]
   refine key _ (key2 _ ?_)
   unfold eqQ at h
   rw [eqGuard_stand] at h
   exact h
 case convert s d x => simp only [execOp]; exact key _ (key2 _ h)
 case typeAssert x xT aT ok => simp only [execOp]; exact key _ (key2 _ h)
 case entry it => simp only [execOp]; exact key _ (key2 _ h)
 case call c =>
   obtain ⟨callee,args,argTypes⟩ := c
   cases callee <;> simp only at h <;> try exact h.elim
   rename_i b
   cases b <;> simp only at h <;> try exact h.elim
   simp only [execOp,resolve,evl_map]
   obtain ⟨v,hk,hr⟩ := key2 _ h
   exact ⟨v,hk,by simp [run_bind,run_pure,invoke,builtin,hr]⟩
theorem storeCells_run {P : Program} {a : Addr} {K : World → Prop} : ∀ (l : List Value) (i : Nat) (w : World),stCells a l i w K → ∃ w',K w' ∧ (storeCells a l i).run P w = .ok () w'
 | [],i,w,h => ⟨w,h,rfl⟩
 | v :: r,i,w,h => by
   obtain ⟨h1,h2,h3,h4⟩ := h
   obtain ⟨w',hk,hr⟩ := storeCells_run (P := P) r (i + 1) _ h4
   refine ⟨w',hk,?_⟩
   obtain ⟨old,ho⟩ := Option.isSome_iff_exists.1 h2
   have hs : (store (a.add i) v).run P w = .ok () (w.setCell (a.add i) v) := by
     cases v <;> first
       | (simp [one1] at h1; done)
       | (simp [store,Sem.run,ho,h3]; done)
   simp only [storeCells,run_bind,hs,hr]
theorem st_run {P : Program} {T : TypeId} {x v : Value} {w : World} {K : World → Prop} (hT : (P.info? T).isSome = true) (h : stW (sizeT P T) x v w K) :
   ∃ w',K w' ∧ (Instr.storeAt T x v).run P w = .ok () w' := by
 cases x <;> simp only [stW] at h <;> try exact h.elim
 rename_i a
 cases a with
 | none => exact h.elim
 | some a =>
   obtain ⟨h1,h2⟩ := h
   obtain ⟨w',hk,hr⟩ := storeCells_run (P := P) _ _ _ h2
   refine ⟨w',hk,?_⟩
   simp [Instr.storeAt,Instr.sureAddr,storeVar,run_bind,run_pure,run_sizeOf' hT,h1,hr]
theorem zerosOf_range {z : Array Value} {size : Nat} (hz : z.size = size) : ∀ len,((Array.range (len * size)).map (z[· % z.size]!)) = (zerosOf len z.toList).toArray := by
 subst hz
 have hlen : ∀ len,(zerosOf len z.toList).length = len * z.size := by
   intro len
   induction len with
   | zero => simp [zerosOf]
   | succ n ih => simp [zerosOf,ih,Nat.succ_mul,Nat.add_comm]
 intro len
 apply Array.ext (by simp [hlen])
 intro i h1 h2
 simp only [Array.getElem_map,Array.getElem_range,List.getElem_toArray]
 simp at h1
 have : ∀ (len i : Nat) (h : i < (zerosOf len z.toList).length),(zerosOf len z.toList)[i] = z[i % z.size]! := by
   intro len
   induction len with
   | zero => intro i h; simp [zerosOf] at h
   | succ n ih =>
     intro i h
     have hpos : 0 < z.size := by
       rcases Nat.eq_zero_or_pos z.size with h0 | h0
       · rw [hlen,h0] at h; simp at h
       · exact h0
     simp only [zerosOf,List.getElem_append]
     split
     · rename_i hi
       have hi' : i < z.size := by simpa using hi
       rw [Nat.mod_eq_of_lt hi',getElem!_pos z i hi']
       simp
     · rename_i hi
       have hi' : z.size ≤ i := by simpa using hi
       rw [ih]
       simp only [Array.length_toList]
       congr 1
       rw [Nat.mod_eq_sub_mod hi']
 rw [this]
theorem eff_sound [HX] {P : Program} {f : Fr} {o : Oper} {w : World} {K : Value → World → Prop} (h : effW P f o w K) : Res P K ((execOp (ev f) o).run P w) := by
  have keyV : ∀ (s : Sem Value), semE P s w K → Res P K ((do pure (.value (← s)) : Sem Next).run P w) := by
    intro s hs
    unfold semE at hs
    rw [run_bind]
    cases hr : s.run P w with
    | ok v w' => rw [hr] at hs; exact hs
    | halt x w' => rw [hr] at hs; exact hs.elim
  have keyU : ∀ (s : Sem Unit), semU P s w (K undef) → Res P K ((do s; pure .skip : Sem Next).run P w) := by
    intro s hs
    unfold semU at hs
    rw [run_bind]
    cases hr : s.run P w with
    | ok v w' => rw [hr] at hs; exact hs
    | halt x w' => rw [hr] at hs; exact hs.elim
  have keyP : ∀ (x : Value), pncW x w → Res P K ((do pure (.value (← Instr.panic x)) : Sem Next).run P w) := by
    intro x hs
    unfold pncW at hs
    split at hs
    · exact hs
    · exact hs.elim
  obtain ⟨dst, op, type, pos, after, guard⟩ := o
  cases op <;> simp only [effW] at h <;> try exact h.elim
  case alloc T =>
    cases hz : zeroT P T with
    | none => rw [hz] at h; exact h.elim
    | some z =>
      rw [hz] at h
      simp only [execOp]
      have hr : (Instr.alloc T true (.tuple #[])).run P w = .ok (.pointer (some ⟨w.heap.size, 0, none⟩)) (w.alloc (.cells z.cells T)) := by
        simp [Instr.alloc, run_bind, zeroT_run hz, newVar, newRow, newObj, Sem.run, run_pure]
      rw [run_bind, hr]
      exact h
  case box T x =>
    simp only [execOp]
    have hr : (Instr.box T (ev f x)).run P w = .ok (.pointer (some ⟨w.heap.size, 0, none⟩)) (w.alloc (.cells (ev f x).cells T)) := by
      simp [Instr.box, run_bind, newVar, newRow, newObj, Sem.run, run_pure]
    rw [run_bind, hr]
    exact h
  case buildSlice T n parts =>
    simp only [execOp]
    unfold buildSliceW at h
    split at h
    · rename_i e hd
      split at h
      · rename_i z l hz hl
        replace h := andB.out h
        obtain ⟨h1, h⟩ := h
        replace h := andB.out h
        obtain ⟨h2, h⟩ := h
        replace h := andB.out h
        obtain ⟨h3, h4⟩ := h
        replace h2 := Nat.eq_of_beq_eq_true h2
        replace h3 := Nat.le_of_ble_eq_true h3
        unfold bslW at h4
        obtain ⟨cs, hk, hf⟩ := putW_fill _ _ _ hl h4
        have hparts : (parts.map fun (i, x) => (i, ev f x)).toList = parts.toList.map fun p => (p.1, ev f p.2) := by simp
        have hr : (Instr.buildSlice T n (parts.map fun (i, x) => (i, ev f x))).run P w = .ok (.slice (some ⟨w.heap.size, 0, none⟩) n n) (w.alloc (.cells cs.toArray e)) := by
          simp only [Instr.buildSlice, run_bind, run_underlying' hd, run_sizeOf' h1]
          rw [if_neg (by omega)]
          have hcells := zerosOf_range (z := z.cells) h2 n
          by_cases h0 : n * sizeT P e = 0
          · rw [if_pos h0]
            simp only [run_bind, run_pure]
            have hc : ((Array.range (n * sizeT P e)).map ((#[] : Array Value)[· % (#[] : Array Value).size]!)) = (zerosOf n z.cells.toList).toArray := by
              rw [← hcells, h0]; simp [show Array.range 0 = #[] from rfl]
            rw [hc, hparts, hf]
            simp [run_bind, newRow, newObj, Sem.run, run_pure]
          · rw [if_neg h0]
            simp only [run_bind, run_pure, zeroT_run hz]
            rw [hcells, hparts, hf]
            simp [run_bind, newRow, newObj, Sem.run, run_pure]
        rw [run_bind, hr]
        exact hk
      · exact h.elim
    · exact h.elim
  case store T a x =>
    simp only [execOp]
    obtain ⟨w', hk, hr⟩ := st_run (andB.out h).1 (andB.out h).2
    rw [run_bind, hr]
    exact hk
  case mapUpdate T m k x => simp only [execOp]; exact keyU _ h
  case insert T m k x => simp only [execOp]; exact keyU _ h
  case makeMap T r => simp only [execOp]; exact keyV _ h
  case makeSlice T l c => simp only [execOp]; exact keyV _ h
  case range T x => simp only [execOp]; exact keyV _ h
  case next it s => simp only [execOp]; exact keyV _ h
  case panic x =>
    simp only [execOp]
    exact keyP _ h
  case convert s d x => simp only [execOp]; exact keyV _ h
  case call c =>
    obtain ⟨callee, args, argTypes⟩ := c
    cases callee with
    | value x =>
      simp only [execOp, resolve, evl_map]
      cases x <;> simp only at h
      case func g =>
        unfold callF at h
        have : (do let d ← (Deferred.ofValue (ev f (.func g)) (evl f args).toArray); invoke d.target d.args : Sem Next) = callFunc g (evl f args).toArray := by
          show callFunc g (#[] ++ (evl f args).toArray ++ #[]) = _
          simp
        rw [this]
        exact h
      all_goals exact h
    | invoke r m =>
      simp only at h
      simp only [execOp, resolve, evl_map]
      have : (do let d ← (pure { target := .fn (.method m) #[], args := #[ev f r] ++ (evl f args).toArray } : Sem Deferred); invoke d.target d.args : Sem Next) = callMethod (ev f r) m (evl f args).toArray := by
        show invoke (.fn (.method m) #[]) (#[ev f r] ++ (evl f args).toArray) = _
        simp [invoke]
      rw [this]
      exact h
    | builtin b =>
      simp only [execOp, resolve, evl_map]
      cases b <;> simp only at h <;> first
        | exact h.elim
        | exact keyV _ h
        | (have e : (evl f args).getD 0 undef = (evl f args).toArray.getD 0 .nilIface := by
             cases hl : evl f args with
             | nil => rw [hl] at h; exact h.elim
             | cons a r => rfl
           rw [e] at h
           exact keyP _ h)
theorem any_sound [HX] {P : Program} {f : Fr} {o : Oper} {w : World} {K : Value → World → Prop} (h : anyW P f o w K) : Res P K ((execOp (ev f) o).run P w) := by
 unfold anyW at h
 cases hp : isPure P o.op with
 | true =>
   rw [hp] at h
   simp only at h
   obtain ⟨v,hk,hr⟩ := pure_sound (o := o) h
   rw [hr]
   exact hk
 | false =>
   rw [hp] at h
   simp only at h
   cases hq : isRead P o.op with
   | true =>
     rw [hq] at h
     simp only at h
     obtain ⟨v,hk,hr⟩ := read_sound (o := o) h
     rw [hr]
     exact hk
   | false =>
     rw [hq] at h
     exact eff_sound h
end Go.Eng
namespace Go.Eng
open Go
def memb : List Nat → Nat → Bool
 | [],_ => false
 | x :: r,i => bif Nat.beq x i then true else memb r i
theorem memb_iff {l : List Nat} {i : Nat} : memb l i = true ↔ i ∈ l := by
 induction l with
 | nil => simp [memb]
 | cons x r ih =>
   simp only [memb,List.mem_cons]
   cases h : Nat.beq x i with
   | true => simp [Nat.eq_of_beq_eq_true h]
   | false =>
     have : ¬ i = x := fun e => by subst e; simp at h
     simp [this,ih]
def isB (v : Value) (want : Bool) : Bool := match v with | .bool b => b == want | _ => false
def dstOf (ops : List Oper) (g : Nat) : Option Nat := match ops[g]? with | some o => o.dst | none => none
def yv (ops : List Oper) (f : Fr) (g : Nat) (want : Bool) : Bool := match dstOf ops g with | some d => isB (f d) want | none => false
def wantF (ops : List Oper) (f : Fr) (o : Oper) : Bool := match o.guard with | none => true | some (g,want) => yv ops f g want
def Ag (n : Nat) (D : List Deferred) (f : Fr) (a : Act) : Prop := a.defers = D ∧ a.tmps.size = n ∧ ∀ t,a.tmps.getD t undef = f t
theorem ev_eq {f : Fr} {a : Act} {x : Operand} (h : ∀ t,x = .tmp t → a.tmps.getD t undef = f t) : a.eval x = ev f x := by
 cases x <;> first | rfl | exact h _ rfl
theorem eval_fun {n : Nat} {D : List Deferred} {f : Fr} {a : Act} (h : Ag n D f a) : a.eval = ev f := funext fun _ => ev_eq fun t _ => h.2.2 t
theorem wanted_eq {ops : List Oper} {f : Fr} {a : Act} {o : Oper} (h : ∀ g want d,o.guard = some (g,want) → dstOf ops g = some d → a.tmps.getD d undef = f d) :
   Region.wanted o (yielded ops.toArray a.tmps) = wantF ops f o := by
 unfold Region.wanted wantF
 cases hg : o.guard with
 | none => rfl
 | some gw =>
   obtain ⟨g,want⟩ := gw
   have hy : yielded ops.toArray a.tmps g = match dstOf ops g with | some d => (match f d with | .bool b => some b | _ => none) | none => none := by
     unfold yielded
     have h' := h g want
     unfold dstOf at *
     simp only [List.getElem?_toArray]
     cases hx : ops[g]? with
     | none => rfl
     | some o' =>
       rw [hx] at h'
       cases hd : o'.dst with
       | none => simp [hd]
       | some d =>
         have hfd := h' d hg hd
         simp only [Option.bind_some,hd]
         rw [← hfd]
         rcases Nat.lt_or_ge d a.tmps.size with hlt | hge
         · have e1 : a.tmps[d]? = some a.tmps[d] := by simp [hlt]
           have e2 : a.tmps.getD d undef = a.tmps[d] := by simp [hlt]
           rw [e1,e2]
           generalize a.tmps[d] = x
           cases x <;> rfl
         · simp [Array.getElem?_eq_none hge,undef,Array.getD,Nat.not_lt.2 hge]
   simp only [yv,hy]
   cases hd : dstOf ops g with
   | none => simp
   | some d => simp only [isB]; cases f d <;> simp
theorem put_size (a : Act) (d : Option Nat) (v : Value) : (a.put d v).tmps.size = a.tmps.size := by cases d <;> simp [Act.put]
theorem put_defers (a : Act) (d : Option Nat) (v : Value) : (a.put d v).defers = a.defers := by cases d <;> rfl
theorem put_get (a : Act) (d : Nat) (v : Value) (t : Nat) (hd : d < a.tmps.size) : (a.put (some d) v).tmps.getD t undef = if t = d then v else a.tmps.getD t undef := by
 simp only [Act.put,Array.getD_eq_getD_getElem?,Array.getElem?_setIfInBounds]
 by_cases h : t = d
 · subst h; simp [hd]
 · rw [if_neg h,if_neg (Ne.symm h)]
theorem upd_some (f : Fr) (d : Nat) (v : Value) (t : Nat) : upd f (some d) v t = if t = d then v else f t := by
 simp only [upd]
 by_cases h : t = d
 · subst h; simp
 · have : Nat.beq t d = false := by
     cases hb : Nat.beq t d with
     | false => rfl
     | true => exact absurd (Nat.eq_of_beq_eq_true hb) h
   simp [this,h]
theorem Ag.put {n : Nat} {D : List Deferred} {f : Fr} {a : Act} {d : Option Nat} (h : Ag n D f a) (hd : ∀ t,d = some t → t < n) (v : Value) : Ag n D (upd f d v) (a.put d v) := by
 refine ⟨by rw [put_defers]; exact h.1,by rw [put_size]; exact h.2.1,fun t => ?_⟩
 cases d with
 | none => exact h.2.2 t
 | some d => rw [put_get _ _ _ _ (by rw [h.2.1]; exact hd d rfl),upd_some,h.2.2]
structure DE where
 fl : List Nat
 anc : List (List Nat)
def bindsOn (o : Oper) : List Nat := (o.after.toList.filter (Region.binds .any)).map (·.on)
def allIn (done : List Nat) : List Nat → Bool
 | [] => true
 | x :: r => bif memb done x then allIn done r else false
theorem allIn_iff {done l : List Nat} : allIn done l = true ↔ ∀ x ∈ l,x ∈ done := by
 induction l with
 | nil => simp [allIn]
 | cons x r ih =>
   simp only [allIn,List.mem_cons,forall_eq_or_imp]
   cases h : memb done x with
   | true => simp [memb_iff.1 h,ih]
   | false =>
     have : x ∉ done := fun e => by simp [memb_iff.2 e] at h
     simp [this]
def nextFl (ops : List Oper) (done : List Nat) : List Nat → Option (Nat × Oper)
 | [] => none
 | i :: r => bif memb done i then nextFl ops done r else
     (match ops[i]? with
      | some o => bif allIn done (bindsOn o) then some (i,o) else nextFl ops done r
      | none => nextFl ops done r)
def effs (ops : List Oper) (fl done : List Nat) : Nat → List Oper → List (Nat × Oper)
 | _,[] => []
 | i,o :: r => bif (bif memb done i then false else (bif memb fl i then false else allIn done (bindsOn o))) then (i,o) :: effs ops fl done (i + 1) r else effs ops fl done (i + 1) r
def anyQ (P : Program) (f : Fr) (o : Oper) (w : World) (K : Value → Prop) : Prop :=
 match isPure P o.op with
 | true => pureW P f o.op K
 | false => readW P f o w K
def GqW (c : Bool) (A : (Value → Prop) → Prop) (B : Value → Prop) : Prop := ∃ v,(c = true → A (fun x => x = v)) ∧ (c = false → v = undef) ∧ B v
def GeW (c : Bool) (w : World) (A : (Value → World → Prop) → Prop) (B : Value → World → Prop) : Prop := (c = true → A B) ∧ (c = false → B undef w)
def qfW (P : Program) (ops : List Oper) (f : Fr) (o : Oper) (w : World) (K : Value → Prop) : Prop :=
 match o.guard with
 | none => anyQ P f o w K
 | some (g,want) => GqW (yv ops f g want) (anyQ P f o w) K
def geW [HX] (P : Program) (ops : List Oper) (f : Fr) (o : Oper) (w : World) (K : Value → World → Prop) : Prop :=
 match o.guard with
 | none => anyW P f o w K
 | some (g,want) => GeW (yv ops f g want) w (anyW P f o w) K
def stabW (P : Program) (ops : List Oper) (f : Fr) (w : World) (rest : Prop) : List Nat → Prop
 | [] => rest
 | i :: r => match ops[i]? with
   | some o => (match o.dst with
     | some d => (match isPure P o.op with
       | true => stabW P ops f w rest r
       | false =>
         ((match o.guard with
           | none => readW P f o w (fun x => x = f d)
           | some (g,want) => yv ops f g want = true → readW P f o w (fun x => x = f d)) ∧ stabW P ops f w rest r))
     | none => stabW P ops f w rest r)
   | none => stabW P ops f w rest r
def notIn (l : List Nat) : List Nat → List Nat
 | [] => []
 | x :: r => bif memb l x then notIn l r else x :: notIn l r
theorem mem_notIn {l r : List Nat} {x : Nat} (h : x ∈ r) (hl : x ∉ l) : x ∈ notIn l r := by
 induction r with
 | nil => cases h
 | cons y r ih =>
   simp only [notIn]
   rcases List.mem_cons.1 h with rfl | h
   · have : memb l x = false := by
       cases hm : memb l x with
       | false => rfl
       | true => exact absurd (memb_iff.1 hm) hl
     simp [this]
   · cases hm : memb l y with
     | true => exact ih h
     | false => simp [ih h]
def tallW : Prop := ∀ (_ : HX) (P : Program) (ops : List Oper) (f : Fr) (o : Oper) (w : World) (K : Value → World → Prop),geW P ops f o w K → True
def conjW (p : Nat × Oper → Prop) : List (Nat × Oper) → Prop
 | [] => tallW
 | [x] => p x
 | x :: y :: r => p x ∧ conjW p (y :: r)
theorem conjW_mem {p : Nat × Oper → Prop} : ∀ {l : List (Nat × Oper)} {x},conjW p l → x ∈ l → p x
 | [],_,_,h => by cases h
 | [y],x,h,hx => by simp at hx; subst hx; exact h
 | y :: z :: r,x,h,hx => by
   rcases List.mem_cons.1 hx with rfl | hx
   · exact h.1
   · exact conjW_mem h.2 hx
def drawW [HX] (P : Program) (ops : List Oper) (e : DE) : Nat → List Nat → List Nat → Fr → World → (Fr → World → Prop) → Prop
 | 0,_,_,_,_,_ => False
 | n + 1,done,pend,f,w,K =>
   match nextFl ops done e.fl with
   | some (i,o) => qfW P ops f o w fun v => drawW P ops e n (i :: done) (i :: pend) (upd f o.dst v) w K
   | none => match effs ops e.fl done 0 ops with
     | [] => K f w
     | x :: r => conjW (fun io => geW P ops f io.2 w fun v w' =>
         stabW P ops (upd f io.2.dst v) w' (drawW P ops e n (io.1 :: done) (notIn (e.anc.getD io.1 []) pend) (upd f io.2.dst v) w' K) (notIn (e.anc.getD io.1 []) pend)) (x :: r)
def looksL (ops : List Oper) (o : Oper) : List Nat :=
 (o.op.operands.toList.filterMap fun | .tmp t => some t | _ => none) ++ (match o.guard with | some (g,_) => (dstOf ops g).toList | none => [])
def noSel (o : Oper) : Bool := match o.op with | .select .. => false | _ => true
def chkFl (P : Program) (ops : List Oper) (e : DE) (i : Nat) : Bool :=
 match ops[i]? with
 | some o => (isPure P o.op || isRead P o.op) &&
   (match o.dst with
    | some d => (List.range ops.length).all fun k => match ops[k]? with
       | some ok => (k == i || ok.dst != some d) && (!(memb (looksL ops ok) d) || memb (e.anc.getD k []) i) &&
           (match ok.dst with
            | some dk => !(memb (looksL ops o) dk) || memb (e.anc.getD i []) k || (!(memb e.fl k) && memb (e.anc.getD k []) i)
            | none => true)
       | none => true
    | none => false)
 | none => false
def chkOp (n : Nat) (ops : List Oper) (e : DE) (k : Nat) : Bool :=
 match ops[k]? with
 | some o => (match o.dst with | some d => decide (d < n) | none => true) && noSel o && (bindsOn o).all (fun x => decide (x < k)) &&
     (e.anc.getD k []).all (fun x => (bindsOn o).any fun y => x == y || memb (e.anc.getD y []) x)
 | none => true
def chkDraw (P : Program) (n : Nat) (ops : List Oper) (e : DE) : Bool :=
 e.fl.all (chkFl P ops e) && (List.range ops.length).all (chkOp n ops e)
section
variable {P : Program} {n : Nat} {ops : List Oper} {e : DE}
theorem chk_op (h : chkDraw P n ops e = true) {k : Nat} {o : Oper} (hk : ops[k]? = some o) :
   (∀ d,o.dst = some d → d < n) ∧ noSel o = true ∧ (∀ x ∈ bindsOn o,x < k) ∧ ∀ x ∈ e.anc.getD k [],∃ y ∈ bindsOn o,x = y ∨ x ∈ e.anc.getD y [] := by
 simp only [chkDraw,Bool.and_eq_true,List.all_eq_true] at h
 have hlt : k < ops.length := by
   rcases Nat.lt_or_ge k ops.length with h' | h'
   · exact h'
   · rw [List.getElem?_eq_none h'] at hk; cases hk
 have := h.2 k (List.mem_range.2 hlt)
 simp only [chkOp,hk,Bool.and_eq_true,List.all_eq_true,List.any_eq_true,Bool.or_eq_true,beq_iff_eq,decide_eq_true_eq] at this
 obtain ⟨⟨⟨h1,h2⟩,h3⟩,h4⟩ := this
 refine ⟨fun d hd => by simpa [hd] using h1,h2,h3,fun x hx => ?_⟩
 obtain ⟨y,hy,hxy⟩ := h4 x hx
 exact ⟨y,hy,hxy.imp id memb_iff.1⟩
theorem chk_fl (h : chkDraw P n ops e = true) {i : Nat} (hi : i ∈ e.fl) : ∃ o d,ops[i]? = some o ∧ o.dst = some d ∧ (isPure P o.op = true ∨ isRead P o.op = true) ∧
   ∀ k ok,ops[k]? = some ok → (k ≠ i → ok.dst ≠ some d) ∧ (d ∈ looksL ops ok → i ∈ e.anc.getD k []) ∧
     ∀ dk,ok.dst = some dk → dk ∈ looksL ops o → k ∈ e.anc.getD i [] ∨ (k ∉ e.fl ∧ i ∈ e.anc.getD k []) := by
 simp only [chkDraw,Bool.and_eq_true,List.all_eq_true] at h
 have h1 := h.1 i hi
 unfold chkFl at h1
 cases ho : ops[i]? with
 | none => simp [ho] at h1
 | some o =>
   simp only [ho] at h1
   cases hd : o.dst with
   | none => simp [hd] at h1
   | some d =>
     simp only [hd,Bool.and_eq_true,Bool.or_eq_true,List.all_eq_true] at h1
     refine ⟨o,d,rfl,hd,h1.1,fun k ok hk => ?_⟩
     have hlt : k < ops.length := by
       rcases Nat.lt_or_ge k ops.length with h' | h'
       · exact h'
       · rw [List.getElem?_eq_none h'] at hk; cases hk
     have h2 := h1.2 k (List.mem_range.2 hlt)
     simp only [hk,Bool.and_eq_true,Bool.or_eq_true,beq_iff_eq,bne_iff_ne,Bool.not_eq_true'] at h2
     obtain ⟨⟨h3,h4⟩,h5⟩ := h2
     refine ⟨fun hne => h3.resolve_left hne,fun hm => ?_,fun dk hdk hm => ?_⟩
     · rcases h4 with h4 | h4
       · rw [memb_iff.2 hm] at h4; cases h4
       · exact memb_iff.1 h4
     · simp only [hdk,Bool.and_eq_true,Bool.or_eq_true,Bool.not_eq_true'] at h5
       rcases h5 with (h5 | h5) | ⟨h5,h6⟩
       · rw [memb_iff.2 hm] at h5; cases h5
       · exact .inl (memb_iff.1 h5)
       · exact .inr ⟨(fun hk' => by rw [memb_iff.2 hk'] at h5; cases h5),memb_iff.1 h6⟩
theorem anc_in (h : chkDraw P n ops e = true) {done : List Nat} (hc : ∀ k ∈ done,∀ o,ops[k]? = some o → ∀ x ∈ bindsOn o,x ∈ done) :
   ∀ (k : Nat) (o : Oper),ops[k]? = some o → (∀ x ∈ bindsOn o,x ∈ done) → ∀ x ∈ e.anc.getD k [],x ∈ done := by
 intro k
 induction k using Nat.strongRecOn with
 | _ k ih =>
   intro o ho hd x hx
   obtain ⟨_,_,h3,h4⟩ := chk_op h ho
   obtain ⟨y,hy,hxy⟩ := h4 x hx
   rcases hxy with rfl | hxy
   · exact hd x hy
   · have hyd := hd y hy
     cases hoy : ops[y]? with
     | none =>
       rw [List.getElem?_eq_none_iff] at hoy
       have hk : k < ops.length := by
         rcases Nat.lt_or_ge k ops.length with h' | h'
         · exact h'
         · rw [List.getElem?_eq_none h'] at ho; cases ho
       have := h3 y hy
       omega
     | some oy => exact ih y (h3 y hy) oy hoy (fun z hz => hc y hyd oy hoy z hz) x hxy
end
end Go.Eng
namespace Go.Eng
open Go
section
variable {P : Program} {n : Nat} {D : List Deferred} {ops : List Oper} {e : DE}
def YY (P : Program) (ops : List Oper) (f : Fr) (o : Oper) (d : Nat) (w : World) : Prop :=
 (wantF ops f o = true ∧ (execOp (ev f) o).run P w = .ok (.value (f d)) w) ∨ (wantF ops f o = false ∧ f d = undef)
structure Inv (R : Fr → Prop) (P : Program) (n : Nat) (D : List Deferred) (ops : List Oper) (e : DE) (listed : Array Bool) (a : Act) (done pend : List Nat) (f : Fr) (w : World) : Prop where
 fr : R f
 defers : a.defers = D
 size : a.tmps.size = n
 lsize : listed.size = ops.length
 l1 : ∀ i : Nat,listed.getD i false = true → i ∈ done
 l2 : ∀ i ∈ done,i < ops.length ∧ (listed.getD i false = false → i ∈ e.fl ∧ i ∈ pend)
 l3 : ∀ t,(∀ i ∈ done,listed.getD i false = false → dstOf ops i ≠ some t) → a.tmps.getD t undef = f t
 l4 : ∀ i ∈ done,listed.getD i false = false → ∀ o d,ops[i]? = some o → o.dst = some d → YY P ops f o d w ∧ (isPure P o.op = true → ∀ w',YY P ops f o d w')
 l5 : ∀ i ∈ done,∀ o,ops[i]? = some o → ∀ x ∈ bindsOn o,x ∈ done
 l6 : ∀ i : Nat,listed.getD i false = true → ∀ o,ops[i]? = some o → ∀ x ∈ bindsOn o,listed.getD x false = true
theorem looks_op {o : Oper} {t : Nat} (h : Operand.tmp t ∈ o.op.operands.toList) : t ∈ looksL ops o := by
 unfold looksL
 exact List.mem_append_left _ (List.mem_filterMap.2 ⟨.tmp t,h,rfl⟩)
theorem looks_guard {o : Oper} {g : Nat} {want : Bool} {d : Nat} (hg : o.guard = some (g,want)) (hd : dstOf ops g = some d) : d ∈ looksL ops o := by
 unfold looksL
 refine List.mem_append_right _ ?_
 simp [hg,hd]
theorem noSel_spec {o : Oper} (h : noSel o = true) : ∀ cs b,o.op ≠ .select cs b := by
 intro cs b he
 simp [noSel,he] at h
theorem exec_same {o : Oper} (hs : noSel o = true) {ρ ρ' : Operand → Value} (h : ∀ x ∈ o.op.operands.toList,ρ x = ρ' x) : execOp ρ o = execOp ρ' o :=
 execOp_congr o (noSel_spec hs) (fun x hx => h x (by simpa using hx))
theorem ev_same {f f' : Fr} {x : Operand} (h : ∀ t,x = .tmp t → f t = f' t) : ev f x = ev f' x := by
 cases x <;> first | rfl | exact h _ rfl
theorem wantF_same {f f' : Fr} {o : Oper} (h : ∀ t ∈ looksL ops o,f t = f' t) : wantF ops f o = wantF ops f' o := by
 unfold wantF
 cases hg : o.guard with
 | none => rfl
 | some gw =>
   obtain ⟨g,want⟩ := gw
   simp only [yv]
   cases hd : dstOf ops g with
   | none => rfl
   | some d => simp only [h d (looks_guard hg hd)]
theorem YY.same {f f' : Fr} {o : Oper} {d : Nat} {w : World} (hs : noSel o = true) (h : ∀ t ∈ looksL ops o,f t = f' t) (hd : f d = f' d) (hy : YY P ops f o d w) : YY P ops f' o d w := by
 unfold YY at *
 rw [← wantF_same h,← hd]
 rw [← exec_same hs (ρ := ev f) (ρ' := ev f') (fun x hx => ev_same fun t ht => h t (looks_op (ht ▸ hx)))]
 exact hy
theorem qf_sound {f : Fr} {o : Oper} {w : World} {K : Value → Prop} (hp : isPure P o.op = true ∨ isRead P o.op = true) (h : qfW P ops f o w K) :
   ∃ v,K v ∧ ((wantF ops f o = true ∧ (execOp (ev f) o).run P w = .ok (.value v) w ∧ (isPure P o.op = true → ∀ w',(execOp (ev f) o).run P w' = .ok (.value v) w')) ∨ (wantF ops f o = false ∧ v = undef)) := by
 have key : ∀ K : Value → Prop,anyQ P f o w K → ∃ v,K v ∧ (execOp (ev f) o).run P w = .ok (.value v) w ∧ (isPure P o.op = true → ∀ w',(execOp (ev f) o).run P w' = .ok (.value v) w') := by
   intro K h
   unfold anyQ at h
   cases hp' : isPure P o.op with
   | true =>
     rw [hp'] at h
     obtain ⟨v,hk,hr⟩ := pure_sound (o := o) h
     exact ⟨v,hk,hr w,fun _ => hr⟩
   | false =>
     rw [hp'] at h
     obtain ⟨v,hk,hr⟩ := read_sound (o := o) h
     exact ⟨v,hk,hr,fun hh => by cases hh⟩
 unfold qfW at h
 unfold wantF
 cases hg : o.guard with
 | none =>
   simp only [hg] at h
   obtain ⟨v,hk,h1,h2⟩ := key K h
   exact ⟨v,hk,.inl ⟨rfl,h1,h2⟩⟩
 | some gw =>
   obtain ⟨g,want⟩ := gw
   simp only [hg] at h
   obtain ⟨v,ht,hf,hk⟩ := h
   cases hc : yv ops f g want with
   | true =>
     obtain ⟨v',rfl,h1,h2⟩ := key _ (ht hc)
     exact ⟨v',hk,.inl ⟨hc,h1,h2⟩⟩
   | false => exact ⟨v,hk,.inr ⟨hc,hf hc⟩⟩
theorem nextFl_some {done : List Nat} : ∀ {l : List Nat} {i : Nat} {o : Oper},nextFl ops done l = some (i,o) → i ∈ l ∧ i ∉ done ∧ ops[i]? = some o ∧ ∀ x ∈ bindsOn o,x ∈ done
 | [],_,_,h => by cases h
 | j :: l,i,o,h => by
   simp only [nextFl] at h
   cases hm : memb done j with
   | true => rw [hm] at h; obtain ⟨h1,h2⟩ := nextFl_some (l := l) h; exact ⟨List.mem_cons_of_mem _ h1,h2⟩
   | false =>
     rw [hm] at h
     simp only [cond_false] at h
     have rec_ : nextFl ops done l = some (i,o) → i ∈ j :: l ∧ i ∉ done ∧ ops[i]? = some o ∧ ∀ x ∈ bindsOn o,x ∈ done := fun h => by
       obtain ⟨h1,h2⟩ := nextFl_some (l := l) h
       exact ⟨List.mem_cons_of_mem _ h1,h2⟩
     cases ho : ops[j]? with
     | none => rw [ho] at h; exact rec_ h
     | some o' =>
       rw [ho] at h
       simp only at h
       cases hall : allIn done (bindsOn o') with
       | true =>
         rw [hall] at h
         simp only [cond_true,Option.some.injEq,Prod.mk.injEq] at h
         obtain ⟨rfl,rfl⟩ := h
         exact ⟨List.mem_cons_self,(fun hd => by rw [memb_iff.2 hd] at hm; cases hm),ho,allIn_iff.1 hall⟩
       | false => rw [hall] at h; exact rec_ h
theorem nextFl_none {done : List Nat} : ∀ {l : List Nat},nextFl ops done l = none → ∀ i ∈ l,i ∉ done → ∀ o,ops[i]? = some o → ¬ ∀ x ∈ bindsOn o,x ∈ done
 | [],_,_,hi,_,_,_,_ => by cases hi
 | j :: l,h,i,hi,hd,o,ho,hall => by
   simp only [nextFl] at h
   cases hm : memb done j with
   | true =>
     rw [hm] at h
     rcases List.mem_cons.1 hi with rfl | hi
     · exact hd (memb_iff.1 hm)
     · exact nextFl_none (l := l) h i hi hd o ho hall
   | false =>
     rw [hm] at h
     simp only [cond_false] at h
     rcases List.mem_cons.1 hi with rfl | hi
     · rw [ho] at h
       simp [allIn_iff.2 hall] at h
     · cases ho' : ops[j]? with
       | none => rw [ho'] at h; exact nextFl_none (l := l) h i hi hd o ho hall
       | some o' =>
         rw [ho'] at h
         simp only at h
         cases hall' : allIn done (bindsOn o') with
         | true => rw [hall'] at h; cases h
         | false => rw [hall'] at h; exact nextFl_none (l := l) h i hi hd o ho hall
theorem mem_effs {fl done : List Nat} : ∀ (l : List Oper) (k i : Nat) (o : Oper),l[i]? = some o → k + i ∉ done → k + i ∉ fl → (∀ x ∈ bindsOn o,x ∈ done) → (k + i,o) ∈ effs ops fl done k l
 | [],_,i,o,h,_,_,_ => by simp at h
 | p :: l,k,0,o,h,h1,h2,h3 => by
   simp only [List.getElem?_cons_zero,Option.some.injEq] at h
   subst h
   have e1 : memb done k = false := by
     cases hm : memb done k with
     | false => rfl
     | true => exact absurd (memb_iff.1 hm) h1
   have e2 : memb fl k = false := by
     cases hm : memb fl k with
     | false => rfl
     | true => exact absurd (memb_iff.1 hm) h2
   simp [effs,e1,e2,allIn_iff.2 h3]
 | p :: l,k,i + 1,o,h,h1,h2,h3 => by
   have h' : l[i]? = some o := by simpa using h
   have := mem_effs (fl := fl) (done := done) l (k + 1) i o h' (by rwa [show k + 1 + i = k + (i + 1) by omega]) (by rwa [show k + 1 + i = k + (i + 1) by omega]) h3
   rw [show k + 1 + i = k + (i + 1) by omega] at this
   simp only [effs]
   generalize (bif memb done k then false else bif memb fl k then false else allIn done (bindsOn p)) = b
   cases b
   · exact this
   · exact List.mem_cons_of_mem _ this
theorem effs_mem {fl done : List Nat} : ∀ (l : List Oper) (k : Nat) (io : Nat × Oper),io ∈ effs ops fl done k l → k ≤ io.1 ∧ l[io.1 - k]? = some io.2 ∧ io.1 ∉ done ∧ io.1 ∉ fl ∧ ∀ x ∈ bindsOn io.2,x ∈ done
 | [],_,_,h => by cases h
 | p :: l,k,io,h => by
   simp only [effs] at h
   have tail : io ∈ effs ops fl done (k + 1) l → k ≤ io.1 ∧ (p :: l)[io.1 - k]? = some io.2 ∧ io.1 ∉ done ∧ io.1 ∉ fl ∧ ∀ x ∈ bindsOn io.2,x ∈ done := by
     intro h
     obtain ⟨h1,h2,h3⟩ := effs_mem l (k + 1) io h
     refine ⟨by omega,?_,h3⟩
     rw [show io.1 - k = (io.1 - (k + 1)) + 1 by omega]
     simpa using h2
   cases hm : memb done k with
   | true => rw [hm] at h; exact tail h
   | false =>
     cases hf : memb fl k with
     | true => rw [hm,hf] at h; exact tail h
     | false =>
       cases ha : allIn done (bindsOn p) with
       | false => rw [hm,hf,ha] at h; exact tail h
       | true =>
         rw [hm,hf,ha] at h
         simp only [cond_false,cond_true] at h
         rcases List.mem_cons.1 h with rfl | h
         · refine ⟨Nat.le_refl _,by simp,(fun hd => by rw [memb_iff.2 hd] at hm; cases hm),(fun hd => by rw [memb_iff.2 hd] at hf; cases hf),allIn_iff.1 ha⟩
         · exact tail h
theorem stab_rest {f : Fr} {w : World} {R : Prop} : ∀ {l : List Nat},stabW P ops f w R l → R
 | [],h => h
 | i :: l,h => by
   unfold stabW at h
   split at h
   · split at h
     · cases hp : isPure P _ <;> rw [hp] at h
       · exact stab_rest (l := l) h.2
       · exact stab_rest (l := l) h
     · exact stab_rest (l := l) h
   · exact stab_rest (l := l) h
theorem stab_get {f : Fr} {w : World} {R : Prop} : ∀ {l : List Nat},stabW P ops f w R l → ∀ i ∈ l,∀ o d,ops[i]? = some o → o.dst = some d → isPure P o.op = false → wantF ops f o = true →
   readW P f o w (fun x => x = f d)
 | [],_,_,hi,_,_,_,_,_,_ => by cases hi
 | j :: l,h,i,hi,o,d,ho,hd,hp,hw => by
   rcases List.mem_cons.1 hi with rfl | hi
   · unfold stabW at h
     simp only [ho,hd,hp] at h
     unfold wantF at hw
     cases hg : o.guard with
     | none => simp only [hg] at h; exact h.1
     | some gw =>
       obtain ⟨g,want⟩ := gw
       simp only [hg] at h hw
       exact h.1 hw
   · unfold stabW at h
     split at h
     · split at h
       · cases hp' : isPure P _ <;> rw [hp'] at h
         · exact stab_get (l := l) h.2 i hi o d ho hd hp hw
         · exact stab_get (l := l) h i hi o d ho hd hp hw
       · exact stab_get (l := l) h i hi o d ho hd hp hw
     · exact stab_get (l := l) h i hi o d ho hd hp hw
end
end Go.Eng
namespace Go.Eng
open Go
section
variable {R : Fr → Prop} {P : Program} {n : Nat} {D : List Deferred} {ops : List Oper} {e : DE}
theorem nodup_le : ∀ (N : Nat) (l : List Nat),l.Nodup → (∀ i ∈ l,i < N) → l.length ≤ N
 | 0,[],_,_ => Nat.le_refl _
 | 0,x :: _,_,h => by have := h x List.mem_cons_self; omega
 | N + 1,l,hnd,h => by
   have h1 : (l.erase N).length ≤ N := nodup_le N (l.erase N) (hnd.erase N) fun i hi => by
     have h2 := h i (List.mem_of_mem_erase hi)
     have h3 : i ≠ N := fun e => by subst e; exact (List.Nodup.not_mem_erase hnd) hi
     omega
   have h4 := List.length_erase (a := N) (l := l)
   split at h4 <;> omega
theorem lt_of_some {k : Nat} {o : Oper} (h : ops[k]? = some o) : k < ops.length := by
 rcases Nat.lt_or_ge k ops.length with h' | h'
 · exact h'
 · rw [List.getElem?_eq_none h'] at h; cases h
theorem dstOf_some {k : Nat} {o : Oper} (h : ops[k]? = some o) : dstOf ops k = o.dst := by simp [dstOf,h]
theorem Inv.float (hR : ∀ f o v,o ∈ ops → R f → R (upd f o.dst v)) (hc : chkDraw P n ops e = true) {listed : Array Bool} {a : Act} {done pend : List Nat} {f : Fr} {w : World} (I : Inv R P n D ops e listed a done pend f w)
   {i : Nat} {o : Oper} (hi : i ∈ e.fl) (hd : i ∉ done) (ho : ops[i]? = some o) (hb : ∀ x ∈ bindsOn o,x ∈ done) {v : Value}
   (hv : (wantF ops f o = true ∧ (execOp (ev f) o).run P w = .ok (.value v) w ∧ (isPure P o.op = true → ∀ w',(execOp (ev f) o).run P w' = .ok (.value v) w')) ∨ (wantF ops f o = false ∧ v = undef)) :
   Inv R P n D ops e listed a (i :: done) (i :: pend) (upd f o.dst v) w := by
 obtain ⟨o',d,ho',hdst,hkind,hall⟩ := chk_fl hc hi
 rw [ho] at ho'
 cases ho'
 have hself : d ∉ looksL ops o := fun hm => hd (anc_in hc I.l5 i o ho hb i ((hall i o ho).2.1 hm))
 have hfd : ∀ t,t ≠ d → upd f o.dst v t = f t := fun t ht => by rw [hdst,upd_some,if_neg ht]
 refine ⟨hR _ _ _ (List.mem_of_getElem? ho) I.fr,I.defers,I.size,I.lsize,fun k hk => List.mem_cons_of_mem _ (I.l1 k hk),?_,?_,?_,?_,I.l6⟩
 · intro k hk
   rcases List.mem_cons.1 hk with rfl | hk
   · exact ⟨lt_of_some ho,fun _ => ⟨hi,List.mem_cons_self⟩⟩
   · exact ⟨(I.l2 k hk).1,fun hl => ⟨((I.l2 k hk).2 hl).1,List.mem_cons_of_mem _ ((I.l2 k hk).2 hl).2⟩⟩
 · intro t ht
   have htd : t ≠ d := fun h => by
     subst h
     refine ht i List.mem_cons_self ?_ (by rw [dstOf_some ho,hdst])
     cases hl : listed.getD i false with
     | false => rfl
     | true => exact absurd (I.l1 i hl) hd
   rw [hfd t htd]
   exact I.l3 t fun k hk hl => ht k (List.mem_cons_of_mem _ hk) hl
 · intro k hk hl ok dk hok hdk
   rcases List.mem_cons.1 hk with rfl | hk
   · rw [ho] at hok
     cases hok
     rw [hdst] at hdk
     cases hdk
     have hsame : ∀ t ∈ looksL ops o,f t = upd f o.dst v t := fun t ht => (hfd t (fun h => hself (h ▸ ht))).symm
     have hval : upd f o.dst v d = v := by rw [hdst,upd_some,if_pos rfl]
     have hsel := (chk_op hc ho).2.1
     have hex : execOp (ev f) o = execOp (ev (upd f o.dst v)) o := exec_same hsel (fun x hx => ev_same fun t ht => hsame t (looks_op (ht ▸ hx)))
     rcases hv with ⟨h1,h2,h3⟩ | ⟨h1,h2⟩
     · rw [hex] at h2 h3
       rw [wantF_same hsame] at h1
       exact ⟨.inl ⟨h1,by rw [hval]; exact h2⟩,fun hp w' => .inl ⟨h1,by rw [hval]; exact h3 hp w'⟩⟩
     · rw [wantF_same hsame] at h1
       exact ⟨.inr ⟨h1,by rw [hval]; exact h2⟩,fun _ _ => .inr ⟨h1,by rw [hval]; exact h2⟩⟩
   · have hki : k ≠ i := fun h => hd (h ▸ hk)
     have hdl : d ∉ looksL ops ok := fun hm => hd (anc_in hc I.l5 k ok hok (I.l5 k hk ok hok) i ((hall k ok hok).2.1 hm))
     have hdd : dk ≠ d := fun h => (hall k ok hok).1 hki (by rw [hdk,h])
     have hsel := (chk_op hc hok).2.1
     have h4 := I.l4 k hk hl ok dk hok hdk
     have hsame : ∀ t ∈ looksL ops ok,f t = upd f o.dst v t := fun t ht => (hfd t (fun h => hdl (h ▸ ht))).symm
     exact ⟨h4.1.same hsel hsame (hfd dk hdd).symm,fun hp w' => (h4.2 hp w').same hsel hsame (hfd dk hdd).symm⟩
 · intro k hk ok hok x hx
   rcases List.mem_cons.1 hk with rfl | hk
   · rw [ho] at hok
     cases hok
     exact List.mem_cons_of_mem _ (hb x hx)
   · exact List.mem_cons_of_mem _ (I.l5 k hk ok hok x hx)
theorem draw_norm [HX] (hR : ∀ f o v,o ∈ ops → R f → R (upd f o.dst v)) (hc : chkDraw P n ops e = true) {K : Fr → World → Prop} {listed : Array Bool} {a : Act} {w : World} : ∀ (m : Nat) (done pend : List Nat) (f : Fr),
   Inv R P n D ops e listed a done pend f w → drawW P ops e m done pend f w K →
   ∃ m' done' pend' f',Inv R P n D ops e listed a done' pend' f' w ∧ drawW P ops e (m' + 1) done' pend' f' w K ∧ nextFl ops done' e.fl = none
 | 0,_,_,_,_,h => by cases h
 | m + 1,done,pend,f,I,h => by
   cases hn : nextFl ops done e.fl with
   | none => exact ⟨m,done,pend,f,I,h,hn⟩
   | some io =>
     obtain ⟨i,o⟩ := io
     simp only [drawW,hn] at h
     obtain ⟨h1,h2,h3,h4⟩ := nextFl_some hn
     obtain ⟨o',d,ho',hdst,hkind,_⟩ := chk_fl hc h1
     rw [h3] at ho'
     cases ho'
     obtain ⟨v,hk,hv⟩ := qf_sound hkind h
     exact draw_norm hR hc m _ _ _ (I.float hR hc h1 h2 h3 h4 hv) hk
theorem mem_ready' {listed : Array Bool} {i : Nat} (hsz : listed.size = ops.length) : i ∈ Region.ready .any ops.toArray listed ↔
   ∃ o,ops[i]? = some o ∧ listed.getD i false = false ∧ ∀ x ∈ bindsOn o,listed.getD x false = true := by
 unfold Region.ready
 simp only [List.mem_filter,List.mem_range,List.size_toArray,Bool.and_eq_true,Bool.not_eq_true',List.getElem?_toArray]
 constructor
 · rintro ⟨h1,h2,h3⟩
   have ho : ops[i]? = some ops[i] := List.getElem?_eq_getElem h1
   rw [ho] at h3
   simp only [Option.map_some,Option.getD_some,Array.all_eq_true_iff_forall_mem,Bool.or_eq_true,Bool.not_eq_true'] at h3
   refine ⟨_,ho,?_,fun x hx => ?_⟩
   · simp only [Array.getD_eq_getD_getElem?] at h2 ⊢
     have : i < listed.size := by rw [hsz]; exact h1
     simpa [this] using h2
   · simp only [bindsOn,List.mem_map,List.mem_filter,Array.mem_toList_iff] at hx
     obtain ⟨ed,⟨hm,hb⟩,rfl⟩ := hx
     rcases h3 ed hm with h3 | h3
     · rw [hb] at h3; cases h3
     · exact h3
 · rintro ⟨o,ho,h2,h3⟩
   have h1 := lt_of_some ho
   refine ⟨h1,?_,?_⟩
   · simp only [Array.getD_eq_getD_getElem?] at h2 ⊢
     have : i < listed.size := by rw [hsz]; exact h1
     simpa [this] using h2
   · rw [ho]
     simp only [Option.map_some,Option.getD_some,Array.all_eq_true_iff_forall_mem,Bool.or_eq_true,Bool.not_eq_true']
     intro ed hm
     cases hb : Region.binds .any ed with
     | false => exact .inl rfl
     | true => exact .inr (h3 _ (by simp only [bindsOn,List.mem_map,List.mem_filter,Array.mem_toList_iff]; exact ⟨ed,⟨hm,hb⟩,rfl⟩))
theorem getD_set (listed : Array Bool) (i k : Nat) (hi : i < listed.size) : (listed.setIfInBounds i true).getD k false = (if k = i then true else listed.getD k false) := by
 simp only [Array.getD_eq_getD_getElem?,Array.getElem?_setIfInBounds]
 by_cases h : k = i
 · subst h; simp [hi]
 · rw [if_neg h,if_neg (Ne.symm h)]
theorem draw_sound [HX] (hR : ∀ f o v,o ∈ ops → R f → R (upd f o.dst v)) (hc : chkDraw P n ops e = true) {Q : Exit → Act → World → Prop} {K : Fr → World → Prop}
   (hQ : ∀ f a w,Ag n D f a → R f → K f w → Q .normal a w) (hX : ∀ c f a w,a.defers = D → R f → (∀ t,(∀ o ∈ ops,o.dst ≠ some t) → a.tmps.getD t undef = f t) → HX.X c w → Q (.panic c) a w) : ∀ (m : Nat) (listed : Array Bool) (a : Act) (done pend : List Nat) (f : Fr) (w : World) (k : Nat),
   Inv R P n D ops e listed a done pend f w → drawW P ops e k done pend f w K → (∀ l : List Nat,l.Nodup → (∀ i ∈ l,i < ops.length ∧ listed.getD i false = false) → l.length ≤ m) →
   wpAny P .any ops.toArray Q m listed a w := by
 -- all is listed: the end
 have fin : ∀ (listed : Array Bool) (a : Act) (done pend : List Nat) (f : Fr) (w : World) (k : Nat),Inv R P n D ops e listed a done pend f w → drawW P ops e k done pend f w K →
     (∀ i,i < ops.length → listed.getD i false = true) → Q .normal a w := by
   intro listed a done pend f w k I h hall
   obtain ⟨k',done',pend',f',I',h',hn⟩ := draw_norm hR hc k done pend f I h
   simp only [drawW,hn] at h'
   have hag : Ag n D f' a := ⟨I'.defers,I'.size,fun t => I'.l3 t fun i hi hl => by
     have := hall i (I'.l2 i hi).1
     rw [this] at hl
     cases hl⟩
   cases he : effs ops e.fl done' 0 ops with
   | nil => rw [he] at h'; exact hQ _ _ _ hag I'.fr h'
   | cons x r =>
     have hx : x ∈ effs ops e.fl done' 0 ops := by rw [he]; exact List.mem_cons_self
     obtain ⟨_,h2,h3,_⟩ := effs_mem ops 0 x hx
     exact absurd (I'.l1 x.1 (hall x.1 (lt_of_some (by simpa using h2)))) h3
 -- nothing may come: all is listed
 have stop : ∀ (listed : Array Bool),listed.size = ops.length → Region.ready .any ops.toArray listed = [] → ∀ i,i < ops.length → listed.getD i false = true := by
   intro listed hsz hr i
   induction i using Nat.strongRecOn with
   | _ i ih =>
     intro hi
     cases hl : listed.getD i false with
     | true => rfl
     | false =>
       have ho : ops[i]? = some ops[i] := List.getElem?_eq_getElem hi
       have : i ∈ Region.ready .any ops.toArray listed := (mem_ready' hsz).2 ⟨_,ho,hl,fun x hx => by
         have := (chk_op hc ho).2.2.1 x hx
         exact ih x this (by omega)⟩
       rw [hr] at this
       cases this
 intro m
 induction m with
 | zero =>
   intro listed a done pend f w k I h hcount
   have hall : ∀ i,i < ops.length → listed.getD i false = true := fun i hi => by
     cases hl : listed.getD i false with
     | true => rfl
     | false => have := hcount [i] (by simp) (by intro j hj; rw [List.mem_singleton.1 hj]; exact ⟨hi,hl⟩); simp at this
   refine ⟨?_,fin _ _ _ _ _ _ _ I h hall⟩
   cases hr : Region.ready .any ops.toArray listed with
   | nil => rfl
   | cons i r =>
     have : i ∈ Region.ready .any ops.toArray listed := by rw [hr]; exact List.mem_cons_self
     obtain ⟨o,ho,hl,_⟩ := (mem_ready' I.lsize).1 this
     rw [hall i (lt_of_some ho)] at hl
     cases hl
 | succ m ih =>
   intro listed a done pend f w k I h hcount
   refine ⟨fun hr => fin _ _ _ _ _ _ _ I h (stop listed I.lsize hr),fun i hi => ?_⟩
   obtain ⟨o,ho,hl,hb⟩ := (mem_ready' I.lsize).1 hi
   have hilt := lt_of_some ho
   have hils : i < listed.size := by rw [I.lsize]; exact hilt
   obtain ⟨k',done',pend',f',I',h',hn⟩ := draw_norm hR hc k done pend f I h
   clear I h
   -- what i looks at is the same in the slots and in the frame
   have hagree : ∀ t ∈ looksL ops o,a.tmps.getD t undef = f' t := fun t ht => I'.l3 t fun j hj hlj hdj => by
     obtain ⟨hjf,_⟩ := (I'.l2 j hj).2 hlj
     obtain ⟨oj,dj,hoj,hdst,_,hall⟩ := chk_fl hc hjf
     rw [dstOf_some hoj,hdst] at hdj
     cases hdj
     have hanc := (hall i o ho).2.1 ht
     have hlist : ∀ x ∈ e.anc.getD i [],listed.getD x false = true := by
       have := anc_in hc (done := (List.range ops.length).filter fun x => listed.getD x false) (fun x hx ox hox y hy => by
         simp only [List.mem_filter,List.mem_range] at hx ⊢
         exact ⟨by have := (chk_op hc hox).2.2.1 y hy; omega,I'.l6 x hx.2 ox hox y hy⟩) i o ho (fun x hx => by
         simp only [List.mem_filter,List.mem_range]
         exact ⟨by have := (chk_op hc ho).2.2.1 x hx; omega,hb x hx⟩)
       intro x hx
       have := this x hx
       simp only [List.mem_filter] at this
       exact this.2
     rw [hlist j hanc] at hlj
     cases hlj
   have hsel := (chk_op hc ho).2.1
   have hwant : Region.wanted o (yielded ops.toArray a.tmps) = wantF ops f' o := wanted_eq fun g want d hg hd => hagree d (looks_guard hg hd)
   have hexec : execOp a.eval o = execOp (ev f') o := exec_same hsel fun x hx => ev_eq fun t ht => hagree t (looks_op (ht ▸ hx))
   have hcount' : ∀ l : List Nat,l.Nodup → (∀ j ∈ l,j < ops.length ∧ (listed.setIfInBounds i true).getD j false = false) → l.length ≤ m := by
     intro l hnd hl'
     have hil : i ∉ l := fun hm => by
       have := (hl' i hm).2
       rw [getD_set _ _ _ hils,if_pos rfl] at this
       cases this
     have := hcount (i :: l) (List.nodup_cons.2 ⟨hil,hnd⟩) (fun j hj => by
       rcases List.mem_cons.1 hj with rfl | hj
       · exact ⟨hilt,hl⟩
       · have hne : j ≠ i := fun h => hil (h ▸ hj)
         have := hl' j hj
         rw [getD_set _ _ _ hils,if_neg hne] at this
         exact this)
     simpa using this
   have hl6 : ∀ j : Nat,(listed.setIfInBounds i true).getD j false = true → ∀ oj,ops[j]? = some oj → ∀ x ∈ bindsOn oj,(listed.setIfInBounds i true).getD x false = true := by
     intro j hj oj hoj x hx
     rw [getD_set _ _ _ hils]
     by_cases hxi : x = i
     · rw [if_pos hxi]
     · rw [if_neg hxi]
       rw [getD_set _ _ _ hils] at hj
       by_cases hji : j = i
       · subst hji; rw [ho] at hoj; cases hoj; exact hb x hx
       · rw [if_neg hji] at hj; exact I'.l6 j hj oj hoj x hx
   by_cases hdone : i ∈ done'
   · -- a float that the canonical run has taken already
     obtain ⟨hif,_⟩ := (I'.l2 i hdone).2 hl
     obtain ⟨o',d,ho',hdst,_,hall⟩ := chk_fl hc hif
     rw [ho] at ho'
     cases ho'
     have hdn := (chk_op hc ho).1 d hdst
     have hI : Inv R P n D ops e (listed.setIfInBounds i true) (a.put o.dst (f' d)) done' pend' f' w := by
       refine ⟨I'.fr,by rw [put_defers]; exact I'.defers,by rw [put_size]; exact I'.size,by simp [I'.lsize],?_,?_,?_,?_,I'.l5,hl6⟩
       · intro j hj
         rw [getD_set _ _ _ hils] at hj
         by_cases hji : j = i
         · subst hji; exact hdone
         · rw [if_neg hji] at hj; exact I'.l1 j hj
       · intro j hj
         refine ⟨(I'.l2 j hj).1,fun hlj => ?_⟩
         rw [getD_set _ _ _ hils] at hlj
         by_cases hji : j = i
         · rw [if_pos hji] at hlj; cases hlj
         · rw [if_neg hji] at hlj; exact (I'.l2 j hj).2 hlj
       · intro t ht
         rw [hdst,put_get _ _ _ _ (by rw [I'.size]; exact hdn)]
         by_cases htd : t = d
         · rw [if_pos htd,htd]
         · rw [if_neg htd]
           refine I'.l3 t fun j hj hlj hdj => ?_
           by_cases hji : j = i
           · subst hji
             rw [dstOf_some ho,hdst] at hdj
             cases hdj
             exact htd rfl
           · exact ht j hj (by rw [getD_set _ _ _ hils,if_neg hji]; exact hlj) hdj
       · intro j hj hlj
         rw [getD_set _ _ _ hils] at hlj
         by_cases hji : j = i
         · rw [if_pos hji] at hlj; cases hlj
         · rw [if_neg hji] at hlj; exact I'.l4 j hj hlj
     have hnext := ih _ _ done' pend' f' w (k' + 1) hI h' hcount'
     have hy := (I'.l4 i hdone hl o d ho hdst).1
     unfold wpOp
     simp only [List.getElem?_toArray,ho]
     rw [hwant]
     rcases hy with ⟨h1,h2⟩ | ⟨h1,h2⟩
     · rw [if_pos h1]
       refine .inl ?_
       unfold Oper.wp
       rw [hexec,h2]
       exact hnext
     · rw [if_neg (by rw [h1]; simp),← h2]
       exact hnext
   · -- an operation that acts
     have hbd : ∀ x ∈ bindsOn o,x ∈ done' := fun x hx => I'.l1 x (hb x hx)
     have hnf : i ∉ e.fl := fun hf => nextFl_none hn i hf hdone o ho hbd
     have hmem : (i,o) ∈ effs ops e.fl done' 0 ops := by
       have := mem_effs (ops := ops) (fl := e.fl) (done := done') ops 0 i o ho (by simpa using hdone) (by simpa using hnf) hbd
       simpa using this
     simp only [drawW,hn] at h'
     have hge : geW P ops f' o w fun v w' => stabW P ops (upd f' o.dst v) w' (drawW P ops e k' (i :: done') (notIn (e.anc.getD i []) pend') (upd f' o.dst v) w' K) (notIn (e.anc.getD i []) pend') := by
       cases he : effs ops e.fl done' 0 ops with
       | nil => rw [he] at hmem; cases hmem
       | cons x r =>
         rw [he] at h' hmem
         exact conjW_mem h' hmem
     have hdn := (chk_op hc ho).1
     have hlanc : ∀ x ∈ e.anc.getD i [],listed.getD x false = true := by
       have := anc_in hc (done := (List.range ops.length).filter fun x => listed.getD x false) (fun x hx ox hox y hy => by
         simp only [List.mem_filter,List.mem_range] at hx ⊢
         exact ⟨by have := (chk_op hc hox).2.2.1 y hy; omega,I'.l6 x hx.2 ox hox y hy⟩) i o ho (fun x hx => by
         simp only [List.mem_filter,List.mem_range]
         exact ⟨by have := (chk_op hc ho).2.2.1 x hx; omega,hb x hx⟩)
       intro x hx
       have := this x hx
       simp only [List.mem_filter] at this
       exact this.2
     -- what stands behind it
     have cont : ∀ v w',stabW P ops (upd f' o.dst v) w' (drawW P ops e k' (i :: done') (notIn (e.anc.getD i []) pend') (upd f' o.dst v) w' K) (notIn (e.anc.getD i []) pend') →
         wpAny P .any ops.toArray Q m (listed.setIfInBounds i true) (a.put o.dst v) w' := by
       intro v w' hst
       refine ih _ _ (i :: done') (notIn (e.anc.getD i []) pend') (upd f' o.dst v) w' k' ?_ (stab_rest hst) hcount'
       have hunl : ∀ j ∈ i :: done',(listed.setIfInBounds i true).getD j false = false → j ≠ i ∧ j ∈ done' ∧ listed.getD j false = false := by
         intro j hj hlj
         rw [getD_set _ _ _ hils] at hlj
         by_cases hji : j = i
         · rw [if_pos hji] at hlj; cases hlj
         · rw [if_neg hji] at hlj
           exact ⟨hji,(List.mem_cons.1 hj).resolve_left hji,hlj⟩
       refine ⟨hR _ _ _ (List.mem_of_getElem? ho) I'.fr,by rw [put_defers]; exact I'.defers,by rw [put_size]; exact I'.size,by simp [I'.lsize],?_,?_,?_,?_,?_,hl6⟩
       · intro j hj
         rw [getD_set _ _ _ hils] at hj
         by_cases hji : j = i
         · subst hji; exact List.mem_cons_self
         · rw [if_neg hji] at hj; exact List.mem_cons_of_mem _ (I'.l1 j hj)
       · intro j hj
         refine ⟨?_,fun hlj => ?_⟩
         · rcases List.mem_cons.1 hj with rfl | hj
           · exact hilt
           · exact (I'.l2 j hj).1
         · obtain ⟨hji,hjd,hlj'⟩ := hunl j hj hlj
           obtain ⟨h1,h2⟩ := (I'.l2 j hjd).2 hlj'
           exact ⟨h1,mem_notIn h2 fun hm => by rw [hlanc j hm] at hlj'; cases hlj'⟩
       · intro t ht
         have h3 : ∀ (h : ∀ d,o.dst = some d → t ≠ d),a.tmps.getD t undef = f' t := fun h => I'.l3 t fun j hj hlj hdj => by
           have hji : j ≠ i := fun h' => hdone (h' ▸ hj)
           exact ht j (List.mem_cons_of_mem _ hj) (by rw [getD_set _ _ _ hils,if_neg hji]; exact hlj) hdj
         cases hdst : o.dst with
         | none => rw [hdst] at h3; exact h3 (fun d hd => by cases hd)
         | some d =>
           rw [put_get _ _ _ _ (by rw [I'.size]; exact hdn d hdst),upd_some]
           by_cases htd : t = d
           · rw [if_pos htd,if_pos htd]
           · rw [if_neg htd,if_neg htd]
             exact h3 (fun d' hd' => by rw [hdst] at hd'; cases hd'; exact htd)
       · intro j hj hlj oj dj hoj hdj
         obtain ⟨hji,hjd,hlj'⟩ := hunl j hj hlj
         obtain ⟨hjf,hjp⟩ := (I'.l2 j hjd).2 hlj'
         obtain ⟨oj',dj',hoj',hdj',hkind,hall⟩ := chk_fl hc hjf
         rw [hoj] at hoj'
         cases hoj'
         rw [hdj] at hdj'
         cases hdj'
         have hselj := (chk_op hc hoj).2.1
         have hanc : j ∉ e.anc.getD i [] := fun hm => by rw [hlanc j hm] at hlj'; cases hlj'
         -- the slot that i writes is none of j's
         have hfree : ∀ t,(t ∈ looksL ops oj ∨ t = dj) → f' t = upd f' o.dst v t := by
           intro t ht
           cases hdst : o.dst with
           | none => rfl
           | some d =>
             rw [upd_some]
             by_cases htd : t = d
             · exfalso
               subst htd
               rcases ht with ht | ht
               · rcases (hall i o ho).2.2 t hdst ht with h1 | ⟨_,h1⟩
                 · exact hdone (anc_in hc I'.l5 j oj hoj (I'.l5 j hjd oj hoj) i h1)
                 · exact hanc h1
               · exact (hall i o ho).1 (Ne.symm hji) (by rw [hdst,ht])
             · rw [if_neg htd]
         obtain ⟨hy1,hy2⟩ := I'.l4 j hjd hlj' oj dj hoj hdj
         have hpure : isPure P oj.op = true → ∀ w',YY P ops (upd f' o.dst v) oj dj w' := fun hp w' => (hy2 hp w').same hselj (fun t ht => hfree t (.inl ht)) (hfree dj (.inr rfl))
         refine ⟨?_,hpure⟩
         cases hp : isPure P oj.op with
         | true => exact hpure hp w'
         | false =>
           cases hwj : wantF ops (upd f' o.dst v) oj with
           | true =>
             have := stab_get hst j (mem_notIn hjp hanc) oj dj hoj hdj hp hwj
             obtain ⟨x,rfl,hr⟩ := read_sound this
             exact .inl ⟨hwj,hr⟩
           | false =>
             refine .inr ⟨hwj,?_⟩
             have hw0 : wantF ops f' oj = false := by rw [wantF_same (fun t ht => hfree t (.inl ht))]; exact hwj
             rcases hy1 with ⟨h1,_⟩ | ⟨_,h1⟩
             · rw [hw0] at h1; cases h1
             · rw [← hfree dj (.inr rfl)]; exact h1
       · intro j hj oj hoj x hx
         rcases List.mem_cons.1 hj with rfl | hj
         · rw [ho] at hoj; cases hoj; exact List.mem_cons_of_mem _ (hbd x hx)
         · exact List.mem_cons_of_mem _ (I'.l5 j hj oj hoj x hx)
     unfold wpOp
     simp only [List.getElem?_toArray,ho]
     rw [hwant]
     unfold geW at hge
     unfold wantF
     have hxa : ∀ c w,HX.X c w → Q (.panic c) a w := fun c w hx => hX c f' a w I'.defers I'.fr (fun t ht => I'.l3 t fun j hj _ hdj => by
       obtain ⟨oj,hoj⟩ : ∃ oj,ops[j]? = some oj := ⟨_,List.getElem?_eq_getElem (I'.l2 j hj).1⟩
       rw [dstOf_some hoj] at hdj
       exact ht oj (List.mem_of_getElem? hoj) hdj) hx
     have act : ∀ {K' : Value → World → Prop},(∀ v w',K' v w' → wpAny P .any ops.toArray Q m (listed.setIfInBounds i true) (a.put o.dst v) w') → anyW P f' o w K' →
         o.wp P a w (wpAny P .any ops.toArray Q m (listed.setIfInBounds i true)) Q := by
       intro K' hk ha
       unfold Oper.wp
       rw [hexec]
       exact (any_sound ha).upon hk hxa
     cases hg : o.guard with
     | none =>
       simp only [hg] at hge
       exact .inl (act cont hge)
     | some gw =>
       obtain ⟨g,want⟩ := gw
       simp only [hg] at hge
       obtain ⟨h1,h2⟩ := hge
       cases hcv : yv ops f' g want with
       | true => simp only [hcv,if_true]; exact .inl (act cont (h1 hcv))
       | false => simp only [hcv,Bool.false_eq_true,if_false]; exact cont _ _ (h2 hcv)
theorem region_draw [HX] {id : Nat} (hR : ∀ f o v,o ∈ ops → R f → R (upd f o.dst v)) (hm : P.follows .mixedOrders = true) (hc : chkDraw P n ops e = true) {Q : Exit → Act → World → Prop} {K : Fr → World → Prop} {f : Fr} {a : Act} {w : World} {k : Nat}
   (hQ : ∀ f a w,Ag n D f a → R f → K f w → Q .normal a w) (hX : ∀ c f a w,a.defers = D → R f → (∀ t,(∀ o ∈ ops,o.dst ≠ some t) → a.tmps.getD t undef = f t) → HX.X c w → Q (.panic c) a w) (ha : Ag n D f a) (hf : R f) (h : drawW P ops e k [] [] f w.drew K) : (Code.region id ops.toArray true).wp P Q a w := by
 refine wp_region_any hm ?_
 have hfalse : ∀ i : Nat,(Array.replicate ops.length false).getD i false = false := fun i => by
   simp only [Array.getD_eq_getD_getElem?,Array.getElem?_replicate]
   split <;> rfl
 refine draw_sound hR hc hQ hX _ _ a [] [] f _ k ⟨hf,ha.1,ha.2.1,by simp,?_,?_,?_,?_,?_,?_⟩ h ?_
 · intro i hi; rw [show ops.toArray.size = ops.length from by simp,hfalse] at hi; cases hi
 · intro i hi; cases hi
 · intro t _; exact ha.2.2 t
 · intro i hi; cases hi
 · intro i hi; cases hi
 · intro i hi; rw [show ops.toArray.size = ops.length from by simp,hfalse] at hi; cases hi
 · intro l hnd hl
   have : l.length ≤ ops.length := by
     exact nodup_le _ l hnd fun i hi => (hl i hi).1
   simpa using this
end
end Go.Eng
namespace Go.Eng
open Go
structure PE where
 C : List Nat
 V : List Nat
 lo : Nat
structure Plan where
 js : List (Nat × PE)
 ds : List (Nat × DE)
def lk {α : Type} : List (Nat × α) → Nat → Option α
 | [],_ => none
 | (k,e) :: r,i => bif Nat.beq k i then some e else lk r i
def inS (V : List Nat) (lo t : Nat) : Bool := bif Nat.ble lo t then true else memb V t
def ovl : List Nat → Nat → List Value → Fr → Fr
 | [],_,_,f => f
 | c :: C,k,s,f => fun j => bif Nat.beq j c then s.getD k undef else ovl C (k + 1) s f j
def ovf (e : PE) (f : Fr) (s : List Value) (g : Fr) : Fr := ovl e.C 0 s (fun j => bif inS e.V e.lo j then g j else f j)
def JoinW (A : (List Value → World → Prop) → Prop) (B : List Value → Fr → World → Prop) : Prop :=
 ∃ J : List Value → World → Prop,A J ∧ ∀ s g w,J s w → B s g w
def GdW (c : Bool) (u : List Value) (w : World) (A : (List Value → World → Prop) → Prop) (B : List Value → Fr → World → Prop) : Prop :=
 ∃ J : List Value → World → Prop,(c = true → A J) ∧ (c = false → J u w) ∧ ∀ s g w',J s w' → B s g w'
def LoopW (s0 : List Value) (w0 : World) (B : List Value → Fr → World → (List Value → World → Prop) → Prop) : Prop :=
 ∃ (I : List Value → World → Prop) (μ : List Value → World → Nat),I s0 w0 ∧ ∀ s g w,I s w → B s g w (fun s' w' => I s' w' ∧ μ s' w' < μ s w)
def condW (v : Value) (A B : Prop) : Prop := match v with | .bool t => (t = true → A) ∧ (t = false → B) | _ => False
def gEq : Option (Nat × Bool) → Nat → Bool → Bool
 | some (g',w'),g,w => bif Nat.beq g g' then w == w' else false
 | none,_,_ => false
def grpOf (g : Nat) (want : Bool) : List Oper → List Oper
 | [] => []
 | o :: r => bif gEq o.guard g want then o :: grpOf g want r else []
def restOf (g : Nat) (want : Bool) : List Oper → List Oper
 | [] => []
 | o :: r => bif gEq o.guard g want then restOf g want r else o :: r
def opsL [HX] (P : Program) : List Oper → Fr → World → (Fr → World → Prop) → Prop
 | [],f,w,K => K f w
 | o :: r,f,w,K => anyW P f o w fun v w' => opsL P r (upd f o.dst v) w' K
def undefs : List Oper → Fr → Fr
 | [],f => f
 | o :: r,f => undefs r (upd f o.dst undef)
def inPos (i k : Nat) : Nat := i * 1000 + k
def opsW [HX] (P : Program) (pl : Plan) (i : Nat) (ops : List Oper) : Nat → List Oper → Fr → World → (Fr → World → Prop) → Prop
 | 0,_,_,_,_ => False
 | _ + 1,[],f,w,K => K f w
 | n + 1,o :: r,f,w,K =>
   match o.guard with
   | none => anyW P f o w fun v w' => opsW P pl i ops n r (upd f o.dst v) w' K
   | some (g,want) =>
     match lk pl.js (inPos i (o :: r).length) with
     | some e => GdW (yv ops f g want) (e.C.map (undefs (grpOf g want (o :: r)) f)) w (fun J => opsL P (grpOf g want (o :: r)) f w fun f' w' => J (e.C.map f') w')
         fun s h w' => opsW P pl i ops n (restOf g want (o :: r)) (ovf e f s h) w' K
     | none => False
def nodes : Code → Nat
 | .seq a b => nodes a + nodes b + 1
 | .cond _ a b => nodes a + nodes b + 1
 | .block _ b => nodes b + 1
 | .loop b => nodes b + 1
 | .scope b => nodes b + 1
 | _ => 1
def codeW [HX] (P : Program) (pl : Plan) : Code → Nat → Fr → World → (Fr → World → Prop) → (Nat → Fr → World → Prop) → (Fr → World → Prop) → Prop
 | .skip,_,f,w,kn,_,_ => kn f w
 | .label _,_,f,w,kn,_,_ => kn f w
 | .region _ ops draw,i,f,w,kn,_,_ =>
   bif draw then (match lk pl.ds i with | some e => drawW P ops.toList e (ops.toList.length + 1) [] [] f w.drew kn | none => False)
   else opsW P pl i ops.toList (ops.toList.length + 1) ops.toList f w kn
 | .seq a b,i,f,w,kn,kx,kr =>
   match lk pl.js i with
   | none => codeW P pl a (i + 1) f w (fun f' w' => codeW P pl b (i + 1 + nodes a) f' w' kn kx kr) kx kr
   | some e => JoinW (fun J => codeW P pl a (i + 1) f w (fun f' w' => J (e.C.map f') w') kx kr) fun s g w' => codeW P pl b (i + 1 + nodes a) (ovf e f s g) w' kn kx kr
 | .cond c a b,i,f,w,kn,kx,kr => condW (ev f c) (codeW P pl a (i + 1) f w kn kx kr) (codeW P pl b (i + 1 + nodes a) f w kn kx kr)
 | .block id b,i,f,w,kn,kx,kr => codeW P pl b (i + 1) f w kn (fun j f' w' => bif Nat.beq j id then kn f' w' else kx j f' w') kr
 | .loop b,i,f,w,_,kx,kr =>
   match lk pl.js i with
   | none => False
   | some e => LoopW (e.C.map f) w fun s g w' again => codeW P pl b (i + 1) (ovf e f s g) w' (fun f' w'' => again (e.C.map f') w'') kx kr
 | .scope b,i,f,w,kn,kx,kr => codeW P pl b (i + 1) f w kn kx kr
 | .exit id,_,f,w,_,kx,_ => kx id f w
 | .ret,_,f,w,_,_,kr => kr f w
 | _,_,_,_,_,_,_ => False
def chkPE (V : List Nat) (lo : Nat) (e : PE) : Bool := Nat.ble lo e.lo && e.V.all (inS V lo) && e.C.all (inS e.V e.lo)
def dstIn (V : List Nat) (lo : Nat) (o : Oper) : Bool := match o.dst with | some d => inS V lo d | none => true
def dstLt (n : Nat) (o : Oper) : Bool := match o.dst with | some d => Nat.blt d n | none => true
def chkGuards (pl : Plan) (V : List Nat) (lo : Nat) (i : Nat) (ops : List Oper) : List Oper → Bool
 | [] => true
 | o :: r => (match o.guard with
   | none => true
   | some (g,want) => (match lk pl.js (inPos i (o :: r).length) with
     | some e => chkPE V lo e && (grpOf g want (o :: r)).all fun x => dstIn e.V e.lo x && (match x.dst,dstOf ops g with | some d,some dg => !(Nat.beq d dg) | _,_ => true)
     | none => true)) && chkGuards pl V lo i ops r
def chk (P : Program) (n : Nat) (pl : Plan) (V : List Nat) (lo : Nat) : Code → Nat → Bool
 | .region _ ops draw,i => ops.toList.all (fun o => dstIn V lo o && dstLt n o) &&
   (bif draw then (match lk pl.ds i with | some e => chkDraw P n ops.toList e | none => true) else chkGuards pl V lo i ops.toList ops.toList)
 | .seq a b,i => (match lk pl.js i with | none => chk P n pl V lo a (i + 1) | some e => chkPE V lo e && chk P n pl e.V e.lo a (i + 1)) && chk P n pl V lo b (i + 1 + nodes a)
 | .cond _ a b,i => chk P n pl V lo a (i + 1) && chk P n pl V lo b (i + 1 + nodes a)
 | .block _ b,i => chk P n pl V lo b (i + 1)
 | .scope b,i => chk P n pl V lo b (i + 1)
 | .loop b,i => (match lk pl.js i with | none => true | some e => chkPE V lo e && chk P n pl e.V e.lo b (i + 1))
 | _,_ => true
def Same (V : List Nat) (lo : Nat) (f f' : Fr) : Prop := ∀ t,inS V lo t = false → f' t = f t
theorem Same.refl (V : List Nat) (lo : Nat) (f : Fr) : Same V lo f f := fun _ _ => rfl
theorem Same.trans {V : List Nat} {lo : Nat} {f g h : Fr} (h1 : Same V lo f g) (h2 : Same V lo g h) : Same V lo f h := fun t ht => (h2 t ht).trans (h1 t ht)
theorem inS_iff {V : List Nat} {lo t : Nat} : inS V lo t = true ↔ lo ≤ t ∨ t ∈ V := by
 unfold inS
 cases h : Nat.ble lo t with
 | true => simp [Nat.le_of_ble_eq_true h]
 | false =>
   have : ¬ lo ≤ t := fun hle => by rw [Nat.ble_eq_true_of_le hle] at h; cases h
   simp [this,memb_iff]
theorem chkPE_sub {V : List Nat} {lo : Nat} {e : PE} (h : chkPE V lo e = true) : (∀ t,inS e.V e.lo t = true → inS V lo t = true) ∧ ∀ c ∈ e.C,inS e.V e.lo c = true := by
 simp only [chkPE,Bool.and_eq_true,List.all_eq_true] at h
 refine ⟨fun t ht => ?_,h.2⟩
 rcases inS_iff.1 ht with h1 | h1
 · exact inS_iff.2 (.inl (Nat.le_trans (Nat.le_of_ble_eq_true h.1.1) h1))
 · exact h.1.2 t h1
theorem Same.wider {V V' : List Nat} {lo lo' : Nat} {f f' : Fr} (hs : ∀ t,inS V lo t = true → inS V' lo' t = true) (h : Same V lo f f') : Same V' lo' f f' := fun t ht => h t (by
 cases hi : inS V lo t with
 | false => rfl
 | true => rw [hs t hi] at ht; cases ht)
theorem ovl_map (f' : Fr) : ∀ (C : List Nat) (k : Nat) (s : List Value) (f : Fr) (t : Nat),(∀ j,j < C.length → s.getD (k + j) undef = f' (C.getD j 0)) → (t ∉ C → f t = f' t) → ovl C k s f t = f' t
 | [],_,_,_,_,_,h => h (by simp)
 | c :: C,k,s,f,t,hs,h => by
   simp only [ovl]
   cases hb : Nat.beq t c with
   | true =>
     have := hs 0 (by simp)
     simp only [cond_true]
     rw [Nat.eq_of_beq_eq_true hb]
     simpa using this
   | false =>
     simp only [cond_false]
     have hne : t ≠ c := fun e => by subst e; simp at hb
     refine ovl_map f' C (k + 1) s f t (fun j hj => ?_) fun hn => h (by simp [hne,hn])
     have := hs (j + 1) (by simp; omega)
     rw [show k + 1 + j = k + (j + 1) by omega,this]
     rfl
theorem ovf_self {e : PE} {f f' : Fr} (h : Same e.V e.lo f f') : ovf e f (e.C.map f') f' = f' := by
 funext t
 refine ovl_map f' e.C 0 _ _ t (fun j hj => ?_) fun _ => ?_
 · simp [hj]
 · cases hi : inS e.V e.lo t with
   | true => simp [hi]
   | false => simp [hi,h t hi]
theorem Same.upd {V : List Nat} {lo : Nat} {f : Fr} {o : Oper} (h : dstIn V lo o = true) (v : Value) : Same V lo f (upd f o.dst v) := by
 intro t ht
 unfold dstIn at h
 cases hd : o.dst with
 | none => rfl
 | some d =>
   rw [hd] at h
   rw [upd_some,if_neg]
   intro e
   subst e
   have h : inS V lo t = true := h
   rw [h] at ht
   cases ht
theorem dstLt_spec {n : Nat} {o : Oper} (h : dstLt n o = true) : ∀ t,o.dst = some t → t < n := by
 intro t ht
 rw [dstLt,ht] at h
 exact Nat.le_of_ble_eq_true h
theorem gEq_spec {x : Option (Nat × Bool)} {g : Nat} {w : Bool} (h : gEq x g w = true) : x = some (g,w) := by
 cases x with
 | none => cases h
 | some p =>
   obtain ⟨g',w'⟩ := p
   simp only [gEq] at h
   cases hb : Nat.beq g g' with
   | false => rw [hb] at h; cases h
   | true =>
     rw [hb] at h
     simp only [cond_true,beq_iff_eq] at h
     rw [Nat.eq_of_beq_eq_true hb,h]
theorem grp_split (g : Nat) (want : Bool) : ∀ l : List Oper,l = grpOf g want l ++ restOf g want l ∧ ∀ o ∈ grpOf g want l,o.guard = some (g,want)
 | [] => ⟨rfl,by simp [grpOf]⟩
 | o :: r => by
   simp only [grpOf,restOf]
   cases h : gEq o.guard g want with
   | false => simp
   | true =>
     obtain ⟨h1,h2⟩ := grp_split g want r
     refine ⟨by simp only [cond_true,List.cons_append]; rw [← h1],fun x hx => ?_⟩
     simp only [cond_true,List.mem_cons] at hx
     rcases hx with rfl | hx
     · exact gEq_spec h
     · exact h2 x hx
section
variable [HX] {P : Program} {n : Nat} {D : List Deferred} {ops : List Oper} {Q : Exit → Act → World → Prop} {V : List Nat} {lo : Nat}
def PX [HX] (V : List Nat) (lo : Nat) (D : List Deferred) (Q : Exit → Act → World → Prop) (f : Fr) : Prop :=
 ∀ c a w,a.defers = D → (∀ t,inS V lo t = false → a.tmps.getD t undef = f t) → HX.X c w → Q (.panic c) a w
theorem PX.same {f f' : Fr} (h : PX V lo D Q f) (hs : Same V lo f f') : PX V lo D Q f' := fun c a w hd ht hx => h c a w hd (fun t hn => (ht t hn).trans (hs t hn)) hx
theorem PX.sub {V' : List Nat} {lo' : Nat} {f : Fr} (h : PX V lo D Q f) (hs : ∀ t,inS V' lo' t = true → inS V lo t = true) : PX V' lo' D Q f := fun c a w hd ht hx => h c a w hd (fun t hn => ht t (by
 cases hh : inS V' lo' t with
 | false => rfl
 | true => rw [hs t hh] at hn; cases hn)) hx
theorem PX.ag {f : Fr} {a : Act} (h : PX V lo D Q f) (hag : Ag n D f a) : ∀ c w,HX.X c w → Q (.panic c) a w := fun c w hx => h c a w hag.1 (fun t _ => hag.2.2 t) hx
theorem want_ag {f : Fr} {a : Act} {o : Oper} (h : Ag n D f a) : Region.wanted o (yielded ops.toArray a.tmps) = wantF ops f o := wanted_eq fun _ _ d _ _ => h.2.2 d
theorem op_step {f : Fr} {a : Act} {w : World} {o : Oper} {rest : List Oper} {K : Value → World → Prop} (hag : Ag n D f a) (hw : wantF ops f o = true) (h : anyW P f o w K)
   (hk : ∀ v w',K v w' → wpList P ops.toArray Q rest (a.put o.dst v) w') (hx : ∀ c w,HX.X c w → Q (.panic c) a w) : wpList P ops.toArray Q (o :: rest) a w := by
 unfold wpList
 rw [if_pos (by rw [want_ag hag]; exact hw)]
 refine .inl ?_
 unfold Oper.wp
 rw [eval_fun hag]
 exact (any_sound h).upon hk hx
theorem op_skip {f : Fr} {a : Act} {w : World} {o : Oper} {rest : List Oper} (hag : Ag n D f a) (hw : wantF ops f o = false)
   (hk : wpList P ops.toArray Q rest (a.put o.dst undef) w) : wpList P ops.toArray Q (o :: rest) a w := by
 unfold wpList
 rw [if_neg (by rw [want_ag hag,hw]; simp)]
 exact hk
theorem yv_upd {f : Fr} {g : Nat} {want : Bool} {o : Oper} {v : Value} (h : ∀ d dg,o.dst = some d → dstOf ops g = some dg → d ≠ dg) : yv ops (upd f o.dst v) g want = yv ops f g want := by
 unfold yv
 cases hg : dstOf ops g with
 | none => rfl
 | some dg =>
   cases hd : o.dst with
   | none => rfl
   | some d => simp only; rw [upd_some,if_neg (Ne.symm (h d dg hd hg))]
theorem opsL_sound {g : Nat} {want : Bool} : ∀ (grp rest : List Oper) (f : Fr) (a : Act) (w : World) (K : Fr → World → Prop),(∀ o ∈ grp,o.guard = some (g,want)) →
   (∀ o ∈ grp,dstIn V lo o = true ∧ (∀ t,o.dst = some t → t < n) ∧ ∀ d dg,o.dst = some d → dstOf ops g = some dg → d ≠ dg) → Ag n D f a → yv ops f g want = true → opsL P grp f w K →
   (∀ f' a' w',Ag n D f' a' → Same V lo f f' → K f' w' → wpList P ops.toArray Q rest a' w') → PX V lo D Q f → wpList P ops.toArray Q (grp ++ rest) a w
 | [],rest,f,a,w,K,_,_,hag,_,h,hk,_ => hk f a w hag (Same.refl _ _ _) h
 | o :: grp,rest,f,a,w,K,hg,hd,hag,hy,h,hk,hX => by
   obtain ⟨h1,h2,h3⟩ := hd o List.mem_cons_self
   refine op_step hag (by simp only [wantF,hg o List.mem_cons_self]; exact hy) h (fun v w' h' => ?_) (hX.ag hag)
   refine opsL_sound grp rest (upd f o.dst v) (a.put o.dst v) w' K (fun x hx => hg x (List.mem_cons_of_mem _ hx)) (fun x hx => hd x (List.mem_cons_of_mem _ hx)) (hag.put h2 v) (by rw [yv_upd h3]; exact hy) h' ?_ (hX.same (Same.upd h1 v))
   exact fun f' a' w'' hag' hs hK => hk f' a' w'' hag' (Same.trans (Same.upd h1 v) hs) hK
theorem undefs_sound {g : Nat} {want : Bool} : ∀ (grp rest : List Oper) (f : Fr) (a : Act) (w : World),(∀ o ∈ grp,o.guard = some (g,want)) →
   (∀ o ∈ grp,dstIn V lo o = true ∧ (∀ t,o.dst = some t → t < n) ∧ ∀ d dg,o.dst = some d → dstOf ops g = some dg → d ≠ dg) → Ag n D f a → yv ops f g want = false →
   (∀ a',Ag n D (undefs grp f) a' → Same V lo f (undefs grp f) → wpList P ops.toArray Q rest a' w) → wpList P ops.toArray Q (grp ++ rest) a w
 | [],rest,f,a,w,_,_,hag,_,hk => hk a hag (Same.refl _ _ _)
 | o :: grp,rest,f,a,w,hg,hd,hag,hy,hk => by
   obtain ⟨h1,h2,h3⟩ := hd o List.mem_cons_self
   refine op_skip hag (by simp only [wantF,hg o List.mem_cons_self]; exact hy) ?_
   refine undefs_sound grp rest (upd f o.dst undef) (a.put o.dst undef) w (fun x hx => hg x (List.mem_cons_of_mem _ hx)) (fun x hx => hd x (List.mem_cons_of_mem _ hx)) (hag.put h2 undef) (by rw [yv_upd h3]; exact hy) ?_
   exact fun a' hag' hs => hk a' hag' (Same.trans (Same.upd h1 undef) hs)
theorem chkGuards_rest {pl : Plan} {i : Nat} : ∀ (x y : List Oper),chkGuards pl V lo i ops (x ++ y) = true → chkGuards pl V lo i ops y = true
 | [],_,h => h
 | o :: x,y,h => by
   simp only [List.cons_append,chkGuards,Bool.and_eq_true] at h
   exact chkGuards_rest x y h.2
theorem opsW_sound {pl : Plan} {i : Nat} {K : Fr → World → Prop} : ∀ (m : Nat) (l : List Oper) (f : Fr) (a : Act) (w : World),(∀ o ∈ l,dstIn V lo o = true ∧ dstLt n o = true) → chkGuards pl V lo i ops l = true →
   Ag n D f a → opsW P pl i ops m l f w K → (∀ f' a' w',Ag n D f' a' → Same V lo f f' → K f' w' → Q .normal a' w') → PX V lo D Q f → wpList P ops.toArray Q l a w
 | 0,_,_,_,_,_,_,_,h,_,_ => by cases h
 | m + 1,[],f,a,w,_,_,hag,h,hQ,_ => hQ f a w hag (Same.refl _ _ _) h
 | m + 1,o :: r,f,a,w,hd,hc,hag,h,hQ,hX => by
   unfold opsW at h
   cases hg : o.guard with
   | none =>
     simp only [hg] at h
     have hd0 := hd o List.mem_cons_self
     refine op_step hag (by simp [wantF,hg]) h (fun v w' h' => ?_) (hX.ag hag)
     simp only [chkGuards,Bool.and_eq_true] at hc
     refine opsW_sound m r _ _ w' (fun x hx => hd x (List.mem_cons_of_mem _ hx)) hc.2 (hag.put (dstLt_spec hd0.2) v) h' ?_ (hX.same (Same.upd hd0.1 v))
     exact fun f' a' w'' hag' hs hK => hQ f' a' w'' hag' (Same.trans (Same.upd hd0.1 v) hs) hK
   | some gw =>
     obtain ⟨g,want⟩ := gw
     simp only [hg] at h
     cases he : lk pl.js (inPos i (o :: r).length) with
     | none => simp only [he] at h
     | some e =>
       simp only [he] at h
       obtain ⟨J,hT,hF,hB⟩ := h
       obtain ⟨hsplit,hgs⟩ := grp_split g want (o :: r)
       have hc0 := hc
       simp only [chkGuards,hg,he,Bool.and_eq_true,List.all_eq_true] at hc
       obtain ⟨⟨hpe,hgrp⟩,hc2⟩ := hc
       obtain ⟨hsub,hC⟩ := chkPE_sub hpe
       have hgd : ∀ x ∈ grpOf g want (o :: r),dstIn e.V e.lo x = true ∧ (∀ t,x.dst = some t → t < n) ∧ ∀ d dg,x.dst = some d → dstOf ops g = some dg → d ≠ dg := by
         intro x hx
         have h1 := hgrp x hx
         refine ⟨h1.1,dstLt_spec (hd x (by rw [hsplit]; exact List.mem_append_left _ hx)).2,fun d dg hxd hdg hne => ?_⟩
         have h2 := h1.2
         simp only [hxd,hdg,hne] at h2
         simp at h2
       have hcr : chkGuards pl V lo i ops (restOf g want (o :: r)) = true := by
         rw [hsplit] at hc0
         exact chkGuards_rest _ _ hc0
       have hdr : ∀ x ∈ restOf g want (o :: r),dstIn V lo x = true ∧ dstLt n x = true := fun x hx => hd x (by rw [hsplit]; exact List.mem_append_right _ hx)
       rw [hsplit]
       cases hy : yv ops f g want with
       | true =>
         refine opsL_sound (V := e.V) (lo := e.lo) _ _ f a w _ hgs hgd hag hy (hT hy) (fun f' a' w' hag' hs hJ => ?_) (hX.sub hsub)
         have h' := hB _ f' _ hJ
         simp only [ovf_self hs] at h'
         refine opsW_sound m _ f' a' w' hdr hcr hag' h' ?_ (hX.same (Same.wider hsub hs))
         exact fun f'' a'' w'' hag'' hs' hK => hQ f'' a'' w'' hag'' (Same.trans (Same.wider hsub hs) hs') hK
       | false =>
         refine undefs_sound (V := e.V) (lo := e.lo) _ _ f a w hgs hgd hag hy fun a' hag' hs => ?_
         have h' := hB _ (undefs (grpOf g want (o :: r)) f) _ (hF hy)
         simp only [ovf_self hs] at h'
         refine opsW_sound m _ _ a' w hdr hcr hag' h' ?_ (hX.same (Same.wider hsub hs))
         exact fun f'' a'' w'' hag'' hs' hK => hQ f'' a'' w'' hag'' (Same.trans (Same.wider hsub hs) hs') hK
end
end Go.Eng
namespace Go.Eng
open Go
section
variable [HX] {P : Program} {n : Nat} {D : List Deferred} {pl : Plan}
theorem codeW_sound (hm : P.follows .mixedOrders = true) : ∀ (c : Code) (V : List Nat) (lo i : Nat) (f : Fr) (a : Act) (w : World) (kn : Fr → World → Prop) (kx : Nat → Fr → World → Prop) (kr : Fr → World → Prop) (Q : Exit → Act → World → Prop),
   chk P n pl V lo c i = true → Ag n D f a → codeW P pl c i f w kn kx kr →
   (∀ f' a' w',Ag n D f' a' → Same V lo f f' → kn f' w' → Q .normal a' w') → (∀ j f' a' w',Ag n D f' a' → Same V lo f f' → kx j f' w' → Q (.exit j) a' w') →
   (∀ f' a' w',Ag n D f' a' → Same V lo f f' → kr f' w' → Q .ret a' w') → PX V lo D Q f → c.wp P Q a w := by
 intro c
 induction c with
 | skip => intro V lo i f a w kn kx kr Q _ hag h hn _ _ _; exact wp_skip (hn f a w hag (Same.refl _ _ _) h)
 | label l => intro V lo i f a w kn kx kr Q _ hag h hn _ _ _; exact wp_label (hn f a w hag (Same.refl _ _ _) h)
 | exit id => intro V lo i f a w kn kx kr Q _ hag h _ hx _ _; exact wp_exit (hx id f a w hag (Same.refl _ _ _) h)
 | ret => intro V lo i f a w kn kx kr Q _ hag h _ _ hr _; exact wp_ret (hr f a w hag (Same.refl _ _ _) h)
 | goto l => intro V lo i f a w kn kx kr Q _ _ h _ _ _ _; exact h.elim
 | refuse l => intro V lo i f a w kn kx kr Q _ _ h _ _ _ _; exact h.elim
 | scope b ih =>
   intro V lo i f a w kn kx kr Q hc hag h hn hx hr hX
   simp only [chk] at hc
   simp only [codeW] at h
   refine wp_scope_straight ?_
   exact ih V lo _ f a w kn kx kr _ hc hag h hn hx hr hX
 | rangeFunc f' ps az b => intro V lo i f a w kn kx kr Q _ _ h _ _ _ _; exact h.elim
 | region id ops draw =>
   intro V lo i f a w kn kx kr Q hc hag h hn _ _ hX
   simp only [chk,Bool.and_eq_true,List.all_eq_true] at hc
   simp only [codeW] at h
   cases draw with
   | false =>
     simp only [cond_false] at h hc
     refine wp_region_list ?_
     have := opsW_sound (ops := ops.toList) (Q := Q) (n := n) (V := V) (lo := lo) _ _ f a w hc.1 hc.2 hag h hn hX
     simpa using this
   | true =>
     simp only [cond_true] at h hc
     cases he : lk pl.ds i with
     | none => simp only [he] at h
     | some e =>
       simp only [he] at h hc
       have := region_draw (R := Same V lo f) (id := id) (Q := Q) (K := kn) (fun f' o v ho hs => Same.trans hs (Same.upd (hc.1 o ho).1 v)) hm hc.2
         (fun f' a' w' hag' hs hk => hn f' a' w' hag' hs hk) (fun c f' a' w' hd hs ht hx => hX c a' w' hd (fun t hn => (ht t fun o ho he => by
           have := (hc.1 o ho).1
           simp only [dstIn,he] at this
           rw [this] at hn; cases hn).trans (hs t hn)) hx) hag (Same.refl _ _ _) h
       simpa using this
 | seq x y ihx ihy =>
   intro V lo i f a w kn kx kr Q hc hag h hn hx hr hX
   simp only [chk,Bool.and_eq_true] at hc
   simp only [codeW] at h
   refine wp_seq ?_
   cases he : lk pl.js i with
   | none =>
     simp only [he] at h hc
     refine ihx V lo (i + 1) f a w _ kx kr _ hc.1 hag h ?_ hx hr hX
     intro f' a' w' hag' hs h'
     exact ihy V lo _ f' a' w' kn kx kr Q hc.2 hag' h' (fun f'' a'' w'' hag'' hs' hk => hn f'' a'' w'' hag'' (hs.trans hs') hk)
       (fun j f'' a'' w'' hag'' hs' hk => hx j f'' a'' w'' hag'' (hs.trans hs') hk) (fun f'' a'' w'' hag'' hs' hk => hr f'' a'' w'' hag'' (hs.trans hs') hk) (hX.same hs)
   | some e =>
     simp only [he,Bool.and_eq_true] at h hc
     obtain ⟨hsub,hC⟩ := chkPE_sub hc.1.1
     obtain ⟨J,hA,hB⟩ := h
     refine ihx e.V e.lo (i + 1) f a w _ kx kr _ hc.1.2 hag hA ?_ (fun j f' a' w' hag' hs hk => hx j f' a' w' hag' (hs.wider hsub) hk) (fun f' a' w' hag' hs hk => hr f' a' w' hag' (hs.wider hsub) hk) (hX.sub hsub)
     intro f' a' w' hag' hs hJ
     have h' := hB _ f' _ hJ
     simp only [ovf_self hs] at h'
     have hs0 := hs.wider hsub
     exact ihy V lo _ f' a' w' kn kx kr Q hc.2 hag' h' (fun f'' a'' w'' hag'' hs' hk => hn f'' a'' w'' hag'' (hs0.trans hs') hk)
       (fun j f'' a'' w'' hag'' hs' hk => hx j f'' a'' w'' hag'' (hs0.trans hs') hk) (fun f'' a'' w'' hag'' hs' hk => hr f'' a'' w'' hag'' (hs0.trans hs') hk) (hX.same hs0)
 | cond c x y ihx ihy =>
   intro V lo i f a w kn kx kr Q hc hag h hn hx hr hX
   simp only [chk,Bool.and_eq_true] at hc
   simp only [codeW] at h
   have he : a.eval c = ev f c := congrFun (eval_fun hag) c
   cases hv : ev f c <;> rw [hv] at h <;> simp only [condW] at h <;> try exact h.elim
   rename_i t
   refine wp_cond_split (he.trans hv) (fun ht => ?_) (fun ht => ?_)
   · exact ihx V lo _ f a w kn kx kr Q hc.1 hag (h.1 ht) hn hx hr hX
   · exact ihy V lo _ f a w kn kx kr Q hc.2 hag (h.2 ht) hn hx hr hX
 | block id b ih =>
   intro V lo i f a w kn kx kr Q hc hag h hn hx hr hX
   simp only [chk] at hc
   simp only [codeW] at h
   refine wp_block ?_
   refine ih V lo _ f a w kn _ kr _ hc hag h hn ?_ hr hX
   intro j f' a' w' hag' hs hk
   simp only [Exit.inBlock]
   cases hj : Nat.beq j id with
   | true =>
     rw [hj] at hk
     rw [if_pos (Nat.eq_of_beq_eq_true hj)]
     exact hn f' a' w' hag' hs hk
   | false =>
     rw [hj] at hk
     rw [if_neg (fun e => by subst e; simp at hj)]
     exact hx j f' a' w' hag' hs hk
 | loop b ih =>
   intro V lo i f a w kn kx kr Q hc hag h hn hx hr hX
   simp only [chk] at hc
   simp only [codeW] at h
   cases he : lk pl.js i with
   | none => simp only [he] at h
   | some e =>
     simp only [he,Bool.and_eq_true] at h hc
     obtain ⟨hsub,hC⟩ := chkPE_sub hc.1
     obtain ⟨I,μ,h0,hround⟩ := h
     refine wp_loop (fun a' w' => ∃ f',Ag n D f' a' ∧ Same e.V e.lo f f' ∧ I (e.C.map f') w') (fun a' w' => μ (e.C.map fun t => a'.tmps.getD t undef) w') ⟨f,hag,Same.refl _ _ _,h0⟩ ?_
     rintro a' w' ⟨f',hag',hs,hI⟩
     have h' := hround _ f' _ hI
     simp only [ovf_self hs] at h'
     have hfun : (fun t => a'.tmps.getD t undef) = f' := funext hag'.2.2
     refine ih e.V e.lo _ f' a' w' _ kx kr _ hc.2 hag' h' ?_ (fun j f'' a'' w'' hag'' hs' hk => hx j f'' a'' w'' hag'' ((hs.trans hs').wider hsub) hk)
       (fun f'' a'' w'' hag'' hs' hk => hr f'' a'' w'' hag'' ((hs.trans hs').wider hsub) hk) ((hX.sub hsub).same hs)
     intro f'' a'' w'' hag'' hs' hk
     have hfun' : (fun t => a''.tmps.getD t undef) = f'' := funext hag''.2.2
     refine ⟨⟨f'',hag'',hs.trans hs',hk.1⟩,?_⟩
     rw [hfun,hfun']
     exact hk.2
def resW (P : Program) : List ResultVar → Fr → World → (List Value → Prop) → Prop
 | [],_,_,K => K []
 | .tmp t :: r,f,w,K => resW P r f w fun l => K (f t :: l)
 | .cell a T :: r,f,w,K => andB (P.underlying T).isSome (ldW (isAggT P T) (sizeT P T) (f a) w fun v => resW P r f w fun l => K (v :: l))
def one : List Value → Value
 | [v] => v
 | l => .tuple l.toArray
def resOf (tmps : Array Value) : ResultVar → Sem Value
 | .tmp t => pure (tmps.getD t undef)
 | .cell x t => do loadVar t (← asAddr (tmps.getD x undef))
theorem results_eq (fn : Func) (tmps : Array Value) : results fn tmps = (do let vs ← fn.results.mapM (resOf tmps); pure (if h : vs.size = 1 then vs[0] else .tuple vs)) := rfl
theorem res_run {f : Fr} {a : Act} {w : World} (hag : Ag n D f a) : ∀ (l : List ResultVar) (K : List Value → Prop),resW P l f w K →
   ∃ vs,K vs ∧ (l.mapM (resOf a.tmps)).run P w = .ok vs w
 | [],K,h => ⟨[],h,rfl⟩
 | .tmp t :: r,K,h => by
   obtain ⟨vs,hk,hr⟩ := res_run hag r _ h
   refine ⟨_,hk,?_⟩
   rw [List.mapM_cons,run_bind]
   simp only [resOf,run_pure,run_bind,hr]
   rw [hag.2.2 t]
 | .cell x T :: r,K,h => by
   replace h := andB.out h
   obtain ⟨hT,h⟩ := h
   obtain ⟨v,h',hl⟩ := ld_run hT h
   obtain ⟨vs,hk,hr⟩ := res_run hag r _ h'
   refine ⟨_,hk,?_⟩
   have hl' : (resOf a.tmps (.cell x T)).run P w = .ok v w := by
     show (do loadVar T (← asAddr (a.tmps.getD x undef)) : Sem Value).run P w = .ok v w
     rw [hag.2.2 x]
     cases hv : f x <;> rw [hv] at h hl <;> simp only [ldW] at h <;> try exact h.elim
     rename_i p
     cases p with
     | none => exact h.elim
     | some p => exact hl
   rw [List.mapM_cons,run_bind]
   simp only [hl',run_bind,hr,run_pure]
theorem results_run {fn : Func} {f : Fr} {a : Act} {w : World} {K : Value → Prop} (hag : Ag n D f a) (h : resW P fn.results.toList f w fun l => K (one l)) :
   ∃ v,K v ∧ (results fn a.tmps).run P w = .ok v w := by
 obtain ⟨vs,hk,hr⟩ := res_run hag _ _ h
 refine ⟨_,hk,?_⟩
 rw [results_eq,run_bind]
 have : (fn.results.mapM (resOf a.tmps)).run P w = .ok vs.toArray w := by
   rw [Array.mapM_eq_mapM_toList,← bind_pure_comp,run_bind,hr]
   rfl
 rw [this]
 simp only [run_pure]
 congr 1
 cases vs with
 | nil => rfl
 | cons v r => cases r <;> rfl
def fr0 (args : List Value) : Fr := fun j => args.getD j undef
def funW [HX] (P : Program) (fn : Func) (pl : Plan) (args : List Value) (w : World) (K : Value → World → Prop) : Prop :=
 match fn.body with
 | some c => codeW P pl c 0 (fr0 args) w (fun f w' => resW P fn.results.toList f w' fun l => K (one l) w') (fun _ _ _ => False) (fun f w' => resW P fn.results.toList f w' fun l => K (one l) w')
 | none => False
def chkFun (P : Program) (fn : Func) (pl : Plan) (k : Nat) : Bool :=
 match fn.body with
 | some c => Nat.ble k fn.ntmps && chk P fn.ntmps pl [] 0 c 0
 | none => false
theorem funW_sound {g : FuncId} {fn : Func} {args : List Value} {w : World} {K : Value → World → Prop} (hm : P.follows .mixedOrders = true) (hf : P.funcs[g]? = some fn) (hc : chkFun P fn pl args.length = true)
   (h : funW P fn pl args w K) : callW P g args w K := by
 unfold funW at h
 unfold chkFun at hc
 cases hb : fn.body with
 | none => rw [hb] at h; exact h.elim
 | some c =>
   rw [hb] at h hc
   simp only [Bool.and_eq_true] at hc
   unfold callW
   refine calls_of_wp hf hb ?_
   have hle : args.length ≤ fn.ntmps := Nat.le_of_ble_eq_true hc.1
   have hag : Ag fn.ntmps [] (fr0 args) { tmps := args.toArray ++ Array.replicate (fn.ntmps - args.toArray.size) undef,defers := [] } := by
     refine ⟨rfl,by simp; omega,fun t => ?_⟩
     simp only [Array.getD_eq_getD_getElem?,Array.getElem?_append,List.size_toArray,List.getElem?_toArray,Array.getElem?_replicate,fr0,List.getD_eq_getElem?_getD]
     split
     · rfl
     · rename_i hlt
       rw [List.getElem?_eq_none (by omega)]
       split <;> rfl
   have hend : ∀ (f' : Fr) (a' : Act) (w' : World),Ag fn.ntmps [] f' a' → (resW P fn.results.toList f' w' fun l => K (one l) w') → a'.defers = [] ∧ ∃ v,(results fn a'.tmps).run P w' = .ok v w' ∧ EndK K (.returned v) w' := by
     intro f' a' w' hag' hk
     obtain ⟨v,hk',hr⟩ := results_run (K := fun v => K v w') hag' hk
     exact ⟨hag'.1,v,hr,hk'⟩
   exact codeW_sound hm c [] 0 0 _ _ w _ _ _ _ hc.2 hag h (fun f' a' w' hag' _ hk => hend f' a' w' hag' hk) (fun _ _ _ _ _ _ hk => hk.elim) (fun f' a' w' hag' _ hk => hend f' a' w' hag' hk) (fun c a' w' hd _ hx => ⟨hd,hx⟩)
theorem tie (P : Program) (g : FuncId) (fn : Func) (pl : Plan) (args : List Value) (w : World) (K : Value → World → Prop) (k : Nat) (X : Prop) (hk : args.length = k) (hm : P.follows .mixedOrders = true) (hf : P.funcs[g]? = some fn)
   (hc : chkFun P fn pl k = true) (he : funW P fn pl args w K = X) (hr : ∀ (az : Array Value) (w : World),(callFunc g az).run P w = .ok (.enter g az) w) (h : X) : callF P g args w K := by
 unfold callF
 rw [hr]
 exact funW_sound hm hf (by rw [hk]; exact hc) (by rw [he]; exact h)
theorem callF_calls {g : FuncId} {args : List Value} {w : World} {K : Value → World → Prop} (hr : (callFunc g args.toArray).run P w = .ok (.enter g args.toArray) w) (h : callF P g args w K) :
   Calls P g args.toArray w (EndK K) := by
 unfold callF at h
 rw [hr] at h
 exact h
end
end Go.Eng
namespace Go.Eng
open Go
def cellO (o : Option Obj) (i : Nat) : Option Value := match o with | some (.cells c _ _) => c[i]? | _ => none
def frO (o : Option Obj) (i : Nat) : Bool := match o with | some (.cells _ _ (lo,hi)) => decide (lo ≤ i) && decide (i < hi) | _ => false
def setO (o : Option Obj) (i : Nat) (v : Value) : Option Obj := match o with | some (.cells c t f) => some (.cells (c.setIfInBounds i v) t f) | o => o
theorem cellO_some (c : Array Value) (t : TypeId) (f : Nat × Nat) (i : Nat) : cellO (some (.cells c t f)) i = c[i]? := rfl
theorem frO_some (c : Array Value) (t : TypeId) (lo hi : Nat) (i : Nat) : frO (some (.cells c t (lo,hi))) i = (decide (lo ≤ i) && decide (i < hi)) := rfl
theorem frO_zero (c : Array Value) (t : TypeId) (i : Nat) : frO (some (.cells c t (0,0))) i = false := by simp [frO]
theorem setO_some (c : Array Value) (t : TypeId) (f : Nat × Nat) (i : Nat) (v : Value) : setO (some (.cells c t f)) i v = some (.cells (c.setIfInBounds i v) t f) := rfl
theorem cell_eq (w : World) (b o : Nat) : w.cell? ⟨b,o,none⟩ = cellO w.heap[b]? o := by
 unfold World.cell? cellO
 cases w.heap[b]? with
 | none => rfl
 | some x => cases x <;> rfl
theorem frozen_eq (w : World) (b o : Nat) : w.frozen? ⟨b,o,none⟩ = frO w.heap[b]? o := by
 unfold World.frozen? frO
 cases w.heap[b]? with
 | none => rfl
 | some x => cases x <;> rfl
theorem heap_set_same (w : World) (b o : Nat) (v : Value) : (w.setCell ⟨b,o,none⟩ v).heap[b]? = setO w.heap[b]? o v := by
 unfold World.setCell setO
 simp only [Array.getElem?_modify,if_true]
 cases w.heap[b]? with
 | none => rfl
 | some x => cases x <;> simp
theorem heap_set_other (w : World) (b o k : Nat) (v : Value) (h : k ≠ b) : (w.setCell ⟨b,o,none⟩ v).heap[k]? = w.heap[k]? := by
 unfold World.setCell
 simp only [Array.getElem?_modify]
 rw [if_neg (Ne.symm h)]
theorem size_set (w : World) (a : Addr) (v : Value) : (w.setCell a v).heap.size = w.heap.size := by simp
theorem heap_anew (w : World) (o : Obj) (k : Nat) (h : k = w.heap.size) : (w.alloc o).heap[k]? = some o := by subst h; show (w.heap.push o)[w.heap.size]? = _; simp
theorem heap_aold (w : World) (o : Obj) (k : Nat) (h : k ≠ w.heap.size) : (w.alloc o).heap[k]? = w.heap[k]? := by
 show (w.heap.push o)[k]? = _
 rw [Array.getElem?_push,if_neg h]
theorem size_alloc (w : World) (o : Obj) : (w.alloc o).heap.size = w.heap.size + 1 := by simp
theorem heap_drew (w : World) (k : Nat) : w.drew.heap[k]? = w.heap[k]? := rfl
theorem size_drew (w : World) : w.drew.heap.size = w.heap.size := rfl
theorem add_mk (b o n : Nat) : (⟨b,o,none⟩ : Addr).add n = ⟨b,o + n,none⟩ := by
 unfold Addr.add
 split
 · rename_i h; subst h; rfl
 · rfl
structure Chg (S : Nat → Prop) (w w' : World) : Prop where
 os : w'.os = w.os
 tape : w'.tape = w.tape
 output : w'.output = w.output
 size : w.heap.size ≤ w'.heap.size
 heap : ∀ k,k < w.heap.size → ¬ S k → w'.heap[k]? = w.heap[k]?
abbrev Ext := Chg (fun _ => False)
theorem Chg.refl (S : Nat → Prop) (w : World) : Chg S w w := ⟨rfl,rfl,rfl,Nat.le_refl _,fun _ _ _ => rfl⟩
theorem Chg.trans {S : Nat → Prop} {w w1 w2 : World} (h1 : Chg S w w1) (h2 : Chg S w1 w2) : Chg S w w2 :=
 ⟨h2.os.trans h1.os,h2.tape.trans h1.tape,h2.output.trans h1.output,Nat.le_trans h1.size h2.size,fun k hk hs => (h2.heap k (Nat.lt_of_lt_of_le hk h1.size) hs).trans (h1.heap k hk hs)⟩
theorem Chg.mono {S T : Nat → Prop} {w w' : World} (h : Chg S w w') (hs : ∀ k,k < w.heap.size → S k → T k) : Chg T w w' :=
 ⟨h.os,h.tape,h.output,h.size,fun k hk hn => h.heap k hk fun e => hn (hs k hk e)⟩
theorem Chg.of_ext {S : Nat → Prop} {w w' : World} (h : Ext w w') : Chg S w w' := h.mono fun _ _ e => e.elim
theorem Chg.drew {S : Nat → Prop} {w w' : World} (h : Chg S w w') : Chg S w w'.drew := ⟨h.os,h.tape,h.output,h.size,h.heap⟩
theorem Chg.alloc {S : Nat → Prop} {w w' : World} (h : Chg S w w') (o : Obj) : Chg S w (w'.alloc o) :=
 ⟨h.os,h.tape,h.output,by rw [size_alloc]; exact Nat.le_succ_of_le h.size,fun k hk hs => by rw [heap_aold _ _ _ (by have := h.size; omega)]; exact h.heap k hk hs⟩
theorem Chg.set {S : Nat → Prop} {w w' : World} (h : Chg S w w') {b o : Nat} (hb : S b ∨ w.heap.size ≤ b) (v : Value) : Chg S w (w'.setCell ⟨b,o,none⟩ v) :=
 ⟨h.os,h.tape,h.output,by rw [size_set]; exact h.size,fun k hk hs => by
   have hne : k ≠ b := fun e => by
     subst e
     rcases hb with hb | hb
     · exact hs hb
     · omega
   rw [heap_set_other _ _ _ _ _ hne]
   exact h.heap k hk hs⟩
theorem Chg.then {S T : Nat → Prop} {w w1 w2 : World} (h1 : Chg S w w1) (h2 : Chg T w1 w2) (hT : ∀ k,k < w.heap.size → T k → S k) : Chg S w w2 :=
 ⟨h2.os.trans h1.os,h2.tape.trans h1.tape,h2.output.trans h1.output,Nat.le_trans h1.size h2.size,fun k hk hs => (h2.heap k (Nat.lt_of_lt_of_le hk h1.size) fun e => hs (hT k hk e)).trans (h1.heap k hk hs)⟩
theorem Chg.below {w w' : World} (h : Ext w w') : RowKit.Below w.heap.size w w' := ⟨h.os,h.tape,h.output,h.size,fun k hk => h.heap k hk id⟩
theorem Chg.of_below {w w' : World} (h : RowKit.Below w.heap.size w w') : Ext w w' := ⟨h.os,h.tape,h.output,h.size,fun k hk _ => h.block k hk⟩
abbrev str (l : List UInt8) : Value := .string (ofL l)
abbrev i64 (n : Int) : Value := .int .i64 n
theorem wrap_id {n : Int} (h1 : -9223372036854775808 ≤ n) (h2 : n < 9223372036854775808) : IntKind.i64.wrap n = n := by
 have e1 : (2 : Int) ^ 64 = 18446744073709551616 := by decide
 have e2 : (2 : Int) ^ (64 - 1) = 9223372036854775808 := by decide
 simp only [IntKind.wrap,IntKind.bits,IntKind.signed,Bool.true_and,e1,e2]
 by_cases h : n % 18446744073709551616 ≥ 9223372036854775808
 · rw [if_pos (by simpa using h)]; omega
 · rw [if_neg (by simpa using h)]; omega
theorem condW_true (A B : Prop) : condW (.bool true) A B ↔ A := by simp [condW]
theorem condW_false (A B : Prop) : condW (.bool false) A B ↔ B := by simp [condW]
theorem condW_dec (p : Prop) [Decidable p] (A B : Prop) : condW (.bool (decide p)) A B ↔ (p → A) ∧ (¬ p → B) := by simp [condW]
theorem pick_t (a b : Value) (K : Value → Prop) : pickW (.bool true) a b K ↔ K a := Iff.rfl
theorem pick_f (a b : Value) (K : Value → Prop) : pickW (.bool false) a b K ↔ K b := Iff.rfl
section forms
variable (k : IntKind) (a b : Int) (s t : ByteArray) (x y : Value) (ad : Addr) (w : World) (K : Value → Prop) (KE : Value → World → Prop) (KW : World → Prop)
theorem bin_add : binW .add (.int k a) (.int k b) K ↔ K (.int k (k.wrap (a + b))) := by simp [binW]
theorem bin_sub : binW .sub (.int k a) (.int k b) K ↔ K (.int k (k.wrap (a - b))) := by simp [binW]
theorem bin_mul : binW .mul (.int k a) (.int k b) K ↔ K (.int k (k.wrap (a * b))) := by simp [binW]
theorem bin_quo : binW .quo (.int k a) (.int k b) K ↔ b ≠ 0 ∧ K (.int k (k.wrap (a.tdiv b))) := by simp [binW]
theorem bin_rem : binW .rem (.int k a) (.int k b) K ↔ b ≠ 0 ∧ K (.int k (a.tmod b)) := by simp [binW]
theorem bin_eql : binW .eql (.int k a) (.int k b) K ↔ K (.bool (decide (a = b))) := by simp [binW]
theorem bin_neq : binW .neq (.int k a) (.int k b) K ↔ K (.bool (decide (a ≠ b))) := by simp [binW]
theorem bin_lss : binW .lss (.int k a) (.int k b) K ↔ K (.bool (decide (a < b))) := by simp [binW]
theorem bin_leq : binW .leq (.int k a) (.int k b) K ↔ K (.bool (decide (a ≤ b))) := by simp [binW]
theorem bin_gtr : binW .gtr (.int k a) (.int k b) K ↔ K (.bool (decide (b < a))) := by simp [binW]
theorem bin_geq : binW .geq (.int k a) (.int k b) K ↔ K (.bool (decide (b ≤ a))) := by simp [binW]
theorem bin_and : binW .and (.int k a) (.int k b) K ↔ K (.int k (k.wrap (BitVec.ofInt k.bits a &&& BitVec.ofInt k.bits b).toNat)) := by simp [binW]
theorem bin_or : binW .or (.int k a) (.int k b) K ↔ K (.int k (k.wrap (BitVec.ofInt k.bits a ||| BitVec.ofInt k.bits b).toNat)) := by simp [binW]
theorem ofL_app (l m : List UInt8) : ofL l ++ ofL m = ofL (l ++ m) := by
 apply ByteArray.ext; simp [ofL,ByteArray.data_append]
theorem bin_sadd (l m : List UInt8) : binW .add (.string (ofL l)) (.string (ofL m)) K ↔ ((l.length + m.length : Nat) : Int) ≤ IntKind.i64.max ∧ K (.string (ofL (l ++ m))) := by simp [binW,ofL_size,ofL_app]
theorem bin_seq (l m : List UInt8) : binW .eql (.string (ofL l)) (.string (ofL m)) K ↔ K (.bool (decide (l = m))) := by simp [binW,ofL_data]
theorem bin_sne (l m : List UInt8) : binW .neq (.string (ofL l)) (.string (ofL m)) K ↔ K (.bool (decide (l ≠ m))) := by simp [binW,ofL_data]
theorem bin_slt (l m : List UInt8) : binW .lss (.string (ofL l)) (.string (ofL m)) K ↔ K (.bool (Op.bytesLess l m)) := by simp [binW,ofL_data]
theorem bin_sgt (l m : List UInt8) : binW .gtr (.string (ofL l)) (.string (ofL m)) K ↔ K (.bool (!(Op.bytesLess l m || decide (l = m)))) := by simp [binW,ofL_data]
theorem bin_sge (l m : List UInt8) : binW .geq (.string (ofL l)) (.string (ofL m)) K ↔ K (.bool (!Op.bytesLess l m)) := by simp [binW,ofL_data]
theorem bin_sle (l m : List UInt8) : binW .leq (.string (ofL l)) (.string (ofL m)) K ↔ K (.bool (Op.bytesLess l m || decide (l = m))) := by simp [binW,ofL_data]
theorem nil_ptr : nilW (.pointer (some ad)) K ↔ K (.pointer (some ad)) := Iff.rfl
theorem fld_ptr (off : Nat) : fldW off (.pointer (some ad)) K ↔ K (.pointer (some (ad.add off))) := Iff.rfl
theorem ld_one (n : Nat) : ldW false n (.pointer (some ad)) w K ↔ ∃ v,w.cell? ad = some v ∧ K v := Iff.rfl
theorem ld_agg (n : Nat) : ldW true n (.pointer (some ad)) w K ↔ ∃ l,cellsAt w ad 0 n = some l ∧ K (.agg l.toArray) := Iff.rfl
theorem st_agg (n : Nat) (l : List Value) : stW n (.pointer (some ad)) (.agg l.toArray) w KW ↔ l.length = n ∧ stCells ad l 0 w KW := by simp [stW,Value.cells]
theorem one_int : one1 (.int k a) = true := rfl
theorem one_bool (c : Bool) : one1 (.bool c) = true := rfl
theorem one_str : one1 (.string s) = true := rfl
theorem one_slice (p : Option Addr) (n m : Nat) : one1 (.slice p n m) = true := rfl
theorem one_ptr (p : Option Addr) : one1 (.pointer p) = true := rfl
theorem one_map (p : Option Nat) : one1 (.map p) = true := rfl
theorem ext_tuple (i : Nat) (l : List Value) : extW i (.tuple l.toArray) K ↔ ∃ v,l[i]? = some v ∧ K v := by
 simp only [extW,List.getElem?_toArray]
 cases l[i]? <;> simp
theorem ixa_slice (size n c : Nat) : ixaW none size (.slice (some ad) n c) (.int k a) K ↔ 0 ≤ a ∧ a < n ∧ K (.pointer (some (ad.add (a.toNat * size)))) := Iff.rfl
theorem ixa_arr (m size : Nat) : ixaW (some m) size (.pointer (some ad)) (.int k a) K ↔ 0 ≤ a ∧ a < m ∧ K (.pointer (some (ad.add (a.toNat * size)))) := Iff.rfl
theorem ixs_str (l : List UInt8) : ixsW (.string (ofL l)) (.int k a) K ↔ 0 ≤ a ∧ ∃ c,l[a.toNat]? = some c ∧ K (.int .u8 c.toNat) := by simp [ixsW,ofL_data]
theorem lens_str (l : List UInt8) : lensW (.string (ofL l)) K ↔ K (.int .i64 l.length) := by simp [lensW,ofL_size]
theorem lenl_sl (p : Option Addr) (n c : Nat) : lenlW (.slice p n c) K ↔ K (.int .i64 n) := Iff.rfl
theorem un_not (c : Bool) : unW .not (.bool c) K ↔ K (.bool (!c)) := Iff.rfl
theorem un_neg : unW .neg (.int k a) K ↔ K (.int k (k.wrap (0 - a))) := Iff.rfl
theorem cvt_int (k' : IntKind) : cvtW k' (.int k a) K ↔ K (.int k' (k'.wrap a)) := Iff.rfl
theorem min_int : minW (.int k a) (.int k b) K ↔ K (.int k (if b < a then b else a)) := Iff.rfl
theorem max_int : maxW (.int k a) (.int k b) K ↔ K (.int k (if a < b then b else a)) := Iff.rfl
theorem bd_none (n m : Nat) (KN : Nat → Prop) : bdW none n m KN ↔ KN n := Iff.rfl
theorem bd_some (n m : Nat) (KN : Nat → Prop) : bdW (some (.int k a)) n m KN ↔ 0 ≤ a ∧ a ≤ m ∧ KN a.toNat := Iff.rfl
theorem sls_str (l : List UInt8) (lo hi : Option Value) : slsW (.string (ofL l)) lo hi K ↔ bdW hi l.length l.length fun h => bdW lo 0 h fun m => K (.string (ofL ((l.take h).drop m))) := by simp only [slsW,ofL_size,ofL_data]
theorem sll_sl (size : Nat) (p : Option Addr) (n c : Nat) (lo hi mx : Option Value) : sllW size (.slice p n c) lo hi mx K ↔ bdW mx c c fun m => (bdW hi n m fun h => bdW lo 0 h fun l => K (.slice (if m = l then p else p.map (·.add (l * size))) (h - l) (m - l))) := Iff.rfl
theorem isB_t (c : Bool) : isB (.bool c) true = c := by cases c <;> rfl
theorem isB_f (c : Bool) : isB (.bool c) false = !c := by cases c <;> rfl
end forms
theorem GdW.go {c : Bool} {u : List Value} {w : World} {A : (List Value → World → Prop) → Prop} {B : List Value → Fr → World → Prop}
   (h1 : c = true → A (fun s w' => ∀ g,B s g w')) (h2 : c = false → ∀ g,B u g w) : GdW c u w A B :=
 ⟨fun s w' => ∀ g,B s g w',h1,fun h => h2 h,fun s g _ h => h g⟩
theorem GdW.f {u : List Value} {w : World} {A : (List Value → World → Prop) → Prop} {B : List Value → Fr → World → Prop} (h : ∀ g,B u g w) : GdW false u w A B :=
 GdW.go (fun e => by cases e) (fun _ => h)
theorem JoinW.cut {A : (List Value → World → Prop) → Prop} {B : List Value → Fr → World → Prop} (J : List Value → World → Prop) (h1 : A J) (h2 : ∀ s g w',J s w' → B s g w') : JoinW A B := ⟨J,h1,h2⟩
theorem LoopW.go {s0 : List Value} {w0 : World} {B : List Value → Fr → World → (List Value → World → Prop) → Prop} (I : List Value → World → Prop) (μ : List Value → World → Nat)
   (h0 : I s0 w0) (h : ∀ s g w,I s w → B s g w (fun s' w' => I s' w' ∧ μ s' w' < μ s w)) : LoopW s0 w0 B := ⟨I,μ,h0,h⟩
theorem put_one (c : List Value) (i : Nat) (v : Value) (r : List (Nat × Nat × Value)) (K : List Value → Prop) (h : v.cells = #[v]) : putW c ((i,1,v) :: r) K ↔ i < c.length ∧ putW (c.set i v) r K := by
 simp only [putW,h]
 constructor
 · rintro ⟨_,h2,h3⟩
   rw [List.set_eq_take_append_cons_drop,if_pos (by omega)]
   exact ⟨by omega,by simpa using h3⟩
 · rintro ⟨h2,h3⟩
   rw [List.set_eq_take_append_cons_drop,if_pos (by omega)] at h3
   exact ⟨rfl,by omega,by simpa using h3⟩
theorem put_nil (c : List Value) (K : List Value → Prop) : putW c [] K ↔ K c := Iff.rfl
theorem put_map (c : List Value) (i : Nat) (v : Option Nat) (r : List (Nat × Nat × Value)) (K : List Value → Prop) : putW c ((i,1,.map v) :: r) K ↔ i < c.length ∧ putW (c.set i (.map v)) r K := put_one c i _ r K rfl
theorem put_int (c : List Value) (i : Nat) (k : IntKind) (v : Int) (r : List (Nat × Nat × Value)) (K : List Value → Prop) : putW c ((i,1,.int k v) :: r) K ↔ i < c.length ∧ putW (c.set i (.int k v)) r K := put_one c i _ r K rfl
theorem put_str (c : List Value) (i : Nat) (v : ByteArray) (r : List (Nat × Nat × Value)) (K : List Value → Prop) : putW c ((i,1,.string v) :: r) K ↔ i < c.length ∧ putW (c.set i (.string v)) r K := put_one c i _ r K rfl
theorem put_bool (c : List Value) (i : Nat) (v : Bool) (r : List (Nat × Nat × Value)) (K : List Value → Prop) : putW c ((i,1,.bool v) :: r) K ↔ i < c.length ∧ putW (c.set i (.bool v)) r K := put_one c i _ r K rfl
theorem put_ptr (c : List Value) (i : Nat) (v : Option Addr) (r : List (Nat × Nat × Value)) (K : List Value → Prop) : putW c ((i,1,.pointer v) :: r) K ↔ i < c.length ∧ putW (c.set i (.pointer v)) r K := put_one c i _ r K rfl
theorem put_slice (c : List Value) (i : Nat) (p : Option Addr) (n m : Nat) (r : List (Nat × Nat × Value)) (K : List Value → Prop) : putW c ((i,1,.slice p n m) :: r) K ↔ i < c.length ∧ putW (c.set i (.slice p n m)) r K := put_one c i _ r K rfl
end Go.Eng
namespace Go.Eng
open Go
structure ElemT (P : Program) (t e : TypeId) (size bytes : Nat) : Prop where
 und : P.underlying t = some (.slice e)
 info : (P.info? e).map (fun i => (i.zero.map (·.cells.size),i.size,i.bytes)) = some (some size,size,bytes)
 pos : 0 < size
theorem ElemT.get {P : Program} {t e : TypeId} {size bytes : Nat} (h : ElemT P t e size bytes) : ∃ i z,P.info? e = some i ∧ i.zero = some z ∧ i.size = size ∧ i.bytes = bytes ∧ z.cells.size = size := by
 have hi := h.info
 cases hx : P.info? e with
 | none => rw [hx] at hi; cases hi
 | some i =>
   rw [hx] at hi
   simp only [Option.map_some,Option.some.injEq,Prod.mk.injEq] at hi
   obtain ⟨h1,h2,h3⟩ := hi
   cases hz : i.zero with
   | none => rw [hz] at h1; cases h1
   | some z =>
     rw [hz] at h1
     exact ⟨i,z,rfl,hz,h2,h3,by simpa using h1⟩
def SlAt (w : World) (T : TypeId) (v : Value) (n : Nat) (cs : List Value) : Prop :=
 ∃ p cap,v = .slice p n cap ∧ n ≤ cap ∧ (p = none → n = 0 ∧ cap = 0) ∧ (cs ≠ [] → ∃ b off c fr,p = some ⟨b,off,none⟩ ∧ w.heap[b]? = some (.cells c T fr) ∧ ∀ i,i < cs.length → c[off + i]? = cs[i]?)
theorem SlAt.nil (w : World) (T : TypeId) : SlAt w T (.slice none 0 0) 0 [] := ⟨none,0,rfl,Nat.le_refl _,fun _ => ⟨rfl,rfl⟩,fun h => absurd rfl h⟩
theorem SlAt.chg {S : Nat → Prop} {w w' : World} {T : TypeId} {v : Value} {n : Nat} {cs : List Value} (h : SlAt w T v n cs) (hc : Chg S w w')
   (hS : ∀ k c fr,S k → w.heap[k]? ≠ some (.cells c T fr)) : SlAt w' T v n cs := by
 obtain ⟨p,cap,hv,h1,h2,h3⟩ := h
 refine ⟨p,cap,hv,h1,h2,fun hne => ?_⟩
 obtain ⟨b,off,c,fr,hp,hb,hcs⟩ := h3 hne
 have hlt : b < w.heap.size := (Array.getElem?_eq_some_iff.1 hb).1
 exact ⟨b,off,c,fr,hp,by rw [hc.heap b hlt fun e => hS b c fr e hb]; exact hb,hcs⟩
theorem SlAt.ext {w w' : World} {T : TypeId} {v : Value} {n : Nat} {cs : List Value} (h : SlAt w T v n cs) (hc : Ext w w') : SlAt w' T v n cs :=
 h.chg hc fun _ _ _ e => e.elim
theorem SlAt.shape {w : World} {T : TypeId} {v : Value} {n : Nat} {cs : List Value} (h : SlAt w T v n cs) : ∃ p cap,v = .slice p n cap ∧ n ≤ cap := by
 obtain ⟨p,cap,hv,h1,_⟩ := h
 exact ⟨p,cap,hv,h1⟩
theorem lenl_at {w : World} {T : TypeId} {v : Value} {n : Nat} {cs : List Value} (h : SlAt w T v n cs) (K : Value → Prop) : lenlW v K ↔ K (i64 n) := by
 obtain ⟨p,cap,rfl,_⟩ := h.shape
 exact Iff.rfl
theorem ixa_at {w : World} {T : TypeId} {v : Value} {n size : Nat} {cs : List Value} {k : IntKind} {i : Nat} {K : Value → Prop} (h : SlAt w T v n cs) (hl : cs.length = n * size) (hs : 0 < size) (hi : i < n)
   (hK : ∀ b o c fr,w.heap[b]? = some (.cells c T fr) → (∀ j,j < size → c[o + j]? = cs[i * size + j]?) → K (.pointer (some ⟨b,o,none⟩))) : ixaW none size v (.int k i) K := by
 obtain ⟨p,cap,rfl,h1,_,h3⟩ := h
 have hlt : i * size + size ≤ n * size := by rw [← Nat.succ_mul]; exact Nat.mul_le_mul_right _ hi
 obtain ⟨b,off,c,fr,rfl,hb,hcs⟩ := h3 (fun e => by rw [e] at hl; simp at hl; omega)
 refine ⟨Int.natCast_nonneg _,by omega,?_⟩
 rw [add_mk,Int.toNat_natCast]
 exact hK b _ c fr hb fun j hj => by rw [show off + i * size + j = off + (i * size + j) by omega]; exact hcs _ (by omega)
theorem ixa_ld {w : World} {T : TypeId} {v : Value} {n : Nat} {cs : List Value} {k : IntKind} {i : Nat} {x : Value} {K : Value → Prop} (h : SlAt w T v n cs) (hl : cs.length = n) (hi : cs[i]? = some x) (hK : K x) :
   ixaW none 1 v (.int k i) fun t => ldW false 1 t w K := by
 have hi' : i < cs.length := (List.getElem?_eq_some_iff.1 hi).1
 refine ixa_at (size := 1) h (by omega) (by omega) (by omega) fun b o c fr hb hc => ?_
 refine ⟨x,?_,hK⟩
 rw [cell_eq,hb,cellO_some]
 have := hc 0 (by omega)
 simpa [hi] using this
abbrev Own (w : World) (base : Nat) (e : TypeId) (size : Nat) (v : Value) (n : Nat) (xs : List Value) : Prop := w.ownsRow base e size v n xs
theorem Own.sl {w : World} {base : Nat} {e : TypeId} {size : Nat} {v : Value} {n : Nat} {xs : List Value} (h : Own w base e size v n xs) : SlAt w e v n xs := by
 obtain ⟨hl,⟨rfl,rfl⟩ | ⟨g,cap,cur,rfl,_,hg,h1,_,h2,h3⟩⟩ := h
 · have : xs = [] := List.eq_nil_of_length_eq_zero (by simpa using hl)
   subst this
   exact SlAt.nil w e
 · refine ⟨_,_,rfl,h1,fun h => (by cases h),fun _ => ⟨g,0,cur,(0,0),rfl,hg,fun i hi => ?_⟩⟩
   rw [← h3,List.getElem?_take,if_pos (by omega),Nat.zero_add]
   simp
def OwnS (w : World) (base : Nat) (e : TypeId) (k : Nat) : Prop := base ≤ k ∧ ∃ c,w.heap[k]? = some (.cells c e (0,0))
theorem Own.block {w : World} {base : Nat} {e : TypeId} {size : Nat} {v : Value} {n : Nat} {xs : List Value} (h : Own w base e size v n xs) : ∀ k,v.ownBlock = some k → OwnS w base e k := by
 intro k hk
 obtain ⟨hl,⟨rfl,rfl⟩ | ⟨g,cap,cur,rfl,hb,hg,_⟩⟩ := h
 · simp [Value.ownBlock] at hk
 · simp [Value.ownBlock] at hk
   subst hk
   exact ⟨hb,cur,hg⟩
theorem one1_oneCell' {v : Value} (h : one1 v = true) : v.oneCell' = true := by cases v <;> first | rfl | (simp [one1] at h)
theorem Chg.of_grown {w w' : World} {row : Option Nat} {S : Nat → Prop} (h : w.grownBy w' row) (hS : ∀ k,row = some k → S k) : Chg S w w' :=
 ⟨h.os,h.tape,h.output,h.size,fun k hk hn => h.block k hk fun e => hn (hS k e.symm)⟩
theorem append_own2 {P : Program} {t e T : TypeId} {size bytes : Nat} (hT : ElemT P t e size bytes) {w : World} {base : Nat} {v x : Value} {n m : Nat} {xs news : List Value} {ty : TypeId} {K : Value → World → Prop}
   (hown : Own w base e size v n xs) (hx : SlAt w T x m news) (hl : news.length = m * size) (h1 : ∀ u ∈ news,one1 u = true) (hlen : n + m ≤ 4611686018427387904) (hb : (n + m) * bytes ≤ 140737488355328) (hbase : base ≤ w.heap.size)
   (hK : ∀ v' w',Own w' base e size v' (n + m) (xs ++ news) → Chg (fun k => v.ownBlock = some k) w w' → (v' = .slice none 0 0 ↔ v = .slice none 0 0 ∧ m = 0) → K v' w') :
   semE P (Builtin.append_ #[t,t] ty #[v,x]) w K := by
 obtain ⟨i,z,hi,hz,h2,h3,h4⟩ := hT.get
 obtain ⟨p,cap,rfl,hcap,hnil,hcells⟩ := hx
 have hm : n + m ≤ maxLen := by unfold maxLen; omega
 cases p with
 | none =>
   obtain ⟨rfl,rfl⟩ := hnil rfl
   have hn : news = [] := List.eq_nil_of_length_eq_zero (by simpa using hl)
   subst hn
   have hr : (Builtin.append_ #[t,t] ty #[v,.slice none 0 0]).run P w = .ok v w := by
     obtain ⟨hl',⟨rfl,rfl⟩ | ⟨g,cap,cur,rfl,_,hg,h1,_,h2,h3⟩⟩ := hown
     · simp [Builtin.append_,run_bind,run_underlying' hT.und,run_sizeOf' (show (P.info? e).isSome = true by rw [hi]; rfl),Builtin.lenOf,run_pure,Builtin.firstCells]
     · simp [Builtin.append_,run_bind,run_underlying' hT.und,run_sizeOf' (show (P.info? e).isSome = true by rw [hi]; rfl),Builtin.lenOf,run_pure,Builtin.firstCells,h1,storeCells]
   unfold semE
   rw [hr]
   simp only [Nat.add_zero,List.append_nil] at hK
   exact hK v w hown (Chg.refl _ _) (by simp)
 | some a =>
   have hcell : ∀ j u,news[j]? = some u → w.cell? (a.add j) = some u := by
     intro j u hu
     have hne : news ≠ [] := fun e => by subst e; simp at hu
     obtain ⟨b,off,c,fr,hp,hb',hcs⟩ := hcells hne
     cases hp
     rw [add_mk,cell_eq,hb',cellO_some,hcs j (List.getElem?_eq_some_iff.1 hu).1,hu]
   obtain ⟨v',w',hr,hown',hg,hnil'⟩ := run_append_own (P := P) w base t ty e i z size bytes hT.und hi hz h2 h3 h4 hT.pos v n xs hown a m cap news hl hcell (fun u hu => one1_oneCell' (h1 u hu)) hm hb hbase
   unfold semE
   rw [hr]
   exact hK v' w' hown' (Chg.of_grown hg fun k e => e) hnil'
theorem Own.chg {S : Nat → Prop} {w w' : World} {base : Nat} {e : TypeId} {size : Nat} {v : Value} {n : Nat} {xs : List Value} (h : Own w base e size v n xs) (hc : Chg S w w') (hS : ∀ k,OwnS w base e k → ¬ S k) : Own w' base e size v n xs := by
 obtain ⟨hl,hn | ⟨g,cap,cur,hv,hb,hg,r⟩⟩ := h
 · exact ⟨hl,.inl hn⟩
 · exact ⟨hl,.inr ⟨g,cap,cur,hv,hb,by rw [hc.heap g (Array.getElem?_eq_some_iff.1 hg).1 (hS g ⟨hb,cur,hg⟩)]; exact hg,r⟩⟩
theorem Own.ext {w w' : World} {base : Nat} {e : TypeId} {size : Nat} {v : Value} {n : Nat} {xs : List Value} (h : Own w base e size v n xs) (hc : Ext w w') : Own w' base e size v n xs := h.chg hc fun _ _ e => e
theorem Own.base {w : World} {base base' : Nat} {e : TypeId} {size : Nat} {v : Value} {n : Nat} {xs : List Value} (h : Own w base e size v n xs) (hb : base' ≤ base) : Own w base' e size v n xs := by
 obtain ⟨hl,hn | ⟨g,cap,cur,hv,hg,r⟩⟩ := h
 · exact ⟨hl,.inl hn⟩
 · exact ⟨hl,.inr ⟨g,cap,cur,hv,Nat.le_trans hb hg,r⟩⟩
def u8s (l : List UInt8) : List Value := l.map fun b => .int .u8 b.toNat
theorem u8s_length (l : List UInt8) : (u8s l).length = l.length := by simp [u8s]
theorem u8s_get (l : List UInt8) (i : Nat) : (u8s l)[i]? = (l[i]?).map fun b => .int .u8 b.toNat := by simp [u8s]
theorem u8s_app (a b : List UInt8) : u8s (a ++ b) = u8s a ++ u8s b := by simp [u8s]
abbrev Byt (w : World) (T : TypeId) (v : Value) (l : List UInt8) : Prop := SlAt w T v l.length (u8s l)
theorem conv_bytes {P : Program} {src dst e T : TypeId} (hs : P.underlying src = some (.slice e)) (he : P.underlying e = some (.int .u8)) (hd : P.underlying dst = some .string) {w : World} {v : Value} {l : List UInt8} {K : Value → Prop}
   (h : Byt w T v l) : semQ P (convert src dst v) w K ↔ K (str l) := by
 have hr : (convert src dst v).run P w = .ok (str l) w := by
   obtain ⟨p,cap,rfl,hcap,hnil,hcells⟩ := h
   cases p with
   | none =>
     obtain ⟨h0,_⟩ := hnil rfl
     have : l = [] := List.eq_nil_of_length_eq_zero h0
     subst this
     rw [run_convert_bytes_nil (P := P) w src e hs he _ _ dst hd]
     rfl
   | some a =>
     cases l with
     | nil =>
       rw [run_convert_bytes_string w src dst e _ _ cap hs he hd]
       have hl : (loadCells a 0).run P w = .ok (([] : List Int).map (Value.int .u8)).toArray w := rfl
       have := run_bytesToString w a 0 cap [] hl
       exact this
     | cons x l =>
       obtain ⟨b,off,c,fr,hp,hb,hcs⟩ := hcells (by simp [u8s])
       cases hp
       have := run_convert_bytes_arg (P := P) w src e hs he b off (x :: l).length cap ((x :: l).map fun b => (b.toNat : Int)) (by simp) (fun i hi => by
         rw [cell_eq,hb,cellO_some,hcs i (by rw [u8s_length]; exact hi),u8s_get,List.getElem?_eq_getElem hi]
         rw [List.getD_eq_getElem?_getD,List.getElem?_map,List.getElem?_eq_getElem hi]; rfl) dst hd
       rw [this]
       simp [str,ofL,strOfNums,Function.comp_def]
 constructor
 · rintro ⟨u,hu,hk⟩
   rw [hr] at hu
   cases hu
   exact hk
 · exact fun hk => ⟨_,hr,hk⟩
end Go.Eng
namespace Go.Eng
open Go
abbrev Str := List UInt8
section
variable {P : Program} {T kt et : TypeId} {w : World} {m : Nat} {A : List (Str × Value)}
end
end Go.Eng
namespace Go.Eng
open Go
theorem Chg.at {S : Nat → Prop} {w w' : World} {k : Nat} {o : Obj} (hc : Chg S w w') (h : w.heap[k]? = some o) (hS : ¬ S k) : w'.heap[k]? = some o := by
 rw [hc.heap k (Array.getElem?_eq_some_iff.1 h).1 hS]; exact h
theorem Chg.new {w w1 w2 : World} {a : Nat} (h1 : Ext w w1) (hc : Chg (fun k => k = a) w1 w2) (ha : w.heap.size ≤ a) : Ext w w2 := h1.then hc fun k hk e => by omega
theorem at_lt {w : World} {k : Nat} {o : Obj} (h : w.heap[k]? = some o) : k < w.heap.size := (Array.getElem?_eq_some_iff.1 h).1
theorem alloc_new {T : TypeId} {z : List Value} {w : World} {K : Value → World → Prop} (h : ∀ a w',a = w.heap.size → w'.heap.size = w.heap.size + 1 → w'.heap[a]? = some (.cells z.toArray T (0,0)) → Ext w w' → K (.pointer (some ⟨a,0,none⟩)) w') : allocW T z w K :=
 h _ _ rfl (by simp) (heap_anew _ _ _ rfl) (Chg.alloc (Chg.refl _ _) _)
theorem box_new {T : TypeId} {z : List Value} {w : World} {K : Value → World → Prop} (h : ∀ a w',a = w.heap.size → w'.heap.size = w.heap.size + 1 → w'.heap[a]? = some (.cells z.toArray T (0,0)) → Ext w w' → K (.pointer (some ⟨a,0,none⟩)) w') : boxW T (.agg z.toArray) w K :=
 h _ _ rfl (by simp) (heap_anew _ _ _ rfl) (Chg.alloc (Chg.refl _ _) _)
theorem row_new {T : TypeId} {n : Nat} {cs : List Value} {w : World} {K : Value → World → Prop} (h : ∀ a w',a = w.heap.size → w'.heap.size = w.heap.size + 1 → w'.heap[a]? = some (.cells cs.toArray T (0,0)) → Ext w w' → w' = w.alloc (.cells cs.toArray T) → K (.slice (some ⟨a,0,none⟩) n n) w') :
   K (.slice (some ⟨w.heap.size,0,none⟩) n n) (w.alloc (.cells cs.toArray T)) :=
 h _ _ rfl (by simp) (heap_anew _ _ _ rfl) (Chg.alloc (Chg.refl _ _) _) rfl
theorem st_at {a off : Nat} {w : World} {T : TypeId} {cs : Array Value} {v : Value} {K : World → Prop} (hb : w.heap[a]? = some (.cells cs T (0,0))) (h1 : one1 v = true) (hoff : off < cs.size)
   (hK : ∀ w',w'.heap.size = w.heap.size → w'.heap[a]? = some (.cells (cs.setIfInBounds off v) T (0,0)) → Chg (fun k => k = a) w w' → K w') : stW 1 (.pointer (some ⟨a,off,none⟩)) v w K := by
 have hc : v.cells.toList = [v] := by cases v <;> first | rfl | (simp [one1] at h1)
 have hc2 : v.cells = #[v] := by cases v <;> first | rfl | (simp [one1] at h1)
 have hz : (⟨a,off,none⟩ : Addr).add 0 = ⟨a,off,none⟩ := rfl
 simp only [stW,hc2]
 refine ⟨rfl,?_⟩
 simp only [stCells,hz]
 refine ⟨h1,?_,?_,?_⟩
 · rw [cell_eq,hb,cellO_some]; simp [hoff]
 · rw [frozen_eq,hb,frO_zero]
 · refine hK _ (by simp) ?_ (Chg.set (S := fun k => k = a) (Chg.refl _ _) (.inl rfl) _)
   rw [heap_set_same,hb,setO_some]
theorem st_all {a : Nat} {w : World} {T : TypeId} {K : World → Prop} : ∀ (l : List Value) (i : Nat) (cs : List Value),w.heap[a]? = some (.cells cs.toArray T (0,0)) → cs.length = i + l.length → (∀ v ∈ l,one1 v = true) →
   (∀ w',w'.heap.size = w.heap.size → w'.heap[a]? = some (.cells (cs.take i ++ l).toArray T (0,0)) → Chg (fun k => k = a) w w' → K w') → stCells ⟨a,0,none⟩ l i w K := by
 intro l
 induction l generalizing w with
 | nil =>
   intro i cs hb hl _ hK
   refine hK w rfl ?_ (Chg.refl _ _)
   simp only [List.length_nil,Nat.add_zero] at hl
   rw [List.take_of_length_le (by omega),List.append_nil]; exact hb
 | cons v r ih =>
   intro i cs hb hl h1 hK
   have hadd : (⟨a,0,none⟩ : Addr).add i = ⟨a,i,none⟩ := by rw [add_mk]; simp
   simp only [List.length_cons] at hl
   simp only [stCells,hadd]
   refine ⟨h1 v List.mem_cons_self,?_,?_,?_⟩
   · rw [cell_eq,hb,cellO_some]; simp; omega
   · rw [frozen_eq,hb,frO_zero]
   · have hb' : (w.setCell ⟨a,i,none⟩ v).heap[a]? = some (.cells (cs.set i v).toArray T (0,0)) := by
       rw [heap_set_same,hb,setO_some]; simp
     refine ih (i + 1) (cs.set i v) hb' (by rw [List.length_set]; omega) (fun u hu => h1 u (List.mem_cons_of_mem _ hu)) fun w' hz hb2 hc => ?_
     refine hK w' (by rw [hz]; simp) ?_ ((Chg.set (S := fun k => k = a) (Chg.refl _ _) (.inl rfl) _).trans hc)
     rw [hb2]
     have : (cs.set i v).take (i + 1) ++ r = cs.take i ++ v :: r := by
       rw [List.take_add_one,List.getElem?_set_self (by omega),List.take_set_of_le (by omega)]
       simp
     rw [this]
theorem st_agg_at {a n : Nat} {w : World} {T : TypeId} {l cs : List Value} {K : World → Prop} (hb : w.heap[a]? = some (.cells cs.toArray T (0,0))) (hl : l.length = n) (hc : cs.length = n) (h1 : l.all one1 = true)
   (hK : ∀ w',w'.heap.size = w.heap.size → w'.heap[a]? = some (.cells l.toArray T (0,0)) → Chg (fun k => k = a) w w' → K w') : stW n (.pointer (some ⟨a,0,none⟩)) (.agg l.toArray) w K := by
 rw [st_agg]
 refine ⟨hl,?_⟩
 refine st_all l 0 cs hb (by omega) (fun v hv => List.all_eq_true.1 h1 v hv) fun w' hz hb' hc' => hK w' hz ?_ hc'
 simpa using hb'
theorem cellsAt_of {a : Nat} {w : World} {T : TypeId} {cs : List Value} {fr : Nat × Nat} (hb : w.heap[a]? = some (.cells cs.toArray T fr)) : ∀ (n i : Nat),i + n = cs.length → cellsAt w ⟨a,0,none⟩ i n = some (cs.drop i)
 | 0,i,h => by simp only [cellsAt]; rw [List.drop_of_length_le (by omega)]
 | n + 1,i,h => by
   have hi : i < cs.length := by omega
   simp only [cellsAt,add_mk,cell_eq,hb,cellO_some,Nat.zero_add,List.getElem?_toArray,List.getElem?_eq_getElem hi]
   rw [cellsAt_of hb n (i + 1) (by omega)]
   simp
theorem ld_all {a n : Nat} {w : World} {T : TypeId} {l : List Value} {fr : Nat × Nat} {K : Value → Prop} (hb : w.heap[a]? = some (.cells l.toArray T fr)) (hn : l.length = n) (hK : K (.agg l.toArray)) : ldW true n (.pointer (some ⟨a,0,none⟩)) w K := by
 rw [ld_agg]
 exact ⟨l,by rw [cellsAt_of hb n 0 (by omega)]; rfl,hK⟩
theorem ret_agg {a n : Nat} {T : TypeId} {l cs : List Value} {w : World} {K : Value → World → Prop} (hb : w.heap[a]? = some (.cells cs.toArray T (0,0))) (hl : l.length = n) (hc : cs.length = n) (h1 : l.all one1 = true)
   (hK : ∀ w',Chg (fun k => k = a) w w' → K (.agg l.toArray) w') : stW n (.pointer (some ⟨a,0,none⟩)) (.agg l.toArray) w fun w5 => ldW true n (.pointer (some ⟨a,0,none⟩)) w5 fun r6 => K r6 w5 :=
 st_agg_at hb hl hc h1 fun w' _ hb' hcw => ld_all hb' hl (hK w' hcw)
end Go.Eng
namespace Go.Eng
open Go
inductive JV where
 | mk (k : Int) (b : Bool) (t : Str) (xs : List JV) (ks : List Str)
namespace JV
def k : JV → Int | .mk k _ _ _ _ => k
def b : JV → Bool | .mk _ b _ _ _ => b
def t : JV → Str | .mk _ _ t _ _ => t
def xs : JV → List JV | .mk _ _ _ xs _ => xs
def ks : JV → List Str | .mk _ _ _ _ ks => ks
theorem ind {p : JV → Prop} (h : ∀ k b t xs ks,(∀ x ∈ xs,p x) → p (.mk k b t xs ks)) (v : JV) : p v :=
 JV.rec (motive_1 := p) (motive_2 := fun l => ∀ x ∈ l,p x) (fun k b t xs ks ih => h k b t xs ks ih) (by intro x hx; cases hx)
   (fun x l hx hl y hy => by rcases List.mem_cons.1 hy with rfl | hy; exact hx; exact hl y hy) v
end JV
end Go.Eng
namespace Go.Num
open Go.Eng
def isDig (c : UInt8) : Bool := decide (48 ≤ c.toNat) && decide (c.toNat ≤ 57)
def dig (a : Str) : Str := match a with | [] => [] | c :: d => if c = 45 then d else c :: d
def neg (a : Str) : Bool := a.head? == some 45
def goodN (a : Str) : Bool := decide (1 ≤ (dig a).length) && decide ((dig a).length ≤ 100) && (!((dig a).head? == some 48) || decide (a = [48])) && (dig a).all isDig
def dval (c : UInt8) : Nat := c.toNat - 48
def dec (d : Str) : Nat := d.foldl (fun n c => n * 10 + dval c) 0
def val : List Nat → Nat
 | [] => 0
 | x :: r => x + 1000000000 * val r
theorem all_take {d : Str} (n : Nat) (h : d.all isDig = true) : (d.take n).all isDig = true := List.all_eq_true.2 fun x hx => List.all_eq_true.1 h x (List.mem_of_mem_take hx)
end Go.Num
namespace Go.Eng
open Go Go.Num
def keysOk : List Str → Bool
 | [] => true
 | [a] => decide (a.length ≤ 16384)
 | a :: b :: r => decide (a.length ≤ 16384) && Op.bytesLess a b && keysOk (b :: r)
def headOk (k : Int) (b : Bool) (t : Str) (n : Nat) (ks : List Str) : Bool :=
 decide (0 ≤ k) && decide (k ≤ 6) && (!b || decide (k = 2)) && (decide (t = []) || decide (k = 3) || decide (k = 4)) && (decide (n = 0) || decide (5 ≤ k)) && (decide (k = 6) || decide (ks = [])) &&
   (!decide (k = 3) || goodN t) && (!decide (k = 4) || decide (t.length ≤ 16384)) && (!decide (k = 6) || decide (ks.length = n)) && keysOk ks
mutual
def plainM : JV → Bool
 | .mk k b t xs ks => headOk k b t xs.length ks && plainL xs
def plainL : List JV → Bool
 | [] => true
 | x :: xs => plainM x && plainL xs
end
theorem all_take {α : Type} {p : α → Bool} {xs : List α} {i : Nat} {x : α} (hi : xs[i]? = some x) : (xs.take (i + 1)).all p = ((xs.take i).all p && p x) := by
 rw [List.take_add_one,hi]; simp
theorem all_no {α : Type} {p : α → Bool} {xs : List α} {i : Nat} {x : α} (hi : xs[i]? = some x) (h : p x = false) : xs.all p = false := by
 rw [List.all_eq_false]; exact ⟨x,List.mem_of_getElem? hi,by simp [h]⟩
def insP : List (Str × JV) → Str → JV → List (Str × JV)
 | [],k,x => [(k,x)]
 | (a,y) :: r,k,x => if Op.bytesLess k a then (k,x) :: (a,y) :: r else (a,y) :: insP r k x
end Go.Eng
namespace Go.Eng
open Go
def byteM (s : Str) (i : Nat) : Int := match s[i]? with | some b => (b.toNat : Int) | none => -1
def moreM (s : Str) (i : Nat) : Bool := decide (128 ≤ byteM s i) && decide (byteM s i < 192)
def runeM (s : Str) (i : Nat) : Nat :=
 let c := byteM s i
 if c < 0 then 0 else if c < 128 then 1
 else if 194 ≤ c ∧ c < 224 ∧ moreM s (i + 1) = true then 2
 else if 224 ≤ c ∧ c < 240 ∧ moreM s (i + 1) = true ∧ moreM s (i + 2) = true ∧
   2048 ≤ (c - 224) * 4096 + (byteM s (i + 1) - 128) * 64 + byteM s (i + 2) - 128 ∧ ((c - 224) * 4096 + (byteM s (i + 1) - 128) * 64 + byteM s (i + 2) - 128 < 55296 ∨ 57343 < (c - 224) * 4096 + (byteM s (i + 1) - 128) * 64 + byteM s (i + 2) - 128) then 3
 else if 240 ≤ c ∧ c < 245 ∧ moreM s (i + 1) = true ∧ moreM s (i + 2) = true ∧ moreM s (i + 3) = true ∧
   65536 ≤ (c - 240) * 262144 + (byteM s (i + 1) - 128) * 4096 + (byteM s (i + 2) - 128) * 64 + byteM s (i + 3) - 128 ∧ (c - 240) * 262144 + (byteM s (i + 1) - 128) * 4096 + (byteM s (i + 2) - 128) * 64 + byteM s (i + 3) - 128 ≤ 1114111 then 4
 else 0
def utfGo (s : Str) : Nat → Nat → Bool
 | 0,i => decide (s.length ≤ i)
 | n + 1,i => if s.length ≤ i then true else if runeM s i = 0 then false else utfGo s n (i + runeM s i)
def utfM (s : Str) : Bool := utfGo s s.length 0
def b8 (n : Nat) : UInt8 := UInt8.ofNat n
def wrM (n : Nat) : Str :=
 if n < 128 then [b8 n] else if n < 2048 then [b8 (192 + n / 64),b8 (128 + n % 64)]
 else if n < 65536 then [b8 (224 + n / 4096),b8 (128 + n / 64 % 64),b8 (128 + n % 64)]
 else [b8 (240 + n / 262144),b8 (128 + n / 4096 % 64),b8 (128 + n / 64 % 64),b8 (128 + n % 64)]
def hexD (n : Nat) : UInt8 := if n < 10 then b8 (48 + n) else b8 (87 + n)
def escB (c : UInt8) : Str :=
 if c = 34 ∨ c = 92 then [92,c] else if c = 8 then [92,98] else if c = 12 then [92,102] else if c = 10 then [92,110] else if c = 13 then [92,114] else if c = 9 then [92,116]
 else if c < 32 then [92,117,48,48,b8 (48 + c.toNat / 16),hexD (c.toNat % 16)] else [c]
inductive RR (α : Type) where
 | ok (v : α) (i : Nat) (count : Nat)
 | bad (code : Int) (i : Nat)
def isDig (c : Int) : Bool := decide (48 ≤ c) && decide (c ≤ 57)
def hexV (c : Int) : Int := if 48 ≤ c ∧ c ≤ 57 then c - 48 else if 97 ≤ c ∧ c ≤ 102 then c - 87 else if 65 ≤ c ∧ c ≤ 70 then c - 55 else -1
def hexM (s : Str) (i : Nat) : Int :=
 if i + 6 ≤ s.length ∧ byteM s i = 92 ∧ byteM s (i + 1) = 117 ∧ 0 ≤ hexV (byteM s (i + 2)) ∧ 0 ≤ hexV (byteM s (i + 3)) ∧ 0 ≤ hexV (byteM s (i + 4)) ∧ 0 ≤ hexV (byteM s (i + 5)) then
   ((hexV (byteM s (i + 2)) * 16 + hexV (byteM s (i + 3))) * 16 + hexV (byteM s (i + 4))) * 16 + hexV (byteM s (i + 5)) else -1
def escM (s : Str) (i : Nat) : Option (Str × Nat) :=
 let c := byteM s (i + 1)
 if c = 34 then some ([34],2) else if c = 92 then some ([92],2) else if c = 47 then some ([47],2) else if c = 98 then some ([8],2) else if c = 102 then some ([12],2)
 else if c = 110 then some ([10],2) else if c = 114 then some ([13],2) else if c = 116 then some ([9],2)
 else
   let a := hexM s i
   let b := hexM s (i + 6)
   if a < 0 ∨ 56320 ≤ a ∧ a ≤ 57343 then none
   else if 55296 ≤ a ∧ a ≤ 56319 then (if b < 56320 ∨ 57343 < b then none else some (wrM (65536 + (a - 55296) * 1024 + b - 56320).toNat,12))
   else some (wrM a.toNat,6)
structure ErrNo where
 json : Int
 long : Int
 deep : Int
 text : Int
 twice : Int
def quotGo (E : ErrNo) (s : Str) (start : Nat) : Nat → Nat → Str → Nat → RR Str
 | 0,i,_,_ => .bad E.json i
 | n + 1,i,out,cnt =>
   if byteM s i = 34 then (if 16384 < out.length then .bad E.long start else .ok out (i + 1) cnt)
   else if byteM s i < 0 then .bad E.json s.length
   else if byteM s i = 92 then (match escM s i with | none => .bad E.json i | some (t,k) => quotGo E s start n (i + k) (out ++ t) cnt)
   else if byteM s i < 32 then .bad E.json i
   else if runeM s i = 0 then .bad E.text i
   else quotGo E s start n (i + runeM s i) (out ++ (s.drop i).take (runeM s i)) cnt
def quotM (E : ErrNo) (s : Str) (i cnt : Nat) : RR Str := quotGo E s i (s.length + 1) (i + 1) [] cnt
end Go.Eng
namespace Go.Eng
open Go
def bt (s : Str) (i : Nat) : Nat := (s.getD i 0).toNat
theorem bt_lt (s : Str) (i : Nat) : bt s i < 256 := UInt8.toNat_lt _
theorem byteM_in {s : Str} {i : Nat} (h : i < s.length) : byteM s i = (bt s i : Int) := by
 unfold byteM bt
 rw [List.getElem?_eq_getElem h,List.getD_eq_getElem?_getD,List.getElem?_eq_getElem h]; rfl
theorem byteM_out {s : Str} {i : Nat} (h : s.length ≤ i) : byteM s i = -1 := by
 unfold byteM
 rw [List.getElem?_eq_none h]
theorem get_bt (s : Str) (i : Nat) : ((ofL s).get! i).toNat = bt s i := by
 unfold bt
 congr 1
 show (s.toArray)[i]! = s.getD i 0
 rw [List.getElem!_toArray,List.getElem!_eq_getElem?_getD,List.getD_eq_getElem?_getD]; rfl
theorem dec_ofL (s : Str) (i : Nat) : Utf8.decode (ofL s) i = Lib.decodeN (s.length - i) (bt s i) (bt s (i + 1)) (bt s (i + 2)) (bt s (i + 3)) := by
 rw [Lib.decode_at,get_bt,get_bt,get_bt,get_bt,ofL_size]
abbrev mor (L k b : Nat) : Prop := k < L ∧ 128 ≤ b ∧ b < 192
abbrev c3 (b0 b1 b2 : Nat) : Nat := (b0 - 224) * 4096 + (b1 - 128) * 64 + (b2 - 128)
abbrev c4 (b0 b1 b2 b3 : Nat) : Nat := (b0 - 240) * 262144 + (b1 - 128) * 4096 + (b2 - 128) * 64 + (b3 - 128)
def decR (L b0 b1 b2 b3 : Nat) : Nat × Nat :=
 if b0 < 128 then (b0,1)
 else if 194 ≤ b0 ∧ b0 < 224 ∧ mor L 1 b1 then ((b0 - 192) * 64 + (b1 - 128),2)
 else if 224 ≤ b0 ∧ b0 < 240 ∧ mor L 1 b1 ∧ mor L 2 b2 ∧ 2048 ≤ c3 b0 b1 b2 ∧ (c3 b0 b1 b2 < 55296 ∨ 57343 < c3 b0 b1 b2) then (c3 b0 b1 b2,3)
 else if 240 ≤ b0 ∧ b0 < 245 ∧ mor L 1 b1 ∧ mor L 2 b2 ∧ mor L 3 b3 ∧ 65536 ≤ c4 b0 b1 b2 b3 ∧ c4 b0 b1 b2 b3 ≤ 1114111 then (c4 b0 b1 b2 b3,4)
 else (65533,1)
theorem dec_decR {L b0 b1 b2 b3 : Nat} (h0 : b0 < 256) (h1 : b1 < 256) (h2 : b2 < 256) (h3 : b3 < 256) : Lib.decodeN L b0 b1 b2 b3 = decR L b0 b1 b2 b3 := by
 have m1 : (1 < L ∧ b1 / 64 = 2) ↔ mor L 1 b1 := by unfold mor; omega
 have m2 : (2 < L ∧ b2 / 64 = 2) ↔ mor L 2 b2 := by unfold mor; omega
 have m3 : (3 < L ∧ b3 / 64 = 2) ↔ mor L 3 b3 := by unfold mor; omega
 unfold Lib.decodeN decR
 simp only [m1,m2,m3]
 by_cases a0 : b0 < 128
 · rw [if_pos a0,if_pos a0]
 rw [if_neg a0,if_neg a0]
 by_cases a1 : b0 < 194
 · rw [if_neg (show ¬ (194 ≤ b0 ∧ b0 < 224 ∧ mor L 1 b1) from fun h => by omega),if_neg (show ¬ (224 ≤ b0 ∧ b0 < 240 ∧ _) from fun h => by omega),if_neg (show ¬ (240 ≤ b0 ∧ b0 < 245 ∧ _) from fun h => by omega)]
   rw [if_neg (show ¬ (b0 / 16 = 14 ∧ _) from fun h => by omega),if_neg (show ¬ (b0 / 8 = 30 ∧ _) from fun h => by omega)]
   by_cases a2 : b0 / 32 = 6 ∧ mor L 1 b1
   · rw [if_pos a2,if_neg (by omega)]
   · rw [if_neg a2]
 by_cases a2 : b0 < 224
 · rw [if_neg (show ¬ (224 ≤ b0 ∧ b0 < 240 ∧ _) from fun h => by omega),if_neg (show ¬ (240 ≤ b0 ∧ b0 < 245 ∧ _) from fun h => by omega)]
   rw [if_neg (show ¬ (b0 / 16 = 14 ∧ _) from fun h => by omega),if_neg (show ¬ (b0 / 8 = 30 ∧ _) from fun h => by omega)]
   by_cases q : mor L 1 b1
   · have q' := q
     unfold mor at q'
     rw [if_pos ⟨by omega,q⟩,if_pos (by omega),if_pos ⟨by omega,a2,q⟩]
     apply Prod.ext
     · show b0 % 32 * 64 + b1 % 64 = (b0 - 192) * 64 + (b1 - 128); omega
     · rfl
   · rw [if_neg (fun h => q h.2),if_neg (fun h => q h.2.2)]
 by_cases a3 : b0 < 240
 · rw [if_neg (show ¬ (194 ≤ b0 ∧ b0 < 224 ∧ mor L 1 b1) from fun h => by omega),if_neg (show ¬ (240 ≤ b0 ∧ b0 < 245 ∧ _) from fun h => by omega)]
   rw [if_neg (show ¬ (b0 / 32 = 6 ∧ _) from fun h => by omega),if_neg (show ¬ (b0 / 8 = 30 ∧ _) from fun h => by omega)]
   by_cases q : mor L 1 b1 ∧ mor L 2 b2
   · have q' := q
     unfold mor at q'
     have e : b0 % 16 * 4096 + b1 % 64 * 64 + b2 % 64 = c3 b0 b1 b2 := by unfold c3; omega
     have e2 : c3 b0 b1 b2 ≤ 65535 := by unfold c3; omega
     rw [if_pos ⟨by omega,q.1,q.2⟩]
     simp only [e]
     by_cases r : 2048 ≤ c3 b0 b1 b2 ∧ (c3 b0 b1 b2 < 55296 ∨ 57343 < c3 b0 b1 b2)
     · rw [if_pos ⟨r.1,by omega⟩,if_pos ⟨by omega,a3,q.1,q.2,r.1,r.2⟩]
     · rw [if_neg (by omega),if_neg (fun h => r ⟨h.2.2.2.2.1,h.2.2.2.2.2⟩)]
   · rw [if_neg (fun h => q ⟨h.2.1,h.2.2⟩),if_neg (fun h => q ⟨h.2.2.1,h.2.2.2.1⟩)]
 · rw [if_neg (show ¬ (194 ≤ b0 ∧ b0 < 224 ∧ mor L 1 b1) from fun h => by omega),if_neg (show ¬ (224 ≤ b0 ∧ b0 < 240 ∧ _) from fun h => by omega)]
   rw [if_neg (show ¬ (b0 / 32 = 6 ∧ _) from fun h => by omega),if_neg (show ¬ (b0 / 16 = 14 ∧ _) from fun h => by omega)]
   by_cases q : mor L 1 b1 ∧ mor L 2 b2 ∧ mor L 3 b3
   · have q' := q
     unfold mor at q'
     by_cases a4 : b0 < 248
     · have e : b0 % 8 * 262144 + b1 % 64 * 4096 + b2 % 64 * 64 + b3 % 64 = c4 b0 b1 b2 b3 := by unfold c4; omega
       rw [if_pos ⟨by omega,q.1,q.2.1,q.2.2⟩]
       simp only [e]
       by_cases r : 65536 ≤ c4 b0 b1 b2 b3 ∧ c4 b0 b1 b2 b3 ≤ 1114111
       · rw [if_pos ⟨r.1,by omega⟩,if_pos ⟨by omega,by have := r.2; unfold c4 at this; omega,q.1,q.2.1,q.2.2,r.1,r.2⟩]
       · rw [if_neg (by omega),if_neg (fun h => r ⟨h.2.2.2.2.2.1,h.2.2.2.2.2.2⟩)]
     · rw [if_neg (show ¬ (b0 / 8 = 30 ∧ _) from fun h => by omega),if_neg (show ¬ (240 ≤ b0 ∧ b0 < 245 ∧ _) from fun h => by omega)]
   · rw [if_neg (fun h => q ⟨h.2.1,h.2.2.1,h.2.2.2⟩),if_neg (fun h => q ⟨h.2.2.1,h.2.2.2.1,h.2.2.2.2.1⟩)]
theorem moreM_iff {s : Str} {i k : Nat} : moreM s (i + k) = true ↔ mor (s.length - i) k (bt s (i + k)) := by
 unfold moreM mor
 rw [Bool.and_eq_true,decide_eq_true_iff,decide_eq_true_iff]
 rcases Nat.lt_or_ge (i + k) s.length with h | h
 · rw [byteM_in h]; omega
 · rw [byteM_out h]; omega
def runR (L b0 b1 b2 b3 : Nat) : Nat :=
 if b0 < 128 then 1
 else if 194 ≤ b0 ∧ b0 < 224 ∧ mor L 1 b1 then 2
 else if 224 ≤ b0 ∧ b0 < 240 ∧ mor L 1 b1 ∧ mor L 2 b2 ∧ 2048 ≤ c3 b0 b1 b2 ∧ (c3 b0 b1 b2 < 55296 ∨ 57343 < c3 b0 b1 b2) then 3
 else if 240 ≤ b0 ∧ b0 < 245 ∧ mor L 1 b1 ∧ mor L 2 b2 ∧ mor L 3 b3 ∧ 65536 ≤ c4 b0 b1 b2 b3 ∧ c4 b0 b1 b2 b3 ≤ 1114111 then 4
 else 0
set_option maxHeartbeats 4000000 in
theorem runeM_runR {s : Str} {i : Nat} (h : i < s.length) : runeM s i = runR (s.length - i) (bt s i) (bt s (i + 1)) (bt s (i + 2)) (bt s (i + 3)) := by
 unfold runeM runR
 simp only [moreM_iff,byteM_in h]
 by_cases h1 : i + 1 < s.length
 · by_cases h2 : i + 2 < s.length
   · by_cases h3 : i + 3 < s.length
     · simp only [byteM_in h1,byteM_in h2,byteM_in h3,mor,c3,c4]
       repeat' split
       all_goals first | rfl | (exfalso; omega)
     · simp only [byteM_in h1,byteM_in h2,mor,c3,c4]
       repeat' split
       all_goals first | rfl | (exfalso; omega)
   · simp only [byteM_in h1,mor,c3,c4]
     repeat' split
     all_goals first | rfl | (exfalso; omega)
 · simp only [mor,c3,c4]
   repeat' split
   all_goals first | rfl | (exfalso; omega)
theorem b8_bt (s : Str) (i : Nat) (h : i < s.length) : UInt8.ofNat (bt s i) = s[i] := by
 unfold bt
 rw [List.getD_eq_getElem?_getD,List.getElem?_eq_getElem h]; simp
theorem take_one {s : Str} {i : Nat} (h : i < s.length) : (s.drop i).take 1 = [UInt8.ofNat (bt s i)] := by
 rw [b8_bt s i h,List.drop_eq_getElem_cons h]; rfl
theorem take_step {s : Str} {i n : Nat} (h : i < s.length) : (s.drop i).take (n + 1) = UInt8.ofNat (bt s i) :: (s.drop (i + 1)).take n := by
 rw [b8_bt s i h,List.drop_eq_getElem_cons h]; rfl
set_option maxHeartbeats 4000000 in
theorem rune_bad {s : Str} {i : Nat} (h : i < s.length) (h0 : runeM s i = 0) : Utf8.decode (ofL s) i = (65533,1) := by
 rw [dec_ofL,dec_decR (bt_lt _ _) (bt_lt _ _) (bt_lt _ _) (bt_lt _ _)]
 rw [runeM_runR h] at h0
 unfold runR at h0
 unfold decR
 repeat' split at h0
 all_goals first | (exfalso; omega) | skip
 all_goals (repeat rw [if_neg (by assumption)])
structure RuneAt (s : Str) (i n c : Nat) : Prop where
 dec : Utf8.decode (ofL s) i = (c,n)
 fits : i + n ≤ s.length
 small : n ≤ 4
 bytes : Lib.encodeRune c = (s.drop i).take n
 low : n = 1 → c = bt s i ∧ c < 128
 high : 2 ≤ n → 128 ≤ c ∧ 128 ≤ bt s i
 top : c ≤ 1114111
 val : c < 55296 ∨ 57343 < c
theorem enc_map (l : List Int) : (l.map fun x => x.toNat.toUInt8) = l.map fun x => UInt8.ofNat x.toNat := rfl
set_option maxHeartbeats 8000000 in
theorem rune_good {s : Str} {i : Nat} (h : i < s.length) (h0 : runeM s i ≠ 0) : ∃ c,RuneAt s i (runeM s i) c := by
 have e := dec_ofL s i
 rw [dec_decR (bt_lt _ _) (bt_lt _ _) (bt_lt _ _) (bt_lt _ _)] at e
 have hr := runeM_runR h
 have l0 := bt_lt s i
 generalize hn : runeM s i = n at *
 unfold runR at hr
 unfold decR at e
 by_cases a1 : bt s i < 128
 · rw [if_pos a1] at hr e
   subst hr
   refine ⟨_,e,by omega,by omega,?_,fun _ => ⟨rfl,a1⟩,fun h => by omega,by omega,by omega⟩
   rw [take_one h,Lib.encodeRune,Lib.encodeRuneZ_one (by omega) (by omega)]
   simp
 rw [if_neg a1] at hr e
 by_cases a2 : 194 ≤ bt s i ∧ bt s i < 224 ∧ mor (s.length - i) 1 (bt s (i + 1))
 · rw [if_pos a2] at hr e
   subst hr
   obtain ⟨a2,a3,a4,a5,a6⟩ := a2
   refine ⟨_,e,by omega,by omega,?_,fun h => by omega,fun h => by omega,by omega,by omega⟩
   rw [take_step h,take_one (by omega),Lib.encodeRune,Lib.encodeRuneZ_two (by omega) (by omega)]
   simp only [List.map_cons,List.map_nil,enc_map]
   rw [show ((192 : Int) + (((bt s i - 192) * 64 + (bt s (i + 1) - 128) : Nat) : Int) / 64).toNat = bt s i by omega,show ((128 : Int) + (((bt s i - 192) * 64 + (bt s (i + 1) - 128) : Nat) : Int) % 64).toNat = bt s (i + 1) by omega]
 rw [if_neg a2] at hr e
 by_cases a3 : 224 ≤ bt s i ∧ bt s i < 240 ∧ mor (s.length - i) 1 (bt s (i + 1)) ∧ mor (s.length - i) 2 (bt s (i + 2)) ∧ 2048 ≤ c3 (bt s i) (bt s (i + 1)) (bt s (i + 2)) ∧ (c3 (bt s i) (bt s (i + 1)) (bt s (i + 2)) < 55296 ∨ 57343 < c3 (bt s i) (bt s (i + 1)) (bt s (i + 2)))
 · rw [if_pos a3] at hr e
   subst hr
   obtain ⟨p1,p2,⟨p3,p4,p5⟩,⟨p6,p7,p8⟩,p9,p10⟩ := a3
   have q3 : c3 (bt s i) (bt s (i + 1)) (bt s (i + 2)) = (bt s i - 224) * 4096 + (bt s (i + 1) - 128) * 64 + (bt s (i + 2) - 128) := rfl
   refine ⟨_,e,by omega,by omega,?_,fun h => by omega,fun h => by omega,by omega,by omega⟩
   rw [take_step h,take_step (by omega),take_one (by omega),Lib.encodeRune,Lib.encodeRuneZ_three (by omega)]
   simp only [List.map_cons,List.map_nil,enc_map]
   rw [show ((224 : Int) + ((c3 (bt s i) (bt s (i + 1)) (bt s (i + 2)) : Nat) : Int) / 4096).toNat = bt s i by unfold c3; omega,show ((128 : Int) + ((c3 (bt s i) (bt s (i + 1)) (bt s (i + 2)) : Nat) : Int) / 64 % 64).toNat = bt s (i + 1) by unfold c3; omega,show ((128 : Int) + ((c3 (bt s i) (bt s (i + 1)) (bt s (i + 2)) : Nat) : Int) % 64).toNat = bt s (i + 2) by unfold c3; omega]
 rw [if_neg a3] at hr e
 by_cases a4 : 240 ≤ bt s i ∧ bt s i < 245 ∧ mor (s.length - i) 1 (bt s (i + 1)) ∧ mor (s.length - i) 2 (bt s (i + 2)) ∧ mor (s.length - i) 3 (bt s (i + 3)) ∧ 65536 ≤ c4 (bt s i) (bt s (i + 1)) (bt s (i + 2)) (bt s (i + 3)) ∧ c4 (bt s i) (bt s (i + 1)) (bt s (i + 2)) (bt s (i + 3)) ≤ 1114111
 · rw [if_pos a4] at hr e
   subst hr
   obtain ⟨p1,p2,⟨p3,p4,p5⟩,⟨p6,p7,p8⟩,⟨p9,p10,p11⟩,p12,p13⟩ := a4
   refine ⟨_,e,by omega,by omega,?_,fun h => by omega,fun h => by omega,by omega,by omega⟩
   rw [take_step h,take_step (by omega),take_step (by omega),take_one (by omega),Lib.encodeRune,Lib.encodeRuneZ_four (by omega) (by omega)]
   simp only [List.map_cons,List.map_nil,enc_map]
   rw [show ((240 : Int) + ((c4 (bt s i) (bt s (i + 1)) (bt s (i + 2)) (bt s (i + 3)) : Nat) : Int) / 262144).toNat = bt s i by unfold c4; omega,show ((128 : Int) + ((c4 (bt s i) (bt s (i + 1)) (bt s (i + 2)) (bt s (i + 3)) : Nat) : Int) / 4096 % 64).toNat = bt s (i + 1) by unfold c4; omega,show ((128 : Int) + ((c4 (bt s i) (bt s (i + 1)) (bt s (i + 2)) (bt s (i + 3)) : Nat) : Int) / 64 % 64).toNat = bt s (i + 2) by unfold c4; omega,show ((128 : Int) + ((c4 (bt s i) (bt s (i + 1)) (bt s (i + 2)) (bt s (i + 3)) : Nat) : Int) % 64).toNat = bt s (i + 3) by unfold c4; omega]
 rw [if_neg a4] at hr
 exact absurd hr h0
def stepM (s : Str) (i : Nat) : Nat := max (runeM s i) 1
theorem dec_step {s : Str} {i : Nat} (h : i < s.length) : (Utf8.decode (ofL s) i).2 = stepM s i := by
 unfold stepM
 by_cases h0 : runeM s i = 0
 · rw [rune_bad h h0,h0]; rfl
 · obtain ⟨c,hc⟩ := rune_good h h0
   rw [hc.dec]
   show runeM s i = max (runeM s i) 1
   omega
theorem step_fits {s : Str} {i : Nat} (h : i < s.length) : i + stepM s i ≤ s.length := by
 unfold stepM
 by_cases h0 : runeM s i = 0
 · rw [h0]; show i + 1 ≤ _; omega
 · obtain ⟨c,hc⟩ := rune_good h h0
   have := hc.fits
   omega
theorem step_pos (s : Str) (i : Nat) : 1 ≤ stepM s i := by unfold stepM; omega
theorem rune_end {s : Str} {i : Nat} (h : s.length ≤ i) : runeM s i = 0 := by
 unfold runeM
 simp only [byteM_out h]
 rfl
theorem wr_enc {n : Nat} (h : n < 55296 ∨ 57343 < n ∧ n ≤ 1114111) : Lib.encodeRune n = wrM n := by
 unfold Lib.encodeRune wrM b8
 by_cases h1 : n < 128
 · rw [Lib.encodeRuneZ_one (by omega) (by omega),if_pos h1]; simp
 rw [if_neg h1]
 by_cases h2 : n < 2048
 · rw [Lib.encodeRuneZ_two (by omega) (by omega),if_pos h2]
   simp only [List.map_cons,List.map_nil,enc_map]
   rw [show ((192 : Int) + (n : Int) / 64).toNat = 192 + n / 64 by omega,show ((128 : Int) + (n : Int) % 64).toNat = 128 + n % 64 by omega]
 rw [if_neg h2]
 by_cases h3 : n < 65536
 · rw [Lib.encodeRuneZ_three (by omega),if_pos h3]
   simp only [List.map_cons,List.map_nil,enc_map]
   rw [show ((224 : Int) + (n : Int) / 4096).toNat = 224 + n / 4096 by omega,show ((128 : Int) + (n : Int) / 64 % 64).toNat = 128 + n / 64 % 64 by omega,show ((128 : Int) + (n : Int) % 64).toNat = 128 + n % 64 by omega]
 · rw [Lib.encodeRuneZ_four (by omega) (by omega),if_neg h3]
   simp only [List.map_cons,List.map_nil,enc_map]
   rw [show ((240 : Int) + (n : Int) / 262144).toNat = 240 + n / 262144 by omega,show ((128 : Int) + (n : Int) / 4096 % 64).toNat = 128 + n / 4096 % 64 by omega,show ((128 : Int) + (n : Int) / 64 % 64).toNat = 128 + n / 64 % 64 by omega,show ((128 : Int) + (n : Int) % 64).toNat = 128 + n % 64 by omega]
end Go.Eng
namespace Go.Lex
open Go Go.Eng Go.Num
structure Tok where
 k : Int
 t : Str
 a : Int
deriving DecidableEq
def isLetter (c : UInt8) : Bool := (97 ≤ c && c ≤ 122) || (65 ≤ c && c ≤ 90) || c == 95
def isDigit (c : UInt8) : Bool := 48 ≤ c && c ≤ 57
def isName (c : UInt8) : Bool := isLetter c || isDigit c || c == 45
def runM (p : UInt8 → Bool) : Str → Nat
 | [] => 0
 | c :: r => if p c then runM p r + 1 else 0
def preM (p s : Str) : Bool := p.isPrefixOf s
def skipF : Nat → Str → Nat × Int
 | 0,_ => (0,0)
 | _ + 1,[] => (0,0)
 | n + 1,c :: r =>
   if c == 32 || c == 9 || c == 13 then ((skipF n r).1 + 1,(skipF n r).2)
   else if c == 35 || preM [47,47] (c :: r) then
     let k := runM (fun b => b != 10) (c :: r)
     ((skipF n ((c :: r).drop k)).1 + k,(skipF n ((c :: r).drop k)).2)
   else if preM [47,42] (c :: r) then
     let i := Lib.index (r.drop 1) [42,47]
     if i < 0 then (0,40)
     else ((skipF n ((c :: r).drop (i.toNat + 4))).1 + (i.toNat + 4),(skipF n ((c :: r).drop (i.toNat + 4))).2)
   else (0,0)
def addM (k : Nat) (r : Nat × Int) : Nat × Int := if r.2 = 0 then (r.1 + k,0) else (0,r.2)
def escOk (c : UInt8) : Bool := c == 34 || c == 92 || c == 110 || c == 116 || c == 114 || c == 36
mutual
/-- the rest of a text,up to its closing quote,and it -/
def textF : Nat → Str → Nat → Nat × Int
 | 0,_,_ => (0,40)
 | _ + 1,[],_ => (0,40)
 | n + 1,c :: r,d =>
   if c == 34 then (1,0)
   else if c == 10 then (0,40)
   else if c == 92 then
     match r with
     | [] => (0,40)
     | e :: r' => if escOk e then addM 2 (textF n r' d) else (0,40)
   else if preM [36,123] (c :: r) then
     if 24 < d + 1 then (0,7)
     else
       let i := insF n (r.drop 1) (d + 1)
       if i.2 = 0 then addM (i.1 + 2) (textF n ((r.drop 1).drop i.1) d) else (0,i.2)
   else addM 1 (textF n r d)
/-- the rest of an insertion behind its opening brace,up to the closing one,and it -/
def insF : Nat → Str → Nat → Nat × Int
 | 0,_,_ => (0,40)
 | _ + 1,[],_ => (0,40)
 | n + 1,c :: r,d =>
   if c == 125 then (1,0)
   else if c == 10 then (0,40)
   else if c == 123 then
     if 24 < d + 1 then (0,7)
     else
       let i := insF n r (d + 1)
       if i.2 = 0 then addM (i.1 + 1) (insF n (r.drop i.1) d) else (0,i.2)
   else if c == 34 then
     let i := textF n r d
     if i.2 = 0 then addM (i.1 + 1) (insF n (r.drop i.1) d) else (0,i.2)
   else addM 1 (insF n r d)
end
def hereL : Str → Str
 | [] => []
 | c :: r => if c == 92 || c == 34 || c == 36 then 92 :: c :: hereL r else if c == 9 then 92 :: 116 :: hereL r else if c == 13 then 92 :: 114 :: hereL r else c :: hereL r
def hereF : Nat → Str → Str → Str × Nat × Int
 | 0,_,_ => ([],0,40)
 | n + 1,name,s =>
   let k := runM (fun b => b != 10) s
   let line := s.take k
   if line.drop (runM (fun b => b == 32 || b == 9) line) = name then ([],k,0)
   else if s.length ≤ k then ([],0,40)
   else
     let x := hereF n name (s.drop (k + 1))
     if x.2.2 = 0 then (hereL line ++ [92,110] ++ x.1,x.2.1 + (k + 1),0) else ([],0,x.2.2)
def heredocM (s : Str) : Str × Nat × Int :=
 let n := if isLetter ((s.drop 2).headD 0) then runM isName (s.drop 2) else 0
 if n = 0 then ([],0,40)
 else if (s.drop (2 + n)).head? = some 10 then
   let x := hereF (s.length + 1) ((s.drop 2).take n) (s.drop (2 + n + 1))
   if x.2.2 = 0 then (x.1,x.2.1 + (2 + n + 1),0) else ([],0,x.2.2)
 else ([],0,40)
def signs2 : List Str := [[61,61],[33,61],[60,61],[62,61],[38,38],[124,124]]
def signs1 : Str := [123,125,91,93,40,41,61,43,45,42,47,37,60,62,33,63,58,44,46]
def signM (s : Str) : Str :=
 if signs2.contains (s.take 2) then s.take 2 else if signs1.contains (s.headD 0) then s.take 1 else []
def oneM (s : Str) : Tok × Nat × Int :=
 let c := s.headD 0
 if c == 10 then (⟨5,[10],0⟩,1,0)
 else if isLetter c then
   let n := runM isName s
   (⟨1,s.take n,0⟩,n,if 32 < n then 3 else 0)
 else if isDigit c then
   let n := runM isDigit s
   (⟨2,s.take n,0⟩,n,if (n < s.length && isLetter ((s.drop n).headD 0)) || (c == 48 && 1 < n) then 40 else if goodN (s.take n) then 0 else 3)
 else if c == 34 then
   let r := textF (s.length + 1) (s.drop 1) 0
   if r.2 = 0 then (⟨3,(s.drop 1).take (r.1 - 1),0⟩,r.1 + 1,0) else (⟨0,[],0⟩,0,r.2)
 else if preM [60,60] s then
   let r := heredocM s
   (⟨3,r.1,0⟩,r.2.1,r.2.2)
 else (⟨4,signM s,0⟩,(signM s).length,if (signM s).length = 0 then 40 else 0)
def badF : Nat → Str → Nat → Option Nat
 | 0,_,_ => none
 | n + 1,s,i => if s.length ≤ i then none else if runeM s i = 0 then some i else badF n s (i + stepM s i)
inductive RS where
 | ok (l : List Tok)
 | bad (code at_ : Int)
deriving DecidableEq
def scanF : Nat → Str → Nat → Nat → RS
 | 0,_,_,_ => .bad 0 0
 | n + 1,s,at_,cnt =>
   let k := skipF (s.length + 1) s
   let r := s.drop k.1
   if k.2 ≠ 0 then .bad k.2 (at_ + k.1 : Nat)
   else if r = [] then .ok [⟨0,[],(at_ + k.1 : Nat)⟩]
   else
     let o := oneM r
     if o.2.2 ≠ 0 then .bad o.2.2 (at_ + k.1 : Nat)
     else if cnt = 4096 then .bad 3 (at_ + k.1 : Nat)
     else match scanF n (r.drop o.2.1) (at_ + k.1 + o.2.1) (cnt + 1) with
       | .ok l => .ok (⟨o.1.k,o.1.t,(at_ + k.1 : Nat)⟩ :: l)
       | x => x
def scanM (s : Str) : RS :=
 if 16384 < s.length then .bad 3 0
 else match badF (s.length + 1) s 0 with
   | some i => .bad 31 (i : Nat)
   | none => scanF (s.length + 1) s 0 0
end Go.Lex
namespace Go.Syn
open Go Go.Eng Go.Lex
structure Ex where
 k : Int
 t : Str
 args : List Nat
 keys : List Str
 a : Int
deriving DecidableEq
structure Atr where
 n : Str
 e : Nat
 a : Int
deriving DecidableEq
structure Blk where
 typ : Str
 labels : List Str
 attrs : List Atr
 blocks : List Nat
 a : Int
deriving DecidableEq
structure Fl where
 ex : List Ex
 bl : List Blk
 top : List Nat
deriving DecidableEq
structure PS where
 toks : List Tok
 i : Nat
 off : Int
 deep : Nat
 quiet : Bool
 ex : List Ex
 bl : List Blk
inductive R (α : Type) where
 | ok (x : α) (s : PS)
 | err (c a : Int)
def R.bind {α β : Type} (r : R α) (f : α → PS → R β) : R β := match r with
 | .ok x s => f x s
 | .err c a => .err c a
def lineRun : List Tok → Nat
 | [] => 0
 | t :: r => if t.k = 5 then lineRun r + 1 else 0
def nowS (s : PS) : PS := if s.quiet = true then { s with i := s.i + lineRun (s.toks.drop s.i) } else s
def tokI (s : PS) : Tok := s.toks.getD s.i ⟨0,[],0⟩
def cur (s : PS) : Tok := { tokI (nowS s) with a := (tokI (nowS s)).a + s.off }
def step1 (s : PS) : PS := { s with i := s.i + 1 }
def nextS (s : PS) : PS := if (cur s).k ≠ 0 then step1 (nowS s) else nowS s
def isS (s : PS) (w : Str) : Bool := decide ((cur s).k = 4) && decide ((cur s).t = w)
def takeS (s : PS) (w : Str) : Bool × PS := if isS s w = true then (true,step1 (nowS s)) else (false,nowS s)
def wantR (s : PS) (w : Str) : R Unit := if isS s w = true then .ok () (step1 (nowS s)) else .err 50 (cur s).a
def kindR (s : PS) (k : Int) : R Tok := if (cur s).k = k then .ok (cur s) (nextS s) else .err 50 (cur s).a
def linesS (s : PS) : PS := { nowS s with i := (nowS s).i + lineRun (s.toks.drop (nowS s).i) }
def putR (s : PS) (e : Ex) : R Nat := .ok s.ex.length { s with ex := s.ex ++ [e] }
def within {α : Type} (s : PS) (a : Int) (quiet : Bool) (f : PS → R α) : R α :=
 if s.deep = 24 then .err 7 a
 else (f { s with deep := s.deep + 1,quiet := quiet }).bind fun x s' => .ok x { s' with deep := s.deep,quiet := s.quiet }
def saysM : Str → Str
 | [] => []
 | [c] => if c = 92 then [] else [c]
 | c :: e :: r => if c = 92 then (if e = 110 then 10 else if e = 116 then 9 else if e = 114 then 13 else e) :: saysM r else c :: saysM (e :: r)
mutual
def braF : Nat → Str → Int → Nat
 | 0,_,_ => 0
 | _ + 1,[],_ => 0
 | n + 1,c :: r,d =>
   if c = 123 then 1 + braF n r (d + 1)
   else if c = 125 then (if d - 1 = 0 then 1 else 1 + braF n r (d - 1))
   else if c = 34 then (1 + quoF n r) + braF n (r.drop (quoF n r)) d
   else 1 + braF n r d
/-- of a text's rest behind its quote -/
def quoF : Nat → Str → Nat
 | 0,_ => 0
 | _ + 1,[] => 0
 | n + 1,c :: r =>
   if c = 34 then 1
   else if c = 92 then (match r with | [] => 1 | _ :: r' => 2 + quoF n r')
   else if preM [36,123] (c :: r) = true then (1 + braF n r 0) + quoF n (r.drop (braF n r 0))
   else 1 + quoF n r
end
def braM (s : Str) : Nat := braF (s.length + 1) s 0
def insP : Str → Option (Nat × Nat)
 | [] => none
 | [_] => none
 | c :: e :: r =>
   if c = 92 then (insP r).map fun x => (x.1 + 2,x.2 + 2)
   else if c = 36 ∧ e = 123 then some (0,1 + braM (e :: r))
   else (insP (e :: r)).map fun x => (x.1 + 1,x.2 + 1)
def plainR (s : PS) (t : Tok) : R Str := if (insP t.t).isSome = true then .err 50 t.a else .ok (saysM t.t) s
def innerR (E : PS → R Nat) (s : PS) (t : Str) (a : Int) : R Nat := match scanM t with
 | .bad c b => .err c (a + b)
 | .ok l => (E ⟨l,0,a,s.deep,false,s.ex,s.bl⟩).bind fun x q => (kindR q 0).bind fun _ q' => .ok x { s with ex := q'.ex,bl := q'.bl }
def partsF (E : PS → R Nat) : Nat → PS → Str → Int → List Nat → List Str → R (List Nat × List Str)
 | 0,_,_,_,_,_ => .err 0 0
 | n + 1,s,rest,a,us,ks =>
   if rest = [] then .ok (us,ks) s
   else match insP rest with
     | none => .ok (us ++ [s.ex.length],ks ++ [[116]]) { s with ex := s.ex ++ [⟨5,saysM rest,[],[],a⟩] }
     | some (i,e) =>
       let s1 := if 0 < i then { s with ex := s.ex ++ [⟨5,saysM (rest.take i),[],[],a⟩] } else s
       let as1 := if 0 < i then us ++ [s.ex.length] else us
       let ks1 := if 0 < i then ks ++ [[116]] else ks
       if i < e then
         (within s1 (a + i) false fun q => innerR E q ((rest.drop (i + 2)).take (e - 1 - (i + 2))) (a + i + 2)).bind fun x s2 => partsF E n s2 (rest.drop e) (a + e) (as1 ++ [x]) (ks1 ++ [[101]])
       else partsF E n s1 (rest.drop e) (a + e) as1 ks1
def textR (E : PS → R Nat) (s : PS) (t : Tok) : R Nat :=
 if (insP t.t).isSome = true then (partsF E (t.t.length + 1) s t.t (t.a + 1) [] []).bind fun x s' => putR s' ⟨6,[],x.1,x.2,t.a⟩
 else putR s ⟨5,saysM t.t,[],[],t.a⟩
def kFor : Str := [102,111,114]
def kIn : Str := [105,110]
def namedK (t : Str) : Int := if t = [110,117,108,108] then 1 else if t = [116,114,117,101] then 2 else if t = [102,97,108,115,101] then 3 else 9
def argsF (E : PS → R Nat) (w : Str) : Nat → PS → List Nat → R (List Nat)
 | 0,_,_ => .err 0 0
 | n + 1,s,out =>
   if (takeS s w).1 = true then .ok out (takeS s w).2
   else if out = [] then (E (takeS s w).2).bind fun x s' => argsF E w n s' (out ++ [x])
   else (wantR (takeS s w).2 [44]).bind fun _ s1 =>
     if (takeS s1 w).1 = true then .ok out (takeS s1 w).2
     else (E (takeS s1 w).2).bind fun x s' => argsF E w n s' (out ++ [x])
def argsR (E : PS → R Nat) (w : Str) (s : PS) : R (List Nat) := argsF E w (s.toks.length + 1) s []
def listR (E : PS → R Nat) (s : PS) (a : Int) : R Ex :=
 let s1 := step1 s
 if (cur s1).k ≠ 1 ∨ (cur s1).t ≠ kFor then (argsR E [93] (nowS s1)).bind fun us s' => .ok ⟨7,[],us,[],a⟩ s'
 else (kindR (step1 (nowS s1)) 1).bind fun t s2 => (kindR s2 1).bind fun u s3 =>
   if u.t ≠ kIn then .err 50 u.a
   else (E s3).bind fun x s4 => (wantR s4 [58]).bind fun _ s5 => (E s5).bind fun y s6 => (wantR s6 [93]).bind fun _ s7 => .ok ⟨29,t.t,[x,y],[],a⟩ s7
def objF (E : PS → R Nat) (a : Int) : Nat → PS → List Nat → List Str → R Ex
 | 0,_,_,_ => .err 0 0
 | n + 1,s,us,ks =>
   if (takeS s [125]).1 = true then .ok ⟨8,[],us,ks,a⟩ (takeS s [125]).2
   else
     let s1 := (takeS s [125]).2
     let t := cur s1
     let s2 := nextS s1
     (if t.k = 3 then plainR s2 t else if t.k = 1 then .ok t.t s2 else .err 50 t.a).bind fun k s3 =>
       if ks.contains k = true then .err 2 t.a
       else (wantR s3 [61]).bind fun _ s4 => (E s4).bind fun x s5 =>
         if (takeS s5 [44]).1 = false ∧ (cur (takeS s5 [44]).2).k ≠ 5 ∧ isS (nowS (takeS s5 [44]).2) [125] = false then .err 50 (cur (nowS (takeS s5 [44]).2)).a
         else objF E a n (linesS (if (takeS s5 [44]).1 = true then (takeS s5 [44]).2 else nowS (takeS s5 [44]).2)) (us ++ [x]) (ks ++ [k])
def objR (E : PS → R Nat) (s : PS) (a : Int) : R Ex := objF E a (s.toks.length + 1) (linesS (step1 s)) [] []
def atomR (E : PS → R Nat) (s : PS) : R Nat :=
 let t := cur s
 let s1 := nowS s
 if t.k = 2 then putR (step1 s1) ⟨4,t.t,[],[],t.a⟩
 else if t.k = 3 then textR E (step1 s1) t
 else if t.k = 1 ∧ t.t ≠ kFor then
   if isS (step1 s1) [40] = true then
     (within (nowS (step1 s1)) (cur (step1 s1)).a true fun q => argsR E [41] (step1 q)).bind fun us s2 => putR s2 ⟨12,t.t,us,[],t.a⟩
   else putR (nowS (step1 s1)) ⟨namedK t.t,if namedK t.t = 9 then t.t else [],[],[],t.a⟩
 else if isS s1 [40] = true then within s1 t.a true fun q => (E (step1 q)).bind fun x q1 => (wantR q1 [41]).bind fun _ q2 => .ok x q2
 else if isS s1 [91] = true then (within s1 t.a true fun q => listR E q t.a).bind fun e s2 => putR s2 e
 else if isS s1 [123] = true then (within s1 t.a false fun q => objR E q t.a).bind fun e s2 => putR s2 e
 else .err 50 t.a
def postF (E : PS → R Nat) : Nat → PS → Nat → R Nat
 | 0,_,_ => .err 0 0
 | n + 1,s,x =>
   let t := cur s
   let s1 := nowS s
   if (takeS s1 [46]).1 = true then (kindR (takeS s1 [46]).2 1).bind fun u s2 => (putR s2 ⟨10,u.t,[x],[],t.a⟩).bind fun y s3 => postF E n s3 y
   else if isS s1 [91] = true then
     (within s1 t.a true fun q =>
       if (takeS (step1 q) [42]).1 = true then (wantR (takeS (step1 q) [42]).2 [93]).bind fun _ q2 => .ok none q2
       else (E (takeS (step1 q) [42]).2).bind fun y q1 => (wantR q1 [93]).bind fun _ q2 => .ok (some y) q2).bind fun o s2 =>
       match o with
       | some y => (putR s2 ⟨11,[],[x,y],[],t.a⟩).bind fun z s3 => postF E n s3 z
       | none => (wantR s2 [46]).bind fun _ s3 => (kindR s3 1).bind fun u s4 => (putR s4 ⟨30,u.t,[x],[],t.a⟩).bind fun z s5 => postF E n s5 z
   else .ok x s1
def postR (E : PS → R Nat) (s : PS) : R Nat := (atomR E s).bind fun x s1 => postF E (s.toks.length + 1) s1 x
def signR (E S : PS → R Nat) (s : PS) : R Nat :=
 let t := cur s
 let s1 := nowS s
 if isS s1 [33] = true then (within s1 t.a s1.quiet fun q => S (step1 q)).bind fun x s2 => putR s2 ⟨14,[],[x],[],t.a⟩
 else if isS s1 [45] = true then (within s1 t.a s1.quiet fun q => S (step1 q)).bind fun x s2 => putR s2 ⟨13,[],[x],[],t.a⟩
 else postR E s1
def joinK (n : Nat) (w : Str) : Int :=
 if n = 0 then (if w = [124,124] then 27 else 0)
 else if n = 1 then (if w = [38,38] then 26 else 0)
 else if n = 2 then (if w = [61,61] then 20 else if w = [33,61] then 21 else 0)
 else if n = 3 then (if w = [60] then 22 else if w = [62] then 23 else if w = [60,61] then 24 else if w = [62,61] then 25 else 0)
 else if n = 4 then (if w = [43] then 15 else if w = [45] then 16 else 0)
 else if n = 5 then (if w = [42] then 17 else if w = [47] then 18 else if w = [37] then 19 else 0)
 else 0
def levelK (t : Tok) (n : Nat) : Int := if t.k = 4 then joinK n t.t else 0
def joinF (J : PS → R Nat) (n : Nat) : Nat → PS → Nat → R Nat
 | 0,_,_ => .err 0 0
 | f + 1,s,a =>
   let t := cur s
   if levelK t n = 0 then .ok a (nowS s)
   else (J (step1 (nowS s))).bind fun b s1 => (putR s1 ⟨levelK t n,[],[a,b],[],t.a⟩).bind fun x s2 => joinF J n f s2 x
def joinU (E S : PS → R Nat) : Nat → PS → R Nat
 | 0 => signR E S
 | m + 1 => fun s => (joinU E S m s).bind fun a s1 => joinF (joinU E S m) (5 - m) (s.toks.length + 1) s1 a
def exprR (E S : PS → R Nat) (s : PS) : R Nat := (joinU E S 6 s).bind fun a s1 =>
 let t := cur s1
 if (takeS s1 [63]).1 = true then
   (within (takeS s1 [63]).2 t.a (takeS s1 [63]).2.quiet fun q => (E q).bind fun x q1 => (wantR q1 [58]).bind fun _ q2 => (E q2).bind fun y q3 => .ok (x,y) q3).bind fun z s2 => putR s2 ⟨28,[],[a,z.1,z.2],[],t.a⟩
 else .ok a (takeS s1 [63]).2
def dead : PS → R Nat := fun _ => .err 0 0
def exprD : Nat → (PS → R Nat) × (PS → R Nat)
 | 0 => (exprR dead dead,signR dead dead)
 | d + 1 => (exprR (exprD d).1 (exprD d).2,signR (exprD d).1 (exprD d).2)
def labelsF : Nat → PS → List Str → R (List Str)
 | 0,_,_ => .err 0 0
 | n + 1,s,ls =>
   if (cur s).k = 3 then (plainR (nextS s) (cur s)).bind fun l s1 => labelsF n s1 (ls ++ [l])
   else .ok ls (nowS s)
def itemR (E B : PS → R Nat) (s : PS) (us : List Atr) (bs : List Nat) : R (List Atr × List Nat) := (kindR s 1).bind fun t s1 =>
 if (takeS s1 [61]).1 = true then (E (takeS s1 [61]).2).bind fun x s2 => .ok (us ++ [⟨t.t,x,t.a⟩],bs) s2
 else (B { (takeS s1 [61]).2 with i := (takeS s1 [61]).2.i - 1 }).bind fun x s2 => .ok (us,bs ++ [x]) s2
def itemsF (E B : PS → R Nat) : Nat → PS → List Atr → List Nat → R (List Atr × List Nat)
 | 0,_,_,_ => .err 0 0
 | n + 1,s,us,bs =>
   if (takeS s [125]).1 = true then .ok (us,bs) (takeS s [125]).2
   else (itemR E B (takeS s [125]).2 us bs).bind fun x s1 =>
     if (cur s1).k ≠ 5 ∧ isS (nowS s1) [125] = false then .err 50 (cur (nowS s1)).a
     else itemsF E B n (linesS (nowS s1)) x.1 x.2
def blockR (E B : PS → R Nat) (s : PS) : R Nat := (kindR s 1).bind fun t s1 => (labelsF (s.toks.length + 1) s1 []).bind fun ls s2 =>
 if isS s2 [123] = false then .err 50 (cur s2).a
 else (within (nowS s2) (cur s2).a false fun q => itemsF E B (s.toks.length + 1) (linesS (step1 q)) [] []).bind fun x s3 =>
   .ok s3.bl.length { s3 with bl := s3.bl ++ [⟨t.t,ls,x.1,x.2,t.a⟩] }
def blockD : Nat → PS → R Nat
 | 0 => blockR dead dead
 | d + 1 => blockR (exprD d).1 (blockD d)
def topF : Nat → PS → List Nat → R (List Nat)
 | 0,_,_ => .err 0 0
 | n + 1,s,top =>
   if (cur s).k = 0 then .ok top (nowS s)
   else (blockD 24 (nowS s)).bind fun x s1 =>
     if (cur s1).k ≠ 5 ∧ (cur s1).k ≠ 0 then .err 50 (cur (nowS s1)).a
     else topF n (linesS (nowS s1)) (top ++ [x])
inductive PR where
 | ok (f : Fl)
 | bad (c a : Int)
deriving DecidableEq
def parseM (s : Str) : PR := match scanM s with
 | .bad c a => .bad c a
 | .ok l => match topF (l.length + 1) (linesS ⟨l,0,0,0,false,[],[]⟩) [] with
   | .ok top s' => .ok ⟨s'.ex,s'.bl,top⟩
   | .err c a => .bad c a
end Go.Syn
namespace Go.Syn
open Go Go.Eng Go.Lex
def plainB (c : UInt8) : Str := if c = 92 ∨ c = 34 ∨ c = 36 then [92,c] else if c = 10 then [92,110] else if c = 9 then [92,116] else if c = 13 then [92,114] else [c]
def plainM (s : Str) : Str := s.flatMap plainB
def quotM (s : Str) : Str := [34] ++ plainM s ++ [34]
def sigT : List Str := [[43],[45],[42],[47],[37],[61,61],[33,61],[60],[62],[60,61],[62,61],[38,38],[124,124]]
def tplM (f : Fl) (e : Ex) (l : List Str) (n : Nat) : Str :=
 ((List.range n).map fun k => if e.keys.getD k [] = [116] then plainM (f.ex.getD (e.args.getD k 0) ⟨0,[],[],[],0⟩).t else [36,123] ++ l.getD k [] ++ [125]).flatten
def joinL (l : List Str) (sep : Str) : Str := sep.intercalate l
def showK (f : Fl) (e : Ex) (l : List Str) : Str :=
 let all := joinL l [44,32]
 if e.k = 1 then [110,117,108,108]
 else if e.k = 2 then [116,114,117,101]
 else if e.k = 3 then [102,97,108,115,101]
 else if e.k = 4 ∨ e.k = 9 then e.t
 else if e.k = 5 then quotM e.t
 else if e.k = 6 then [34] ++ tplM f e l l.length ++ [34]
 else if e.k = 7 then [91] ++ all ++ [93]
 else if e.k = 8 then [123] ++ all ++ [125]
 else if e.k = 10 then [40] ++ l.getD 0 [] ++ [41,46] ++ e.t
 else if e.k = 30 then [40] ++ l.getD 0 [] ++ [41,91,42,93,46] ++ e.t
 else if e.k = 11 then [40] ++ l.getD 0 [] ++ [41,91] ++ l.getD 1 [] ++ [93]
 else if e.k = 12 then e.t ++ [40] ++ all ++ [41]
 else if e.k = 13 then [40,45] ++ all ++ [41]
 else if e.k = 14 then [40,33] ++ all ++ [41]
 else if e.k = 28 then [40] ++ l.getD 0 [] ++ [32,63,32] ++ l.getD 1 [] ++ [32,58,32] ++ l.getD 2 [] ++ [41]
 else if e.k = 29 then [91,102,111,114,32] ++ e.t ++ [32,105,110,32] ++ l.getD 0 [] ++ [32,58,32] ++ l.getD 1 [] ++ [93]
 else [40] ++ l.getD 0 [] ++ [32] ++ sigT.getD (e.k - 15).toNat [] ++ [32] ++ l.getD 1 [] ++ [41]
def argT (e : Ex) (s : Nat → Str) (k : Nat) : Str := (if e.k = 8 then [34] ++ plainM (e.keys.getD k []) ++ [34,32,61,32] else []) ++ s (e.args.getD k 0)
def argsT (e : Ex) (s : Nat → Str) : List Str := (List.range e.args.length).map (argT e s)
def exprF : Nat → Fl → Nat → Str
 | 0,_,_ => []
 | n + 1,f,i => match f.ex[i]? with
   | none => []
   | some e => showK f e (argsT e (exprF n f))
def exprM (f : Fl) (i : Nat) : Str := exprF (i + 1) f i
def inM (n : Nat) : Str := (List.replicate n [32,32]).flatten
def labsM (l : List Str) : Str := (l.map fun s => [32,34] ++ plainM s ++ [34]).flatten
def atrM (f : Fl) (n : Nat) (a : Atr) : Str := inM n ++ [32,32] ++ a.n ++ [32,61,32] ++ exprM f a.e ++ [10]
def blockF : Nat → Fl → Nat → Nat → Str
 | 0,_,_,_ => []
 | m + 1,f,i,n => match f.bl[i]? with
   | none => []
   | some b => inM n ++ b.typ ++ labsM b.labels ++ [32,123,10] ++ (b.attrs.map (atrM f n)).flatten ++ (b.blocks.map fun k => blockF m f k (n + 1)).flatten ++ inM n ++ [125,10]
def blockM (f : Fl) (i n : Nat) : Str := blockF (i + 1) f i n
def fileM (f : Fl) : Str := (f.top.map fun i => blockM f i 0).flatten
theorem exprF_eq {f : Fl} (h : ∀ (i : Nat) (e : Ex),f.ex[i]? = some e → ∀ a ∈ e.args,a < i) : ∀ (n i : Nat),i < n → exprF n f i = exprM f i := by
 intro n i
 induction i using Nat.strongRecOn generalizing n with
 | ind i ih =>
   intro hi
   obtain ⟨n,rfl⟩ : ∃ m,n = m + 1 := ⟨n - 1,by omega⟩
   unfold exprM
   simp only [exprF]
   cases he : f.ex[i]? with
   | none => rfl
   | some e =>
     simp only
     congr 1
     unfold argsT
     apply List.map_congr_left
     intro k hk
     rw [List.mem_range] at hk
     unfold argT
     congr 1
     have ha := h i e he (e.args.getD k 0) (by rw [List.getD_eq_getElem?_getD,List.getElem?_eq_getElem hk]; exact List.getElem_mem hk)
     rw [ih _ ha n (by omega),ih _ ha i ha]
theorem expr_eq {f : Fl} (h : ∀ (i : Nat) (e : Ex),f.ex[i]? = some e → ∀ a ∈ e.args,a < i) {i : Nat} {e : Ex} (he : f.ex[i]? = some e) : exprM f i = showK f e (argsT e (exprM f)) := by
 unfold exprM
 simp only [exprF,he]
 congr 1
 unfold argsT
 apply List.map_congr_left
 intro k hk
 rw [List.mem_range] at hk
 unfold argT
 congr 1
 have ha := h i e he (e.args.getD k 0) (by rw [List.getD_eq_getElem?_getD,List.getElem?_eq_getElem hk]; exact List.getElem_mem hk)
 exact exprF_eq h i _ ha
theorem blockF_eq {f : Fl} (h : ∀ (i : Nat) (b : Blk),f.bl[i]? = some b → ∀ a ∈ b.blocks,a < i) : ∀ (n i l : Nat),i < n → blockF n f i l = blockM f i l := by
 intro n i
 induction i using Nat.strongRecOn generalizing n with
 | ind i ih =>
   intro l hi
   obtain ⟨n,rfl⟩ : ∃ m,n = m + 1 := ⟨n - 1,by omega⟩
   unfold blockM
   simp only [blockF]
   cases he : f.bl[i]? with
   | none => rfl
   | some b =>
     simp only
     have e : b.blocks.map (fun k => blockF n f k (l + 1)) = b.blocks.map (fun k => blockF i f k (l + 1)) := by
       apply List.map_congr_left
       intro k hk
       have ha := h i b he k hk
       rw [ih _ ha n _ (by omega),ih _ ha i _ ha]
     rw [e]
theorem block_eq {f : Fl} (h : ∀ (i : Nat) (b : Blk),f.bl[i]? = some b → ∀ a ∈ b.blocks,a < i) {i : Nat} {b : Blk} (he : f.bl[i]? = some b) (n : Nat) :
   blockM f i n = inM n ++ b.typ ++ labsM b.labels ++ [32,123,10] ++ (b.attrs.map (atrM f n)).flatten ++ (b.blocks.map fun k => blockM f k (n + 1)).flatten ++ inM n ++ [125,10] := by
 show blockF (i + 1) f i n = _
 simp only [blockF,he]
 have e : b.blocks.map (fun k => blockF i f k (n + 1)) = b.blocks.map (fun k => blockM f k (n + 1)) := by
   apply List.map_congr_left
   intro k hk
   exact blockF_eq h i k _ (h i b he k hk)
 rw [e]
end Go.Syn
namespace Go.Syn
open Go Go.Eng Go.Lex
inductive PlB (c : UInt8) : Str → Prop where
 | esc (e : UInt8) (h : Lex.escOk e = true) (h2 : (if e = 110 then (10 : UInt8) else if e = 116 then 9 else if e = 114 then 13 else e) = c) : PlB c [92,e]
 | lit (h1 : c ≠ 92) (h2 : c ≠ 34) (h3 : c ≠ 36) (h4 : c ≠ 10) : PlB c [c]
theorem plain_b (c : UInt8) : PlB c (plainB c) := by
 unfold plainB
 by_cases h1 : c = 92 ∨ c = 34 ∨ c = 36
 · rw [if_pos h1]
   rcases h1 with rfl | rfl | rfl <;> exact .esc _ (by decide) (by decide)
 rw [if_neg h1]
 by_cases h2 : c = 10
 · rw [if_pos h2]; subst h2; exact .esc _ (by decide) (by decide)
 rw [if_neg h2]
 by_cases h3 : c = 9
 · rw [if_pos h3]; subst h3; exact .esc _ (by decide) (by decide)
 rw [if_neg h3]
 by_cases h4 : c = 13
 · rw [if_pos h4]; subst h4; exact .esc _ (by decide) (by decide)
 rw [if_neg h4]
 exact .lit (fun e => h1 (.inl e)) (fun e => h1 (.inr (.inl e))) (fun e => h1 (.inr (.inr e))) h2
theorem plain_cons (c : UInt8) (s : Str) : plainM (c :: s) = plainB c ++ plainM s := rfl
theorem says_plain : ∀ s : Str,saysM (plainM s) = s
 | [] => rfl
 | c :: s => by
   rw [plain_cons]
   have ih := says_plain s
   have hp := plain_b c
   generalize plainB c = p at hp
   cases hp with
   | esc e h h2 =>
     show saysM (92 :: e :: plainM s) = _
     rw [saysM,if_pos rfl,ih,h2]
   | lit h1 h2 h3 h4 =>
     show saysM (c :: plainM s) = _
     cases hs : plainM s with
     | nil =>
       rw [hs] at ih
       rw [saysM,if_neg h1,← ih]; rfl
     | cons d r =>
       rw [hs] at ih
       rw [saysM,if_neg h1,ih]
theorem ins_plain : ∀ s : Str,insP (plainM s) = none
 | [] => rfl
 | c :: s => by
   rw [plain_cons]
   have ih := ins_plain s
   have hp := plain_b c
   generalize plainB c = p at hp
   cases hp with
   | esc e h h2 =>
     show insP (92 :: e :: plainM s) = _
     rw [insP,if_pos rfl,ih]; rfl
   | lit h1 h2 h3 h4 =>
     show insP (c :: plainM s) = _
     cases hs : plainM s with
     | nil => rfl
     | cons d r =>
       rw [hs] at ih
       rw [insP,if_neg h1,if_neg (fun e => h3 e.1),ih]; rfl
theorem text_plain : ∀ (s r : Str) (n d : Nat),(plainM s).length < n → textF n (plainM s ++ 34 :: r) d = ((plainM s).length + 1,0)
 | [],r,n,d,h => by
   obtain ⟨n,rfl⟩ : ∃ m,n = m + 1 := ⟨n - 1,by have : 0 < n := h; omega⟩
   show textF (n + 1) (34 :: r) d = _
   unfold textF; rfl
 | c :: s,r,n,d,h => by
   rw [plain_cons] at h ⊢
   obtain ⟨n,rfl⟩ : ∃ m,n = m + 1 := ⟨n - 1,by omega⟩
   have ih := text_plain s r n d
   have hp := plain_b c
   generalize plainB c = p at hp h
   cases hp with
   | esc e h1 h2 =>
     have h : (plainM s).length + 1 + 1 < n + 1 := h
     show textF (n + 1) (92 :: e :: (plainM s ++ 34 :: r)) d = _
     unfold textF
     simp only
     rw [if_neg (by decide),if_neg (by decide),if_pos (by decide),h1,if_pos rfl,ih (by omega)]
     show addM 2 ((plainM s).length + 1,0) = _
     unfold addM
     rw [if_pos rfl]
     simp only [List.cons_append,List.nil_append,List.length_cons]
   | lit h1 h2 h3 h4 =>
     have h : (plainM s).length + 1 < n + 1 := h
     show textF (n + 1) (c :: (plainM s ++ 34 :: r)) d = _
     unfold textF
     rw [if_neg (by simpa using h2),if_neg (by simpa using h4),if_neg (by simpa using h1)]
     have hpre : preM [36,123] (c :: (plainM s ++ 34 :: r)) = false := by
       unfold preM
       simp only [List.isPrefixOf]
       rw [show ((36 : UInt8) == c) = false by simp; exact fun e => h3 e.symm]; rfl
     rw [hpre,if_neg (by decide),ih (by omega)]
     unfold addM
     rw [if_pos rfl]
     simp only [List.cons_append,List.nil_append,List.length_cons]
theorem one_text (s r : Str) : oneM (34 :: (plainM s ++ 34 :: r)) = (⟨3,plainM s,0⟩,(plainM s).length + 2,0) := by
 have e := text_plain s r ((34 :: (plainM s ++ 34 :: r)).length + 1) 0 (by simp; omega)
 unfold oneM
 simp only [List.headD_cons,List.drop_succ_cons,List.drop_zero]
 rw [if_neg (by decide),if_neg (by decide),if_neg (by decide),if_pos (by decide),e]
 simp only [Nat.add_sub_cancel,if_true]
 rw [List.take_left]
end Go.Syn
namespace Go.Eng
open Go
theorem append_own3 {P : Program} {t e T : TypeId} {size bytes : Nat} (hT : ElemT P t e size bytes) {w : World} {base : Nat} {v x : Value} {n m : Nat} {xs news : List Value} {ty : TypeId} {K : Value → World → Prop}
   (hown : Own w base e size v n xs) (hx : SlAt w T x m news) (hl : news.length = m * size) (h1 : ∀ u ∈ news,one1 u = true) (hlen : n + m ≤ 4611686018427387904) (hb : (n + m) * bytes ≤ 140737488355328) (hbase : base ≤ w.heap.size)
   (hK : ∀ v' w',Own w' base e size v' (n + m) (xs ++ news) → Chg (fun k => v.ownBlock = some k) w w' → (∀ k,v'.ownBlock = some k → v.ownBlock = some k ∨ w.heap.size ≤ k) → K v' w') :
   semE P (Builtin.append_ #[t,t] ty #[v,x]) w K := by
 obtain ⟨i,z,hi,hz,h2,h3,h4⟩ := hT.get
 have hsame : ∀ {K' : Value → World → Prop},semE P (Builtin.append_ #[t,t] ty #[v,x]) w K' → ∃ v' w',(Builtin.append_ #[t,t] ty #[v,x]).run P w = .ok v' w' ∧ K' v' w' := by
   intro K' h
   unfold semE at h
   split at h
   · rename_i v' w' hr; exact ⟨v',w',hr,h⟩
   · exact h.elim
 obtain ⟨v1,w1,hr1,hO1,hc1,hn1⟩ := hsame (append_own2 hT hown hx hl h1 hlen hb hbase fun v' w' a b c => (⟨a,b,c⟩ : Own w' base e size v' (n + m) (xs ++ news) ∧ Chg (fun k => v.ownBlock = some k) w w' ∧ (v' = .slice none 0 0 ↔ v = .slice none 0 0 ∧ m = 0)))
 unfold semE
 rw [hr1]
 refine hK v1 w1 hO1 hc1 ?_
 obtain ⟨hl',⟨rfl,rfl⟩ | ⟨g,cap,cur,rfl,hbg,hg,hnc,hcm,hcs,htake⟩⟩ := hown
 · have hnil : xs = [] := List.eq_nil_of_length_eq_zero (by simpa using hl')
   subst hnil
   obtain ⟨v2,w2,hr2,hO2⟩ := hsame (append_own2 hT (base := w.heap.size) (show Own w w.heap.size e size (.slice none 0 0) 0 [] from ⟨by simp,.inl ⟨rfl,rfl⟩⟩) hx hl h1 hlen hb (Nat.le_refl _) fun v' w' a _ _ => a)
   rw [hr1] at hr2
   cases hr2
   intro k hk
   exact .inr (hO2.block k hk).1
 · obtain ⟨p,c,rfl,_,hpn,hcells⟩ := hx
   cases p with
   | none =>
     obtain ⟨rfl,rfl⟩ := hpn rfl
     intro k hk
     have hn : news = [] := List.eq_nil_of_length_eq_zero (by simpa using hl)
     subst hn
     have hr : (Builtin.append_ #[t,t] ty #[.slice (some ⟨g,0,none⟩) n cap,.slice none 0 0]).run P w = .ok (.slice (some ⟨g,0,none⟩) n cap) w := by
       simp [Builtin.append_,run_bind,run_underlying' hT.und,run_sizeOf' (show (P.info? e).isSome = true by rw [hi]; rfl),Builtin.lenOf,run_pure,Builtin.firstCells,hnc,storeCells]
     rw [hr1] at hr
     cases hr
     exact .inl hk
   | some a =>
     have hcell : ∀ j u,news[j]? = some u → w.cell? (a.add j) = some u := by
       intro j u hu
       have hne : news ≠ [] := fun e => by subst e; simp at hu
       obtain ⟨b,off,c',fr,hp,hb',hcs'⟩ := hcells hne
       cases hp
       rw [add_mk,cell_eq,hb',cellO_some,hcs' j (List.getElem?_eq_some_iff.1 hu).1,hu]
     subst h2
     by_cases hroom : n + m ≤ cap
     · have hfit : n * i.size + news.length ≤ cur.size := by rw [hl,hcs,← Nat.add_mul]; exact Nat.mul_le_mul_right _ hroom
       have hr := run_append_room (P := P) w t ty e i hT.und hi g n cap cur hg a m c news hl hcell (fun u hu => one1_oneCell' (h1 u hu)) hroom hfit
       rw [hr1] at hr
       cases hr
       intro k hk
       exact .inl (by simpa [Value.ownBlock] using hk)
     · have holds : ∀ j u,xs[j]? = some u → w.cell? ((⟨g,0,none⟩ : Addr).add j) = some u := World.ownsRow.cells (base := base) (e := e) (size := i.size) (v := .slice (some ⟨g,0,none⟩) n cap) (n := n) ⟨hl',.inr ⟨g,cap,cur,rfl,hbg,hg,hnc,hcm,hcs,htake⟩⟩ rfl
       have hr := run_append_grow (P := P) w t ty e i z hT.und hi hz ⟨g,0,none⟩ n cap xs hl' holds a m c news hl hcell (by omega) (by omega) (growslice_fits (by omega) (by rw [h3]; exact hb))
       rw [hr1] at hr
       cases hr
       intro k hk
       right
       simp [Value.ownBlock] at hk
       omega
theorem GdW_pure (c : Bool) (u v : Value) (w : World) (B : List Value → Fr → World → Prop) : GdW c [u] w (fun J => J [v] w) B ↔ ∀ g,B [bif c then v else u] g w := by
 constructor
 · rintro ⟨J,h1,h2,h3⟩ g
   cases c with
   | true => exact h3 _ g _ (h1 rfl)
   | false => exact h3 _ g _ (h2 rfl)
 · intro h
   refine ⟨fun s w' => s = [bif c then v else u] ∧ w' = w,fun hc => ⟨by rw [hc]; rfl,rfl⟩,fun hc => ⟨by rw [hc]; rfl,rfl⟩,?_⟩
   rintro s g w' ⟨rfl,rfl⟩
   exact h g
theorem GdW_nest_and (g e f : Bool) (w : World) (B : List Value → Fr → World → Prop) :
   GdW g [undef] w (fun J => pickW (bif g then .bool e else undef) (bif (g && e) then .bool f else undef) (.bool false) fun t => J [t] w) B ↔ ∀ h,B [bif g then .bool (e && f) else undef] h w := by
 cases g with
 | true =>
   rw [← GdW_pure]
   cases e <;> exact Iff.rfl
 | false =>
   constructor
   · rintro ⟨J,_,h2,h3⟩ h; exact h3 _ h _ (h2 rfl)
   · intro h; exact GdW.f h
theorem GdW_nest_or (g e f : Bool) (w : World) (B : List Value → Fr → World → Prop) :
   GdW g [undef] w (fun J => pickW (bif g then .bool e else undef) (.bool true) (bif (g && !e) then .bool f else undef) fun t => J [t] w) B ↔ ∀ h,B [bif g then .bool (e || f) else undef] h w := by
 cases g with
 | true =>
   rw [← GdW_pure]
   cases e <;> exact Iff.rfl
 | false =>
   constructor
   · rintro ⟨J,_,h2,h3⟩ h; exact h3 _ h _ (h2 rfl)
   · intro h; exact GdW.f h
theorem pick_gd_and (c e : Bool) (K : Value → Prop) : pickW (.bool c) (bif c then .bool e else undef) (.bool false) K ↔ K (.bool (c && e)) := by cases c <;> exact Iff.rfl
theorem pick_gd_or (c e : Bool) (K : Value → Prop) : pickW (.bool c) (.bool true) (bif !c then .bool e else undef) K ↔ K (.bool (c || e)) := by cases c <;> exact Iff.rfl
theorem isB_gd_t (c e : Bool) : isB (bif c then .bool e else undef) true = (c && e) := by cases c <;> cases e <;> rfl
theorem isB_gd_f (c e : Bool) : isB (bif c then .bool e else undef) false = (c && !e) := by cases c <;> cases e <;> rfl
theorem GdW.look {c : Bool} {w : World} {A : (List Value → World → Prop) → Prop} {B : List Value → Fr → World → Prop} (e : Bool) (h1 : c = true → ∀ J : List Value → World → Prop,J [.bool e] w → A J) (h2 : ∀ g,B [bif c then .bool e else undef] g w) : GdW c [undef] w A B := by
 refine ⟨fun s w' => s = [bif c then .bool e else undef] ∧ w' = w,fun hc => h1 hc _ ⟨by rw [hc]; rfl,rfl⟩,fun hc => ⟨by rw [hc]; rfl,rfl⟩,?_⟩
 rintro s g w' ⟨rfl,rfl⟩
 exact h2 g
theorem GdW.act {c : Bool} {w : World} {A : (List Value → World → Prop) → Prop} {B : List Value → Fr → World → Prop} (e : Bool) (R : World → Prop) (h0 : c = false → R w) (h1 : c = true → ∀ J : List Value → World → Prop,(∀ w',R w' → J [.bool e] w') → A J) (h2 : ∀ g w',R w' → B [bif c then .bool e else undef] g w') : GdW c [undef] w A B := by
 refine ⟨fun s w' => s = [bif c then .bool e else undef] ∧ R w',fun hc => h1 hc _ fun w' hR => ⟨by rw [hc]; rfl,hR⟩,fun hc => ⟨by rw [hc]; rfl,h0 hc⟩,?_⟩
 rintro s g w' ⟨rfl,hR⟩
 exact h2 g w' hR
theorem GqW_f (A : (Value → Prop) → Prop) (B : Value → Prop) : GqW false A B ↔ B undef := by
 constructor
 · rintro ⟨v,_,h,hb⟩; rw [← h rfl]; exact hb
 · intro h; exact ⟨undef,(fun e => by cases e),fun _ => rfl,h⟩
theorem GqW_t (A : (Value → Prop) → Prop) (B : Value → Prop) : GqW true A B ↔ ∃ v,A (fun x => x = v) ∧ B v := by
 constructor
 · rintro ⟨v,h,_,hb⟩; exact ⟨v,h rfl,hb⟩
 · rintro ⟨v,h,hb⟩; exact ⟨v,fun _ => h,(fun e => by cases e),hb⟩
theorem GdW_f (u : List Value) (w : World) (A : (List Value → World → Prop) → Prop) (B : List Value → Fr → World → Prop) : GdW false u w A B ↔ ∀ g,B u g w := by
 constructor
 · rintro ⟨J,_,h2,h3⟩ g; exact h3 _ g _ (h2 rfl)
 · intro h; exact GdW.f h
theorem isB_u (c : Bool) : isB undef c = false := rfl
theorem condW_b (b : Bool) (A B : Prop) : condW (.bool b) A B ↔ (b = true → A) ∧ (b = false → B) := Iff.rfl
def wsv0 := And.intro @put_nil <| And.intro @put_map <| And.intro @put_int <| And.intro @put_str <| And.intro @put_bool <| And.intro @put_ptr <| And.intro @put_slice <| And.intro @bin_add <| And.intro @bin_sub <| And.intro @bin_mul <|
 And.intro @bin_quo <| And.intro @bin_rem <| And.intro @bin_eql <| And.intro @bin_neq <| And.intro @bin_lss <| And.intro @bin_leq <| And.intro @bin_gtr <| And.intro @bin_geq <| And.intro @bin_sadd <| And.intro @bin_seq <| And.intro @bin_sne <|
 And.intro @bin_slt <| And.intro @bin_sgt <| And.intro @bin_sge <| And.intro @bin_sle <| And.intro @nil_ptr <| And.intro @fld_ptr <| And.intro @ld_one <| And.intro @one_int <| And.intro @one_bool <| And.intro @one_str <| And.intro @one_slice <|
 And.intro @one_ptr <| And.intro @one_map <| And.intro @ext_tuple <| And.intro @ixa_slice <| And.intro @ixa_arr <| And.intro @ixs_str <| And.intro @lens_str <| And.intro @lenl_sl <| And.intro @un_not <| And.intro @un_neg <| And.intro @cvt_int <|
 And.intro @min_int <| And.intro @max_int <| And.intro @bd_none <| And.intro @bd_some <| And.intro @sls_str <| And.intro @pick_t <| And.intro @pick_f <| And.intro @condW_true @condW_false
def wsg0 := And.intro @isB_u <| And.intro @GqW_f <| And.intro @GqW_t <| And.intro @GdW_f <| And.intro @GdW_pure <| And.intro @GdW_nest_and <| And.intro @GdW_nest_or <| And.intro @pick_gd_and <| And.intro @pick_gd_or <| And.intro @isB_gd_t <| And.intro @isB_gd_f <| And.intro @isB_t @isB_f
def wsh0 := And.intro @add_mk <| And.intro @cell_eq <| And.intro @cellO_some <| And.intro @frozen_eq <| And.intro @frO_zero <| And.intro @heap_drew @size_drew
def wsl0 := And.intro @true_and <| And.intro @and_true <| And.intro @Bool.and_true <| And.intro @Bool.and_false <| And.intro @Bool.true_and <| And.intro @Bool.false_and <| And.intro @Bool.or_true <|
 And.intro @Bool.or_false <| And.intro @Bool.true_or <| And.intro @Bool.false_or <| And.intro @Bool.not_true @Bool.not_false
theorem wsv : type_of% wsv0 := wsv0
theorem wsg : type_of% wsg0 := wsg0
theorem wsh : type_of% wsh0 := wsh0
theorem wsl : type_of% wsl0 := wsl0
universe u
def wsu0 := And.intro @Option.some.injEq.{u} <| And.intro @Option.isSome_some.{u} <| And.intro @List.getElem?_toArray.{u} <| And.intro @List.getElem?_cons_zero.{u} <| And.intro @List.getElem?_cons_succ.{u} <| And.intro @List.length_cons.{u} <| And.intro @List.length_nil.{u} <| And.intro @List.set_cons_zero.{u} <| And.intro @List.set_cons_succ.{u} <| And.intro @List.getD_cons_zero.{u} <| And.intro @List.getD_cons_succ.{u} <| And.intro @Nat.zero_add @Nat.add_zero
theorem wsu : type_of% wsu0.{u} := wsu0.{u}
end Go.Eng
namespace Go.Proofs.YtofhaneggcpdaaaGreatDoor
open Go Go.Eng
theorem mixed : Tryz.prog.follows .mixedOrders = true := by kernel_rfl
end Go.Proofs.YtofhaneggcpdaaaGreatDoor
namespace Go.Eng
open Go
section
variable {P : Program}
def DefC (P : Program) (g : FuncId) (caps : List Value) (u : FrameMode) (w : World) (K : World → Prop) : Prop :=
 CallsD P g caps.toArray u w fun e u' w' => (∃ v,e = .returned v) ∧ settle u' = .returning ∧ K w'
def defOf : List Oper → Option (Nat × FuncId × List Operand)
 | [o1,o2] =>
   match o1.guard,o2.guard,o1.dst,o1.op,o2.dst,o2.op with
   | none,none,some t,.makeFunc (.func g) first caps,none,.defer c =>
     match first.toList,c.callee,c.args.toList with
     | [],.value (.tmp t'),[] => bif Nat.beq t t' then some (t,g,caps.toList) else none
     | _,_,_ => none
   | _,_,_,_,_,_ => none
 | _ => none
def retW (P : Program) (fn : Func) (R : Ending → World → Prop) (f : Fr) (w : World) : Prop := resW P fn.results.toList f w fun l => R (.returned (one l)) w
def codeD (P : Program) (pl : Plan) (fn : Func) (R : Ending → World → Prop) : Nat → Code → Nat → Fr → World → Prop
 | 0,.seq (.region _ ops _) b,i,f,w =>
   match defOf ops.toList with
   | some (t,g,caps) =>
     @codeW ⟨fun ch w' => DefC P g (caps.map (ev f)) (.panicking ch) w' fun w'' => retW P fn R f w''⟩ P pl b (i + 2) (upd f (some t) (.func (.func g) #[] (caps.map (ev f)).toArray)) w
       (fun f' w' => DefC P g (caps.map (ev f)) .returning w' fun w'' => retW P fn R f' w'') (fun _ _ _ => False) (fun f' w' => DefC P g (caps.map (ev f)) .returning w' fun w'' => retW P fn R f' w'')
   | none => False
 | k + 1,.seq a b,i,f,w => @codeW ⟨fun ch w' => R (.panicked ch) w'⟩ P pl a (i + 1) f w (fun f' w' => codeD P pl fn R k b (i + 1 + nodes a) f' w') (fun _ _ _ => False) (fun f' w' => retW P fn R f' w')
 | _,_,_,_,_ => False
def resIn (lo t : Nat) : ResultVar → Bool
 | .tmp x => Nat.blt x lo && !(Nat.beq x t)
 | .cell x _ => Nat.blt x lo && !(Nat.beq x t)
def chkD (P : Program) (fn : Func) (pl : Plan) (lo gd : Nat) : Nat → Code → Nat → Bool
 | 0,.seq (.region _ ops draw) b,i => !draw && (lk pl.js i).isNone &&
   (match defOf ops.toList with
   | some (t,g,_) => Nat.blt t fn.ntmps && Nat.beq g gd && fn.results.toList.all (resIn lo t) && chk P fn.ntmps pl [] lo b (i + 2)
   | none => false)
 | k + 1,.seq a b,i => (lk pl.js i).isNone && chk P fn.ntmps pl [] 0 a (i + 1) && chkD P fn pl lo gd k b (i + 1 + nodes a)
 | _,_,_ => false
theorem ldW_mono {agg : Bool} {n : Nat} {x : Value} {w : World} {K K' : Value → Prop} (hk : ∀ v,K v → K' v) (h : ldW agg n x w K) : ldW agg n x w K' := by
 cases x with
 | pointer a =>
   cases a with
   | none => exact h
   | some a =>
     cases agg with
     | true => obtain ⟨l,h1,h2⟩ := h; exact ⟨l,h1,hk _ h2⟩
     | false => obtain ⟨l,h1,h2⟩ := h; exact ⟨l,h1,hk _ h2⟩
 | _ => exact h
theorem resW_same {f f' : Fr} {w : World} : ∀ {l : List ResultVar} {K : List Value → Prop},(∀ t,(∃ r ∈ l,r = .tmp t ∨ ∃ T,r = .cell t T) → f t = f' t) → resW P l f w K → resW P l f' w K
 | [],_,_,h => h
 | r :: l,K,h,hk => by
   have hl : ∀ t,(∃ r ∈ l,r = .tmp t ∨ ∃ T,r = .cell t T) → f t = f' t := fun t ⟨r',hr,e⟩ => h t ⟨r',List.mem_cons_of_mem _ hr,e⟩
   cases r with
   | tmp t => simp only [resW] at hk ⊢; rw [← h t ⟨_,List.mem_cons_self,.inl rfl⟩]; exact resW_same hl hk
   | cell t T =>
     simp only [resW] at hk ⊢
     rw [← h t ⟨_,List.mem_cons_self,.inr ⟨T,rfl⟩⟩]
     obtain ⟨h1,h2⟩ := andB.out hk
     rw [h1]
     exact ldW_mono (fun v hv => resW_same hl hv) h2
theorem defC_leaves {fn : Func} {R : Ending → World → Prop} {g : FuncId} {caps : List Value} {u : FrameMode} {w : World} {f : Fr} {a : Act} (hr : ∀ (ar : Array Value) (w : World),(callFunc g ar).run P w = .ok (.enter g ar) w) (hu : u ≠ .run)
   (ha : ∀ t,(∃ r ∈ fn.results.toList,r = .tmp t ∨ ∃ T,r = .cell t T) → f t = a.tmps.getD t undef) (h : DefC P g caps u w fun w'' => retW P fn R f w'') :
   Leaves P fn a.tmps R [{ target := .fn (.func g) caps.toArray,args := #[] }] u w := by
 refine leaves_cons (f := g) (args := caps.toArray) hu ?_ (h.mono ?_)
 · have := hr (#[] ++ caps.toArray) w
   rw [show (#[] ++ caps.toArray : Array Value) = caps.toArray from by simp] at this
   show (callFunc g (#[] ++ caps.toArray)).run P w = _
   rw [show (#[] ++ caps.toArray : Array Value) = caps.toArray from by simp]
   exact this
 · rintro e u' w' ⟨⟨v,rfl⟩,hs,hk⟩
   show Leaves P fn a.tmps R [] (settle u') w'
   rw [hs]
   have hag : Ag a.tmps.size a.defers (fun t => a.tmps.getD t undef) a := ⟨rfl,rfl,fun _ => rfl⟩
   letI := noX
   obtain ⟨v',hk',hr'⟩ := results_run (fn := fn) (K := fun v => R (.returned v) w') hag (resW_same ha hk)
   exact ⟨v',hr',hk'⟩
theorem defOf_some {l : List Oper} {t : Nat} {g : FuncId} {caps : List Operand} (h : defOf l = some (t,g,caps)) : ∃ o1 o2 first cp c,l = [o1,o2] ∧ o1.guard = none ∧ o2.guard = none ∧ o1.dst = some t ∧ o1.op = .makeFunc (.func g) first cp ∧ first = #[] ∧ cp.toList = caps ∧ o2.dst = none ∧ o2.op = .defer c ∧ c.callee = .value (.tmp t) ∧ c.args = #[] := by
 unfold defOf at h
 split at h
 · rename_i o1 o2
   split at h
   · rename_i t' g' first cp c e1 e2 e3 e4 e5 e6
     split at h
     · rename_i t'' h1 h2 h3
       cases hb : Nat.beq t' t'' with
       | false => rw [hb] at h; cases h
       | true =>
         rw [hb] at h
         simp only [cond_true,Option.some.injEq,Prod.mk.injEq] at h
         obtain ⟨rfl,rfl,rfl⟩ := h
         have : t' = t'' := Nat.eq_of_beq_eq_true hb
         subst this
         exact ⟨o1,o2,first,cp,c,rfl,e1,e2,e3,e4,by simpa using h1,rfl,e5,e6,h2,by simpa using h3⟩
     · cases h
   · cases h
 · cases h
theorem codeD_sound (hm : P.follows .mixedOrders = true) {pl : Plan} {fn : Func} {R : Ending → World → Prop} {lo gd : Nat} (hr : ∀ (ar : Array Value) (w : World),(callFunc gd ar).run P w = .ok (.enter gd ar) w) :
   ∀ (k : Nat) (c : Code) (i : Nat) (f : Fr) (a : Act) (w : World),chkD P fn pl lo gd k c i = true → Ag fn.ntmps [] f a → codeD P pl fn R k c i f w → c.wp P (bodyPostD P fn R) a w := by
 intro k
 induction k with
 | zero =>
   intro c i f a w hc hag h
   cases c with
   | seq x b =>
     cases x with
     | region id ops draw =>
       simp only [codeD] at h
       simp only [chkD,Bool.and_eq_true,Bool.not_eq_true'] at hc
       obtain ⟨⟨hdr,hl⟩,hc⟩ := hc
       cases hd : defOf ops.toList with
       | none => simp only [hd] at h
       | some x =>
         obtain ⟨t,g,caps⟩ := x
         simp only [hd,Bool.and_eq_true] at h hc
         obtain ⟨⟨⟨ht,hg⟩,hres⟩,hchk⟩ := hc
         obtain rfl : g = gd := Nat.eq_of_beq_eq_true hg
         obtain ⟨o1,o2,first,cp,cl,hops,g1,g2,d1,p1,rfl,rfl,d2,p2,hcl,hca⟩ := defOf_some hd
         subst hdr
         refine wp_seq (wp_region_list ?_)
         have hops' : ops = [o1,o2].toArray := by rw [← hops]
         subst hops'
         have htn : t < fn.ntmps := by simpa using ht
         have hv : (cp.toList.map (ev f)).toArray = cp.map a.eval := by
           rw [eval_fun hag]
           apply Array.ext'
           simp
         show wpList P [o1,o2].toArray _ [o1,o2] a w
         letI := noX
         refine op_step (K := fun v w' => v = .func (.func g) #[] (cp.toList.map (ev f)).toArray ∧ w' = w) hag (by simp [wantF,g1]) ?_ ?_ (fun _ _ h => h.elim)
         · unfold anyW
           rw [p1]
           exact ⟨rfl,rfl⟩
         · rintro v w' ⟨rfl,rfl⟩
           have hag1 := hag.put (d := some t) (fun x hx => by cases hx; exact htn) (.func (.func g) #[] (cp.toList.map (ev f)).toArray)
           rw [d1]
           unfold wpList
           rw [if_pos (by rw [want_ag hag1]; simp [wantF,g2])]
           refine .inl ?_
           unfold Oper.wp
           have hex : (execOp (a.put (some t) (.func (.func g) #[] (cp.toList.map (ev f)).toArray)).eval o2).run P w' = .ok (.defer { target := .fn (.func g) (cp.toList.map (ev f)).toArray,args := #[] }) w' := by
             rw [eval_fun hag1]
             unfold execOp
             rw [p2]
             have e : ev (upd f (some t) (.func (.func g) #[] (cp.toList.map (ev f)).toArray)) (.tmp t) = .func (.func g) #[] (cp.toList.map (ev f)).toArray := by
               simp [ev,upd_some]
             simp [resolve,hcl,hca,Deferred.ofValue,run_bind,run_pure,e]
           rw [hex,Oper.upon_defer,d2]
           clear hex
           have hag2 : Ag fn.ntmps [{ target := .fn (.func g) (cp.toList.map (ev f)).toArray,args := #[] }] (upd f (some t) (.func (.func g) #[] (cp.toList.map (ev f)).toArray)) ({ (a.put (some t) (.func (.func g) #[] (cp.toList.map (ev f)).toArray)) with defers := { target := .fn (.func g) (cp.toList.map (ev f)).toArray,args := #[] } :: (a.put (some t) (.func (.func g) #[] (cp.toList.map (ev f)).toArray)).defers }.put none undef) := by
             refine ⟨?_,hag1.2.1,hag1.2.2⟩
             show _ :: (a.put _ _).defers = _
             rw [hag1.1]
           generalize ({ (a.put (some t) (.func (.func g) #[] (cp.toList.map (ev f)).toArray)) with defers := { target := .fn (.func g) (cp.toList.map (ev f)).toArray,args := #[] } :: (a.put (some t) (.func (.func g) #[] (cp.toList.map (ev f)).toArray)).defers }.put none undef) = a2 at hag2 ⊢
           show b.wp P (bodyPostD P fn R) a2 w'
           refine @codeW_sound ⟨fun ch w' => DefC P g (cp.toList.map (ev f)) (.panicking ch) w' fun w'' => retW P fn R f w''⟩ P fn.ntmps [{ target := .fn (.func g) (cp.toList.map (ev f)).toArray,args := #[] }] pl hm b [] lo (i + 2) _ a2 w' _ _ _ _ hchk hag2 h (fun f' a' w' hag' _ hk => ?_) (fun _ _ _ _ _ _ hk => hk.elim) (fun f' a' w' hag' _ hk => ?_) (fun ch a' w' hd ht hx => ?_)
           · show Leaves P fn a'.tmps R a'.defers .returning w'
             rw [hag'.1]
             exact defC_leaves hr (by simp) (fun t _ => (hag'.2.2 t).symm) hk
           · show Leaves P fn a'.tmps R a'.defers .returning w'
             rw [hag'.1]
             exact defC_leaves hr (by simp) (fun t _ => (hag'.2.2 t).symm) hk
           · show Leaves P fn a'.tmps R a'.defers (.panicking ch) w'
             rw [hd]
             refine defC_leaves (f := f) hr (by simp) (fun x hx' => ?_) hx
             have hin : x < lo ∧ x ≠ t := by
               obtain ⟨r,hrm,hr'⟩ := hx'
               have := List.all_eq_true.1 hres r hrm
               have h2 : (Nat.blt x lo && !(Nat.beq x t)) = true := by
                 rcases hr' with rfl | ⟨T,rfl⟩
                 · exact this
                 · exact this
               simp only [Bool.and_eq_true,Bool.not_eq_true'] at h2
               refine ⟨by simpa using h2.1,fun e => ?_⟩
               rw [e] at h2
               have h3 := h2.2
               rw [Nat.beq_refl] at h3
               cases h3
             have hlt : Nat.ble lo x = false := by
               cases hb : Nat.ble lo x with
               | false => rfl
               | true => exact absurd (Nat.lt_of_lt_of_le hin.1 (Nat.le_of_ble_eq_true hb)) (Nat.lt_irrefl _)
             rw [ht x (by unfold inS; rw [hlt]; rfl)]
             simp [upd_some,hin.2]
     | _ => simp [chkD] at hc
   | _ => simp [chkD] at hc
 | succ k ih =>
   intro c i f a w hc hag h
   cases c with
   | seq x y =>
     simp only [codeD] at h
     simp only [chkD,Bool.and_eq_true] at hc
     obtain ⟨⟨hl,hc1⟩,hc2⟩ := hc
     refine wp_seq ?_
     letI : HX := ⟨fun ch w' => R (.panicked ch) w'⟩
     refine codeW_sound hm x [] 0 (i + 1) f a w _ _ _ _ hc1 hag h (fun f' a' w' hag' _ h' => ih y _ f' a' w' hc2 hag' h') (fun _ _ _ _ _ _ hk => hk.elim) (fun f' a' w' hag' _ hk => ?_) (fun ch a' w' hd _ hx => ?_)
     · show Leaves P fn a'.tmps R a'.defers .returning w'
       rw [hag'.1]
       obtain ⟨v',hk',hr'⟩ := results_run (fn := fn) (K := fun v => R (.returned v) w') hag' hk
       exact ⟨v',hr',hk'⟩
     · show Leaves P fn a'.tmps R a'.defers (.panicking ch) w'
       rw [hd]
       exact hx
   | _ => simp [chkD] at hc
def funD (P : Program) (fn : Func) (pl : Plan) (k : Nat) (args : List Value) (w : World) (R : Ending → World → Prop) : Prop :=
 match fn.body with
 | some c => codeD P pl fn R k c 0 (fr0 args) w
 | none => False
def chkFunD (P : Program) (fn : Func) (pl : Plan) (lo gd k na : Nat) : Bool :=
 match fn.body with
 | some c => Nat.ble na fn.ntmps && chkD P fn pl lo gd k c 0
 | none => false
theorem enter_ag {nt : Nat} {args : List Value} (hle : args.length ≤ nt) : Ag nt [] (fr0 args) { tmps := args.toArray ++ Array.replicate (nt - args.toArray.size) undef,defers := [] } := by
 refine ⟨rfl,by simp; omega,fun t => ?_⟩
 simp only [Array.getD_eq_getD_getElem?,Array.getElem?_append,List.size_toArray,List.getElem?_toArray,Array.getElem?_replicate,fr0,List.getD_eq_getElem?_getD]
 split
 · rfl
 · rename_i hlt
   rw [List.getElem?_eq_none (by omega)]
   split <;> rfl
theorem funD_sound {g : FuncId} {fn : Func} {pl : Plan} {args : List Value} {w : World} {R : Ending → World → Prop} {lo gd k : Nat} (hm : P.follows .mixedOrders = true) (hf : P.funcs[g]? = some fn) (hr : ∀ (ar : Array Value) (w : World),(callFunc gd ar).run P w = .ok (.enter gd ar) w)
   (hc : chkFunD P fn pl lo gd k args.length = true) (h : funD P fn pl k args w R) : Calls P g args.toArray w R := by
 unfold funD at h
 unfold chkFunD at hc
 cases hb : fn.body with
 | none => rw [hb] at h; exact h.elim
 | some c =>
   rw [hb] at h hc
   simp only [Bool.and_eq_true] at hc
   exact calls_of_wp_defers hf hb (codeD_sound hm hr k c 0 _ _ w hc.2 (enter_ag (Nat.le_of_ble_eq_true hc.1)) h)
theorem tieD [HX] (P : Program) (g : FuncId) (fn : Func) (pl : Plan) (args : List Value) (w : World) (K : Value → World → Prop) (lo gd k na : Nat) (X : Prop) (hk : args.length = na) (hm : P.follows .mixedOrders = true) (hf : P.funcs[g]? = some fn)
   (hc : chkFunD P fn pl lo gd k na = true) (he : funD P fn pl k args w (EndK K) = X) (hr : ∀ (az : Array Value) (w : World),(callFunc g az).run P w = .ok (.enter g az) w) (hrd : ∀ (ar : Array Value) (w : World),(callFunc gd ar).run P w = .ok (.enter gd ar) w) (h : X) : callF P g args w K := by
 unfold callF
 rw [hr]
 exact funD_sound hm hf hrd (by rw [hk]; exact hc) (by rw [he]; exact h)
end
end Go.Eng
namespace Go.Eng
open Go
section
variable {P : Program}
def recOf : List Oper → Option (Nat × Nat)
 | [o1,o2] =>
   match o1.guard,o2.guard,o1.dst,o1.op,o2.dst,o2.op with
   | none,none,some t,.call c,some t2,.assign (.tmp t') =>
     match c.callee,c.args.toList with
     | .builtin .recover,[] => bif Nat.beq t t' then some (t,t2) else none
     | _,_ => none
   | _,_,_,_,_,_ => none
 | _ => none
theorem recOf_some {l : List Oper} {t t2 : Nat} (h : recOf l = some (t,t2)) : ∃ o1 o2 c,l = [o1,o2] ∧ o1.guard = none ∧ o2.guard = none ∧ o1.dst = some t ∧ o1.op = .call c ∧ o2.dst = some t2 ∧ o2.op = .assign (.tmp t) ∧ c.callee = .builtin .recover ∧ c.args = #[] := by
 unfold recOf at h
 split at h
 · rename_i o1 o2
   split at h
   · rename_i t0 c t2' t' e1 e2 e3 e4 e5 e6
     split at h
     · rename_i h1 h2
       cases hb : Nat.beq t0 t' with
       | false => rw [hb] at h; cases h
       | true =>
         rw [hb] at h
         simp only [cond_true,Option.some.injEq,Prod.mk.injEq] at h
         obtain ⟨rfl,rfl⟩ := h
         have : t0 = t' := Nat.eq_of_beq_eq_true hb
         subst this
         exact ⟨o1,o2,c,rfl,e1,e2,e3,e4,e5,e6,h1,by simpa using h2⟩
     · cases h
   · cases h
 · cases h
def funR (P : Program) (fn : Func) (pl : Plan) (args : List Value) (x : Value) (w : World) (K : World → Prop) : Prop :=
 match fn.body with
 | some (.seq (.region _ ops _) b) =>
   match recOf ops.toList with
   | some (t,t2) => @codeW noX P pl b 2 (upd (upd (fr0 args) (some t) x) (some t2) x) w (fun _ w' => K w') (fun _ _ _ => False) (fun _ w' => K w')
   | none => False
 | _ => False
def chkFunR (P : Program) (fn : Func) (pl : Plan) (na : Nat) : Bool :=
 match fn.body with
 | some (.seq (.region _ ops draw) b) => !draw && Nat.ble na fn.ntmps && fn.results.toList.isEmpty &&
   (match recOf ops.toList with
   | some (t,t2) => Nat.blt t fn.ntmps && Nat.blt t2 fn.ntmps && chk P fn.ntmps pl [] 0 b 2
   | none => false)
 | _ => false
inductive Finds : FrameMode → Value → Prop
 | idle : Finds .returning .nilIface
 | thrown (v : Value) : Finds (.panicking [{ v,recovered := false }]) v
theorem funR_sound {g : FuncId} {fn : Func} {pl : Plan} {args : List Value} {x : Value} {u : FrameMode} {w : World} {K : World → Prop} (hm : P.follows .mixedOrders = true) (hf : P.funcs[g]? = some fn) (hc : chkFunR P fn pl args.length = true)
   (hu : Finds u x) (h : funR P fn pl args x w K) : DefC P g args u w K := by
 unfold funR at h
 unfold chkFunR at hc
 split at h
 · rename_i id ops draw b hb
   rw [hb] at hc
   simp only [Bool.and_eq_true,Bool.not_eq_true'] at hc
   obtain ⟨⟨⟨hd,hle⟩,hres⟩,hc⟩ := hc
   subst hd
   cases ho : recOf ops.toList with
   | none => simp only [ho] at h
   | some y =>
     obtain ⟨t,t2⟩ := y
     simp only [ho,Bool.and_eq_true] at h hc
     obtain ⟨⟨ht,ht2⟩,hchk⟩ := hc
     obtain ⟨o1,o2,c,hops,g1,g2,d1,p1,d2,p2,hcl,hca⟩ := recOf_some ho
     have hops' : ops = #[o1,o2] := by
       apply Array.ext'
       rw [hops]
     subst hops'
     letI := noX
     have hr0 : ∀ tmps w,(results fn tmps).run P w = .ok (.tuple #[]) w := by
       intro tmps w
       have h1 : fn.results.toList = [] := by simpa using hres
       obtain ⟨v,hv,hr⟩ := results_run (P := P) (fn := fn) (n := tmps.size) (D := []) (f := fun t => tmps.getD t undef) (a := { tmps := tmps,defers := [] }) (w := w) (K := fun v => v = .tuple #[]) ⟨rfl,rfl,fun _ => rfl⟩ (by rw [h1]; rfl)
       rw [hr,hv]
     have hag := enter_ag (nt := fn.ntmps) (args := args) (Nat.le_of_ble_eq_true hle)
     have ht : t < fn.ntmps := by simpa using ht
     have ht2 : t2 < fn.ntmps := by simpa using ht2
     refine callsD_of_wpS hf hb fun c₀ cs hmode => ?_
     generalize ({ tmps := args.toArray ++ Array.replicate (fn.ntmps - args.toArray.size) undef,defers := [] } : Act) = a0 at hag ⊢
     have hag1 := hag.put (d := some t) (fun y hy => by cases hy; exact ht) x
     have hag2 := hag1.put (d := some t2) (fun y hy => by cases hy; exact ht2) x
     have w1 : Region.wanted o1 (yielded #[o1,o2] a0.tmps) = true := by
       have := want_ag (ops := [o1,o2]) (o := o1) hag
       rw [show ([o1,o2] : List Oper).toArray = #[o1,o2] from rfl] at this
       rw [this]; simp [wantF,g1]
     have w2 : Region.wanted o2 (yielded #[o1,o2] (a0.put (some t) x).tmps) = true := by
       have := want_ag (ops := [o1,o2]) (o := o2) hag1
       rw [show ([o1,o2] : List Oper).toArray = #[o1,o2] from rfl] at this
       rw [this]; simp [wantF,g2]
     have e1 : (execOp a0.eval o1).run P w = .ok .recover w := by
       unfold execOp
       rw [p1]
       simp [resolve,hcl,hca,invoke,builtin,run_bind,run_pure]
     have e2 : (execOp (a0.put (some t) x).eval o2).run P w = .ok (.value x) w := by
       rw [eval_fun hag1]
       unfold execOp
       rw [p2]
       have e : ev (upd (fr0 args) (some t) x) (.tmp t) = x := by simp [ev,upd_some]
       simp [run_pure,e]
     have rest : ∀ u' : FrameMode,settle u' = .returning → b.wpS P (bodyPostS P fn c₀ cs fun e u' w' => (∃ v,e = .returned v) ∧ settle u' = .returning ∧ K w') ((a0.put (some t) x).put (some t2) x) ({ c₀ with mode := u' } :: cs) w := by
       intro u' hs
       refine wpS_of_wp ?_
       refine @codeW_sound noX P fn.ntmps [] pl hm b [] 0 2 _ _ w _ _ _ _ hchk hag2 h (fun f' a' w' hag' _ hk => ?_) (fun _ _ _ _ _ _ hk => hk.elim) (fun f' a' w' hag' _ hk => ?_) (fun ch a' w' hd ht hx => hx.elim)
       · exact ⟨hag'.1,u',rfl,_,hr0 _ _,⟨_,rfl⟩,hs,hk⟩
       · exact ⟨hag'.1,u',rfl,_,hr0 _ _,⟨_,rfl⟩,hs,hk⟩
     refine wpS_seq (wpS_region ?_)
     show wpOpsS P #[o1,o2] _ [0,1] a0 (c₀ :: cs) w
     have tail : ∀ c1 : Frame,b.wpS P (bodyPostS P fn c₀ cs fun e u' w' => (∃ v,e = .returned v) ∧ settle u' = .returning ∧ K w') ((a0.put (some t) x).put (some t2) x) (c1 :: cs) w →
         wpOpsS P #[o1,o2] (Exit.thenS (b.wpS P (bodyPostS P fn c₀ cs fun e u' w' => (∃ v,e = .returned v) ∧ settle u' = .returning ∧ K w')) (bodyPostS P fn c₀ cs fun e u' w' => (∃ v,e = .returned v) ∧ settle u' = .returning ∧ K w')) [1] (a0.put (some t) x) (c1 :: cs) w := by
       intro c1 hb1
       unfold wpOpsS
       rw [show (#[o1,o2] : Array Oper)[1]? = some o2 from rfl]
       show ite (Region.wanted o2 (yielded #[o1,o2] (a0.put (some t) x).tmps) = true) _ _
       rw [if_pos w2,e2]
       simp only [Oper.upon_value,d2]
       exact hb1
     unfold wpOpsS
     rw [show (#[o1,o2] : Array Oper)[0]? = some o1 from rfl]
     show ite (Region.wanted o1 (yielded #[o1,o2] a0.tmps) = true) _ _
     rw [if_pos w1,e1]
     cases hu with
     | idle =>
       have : recoverD (c₀ :: cs) = none := by simp [recoverD,hmode]
       simp only [this,d1]
       have e : ({ c₀ with mode := .returning } : Frame) = c₀ := by rw [← hmode]
       have := rest .returning rfl
       rw [e] at this
       exact tail c₀ this
     | thrown =>
       have : recoverD (c₀ :: cs) = some (x,{ c₀ with mode := .panicking [{ v := x,recovered := true }] } :: cs) := by simp [recoverD,hmode]
       simp only [this,d1]
       exact tail _ (rest (.panicking [{ v := x,recovered := true }]) rfl)
 · exact h.elim
end
end Go.Eng

namespace Go.Proofs.YtofhaneggcpdaaaGreatDoor
open Go Go.Eng Go.Num
set_option maxRecDepth 100000
theorem loop_up (n : Nat) {w1 : World} {B : List Value → Fr → World → (List Value → World → Prop) → Prop} (R : Nat → World → Prop) (h0 : R 0 w1)
   (step : ∀ i w g L,i < n → R i w → (∀ w',R (i + 1) w' → L [i64 ((i + 1 : Nat) : Int)] w') → B [i64 (i : Nat)] g w L)
   (fin : ∀ w g L,R n w → B [i64 (n : Nat)] g w L) : LoopW [i64 0] w1 B := by
 refine ⟨fun s w => ∃ i,i ≤ n ∧ s = [i64 (i : Nat)] ∧ R i w,fun s _ => match s with | [.int _ i] => n - i.toNat | _ => 0,⟨0,Nat.zero_le _,rfl,h0⟩,?_⟩
 rintro s g w ⟨i,hi,rfl,hR⟩
 rcases Nat.lt_or_ge i n with hlt | hge
 · exact step i w g _ hlt hR fun w' h' => ⟨⟨i + 1,hlt,rfl,h'⟩,by simp only [Int.toNat_natCast]; omega⟩
 · obtain rfl : i = n := by omega
   exact fin w g _ hR
theorem up1 {i : Nat} (h : (i : Int) < 9223372036854775807) : IntKind.i64.wrap ((i : Int) + 1) = ((i + 1 : Nat) : Int) := by rw [wrap_id (by omega) (by omega)]; simp
section
variable [HX]
end
end Go.Proofs.YtofhaneggcpdaaaGreatDoor
namespace Go.Proofs.YtofhaneggcpdaaaGreatDoor
open Go Go.Eng Go.Num
set_option maxRecDepth 100000
section
variable [HX]
theorem isDig_out (c : UInt8) : (decide (((c.toNat : Nat) : Int) < 48) || decide ((57 : Int) < ((c.toNat : Nat) : Int))) = !Num.isDig c := by
 unfold Num.isDig
 rcases Nat.lt_or_ge c.toNat 48 with h | h
 · rw [decide_eq_true (by omega),decide_eq_false (show ¬ 48 ≤ c.toNat by omega)]; rfl
 · rw [decide_eq_false (show ¬ ((c.toNat : Nat) : Int) < 48 by omega),decide_eq_true (show 48 ≤ c.toNat by omega)]
   rcases Nat.lt_or_ge 57 c.toNat with h2 | h2
   · rw [decide_eq_true (by omega),decide_eq_false (show ¬ c.toNat ≤ 57 by omega)]; rfl
   · rw [decide_eq_false (by omega),decide_eq_true (show c.toNat ≤ 57 by omega)]; rfl
theorem u8_is (c : UInt8) (m : Int) (d : UInt8) (hm : m = (d.toNat : Nat)) : decide (((c.toNat : Nat) : Int) = m) = (c == d) := by
 rw [Bool.eq_iff_iff,decide_eq_true_eq,beq_iff_eq,hm]
 constructor
 · intro h; exact UInt8.toNat_inj.1 (by omega)
 · intro h; rw [h]
end
end Go.Proofs.YtofhaneggcpdaaaGreatDoor
namespace Go.Proofs.YtofhaneggcpdaaaGreatDoor
open Go Go.Eng Go.Num
set_option maxRecDepth 100000
abbrev ptr (b : Nat) : Value := .pointer (some ⟨b,0,none⟩)
end Go.Proofs.YtofhaneggcpdaaaGreatDoor



namespace Go.Proofs.YtofhaneggcpdaaaGreatDoor
open Go Go.Eng
set_option maxRecDepth 100000
variable [HX]
def plan74 : Plan := { js := [(28003,⟨[36],[],35⟩),(16,⟨[28],[2,5],28⟩),(6002,⟨[23],[],17⟩),(6004,⟨[22],[],21⟩),(6008,⟨[20],[],17⟩),(6013,⟨[14],[],12⟩)],ds := [] }
def W74 (v0 : Value) (w : World) (K : Value → World → Prop) : Prop :=
 callF Tryz.prog 97 [v0,(.string (ofL [45]))] w fun t7 w1 =>
 lensW t7 fun t9 =>
 binW .lss t9 (.int .i64 1) fun t10 =>
 GdW (isB t10 false) [undef] w1 (fun J2 =>
 lensW t7 fun t13 =>
 binW .gtr t13 (.int .i64 100) fun t14 =>
 J2 [t14] w1)
 fun s2 _ w3 =>
 pickW t10 (.bool true) (s2.getD 0 undef) fun t15 =>
 GdW (isB t15 false) [undef] w3 (fun J4 =>
 ixsW t7 (.int .i64 0) fun t18 =>
 binW .eql t18 (.int .u8 48) fun t19 =>
 J4 [t19] w3)
 fun s4 _ w5 =>
 GdW (isB (s4.getD 0 undef) true) [undef] w5 (fun J6 =>
 binW .neq v0 (.string (ofL [48])) fun t22 =>
 J6 [t22] w5)
 fun s6 _ w7 =>
 GdW (isB t15 false) [undef] w7 (fun J8 =>
 pickW (s4.getD 0 undef) (s6.getD 0 undef) (.bool false) fun t23 =>
 J8 [t23] w7)
 fun s8 _ w9 =>
 pickW t15 (.bool true) (s8.getD 0 undef) fun t24 =>
 condW t24 (
 K (.bool false) w9) (
 semE Tryz.prog (convert 9 50 t7) w9 fun t26 w10 =>
 lenlW t26 fun t27 =>
 LoopW [(.int .i64 0)] w10 fun s11 _ w12 L11 =>
 binW .lss (s11.getD 0 undef) t27 fun t29 =>
 condW t29 (
 ixaW none 1 t26 (s11.getD 0 undef) fun t30 =>
 ldW false 1 t30 w12 fun t31 =>
 binW .lss t31 (.int .u8 48) fun t33 =>
 GdW (isB t33 false) [undef] w12 (fun J13 =>
 binW .gtr t31 (.int .u8 57) fun t36 =>
 J13 [t36] w12)
 fun s13 _ w14 =>
 pickW t33 (.bool true) (s13.getD 0 undef) fun t37 =>
 condW t37 (
 K (.bool false) w14) (
 binW .add (s11.getD 0 undef) (.int .i64 1) fun t38 =>
 L11 [t38] w14)) (
 K (.bool true) w12))
theorem W74_ok {v0 : Value} {w : World} {K : Value → World → Prop} (h : W74 v0 w K) : callF Tryz.prog 74 [v0] w K :=
 tie _ 74 Tryz.f74 plan74 _ w K 1 _ rfl mixed Tryz.func74 (by kernel_rfl) (by kernel_rfl) Tryz.call74 h
def plan97 : Plan := { js := [],ds := [] }
def W97 (v0 v1 : Value) (w : World) (K : Value → World → Prop) : Prop :=
 callF Tryz.prog 124 [v0,v1] w fun t7 w1 =>
 K t7 w1
theorem W97_ok {v0 v1 : Value} {w : World} {K : Value → World → Prop} (h : W97 v0 v1 w K) : callF Tryz.prog 97 [v0,v1] w K :=
 tie _ 97 Tryz.f97 plan97 _ w K 2 _ rfl mixed Tryz.func97 (by kernel_rfl) (by kernel_rfl) Tryz.call97 h
def plan124 : Plan := { js := [],ds := [] }
def W124 (v0 v1 : Value) (w : World) (K : Value → World → Prop) : Prop :=
 callF Tryz.prog 66 [v0,v1] w fun t7 w1 =>
 condW t7 (
 lensW v1 fun t10 =>
 slsW v0 (some t10) none fun t11 =>
 K t11 w1) (
 K v0 w1)
theorem W124_ok {v0 v1 : Value} {w : World} {K : Value → World → Prop} (h : W124 v0 v1 w K) : callF Tryz.prog 124 [v0,v1] w K :=
 tie _ 124 Tryz.f124 plan124 _ w K 2 _ rfl mixed Tryz.func124 (by kernel_rfl) (by kernel_rfl) Tryz.call124 h
end Go.Proofs.YtofhaneggcpdaaaGreatDoor
namespace Go.Proofs
open Go.Shelf
def Tryz.lays169_ren : Go.Shelf.Ren := ⟨fun | 169 => 34 | n => n,fun | 70 => 82 | 9 => 9 | 0 => 0 | 72 => 84 | 37 => 50 | 127 => 120 | 3 => 3 | 5 => 5 | n => n,fun | n => n⟩
theorem Tryz.lays169 : Go.Proofs.Lays.n169 Tryz.prog Tryz.lays169_ren := {
 mixed := by kernel_rfl
 f169 := Tryz.func34.trans (congrArg some (by kernel_rfl))
 t0 := Tryz.underlying0
 a0 := Tryz.isAgg0
 z0 := Tryz.sizeOf0
 v0 := Tryz.zeroValue0
 t3 := Tryz.underlying3
 a3 := Tryz.isAgg3
 z3 := Tryz.sizeOf3
 v3 := Tryz.zeroValue3
 t9 := Tryz.underlying9
 a9 := Tryz.isAgg9
 z9 := Tryz.sizeOf9
 v9 := Tryz.zeroValue9
 t37 := Tryz.underlying50
 a37 := Tryz.isAgg50
 z37 := Tryz.sizeOf50
 v37 := Tryz.zeroValue50
 t70 := Tryz.underlying82
 a70 := Tryz.isAgg82
 z70 := Tryz.sizeOf82
 v70 := Tryz.zeroValue82
 t72 := Tryz.underlying84
 a72 := Tryz.isAgg84
 z72 := Tryz.sizeOf84
 v72 := Tryz.zeroValue84
 t127 := Tryz.underlying120
 a127 := Tryz.isAgg120
 z127 := Tryz.sizeOf120
 v127 := Tryz.zeroValue120 }
theorem Tryz.Builder_Extra_169 : Builder.Extra Tryz.prog Tryz.lays169_ren := {
 sizeBuilder := by kernel_rfl
 liesBuilder := by kernel_rfl
 t5 := Tryz.underlying5
 a5 := Tryz.isAgg5
 z5 := Tryz.sizeOf5
 v5 := Tryz.zeroValue5
 infoByte := by kernel_rfl
 cellsByte := by kernel_rfl
 sizeByte := by kernel_rfl
 neB5 := by decide }
def Tryz.lays156_ren : Go.Shelf.Ren := ⟨fun | 156 => 61 | 165 => 91 | 166 => 65 | 169 => 34 | 240 => 94 | 241 => 116 | 276 => 119 | 277 => 136 | n => n,fun | 31 => 33 | 9 => 9 | 3 => 3 | 4 => 4 | 0 => 0 | 20 => 20 | 72 => 84 | 76 => 118 | 70 => 82 | 37 => 50 | 75 => 117 | 127 => 120 | 164 => 160 | 5 => 5 | 80 => 86 | n => n,fun | n => n⟩
theorem Tryz.lays156 : Go.Proofs.Lays.n156 Tryz.prog Tryz.lays156_ren := {
 mixed := by kernel_rfl
 f156 := Tryz.func61.trans (congrArg some (by kernel_rfl))
 f165 := Tryz.func91.trans (congrArg some (by kernel_rfl))
 f166 := Tryz.func65.trans (congrArg some (by kernel_rfl))
 f169 := Tryz.func34.trans (congrArg some (by kernel_rfl))
 f240 := Tryz.func94.trans (congrArg some (by kernel_rfl))
 f241 := Tryz.func116.trans (congrArg some (by kernel_rfl))
 f276 := Tryz.func119.trans (congrArg some (by kernel_rfl))
 f277 := Tryz.func136.trans (congrArg some (by kernel_rfl))
 t0 := Tryz.underlying0
 a0 := Tryz.isAgg0
 z0 := Tryz.sizeOf0
 v0 := Tryz.zeroValue0
 t3 := Tryz.underlying3
 a3 := Tryz.isAgg3
 z3 := Tryz.sizeOf3
 v3 := Tryz.zeroValue3
 t4 := Tryz.underlying4
 a4 := Tryz.isAgg4
 z4 := Tryz.sizeOf4
 v4 := Tryz.zeroValue4
 t9 := Tryz.underlying9
 a9 := Tryz.isAgg9
 z9 := Tryz.sizeOf9
 v9 := Tryz.zeroValue9
 t20 := Tryz.underlying20
 a20 := Tryz.isAgg20
 z20 := Tryz.sizeOf20
 v20 := Tryz.zeroValue20
 t31 := Tryz.underlying33
 a31 := Tryz.isAgg33
 z31 := Tryz.sizeOf33
 v31 := Tryz.zeroValue33
 t37 := Tryz.underlying50
 a37 := Tryz.isAgg50
 z37 := Tryz.sizeOf50
 v37 := Tryz.zeroValue50
 t70 := Tryz.underlying82
 a70 := Tryz.isAgg82
 z70 := Tryz.sizeOf82
 v70 := Tryz.zeroValue82
 t72 := Tryz.underlying84
 a72 := Tryz.isAgg84
 z72 := Tryz.sizeOf84
 v72 := Tryz.zeroValue84
 t75 := Tryz.underlying117
 a75 := Tryz.isAgg117
 z75 := Tryz.sizeOf117
 v75 := Tryz.zeroValue117
 t76 := Tryz.underlying118
 a76 := Tryz.isAgg118
 z76 := Tryz.sizeOf118
 v76 := Tryz.zeroValue118
 t127 := Tryz.underlying120
 a127 := Tryz.isAgg120
 z127 := Tryz.sizeOf120
 v127 := Tryz.zeroValue120
 t164 := Tryz.underlying160
 a164 := Tryz.isAgg160
 z164 := Tryz.sizeOf160
 v164 := Tryz.zeroValue160 }
theorem Tryz.Builder_Extra_156 : Builder.Extra Tryz.prog Tryz.lays156_ren := {
 sizeBuilder := by kernel_rfl
 liesBuilder := by kernel_rfl
 t5 := Tryz.underlying5
 a5 := Tryz.isAgg5
 z5 := Tryz.sizeOf5
 v5 := Tryz.zeroValue5
 infoByte := by kernel_rfl
 cellsByte := by kernel_rfl
 sizeByte := by kernel_rfl
 neB5 := by decide }
open Go.RowKit in
theorem Tryz.strings_Join_none (a : Option Addr) (c : Nat) (sep : ByteArray) (w : World) :
   Calls Tryz.prog 61 #[.slice a 0 c,.string sep] w fun e w' => e = .returned (.string ⟨#[]⟩) ∧ w' = w := Any.strings_Join_none Tryz.lays156 Tryz.Builder_Extra_156 a c sep w
open Go.RowKit in
theorem Tryz.strings_Join (bk o c : Nat) (xs : List ByteArray) (sep : ByteArray) (w : World) (hcells : ∀ (j : Nat) x,xs[j]? = some x → w.cell? ⟨bk,o + j,none⟩ = some (.string x)) (hbk : bk < w.heap.size) (hN : xs.length ≤ 140737488355328) (hcap : xs.length ≤ c) (hlen : (Lib.join (xs.map (·.data.toList)) sep.data.toList).length ≤ 140737488355328) :
   Calls Tryz.prog 61 #[.slice (some ⟨bk,o,none⟩) xs.length c,.string sep] w fun e w' => e = .returned (.string ⟨(Lib.join (xs.map (·.data.toList)) sep.data.toList).toArray⟩) ∧ Below w.heap.size w w' := Any.strings_Join Tryz.lays156 Tryz.Builder_Extra_156 bk o c xs sep w hcells hbk hN hcap hlen
def Tryz.lays161_ren : Go.Shelf.Ren := ⟨fun | 161 => 101 | 231 => 126 | 227 => 127 | 233 => 128 | 235 => 129 | 228 => 138 | 197 => 139 | 151 => 140 | 260 => 144 | 152 => 145 | 137 => 67 | 119 => 149 | 224 => 122 | 225 => 121 | 217 => 95 | 266 => 120 | n => n,fun | 9 => 9 | 4 => 4 | 3 => 3 | 5 => 5 | 117 => 165 | 116 => 164 | 0 => 0 | 124 => 168 | 105 => 173 | 21 => 21 | 119 => 178 | 46 => 140 | 139 => 181 | 138 => 180 | n => n,fun | 3 => 1 | 4 => 2 | n => n⟩
theorem Tryz.lays161 : Go.Proofs.Lays.n161 Tryz.prog Tryz.lays161_ren := {
 mixed := by kernel_rfl
 f119 := Tryz.func149.trans (congrArg some (by kernel_rfl))
 f137 := Tryz.func67.trans (congrArg some (by kernel_rfl))
 f151 := Tryz.func140.trans (congrArg some (by kernel_rfl))
 f152 := Tryz.func145.trans (congrArg some (by kernel_rfl))
 f161 := Tryz.func101.trans (congrArg some (by kernel_rfl))
 f197 := Tryz.func139.trans (congrArg some (by kernel_rfl))
 f217 := Tryz.func95.trans (congrArg some (by kernel_rfl))
 f224 := Tryz.func122.trans (congrArg some (by kernel_rfl))
 f225 := Tryz.func121.trans (congrArg some (by kernel_rfl))
 f227 := Tryz.func127.trans (congrArg some (by kernel_rfl))
 f228 := Tryz.func138.trans (congrArg some (by kernel_rfl))
 f231 := Tryz.func126.trans (congrArg some (by kernel_rfl))
 f233 := Tryz.func128.trans (congrArg some (by kernel_rfl))
 f235 := Tryz.func129.trans (congrArg some (by kernel_rfl))
 f260 := Tryz.func144.trans (congrArg some (by kernel_rfl))
 f266 := Tryz.func120.trans (congrArg some (by kernel_rfl))
 t0 := Tryz.underlying0
 a0 := Tryz.isAgg0
 z0 := Tryz.sizeOf0
 v0 := Tryz.zeroValue0
 t3 := Tryz.underlying3
 a3 := Tryz.isAgg3
 z3 := Tryz.sizeOf3
 v3 := Tryz.zeroValue3
 t4 := Tryz.underlying4
 a4 := Tryz.isAgg4
 z4 := Tryz.sizeOf4
 v4 := Tryz.zeroValue4
 t5 := Tryz.underlying5
 a5 := Tryz.isAgg5
 z5 := Tryz.sizeOf5
 v5 := Tryz.zeroValue5
 t9 := Tryz.underlying9
 a9 := Tryz.isAgg9
 z9 := Tryz.sizeOf9
 v9 := Tryz.zeroValue9
 t21 := Tryz.underlying21
 a21 := Tryz.isAgg21
 z21 := Tryz.sizeOf21
 v21 := Tryz.zeroValue21
 t46 := Tryz.underlying140
 a46 := Tryz.isAgg140
 z46 := Tryz.sizeOf140
 v46 := Tryz.zeroValue140
 t105 := Tryz.underlying173
 a105 := Tryz.isAgg173
 z105 := Tryz.sizeOf173
 v105 := Tryz.zeroValue173
 t116 := Tryz.underlying164
 a116 := Tryz.isAgg164
 z116 := Tryz.sizeOf164
 t117 := Tryz.underlying165
 a117 := Tryz.isAgg165
 z117 := Tryz.sizeOf165
 v117 := Tryz.zeroValue165
 t119 := Tryz.underlying178
 a119 := Tryz.isAgg178
 z119 := Tryz.sizeOf178
 t124 := Tryz.underlying168
 a124 := Tryz.isAgg168
 z124 := Tryz.sizeOf168
 v124 := Tryz.zeroValue168
 t138 := Tryz.underlying180
 a138 := Tryz.isAgg180
 z138 := Tryz.sizeOf180
 v138 := Tryz.zeroValue180
 t139 := Tryz.underlying181
 a139 := Tryz.isAgg181
 z139 := Tryz.sizeOf181
 v139 := Tryz.zeroValue181
 g3 := by kernel_rfl
 g4 := by kernel_rfl }
def Tryz.lays137_ren : Go.Shelf.Ren := ⟨fun | 137 => 67 | 217 => 95 | 266 => 120 | n => n,fun | 9 => 9 | 5 => 5 | 3 => 3 | n => n,fun | n => n⟩
theorem Tryz.lays137 : Go.Proofs.Lays.n137 Tryz.prog Tryz.lays137_ren := {
 mixed := by kernel_rfl
 f137 := Tryz.func67.trans (congrArg some (by kernel_rfl))
 f217 := Tryz.func95.trans (congrArg some (by kernel_rfl))
 f266 := Tryz.func120.trans (congrArg some (by kernel_rfl))
 t3 := Tryz.underlying3
 a3 := Tryz.isAgg3
 z3 := Tryz.sizeOf3
 v3 := Tryz.zeroValue3
 t5 := Tryz.underlying5
 a5 := Tryz.isAgg5
 z5 := Tryz.sizeOf5
 v5 := Tryz.zeroValue5
 t9 := Tryz.underlying9
 a9 := Tryz.isAgg9
 z9 := Tryz.sizeOf9
 v9 := Tryz.zeroValue9 }
open Go.RowKit in
theorem Tryz.strings_IndexByte (s : ByteArray) (c : Int) (w : World) :
   Calls Tryz.prog 67 #[.string s,.int .u8 c] w fun e w' => e = .returned (.int .i64 (Lib.indexByte s.data.toList c.toNat.toUInt8)) ∧ w' = w := Any.strings_IndexByte Tryz.lays137 s c w
open Go.RowKit in
theorem Tryz.Builder_String_any_k (B b : Nat) (l : List UInt8) (w : World) (h : Lib.IsBuilderF 84 5 B b (Lib.byteCells l) w) (hBw : B ≤ w.heap.size) :
   Calls Tryz.prog 34 #[.pointer (some ⟨b,0,none⟩)] w fun e w' => e = .returned (.string ⟨l.toArray⟩) ∧ (Lib.IsBuilderF 84 5 B b (Lib.byteCells l) w' ∧ Below B w w' ∧ Lib.OthersKept 5 (some b) w w') := Any.Builder_String_any_k Tryz.lays169 Tryz.Builder_Extra_169 B b l w h hBw
def Tryz.lays143_ren : Go.Shelf.Ren := ⟨fun | 143 => 70 | 219 => 96 | 217 => 95 | 225 => 121 | 224 => 122 | 267 => 123 | 266 => 120 | 314 => 137 | n => n,fun | 9 => 9 | 3 => 3 | 4 => 4 | 5 => 5 | 46 => 140 | 146 => 155 | 51 => 154 | n => n,fun | 1 => 0 | n => n⟩
theorem Tryz.lays143 : Go.Proofs.Lays.n143 Tryz.prog Tryz.lays143_ren := {
 mixed := by kernel_rfl
 f143 := Tryz.func70.trans (congrArg some (by kernel_rfl))
 f217 := Tryz.func95.trans (congrArg some (by kernel_rfl))
 f219 := Tryz.func96.trans (congrArg some (by kernel_rfl))
 f224 := Tryz.func122.trans (congrArg some (by kernel_rfl))
 f225 := Tryz.func121.trans (congrArg some (by kernel_rfl))
 f266 := Tryz.func120.trans (congrArg some (by kernel_rfl))
 f267 := Tryz.func123.trans (congrArg some (by kernel_rfl))
 f314 := Tryz.func137.trans (congrArg some (by kernel_rfl))
 t3 := Tryz.underlying3
 a3 := Tryz.isAgg3
 z3 := Tryz.sizeOf3
 v3 := Tryz.zeroValue3
 t4 := Tryz.underlying4
 a4 := Tryz.isAgg4
 z4 := Tryz.sizeOf4
 v4 := Tryz.zeroValue4
 t5 := Tryz.underlying5
 a5 := Tryz.isAgg5
 z5 := Tryz.sizeOf5
 v5 := Tryz.zeroValue5
 t9 := Tryz.underlying9
 a9 := Tryz.isAgg9
 z9 := Tryz.sizeOf9
 v9 := Tryz.zeroValue9
 t46 := Tryz.underlying140
 a46 := Tryz.isAgg140
 z46 := Tryz.sizeOf140
 v46 := Tryz.zeroValue140
 t51 := Tryz.underlying154
 a51 := Tryz.isAgg154
 z51 := Tryz.sizeOf154
 v51 := Tryz.zeroValue154
 t146 := Tryz.underlying155
 a146 := Tryz.isAgg155
 z146 := Tryz.sizeOf155
 v146 := Tryz.zeroValue155
 g1 := by kernel_rfl }
open Go.RowKit Go.Lib in
theorem Tryz.strings_Index (s sub : ByteArray) (m : Int) (w : World) (hs : s.size < 4294967281) (hm : w.cell? ⟨0,0,none⟩ = some (.int .i64 m)) :
   Calls Tryz.prog 70 #[.string s,.string sub] w fun e w' => e = .returned (.int .i64 (Lib.index s.data.toList sub.data.toList)) ∧ w' = w := Any.strings_Index Tryz.lays143 s sub m w hs hm
def Tryz.lays145_ren : Go.Shelf.Ren := ⟨fun | 145 => 100 | 220 => 125 | 219 => 96 | 217 => 95 | 225 => 121 | 224 => 122 | 267 => 123 | 266 => 120 | 314 => 137 | n => n,fun | 9 => 9 | 4 => 4 | 59 => 144 | 3 => 3 | 5 => 5 | 46 => 140 | 146 => 155 | 51 => 154 | n => n,fun | 1 => 0 | n => n⟩
theorem Tryz.lays145 : Go.Proofs.Lays.n145 Tryz.prog Tryz.lays145_ren := {
 mixed := by kernel_rfl
 f145 := Tryz.func100.trans (congrArg some (by kernel_rfl))
 f217 := Tryz.func95.trans (congrArg some (by kernel_rfl))
 f219 := Tryz.func96.trans (congrArg some (by kernel_rfl))
 f220 := Tryz.func125.trans (congrArg some (by kernel_rfl))
 f224 := Tryz.func122.trans (congrArg some (by kernel_rfl))
 f225 := Tryz.func121.trans (congrArg some (by kernel_rfl))
 f266 := Tryz.func120.trans (congrArg some (by kernel_rfl))
 f267 := Tryz.func123.trans (congrArg some (by kernel_rfl))
 f314 := Tryz.func137.trans (congrArg some (by kernel_rfl))
 t3 := Tryz.underlying3
 a3 := Tryz.isAgg3
 z3 := Tryz.sizeOf3
 v3 := Tryz.zeroValue3
 t4 := Tryz.underlying4
 a4 := Tryz.isAgg4
 z4 := Tryz.sizeOf4
 v4 := Tryz.zeroValue4
 t5 := Tryz.underlying5
 a5 := Tryz.isAgg5
 z5 := Tryz.sizeOf5
 v5 := Tryz.zeroValue5
 t9 := Tryz.underlying9
 a9 := Tryz.isAgg9
 z9 := Tryz.sizeOf9
 v9 := Tryz.zeroValue9
 t46 := Tryz.underlying140
 a46 := Tryz.isAgg140
 z46 := Tryz.sizeOf140
 v46 := Tryz.zeroValue140
 t51 := Tryz.underlying154
 a51 := Tryz.isAgg154
 z51 := Tryz.sizeOf154
 v51 := Tryz.zeroValue154
 t59 := Tryz.underlying144
 a59 := Tryz.isAgg144
 z59 := Tryz.sizeOf144
 v59 := Tryz.zeroValue144
 t146 := Tryz.underlying155
 a146 := Tryz.isAgg155
 z146 := Tryz.sizeOf155
 v146 := Tryz.zeroValue155
 g1 := by kernel_rfl }
open Go.RowKit Go.Lib in
theorem Tryz.strings_Cut (s sep : ByteArray) (m : Int) (w : World) (hs : s.size < 4294967281) (hm : w.cell? ⟨0,0,none⟩ = some (.int .i64 m)) :
   Calls Tryz.prog 100 #[.string s,.string sep] w fun e w' => e = .returned (.tuple #[.string ⟨(Lib.cut s.data.toList sep.data.toList).1.toArray⟩,.string ⟨(Lib.cut s.data.toList sep.data.toList).2.1.toArray⟩,.bool (Lib.cut s.data.toList sep.data.toList).2.2]) ∧ ∃ n,w' = w.drewN n := Any.strings_Cut Tryz.lays145 s sep m w hs hm
def Tryz.lays206_ren : Go.Shelf.Ren := ⟨fun | 206 => 66 | n => n,fun | 9 => 9 | 4 => 4 | 3 => 3 | n => n,fun | n => n⟩
theorem Tryz.lays206 : Go.Proofs.Lays.n206 Tryz.prog Tryz.lays206_ren := {
 mixed := by kernel_rfl
 f206 := Tryz.func66.trans (congrArg some (by kernel_rfl))
 t3 := Tryz.underlying3
 a3 := Tryz.isAgg3
 z3 := Tryz.sizeOf3
 v3 := Tryz.zeroValue3
 t4 := Tryz.underlying4
 a4 := Tryz.isAgg4
 z4 := Tryz.sizeOf4
 v4 := Tryz.zeroValue4
 t9 := Tryz.underlying9
 a9 := Tryz.isAgg9
 z9 := Tryz.sizeOf9
 v9 := Tryz.zeroValue9 }
open Go.RowKit Go.Lib in
theorem Tryz.stringslite_HasPrefix (s p : ByteArray) (w : World) :
   Calls Tryz.prog 66 #[.string s,.string p] w fun e w' => e = .returned (.bool (Lib.hasPrefix s.data.toList p.data.toList)) ∧ w' = w := Any.stringslite_HasPrefix Tryz.lays206 s p w
def Tryz.lays99_ren : Go.Shelf.Ren := ⟨fun | 99 => 36 | 206 => 66 | n => n,fun | 9 => 9 | 4 => 4 | 3 => 3 | n => n,fun | n => n⟩
theorem Tryz.lays99 : Go.Proofs.Lays.n99 Tryz.prog Tryz.lays99_ren := {
 mixed := by kernel_rfl
 f99 := Tryz.func36.trans (congrArg some (by kernel_rfl))
 f206 := Tryz.func66.trans (congrArg some (by kernel_rfl))
 t3 := Tryz.underlying3
 a3 := Tryz.isAgg3
 z3 := Tryz.sizeOf3
 v3 := Tryz.zeroValue3
 t4 := Tryz.underlying4
 a4 := Tryz.isAgg4
 z4 := Tryz.sizeOf4
 v4 := Tryz.zeroValue4
 t9 := Tryz.underlying9
 a9 := Tryz.isAgg9
 z9 := Tryz.sizeOf9
 v9 := Tryz.zeroValue9 }
open Go.RowKit Go.Lib in
theorem Tryz.strings_HasPrefix (s p : ByteArray) (w : World) :
   Calls Tryz.prog 36 #[.string s,.string p] w fun e w' => e = .returned (.bool (Lib.hasPrefix s.data.toList p.data.toList)) ∧ w' = w := Any.strings_HasPrefix Tryz.lays99 s p w
def Tryz.lays105_ren : Go.Shelf.Ren := ⟨fun | 105 => 64 | 212 => 92 | 99 => 36 | 165 => 91 | 166 => 65 | 170 => 93 | 169 => 34 | 263 => 117 | 264 => 118 | 206 => 66 | 240 => 94 | 241 => 116 | 276 => 119 | 277 => 136 | n => n,fun | 9 => 9 | 3 => 3 | 4 => 4 | 20 => 20 | 0 => 0 | 46 => 140 | 109 => 141 | 5 => 5 | 72 => 84 | 76 => 118 | 51 => 154 | 146 => 155 | 53 => 157 | 148 => 158 | 70 => 82 | 37 => 50 | 75 => 117 | 127 => 120 | 164 => 160 | 80 => 86 | n => n,fun | n => n⟩
theorem Tryz.lays105 : Go.Proofs.Lays.n105 Tryz.prog Tryz.lays105_ren := {
 mixed := by kernel_rfl
 f99 := Tryz.func36.trans (congrArg some (by kernel_rfl))
 f105 := Tryz.func64.trans (congrArg some (by kernel_rfl))
 f165 := Tryz.func91.trans (congrArg some (by kernel_rfl))
 f166 := Tryz.func65.trans (congrArg some (by kernel_rfl))
 f169 := Tryz.func34.trans (congrArg some (by kernel_rfl))
 f170 := Tryz.func93.trans (congrArg some (by kernel_rfl))
 f206 := Tryz.func66.trans (congrArg some (by kernel_rfl))
 f212 := Tryz.func92.trans (congrArg some (by kernel_rfl))
 f240 := Tryz.func94.trans (congrArg some (by kernel_rfl))
 f241 := Tryz.func116.trans (congrArg some (by kernel_rfl))
 f263 := Tryz.func117.trans (congrArg some (by kernel_rfl))
 f264 := Tryz.func118.trans (congrArg some (by kernel_rfl))
 f276 := Tryz.func119.trans (congrArg some (by kernel_rfl))
 f277 := Tryz.func136.trans (congrArg some (by kernel_rfl))
 t0 := Tryz.underlying0
 a0 := Tryz.isAgg0
 z0 := Tryz.sizeOf0
 v0 := Tryz.zeroValue0
 t3 := Tryz.underlying3
 a3 := Tryz.isAgg3
 z3 := Tryz.sizeOf3
 v3 := Tryz.zeroValue3
 t4 := Tryz.underlying4
 a4 := Tryz.isAgg4
 z4 := Tryz.sizeOf4
 v4 := Tryz.zeroValue4
 t5 := Tryz.underlying5
 a5 := Tryz.isAgg5
 z5 := Tryz.sizeOf5
 v5 := Tryz.zeroValue5
 t9 := Tryz.underlying9
 a9 := Tryz.isAgg9
 z9 := Tryz.sizeOf9
 v9 := Tryz.zeroValue9
 t20 := Tryz.underlying20
 a20 := Tryz.isAgg20
 z20 := Tryz.sizeOf20
 v20 := Tryz.zeroValue20
 t37 := Tryz.underlying50
 a37 := Tryz.isAgg50
 z37 := Tryz.sizeOf50
 v37 := Tryz.zeroValue50
 t46 := Tryz.underlying140
 a46 := Tryz.isAgg140
 z46 := Tryz.sizeOf140
 v46 := Tryz.zeroValue140
 t51 := Tryz.underlying154
 a51 := Tryz.isAgg154
 z51 := Tryz.sizeOf154
 v51 := Tryz.zeroValue154
 t53 := Tryz.underlying157
 a53 := Tryz.isAgg157
 z53 := Tryz.sizeOf157
 v53 := Tryz.zeroValue157
 t70 := Tryz.underlying82
 a70 := Tryz.isAgg82
 z70 := Tryz.sizeOf82
 v70 := Tryz.zeroValue82
 t72 := Tryz.underlying84
 a72 := Tryz.isAgg84
 z72 := Tryz.sizeOf84
 v72 := Tryz.zeroValue84
 t75 := Tryz.underlying117
 a75 := Tryz.isAgg117
 z75 := Tryz.sizeOf117
 v75 := Tryz.zeroValue117
 t76 := Tryz.underlying118
 a76 := Tryz.isAgg118
 z76 := Tryz.sizeOf118
 v76 := Tryz.zeroValue118
 t109 := Tryz.underlying141
 a109 := Tryz.isAgg141
 z109 := Tryz.sizeOf141
 v109 := Tryz.zeroValue141
 t127 := Tryz.underlying120
 a127 := Tryz.isAgg120
 z127 := Tryz.sizeOf120
 v127 := Tryz.zeroValue120
 t146 := Tryz.underlying155
 a146 := Tryz.isAgg155
 z146 := Tryz.sizeOf155
 v146 := Tryz.zeroValue155
 t148 := Tryz.underlying158
 a148 := Tryz.isAgg158
 z148 := Tryz.sizeOf158
 v148 := Tryz.zeroValue158
 t164 := Tryz.underlying160
 a164 := Tryz.isAgg160
 z164 := Tryz.sizeOf160
 v164 := Tryz.zeroValue160 }
theorem Tryz.Builder_Extra_105 : Builder.Extra Tryz.prog Tryz.lays105_ren := {
 sizeBuilder := by kernel_rfl
 liesBuilder := by kernel_rfl
 t5 := Tryz.underlying5
 a5 := Tryz.isAgg5
 z5 := Tryz.sizeOf5
 v5 := Tryz.zeroValue5
 infoByte := by kernel_rfl
 cellsByte := by kernel_rfl
 sizeByte := by kernel_rfl
 neB5 := by decide }
open Go.RowKit Go.Lib in
theorem Tryz.strings_Repeat (s : ByteArray) (c : Nat) (w : World) (hc : c ≤ 9223372036854775807) (hlen : s.size * c ≤ 140737488355328) :
   Calls Tryz.prog 64 #[.string s,.int .i64 c] w fun e w' => e = .returned (.string ⟨(Lib.repeatL s.data.toList c).toArray⟩) ∧ Below w.heap.size w w' := Any.strings_Repeat Tryz.lays105 Tryz.Builder_Extra_105 s c w hc hlen
open Go.RowKit Go.Lib in
theorem Tryz.strings_TrimLeft_laid (s cutset : ByteArray) (w : World) (hcs : cutset.size < 4294967281) (hascii : ∀ (j : Nat) b,cutset.data.toList[j]? = some b → b.toNat < 128) :
   Calls Tryz.prog 101 #[.string s,.string cutset] w fun e w' => e = .returned (.string ⟨(Lib.trimLeftS s.data.toList cutset.data.toList).toArray⟩) ∧ Below w.heap.size w w' := Any.strings_TrimLeft_laid Tryz.lays161 (by kernel_rfl) s cutset w hcs hascii
end Go.Proofs
namespace Go.Proofs.YtofhaneggcpdaaaGreatDoor
open Go Go.Eng Go.Num
set_option maxRecDepth 100000
abbrev u64 (n : Nat) : Value := .int .u64 (n : Int)
abbrev U8 : TypeId := 5
theorem bytes_ext (w : World) (e : TypeId) (s : ByteArray) : Ext w (Lib.bytesWorld w e s) :=
 ⟨rfl,rfl,rfl,by rw [Lib.bytesWorld_size]; omega,fun k hk _ => Lib.bytesWorld_at_old w e s k hk⟩
theorem to_bytes {l : Str} {w : World} {src dst : TypeId} {K : Value → World → Prop} (hs : Tryz.prog.underlying src = some .string) (hd : Tryz.prog.underlying dst = some (.slice U8)) (he : Tryz.prog.underlying U8 = some (.int .u8))
   (hK : ∀ v w',Byt w' U8 v l → Ext w w' → K v w') : semE Tryz.prog (convert src dst (str l)) w K := by
 unfold semE
 rw [Lib.run_convert_string_bytes w src dst U8 (ofL l) hs hd he]
 refine hK _ _ ?_ (bytes_ext _ _ _)
 have hle : (ofL l).size ≤ grownCap w (ofL l).size 0 U8 := by
   exact grownCap_ge w (ofL l).size 0 U8
 refine ⟨some ⟨w.heap.size,0,none⟩,grownCap w (ofL l).size 0 U8,by rw [ofL_size],by rw [← ofL_size]; exact hle,(fun e => by cases e),fun _ => ⟨w.heap.size,0,_,_,rfl,Lib.bytesWorld_at_new w U8 (ofL l),fun i hi => ?_⟩⟩
 have hi : i < (ofL l).size := by rw [ofL_size]; simpa [u8s_length] using hi
 have := Lib.bytesWorld_cell w U8 (ofL l) i hi
 rw [cell_eq,Lib.bytesWorld_at_new,cellO_some] at this
 rw [Nat.zero_add,this,u8s_get,ofL_data]
 have hi' : i < l.length := by rw [ofL_size] at hi; exact hi
 simp [List.getD_eq_getElem?_getD,List.getElem?_eq_getElem hi']
theorem of_calls [HX] {g : FuncId} {args : Array Value} {w : World} {K : Value → World → Prop} (hr : ∀ (ar : Array Value) (w : World),(callFunc g ar).run Tryz.prog w = .ok (.enter g ar) w)
   (h : Calls Tryz.prog g args w fun e w' => ∃ v,e = .returned v ∧ K v w') : callF Tryz.prog g args.toList w K := by
 unfold callF
 rw [show args.toList.toArray = args from by simp,hr]
 refine h.mono ?_
 rintro e w' ⟨v,rfl,hk⟩
 exact hk
section
variable [HX]
theorem pre_ref {s p : Str} {w : World} {K : Value → World → Prop} (hs : s.length ≤ 9223372036854775807) (hK : K (.bool (p.isPrefixOf s)) w) : callF Tryz.prog 66 [str s,str p] w K := by
 refine of_calls (args := #[str s,str p]) Tryz.call66 ((Tryz.stringslite_HasPrefix (ofL s) (ofL p) w).mono ?_)
 rintro e w' ⟨rfl,rfl⟩
 refine ⟨_,rfl,?_⟩
 rw [ofL_data,ofL_data]
 exact hK
theorem trimpre_ref {a : Str} {w : World} {K : Value → World → Prop} (hs : a.length ≤ 9223372036854775807) (hK : K (str (dig a)) w) : callF Tryz.prog 97 [str a,str [45]] w K := by
 refine W97_ok ?_
 unfold W97
 refine W124_ok ?_
 unfold W124
 refine pre_ref hs ?_
 cases a with
 | nil =>
   rw [show ([45] : Str).isPrefixOf [] = false from rfl]
   simp only [wsv,wsg,wsh,wsl,cond_true,cond_false,exists_eq_left',wsu,Nat.reduceAdd,Nat.reduceLT,Nat.lt_add_one,Nat.zero_lt_succ,decide_true,decide_false,ne_eq,reduceCtorEq]
   exact hK
 | cons c r =>
   by_cases hc : c = 45
   · subst hc
     have e : ([45] : Str).isPrefixOf (45 :: r) = true := by simp [List.isPrefixOf]
     have ed : dig (45 :: r) = r := by simp [dig]
     rw [ed] at hK
     rw [e]
     have e1 : ((0 + 1 : Nat) : Int).toNat = 1 := rfl
     simp only [wsv,wsg,wsh,wsl,cond_true,cond_false,exists_eq_left',wsu,Nat.reduceAdd,Nat.reduceLT,Nat.lt_add_one,Nat.zero_lt_succ,decide_true,decide_false,ne_eq,reduceCtorEq,e1]
     refine ⟨by omega,by omega,?_⟩
     rw [← List.length_cons (a := (45 : UInt8)),List.take_length]
     exact hK
   · have e : ([45] : Str).isPrefixOf (c :: r) = false := by simp [List.isPrefixOf,Ne.symm hc]
     have ed : dig (c :: r) = c :: r := by simp [dig,hc]
     rw [ed] at hK
     rw [e]
     simp only [wsv,wsg,wsh,wsl,cond_true,cond_false,exists_eq_left',wsu,Nat.reduceAdd,Nat.reduceLT,Nat.lt_add_one,Nat.zero_lt_succ,decide_true,decide_false,ne_eq,reduceCtorEq]
     exact hK
theorem numgood_ref {a : Str} {w : World} {K : Value → World → Prop} (ha : a.length ≤ 9223372036854775807) (hK : ∀ w',Ext w w' → K (.bool (goodN a)) w') : callF Tryz.prog 74 [str a] w K := by
 refine W74_ok ?_
 unfold W74
 refine trimpre_ref ha ?_
 have hg : goodN a = (!decide ((dig a).length < 1) && !decide (100 < (dig a).length) && !((dig a).head? == some 48 && !decide (a = [48])) && (dig a).all Num.isDig) := by
   unfold goodN
   have e1 : decide (1 ≤ (dig a).length) = !decide ((dig a).length < 1) := by rw [← decide_not]; exact decide_eq_decide.2 (by omega)
   have e2 : decide ((dig a).length ≤ 100) = !decide (100 < (dig a).length) := by rw [← decide_not]; exact decide_eq_decide.2 (by omega)
   rw [e1,e2]
   cases ((dig a).head? == some 48) <;> cases decide (a = [48]) <;> simp
 rw [hg] at hK
 have hdl : (dig a).length ≤ a.length := by
   cases a with
   | nil => simp [dig]
   | cons c r => simp only [dig]; split <;> simp
 cases hd : dig a with
 | nil =>
   rw [hd] at hK
   have hz : decide (((0 : Nat) : Int) < 1) = true := by decide
   simp only [wsv,wsg,wsh,wsl,cond_true,cond_false,exists_eq_left',wsu,Nat.reduceAdd,Nat.reduceLT,Nat.lt_add_one,Nat.zero_lt_succ,decide_true,decide_false,ne_eq,reduceCtorEq,hz]
   intros
   exact hK _ (Chg.refl _ _)
 | cons c r =>
   rw [hd] at hK hdl
   have hz : decide (((r.length + 1 : Nat) : Int) < 1) = false := decide_eq_false (by omega)
   simp only [wsv,wsg,wsh,wsl,cond_true,cond_false,exists_eq_left',wsu,Nat.reduceAdd,Nat.reduceLT,Nat.lt_add_one,Nat.zero_lt_succ,decide_true,decide_false,ne_eq,reduceCtorEq,Int.le_refl,Int.toNat_zero,u8_is c 48 48 rfl,hz]
   intros
   rw [condW_b]
   have e1 : decide ((100 : Int) < ((r.length + 1 : Nat) : Int)) = decide (100 < (c :: r).length) := decide_eq_decide.2 (by simp only [List.length_cons]; omega)
   have e4 : decide ((c :: r).length < 1) = false := decide_eq_false (by simp)
   have e5 : ((c :: r).head? == some 48) = (c == 48) := by simp
   rw [e1]
   rw [e4,e5] at hK
   simp only [decide_not]
   generalize decide (100 < (c :: r).length) = b1 at *
   generalize ((c == 48) && !decide (a = [48])) = b2 at *
   refine ⟨fun h => ?_,fun h => ?_⟩
   · have := hK _ (Chg.refl _ _)
     have e : (!false && !b1 && !b2 && (c :: r).all Num.isDig) = false := by
       cases b1 <;> cases b2 <;> simp at h ⊢
     rw [e] at this
     exact this
   · have hb : b1 = false ∧ b2 = false := by simpa using h
     rw [hb.1,hb.2] at hK
     refine to_bytes (l := c :: r) (by kernel_rfl) (by kernel_rfl) (by kernel_rfl) fun v w1 hv hx1 => ?_
     rw [lenl_at hv]
     generalize c :: r = D at *
     refine loop_up D.length (fun i w2 => Ext w1 w2 ∧ (D.take i).all Num.isDig = true) ⟨Chg.refl _ _,rfl⟩ ?_ ?_
     · rintro i w2 g L hi ⟨hx2,hall⟩ hL
       obtain ⟨e,he⟩ : ∃ e,D[i]? = some e := ⟨_,List.getElem?_eq_getElem hi⟩
       have hlt : ((i : Int) < ((D.length : Nat) : Int)) := by omega
       simp only [wsv,wsg,wsh,wsl,cond_true,cond_false,exists_eq_left',wsu,Nat.reduceAdd,Nat.reduceLT,Nat.lt_add_one,Nat.zero_lt_succ,decide_true,decide_false,ne_eq,reduceCtorEq,hlt]
       refine ixa_ld (hv.ext hx2) (by rw [u8s_length]) (by rw [u8s_get,he]; rfl) ?_
       simp only [wsv,wsg,wsh,wsl,cond_true,cond_false,exists_eq_left',wsu,Nat.reduceAdd,Nat.reduceLT,Nat.lt_add_one,Nat.zero_lt_succ,decide_true,decide_false,ne_eq,reduceCtorEq,isDig_out]
       intros
       rw [condW_b]
       refine ⟨fun hf => ?_,fun ht => ?_⟩
       · have hf : Num.isDig e = false := by simpa using hf
         have := hK _ (hx1.trans hx2)
         rw [all_no he hf] at this
         exact this
       · have ht : Num.isDig e = true := by simpa using ht
         rw [up1 (by omega)]
         exact hL _ ⟨hx2,by rw [all_take he,hall,ht]; rfl⟩
     · rintro w2 g L ⟨hx2,hall⟩
       simp only [wsv,wsg,wsh,wsl,cond_true,cond_false,exists_eq_left',wsu,Nat.reduceAdd,Nat.reduceLT,Nat.lt_add_one,Nat.zero_lt_succ,decide_true,decide_false,ne_eq,reduceCtorEq,Int.lt_irrefl]
       rw [List.take_length] at hall
       have := hK w2 (hx1.trans hx2)
       rw [hall] at this
       exact this
end
end Go.Proofs.YtofhaneggcpdaaaGreatDoor
namespace Go.Proofs
open Go.RowKit Go.Lib Go.Shelf
abbrev BdT : TypeId := 84
set_option maxHeartbeats 1000000 in
set_option maxRecDepth 100000 in
theorem Tryz.check_used (b : Nat) (w : World) (h0 : w.cell? ⟨b,0,none⟩ = some (.pointer (some ⟨b,0,none⟩))) :
   Calls Tryz.prog 94 #[.pointer (some ⟨b,0,none⟩)] w fun e w' => e = .returned (.tuple #[]) ∧ w' = w := by
 obtain ⟨j,hj,_⟩ := Option.map_eq_some_iff.1 (show (Tryz.prog.info? 84).map (·.size) = some 2 by kernel_rfl)
 go_enter Tryz.func94,Tryz.ntmps94
 go_wp2
 rw [Lib.run_neq_ptr_same w _ Tryz.underlying82 hj]
 go_wp2
 go_end0
 exact ⟨rfl,rfl⟩
set_option maxHeartbeats 1000000 in
set_option maxRecDepth 100000 in
theorem Tryz.check_fresh (b : Nat) (w : World) (h0 : w.cell? ⟨b,0,none⟩ = some (.pointer none)) (hsh : w.shape? b = some (84,2)) (hfz : w.frozen? ⟨b,0,none⟩ = false) :
   Calls Tryz.prog 94 #[.pointer (some ⟨b,0,none⟩)] w fun e w' => e = .returned (.tuple #[]) ∧ w' = w.setCell ⟨b,0,none⟩ (.pointer (some ⟨b,0,none⟩)) := by
 obtain ⟨j,hj,hjs⟩ := Option.map_eq_some_iff.1 (show (Tryz.prog.info? 84).map (·.size) = some 2 by kernel_rfl)
 go_enter Tryz.func94,Tryz.ntmps94
 go_wp2
 rw [Lib.run_to_unsafe w ⟨b,0,none⟩ Tryz.underlying82 Tryz.underlying160 hj (by rw [hjs]; decide) hsh (Nat.zero_lt_succ 1)]
 simp only [Result.andThen]
 rw [Oper.upon_value]
 go_wp2
 rw [run_callFunc_extern Tryz.func119 (by kernel_rfl) (by kernel_rfl) (by kernel_rfl) (e := Extern.AbiNoEscape.same) (by kernel_rfl)]
 rw [Lib.run_noEscape]
 simp only [Result.andThen]
 rw [Oper.upon_value]
 go_wp2
 rw [Lib.run_from_unsafe w ⟨b,0,none⟩ Tryz.underlying160 Tryz.underlying82 hj hsh (show liesAt Tryz.prog Tryz.prog.depth 84 (2 / Tryz.prog.cellsOf 84) 0 84 1 = true by kernel_rfl)]
 simp only [Result.andThen]
 rw [Oper.upon_value]
 go_wp2
 go_end0
 exact ⟨rfl,rfl⟩
end Go.Proofs
