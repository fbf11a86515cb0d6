/- One plain sentence: the weakest precondition of a Go operation, function by function, with values in the place of slots. Conditions: none. -/
import Derived.Orders
import Derived.Laws.World
import Derived.KernelRfl
import Derived.Laws.Strings
set_option linter.all false
set_option linter.unusedSimpArgs false
set_option linter.unusedVariables false
set_option linter.unusedSectionVars false
namespace Go.Eng
open Go

abbrev Fr := Nat → Value

def upd (f : Fr) (d : Option Nat) (v : Value) : Fr :=
  match d with
  | none => f
  | some d => fun j => bif Nat.beq j d then v else f j

def ev (f : Fr) : Operand → Value
  | .tmp t => f t
  | .const v => v
  | .global g => .pointer (some ⟨g, 0, none⟩)
  | .func g => .func (.func g) #[] #[]

def evl (f : Fr) (a : Array Operand) : List Value := a.toList.map (ev f)

def ofL (l : List UInt8) : ByteArray := ⟨l.toArray⟩
theorem ofL_data (l : List UInt8) : (ofL l).data.toList = l := by simp [ofL]
theorem ofL_surj (s : ByteArray) : ∃ l, s = ofL l := ⟨s.data.toList, by simp [ofL]⟩
theorem ofL_size (l : List UInt8) : (ofL l).size = l.length := by simp [ofL, ByteArray.size]
theorem ofL_toList (l : List UInt8) : (ofL l).toList = l := by rw [ByteArray.toList_eq]; simp [ofL]
theorem ofL_inj {a b : List UInt8} : ofL a = ofL b ↔ a = b := by
  constructor
  · intro h; have := congrArg (fun s => s.data.toList) h; simpa [ofL] using this
  · rintro rfl; rfl

/-- what is asked where a panic leaves -/
class HX where
  X : List PanicEntry → World → Prop
@[reducible] def noX : HX := ⟨fun _ _ => False⟩
/-- what is asked of a call's end -/
def EndK [HX] (K : Value → World → Prop) : Ending → World → Prop
  | .returned v, w => K v w
  | .panicked c, w => HX.X c w
  | .outgrown, _ => False
theorem EndK.mono [HX] {K K' : Value → World → Prop} (hk : ∀ v w, K v w → K' v w) {e : Ending} {w : World} (h : EndK K e w) : EndK K' e w := by
  cases e with
  | returned v => exact hk _ _ h
  | panicked c => exact h
  | outgrown => exact h.elim

/-- What is asked of what an operation comes to. -/
def Res [HX] (P : Program) (K : Value → World → Prop) : Result Next → Prop
  | .ok (.value v) w => K v w
  | .ok .skip w => K undef w
  | .ok (.enter g args) w => Calls P g args w (EndK K)
  | .ok (.row r args) w => Rows P r args w K
  | .halt (.panic v) w => HX.X [{ v, recovered := false }] w
  | _ => False

theorem Res.upon [HX] {P : Program} {K : Value → World → Prop} {o : Oper} {a : Act} {next : Act → World → Prop} {Q : Exit → Act → World → Prop}
    (hk : ∀ v w, K v w → next (a.put o.dst v) w) (hx : ∀ c w, HX.X c w → Q (.panic c) a w) {r : Result Next} (h : Res P K r) : o.upon P a next Q r := by
  cases r with
  | ok n w =>
    cases n <;> simp only [Res] at h <;> simp only [Oper.upon] <;> first
      | exact hk _ _ h
      | exact h.elim
      | exact h.mono fun _ _ he => hk _ _ he
      | (refine h.mono fun e w' he => ?_
         cases e with
         | returned v => exact hk _ _ he
         | panicked c => exact hx _ _ he
         | outgrown => exact he.elim)
  | halt x w =>
    cases x <;> simp only [Res] at h <;> simp only [Oper.upon] <;> first
      | exact h.elim
      | exact hx _ _ h

theorem Res.mono [HX] {P : Program} {K K' : Value → World → Prop} (hk : ∀ v w, K v w → K' v w) {r : Result Next} (h : Res P K r) : Res P K' r := by
  cases r with
  | ok n w =>
    cases n <;> simp only [Res] at h ⊢ <;> first
      | exact hk _ _ h
      | exact h.elim
      | exact h.mono fun _ _ he => hk _ _ he
      | exact h.mono fun e w' he => he.mono hk
  | halt x w =>
    cases x <;> simp only [Res] at h ⊢ <;> first
      | exact h.elim
      | exact h

/-- a premise that the kernel reckons -/
def andB (c : Bool) (A : Prop) : Prop := bif c then A else False
theorem andB.out {c : Bool} {A : Prop} (h : andB c A) : c = true ∧ A := by
  cases c with
  | true => exact ⟨rfl, h⟩
  | false => exact h.elim

/-! ### Pure operations -/

def pickW (c a b : Value) (K : Value → Prop) : Prop := match c with | .bool t => K (bif t then a else b) | _ => False

def nilW (v : Value) (K : Value → Prop) : Prop :=
  match v with
  | .pointer (some _) => K v
  | .func (.func _) _ _ => K v
  | .iface _ _ => K v
  | _ => False

def binW (op : BinOp) (x y : Value) (K : Value → Prop) : Prop :=
  match x, y with
  | .int k a, .int k' b =>
    match op with
    | .shl => 0 ≤ b ∧ K (.int k (k.wrap (a * 2 ^ min b.toNat k.bits)))
    | .shr => 0 ≤ b ∧ K (.int k (a.fdiv (2 ^ min b.toNat k.bits)))
    | .add => k = k' ∧ K (.int k (k.wrap (a + b)))
    | .sub => k = k' ∧ K (.int k (k.wrap (a - b)))
    | .mul => k = k' ∧ K (.int k (k.wrap (a * b)))
    | .quo => k = k' ∧ b ≠ 0 ∧ K (.int k (k.wrap (a.tdiv b)))
    | .rem => k = k' ∧ b ≠ 0 ∧ K (.int k (a.tmod b))
    | .and => k = k' ∧ K (.int k (k.wrap (BitVec.ofInt k.bits a &&& BitVec.ofInt k.bits b).toNat))
    | .or => k = k' ∧ K (.int k (k.wrap (BitVec.ofInt k.bits a ||| BitVec.ofInt k.bits b).toNat))
    | .xor => k = k' ∧ K (.int k (k.wrap (BitVec.ofInt k.bits a ^^^ BitVec.ofInt k.bits b).toNat))
    | .andNot => k = k' ∧ K (.int k (k.wrap (BitVec.ofInt k.bits a &&& ~~~ BitVec.ofInt k.bits b).toNat))
    | .eql => k = k' ∧ K (.bool (decide (a = b)))
    | .neq => k = k' ∧ K (.bool (decide (a ≠ b)))
    | .lss => k = k' ∧ K (.bool (decide (a < b)))
    | .leq => k = k' ∧ K (.bool (decide (a ≤ b)))
    | .gtr => k = k' ∧ K (.bool (decide (b < a)))
    | .geq => k = k' ∧ K (.bool (decide (b ≤ a)))
  | .string a, .string b =>
    match op with
    | .add => ((a.size + b.size : Nat) : Int) ≤ IntKind.i64.max ∧ K (.string (a ++ b))
    | .eql => K (.bool (decide (a.data.toList = b.data.toList)))
    | .neq => K (.bool (decide (a.data.toList ≠ b.data.toList)))
    | .lss => K (.bool (Op.bytesLess a.data.toList b.data.toList))
    | .leq => K (.bool (Op.bytesLess a.data.toList b.data.toList || decide (a.data.toList = b.data.toList)))
    | .gtr => K (.bool (!(Op.bytesLess a.data.toList b.data.toList || decide (a.data.toList = b.data.toList))))
    | .geq => K (.bool (!Op.bytesLess a.data.toList b.data.toList))
    | _ => False
  | _, _ => False

/-- '==' on bools, and on pointers, slices, maps and functions where one side is nil; n: '!='. -/
inductive EqK | bool | ptr | slice | map | func

def EqK.of : TypeDesc → Option EqK
  | .bool => some .bool
  | .pointer _ => some .ptr
  | .slice _ => some .slice
  | .map _ _ => some .map
  | .func _ _ _ => some .func
  | _ => none

def eqW (k : EqK) (n : Bool) (x y : Value) (K : Value → Prop) : Prop :=
  match k, x, y with
  | .bool, .bool a, .bool b => K (.bool (n ^^ (a == b)))
  | .ptr, .pointer none, .pointer b => K (.bool (n ^^ b.isNone))
  | .ptr, .pointer (some _), .pointer none => K (.bool n)
  | .slice, .slice none _ _, .slice b _ _ => K (.bool (n ^^ b.isNone))
  | .slice, .slice (some _) _ _, .slice none _ _ => K (.bool n)
  | .map, .map none, .map b => K (.bool (n ^^ b.isNone))
  | .map, .map (some _), .map none => K (.bool n)
  | .func, .nilFunc, .nilFunc => K (.bool (!n))
  | .func, .nilFunc, .func _ _ _ => K (.bool n)
  | .func, .func _ _ _, .nilFunc => K (.bool n)
  | _, _, _ => False

def unW (op : UnOp) (x : Value) (K : Value → Prop) : Prop :=
  match op, x with
  | .not, .bool b => K (.bool (!b))
  | .neg, .int k n => K (.int k (k.wrap (0 - n)))
  | .xor, .int k n => K (.int k (k.wrap (BitVec.ofInt k.bits (if k.signed then -1 else k.max) ^^^ BitVec.ofInt k.bits n).toNat))
  | _, _ => False

def cvtW (k : IntKind) (x : Value) (K : Value → Prop) : Prop := match x with | .int _ n => K (.int k (k.wrap n)) | _ => False
def cvsW (x : Value) (K : Value → Prop) : Prop := match x with | .int _ n => K (.string (Utf8.encode n)) | .string s => K (.string s) | _ => False

def partW (agg : Bool) (off size : Nat) (x : Value) (K : Value → Prop) : Prop :=
  match x with
  | .agg cs => bif agg then K (.agg (cs.extract off (off + size))) else (∃ c, cs[off]? = some c ∧ K c)
  | _ => False

def fldW (off : Nat) (x : Value) (K : Value → Prop) : Prop :=
  match x with
  | .pointer (some a) => K (.pointer (some (a.add off)))
  | _ => False

/-- the address of an element; 'len': of an array, or none for a slice -/
def ixaW (len : Option Nat) (size : Nat) (x i : Value) (K : Value → Prop) : Prop :=
  match len, x, i with
  | none, .slice (some a) n _, .int _ i => 0 ≤ i ∧ i < n ∧ K (.pointer (some (a.add (i.toNat * size))))
  | some n, .pointer (some a), .int _ i => 0 ≤ i ∧ i < n ∧ K (.pointer (some (a.add (i.toNat * size))))
  | _, _, _ => False

/-- a byte of a string -/
def ixsW (x i : Value) (K : Value → Prop) : Prop :=
  match x, i with
  | .string s, .int _ i => 0 ≤ i ∧ ∃ b, s.data.toList[i.toNat]? = some b ∧ K (.int .u8 b.toNat)
  | _, _ => False

/-- an element of an array by value -/
def ixgW (len : Nat) (agg : Bool) (size : Nat) (x i : Value) (K : Value → Prop) : Prop :=
  match i with
  | .int _ i => 0 ≤ i ∧ i < len ∧ partW agg (i.toNat * size) size x K
  | _ => False

def bdW (x : Option Value) (dflt : Nat) (lim : Nat) (K : Nat → Prop) : Prop :=
  match x with
  | none => K dflt
  | some (.int _ i) => 0 ≤ i ∧ i ≤ lim ∧ K i.toNat
  | some _ => False

def slsW (x : Value) (lo hi : Option Value) (K : Value → Prop) : Prop :=
  match x with
  | .string s => bdW hi s.size s.size fun h => bdW lo 0 h fun l => K (.string (ofL ((s.data.toList.take h).drop l)))
  | _ => False

def sllW (size : Nat) (x : Value) (lo hi mx : Option Value) (K : Value → Prop) : Prop :=
  match x with
  | .slice a len cap => bdW mx cap cap fun m => (bdW hi len m fun h => bdW lo 0 h fun l =>
      K (.slice (if m = l then a else a.map (·.add (l * size))) (h - l) (m - l)))
  | _ => False

/-- an array's address sliced -/
def slaW (n size : Nat) (x : Value) (lo hi mx : Option Value) (K : Value → Prop) : Prop :=
  match x with
  | .pointer (some a) => bdW mx n n fun m => (bdW hi n m fun h => bdW lo 0 h fun l =>
      K (.slice (some (if m = l then a else a.add (l * size))) (h - l) (m - l)))
  | _ => False

def extW (i : Nat) (x : Value) (K : Value → Prop) : Prop := match x with | .tuple vs => (match vs[i]? with | some v => K v | none => False) | _ => False

/-- parts at their places, into cells -/
def putW (cells : List Value) : List (Nat × Nat × Value) → (List Value → Prop) → Prop
  | [], K => K cells
  | (off, size, v) :: r, K => v.cells.size = size ∧ off + size ≤ cells.length ∧ putW (cells.take off ++ (v.cells.toList ++ cells.drop (off + size))) r K

def lensW (x : Value) (K : Value → Prop) : Prop := match x with | .string s => K (.int .i64 s.size) | _ => False
def lenlW (x : Value) (K : Value → Prop) : Prop := match x with | .slice _ n _ => K (.int .i64 n) | _ => False
def capW (x : Value) (K : Value → Prop) : Prop := match x with | .slice _ _ n => K (.int .i64 n) | _ => False
def minW (x y : Value) (K : Value → Prop) : Prop := match x, y with | .int k a, .int _ b => K (.int k (if b < a then b else a)) | _, _ => False
def maxW (x y : Value) (K : Value → Prop) : Prop := match x, y with | .int k a, .int _ b => K (.int k (if a < b then b else a)) | _, _ => False

/-! ### Operations that read memory, or run in some other way -/

def cellsAt (w : World) (a : Addr) : Nat → Nat → Option (List Value)
  | _, 0 => some []
  | i, n + 1 => match w.cell? (a.add i) with | some v => (cellsAt w a (i + 1) n).map (v :: ·) | none => none

def ldW (agg : Bool) (n : Nat) (x : Value) (w : World) (K : Value → Prop) : Prop :=
  match x with
  | .pointer (some a) => bif agg then (∃ l, cellsAt w a 0 n = some l ∧ K (.agg l.toArray)) else (∃ v, w.cell? a = some v ∧ K v)
  | _ => False

/-- it yields one value and leaves the world -/
def semQ (P : Program) (s : Sem Value) (w : World) (K : Value → Prop) : Prop := ∃ v, s.run P w = .ok v w ∧ K v
def semE (P : Program) (s : Sem Value) (w : World) (K : Value → World → Prop) : Prop := match s.run P w with | .ok v w' => K v w' | _ => False
def semU (P : Program) (s : Sem Unit) (w : World) (K : World → Prop) : Prop := match s.run P w with | .ok _ w' => K w' | _ => False
def semN [HX] (P : Program) (s : Sem Next) (w : World) (K : Value → World → Prop) : Prop := Res P K (s.run P w)

def allocW (T : TypeId) (zero : List Value) (w : World) (K : Value → World → Prop) : Prop :=
  K (.pointer (some ⟨w.heap.size, 0, none⟩)) (w.alloc (.cells zero.toArray T))
def boxW (T : TypeId) (v : Value) (w : World) (K : Value → World → Prop) : Prop :=
  K (.pointer (some ⟨w.heap.size, 0, none⟩)) (w.alloc (.cells v.cells T))
def bslW (T : TypeId) (len : Nat) (zero : List Value) (parts : List (Nat × Nat × Value)) (w : World) (K : Value → World → Prop) : Prop :=
  putW zero parts fun cs => K (.slice (some ⟨w.heap.size, 0, none⟩) len len) (w.alloc (.cells cs.toArray T))

def one1 : Value → Bool
  | .agg _ | .tuple _ => false
  | _ => true
def stCells (a : Addr) : List Value → Nat → World → (World → Prop) → Prop
  | [], _, w, K => K w
  | v :: r, i, w, K => one1 v = true ∧ (w.cell? (a.add i)).isSome = true ∧ w.frozen? (a.add i) = false ∧ stCells a r (i + 1) (w.setCell (a.add i) v) K
def stW (n : Nat) (x v : Value) (w : World) (K : World → Prop) : Prop :=
  match x with
  | .pointer (some a) => v.cells.size = n ∧ stCells a v.cells.toList 0 w K
  | _ => False

def callW [HX] (P : Program) (g : FuncId) (args : List Value) (w : World) (K : Value → World → Prop) : Prop :=
  Calls P g args.toArray w (EndK K)
/-- a panic with a value -/
def pncW [HX] (x : Value) (w : World) : Prop := match x with | .iface T v => HX.X [{ v := .iface T v, recovered := false }] w | _ => False
def callF [HX] (P : Program) (g : FuncId) (args : List Value) (w : World) (K : Value → World → Prop) : Prop :=
  Res P K ((callFunc g args.toArray).run P w)
def callV [HX] (P : Program) (v : Value) (args : List Value) (w : World) (K : Value → World → Prop) : Prop :=
  semN P (do let d ← Deferred.ofValue v args.toArray; invoke d.target d.args) w K
end Go.Eng
