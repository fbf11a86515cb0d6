/- One plain sentence: contracts and plain laws that the claim rests on. Conditions: those that each states. -/
import Derived.Orders
import Derived.Laws.World
import Derived.KernelRfl
import Derived.Laws.Strings
import Derived.Tactics
import Derived.Scope
import Derived.Below
import Derived.Laws.AppendOwn
import Derived.Laws.BytesArg
import Derived.Test.YtjblfcfdeaagpaaGreatDoorProg
import Derived.Lib.DecodeN
import Derived.Lib.RuneBytes
import Derived.Lib.Index
import Derived.Recover
set_option linter.all false
set_option linter.unusedSimpArgs false
set_option linter.unusedVariables false
set_option linter.unusedSectionVars false
set_option maxRecDepth 100000
abbrev _root_.bD := @Option.some.injEq
abbrev _root_.bS := @List.map_cons
abbrev _root_.aD := @if_neg
abbrev _root_.aA := @List.length_cons
abbrev _root_.cG := @List.length_take
abbrev _root_.fU := @List.getElem?_drop
abbrev _root_.gF := @Nat.add_zero
abbrev _root_.AX := @ne_eq
abbrev _root_.Cv := @if_false
abbrev _root_.jF := @cond_false
abbrev _root_.cY := @cond_true
abbrev _root_.wY := @Array.all_eq_true_iff_forall_mem
abbrev _root_.aG := @List.getElem?_eq_getElem
abbrev _root_.cA := @List.getElem?_eq_none
abbrev _root_.jN := @Option.map_some
abbrev _root_.Cq := @Nat.succ_mul
abbrev _root_.lS := @Nat.add_comm
abbrev _root_.gC := @Nat.eq_of_beq_eq_true
abbrev _root_.hY := @Nat.le_of_ble_eq_true
abbrev _root_.aF := @if_pos
abbrev _root_.bC := @List.mem_cons
abbrev _root_.eJ := @List.getElem?_toArray
abbrev _root_.mZ := @Nat.lt_or_ge
abbrev _root_.gG := @Array.getD_eq_getD_getElem?
abbrev _root_.uH := @Ne.symm
abbrev _root_.aZ := @Bool.and_eq_true
abbrev _root_.eR := @List.all_eq_true
abbrev _root_.dS := @List.mem_range
abbrev _root_.eB := @Bool.or_eq_true
abbrev _root_.fI := @beq_iff_eq
abbrev _root_.jE := @decide_eq_true_eq
abbrev _root_.gZ := @Bool.not_eq_true'
abbrev _root_.dI := @List.mem_append_left
abbrev _root_.fT := @List.mem_filterMap
abbrev _root_.bV := @List.mem_append_right
abbrev _root_.aK := @List.mem_cons_of_mem
abbrev _root_.eY := @Prod.mk.injEq
abbrev _root_.aX := @List.mem_cons_self
abbrev _root_.dV := @List.getElem?_cons_zero
abbrev _root_.aL := @Nat.le_refl
abbrev _root_.bW := @List.mem_of_getElem?
abbrev _root_.lJ := @List.mem_filter
abbrev _root_.eU := @List.mem_map
abbrev _root_.aU := @List.mem_singleton
abbrev _root_.jO := @List.nodup_cons
abbrev _root_.gY := @if_true
abbrev _root_.uJ := @Bool.false_eq_true
abbrev _root_.bZ := @Nat.le_trans
abbrev _root_.dC := @List.cons_append
abbrev _root_.aH := @List.getD_eq_getElem?_getD
abbrev _root_.bX := @Nat.lt_of_lt_of_le
abbrev _root_.jI := @Iff.rfl
abbrev _root_.jJ := @Array.getElem?_eq_some_iff
abbrev _root_.kS := @Nat.mul_le_mul_right
abbrev _root_.aP := @Int.toNat_natCast
abbrev _root_.bF := @List.getElem?_eq_some_iff
abbrev _root_.bY := @List.eq_nil_of_length_eq_zero
abbrev _root_.aQ := @Nat.zero_add
abbrev _root_.cH := @List.append_nil
abbrev _root_.aC := @List.length_nil
abbrev _root_.lT := @List.take_of_length_le
abbrev _root_.qP := @List.take_add_one
abbrev _root_.dO := @List.drop_of_length_le
abbrev _root_.dB := @true_and
abbrev _root_.oI := @and_true
abbrev _root_.wX := @Bool.true_or
abbrev _root_.qG := @Bool.false_or
abbrev _root_.lU := @Bool.not_true
abbrev _root_.fJ := @Bool.not_false
abbrev _root_.dK := @List.getElem?_cons_succ
abbrev _root_.aR := @List.set_cons_zero
abbrev _root_.aV := @List.set_cons_succ
abbrev _root_.aE := @List.getD_cons_zero
abbrev _root_.dX := @List.getD_cons_succ
abbrev _root_.oJ := @UInt8.toNat_lt
abbrev _root_.eO := @Prod.ext
abbrev _root_.fS := @List.drop_eq_getElem_cons
abbrev _root_.pR := @List.map_nil
abbrev _root_.dL := @List.flatMap_cons
abbrev _root_.aB := @List.length_append
abbrev _root_.dA := @List.getElem?_append_left
abbrev _root_.cJ := @List.getElem?_append_right
abbrev _root_.Av := @List.drop_append_of_le_length
abbrev _root_.As := @List.take_append_of_le_length
abbrev _root_.aJ := @List.length_drop
abbrev _root_.oU := @List.drop_left
abbrev _root_.zN := @Nat.lt_succ_self
abbrev _root_.bG := @List.drop_succ_cons
abbrev _root_.bJ := @List.drop_zero
abbrev _root_.dY := @List.drop_drop
abbrev _root_.zO := @List.mem_flatten
abbrev _root_.tC := @List.flatten_append
abbrev _root_.jH := @List.count_append
abbrev _root_.eV := @List.flatten_cons
abbrev _root_.AM := @List.count_cons
abbrev _root_.cD := @List.length_map
abbrev _root_.bQ := @List.mem_append
abbrev _root_.Cx := @List.isPrefixOf_iff_prefix
abbrev _root_.cX := @Nat.zero_le
abbrev _root_.AL := @List.headD_cons
abbrev _root_.gW := @List.length_pos_iff
abbrev _root_.kT := @Int.le_refl
abbrev _root_.bB := @List.append_assoc
abbrev _root_.oP := @List.perm_middle
abbrev _root_.tA := @Nat.add_le_add_left
abbrev _root_.oN := @List.take_zero
abbrev _root_.cI := @List.nil_append
abbrev _root_.jY := @List.drop_length
abbrev _root_.fL := @List.nodup_append
abbrev _root_.tB := @List.perm_iff_count
abbrev _root_.lO := @List.take_succ_cons
abbrev _root_.fF := @List.cons.injEq
abbrev _root_.cO := @decide_eq_true
abbrev _root_.cV := @decide_eq_false
abbrev _root_.AO := @Bool.eq_iff_iff
abbrev _root_.mV := @UInt8.toNat_inj
abbrev _root_.mT := @exists_eq_left'
abbrev _root_.oM := @Nat.lt_add_one
abbrev _root_.aY := @Nat.zero_lt_succ
abbrev _root_.uL := @decide_true
abbrev _root_.sG := @decide_false
abbrev _root_.bP := @List.take_length
abbrev _root_.jG := @Option.map_eq_some_iff
abbrev _root_.gQ := @List.map_map
abbrev _root_.dN := @List.map_congr_left
abbrev _root_.dH := @List.not_mem_nil
abbrev _root_.mD := @or_false
abbrev _root_.mY := @UInt8.ofNat_toNat
abbrev _root_.jP := @List.map_append
abbrev _root_.Au := @List.drop_eq_nil_iff
abbrev _root_.mI := @List.take_append_drop
abbrev _root_.rG := @List.take_left
abbrev _root_.gR := @List.drop_eq_nil_of_le
abbrev _root_.rH := @Bool.or_eq_false_iff
abbrev _root_.dU := @List.getElem_mem
abbrev _root_.uE := @List.getElem?_take_of_lt
abbrev _root_.xV := @List.contains_iff_mem
abbrev _root_.iU := @List.prefix_refl
abbrev _root_.iM := @List.prefix_append
abbrev _root_.zP := @List.flatMap_map
abbrev _root_.mB := @List.ext_getElem
abbrev _root_.lD := @List.length_range
abbrev _root_.oQ := @List.getElem_map
abbrev _root_.Bh := @List.replicate_succ
abbrev _root_.fM := @List.getElem?_map
abbrev _root_.Aw := @List.count_eq_zero_of_not_mem
abbrev _root_.xU := @List.mem_iff_getElem?
namespace Go.Eng
section
open Go
variable{w:World}{K:Value->World->Prop}{cs:List Value}{G:Nat->Prop}{T:TypeId}{i:Nat}{n:Nat}{v:Value}{w':World}{P:Program}{c:UInt8}{S:Nat->Prop}
abbrev Fr:=Nat->Value
def upd(f:Fr)(d:Option Nat)(v:Value):Fr:=
 match d with
 |none=>f
 |some d=>λj=>bif Nat.beq j d then v else f j
def ev(f:Fr):Operand->Value
 |.tmp t=>f t
 |.const v=>v
 |.global g=>.pointer (some ⟨g,0,none⟩)
 |.func g=>.func (.func g) #[] #[]
def evl(f:Fr)(a:Array Operand):List Value:=a.toList.map (ev f)
def ofL(l:List UInt8):ByteArray:=⟨l.toArray⟩
theorem eP(l:List UInt8):(ofL l).data.toList=l:=by simp[ofL]
theorem gN(l:List UInt8):(ofL l).size=l.length:=by simp[ofL,ByteArray.size]
class HX where
 X:List PanicEntry->World->Prop
@[reducible] def noX:HX:=⟨λ_ _=>False⟩
def EO[HX](K:Value->World->Prop):Ending->World->Prop
 |.returned v,w=>K v w
 |.panicked c,w=>HX.X c w
 |.outgrown,_=>False
theorem EO.mono[HX]{K':Value->World->Prop}(hk:∀v w,K v w->K' v w){e:Ending}(h:EO K e w):EO K' e w:=by
 cases e with
 |returned v=>exact hk _ _ h
 |panicked c=>exact h
 |outgrown=>exact h.elim
def Res[HX](P:Program)(K:Value->World->Prop):Result Next->Prop
 |.ok (.value v) w=>K v w
 |.ok .skip w=>K undef w
 |.ok (.enter g args) w=>Calls P g args w (EO K)
 |.ok (.row r args) w=>Rows P r args w K
 |.halt (.panic v) w=>HX.X [{v,recovered:=false}] w
 |_=>False
theorem Res.upon[HX]{o:Oper}{a:Act}{next:Act->World->Prop}{Q:Exit->Act->World->Prop}
  (hk:∀v w,K v w->next (a.put o.dst v) w)(hx:∀c w,HX.X c w->Q (.panic c) a w){r:Result Next}(h:Res P K r):o.upon P a next Q r:=by
 cases r with
 |ok n w=>
  cases n<;>simp only[Res]at h<;>simp only[Oper.upon]<;>first
   |exact hk _ _ h
   |exact h.elim
   |exact h.mono λ_ _ he=>hk _ _ he
   |(refine h.mono λe w' he=>?_
     cases e with
     |returned v=>exact hk _ _ he
     |panicked c=>exact hx _ _ he
     |outgrown=>exact he.elim)
 |halt x w=>
  cases x<;>simp only[Res]at h<;>simp only[Oper.upon]<;>first
   |exact h.elim
   |exact hx _ _ h
theorem Res.mono[HX]{K':Value->World->Prop}(hk:∀v w,K v w->K' v w){r:Result Next}(h:Res P K r):Res P K' r:=by
 cases r with
 |ok n w=>
  cases n<;>simp only[Res]at h⊢<;>first
   |exact hk _ _ h
   |exact h.elim
   |exact h.mono λ_ _ he=>hk _ _ he
   |exact h.mono λe w' he=>he.mono hk
 |halt x w=>
  cases x<;>simp only[Res]at h⊢<;>first
   |exact h.elim
   |exact h
def kQ(c:Bool)(A:Prop):Prop:=bif c then A else False
theorem kQ.out{c:Bool}{A:Prop}(h:kQ c A):c=true/\A:=by
 cases c with
 |true=>exact⟨rfl,h⟩
 |false=>exact h.elim
def eG(c a b:Value)(K:Value->Prop):Prop:=match c with|.bool t=>K (bif t then a else b)|_=>False
def dR(v:Value)(K:Value->Prop):Prop:=
 match v with
 |.pointer (some _)=>K v
 |.func (.func _) _ _=>K v
 |.iface _ _=>K v
 |_=>False
def aO(op:BinOp)(x y:Value)(K:Value->Prop):Prop:=
 match x,y with
 |.int k a,.int k' b=>
  match op with
  |.shl=>0<=b/\K (.int k (k.wrap (a*2^min b.toNat k.bits)))
  |.shr=>0<=b/\K (.int k (a.fdiv (2^min b.toNat k.bits)))
  |.add=>k=k'/\K (.int k (k.wrap (a+b)))
  |.sub=>k=k'/\K (.int k (k.wrap (a-b)))
  |.mul=>k=k'/\K (.int k (k.wrap (a*b)))
  |.quo=>k=k'/\b≠0/\K (.int k (k.wrap (a.tdiv b)))
  |.rem=>k=k'/\b≠0/\K (.int k (a.tmod b))
  |.and=>k=k'/\K (.int k (k.wrap (BitVec.ofInt k.bits a&&&BitVec.ofInt k.bits b).toNat))
  |.or=>k=k'/\K (.int k (k.wrap (BitVec.ofInt k.bits a|||BitVec.ofInt k.bits b).toNat))
  |.xor=>k=k'/\K (.int k (k.wrap (BitVec.ofInt k.bits a^^^BitVec.ofInt k.bits b).toNat))
  |.andNot=>k=k'/\K (.int k (k.wrap (BitVec.ofInt k.bits a&&&~~~BitVec.ofInt k.bits b).toNat))
  |.eql=>k=k'/\K (.bool (decide (a=b)))
  |.neq=>k=k'/\K (.bool (decide (a≠b)))
  |.lss=>k=k'/\K (.bool (decide (a<b)))
  |.leq=>k=k'/\K (.bool (decide (a<=b)))
  |.gtr=>k=k'/\K (.bool (decide (b<a)))
  |.geq=>k=k'/\K (.bool (decide (b<=a)))
 |.string a,.string b=>
  match op with
  |.add=>((a.size+b.size:Nat):Int)<=IntKind.i64.max/\K (.string (a++b))
  |.eql=>K (.bool (decide (a.data.toList=b.data.toList)))
  |.neq=>K (.bool (decide (a.data.toList≠b.data.toList)))
  |.lss=>K (.bool (Op.bytesLess a.data.toList b.data.toList))
  |.leq=>K (.bool (Op.bytesLess a.data.toList b.data.toList||decide (a.data.toList=b.data.toList)))
  |.gtr=>K (.bool (!(Op.bytesLess a.data.toList b.data.toList||decide (a.data.toList=b.data.toList))))
  |.geq=>K (.bool (!Op.bytesLess a.data.toList b.data.toList))
  |_=>False
 |_,_=>False
inductive EqK|bool|ptr|slice|map|func
def EqK.of:TypeDesc->Option EqK
 |.bool=>some .bool
 |.pointer _=>some .ptr
 |.slice _=>some .slice
 |.map _ _=>some .map
 |.func _ _ _=>some .func
 |_=>none
def eqW(k:EqK)(n:Bool)(x y:Value)(K:Value->Prop):Prop:=
 match k,x,y with
 |.bool,.bool a,.bool b=>K (.bool (n^^(a==b)))
 |.ptr,.pointer none,.pointer b=>K (.bool (n^^b.isNone))
 |.ptr,.pointer (some _),.pointer none=>K (.bool n)
 |.slice,.slice none _ _,.slice b _ _=>K (.bool (n^^b.isNone))
 |.slice,.slice (some _) _ _,.slice none _ _=>K (.bool n)
 |.map,.map none,.map b=>K (.bool (n^^b.isNone))
 |.map,.map (some _),.map none=>K (.bool n)
 |.func,.nilFunc,.nilFunc=>K (.bool (!n))
 |.func,.nilFunc,.func _ _ _=>K (.bool n)
 |.func,.func _ _ _,.nilFunc=>K (.bool n)
 |_,_,_=>False
def unW(op:UnOp)(x:Value)(K:Value->Prop):Prop:=
 match op,x with
 |.not,.bool b=>K (.bool (!b))
 |.neg,.int k n=>K (.int k (k.wrap (0-n)))
 |.xor,.int k n=>K (.int k (k.wrap (BitVec.ofInt k.bits (if k.signed then-1 else k.max)^^^BitVec.ofInt k.bits n).toNat))
 |_,_=>False
def wW(k:IntKind)(x:Value)(K:Value->Prop):Prop:=match x with|.int _ n=>K (.int k (k.wrap n))|_=>False
def Pd(x:Value)(K:Value->Prop):Prop:=match x with|.int _ n=>K (.string (Utf8.encode n))|.string s=>K (.string s)|_=>False
def lF(agg:Bool)(off size:Nat)(x:Value)(K:Value->Prop):Prop:=
 match x with
 |.agg cs=>bif agg then K (.agg (cs.extract off (off+size)))else(∃c,cs[off]?=some c/\K c)
 |_=>False
def bA(off:Nat)(x:Value)(K:Value->Prop):Prop:=
 match x with
 |.pointer (some a)=>K (.pointer (some (a.add off)))
 |_=>False
def fO(len:Option Nat)(size:Nat)(x i:Value)(K:Value->Prop):Prop:=
 match len,x,i with
 |none,.slice (some a) n _,.int _ i=>0<=i/\i<n/\K (.pointer (some (a.add (i.toNat*size))))
 |some n,.pointer (some a),.int _ i=>0<=i/\i<n/\K (.pointer (some (a.add (i.toNat*size))))
 |_,_,_=>False
def pH(x i:Value)(K:Value->Prop):Prop:=
 match x,i with
 |.string s,.int _ i=>0<=i/\∃b,s.data.toList[i.toNat]?=some b/\K (.int .u8 b.toNat)
 |_,_=>False
def LJ(len:Nat)(agg:Bool)(size:Nat)(x i:Value)(K:Value->Prop):Prop:=
 match i with
 |.int _ i=>0<=i/\i<len/\lF agg (i.toNat*size) size x K
 |_=>False
def bdW(x:Option Value)(dflt:Nat)(lim:Nat)(K:Nat->Prop):Prop:=
 match x with
 |none=>K dflt
 |some (.int _ i)=>0<=i/\i<=lim/\K i.toNat
 |some _=>False
def mN(x:Value)(lo hi:Option Value)(K:Value->Prop):Prop:=
 match x with
 |.string s=>bdW hi s.size s.size λh=>bdW lo 0 h λl=>K (.string (ofL ((s.data.toList.take h).drop l)))
 |_=>False
def Uv(size:Nat)(x:Value)(lo hi mx:Option Value)(K:Value->Prop):Prop:=
 match x with
 |.slice a len cap=>bdW mx cap cap λm=>(bdW hi len m λh=>bdW lo 0 h λl=>
   K (.slice (if m=l then a else a.map (·.add (l*size))) (h-l) (m-l)))
 |_=>False
def Uw(n size:Nat)(x:Value)(lo hi mx:Option Value)(K:Value->Prop):Prop:=
 match x with
 |.pointer (some a)=>bdW mx n n λm=>(bdW hi n m λh=>bdW lo 0 h λl=>
   K (.slice (some (if m=l then a else a.add (l*size))) (h-l) (m-l)))
 |_=>False
def iX(i:Nat)(x:Value)(K:Value->Prop):Prop:=match x with|.tuple vs=>(match vs[i]? with|some v=>K v|none=>False)|_=>False
def gJ(cells:List Value):List (Nat×Nat×Value)->(List Value->Prop)->Prop
 |[],K=>K cells
 |(off,size,v)::r,K=>v.cells.size=size/\off+size<=cells.length/\gJ (cells.take off++(v.cells.toList++cells.drop (off+size))) r K
def iK(x:Value)(K:Value->Prop):Prop:=match x with|.string s=>K (.int .i64 s.size)|_=>False
def iB(x:Value)(K:Value->Prop):Prop:=match x with|.slice _ n _=>K (.int .i64 n)|_=>False
def UQ(x:Value)(K:Value->Prop):Prop:=match x with|.slice _ _ n=>K (.int .i64 n)|_=>False
def OE(x y:Value)(K:Value->Prop):Prop:=match x,y with|.int k a,.int _ b=>K (.int k (if b<a then b else a))|_,_=>False
def QK(x y z:Value)(K:Value->Prop):Prop:=match x,y,z with|.int k a,.int _ b,.int _ c=>K (.int k (if c<(if b<a then b else a)then c else(if b<a then b else a)))|_,_,_=>False
def SO(x y:Value)(K:Value->Prop):Prop:=match x,y with|.int k a,.int _ b=>K (.int k (if a<b then b else a))|_,_=>False
def iR(w:World)(a:Addr):Nat->Nat->Option (List Value)
 |_,0=>some []
 |i,n+1=>match w.cell? (a.add i)with|some v=>(iR w a (i+1) n).map (v::·)|none=>none
def ldW(agg:Bool)(n:Nat)(x:Value)(w:World)(K:Value->Prop):Prop:=
 match x with
 |.pointer (some a)=>bif agg then(∃l,iR w a 0 n=some l/\K (.agg l.toArray))else(∃v,w.cell? a=some v/\K v)
 |_=>False
def Bq(P:Program)(s:Sem Value)(w:World)(K:Value->Prop):Prop:=∃v,s.run P w=.ok v w/\K v
def fG(P:Program)(s:Sem Value)(w:World)(K:Value->World->Prop):Prop:=match s.run P w with|.ok v w'=>K v w'|_=>False
def RA(P:Program)(s:Sem Unit)(w:World)(K:World->Prop):Prop:=match s.run P w with|.ok _ w'=>K w'|_=>False
def RB[HX](P:Program)(s:Sem Next)(w:World)(K:Value->World->Prop):Prop:=Res P K (s.run P w)
def cN(T:TypeId)(zero:List Value)(w:World)(K:Value->World->Prop):Prop:=
 K (.pointer (some ⟨w.heap.size,0,none⟩)) (w.alloc (.cells zero.toArray T))
def mR(T:TypeId)(v:Value)(w:World)(K:Value->World->Prop):Prop:=
 K (.pointer (some ⟨w.heap.size,0,none⟩)) (w.alloc (.cells v.cells T))
def fH(T:TypeId)(len:Nat)(zero:List Value)(parts:List (Nat×Nat×Value))(w:World)(K:Value->World->Prop):Prop:=
 gJ zero parts λcs=>K (.slice (some ⟨w.heap.size,0,none⟩) len len) (w.alloc (.cells cs.toArray T))
def nK:Value->Bool
 |.agg _|.tuple _=>false
 |_=>true
def tI(a:Addr):List Value->Nat->World->(World->Prop)->Prop
 |[],_,w,K=>K w
 |v::r,i,w,K=>nK v=true/\(w.cell? (a.add i)).isSome=true/\w.frozen? (a.add i)=false/\tI a r (i+1) (w.setCell (a.add i) v) K
def stW(n:Nat)(x v:Value)(w:World)(K:World->Prop):Prop:=
 match x with
 |.pointer (some a)=>v.cells.size=n/\tI a v.cells.toList 0 w K
 |_=>False
def QU[HX](P:Program)(g:FuncId)(args:List Value)(w:World)(K:Value->World->Prop):Prop:=
 Calls P g args.toArray w (EO K)
def Lb[HX](x:Value)(w:World):Prop:=match x with|.iface T v=>HX.X [{v:=.iface T v,recovered:=false}] w|_=>False
def aI[HX](P:Program)(g:FuncId)(args:List Value)(w:World)(K:Value->World->Prop):Prop:=
 Res P K ((callFunc g args.toArray).run P w)
def AE[HX](P:Program)(v:Value)(args:List Value)(w:World)(K:Value->World->Prop):Prop:=
 RB P (do let d<-Deferred.ofValue v args.toArray;invoke d.target d.args) w K
def SY:TypeDesc->Bool
 |.struct _|.array _ _=>true
 |_=>false
def sE(P:Program)(T:TypeId):Bool:=match P.underlying T with|some d=>SY d|none=>false
def iY(P:Program)(T:TypeId):Nat:=match P.info? T with|some i=>i.size|none=>0
def Cy(P:Program)(T:TypeId):Option Value:=match P.info? T with|some i=>i.zero|none=>none
def rQ(places:Nat->Option (Nat×Nat))(f:Fr):List (Nat×Operand)->Option (List (Nat×Nat×Value))
 |[]=>some []
 |(i,x)::r=>match places i,rQ places f r with
  |some (off,size),some l=>some ((off,size,ev f x)::l)
  |_,_=>none
def GT(P:Program)(fs:Array Field)(i:Nat):Option (Nat×Nat):=match fs[i]? with|some g=>some (g.offset,iY P g.type)|none=>none
def HH(P:Program)(T:TypeId)(f:Fr)(parts:List (Nat×Operand))(K:Value->Prop):Prop:=
 match P.underlying T,Cy P T with
 |some (.struct fs),some z=>
  (match rQ (GT P fs) f parts with
   |some l=>kQ (fs.all (λg=>(P.info? g.type).isSome)) (gJ z.cells.toList l λcs=>K (.agg cs.toArray))
   |none=>False)
 |some (.array _ e),some z=>
  (match rQ (λi=>some (i*iY P e,iY P e)) f parts with
   |some l=>kQ (P.info? e).isSome (gJ z.cells.toList l λcs=>K (.agg cs.toArray))
   |none=>False)
 |_,_=>False
def UP(P:Program)(op:BinOp)(T:TypeId)(x y:Value)(K:Value->Prop):Prop:=
 match op,(match P.underlying T with|some d=>EqK.of d|none=>none)with
 |.eql,some k=>eqW k false x y K
 |.neq,some k=>eqW k true x y K
 |_,_=>aO op x y K
def QR(P:Program)(s d:TypeId)(x:Value)(K:Value->Prop):Prop:=
 match P.underlying s,P.underlying d with
 |some (.int _),some (.int k)=>wW k x K
 |some (.int _),some .string=>Pd x K
 |some .string,some .string=>Pd x K
 |_,_=>False
def BV(P:Program)(T:TypeId)(x i:Value)(K:Value->Prop):Prop:=
 match P.underlying T with
 |some (.slice e)=>kQ (P.info? e).isSome (fO none (iY P e) x i K)
 |some (.array n e)=>kQ (P.info? e).isSome (fO (some n) (iY P e) x i K)
 |_=>False
def LP(P:Program)(T:TypeId)(x i:Value)(K:Value->Prop):Prop:=
 match P.underlying T with
 |some .string=>pH x i K
 |some (.array n e)=>kQ (P.underlying e).isSome (LJ n (sE P e) (iY P e) x i K)
 |_=>False
def GO(P:Program)(T:TypeId)(x:Value)(lo hi mx:Option Value)(K:Value->Prop):Prop:=
 match P.underlying T with
 |some .string=>kQ (!mx.isSome) (mN x lo hi K)
 |some (.slice e)=>kQ (!mx.isSome||hi.isSome) (kQ (P.info? e).isSome (Uv (iY P e) x lo hi mx K))
 |some (.array n e)=>kQ (!mx.isSome||hi.isSome) (kQ (P.info? e).isSome (Uw n (iY P e) x lo hi mx K))
 |_=>False
def CM(P:Program)(b:Builtin)(argTypes:Array TypeId)(args:List Value)(K:Value->Prop):Prop:=
 match b,args with
 |.len,[x]=>(match argTypes[0]? with
   |some T=>(match P.underlying T with
    |some .string=>iK x K
    |some (.slice _)=>iB x K
    |some (.array n _)=>K (.int .i64 n)
    |_=>False)
   |none=>False)
 |.cap,[x]=>(match argTypes[0]? with
   |some T=>(match P.underlying T with
    |some (.slice _)=>UQ x K
    |_=>False)
   |none=>False)
 |.min,[x,y]=>OE x y K
 |.min,[x,y,z]=>QK x y z K
 |.max,[x,y]=>SO x y K
 |_,_=>False
def Ij(P:Program)(f:Fr)(op:Op)(K:Value->Prop):Prop:=
 match op with
 |.move x|.assign x=>K (ev f x)
 |.pick c a b=>eG (ev f c) (ev f a) (ev f b) K
 |.nilCheck x=>dR (ev f x) K
 |.binOp op T x y _=>UP P op T (ev f x) (ev f y) K
 |.unOp op _ x=>unW op (ev f x) K
 |.convert s d x=>QR P s d (ev f x) K
 |.makeInterface T x=>(match P.underlying T with|some (.interface _)=>False|none=>False|_=>K (.iface T (ev f x)))
 |.makeFunc fn first cap=>K (.func fn (evl f first).toArray (evl f cap).toArray)
 |.field T x i=>(match P.underlying T with
   |some (.struct fs)=>(match fs[i]? with|some g=>kQ (P.underlying g.type).isSome (lF (sE P g.type) g.offset (iY P g.type) (ev f x) K)|none=>False)
   |_=>False)
 |.fieldAddr T x i=>(match P.underlying T with
   |some (.struct fs)=>(match fs[i]? with|some g=>kQ (!(Nat.beq (iY P g.type) 0)) (bA g.offset (ev f x) K)|none=>False)
   |_=>False)
 |.indexAddr T x i=>BV P T (ev f x) (ev f i) K
 |.index T x i=>LP P T (ev f x) (ev f i) K
 |.slice T x lo hi mx=>GO P T (ev f x) (lo.map (ev f)) (hi.map (ev f)) (mx.map (ev f)) K
 |.extract t i=>iX i (ev f t) K
 |.build T parts=>HH P T f parts.toList K
 |.call {callee:=.builtin b,args,argTypes}=>CM P b argTypes (evl f args) K
 |_=>False
def lW(P:Program):Op->Bool
 |.move _|.assign _|.pick ..|.nilCheck _|.unOp ..|.makeInterface ..|.makeFunc ..|.field ..|.fieldAddr ..|.indexAddr ..|.index ..|.slice ..
 |.extract ..|.build ..=>true
 |.binOp op T _ _ _=>(match op with
  |.eql|.neq=>(match P.underlying T with|some (.interface _)|some (.struct _)|some (.array _ _)|some (.chan _ _)|none=>false|_=>true)
  |_=>true)
 |.convert s d _=>(match P.underlying s,P.underlying d with|some (.int _),some (.int _)|some (.int _),some .string|some .string,some .string=>true|_,_=>false)
 |.call {callee:=.builtin b,argTypes,..}=>(match b with
  |.min|.max|.cap=>true
  |.len=>(match argTypes[0]? with|some T=>(match P.underlying T with|some (.map _ _)|none=>false|_=>true)|none=>false)
  |_=>false)
 |_=>false
def uD(P:Program)(s:Sem Value)(K:Value->Prop):Prop:=∃v,K v/\∀w,s.run P w=.ok v w
theorem run_bind{α β:Type}(P:Program)(s:Sem α)(k:α->Sem β)(w:World):
  (s>>=k).run P w=match s.run P w with|.ok a w'=>(k a).run P w'|.halt h w'=>.halt h w':=by
 show(Sem.bind s k).run P w=_;induction s generalizing w with
 |pure a=>simp[Sem.bind,Sem.run]
 |load m a c ih=>simp only[Sem.bind,Sem.run];(repeat' split)<;>simp_all
 |store m a v c ih=>
  cases v<;>simp only[Sem.bind,Sem.run]<;>((repeat' split)<;>simp_all)
 |new o c ih=>simp[Sem.bind,Sem.run,ih]
 |shape r c ih=>simp[Sem.bind,Sem.run,ih]
 |freeze a n c ih=>simp[Sem.bind,Sem.run,ih]
 |frozen a c ih=>simp[Sem.bind,Sem.run,ih]
 |getObj r c ih=>simp only[Sem.bind,Sem.run];(repeat' split)<;>simp_all
 |setObj r o c ih=>simp only[Sem.bind,Sem.run];(repeat' split)<;>simp_all
 |choose q c ih=>simp only[Sem.bind,Sem.run];(repeat' split)<;>simp_all
 |sys c k' ih=>simp[Sem.bind,Sem.run,ih]
 |program c ih=>simp[Sem.bind,Sem.run,ih]
 |mark m c ih=>simp[Sem.bind,Sem.run,ih]
 |halt h=>simp[Sem.bind,Sem.run]
theorem run_pure{α:Type}(P:Program)(a:α)(w:World):(pure a:Sem α).run P w=.ok a w:=rfl
theorem bE{d:TypeDesc}(h:P.underlying T=some d)(w:World):(underlying T).run P w=.ok d w:=by
 simp[underlying,run_bind,program,Sem.run,h,run_pure]
theorem wZ{i:TypeInfo}(h:P.info? T=some i)(w:World):(typeInfo T).run P w=.ok i w:=by
 simp[typeInfo,run_bind,program,Sem.run,h,run_pure]
theorem fE(h:(P.info? T).isSome=true)(w:World):(sizeOf T).run P w=.ok (iY P T) w:=by
 cases hi:P.info? T with
 |none=>rw[hi]at h;cases h
 |some i=>simp[sizeOf,run_bind,wZ hi,run_pure,iY,hi]
theorem pS(h:(P.underlying T).isSome=true):(P.info? T).isSome=true:=by
 unfold Program.underlying at h;cases hi:P.info? T with
 |none=>simp[hi]at h
 |some i=>rfl
theorem tK(h:(P.underlying T).isSome=true)(w:World):(isAgg T).run P w=.ok (sE P T) w:=by
 cases hi:P.underlying T with
 |none=>rw[hi]at h;cases h
 |some d=>
  simp only[isAgg,run_bind,bE hi,sE,hi];cases d<;>rfl
theorem vS{z:Value}(h:Cy P T=some z)(w:World):(zeroValue T).run P w=.ok z w:=by
 unfold Cy at h;cases hi:P.info? T with
 |none=>simp[hi]at h
 |some i=>
  simp only[hi]at h;simp[zeroValue,run_bind,wZ hi,h,run_pure]
theorem FH{off:Nat}{x:Value}{K:Value->Prop}(hT:(P.underlying T).isSome=true)(h:lF (sE P T) off (iY P T) x K):
  ∃cs,x=.agg cs/\uD P (part T cs off) K:=by
 cases x with
 |agg cs=>
  refine⟨cs,rfl,?_⟩;simp only[lF]at h;cases ha:sE P T with
  |true=>
   rw[ha]at h;exact⟨_,h,λw=>by simp[part,run_bind,tK hT,ha,fE (pS hT),run_pure]⟩
  |false=>
   rw[ha]at h;obtain⟨c,hc,hk⟩:=h;exact⟨c,hk,λw=>by simp[part,run_bind,tK hT,ha,hc,run_pure]⟩
 |_=>exact h.elim
theorem EJ{x:Option Value}{dflt lim:Nat}{K:Nat->Prop}(h:bdW x dflt lim K):
  ∃n,K n/\((x=none/\n=dflt)\/∃v,x=some v/\∀(code:BoundsCode) (w:World),(Instr.sliceBound v lim code).run P w=.ok n w):=by
 cases x with
 |none=>exact⟨dflt,h,.inl ⟨rfl,rfl⟩⟩
 |some v=>
  cases v<;>simp only[bdW]at h
  case int k i=>
   obtain⟨h0,h1,hk⟩:=h;exact⟨_,hk,.inr ⟨_,rfl,λcode w=>by simp[Instr.sliceBound,asIntOf,run_bind,run_pure,h0,h1]⟩⟩
theorem xQ{isSlice:Bool}{len cap:Nat}{lo hi mx:Option Value}{K:Nat->Nat->Nat->Prop}(hm:mx.isSome=true->hi.isSome=true)
  (h:bdW mx cap cap λm=>bdW hi len m λh=>bdW lo 0 h λl=>K l h m):
  ∃l h m,K l h m/\∀w,(Instr.sliceBounds isSlice len cap lo hi mx).run P w=.ok (l,h,m) w:=by
 obtain⟨m,h1,hm1⟩:=EJ (P:=P) h;obtain⟨hh,h2,hh1⟩:=EJ (P:=P) h1;obtain⟨l,h3,hl1⟩:=EJ (P:=P) h2;refine⟨l,hh,m,h3,λw=>?_⟩;rcases hm1 with⟨rfl,rfl⟩|⟨vm,rfl,rm⟩<;>rcases hh1 with⟨rfl,rfl⟩|⟨vh,rfl,rh⟩<;>rcases hl1 with⟨rfl,rfl⟩|⟨vl,rfl,rl⟩<;>
  first
   |(simp at hm;done)
   |simp[Instr.sliceBounds,run_bind,run_pure, *]
theorem wC{place:Nat->Option (Nat×Nat)}{f:Fr}{K:List Value->Prop}:∀(parts:List (Nat×Operand)) (l:List (Nat×Nat×Value)) (cells:List Value),
  rQ place f parts=some l->gJ cells l K->∃cs,K cs/\Instr.fill place cells.toArray (parts.map λp=>(p.1,ev f p.2))=some cs.toArray
 |[],l,cells,hp,h=>by
  simp only[rQ,bD]at hp
  subst hp
  exact⟨cells,h,rfl⟩
 |(i,x)::r,l,cells,hp,h=>by
  simp only[rQ]at hp
  cases hpl:place i with
  |none=>simp[hpl]at hp
  |some os=>
   obtain⟨off,size⟩:=os
   cases hr:rQ place f r with
   |none=>simp[hpl,hr]at hp
   |some l'=>
    simp only[hpl,hr,bD]at hp
    subst hp
    obtain⟨h1,h2,h3⟩:=h
    obtain⟨cs,hk,hf⟩:=wC r l' _ hr h3
    refine⟨cs,hk,?_⟩
    simp only[bS,Instr.fill,hpl]
    rw[aD (by simp[h1];omega)]
    rw[<-hf]
    congr 1
    have key:∀(vs:List Value) (k:Nat) (cs:List Value),off+k+vs.length<=cs.length->
      (vs.zipIdx k).foldl (λ(a:Array Value) (p:Value×Nat)=>a.setIfInBounds (off+p.2) p.1) cs.toArray=(cs.take (off+k)++(vs++cs.drop (off+k+vs.length))).toArray:=by
     intro vs;induction vs with
     |nil=>intro k cs _;simp
     |cons v vs ih=>
      intro k cs hle;simp only[aA]at hle;simp only[List.zipIdx_cons,List.foldl_cons];rw[List.setIfInBounds_toArray,ih (k+1) _ (by simp;omega)];congr 1;apply List.ext_getElem?;intro j;simp only[List.getElem?_append,cG,List.length_set,List.getElem?_take,List.getElem?_set,fU,aA,List.getElem?_cons]
      (repeat' split)<;>first
        |rfl
        |omega
        |(simp_all;done)
        |(congr 1;omega)
        |(rename_i h1 h2 h3;simp at h1;omega)
    have hk:=key (ev f x).cells.toList 0 cells (by simp;omega);simp only[gF]at hk;rw[<-h1];simp only[Array.length_toList]at hk;rw[<-hk,<-Array.foldl_toList];simp
def lC(P:Program)(s:Sem Next)(K:Value->Prop):Prop:=∃v,K v/\∀w,s.run P w=.ok (.value v) w
theorem lC.of1{s:Sem Value}{K:Value->Prop}(h:uD P s K):lC P (do pure (.value (<-s))) K:=by
 obtain⟨v,hk,hr⟩:=h;exact⟨v,hk,λw=>by rw[run_bind,hr];rfl⟩
theorem EI{α:Type}[BEq α][LawfulBEq α][DecidableEq α](a b:α):(a==b)=decide (a=b):=by
 by_cases h:a=b<;>simp[h]
theorem Kh{op:BinOp}{x y:Operand}{f:Fr}{K:Value->Prop}(h:aO op (ev f x) (ev f y) K):
  uD P (do eqGuard op T x y (ev f x) (ev f y);binOp op T (ev f x) (ev f y)) K:=by
 generalize ev f x=a at*
 generalize ev f y=b at*
 cases a<;>cases b<;>simp only[aO]at h<;>first|exact h.elim|skip
 case int.int k a k' b=>
  have hg:∀w,(eqGuard op T x y (.int k a) (.int k' b)).run P w=.ok () w:=λw=>by cases op<;>simp[eqGuard,run_pure]
  cases op<;>simp only at h
  case shl=>exact⟨_,h.2,λw=>by rw[run_bind,hg];simp[binOp,Op.shift,run_pure,Int.not_lt.2 h.1]⟩
  case shr=>exact⟨_,h.2,λw=>by rw[run_bind,hg];simp[binOp,Op.shift,run_pure,Int.not_lt.2 h.1]⟩
  case quo=>obtain⟨rfl,hb,hk⟩:=h;exact⟨_,hk,λw=>by rw[run_bind,hg];simp[binOp,Op.intDiv,run_pure,hb]⟩
  case rem=>obtain⟨rfl,hb,hk⟩:=h;exact⟨_,hk,λw=>by rw[run_bind,hg];simp[binOp,Op.intDiv,run_pure,hb]⟩
  case add=>obtain⟨rfl,hk⟩:=h;exact⟨_,hk,λw=>by rw[run_bind,hg];simp[binOp,Op.intArith,run_pure]⟩
  case sub=>obtain⟨rfl,hk⟩:=h;exact⟨_,hk,λw=>by rw[run_bind,hg];simp[binOp,Op.intArith,run_pure]⟩
  case mul=>obtain⟨rfl,hk⟩:=h;exact⟨_,hk,λw=>by rw[run_bind,hg];simp[binOp,Op.intArith,run_pure]⟩
  case and=>obtain⟨rfl,hk⟩:=h;exact⟨_,hk,λw=>by rw[run_bind,hg];simp only[binOp,Op.intBits,AX,not_true_eq_false,Cv];rfl⟩
  case or=>obtain⟨rfl,hk⟩:=h;exact⟨_,hk,λw=>by rw[run_bind,hg];simp only[binOp,Op.intBits,AX,not_true_eq_false,Cv];rfl⟩
  case xor=>obtain⟨rfl,hk⟩:=h;exact⟨_,hk,λw=>by rw[run_bind,hg];simp only[binOp,Op.intBits,AX,not_true_eq_false,Cv];rfl⟩
  case andNot=>obtain⟨rfl,hk⟩:=h;exact⟨_,hk,λw=>by rw[run_bind,hg];simp only[binOp,Op.intBits,AX,not_true_eq_false,Cv];rfl⟩
  case eql=>obtain⟨rfl,hk⟩:=h;exact⟨_,hk,λw=>by rw[run_bind,hg];simp[binOp,Op.intCmp,run_pure,EI]⟩
  case neq=>obtain⟨rfl,hk⟩:=h;exact⟨_,hk,λw=>by rw[run_bind,hg];simp[binOp,Op.intCmp,run_pure,bne,EI]⟩
  case lss=>obtain⟨rfl,hk⟩:=h;exact⟨_,hk,λw=>by rw[run_bind,hg];simp[binOp,Op.intCmp,run_pure]⟩
  case leq=>obtain⟨rfl,hk⟩:=h;exact⟨_,hk,λw=>by rw[run_bind,hg];simp[binOp,Op.intCmp,run_pure]⟩
  case gtr=>obtain⟨rfl,hk⟩:=h;exact⟨_,hk,λw=>by rw[run_bind,hg];simp[binOp,Op.intCmp,run_pure]⟩
  case geq=>obtain⟨rfl,hk⟩:=h;exact⟨_,hk,λw=>by rw[run_bind,hg];simp[binOp,Op.intCmp,run_pure]⟩
 case string.string a b=>
  have hg:∀w,(eqGuard op T x y (.string a) (.string b)).run P w=.ok () w:=λw=>by cases op<;>simp[eqGuard,run_pure]
  have he:(a.toList==b.toList)=decide (a.data.toList=b.data.toList):=by rw[ByteArray.toList_eq,ByteArray.toList_eq,EI]
  have hl:Op.bytesLess a.toList b.toList=Op.bytesLess a.data.toList b.data.toList:=by rw[ByteArray.toList_eq,ByteArray.toList_eq]
  cases op<;>simp only at h<;>first|exact h.elim|skip
  case add=>exact⟨_,h.2,λw=>by rw[run_bind,hg];simp only[binOp,Op.stringOp];rw[aD (by have:=h.1;omega)];rfl⟩
  case eql=>exact⟨_,h,λw=>by rw[run_bind,hg];simp only[binOp,Op.stringOp];rw[he];rfl⟩
  case neq=>exact⟨_,h,λw=>by rw[run_bind,hg];simp only[binOp,Op.stringOp];rw[he];simp[run_pure]⟩
  case lss=>exact⟨_,h,λw=>by rw[run_bind,hg];simp only[binOp,Op.stringOp];rw[hl];rfl⟩
  case leq=>exact⟨_,h,λw=>by rw[run_bind,hg];simp only[binOp,Op.stringOp];rw[he,hl];rfl⟩
  case gtr=>exact⟨_,h,λw=>by rw[run_bind,hg];simp only[binOp,Op.stringOp];rw[he,hl];rfl⟩
  case geq=>exact⟨_,h,λw=>by rw[run_bind,hg];simp only[binOp,Op.stringOp];rw[hl];rfl⟩
theorem JU{op:BinOp}{x y:Operand}{k:EqK}{n:Bool}{a b:Value}{K:Value->Prop}(h:eqW k n a b K)(w:World):
  (eqGuard op T x y a b).run P w=.ok () w:=by
 cases op<;>simp only[eqGuard]<;>first|rfl|(cases a<;>cases b<;>first|rfl|(cases k<;>exact h.elim))
theorem Ul{x y:Operand}{f:Fr}{d:TypeDesc}{k:EqK}{n:Bool}{K:Value->Prop}(hd:P.underlying T=some d)(hk:EqK.of d=some k)
  (h:eqW k n (ev f x) (ev f y) K):
  uD P (do eqGuard (bif n then .neq else .eql) T x y (ev f x) (ev f y);binOp (bif n then .neq else .eql) T (ev f x) (ev f y)) K:=by
 have hg:=λw=>JU (P:=P) (op:=(bif n then .neq else .eql)) (T:=T) (x:=x) (y:=y) h w;generalize ev f x=a at*
 generalize ev f y=b at*
 have key:∀(a b:Value) (r:Bool),(∀m w,(Op.equalIn (m+1) T a b).run P w=.ok r w)->
   (binOp .eql T a b=(do pure (.bool (<-Op.equal T a b))))->(binOp .neq T a b=(do pure (.bool (!(<-Op.equal T a b)))))->K (.bool (n^^r))->(∀w,(eqGuard (bif n then .neq else .eql) T x y a b).run P w=.ok () w)->
   uD P (do eqGuard (bif n then .neq else .eql) T x y a b;binOp (bif n then .neq else .eql) T a b) K:=by
  intro a b r h0 h1 h2 hK hg;have he:∀w,(Op.equal T a b).run P w=.ok r w:=λw=>h0 9999 w;refine⟨_,hK,λw=>?_⟩;rw[run_bind,hg];cases n
  ·simp only[jF,h1,run_bind,he,run_pure,Bool.false_bne]
  ·simp only[cY,h2,run_bind,he,run_pure,Bool.true_bne]
 have hu:=λw=>bE hd w;cases d<;>simp only[EqK.of,reduceCtorEq,bD]at hk<;>subst hk<;>unfold eqW at h<;>split at h<;>first
  |exact h.elim
  |(rename_i he _ _;cases he;done)
  |(rename_i he;cases he;done)
  |exact key _ _ _ (λm w=>by simp only[Op.equalIn,run_bind,hu];exact run_pure _ _ _) rfl rfl h hg
  |exact key _ _ true (λm w=>by simp[Op.equalIn,run_bind,hu,run_pure]) rfl rfl (by simpa using h) hg
  |exact key _ _ false (λm w=>by simp[Op.equalIn,run_bind,hu,run_pure]) rfl rfl (by simpa using h) hg
  |(rename_i he1 he2 he3;cases he1;done)
  |(simp_all;done)
theorem tY(f:Fr)(a:Array Operand):a.map (ev f)=(evl f a).toArray:=by apply Array.ext';simp[evl]
theorem Fj{fn:Fn}{a b:Array Value}:(Instr.makeFunc fn a b).run P w=.ok (.func fn a b) w:=rfl
theorem JZ{f:Fr}{parts:Array (Nat×Operand)}{K:Value->Prop}(h:HH P T f parts.toList K):
  uD P (Instr.build T (parts.map λ(i,x)=>(i,ev f x))) K:=by
 unfold HH at h;have hparts:(parts.map λ(i,x)=>(i,ev f x)).toList=parts.toList.map λp=>(p.1,ev f p.2):=by simp
 split at h
 ·rename_i fs z hd hz;split at h
  ·rename_i l hl
   replace h:=kQ.out h
   obtain⟨hall,hp⟩:=h;obtain⟨cs,hk,hf⟩:=wC _ _ _ hl hp;refine⟨_,hk,λw=>?_⟩;have hmap:∀w,(fs.mapM λg=>do pure (g.offset,<-sizeOf g.type):Sem (Array (Nat×Nat))).run P w=.ok (fs.map λg=>(g.offset,iY P g.type)) w:=by
    intro w;have:∀(l:List Field),(∀g∈l,(P.info? g.type).isSome=true)->∀w,(l.mapM λg=>do pure (g.offset,<-sizeOf g.type):Sem (List (Nat×Nat))).run P w=.ok (l.map λg=>(g.offset,iY P g.type)) w:=by
     intro l;induction l with
     |nil=>intro _ w;rfl
     |cons g l ih=>
      intro hg w;rw[List.mapM_cons];simp only[run_bind,fE (hg g (by simp)),run_pure,ih (λx hx=>hg x (by simp[hx])),bS]
    have hfs:=this fs.toList (λg hg=>wY.1 hall g (by simpa using hg)) w;rw[Array.mapM_eq_mapM_toList,<-bind_pure_comp,run_bind,hfs];show Result.ok _ _=_;congr 1;apply Array.ext';simp
   simp only[Instr.build,run_bind,vS hz,bE hd,hmap];rw[hparts];have hpl:(λ(i:Nat)=>(fs.map λ(g:Field)=>(g.offset,iY P g.type))[i]?)=GT P fs:=by
    funext i;rw[Array.getElem?_map];unfold GT;cases fs[i]?<;>rfl
   rw[hpl];simp only[Array.toArray_toList]at hf;rw[hf];rfl
  ·exact h.elim
 ·rename_i n e z hd hz;split at h
  ·rename_i l hl
   replace h:=kQ.out h
   obtain⟨hall,hp⟩:=h;obtain⟨cs,hk,hf⟩:=wC _ _ _ hl hp;refine⟨_,hk,λw=>?_⟩;simp only[Instr.build,run_bind,vS hz,bE hd,fE hall];rw[hparts];simp only[Array.toArray_toList]at hf;rw[hf];rfl
  ·exact h.elim
 ·exact h.elim
theorem Gf(s:ByteArray)(l h:Nat):s.extract l h=ofL ((s.data.toList.take h).drop l):=by
 apply ByteArray.ext;apply Array.ext';simp[ofL,ByteArray.extract,ByteArray.copySlice,List.drop_take]
theorem Jk{x:Value}{lo hi mx:Option Value}{K:Value->Prop}(h:GO P T x lo hi mx K):
  uD P (Instr.sliceAt T x lo hi mx) K:=by
 unfold GO at h;split at h
 ·rename_i hd
  replace h:=kQ.out h
  obtain⟨hm,h⟩:=h;cases mx with
  |some _=>cases hm
  |none=>
   cases x<;>simp only[mN]at h<;>try exact h.elim
   rename_i s;have h':bdW (none:Option Value) s.size s.size λm=>bdW hi s.size m λh=>bdW lo 0 h λl=>(λl h (_:Nat)=>K (.string (ofL ((s.data.toList.take h).drop l)))) l h m:=h;obtain⟨l,hh,m,hk,hr⟩:=xQ (P:=P) (isSlice:=false) (by simp) h';refine⟨_,hk,λw=>?_⟩;simp only[Instr.sliceAt,run_bind,bE hd,Instr.slice];simp[hr,run_bind,bE hd,run_pure];apply Gf
 ·rename_i e hd
  replace h:=kQ.out h
  obtain⟨hm,h⟩:=h
  replace h:=kQ.out h
  obtain⟨he,h⟩:=h
  replace hm:mx.isSome=true->hi.isSome=true:=λhx=>by rw[hx]at hm;simpa using hm
  cases x<;>simp only[Uv]at h<;>try exact h.elim
  rename_i a len cap;obtain⟨l,hh,m,hk,hr⟩:=xQ (P:=P) (isSlice:=true) (K:=λl h m=>K (.slice (if m=l then a else a.map (·.add (l*iY P e))) (h-l) (m-l))) hm h;refine⟨_,hk,λw=>?_⟩;simp only[Instr.sliceAt,run_bind,bE hd,Instr.slice];simp[hr,run_bind,bE hd,run_pure,fE he]
 ·rename_i n e hd
  replace h:=kQ.out h
  obtain⟨hm,h⟩:=h
  replace h:=kQ.out h
  obtain⟨he,h⟩:=h
  replace hm:mx.isSome=true->hi.isSome=true:=λhx=>by rw[hx]at hm;simpa using hm
  cases x<;>simp only[Uw]at h<;>try exact h.elim
  rename_i a;cases a with
  |none=>exact h.elim
  |some a=>
   obtain⟨l,hh,m,hk,hr⟩:=xQ (P:=P) (isSlice:=false) (K:=λl h m=>K (.slice (some (if m=l then a else a.add (l*iY P e))) (h-l) (m-l))) hm h;refine⟨_,hk,λw=>?_⟩;simp[Instr.sliceAt,Instr.sureAddr,run_bind,bE hd,hr,run_pure,fE he]
 ·exact h.elim
theorem By{f:Fr}{o:Oper}{K:Value->Prop}(h:Ij P f o.op K):lC P (execOp (ev f) o) K:=by
 obtain⟨dst,op,type,pos,after,guard⟩:=o;cases op<;>simp only[Ij]at h<;>try exact h.elim
 case move x=>exact⟨_,h,λw=>rfl⟩
 case assign x=>exact⟨_,h,λw=>rfl⟩
 case pick c a b=>
  simp only[execOp];generalize ev f c=cv at*
  cases cv<;>simp only[eG]at h<;>try exact h.elim
  rename_i t;exact⟨_,h,λw=>by cases t<;>rfl⟩
 case nilCheck x=>
  simp only[execOp];generalize ev f x=v at*
  cases v<;>simp only[dR]at h<;>try exact h.elim
  case pointer a=>cases a<;>first|exact h.elim|exact⟨_,h,λw=>rfl⟩
  case func fn _ _=>cases fn<;>first|exact h.elim|exact⟨_,h,λw=>rfl⟩
  case iface=>exact⟨_,h,λw=>rfl⟩
 case binOp op T x y yT=>
  simp only[execOp];refine lC.of1 ?_;unfold UP at h;cases hd:P.underlying T with
  |none=>
   rw[hd]at h;exact Kh (by cases op<;>exact h)
  |some d=>
   rw[hd]at h;cases hk:EqK.of d with
   |none=>simp only[hk]at h;exact Kh (by cases op<;>exact h)
   |some k=>
    simp only[hk]at h;cases op<;>first
     |exact Ul (n:=false) hd hk h
     |exact Ul (n:=true) hd hk h
     |exact Kh h
 case unOp op T x=>
  simp only[execOp];refine lC.of1 ?_;generalize ev f x=v at*
  cases op<;>cases v<;>simp only[unW]at h<;>first
   |exact h.elim
   |exact⟨_,h,λw=>rfl⟩
 case convert s d x=>
  simp only[execOp];refine lC.of1 ?_;unfold QR at h;generalize ev f x=v at*
  split at h
  ·rename_i k1 k2 hs hd;cases v<;>simp only[wW]at h<;>try exact h.elim
   exact⟨_,h,λw=>by simp[convert,run_bind,bE hs,bE hd,Conv.intToInt,run_pure]⟩
  ·rename_i k1 hs hd;cases v<;>simp only[Pd]at h<;>try exact h.elim
   ·exact⟨_,h,λw=>by simp[convert,run_bind,bE hs,bE hd,Conv.intToString,run_pure]⟩
   ·exact⟨_,h,λw=>by simp[convert,run_bind,bE hs,bE hd,run_pure]⟩
  ·rename_i hs hd;cases v<;>simp only[Pd]at h<;>try exact h.elim
   ·exact⟨_,h,λw=>by simp[convert,run_bind,bE hs,bE hd,Conv.intToString,run_pure]⟩
   ·exact⟨_,h,λw=>by simp[convert,run_bind,bE hs,bE hd,run_pure]⟩
  ·exact h.elim
 case makeInterface T x=>
  simp only[execOp];refine lC.of1 ?_;cases hd:P.underlying T with
  |none=>rw[hd]at h;exact h.elim
  |some d=>
   rw[hd]at h;cases d<;>first
    |exact h.elim
    |exact⟨_,h,λw=>by simp[Instr.makeInterface,run_bind,bE hd,run_pure]⟩
 case makeFunc fn first cap=>
  simp only[execOp];refine lC.of1 ⟨_,h,λw=>by rw[Fj,tY,tY]⟩
 case field T x i=>
  simp only[execOp];refine lC.of1 ?_;split at h
  ·rename_i fs hd;split at h
   ·rename_i g hg
    replace h:=kQ.out h
    obtain⟨h1,h2⟩:=h;obtain⟨cs,hx,v,hk,hr⟩:=FH h1 h2;exact⟨v,hk,λw=>by simp[Instr.field,run_bind,bE hd,hg,hx,asAgg,run_pure,hr]⟩
   ·exact h.elim
  ·exact h.elim
 case fieldAddr T x i=>
  simp only[execOp];refine lC.of1 ?_;split at h
  ·rename_i fs hd;split at h
   ·rename_i g hg
    replace h:=kQ.out h
    obtain⟨h1,h2⟩:=h
    replace h1:iY P g.type≠0:=λhz=>by rw[hz]at h1;simp at h1
    generalize ev f x=v at*
    cases v<;>simp only[bA]at h2<;>try exact h2.elim
    rename_i a;cases a with
    |none=>exact h2.elim
    |some a=>
     have hinfo:(P.info? g.type).isSome=true:=by
      unfold iY at h1;cases hi:P.info? g.type with
      |none=>rw[hi]at h1;exact absurd rfl h1
      |some i=>rfl
     exact⟨_,h2,λw=>by simp[Instr.fieldAt,run_bind,bE hd,hg,Instr.sureAddr,run_pure,fieldPlace,fE hinfo,h1]⟩
   ·exact h.elim
  ·exact h.elim
 case indexAddr T x i=>
  simp only[execOp];refine lC.of1 ?_;unfold BV at h;generalize ev f x=v at*
  generalize ev f i=iv at*
  split at h
  ·rename_i e hd
   replace h:=kQ.out h
   obtain⟨he,h⟩:=h;unfold fO at h;split at h
   ·rename_i a n cap k j _;obtain⟨h0,h1,hk⟩:=h;exact⟨_,hk,λw=>by simp[Instr.indexAt,asIntOf,run_bind,bE hd,run_pure,h0,h1,fE he]⟩
   ·rename_i heq;cases heq
   ·exact h.elim
  ·rename_i n e hd
   replace h:=kQ.out h
   obtain⟨he,h⟩:=h;unfold fO at h;split at h
   ·rename_i heq;cases heq
   ·rename_i n' a k j heq;cases heq;obtain⟨h0,h1,hk⟩:=h;exact⟨_,hk,λw=>by simp[Instr.indexAt,asIntOf,run_bind,bE hd,run_pure,h0,h1,Instr.sureAddr,fE he]⟩
   ·exact h.elim
  ·exact h.elim
 case index T x i=>
  simp only[execOp];refine lC.of1 ?_;unfold LP at h;generalize ev f x=v at*
  generalize ev f i=iv at*
  split at h
  ·rename_i hd;unfold pH at h;split at h
   ·rename_i s k j;obtain⟨h0,b,hb,hk⟩:=h;have hb':s[j.toNat]?=some b:=by
     rw[<-hb];show(if h:j.toNat<s.size then some s[j.toNat]else none)=_;by_cases hlt:j.toNat<s.size
     ·rw[dif_pos hlt,aG (by simpa using hlt)];rfl
     ·rw[dif_neg hlt,cA (by simpa using hlt)]
    exact⟨_,hk,λw=>by simp[Instr.index,asIntOf,run_bind,bE hd,run_pure,h0,hb']⟩
   ·exact h.elim
  ·rename_i n e hd
   replace h:=kQ.out h
   obtain⟨he,h⟩:=h;cases iv<;>simp only[LJ]at h<;>try exact h.elim
   rename_i k j;obtain⟨h0,h1,hp⟩:=h;obtain⟨cs,hx,u,hk,hr⟩:=FH (P:=P) he hp;exact⟨u,hk,λw=>by simp[Instr.index,asIntOf,run_bind,bE hd,run_pure,hx,h0,h1,fE (pS he),hr]⟩
  ·exact h.elim
 case slice T x lo hi mx=>
  simp only[execOp];exact lC.of1 (Jk h)
 case extract t i=>
  simp only[execOp];refine lC.of1 ?_;generalize ev f t=v at*
  cases v<;>simp only[iX]at h<;>try exact h.elim
  split at h
  ·rename_i v hv;exact⟨_,h,λw=>by simp[Instr.extract,hv,run_pure]⟩
  ·exact h.elim
 case build T parts=>
  simp only[execOp];exact lC.of1 (JZ h)
 case call c=>
  obtain⟨callee,args,argTypes⟩:=c;cases callee<;>simp only at h<;>try exact h.elim
  rename_i b;have hargs:args.map (ev f)=(evl f args).toArray:=by rw[tY]
  simp only[execOp,resolve,hargs];generalize evl f args=az at*
  unfold CM at h;split at h
  ·rename_i x;split at h
   ·rename_i T hT;split at h
    ·rename_i hd;unfold iK at h;split at h
     ·exact⟨_,h,λw=>by simp[run_bind,run_pure,invoke,builtin,Builtin.len_,hT,bE hd,goInt]⟩
     ·exact h.elim
    ·rename_i e hd;unfold iB at h;split at h
     ·exact⟨_,h,λw=>by simp[run_bind,run_pure,invoke,builtin,Builtin.len_,hT,bE hd,goInt]⟩
     ·exact h.elim
    ·rename_i n e hd;exact⟨_,h,λw=>by simp[run_bind,run_pure,invoke,builtin,Builtin.len_,hT,bE hd,goInt]⟩
    ·exact h.elim
   ·exact h.elim
  ·rename_i x;split at h
   ·rename_i T hT;split at h
    ·rename_i e hd;unfold UQ at h;split at h
     ·exact⟨_,h,λw=>by simp[run_bind,run_pure,invoke,builtin,Builtin.cap_,hT,bE hd,goInt]⟩
     ·exact h.elim
    ·exact h.elim
   ·exact h.elim
  ·rename_i x y;unfold OE at h;split at h
   ·exact⟨_,h,λw=>by simp[run_bind,run_pure,invoke,builtin,Builtin.min_,Builtin.min2]⟩
   ·exact h.elim
  ·rename_i x y z;unfold QK at h;split at h
   ·exact⟨_,h,λw=>by simp[run_bind,run_pure,invoke,builtin,Builtin.min_,Builtin.min2]⟩
   ·exact h.elim
  ·rename_i x y;unfold SO at h;split at h
   ·exact⟨_,h,λw=>by simp[run_bind,run_pure,invoke,builtin,Builtin.max_,Builtin.max2]⟩
   ·exact h.elim
  ·exact h.elim
def isC:Operand->Bool
 |.const _=>true
 |_=>false
def Ax(c:Bool):Operand:=bif c then .const undef else .tmp 0
def eqQ(P:Program)(op:BinOp)(T:TypeId)(cx cy:Bool)(a b:Value)(w:World)(K:Value->Prop):Prop:=
 Bq P (do eqGuard op T (Ax cx) (Ax cy) a b;binOp op T a b) w K
def Bu(P:Program)(f:Fr)(o:Oper)(w:World)(K:Value->Prop):Prop:=
 match o.op with
 |.load T a=>kQ (P.underlying T).isSome (ldW (sE P T) (iY P T) (ev f a) w K)
 |.lookup T x i ok=>Bq P (Instr.lookup T (ev f x) (ev f i) ok) w K
 |.binOp op T x y _=>eqQ P op T (isC x) (isC y) (ev f x) (ev f y) w K
 |.convert s d x=>Bq P (convert s d (ev f x)) w K
 |.typeAssert x xT aT ok=>Bq P (Instr.typeAssert (ev f x) xT aT ok) w K
 |.entry it=>Bq P (Instr.entry (ev f it)) w K
 |.call {callee:=.builtin b,args,argTypes}=>(match b with
   |.len=>Bq P (Builtin.len_ argTypes o.type (evl f args).toArray) w K
   |_=>False)
 |_=>False
def isRead(P:Program):Op->Bool
 |.load ..|.lookup ..|.binOp ..|.typeAssert ..|.entry ..=>true
 |.convert s d _=>(match P.underlying s,P.underlying d with|some (.slice _),some .string=>true|_,_=>false)
 |.call {callee:=.builtin b,..}=>(match b with|.len=>true|_=>false)
 |_=>false
def nL(n:Nat)(z:List Value):List Value:=match n with|0=>[]|n+1=>z++nL n z
def AF(P:Program)(T:TypeId)(len:Nat)(f:Fr)(parts:List (Nat×Operand))(w:World)(K:Value->World->Prop):Prop:=
 match P.underlying T with
 |some (.slice e)=>(match Cy P e,rQ (λi=>some (i*iY P e,iY P e)) f parts with
   |some z,some l=>kQ (P.info? e).isSome (kQ (Nat.beq z.cells.size (iY P e)) (kQ (Nat.ble (len*iY P e) 1000) (fH e len (nL len z.cells.toList) l w K)))
   |_,_=>False)
 |_=>False
def Tl[HX](P:Program)(f:Fr)(o:Oper)(w:World)(K:Value->World->Prop):Prop:=
 match o.op with
 |.alloc T=>(match Cy P T with|some z=>cN T z.cells.toList w K|none=>False)
 |.box T x=>mR T (ev f x) w K
 |.buildSlice T n parts=>AF P T n f parts.toList w K
 |.store T a x=>kQ (P.info? T).isSome (stW (iY P T) (ev f a) (ev f x) w (K undef))
 |.mapUpdate T m k x|.insert T m k x=>RA P (Instr.mapUpdate T (ev f m) (ev f k) (ev f x)) w (K undef)
 |.makeMap T r=>fG P (Instr.makeMap T (r.map (ev f))) w K
 |.makeSlice T l c=>fG P (Instr.makeSlice T (ev f l) (ev f c)) w K
 |.range T x=>fG P (Instr.range T (ev f x)) w K
 |.next it s=>fG P (Instr.next (ev f it) s o.type) w K
 |.convert s d x=>fG P (convert s d (ev f x)) w K
 |.call {callee:=.value x,args,..}=>(match x with
   |.func g=>aI P g (evl f args) w K
   |_=>AE P (ev f x) (evl f args) w K)
 |.call {callee:=.invoke r m,args,..}=>RB P (callMethod (ev f r) m (evl f args).toArray) w K
 |.panic x=>Lb (ev f x) w
 |.call {callee:=.builtin b,args,argTypes}=>(match b with
   |.append=>fG P (Builtin.append_ argTypes o.type (evl f args).toArray) w K
   |.copy=>fG P (Builtin.copy_ argTypes o.type (evl f args).toArray) w K
   |.delete=>fG P (Builtin.delete_ argTypes o.type (evl f args).toArray) w K
   |.clear=>fG P (Builtin.clear_ argTypes o.type (evl f args).toArray) w K
   |.panic=>Lb ((evl f args).getD 0 undef) w
   |_=>False)
 |_=>False
def EK[HX](P:Program)(f:Fr)(o:Oper)(w:World)(K:Value->World->Prop):Prop:=
 match lW P o.op with
 |true=>Ij P f o.op (λv=>K v w)
 |false=>(match isRead P o.op with
  |true=>Bu P f o w (λv=>K v w)
  |false=>Tl P f o w K)
theorem CL{a:Addr}(h:w.cell? a=some v):(load a).run P w=.ok v w:=by
 simp[load,Sem.run,h]
theorem rU{P:Program}{a:Addr}{w:World}:∀(n i:Nat) (l:List Value) (acc:Array Value),iR w a i n=some l->
  (loadCellsFrom a i n acc).run P w=.ok (acc++l.toArray) w
 |0,i,l,acc,h=>by
  simp only[iR,bD]at h
  subst h
  simp[loadCellsFrom,run_pure]
 |n+1,i,l,acc,h=>by
  simp only[iR]at h
  cases hc:w.cell? (a.add i)with
  |none=>simp[hc]at h
  |some v=>
   cases hr:iR w a (i+1) n with
   |none=>simp[hc,hr]at h
   |some l'=>
    simp only[hc,hr,jN,bD]at h
    subst h
    simp only[loadCellsFrom,run_bind,CL hc,rU n (i+1) l' _ hr]
    simp
theorem LB{x:Value}{K:Value->Prop}(hT:(P.underlying T).isSome=true)(h:ldW (sE P T) (iY P T) x w K):
  ∃v,K v/\(Instr.loadAt T x).run P w=.ok v w:=by
 cases x<;>simp only[ldW]at h<;>try exact h.elim
 rename_i a;cases a with
 |none=>exact h.elim
 |some a=>
  simp only at h;cases ha:sE P T with
  |true=>
   rw[ha]at h;obtain⟨l,hl,hk⟩:=h;refine⟨_,hk,?_⟩;simp[Instr.loadAt,Instr.sureAddr,loadVar,run_bind,run_pure,tK hT,ha,fE (pS hT),loadCells,rU _ _ _ _ hl]
  |false=>
   rw[ha]at h;obtain⟨v,hv,hk⟩:=h;refine⟨_,hk,?_⟩;simp[Instr.loadAt,Instr.sureAddr,loadVar,run_bind,run_pure,tK hT,ha]
   first|exact CL hv|(rw[hv])
theorem Cw(op:BinOp)(T:TypeId)(x y:Operand)(a b:Value):eqGuard op T (Ax (isC x)) (Ax (isC y)) a b=eqGuard op T x y a b:=by
 cases x<;>cases y<;>rfl
theorem xJ{f:Fr}{o:Oper}{K:Value->Prop}(h:Bu P f o w K):
  ∃v,K v/\(execOp (ev f) o).run P w=.ok (.value v) w:=by
 have key:∀(s:Sem Value),(∃v,K v/\s.run P w=.ok v w)->∃v,K v/\(do pure (.value (<-s)):Sem Next).run P w=.ok (.value v) w:=by
  rintro s ⟨v,hk,hr⟩;exact⟨v,hk,by rw[run_bind,hr];rfl⟩
 have key2:∀(s:Sem Value),Bq P s w K->∃v,K v/\s.run P w=.ok v w:=λs ⟨v,hr,hk⟩=>⟨v,hk,hr⟩;obtain⟨dst,op,type,pos,after,guard⟩:=o;cases op<;>simp only[Bu]at h<;>try exact h.elim
 case load T a=>simp only[execOp];exact key _ (LB (kQ.out h).1 (kQ.out h).2)
 case lookup T x i ok=>simp only[execOp];exact key _ (key2 _ h)
 case binOp op T x y yT=>
  simp only[execOp];refine key _ (key2 _ ?_);unfold eqQ at h;rw[Cw]at h;exact h
 case convert s d x=>simp only[execOp];exact key _ (key2 _ h)
 case typeAssert x xT aT ok=>simp only[execOp];exact key _ (key2 _ h)
 case entry it=>simp only[execOp];exact key _ (key2 _ h)
 case call c=>
  obtain⟨callee,args,argTypes⟩:=c;cases callee<;>simp only at h<;>try exact h.elim
  rename_i b;cases b<;>simp only at h<;>try exact h.elim
  simp only[execOp,resolve,tY];obtain⟨v,hk,hr⟩:=key2 _ h;exact⟨v,hk,by simp[run_bind,run_pure,invoke,builtin,hr]⟩
theorem uT{P:Program}{a:Addr}{K:World->Prop}:∀(l:List Value) (i:Nat) (w:World),tI a l i w K->∃w',K w'/\(storeCells a l i).run P w=.ok () w'
 |[],i,w,h=>⟨w,h,rfl⟩
 |v::r,i,w,h=>by
  obtain⟨h1,h2,h3,h4⟩:=h
  obtain⟨w',hk,hr⟩:=uT (P:=P) r (i+1) _ h4
  refine⟨w',hk,?_⟩
  obtain⟨old,ho⟩:=Option.isSome_iff_exists.1 h2
  have hs:(store (a.add i) v).run P w=.ok () (w.setCell (a.add i) v):=by
   cases v<;>first
    |(simp[nK]at h1;done)
    |(simp[store,Sem.run,ho,h3];done)
  simp only[storeCells,run_bind,hs,hr]
theorem Rq{x:Value}{K:World->Prop}(hT:(P.info? T).isSome=true)(h:stW (iY P T) x v w K):
  ∃w',K w'/\(Instr.storeAt T x v).run P w=.ok () w':=by
 cases x<;>simp only[stW]at h<;>try exact h.elim
 rename_i a;cases a with
 |none=>exact h.elim
 |some a=>
  obtain⟨h1,h2⟩:=h;obtain⟨w',hk,hr⟩:=uT (P:=P) _ _ _ h2;refine⟨w',hk,?_⟩;simp[Instr.storeAt,Instr.sureAddr,storeVar,run_bind,run_pure,fE hT,h1,hr]
theorem Ct{z:Array Value}{size:Nat}(hz:z.size=size):∀len,((Array.range (len*size)).map (z[· %z.size]!))=(nL len z.toList).toArray:=by
 subst hz;have hlen:∀len,(nL len z.toList).length=len*z.size:=by
  intro len;induction len with
  |zero=>simp[nL]
  |succ n ih=>simp[nL,ih,Cq,lS]
 intro len;apply Array.ext (by simp[hlen]);intro i h1 h2;simp only[Array.getElem_map,Array.getElem_range,List.getElem_toArray];simp at h1;have:∀(len i:Nat) (h:i<(nL len z.toList).length),(nL len z.toList)[i]=z[i%z.size]!:=by
  intro len;induction len with
  |zero=>intro i h;simp[nL]at h
  |succ n ih=>
   intro i h;have hpos:0<z.size:=by
    rcases Nat.eq_zero_or_pos z.size with h0|h0
    ·rw[hlen,h0]at h;simp at h
    ·exact h0
   simp only[nL,List.getElem_append];split
   ·rename_i hi;have hi':i<z.size:=by simpa using hi
    rw[Nat.mod_eq_of_lt hi',getElem!_pos z i hi'];simp
   ·rename_i hi;have hi':z.size<=i:=by simpa using hi
    rw[ih];simp only[Array.length_toList];congr 1;rw[Nat.mod_eq_sub_mod hi']
 rw[this]
theorem JW[HX]{f:Fr}{o:Oper}(h:Tl P f o w K):Res P K ((execOp (ev f) o).run P w):=by
 have keyV:∀(s:Sem Value),fG P s w K->Res P K ((do pure (.value (<-s)):Sem Next).run P w):=by
  intro s hs;unfold fG at hs;rw[run_bind];cases hr:s.run P w with
  |ok v w'=>rw[hr]at hs;exact hs
  |halt x w'=>rw[hr]at hs;exact hs.elim
 have keyU:∀(s:Sem Unit),RA P s w (K undef)->Res P K ((do s;pure .skip:Sem Next).run P w):=by
  intro s hs;unfold RA at hs;rw[run_bind];cases hr:s.run P w with
  |ok v w'=>rw[hr]at hs;exact hs
  |halt x w'=>rw[hr]at hs;exact hs.elim
 have keyP:∀(x:Value),Lb x w->Res P K ((do pure (.value (<-Instr.panic x)):Sem Next).run P w):=by
  intro x hs;unfold Lb at hs;split at hs
  ·exact hs
  ·exact hs.elim
 obtain⟨dst,op,type,pos,after,guard⟩:=o;cases op<;>simp only[Tl]at h<;>try exact h.elim
 case alloc T=>
  cases hz:Cy P T with
  |none=>rw[hz]at h;exact h.elim
  |some z=>
   rw[hz]at h;simp only[execOp];have hr:(Instr.alloc T true (.tuple #[])).run P w=.ok (.pointer (some ⟨w.heap.size,0,none⟩)) (w.alloc (.cells z.cells T)):=by
    simp[Instr.alloc,run_bind,vS hz,newVar,newRow,newObj,Sem.run,run_pure]
   rw[run_bind,hr];exact h
 case box T x=>
  simp only[execOp];have hr:(Instr.box T (ev f x)).run P w=.ok (.pointer (some ⟨w.heap.size,0,none⟩)) (w.alloc (.cells (ev f x).cells T)):=by
   simp[Instr.box,run_bind,newVar,newRow,newObj,Sem.run,run_pure]
  rw[run_bind,hr];exact h
 case buildSlice T n parts=>
  simp only[execOp];unfold AF at h;split at h
  ·rename_i e hd;split at h
   ·rename_i z l hz hl
    replace h:=kQ.out h
    obtain⟨h1,h⟩:=h
    replace h:=kQ.out h
    obtain⟨h2,h⟩:=h
    replace h:=kQ.out h
    obtain⟨h3,h4⟩:=h
    replace h2:=gC h2
    replace h3:=hY h3
    unfold fH at h4;obtain⟨cs,hk,hf⟩:=wC _ _ _ hl h4;have hparts:(parts.map λ(i,x)=>(i,ev f x)).toList=parts.toList.map λp=>(p.1,ev f p.2):=by simp
    have hr:(Instr.buildSlice T n (parts.map λ(i,x)=>(i,ev f x))).run P w=.ok (.slice (some ⟨w.heap.size,0,none⟩) n n) (w.alloc (.cells cs.toArray e)):=by
     simp only[Instr.buildSlice,run_bind,bE hd,fE h1];rw[aD (by omega)];have hcells:=Ct (z:=z.cells) h2 n;by_cases h0:n*iY P e=0
     ·rw[aF h0];simp only[run_bind,run_pure];have hc:((Array.range (n*iY P e)).map ((#[]:Array Value)[· %(#[]:Array Value).size]!))=(nL n z.cells.toList).toArray:=by
       rw[<-hcells,h0];simp[show Array.range 0=#[]from rfl]
      rw[hc,hparts,hf];simp[run_bind,newRow,newObj,Sem.run,run_pure]
     ·rw[aD h0];simp only[run_bind,run_pure,vS hz];rw[hcells,hparts,hf];simp[run_bind,newRow,newObj,Sem.run,run_pure]
    rw[run_bind,hr];exact hk
   ·exact h.elim
  ·exact h.elim
 case store T a x=>
  simp only[execOp];obtain⟨w',hk,hr⟩:=Rq (kQ.out h).1 (kQ.out h).2;rw[run_bind,hr];exact hk
 case mapUpdate T m k x=>simp only[execOp];exact keyU _ h
 case insert T m k x=>simp only[execOp];exact keyU _ h
 case makeMap T r=>simp only[execOp];exact keyV _ h
 case makeSlice T l c=>simp only[execOp];exact keyV _ h
 case range T x=>simp only[execOp];exact keyV _ h
 case next it s=>simp only[execOp];exact keyV _ h
 case panic x=>
  simp only[execOp];exact keyP _ h
 case convert s d x=>simp only[execOp];exact keyV _ h
 case call c=>
  obtain⟨callee,args,argTypes⟩:=c;cases callee with
  |value x=>
   simp only[execOp,resolve,tY];cases x<;>simp only at h
   case func g=>
    unfold aI at h;have:(do let d<-(Deferred.ofValue (ev f (.func g)) (evl f args).toArray);invoke d.target d.args:Sem Next)=callFunc g (evl f args).toArray:=by
     show callFunc g (#[]++(evl f args).toArray++#[])=_;simp
    rw[this];exact h
   all_goals exact h
  |invoke r m=>
   simp only at h;simp only[execOp,resolve,tY];have:(do let d<-(pure {target:=.fn (.method m) #[],args:=#[ev f r]++(evl f args).toArray}:Sem Deferred);invoke d.target d.args:Sem Next)=callMethod (ev f r) m (evl f args).toArray:=by
    show invoke (.fn (.method m) #[]) (#[ev f r]++(evl f args).toArray)=_;simp[invoke]
   rw[this];exact h
  |builtin b=>
   simp only[execOp,resolve,tY];cases b<;>simp only at h<;>first
    |exact h.elim
    |exact keyV _ h
    |(have e:(evl f args).getD 0 undef=(evl f args).toArray.getD 0 .nilIface:=by
       cases hl:evl f args with
       |nil=>rw[hl]at h;exact h.elim
       |cons a r=>rfl
      rw[e]at h;exact keyP _ h)
theorem DC[HX]{f:Fr}{o:Oper}(h:EK P f o w K):Res P K ((execOp (ev f) o).run P w):=by
 unfold EK at h;cases hp:lW P o.op with
 |true=>
  rw[hp]at h;simp only at h;obtain⟨v,hk,hr⟩:=By (o:=o) h;rw[hr];exact hk
 |false=>
  rw[hp]at h;simp only at h;cases hq:isRead P o.op with
  |true=>
   rw[hq]at h;simp only at h;obtain⟨v,hk,hr⟩:=xJ (o:=o) h;rw[hr];exact hk
  |false=>
   rw[hq]at h;exact JW h
def mX:List Nat->Nat->Bool
 |[],_=>false
 |x::r,i=>bif Nat.beq x i then true else mX r i
theorem hD{l:List Nat}:mX l i=true↔i∈l:=by
 induction l with
 |nil=>simp[mX]
 |cons x r ih=>
  simp only[mX,bC];cases h:Nat.beq x i with
  |true=>simp[gC h]
  |false=>
   have:¬i=x:=λe=>by subst e;simp at h
   simp[this,ih]
def isB(v:Value)(want:Bool):Bool:=match v with|.bool b=>b==want|_=>false
def pP(ops:List Oper)(g:Nat):Option Nat:=match ops[g]? with|some o=>o.dst|none=>none
def yv(ops:List Oper)(f:Fr)(g:Nat)(want:Bool):Bool:=match pP ops g with|some d=>isB (f d) want|none=>false
def jW(ops:List Oper)(f:Fr)(o:Oper):Bool:=match o.guard with|none=>true|some (g,want)=>yv ops f g want
def Ag(n:Nat)(D:List Deferred)(f:Fr)(a:Act):Prop:=a.defers=D/\a.tmps.size=n/\∀t,a.tmps.getD t undef=f t
theorem QP{f:Fr}{a:Act}{x:Operand}(h:∀t,x=.tmp t->a.tmps.getD t undef=f t):a.eval x=ev f x:=by
 cases x<;>first|rfl|exact h _ rfl
theorem vH{D:List Deferred}{f:Fr}{a:Act}(h:Ag n D f a):a.eval=ev f:=funext λ_=>QP λt _=>h.2.2 t
theorem Cz{ops:List Oper}{f:Fr}{a:Act}{o:Oper}(h:∀g want d,o.guard=some (g,want)->pP ops g=some d->a.tmps.getD d undef=f d):
  Region.wanted o (yielded ops.toArray a.tmps)=jW ops f o:=by
 unfold Region.wanted jW;cases hg:o.guard with
 |none=>rfl
 |some gw=>
  obtain⟨g,want⟩:=gw;have hy:yielded ops.toArray a.tmps g=match pP ops g with|some d=>(match f d with|.bool b=>some b|_=>none)|none=>none:=by
   unfold yielded;have h':=h g want;unfold pP at*
   simp only[eJ];cases hx:ops[g]? with
   |none=>rfl
   |some o'=>
    rw[hx]at h';cases hd:o'.dst with
    |none=>simp[hd]
    |some d=>
     have hfd:=h' d hg hd;simp only[Option.bind_some,hd];rw[<-hfd];rcases mZ d a.tmps.size with hlt|hge
     ·have e1:a.tmps[d]?=some a.tmps[d]:=by simp[hlt]
      have e2:a.tmps.getD d undef=a.tmps[d]:=by simp[hlt]
      rw[e1,e2];generalize a.tmps[d]=x;cases x<;>rfl
     ·simp[Array.getElem?_eq_none hge,undef,Array.getD,Nat.not_lt.2 hge]
  simp only[yv,hy];cases hd:pP ops g with
  |none=>simp
  |some d=>simp only[isB];cases f d<;>simp
theorem Bw(a:Act)(d:Option Nat)(v:Value):(a.put d v).tmps.size=a.tmps.size:=by cases d<;>simp[Act.put]
theorem put_defers(a:Act)(d:Option Nat)(v:Value):(a.put d v).defers=a.defers:=by cases d<;>rfl
theorem Eg(a:Act)(d:Nat)(v:Value)(t:Nat)(hd:d<a.tmps.size):(a.put (some d) v).tmps.getD t undef=if t=d then v else a.tmps.getD t undef:=by
 simp only[Act.put,gG,Array.getElem?_setIfInBounds];by_cases h:t=d
 ·subst h;simp[hd]
 ·rw[aD h,aD (uH h)]
theorem mL(f:Fr)(d:Nat)(v:Value)(t:Nat):upd f (some d) v t=if t=d then v else f t:=by
 simp only[upd];by_cases h:t=d
 ·subst h;simp
 ·have:Nat.beq t d=false:=by
   cases hb:Nat.beq t d with
   |false=>rfl
   |true=>exact absurd (gC hb) h
  simp[this,h]
theorem Ag.put{D:List Deferred}{f:Fr}{a:Act}{d:Option Nat}(h:Ag n D f a)(hd:∀t,d=some t->t<n)(v:Value):Ag n D (upd f d v) (a.put d v):=by
 refine⟨by rw[put_defers];exact h.1,by rw[Bw];exact h.2.1,λt=>?_⟩;cases d with
 |none=>exact h.2.2 t
 |some d=>rw[Eg _ _ _ _ (by rw[h.2.1];exact hd d rfl),mL,h.2.2]
structure DE where
 fl:List Nat
 anc:List (List Nat)
def fQ(o:Oper):List Nat:=(o.after.toList.filter (Region.binds .any)).map (·.on)
def allIn(done:List Nat):List Nat->Bool
 |[]=>true
 |x::r=>bif mX done x then allIn done r else false
theorem wU{done l:List Nat}:allIn done l=true↔∀x∈l,x∈done:=by
 induction l with
 |nil=>simp[allIn]
 |cons x r ih=>
  simp only[allIn,bC,forall_eq_or_imp];cases h:mX done x with
  |true=>simp[hD.1 h,ih]
  |false=>
   have:x∉done:=λe=>by simp[hD.2 e]at h
   simp[this]
def qX(ops:List Oper)(done:List Nat):List Nat->Option (Nat×Oper)
 |[]=>none
 |i::r=>bif mX done i then qX ops done r else
   (match ops[i]? with
    |some o=>bif allIn done (fQ o)then some (i,o)else qX ops done r
    |none=>qX ops done r)
def Al(ops:List Oper)(fl done:List Nat):Nat->List Oper->List (Nat×Oper)
 |_,[]=>[]
 |i,o::r=>bif (bif mX done i then false else(bif mX fl i then false else allIn done (fQ o)))then(i,o)::Al ops fl done (i+1) r else Al ops fl done (i+1) r
def Pu(P:Program)(f:Fr)(o:Oper)(w:World)(K:Value->Prop):Prop:=
 match lW P o.op with
 |true=>Ij P f o.op K
 |false=>Bu P f o w K
def GqW(c:Bool)(A:(Value->Prop)->Prop)(B:Value->Prop):Prop:=∃v,(c=true->A (λx=>x=v))/\(c=false->v=undef)/\B v
def GeW(c:Bool)(w:World)(A:(Value->World->Prop)->Prop)(B:Value->World->Prop):Prop:=(c=true->A B)/\(c=false->B undef w)
def qfW(P:Program)(ops:List Oper)(f:Fr)(o:Oper)(w:World)(K:Value->Prop):Prop:=
 match o.guard with
 |none=>Pu P f o w K
 |some (g,want)=>GqW (yv ops f g want) (Pu P f o w) K
def geW[HX](P:Program)(ops:List Oper)(f:Fr)(o:Oper)(w:World)(K:Value->World->Prop):Prop:=
 match o.guard with
 |none=>EK P f o w K
 |some (g,want)=>GeW (yv ops f g want) w (EK P f o w) K
def uF(P:Program)(ops:List Oper)(f:Fr)(w:World)(rest:Prop):List Nat->Prop
 |[]=>rest
 |i::r=>match ops[i]? with
  |some o=>(match o.dst with
   |some d=>(match lW P o.op with
    |true=>uF P ops f w rest r
    |false=>
     ((match o.guard with
       |none=>Bu P f o w (λx=>x=f d)
       |some (g,want)=>yv ops f g want=true->Bu P f o w (λx=>x=f d))/\uF P ops f w rest r))
   |none=>uF P ops f w rest r)
  |none=>uF P ops f w rest r
def uX(l:List Nat):List Nat->List Nat
 |[]=>[]
 |x::r=>bif mX l x then uX l r else x::uX l r
theorem Dc{l r:List Nat}{x:Nat}(h:x∈r)(hl:x∉l):x∈uX l r:=by
 induction r with
 |nil=>cases h
 |cons y r ih=>
  simp only[uX];rcases bC.1 h with rfl|h
  ·have:mX l x=false:=by
    cases hm:mX l x with
    |false=>rfl
    |true=>exact absurd (hD.1 hm) hl
   simp[this]
  ·cases hm:mX l y with
   |true=>exact ih h
   |false=>simp[ih h]
def Ut:Prop:=∀(_:HX) (P:Program) (ops:List Oper) (f:Fr) (o:Oper) (w:World) (K:Value->World->Prop),geW P ops f o w K->True
def Mj(p:Nat×Oper->Prop):List (Nat×Oper)->Prop
 |[]=>Ut
 |[x]=>p x
 |x::y::r=>p x/\Mj p (y::r)
theorem Ds{p:Nat×Oper->Prop}:∀{l:List (Nat×Oper)} {x},Mj p l->x∈l->p x
 |[],_,_,h=>by cases h
 |[y],x,h,hx=>by simp at hx;subst hx;exact h
 |y::z::r,x,h,hx=>by
  rcases bC.1 hx with rfl|hx
  ·exact h.1
  ·exact Ds h.2 hx
def sX[HX](P:Program)(ops:List Oper)(e:DE):Nat->List Nat->List Nat->Fr->World->(Fr->World->Prop)->Prop
 |0,_,_,_,_,_=>False
 |n+1,done,pend,f,w,K=>
  match qX ops done e.fl with
  |some (i,o)=>qfW P ops f o w λv=>sX P ops e n (i::done) (i::pend) (upd f o.dst v) w K
  |none=>match Al ops e.fl done 0 ops with
   |[]=>K f w
   |x::r=>Mj (λio=>geW P ops f io.2 w λv w'=>
     uF P ops (upd f io.2.dst v) w' (sX P ops e n (io.1::done) (uX (e.anc.getD io.1 []) pend) (upd f io.2.dst v) w' K) (uX (e.anc.getD io.1 []) pend)) (x::r)
def mK(ops:List Oper)(o:Oper):List Nat:=
 (o.op.operands.toList.filterMap λ|.tmp t=>some t|_=>none)++(match o.guard with|some (g,_)=>(pP ops g).toList|none=>[])
def Da(o:Oper):Bool:=match o.op with|.select ..=>false|_=>true
def QT(P:Program)(ops:List Oper)(e:DE)(i:Nat):Bool:=
 match ops[i]? with
 |some o=>(lW P o.op||isRead P o.op)&&
  (match o.dst with
   |some d=>(List.range ops.length).all λk=>match ops[k]? with
     |some ok=>(k==i||ok.dst !=some d)&&(!(mX (mK ops ok) d)||mX (e.anc.getD k []) i)&&
       (match ok.dst with
        |some dk=> !(mX (mK ops o) dk)||mX (e.anc.getD i []) k||(!(mX e.fl k)&&mX (e.anc.getD k []) i)
        |none=>true)
     |none=>true
   |none=>false)
 |none=>false
def QS(n:Nat)(ops:List Oper)(e:DE)(k:Nat):Bool:=
 match ops[k]? with
 |some o=>(match o.dst with|some d=>decide (d<n)|none=>true)&&Da o&&(fQ o).all (λx=>decide (x<k))&&
   (e.anc.getD k []).all (λx=>(fQ o).any λy=>x==y||mX (e.anc.getD y []) x)
 |none=>true
def pL(P:Program)(n:Nat)(ops:List Oper)(e:DE):Bool:=
 e.fl.all (QT P ops e)&&(List.range ops.length).all (QS n ops e)
section
variable{P:Program}{n:Nat}{ops:List Oper}{e:DE}
theorem pX(h:pL P n ops e=true){k:Nat}{o:Oper}(hk:ops[k]?=some o):
  (∀d,o.dst=some d->d<n)/\Da o=true/\(∀x∈fQ o,x<k)/\∀x∈e.anc.getD k [],∃y∈fQ o,x=y\/x∈e.anc.getD y []:=by
 simp only[pL,aZ,eR]at h;have hlt:k<ops.length:=by
  rcases mZ k ops.length with h'|h'
  ·exact h'
  ·rw[cA h']at hk;cases hk
 have:=h.2 k (dS.2 hlt);simp only[QS,hk,aZ,eR,List.any_eq_true,eB,fI,jE]at this;obtain⟨⟨⟨h1,h2⟩,h3⟩,h4⟩:=this;refine⟨λd hd=>by simpa[hd]using h1,h2,h3,λx hx=>?_⟩;obtain⟨y,hy,hxy⟩:=h4 x hx;exact⟨y,hy,hxy.imp id hD.1⟩
theorem Cj(h:pL P n ops e=true)(hi:i∈e.fl):∃o d,ops[i]?=some o/\o.dst=some d/\(lW P o.op=true\/isRead P o.op=true)/\
  ∀k ok,ops[k]?=some ok->(k≠i->ok.dst≠some d)/\(d∈mK ops ok->i∈e.anc.getD k [])/\
   ∀dk,ok.dst=some dk->dk∈mK ops o->k∈e.anc.getD i []\/(k∉e.fl/\i∈e.anc.getD k []):=by
 simp only[pL,aZ,eR]at h;have h1:=h.1 i hi;unfold QT at h1;cases ho:ops[i]? with
 |none=>simp[ho]at h1
 |some o=>
  simp only[ho]at h1;cases hd:o.dst with
  |none=>simp[hd]at h1
  |some d=>
   simp only[hd,aZ,eB,eR]at h1;refine⟨o,d,rfl,hd,h1.1,λk ok hk=>?_⟩;have hlt:k<ops.length:=by
    rcases mZ k ops.length with h'|h'
    ·exact h'
    ·rw[cA h']at hk;cases hk
   have h2:=h1.2 k (dS.2 hlt);simp only[hk,aZ,eB,fI,bne_iff_ne,gZ]at h2;obtain⟨⟨h3,h4⟩,h5⟩:=h2;refine⟨λhne=>h3.resolve_left hne,λhm=>?_,λdk hdk hm=>?_⟩
   ·rcases h4 with h4|h4
    ·rw[hD.2 hm]at h4;cases h4
    ·exact hD.1 h4
   ·simp only[hdk,aZ,eB,gZ]at h5;rcases h5 with(h5|h5)|⟨h5,h6⟩
    ·rw[hD.2 hm]at h5;cases h5
    ·exact .inl (hD.1 h5)
    ·exact .inr ⟨(λhk'=>by rw[hD.2 hk']at h5;cases h5),hD.1 h6⟩
theorem Cp(h:pL P n ops e=true){done:List Nat}(hc:∀k∈done,∀o,ops[k]?=some o->∀x∈fQ o,x∈done):
  ∀(k:Nat) (o:Oper),ops[k]?=some o->(∀x∈fQ o,x∈done)->∀x∈e.anc.getD k [],x∈done:=by
 intro k;induction k using Nat.strongRecOn with
 |_ k ih=>
  intro o ho hd x hx;obtain⟨_,_,h3,h4⟩:=pX h ho;obtain⟨y,hy,hxy⟩:=h4 x hx;rcases hxy with rfl|hxy
  ·exact hd x hy
  ·have hyd:=hd y hy;cases hoy:ops[y]? with
   |none=>
    rw[List.getElem?_eq_none_iff]at hoy;have hk:k<ops.length:=by
     rcases mZ k ops.length with h'|h'
     ·exact h'
     ·rw[cA h']at ho;cases ho
    have:=h3 y hy;omega
   |some oy=>exact ih y (h3 y hy) oy hoy (λz hz=>hc y hyd oy hoy z hz) x hxy
end
section
variable{P:Program}{n:Nat}{D:List Deferred}{ops:List Oper}{e:DE}
def YY(P:Program)(ops:List Oper)(f:Fr)(o:Oper)(d:Nat)(w:World):Prop:=
 (jW ops f o=true/\(execOp (ev f) o).run P w=.ok (.value (f d)) w)\/(jW ops f o=false/\f d=undef)
structure Inv(R:Fr->Prop)(P:Program)(n:Nat)(D:List Deferred)(ops:List Oper)(e:DE)(listed:Array Bool)(a:Act)(done pend:List Nat)(f:Fr)(w:World):Prop where
 fr:R f
 defers:a.defers=D
 size:a.tmps.size=n
 lsize:listed.size=ops.length
 l1:∀i:Nat,listed.getD i false=true->i∈done
 l2:∀i∈done,i<ops.length/\(listed.getD i false=false->i∈e.fl/\i∈pend)
 l3:∀t,(∀i∈done,listed.getD i false=false->pP ops i≠some t)->a.tmps.getD t undef=f t
 l4:∀i∈done,listed.getD i false=false->∀o d,ops[i]?=some o->o.dst=some d->YY P ops f o d w/\(lW P o.op=true->∀w',YY P ops f o d w')
 l5:∀i∈done,∀o,ops[i]?=some o->∀x∈fQ o,x∈done
 l6:∀i:Nat,listed.getD i false=true->∀o,ops[i]?=some o->∀x∈fQ o,listed.getD x false=true
theorem BJ{o:Oper}{t:Nat}(h:Operand.tmp t∈o.op.operands.toList):t∈mK ops o:=by
 unfold mK;exact dI _ (fT.2 ⟨.tmp t,h,rfl⟩)
theorem AA{o:Oper}{g:Nat}{want:Bool}{d:Nat}(hg:o.guard=some (g,want))(hd:pP ops g=some d):d∈mK ops o:=by
 unfold mK;refine bV _ ?_;simp[hg,hd]
theorem Hj{o:Oper}(h:Da o=true):∀cs b,o.op≠.select cs b:=by
 intro cs b he;simp[Da,he]at h
theorem Aj{o:Oper}(hs:Da o=true){ρ ρ':Operand->Value}(h:∀x∈o.op.operands.toList,ρ x=ρ' x):execOp ρ o=execOp ρ' o:=
 execOp_congr o (Hj hs) (λx hx=>h x (by simpa using hx))
theorem II{f f':Fr}{x:Operand}(h:∀t,x=.tmp t->f t=f' t):ev f x=ev f' x:=by
 cases x<;>first|rfl|exact h _ rfl
theorem tD{f f':Fr}{o:Oper}(h:∀t∈mK ops o,f t=f' t):jW ops f o=jW ops f' o:=by
 unfold jW;cases hg:o.guard with
 |none=>rfl
 |some gw=>
  obtain⟨g,want⟩:=gw;simp only[yv];cases hd:pP ops g with
  |none=>rfl
  |some d=>simp only[h d (AA hg hd)]
theorem YY.same{f f':Fr}{o:Oper}{d:Nat}(hs:Da o=true)(h:∀t∈mK ops o,f t=f' t)(hd:f d=f' d)(hy:YY P ops f o d w):YY P ops f' o d w:=by
 unfold YY at*
 rw[<-tD h,<-hd];rw[<-Aj hs (ρ:=ev f) (ρ':=ev f') (λx hx=>II λt ht=>h t (BJ (ht▸hx)))];exact hy
theorem KR{f:Fr}{o:Oper}{K:Value->Prop}(hp:lW P o.op=true\/isRead P o.op=true)(h:qfW P ops f o w K):
  ∃v,K v/\((jW ops f o=true/\(execOp (ev f) o).run P w=.ok (.value v) w/\(lW P o.op=true->∀w',(execOp (ev f) o).run P w'=.ok (.value v) w'))\/(jW ops f o=false/\v=undef)):=by
 have key:∀K:Value->Prop,Pu P f o w K->∃v,K v/\(execOp (ev f) o).run P w=.ok (.value v) w/\(lW P o.op=true->∀w',(execOp (ev f) o).run P w'=.ok (.value v) w'):=by
  intro K h;unfold Pu at h;cases hp':lW P o.op with
  |true=>
   rw[hp']at h;obtain⟨v,hk,hr⟩:=By (o:=o) h;exact⟨v,hk,hr w,λ_=>hr⟩
  |false=>
   rw[hp']at h;obtain⟨v,hk,hr⟩:=xJ (o:=o) h;exact⟨v,hk,hr,λhh=>by cases hh⟩
 unfold qfW at h;unfold jW;cases hg:o.guard with
 |none=>
  simp only[hg]at h;obtain⟨v,hk,h1,h2⟩:=key K h;exact⟨v,hk,.inl ⟨rfl,h1,h2⟩⟩
 |some gw=>
  obtain⟨g,want⟩:=gw;simp only[hg]at h;obtain⟨v,ht,hf,hk⟩:=h;cases hc:yv ops f g want with
  |true=>
   obtain⟨v',rfl,h1,h2⟩:=key _ (ht hc);exact⟨v',hk,.inl ⟨hc,h1,h2⟩⟩
  |false=>exact⟨v,hk,.inr ⟨hc,hf hc⟩⟩
theorem uY{done:List Nat}:∀{l:List Nat} {i:Nat} {o:Oper},qX ops done l=some (i,o)->i∈l/\i∉done/\ops[i]?=some o/\∀x∈fQ o,x∈done
 |[],_,_,h=>by cases h
 |j::l,i,o,h=>by
  simp only[qX]at h
  cases hm:mX done j with
  |true=>rw[hm]at h;obtain⟨h1,h2⟩:=uY (l:=l) h;exact⟨aK _ h1,h2⟩
  |false=>
   rw[hm]at h
   simp only[jF]at h
   have rec_:qX ops done l=some (i,o)->i∈j::l/\i∉done/\ops[i]?=some o/\∀x∈fQ o,x∈done:=λh=>by
    obtain⟨h1,h2⟩:=uY (l:=l) h
    exact⟨aK _ h1,h2⟩
   cases ho:ops[j]? with
   |none=>rw[ho]at h;exact rec_ h
   |some o'=>
    rw[ho]at h
    simp only at h
    cases hall:allIn done (fQ o')with
    |true=>
     rw[hall]at h
     simp only[cY,bD,eY]at h
     obtain⟨rfl,rfl⟩:=h
     exact⟨aX,(λhd=>by rw[hD.2 hd]at hm;cases hm),ho,wU.1 hall⟩
    |false=>rw[hall]at h;exact rec_ h
theorem rT{done:List Nat}:∀{l:List Nat},qX ops done l=none->∀i∈l,i∉done->∀o,ops[i]?=some o->¬∀x∈fQ o,x∈done
 |[],_,_,hi,_,_,_,_=>by cases hi
 |j::l,h,i,hi,hd,o,ho,hall=>by
  simp only[qX]at h
  cases hm:mX done j with
  |true=>
   rw[hm]at h
   rcases bC.1 hi with rfl|hi
   ·exact hd (hD.1 hm)
   ·exact rT (l:=l) h i hi hd o ho hall
  |false=>
   rw[hm]at h
   simp only[jF]at h
   rcases bC.1 hi with rfl|hi
   ·rw[ho]at h
    simp[wU.2 hall]at h
   ·cases ho':ops[j]? with
    |none=>rw[ho']at h;exact rT (l:=l) h i hi hd o ho hall
    |some o'=>
     rw[ho']at h
     simp only at h
     cases hall':allIn done (fQ o')with
     |true=>rw[hall']at h;cases h
     |false=>rw[hall']at h;exact rT (l:=l) h i hi hd o ho hall
theorem FX{fl done:List Nat}:∀(l:List Oper) (k i:Nat) (o:Oper),l[i]?=some o->k+i∉done->k+i∉fl->(∀x∈fQ o,x∈done)->(k+i,o)∈Al ops fl done k l
 |[],_,i,o,h,_,_,_=>by simp at h
 |p::l,k,0,o,h,h1,h2,h3=>by
  simp only[dV,bD]at h
  subst h
  have e1:mX done k=false:=by
   cases hm:mX done k with
   |false=>rfl
   |true=>exact absurd (hD.1 hm) h1
  have e2:mX fl k=false:=by
   cases hm:mX fl k with
   |false=>rfl
   |true=>exact absurd (hD.1 hm) h2
  simp[Al,e1,e2,wU.2 h3]
 |p::l,k,i+1,o,h,h1,h2,h3=>by
  have h':l[i]?=some o:=by simpa using h
  have:=FX (fl:=fl) (done:=done) l (k+1) i o h' (by rwa[show k+1+i=k+(i+1)by omega]) (by rwa[show k+1+i=k+(i+1)by omega]) h3;rw[show k+1+i=k+(i+1)by omega]at this;simp only[Al];generalize (bif mX done k then false else bif mX fl k then false else allIn done (fQ p))=b;cases b
  ·exact this
  ·exact aK _ this
theorem Gi{fl done:List Nat}:∀(l:List Oper) (k:Nat) (io:Nat×Oper),io∈Al ops fl done k l->k<=io.1/\l[io.1-k]?=some io.2/\io.1∉done/\io.1∉fl/\∀x∈fQ io.2,x∈done
 |[],_,_,h=>by cases h
 |p::l,k,io,h=>by
  simp only[Al]at h
  have tail:io∈Al ops fl done (k+1) l->k<=io.1/\(p::l)[io.1-k]?=some io.2/\io.1∉done/\io.1∉fl/\∀x∈fQ io.2,x∈done:=by
   intro h;obtain⟨h1,h2,h3⟩:=Gi l (k+1) io h;refine⟨by omega,?_,h3⟩;rw[show io.1-k=(io.1-(k+1))+1 by omega];simpa using h2
  cases hm:mX done k with
  |true=>rw[hm]at h;exact tail h
  |false=>
   cases hf:mX fl k with
   |true=>rw[hm,hf]at h;exact tail h
   |false=>
    cases ha:allIn done (fQ p)with
    |false=>rw[hm,hf,ha]at h;exact tail h
    |true=>
     rw[hm,hf,ha]at h;simp only[jF,cY]at h;rcases bC.1 h with rfl|h
     ·refine⟨aL _,by simp,(λhd=>by rw[hD.2 hd]at hm;cases hm),(λhd=>by rw[hD.2 hd]at hf;cases hf),wU.1 ha⟩
     ·exact tail h
theorem sL{f:Fr}{w:World}{R:Prop}:∀{l:List Nat},uF P ops f w R l->R
 |[],h=>h
 |i::l,h=>by
  unfold uF at h
  split at h
  ·split at h
   ·cases hp:lW P _<;>rw[hp]at h
    ·exact sL (l:=l) h.2
    ·exact sL (l:=l) h
   ·exact sL (l:=l) h
  ·exact sL (l:=l) h
theorem uU{f:Fr}{w:World}{R:Prop}:∀{l:List Nat},uF P ops f w R l->∀i∈l,∀o d,ops[i]?=some o->o.dst=some d->lW P o.op=false->jW ops f o=true->
  Bu P f o w (λx=>x=f d)
 |[],_,_,hi,_,_,_,_,_,_=>by cases hi
 |j::l,h,i,hi,o,d,ho,hd,hp,hw=>by
  rcases bC.1 hi with rfl|hi
  ·unfold uF at h
   simp only[ho,hd,hp]at h
   unfold jW at hw
   cases hg:o.guard with
   |none=>simp only[hg]at h;exact h.1
   |some gw=>
    obtain⟨g,want⟩:=gw
    simp only[hg]at h hw
    exact h.1 hw
  ·unfold uF at h
   split at h
   ·split at h
    ·cases hp':lW P _<;>rw[hp']at h
     ·exact uU (l:=l) h.2 i hi o d ho hd hp hw
     ·exact uU (l:=l) h i hi o d ho hd hp hw
    ·exact uU (l:=l) h i hi o d ho hd hp hw
   ·exact uU (l:=l) h i hi o d ho hd hp hw
end
section
variable{R:Fr->Prop}{P:Program}{n:Nat}{D:List Deferred}{ops:List Oper}{e:DE}
theorem FU:∀(N:Nat) (l:List Nat),l.Nodup->(∀i∈l,i<N)->l.length<=N
 |0,[],_,_=>aL _
 |0,x::_,_,h=>by have:=h x aX;omega
 |N+1,l,hnd,h=>by
  have h1:(l.erase N).length<=N:=FU N (l.erase N) (hnd.erase N) λi hi=>by
   have h2:=h i (List.mem_of_mem_erase hi)
   have h3:i≠N:=λe=>by subst e;exact(List.Nodup.not_mem_erase hnd) hi
   omega
  have h4:=List.length_erase (a:=N) (l:=l)
  split at h4<;>omega
theorem lt_of_some{k:Nat}{o:Oper}(h:ops[k]?=some o):k<ops.length:=by
 rcases mZ k ops.length with h'|h'
 ·exact h'
 ·rw[cA h']at h;cases h
theorem tZ{k:Nat}{o:Oper}(h:ops[k]?=some o):pP ops k=o.dst:=by simp[pP,h]
theorem Inv.float(hR:∀f o v,o∈ops->R f->R (upd f o.dst v))(hc:pL P n ops e=true){listed:Array Bool}{a:Act}{done pend:List Nat}{f:Fr}(I:Inv R P n D ops e listed a done pend f w){o:Oper}(hi:i∈e.fl)(hd:i∉done)(ho:ops[i]?=some o)(hb:∀x∈fQ o,x∈done)
  (hv:(jW ops f o=true/\(execOp (ev f) o).run P w=.ok (.value v) w/\(lW P o.op=true->∀w',(execOp (ev f) o).run P w'=.ok (.value v) w'))\/(jW ops f o=false/\v=undef)):
  Inv R P n D ops e listed a (i::done) (i::pend) (upd f o.dst v) w:=by
 obtain⟨o',d,ho',hdst,hkind,hall⟩:=Cj hc hi;rw[ho]at ho';cases ho';have hself:d∉mK ops o:=λhm=>hd (Cp hc I.l5 i o ho hb i ((hall i o ho).2.1 hm));have hfd:∀t,t≠d->upd f o.dst v t=f t:=λt ht=>by rw[hdst,mL,aD ht]
 refine⟨hR _ _ _ (bW ho) I.fr,I.defers,I.size,I.lsize,λk hk=>aK _ (I.l1 k hk),?_,?_,?_,?_,I.l6⟩
 ·intro k hk;rcases bC.1 hk with rfl|hk
  ·exact⟨lt_of_some ho,λ_=>⟨hi,aX⟩⟩
  ·exact⟨(I.l2 k hk).1,λhl=>⟨((I.l2 k hk).2 hl).1,aK _ ((I.l2 k hk).2 hl).2⟩⟩
 ·intro t ht;have htd:t≠d:=λh=>by
   subst h;refine ht i aX ?_ (by rw[tZ ho,hdst]);cases hl:listed.getD i false with
   |false=>rfl
   |true=>exact absurd (I.l1 i hl) hd
  rw[hfd t htd];exact I.l3 t λk hk hl=>ht k (aK _ hk) hl
 ·intro k hk hl ok dk hok hdk;rcases bC.1 hk with rfl|hk
  ·rw[ho]at hok;cases hok;rw[hdst]at hdk;cases hdk;have hsame:∀t∈mK ops o,f t=upd f o.dst v t:=λt ht=>(hfd t (λh=>hself (h▸ht))).symm;have hval:upd f o.dst v d=v:=by rw[hdst,mL,aF rfl]
   have hsel:=(pX hc ho).2.1;have hex:execOp (ev f) o=execOp (ev (upd f o.dst v)) o:=Aj hsel (λx hx=>II λt ht=>hsame t (BJ (ht▸hx)));rcases hv with⟨h1,h2,h3⟩|⟨h1,h2⟩
   ·rw[hex]at h2 h3;rw[tD hsame]at h1;exact⟨.inl ⟨h1,by rw[hval];exact h2⟩,λhp w'=>.inl ⟨h1,by rw[hval];exact h3 hp w'⟩⟩
   ·rw[tD hsame]at h1;exact⟨.inr ⟨h1,by rw[hval];exact h2⟩,λ_ _=>.inr ⟨h1,by rw[hval];exact h2⟩⟩
  ·have hki:k≠i:=λh=>hd (h▸hk);have hdl:d∉mK ops ok:=λhm=>hd (Cp hc I.l5 k ok hok (I.l5 k hk ok hok) i ((hall k ok hok).2.1 hm));have hdd:dk≠d:=λh=>(hall k ok hok).1 hki (by rw[hdk,h]);have hsel:=(pX hc hok).2.1;have h4:=I.l4 k hk hl ok dk hok hdk;have hsame:∀t∈mK ops ok,f t=upd f o.dst v t:=λt ht=>(hfd t (λh=>hdl (h▸ht))).symm;exact⟨h4.1.same hsel hsame (hfd dk hdd).symm,λhp w'=>(h4.2 hp w').same hsel hsame (hfd dk hdd).symm⟩
 ·intro k hk ok hok x hx;rcases bC.1 hk with rfl|hk
  ·rw[ho]at hok;cases hok;exact aK _ (hb x hx)
  ·exact aK _ (I.l5 k hk ok hok x hx)
theorem Am[HX](hR:∀f o v,o∈ops->R f->R (upd f o.dst v))(hc:pL P n ops e=true){K:Fr->World->Prop}{listed:Array Bool}{a:Act}{w:World}:∀(m:Nat) (done pend:List Nat) (f:Fr),
  Inv R P n D ops e listed a done pend f w->sX P ops e m done pend f w K->
  ∃m' done' pend' f',Inv R P n D ops e listed a done' pend' f' w/\sX P ops e (m'+1) done' pend' f' w K/\qX ops done' e.fl=none
 |0,_,_,_,_,h=>by cases h
 |m+1,done,pend,f,I,h=>by
  cases hn:qX ops done e.fl with
  |none=>exact⟨m,done,pend,f,I,h,hn⟩
  |some io=>
   obtain⟨i,o⟩:=io
   simp only[sX,hn]at h
   obtain⟨h1,h2,h3,h4⟩:=uY hn
   obtain⟨o',d,ho',hdst,hkind,_⟩:=Cj hc h1
   rw[h3]at ho'
   cases ho'
   obtain⟨v,hk,hv⟩:=KR hkind h
   exact Am hR hc m _ _ _ (I.float hR hc h1 h2 h3 h4 hv) hk
theorem xM{listed:Array Bool}(hsz:listed.size=ops.length):i∈Region.ready .any ops.toArray listed↔
  ∃o,ops[i]?=some o/\listed.getD i false=false/\∀x∈fQ o,listed.getD x false=true:=by
 unfold Region.ready;simp only[lJ,dS,List.size_toArray,aZ,gZ,eJ];constructor
 ·rintro⟨h1,h2,h3⟩;have ho:ops[i]?=some ops[i]:=aG h1;rw[ho]at h3;simp only[jN,Option.getD_some,wY,eB,gZ]at h3;refine⟨_,ho,?_,λx hx=>?_⟩
  ·simp only[gG]at h2⊢;have:i<listed.size:=by rw[hsz];exact h1
   simpa[this]using h2
  ·simp only[fQ,eU,lJ,Array.mem_toList_iff]at hx;obtain⟨ed,⟨hm,hb⟩,rfl⟩:=hx;rcases h3 ed hm with h3|h3
   ·rw[hb]at h3;cases h3
   ·exact h3
 ·rintro⟨o,ho,h2,h3⟩;have h1:=lt_of_some ho;refine⟨h1,?_,?_⟩
  ·simp only[gG]at h2⊢;have:i<listed.size:=by rw[hsz];exact h1
   simpa[this]using h2
  ·rw[ho];simp only[jN,Option.getD_some,wY,eB,gZ];intro ed hm;cases hb:Region.binds .any ed with
   |false=>exact .inl rfl
   |true=>exact .inr (h3 _ (by simp only[fQ,eU,lJ,Array.mem_toList_iff];exact⟨ed,⟨hm,hb⟩,rfl⟩))
theorem lY(listed:Array Bool)(i k:Nat)(hi:i<listed.size):(listed.setIfInBounds i true).getD k false=(if k=i then true else listed.getD k false):=by
 simp only[gG,Array.getElem?_setIfInBounds];by_cases h:k=i
 ·subst h;simp[hi]
 ·rw[aD h,aD (uH h)]
theorem HE[HX](hR:∀f o v,o∈ops->R f->R (upd f o.dst v))(hc:pL P n ops e=true){Q:Exit->Act->World->Prop}{K:Fr->World->Prop}
  (hQ:∀f a w,Ag n D f a->R f->K f w->Q .normal a w)(hX:∀c f a w,a.defers=D->R f->(∀t,(∀o∈ops,o.dst≠some t)->a.tmps.getD t undef=f t)->HX.X c w->Q (.panic c) a w):∀(m:Nat) (listed:Array Bool) (a:Act) (done pend:List Nat) (f:Fr) (w:World) (k:Nat),
  Inv R P n D ops e listed a done pend f w->sX P ops e k done pend f w K->(∀l:List Nat,l.Nodup->(∀i∈l,i<ops.length/\listed.getD i false=false)->l.length<=m)->
  wpAny P .any ops.toArray Q m listed a w:=by
 have fin:∀(listed:Array Bool) (a:Act) (done pend:List Nat) (f:Fr) (w:World) (k:Nat),Inv R P n D ops e listed a done pend f w->sX P ops e k done pend f w K->
   (∀i,i<ops.length->listed.getD i false=true)->Q .normal a w:=by
  intro listed a done pend f w k I h hall;obtain⟨k',done',pend',f',I',h',hn⟩:=Am hR hc k done pend f I h;simp only[sX,hn]at h';have hag:Ag n D f' a:=⟨I'.defers,I'.size,λt=>I'.l3 t λi hi hl=>by
   have:=hall i (I'.l2 i hi).1;rw[this]at hl;cases hl⟩
  cases he:Al ops e.fl done' 0 ops with
  |nil=>rw[he]at h';exact hQ _ _ _ hag I'.fr h'
  |cons x r=>
   have hx:x∈Al ops e.fl done' 0 ops:=by rw[he];exact aX
   obtain⟨_,h2,h3,_⟩:=Gi ops 0 x hx;exact absurd (I'.l1 x.1 (hall x.1 (lt_of_some (by simpa using h2)))) h3
 have stop:∀(listed:Array Bool),listed.size=ops.length->Region.ready .any ops.toArray listed=[]->∀i,i<ops.length->listed.getD i false=true:=by
  intro listed hsz hr i;induction i using Nat.strongRecOn with
  |_ i ih=>
   intro hi;cases hl:listed.getD i false with
   |true=>rfl
   |false=>
    have ho:ops[i]?=some ops[i]:=aG hi;have:i∈Region.ready .any ops.toArray listed:=(xM hsz).2 ⟨_,ho,hl,λx hx=>by
     have:=(pX hc ho).2.2.1 x hx;exact ih x this (by omega)⟩
    rw[hr]at this;cases this
 intro m;induction m with
 |zero=>
  intro listed a done pend f w k I h hcount;have hall:∀i,i<ops.length->listed.getD i false=true:=λi hi=>by
   cases hl:listed.getD i false with
   |true=>rfl
   |false=>have:=hcount [i] (by simp) (by intro j hj;rw[aU.1 hj];exact⟨hi,hl⟩);simp at this
  refine⟨?_,fin _ _ _ _ _ _ _ I h hall⟩;cases hr:Region.ready .any ops.toArray listed with
  |nil=>rfl
  |cons i r=>
   have:i∈Region.ready .any ops.toArray listed:=by rw[hr];exact aX
   obtain⟨o,ho,hl,_⟩:=(xM I.lsize).1 this;rw[hall i (lt_of_some ho)]at hl;cases hl
 |succ m ih=>
  intro listed a done pend f w k I h hcount;refine⟨λhr=>fin _ _ _ _ _ _ _ I h (stop listed I.lsize hr),λi hi=>?_⟩;obtain⟨o,ho,hl,hb⟩:=(xM I.lsize).1 hi;have hilt:=lt_of_some ho;have hils:i<listed.size:=by rw[I.lsize];exact hilt
  obtain⟨k',done',pend',f',I',h',hn⟩:=Am hR hc k done pend f I h;clear I h;have hagree:∀t∈mK ops o,a.tmps.getD t undef=f' t:=λt ht=>I'.l3 t λj hj hlj hdj=>by
   obtain⟨hjf,_⟩:=(I'.l2 j hj).2 hlj;obtain⟨oj,dj,hoj,hdst,_,hall⟩:=Cj hc hjf;rw[tZ hoj,hdst]at hdj;cases hdj;have hanc:=(hall i o ho).2.1 ht;have hlist:∀x∈e.anc.getD i [],listed.getD x false=true:=by
    have:=Cp hc (done:=(List.range ops.length).filter λx=>listed.getD x false) (λx hx ox hox y hy=>by
     simp only[lJ,dS]at hx⊢;exact⟨by have:=(pX hc hox).2.2.1 y hy;omega,I'.l6 x hx.2 ox hox y hy⟩) i o ho (λx hx=>by
     simp only[lJ,dS];exact⟨by have:=(pX hc ho).2.2.1 x hx;omega,hb x hx⟩)
    intro x hx;have:=this x hx;simp only[lJ]at this;exact this.2
   rw[hlist j hanc]at hlj;cases hlj
  have hsel:=(pX hc ho).2.1;have hwant:Region.wanted o (yielded ops.toArray a.tmps)=jW ops f' o:=Cz λg want d hg hd=>hagree d (AA hg hd);have hexec:execOp a.eval o=execOp (ev f') o:=Aj hsel λx hx=>QP λt ht=>hagree t (BJ (ht▸hx));have hcount':∀l:List Nat,l.Nodup->(∀j∈l,j<ops.length/\(listed.setIfInBounds i true).getD j false=false)->l.length<=m:=by
   intro l hnd hl';have hil:i∉l:=λhm=>by
    have:=(hl' i hm).2;rw[lY _ _ _ hils,aF rfl]at this;cases this
   have:=hcount (i::l) (jO.2 ⟨hil,hnd⟩) (λj hj=>by
    rcases bC.1 hj with rfl|hj
    ·exact⟨hilt,hl⟩
    ·have hne:j≠i:=λh=>hil (h▸hj);have:=hl' j hj;rw[lY _ _ _ hils,aD hne]at this;exact this)
   simpa using this
  have hl6:∀j:Nat,(listed.setIfInBounds i true).getD j false=true->∀oj,ops[j]?=some oj->∀x∈fQ oj,(listed.setIfInBounds i true).getD x false=true:=by
   intro j hj oj hoj x hx;rw[lY _ _ _ hils];by_cases hxi:x=i
   ·rw[aF hxi]
   ·rw[aD hxi];rw[lY _ _ _ hils]at hj;by_cases hji:j=i
    ·subst hji;rw[ho]at hoj;cases hoj;exact hb x hx
    ·rw[aD hji]at hj;exact I'.l6 j hj oj hoj x hx
  by_cases hdone:i∈done'
  ·
   obtain⟨hif,_⟩:=(I'.l2 i hdone).2 hl;obtain⟨o',d,ho',hdst,_,hall⟩:=Cj hc hif;rw[ho]at ho';cases ho';have hdn:=(pX hc ho).1 d hdst;have hI:Inv R P n D ops e (listed.setIfInBounds i true) (a.put o.dst (f' d)) done' pend' f' w:=by
    refine⟨I'.fr,by rw[put_defers];exact I'.defers,by rw[Bw];exact I'.size,by simp[I'.lsize],?_,?_,?_,?_,I'.l5,hl6⟩
    ·intro j hj;rw[lY _ _ _ hils]at hj;by_cases hji:j=i
     ·subst hji;exact hdone
     ·rw[aD hji]at hj;exact I'.l1 j hj
    ·intro j hj;refine⟨(I'.l2 j hj).1,λhlj=>?_⟩;rw[lY _ _ _ hils]at hlj;by_cases hji:j=i
     ·rw[aF hji]at hlj;cases hlj
     ·rw[aD hji]at hlj;exact(I'.l2 j hj).2 hlj
    ·intro t ht;rw[hdst,Eg _ _ _ _ (by rw[I'.size];exact hdn)];by_cases htd:t=d
     ·rw[aF htd,htd]
     ·rw[aD htd];refine I'.l3 t λj hj hlj hdj=>?_;by_cases hji:j=i
      ·subst hji;rw[tZ ho,hdst]at hdj;cases hdj;exact htd rfl
      ·exact ht j hj (by rw[lY _ _ _ hils,aD hji];exact hlj) hdj
    ·intro j hj hlj;rw[lY _ _ _ hils]at hlj;by_cases hji:j=i
     ·rw[aF hji]at hlj;cases hlj
     ·rw[aD hji]at hlj;exact I'.l4 j hj hlj
   have hnext:=ih _ _ done' pend' f' w (k'+1) hI h' hcount';have hy:=(I'.l4 i hdone hl o d ho hdst).1;unfold wpOp;simp only[eJ,ho];rw[hwant];rcases hy with⟨h1,h2⟩|⟨h1,h2⟩
   ·rw[aF h1];refine .inl ?_;unfold Oper.wp;rw[hexec,h2];exact hnext
   ·rw[aD (by rw[h1];simp),<-h2];exact hnext
  ·
   have hbd:∀x∈fQ o,x∈done':=λx hx=>I'.l1 x (hb x hx);have hnf:i∉e.fl:=λhf=>rT hn i hf hdone o ho hbd;have hmem:(i,o)∈Al ops e.fl done' 0 ops:=by
    have:=FX (ops:=ops) (fl:=e.fl) (done:=done') ops 0 i o ho (by simpa using hdone) (by simpa using hnf) hbd;simpa using this
   simp only[sX,hn]at h';have hge:geW P ops f' o w λv w'=>uF P ops (upd f' o.dst v) w' (sX P ops e k' (i::done') (uX (e.anc.getD i []) pend') (upd f' o.dst v) w' K) (uX (e.anc.getD i []) pend'):=by
    cases he:Al ops e.fl done' 0 ops with
    |nil=>rw[he]at hmem;cases hmem
    |cons x r=>
     rw[he]at h' hmem;exact Ds h' hmem
   have hdn:=(pX hc ho).1;have hlanc:∀x∈e.anc.getD i [],listed.getD x false=true:=by
    have:=Cp hc (done:=(List.range ops.length).filter λx=>listed.getD x false) (λx hx ox hox y hy=>by
     simp only[lJ,dS]at hx⊢;exact⟨by have:=(pX hc hox).2.2.1 y hy;omega,I'.l6 x hx.2 ox hox y hy⟩) i o ho (λx hx=>by
     simp only[lJ,dS];exact⟨by have:=(pX hc ho).2.2.1 x hx;omega,hb x hx⟩)
    intro x hx;have:=this x hx;simp only[lJ]at this;exact this.2
   have cont:∀v w',uF P ops (upd f' o.dst v) w' (sX P ops e k' (i::done') (uX (e.anc.getD i []) pend') (upd f' o.dst v) w' K) (uX (e.anc.getD i []) pend')->
     wpAny P .any ops.toArray Q m (listed.setIfInBounds i true) (a.put o.dst v) w':=by
    intro v w' hst;refine ih _ _ (i::done') (uX (e.anc.getD i []) pend') (upd f' o.dst v) w' k' ?_ (sL hst) hcount';have hunl:∀j∈i::done',(listed.setIfInBounds i true).getD j false=false->j≠i/\j∈done'/\listed.getD j false=false:=by
     intro j hj hlj;rw[lY _ _ _ hils]at hlj;by_cases hji:j=i
     ·rw[aF hji]at hlj;cases hlj
     ·rw[aD hji]at hlj;exact⟨hji,(bC.1 hj).resolve_left hji,hlj⟩
    refine⟨hR _ _ _ (bW ho) I'.fr,by rw[put_defers];exact I'.defers,by rw[Bw];exact I'.size,by simp[I'.lsize],?_,?_,?_,?_,?_,hl6⟩
    ·intro j hj;rw[lY _ _ _ hils]at hj;by_cases hji:j=i
     ·subst hji;exact aX
     ·rw[aD hji]at hj;exact aK _ (I'.l1 j hj)
    ·intro j hj;refine⟨?_,λhlj=>?_⟩
     ·rcases bC.1 hj with rfl|hj
      ·exact hilt
      ·exact(I'.l2 j hj).1
     ·obtain⟨hji,hjd,hlj'⟩:=hunl j hj hlj;obtain⟨h1,h2⟩:=(I'.l2 j hjd).2 hlj';exact⟨h1,Dc h2 λhm=>by rw[hlanc j hm]at hlj';cases hlj'⟩
    ·intro t ht;have h3:∀(h:∀d,o.dst=some d->t≠d),a.tmps.getD t undef=f' t:=λh=>I'.l3 t λj hj hlj hdj=>by
      have hji:j≠i:=λh'=>hdone (h'▸hj);exact ht j (aK _ hj) (by rw[lY _ _ _ hils,aD hji];exact hlj) hdj
     cases hdst:o.dst with
     |none=>rw[hdst]at h3;exact h3 (λd hd=>by cases hd)
     |some d=>
      rw[Eg _ _ _ _ (by rw[I'.size];exact hdn d hdst),mL];by_cases htd:t=d
      ·rw[aF htd,aF htd]
      ·rw[aD htd,aD htd];exact h3 (λd' hd'=>by rw[hdst]at hd';cases hd';exact htd)
    ·intro j hj hlj oj dj hoj hdj;obtain⟨hji,hjd,hlj'⟩:=hunl j hj hlj;obtain⟨hjf,hjp⟩:=(I'.l2 j hjd).2 hlj';obtain⟨oj',dj',hoj',hdj',hkind,hall⟩:=Cj hc hjf;rw[hoj]at hoj';cases hoj';rw[hdj]at hdj';cases hdj';have hselj:=(pX hc hoj).2.1;have hanc:j∉e.anc.getD i []:=λhm=>by rw[hlanc j hm]at hlj';cases hlj'
     have hfree:∀t,(t∈mK ops oj\/t=dj)->f' t=upd f' o.dst v t:=by
      intro t ht;cases hdst:o.dst with
      |none=>rfl
      |some d=>
       rw[mL];by_cases htd:t=d
       ·exfalso;subst htd;rcases ht with ht|ht
        ·rcases(hall i o ho).2.2 t hdst ht with h1|⟨_,h1⟩
         ·exact hdone (Cp hc I'.l5 j oj hoj (I'.l5 j hjd oj hoj) i h1)
         ·exact hanc h1
        ·exact(hall i o ho).1 (uH hji) (by rw[hdst,ht])
       ·rw[aD htd]
     obtain⟨hy1,hy2⟩:=I'.l4 j hjd hlj' oj dj hoj hdj;have hpure:lW P oj.op=true->∀w',YY P ops (upd f' o.dst v) oj dj w':=λhp w'=>(hy2 hp w').same hselj (λt ht=>hfree t (.inl ht)) (hfree dj (.inr rfl));refine⟨?_,hpure⟩;cases hp:lW P oj.op with
     |true=>exact hpure hp w'
     |false=>
      cases hwj:jW ops (upd f' o.dst v) oj with
      |true=>
       have:=uU hst j (Dc hjp hanc) oj dj hoj hdj hp hwj;obtain⟨x,rfl,hr⟩:=xJ this;exact .inl ⟨hwj,hr⟩
      |false=>
       refine .inr ⟨hwj,?_⟩;have hw0:jW ops f' oj=false:=by rw[tD (λt ht=>hfree t (.inl ht))];exact hwj
       rcases hy1 with⟨h1,_⟩|⟨_,h1⟩
       ·rw[hw0]at h1;cases h1
       ·rw[<-hfree dj (.inr rfl)];exact h1
    ·intro j hj oj hoj x hx;rcases bC.1 hj with rfl|hj
     ·rw[ho]at hoj;cases hoj;exact aK _ (hbd x hx)
     ·exact aK _ (I'.l5 j hj oj hoj x hx)
   unfold wpOp;simp only[eJ,ho];rw[hwant];unfold geW at hge;unfold jW;have hxa:∀c w,HX.X c w->Q (.panic c) a w:=λc w hx=>hX c f' a w I'.defers I'.fr (λt ht=>I'.l3 t λj hj _ hdj=>by
    obtain⟨oj,hoj⟩:∃oj,ops[j]?=some oj:=⟨_,aG (I'.l2 j hj).1⟩;rw[tZ hoj]at hdj;exact ht oj (bW hoj) hdj) hx
   have act:∀{K':Value->World->Prop},(∀v w',K' v w'->wpAny P .any ops.toArray Q m (listed.setIfInBounds i true) (a.put o.dst v) w')->EK P f' o w K'->
     o.wp P a w (wpAny P .any ops.toArray Q m (listed.setIfInBounds i true)) Q:=by
    intro K' hk ha;unfold Oper.wp;rw[hexec];exact(DC ha).upon hk hxa
   cases hg:o.guard with
   |none=>
    simp only[hg]at hge;exact .inl (act cont hge)
   |some gw=>
    obtain⟨g,want⟩:=gw;simp only[hg]at hge;obtain⟨h1,h2⟩:=hge;cases hcv:yv ops f' g want with
    |true=>simp only[hcv,gY];exact .inl (act cont (h1 hcv))
    |false=>simp only[hcv,uJ,Cv];exact cont _ _ (h2 hcv)
theorem Ft[HX]{id:Nat}(hR:∀f o v,o∈ops->R f->R (upd f o.dst v))(hm:P.follows .mixedOrders=true)(hc:pL P n ops e=true){Q:Exit->Act->World->Prop}{K:Fr->World->Prop}{f:Fr}{a:Act}{k:Nat}
  (hQ:∀f a w,Ag n D f a->R f->K f w->Q .normal a w)(hX:∀c f a w,a.defers=D->R f->(∀t,(∀o∈ops,o.dst≠some t)->a.tmps.getD t undef=f t)->HX.X c w->Q (.panic c) a w)(ha:Ag n D f a)(hf:R f)(h:sX P ops e k [] [] f w.drew K):(Code.region id ops.toArray true).wp P Q a w:=by
 refine wp_region_any hm ?_;have hfalse:∀i:Nat,(Array.replicate ops.length false).getD i false=false:=λi=>by
  simp only[gG,Array.getElem?_replicate];split<;>rfl
 refine HE hR hc hQ hX _ _ a [] [] f _ k ⟨hf,ha.1,ha.2.1,by simp,?_,?_,?_,?_,?_,?_⟩ h ?_
 ·intro i hi;rw[show ops.toArray.size=ops.length from by simp,hfalse]at hi;cases hi
 ·intro i hi;cases hi
 ·intro t _;exact ha.2.2 t
 ·intro i hi;cases hi
 ·intro i hi;cases hi
 ·intro i hi;rw[show ops.toArray.size=ops.length from by simp,hfalse]at hi;cases hi
 ·intro l hnd hl;have:l.length<=ops.length:=by
   exact FU _ l hnd λi hi=>(hl i hi).1
  simpa using this
end
structure PE where
 C:List Nat
 V:List Nat
 lo:Nat
structure dP where
 js:List (Nat×PE)
 ds:List (Nat×DE)
def lk{α:Type}:List (Nat×α)->Nat->Option α
 |[],_=>none
 |(k,e)::r,i=>bif Nat.beq k i then some e else lk r i
def inS(V:List Nat)(lo t:Nat):Bool:=bif Nat.ble lo t then true else mX V t
def ovl:List Nat->Nat->List Value->Fr->Fr
 |[],_,_,f=>f
 |c::C,k,s,f=>λj=>bif Nat.beq j c then s.getD k undef else ovl C (k+1) s f j
def ovf(e:PE)(f:Fr)(s:List Value)(g:Fr):Fr:=ovl e.C 0 s (λj=>bif inS e.V e.lo j then g j else f j)
def cK(A:(List Value->World->Prop)->Prop)(B:List Value->Fr->World->Prop):Prop:=
 ∃J:List Value->World->Prop,A J/\∀s g w,J s w->B s g w
def GdW(c:Bool)(u:List Value)(w:World)(A:(List Value->World->Prop)->Prop)(B:List Value->Fr->World->Prop):Prop:=
 ∃J:List Value->World->Prop,(c=true->A J)/\(c=false->J u w)/\∀s g w',J s w'->B s g w'
def dD(s0:List Value)(w0:World)(B:List Value->Fr->World->(List Value->World->Prop)->Prop):Prop:=
 ∃(I:List Value->World->Prop) (μ:List Value->World->Nat),I s0 w0/\∀s g w,I s w->B s g w (λs' w'=>I s' w'/\μ s' w'<μ s w)
def aS(v:Value)(A B:Prop):Prop:=match v with|.bool t=>(t=true->A)/\(t=false->B)|_=>False
def gEq:Option (Nat×Bool)->Nat->Bool->Bool
 |some (g',w'),g,w=>bif Nat.beq g g' then w==w' else false
 |none,_,_=>false
def xD(g:Nat)(want:Bool):List Oper->List Oper
 |[]=>[]
 |o::r=>bif gEq o.guard g want then o::xD g want r else []
def zW(g:Nat)(want:Bool):List Oper->List Oper
 |[]=>[]
 |o::r=>bif gEq o.guard g want then zW g want r else o::r
def SK[HX](P:Program):List Oper->Fr->World->(Fr->World->Prop)->Prop
 |[],f,w,K=>K f w
 |o::r,f,w,K=>EK P f o w λv w'=>SK P r (upd f o.dst v) w' K
def Bj:List Oper->Fr->Fr
 |[],f=>f
 |o::r,f=>Bj r (upd f o.dst undef)
def LX(i k:Nat):Nat:=i*1000+k
def Lm[HX](P:Program)(pl:dP)(i:Nat)(ops:List Oper):Nat->List Oper->Fr->World->(Fr->World->Prop)->Prop
 |0,_,_,_,_=>False
 |_+1,[],f,w,K=>K f w
 |n+1,o::r,f,w,K=>
  match o.guard with
  |none=>EK P f o w λv w'=>Lm P pl i ops n r (upd f o.dst v) w' K
  |some (g,want)=>
   match lk pl.js (LX i (o::r).length)with
   |some e=>GdW (yv ops f g want) (e.C.map (Bj (xD g want (o::r)) f)) w (λJ=>SK P (xD g want (o::r)) f w λf' w'=>J (e.C.map f') w')
     λs h w'=>Lm P pl i ops n (zW g want (o::r)) (ovf e f s h) w' K
   |none=>False
def rS:Code->Nat
 |.seq a b=>rS a+rS b+1
 |.cond _ a b=>rS a+rS b+1
 |.block _ b=>rS b+1
 |.loop b=>rS b+1
 |.scope b=>rS b+1
 |_=>1
def nG[HX](P:Program)(pl:dP):Code->Nat->Fr->World->(Fr->World->Prop)->(Nat->Fr->World->Prop)->(Fr->World->Prop)->Prop
 |.skip,_,f,w,kn,_,_=>kn f w
 |.label _,_,f,w,kn,_,_=>kn f w
 |.region _ ops draw,i,f,w,kn,_,_=>
  bif draw then(match lk pl.ds i with|some e=>sX P ops.toList e (ops.toList.length+1) [] [] f w.drew kn|none=>False)
  else Lm P pl i ops.toList (ops.toList.length+1) ops.toList f w kn
 |.seq a b,i,f,w,kn,kx,kr=>
  match lk pl.js i with
  |none=>nG P pl a (i+1) f w (λf' w'=>nG P pl b (i+1+rS a) f' w' kn kx kr) kx kr
  |some e=>cK (λJ=>nG P pl a (i+1) f w (λf' w'=>J (e.C.map f') w') kx kr) λs g w'=>nG P pl b (i+1+rS a) (ovf e f s g) w' kn kx kr
 |.cond c a b,i,f,w,kn,kx,kr=>aS (ev f c) (nG P pl a (i+1) f w kn kx kr) (nG P pl b (i+1+rS a) f w kn kx kr)
 |.block id b,i,f,w,kn,kx,kr=>nG P pl b (i+1) f w kn (λj f' w'=>bif Nat.beq j id then kn f' w' else kx j f' w') kr
 |.loop b,i,f,w,_,kx,kr=>
  match lk pl.js i with
  |none=>False
  |some e=>dD (e.C.map f) w λs g w' again=>nG P pl b (i+1) (ovf e f s g) w' (λf' w''=>again (e.C.map f') w'') kx kr
 |.scope b,i,f,w,kn,kx,kr=>nG P pl b (i+1) f w kn kx kr
 |.exit id,_,f,w,_,kx,_=>kx id f w
 |.ret,_,f,w,_,_,kr=>kr f w
 |_,_,_,_,_,_,_=>False
def Gr(V:List Nat)(lo:Nat)(e:PE):Bool:=Nat.ble lo e.lo&&e.V.all (inS V lo)&&e.C.all (inS e.V e.lo)
def xE(V:List Nat)(lo:Nat)(o:Oper):Bool:=match o.dst with|some d=>inS V lo d|none=>true
def Gj(n:Nat)(o:Oper):Bool:=match o.dst with|some d=>Nat.blt d n|none=>true
def mF(pl:dP)(V:List Nat)(lo:Nat)(i:Nat)(ops:List Oper):List Oper->Bool
 |[]=>true
 |o::r=>(match o.guard with
  |none=>true
  |some (g,want)=>(match lk pl.js (LX i (o::r).length)with
   |some e=>Gr V lo e&&(xD g want (o::r)).all λx=>xE e.V e.lo x&&(match x.dst,pP ops g with|some d,some dg=> !(Nat.beq d dg)|_,_=>true)
   |none=>true))&&mF pl V lo i ops r
def chk(P:Program)(n:Nat)(pl:dP)(V:List Nat)(lo:Nat):Code->Nat->Bool
 |.region _ ops draw,i=>ops.toList.all (λo=>xE V lo o&&Gj n o)&&
  (bif draw then(match lk pl.ds i with|some e=>pL P n ops.toList e|none=>true)else mF pl V lo i ops.toList ops.toList)
 |.seq a b,i=>(match lk pl.js i with|none=>chk P n pl V lo a (i+1)|some e=>Gr V lo e&&chk P n pl e.V e.lo a (i+1))&&chk P n pl V lo b (i+1+rS a)
 |.cond _ a b,i=>chk P n pl V lo a (i+1)&&chk P n pl V lo b (i+1+rS a)
 |.block _ b,i=>chk P n pl V lo b (i+1)
 |.scope b,i=>chk P n pl V lo b (i+1)
 |.loop b,i=>(match lk pl.js i with|none=>true|some e=>Gr V lo e&&chk P n pl e.V e.lo b (i+1))
 |_,_=>true
def Same(V:List Nat)(lo:Nat)(f f':Fr):Prop:=∀t,inS V lo t=false->f' t=f t
theorem Same.refl(V:List Nat)(lo:Nat)(f:Fr):Same V lo f f:=λ_ _=>rfl
theorem Same.trans{V:List Nat}{lo:Nat}{f g h:Fr}(h1:Same V lo f g)(h2:Same V lo g h):Same V lo f h:=λt ht=>(h2 t ht).trans (h1 t ht)
theorem IB{V:List Nat}{lo t:Nat}:inS V lo t=true↔lo<=t\/t∈V:=by
 unfold inS;cases h:Nat.ble lo t with
 |true=>simp[hY h]
 |false=>
  have:¬lo<=t:=λhle=>by rw[Nat.ble_eq_true_of_le hle]at h;cases h
  simp[this,hD]
theorem An{V:List Nat}{lo:Nat}{e:PE}(h:Gr V lo e=true):(∀t,inS e.V e.lo t=true->inS V lo t=true)/\∀c∈e.C,inS e.V e.lo c=true:=by
 simp only[Gr,aZ,eR]at h;refine⟨λt ht=>?_,h.2⟩;rcases IB.1 ht with h1|h1
 ·exact IB.2 (.inl (bZ (hY h.1.1) h1))
 ·exact h.1.2 t h1
theorem Same.wider{V V':List Nat}{lo lo':Nat}{f f':Fr}(hs:∀t,inS V lo t=true->inS V' lo' t=true)(h:Same V lo f f'):Same V' lo' f f':=λt ht=>h t (by
 cases hi:inS V lo t with
 |false=>rfl
 |true=>rw[hs t hi]at ht;cases ht)
theorem Ip(f':Fr):∀(C:List Nat) (k:Nat) (s:List Value) (f:Fr) (t:Nat),(∀j,j<C.length->s.getD (k+j) undef=f' (C.getD j 0))->(t∉C->f t=f' t)->ovl C k s f t=f' t
 |[],_,_,_,_,_,h=>h (by simp)
 |c::C,k,s,f,t,hs,h=>by
  simp only[ovl]
  cases hb:Nat.beq t c with
  |true=>
   have:=hs 0 (by simp)
   simp only[cY]
   rw[gC hb]
   simpa using this
  |false=>
   simp only[jF]
   have hne:t≠c:=λe=>by subst e;simp at hb
   refine Ip f' C (k+1) s f t (λj hj=>?_) λhn=>h (by simp[hne,hn])
   have:=hs (j+1) (by simp;omega)
   rw[show k+1+j=k+(j+1)by omega,this]
   rfl
theorem yQ{e:PE}{f f':Fr}(h:Same e.V e.lo f f'):ovf e f (e.C.map f') f'=f':=by
 funext t;refine Ip f' e.C 0 _ _ t (λj hj=>?_) λ_=>?_
 ·simp[hj]
 ·cases hi:inS e.V e.lo t with
  |true=>simp[hi]
  |false=>simp[hi,h t hi]
theorem Same.upd{V:List Nat}{lo:Nat}{f:Fr}{o:Oper}(h:xE V lo o=true)(v:Value):Same V lo f (upd f o.dst v):=by
 intro t ht;unfold xE at h;cases hd:o.dst with
 |none=>rfl
 |some d=>
  rw[hd]at h;rw[mL,aD];intro e;subst e;have h:inS V lo t=true:=h;rw[h]at ht;cases ht
theorem Ch{o:Oper}(h:Gj n o=true):∀t,o.dst=some t->t<n:=by
 intro t ht;rw[Gj,ht]at h;exact hY h
theorem LZ{x:Option (Nat×Bool)}{g:Nat}{w:Bool}(h:gEq x g w=true):x=some (g,w):=by
 cases x with
 |none=>cases h
 |some p=>
  obtain⟨g',w'⟩:=p;simp only[gEq]at h;cases hb:Nat.beq g g' with
  |false=>rw[hb]at h;cases h
  |true=>
   rw[hb]at h;simp only[cY,fI]at h;rw[gC hb,h]
theorem Do(g:Nat)(want:Bool):∀l:List Oper,l=xD g want l++zW g want l/\∀o∈xD g want l,o.guard=some (g,want)
 |[]=>⟨rfl,by simp[xD]⟩
 |o::r=>by
  simp only[xD,zW]
  cases h:gEq o.guard g want with
  |false=>simp
  |true=>
   obtain⟨h1,h2⟩:=Do g want r
   refine⟨by simp only[cY,dC];rw[<-h1],λx hx=>?_⟩
   simp only[cY,bC]at hx
   rcases hx with rfl|hx
   ·exact LZ h
   ·exact h2 x hx
section
variable [HX]{P:Program}{n:Nat}{D:List Deferred}{ops:List Oper}{Q:Exit->Act->World->Prop}{V:List Nat}{lo:Nat}
def PX[HX](V:List Nat)(lo:Nat)(D:List Deferred)(Q:Exit->Act->World->Prop)(f:Fr):Prop:=
 ∀c a w,a.defers=D->(∀t,inS V lo t=false->a.tmps.getD t undef=f t)->HX.X c w->Q (.panic c) a w
theorem PX.same{f f':Fr}(h:PX V lo D Q f)(hs:Same V lo f f'):PX V lo D Q f':=λc a w hd ht hx=>h c a w hd (λt hn=>(ht t hn).trans (hs t hn)) hx
theorem PX.sub{V':List Nat}{lo':Nat}{f:Fr}(h:PX V lo D Q f)(hs:∀t,inS V' lo' t=true->inS V lo t=true):PX V' lo' D Q f:=λc a w hd ht hx=>h c a w hd (λt hn=>ht t (by
 cases hh:inS V' lo' t with
 |false=>rfl
 |true=>rw[hs t hh]at hn;cases hn)) hx
theorem PX.ag{f:Fr}{a:Act}(h:PX V lo D Q f)(hag:Ag n D f a):∀c w,HX.X c w->Q (.panic c) a w:=λc w hx=>h c a w hag.1 (λt _=>hag.2.2 t) hx
theorem xX{f:Fr}{a:Act}{o:Oper}(h:Ag n D f a):Region.wanted o (yielded ops.toArray a.tmps)=jW ops f o:=Cz λ_ _ d _ _=>h.2.2 d
theorem Ek{f:Fr}{a:Act}{o:Oper}{rest:List Oper}(hag:Ag n D f a)(hw:jW ops f o=true)(h:EK P f o w K)
  (hk:∀v w',K v w'->wpList P ops.toArray Q rest (a.put o.dst v) w')(hx:∀c w,HX.X c w->Q (.panic c) a w):wpList P ops.toArray Q (o::rest) a w:=by
 unfold wpList;rw[aF (by rw[xX hag];exact hw)];refine .inl ?_;unfold Oper.wp;rw[vH hag];exact(DC h).upon hk hx
theorem Oq{f:Fr}{a:Act}{o:Oper}{rest:List Oper}(hag:Ag n D f a)(hw:jW ops f o=false)
  (hk:wpList P ops.toArray Q rest (a.put o.dst undef) w):wpList P ops.toArray Q (o::rest) a w:=by
 unfold wpList;rw[aD (by rw[xX hag,hw];simp)];exact hk
theorem Kg{f:Fr}{g:Nat}{want:Bool}{o:Oper}(h:∀d dg,o.dst=some d->pP ops g=some dg->d≠dg):yv ops (upd f o.dst v) g want=yv ops f g want:=by
 unfold yv;cases hg:pP ops g with
 |none=>rfl
 |some dg=>
  cases hd:o.dst with
  |none=>rfl
  |some d=>simp only;rw[mL,aD (uH (h d dg hd hg))]
theorem BC{g:Nat}{want:Bool}:∀(grp rest:List Oper) (f:Fr) (a:Act) (w:World) (K:Fr->World->Prop),(∀o∈grp,o.guard=some (g,want))->
  (∀o∈grp,xE V lo o=true/\(∀t,o.dst=some t->t<n)/\∀d dg,o.dst=some d->pP ops g=some dg->d≠dg)->Ag n D f a->yv ops f g want=true->SK P grp f w K->
  (∀f' a' w',Ag n D f' a'->Same V lo f f'->K f' w'->wpList P ops.toArray Q rest a' w')->PX V lo D Q f->wpList P ops.toArray Q (grp++rest) a w
 |[],rest,f,a,w,K,_,_,hag,_,h,hk,_=>hk f a w hag (Same.refl _ _ _) h
 |o::grp,rest,f,a,w,K,hg,hd,hag,hy,h,hk,hX=>by
  obtain⟨h1,h2,h3⟩:=hd o aX
  refine Ek hag (by simp only[jW,hg o aX];exact hy) h (λv w' h'=>?_) (hX.ag hag)
  refine BC grp rest (upd f o.dst v) (a.put o.dst v) w' K (λx hx=>hg x (aK _ hx)) (λx hx=>hd x (aK _ hx)) (hag.put h2 v) (by rw[Kg h3];exact hy) h' ?_ (hX.same (Same.upd h1 v))
  exactλf' a' w'' hag' hs hK=>hk f' a' w'' hag' (Same.trans (Same.upd h1 v) hs) hK
theorem xZ{g:Nat}{want:Bool}:∀(grp rest:List Oper) (f:Fr) (a:Act) (w:World),(∀o∈grp,o.guard=some (g,want))->
  (∀o∈grp,xE V lo o=true/\(∀t,o.dst=some t->t<n)/\∀d dg,o.dst=some d->pP ops g=some dg->d≠dg)->Ag n D f a->yv ops f g want=false->
  (∀a',Ag n D (Bj grp f) a'->Same V lo f (Bj grp f)->wpList P ops.toArray Q rest a' w)->wpList P ops.toArray Q (grp++rest) a w
 |[],rest,f,a,w,_,_,hag,_,hk=>hk a hag (Same.refl _ _ _)
 |o::grp,rest,f,a,w,hg,hd,hag,hy,hk=>by
  obtain⟨h1,h2,h3⟩:=hd o aX
  refine Oq hag (by simp only[jW,hg o aX];exact hy) ?_
  refine xZ grp rest (upd f o.dst undef) (a.put o.dst undef) w (λx hx=>hg x (aK _ hx)) (λx hx=>hd x (aK _ hx)) (hag.put h2 undef) (by rw[Kg h3];exact hy) ?_
  exactλa' hag' hs=>hk a' hag' (Same.trans (Same.upd h1 undef) hs)
theorem vN{pl:dP}{i:Nat}:∀(x y:List Oper),mF pl V lo i ops (x++y)=true->mF pl V lo i ops y=true
 |[],_,h=>h
 |o::x,y,h=>by
  simp only[dC,mF,aZ]at h
  exact vN x y h.2
theorem tP{pl:dP}{i:Nat}{K:Fr->World->Prop}:∀(m:Nat) (l:List Oper) (f:Fr) (a:Act) (w:World),(∀o∈l,xE V lo o=true/\Gj n o=true)->mF pl V lo i ops l=true->
  Ag n D f a->Lm P pl i ops m l f w K->(∀f' a' w',Ag n D f' a'->Same V lo f f'->K f' w'->Q .normal a' w')->PX V lo D Q f->wpList P ops.toArray Q l a w
 |0,_,_,_,_,_,_,_,h,_,_=>by cases h
 |m+1,[],f,a,w,_,_,hag,h,hQ,_=>hQ f a w hag (Same.refl _ _ _) h
 |m+1,o::r,f,a,w,hd,hc,hag,h,hQ,hX=>by
  unfold Lm at h
  cases hg:o.guard with
  |none=>
   simp only[hg]at h
   have hd0:=hd o aX
   refine Ek hag (by simp[jW,hg]) h (λv w' h'=>?_) (hX.ag hag)
   simp only[mF,aZ]at hc
   refine tP m r _ _ w' (λx hx=>hd x (aK _ hx)) hc.2 (hag.put (Ch hd0.2) v) h' ?_ (hX.same (Same.upd hd0.1 v))
   exactλf' a' w'' hag' hs hK=>hQ f' a' w'' hag' (Same.trans (Same.upd hd0.1 v) hs) hK
  |some gw=>
   obtain⟨g,want⟩:=gw
   simp only[hg]at h
   cases he:lk pl.js (LX i (o::r).length)with
   |none=>simp only[he]at h
   |some e=>
    simp only[he]at h
    obtain⟨J,hT,hF,hB⟩:=h
    obtain⟨hsplit,hgs⟩:=Do g want (o::r)
    have hc0:=hc
    simp only[mF,hg,he,aZ,eR]at hc
    obtain⟨⟨hpe,hgrp⟩,hc2⟩:=hc
    obtain⟨hsub,hC⟩:=An hpe
    have hgd:∀x∈xD g want (o::r),xE e.V e.lo x=true/\(∀t,x.dst=some t->t<n)/\∀d dg,x.dst=some d->pP ops g=some dg->d≠dg:=by
     intro x hx;have h1:=hgrp x hx;refine⟨h1.1,Ch (hd x (by rw[hsplit];exact dI _ hx)).2,λd dg hxd hdg hne=>?_⟩;have h2:=h1.2;simp only[hxd,hdg,hne]at h2;simp at h2
    have hcr:mF pl V lo i ops (zW g want (o::r))=true:=by
     rw[hsplit]at hc0;exact vN _ _ hc0
    have hdr:∀x∈zW g want (o::r),xE V lo x=true/\Gj n x=true:=λx hx=>hd x (by rw[hsplit];exact bV _ hx);rw[hsplit];cases hy:yv ops f g want with
    |true=>
     refine BC (V:=e.V) (lo:=e.lo) _ _ f a w _ hgs hgd hag hy (hT hy) (λf' a' w' hag' hs hJ=>?_) (hX.sub hsub);have h':=hB _ f' _ hJ;simp only[yQ hs]at h';refine tP m _ f' a' w' hdr hcr hag' h' ?_ (hX.same (Same.wider hsub hs));exactλf'' a'' w'' hag'' hs' hK=>hQ f'' a'' w'' hag'' (Same.trans (Same.wider hsub hs) hs') hK
    |false=>
     refine xZ (V:=e.V) (lo:=e.lo) _ _ f a w hgs hgd hag hy λa' hag' hs=>?_;have h':=hB _ (Bj (xD g want (o::r)) f) _ (hF hy);simp only[yQ hs]at h';refine tP m _ _ a' w hdr hcr hag' h' ?_ (hX.same (Same.wider hsub hs));exactλf'' a'' w'' hag'' hs' hK=>hQ f'' a'' w'' hag'' (Same.trans (Same.wider hsub hs) hs') hK
end
section
variable [HX]{P:Program}{n:Nat}{D:List Deferred}{pl:dP}
theorem rZ(hm:P.follows .mixedOrders=true):∀(c:Code) (V:List Nat) (lo i:Nat) (f:Fr) (a:Act) (w:World) (kn:Fr->World->Prop) (kx:Nat->Fr->World->Prop) (kr:Fr->World->Prop) (Q:Exit->Act->World->Prop),
  chk P n pl V lo c i=true->Ag n D f a->nG P pl c i f w kn kx kr->
  (∀f' a' w',Ag n D f' a'->Same V lo f f'->kn f' w'->Q .normal a' w')->(∀j f' a' w',Ag n D f' a'->Same V lo f f'->kx j f' w'->Q (.exit j) a' w')->
  (∀f' a' w',Ag n D f' a'->Same V lo f f'->kr f' w'->Q .ret a' w')->PX V lo D Q f->c.wp P Q a w:=by
 intro c;induction c with
 |skip=>intro V lo i f a w kn kx kr Q _ hag h hn _ _ _;exact wp_skip (hn f a w hag (Same.refl _ _ _) h)
 |label l=>intro V lo i f a w kn kx kr Q _ hag h hn _ _ _;exact wp_label (hn f a w hag (Same.refl _ _ _) h)
 |exit id=>intro V lo i f a w kn kx kr Q _ hag h _ hx _ _;exact wp_exit (hx id f a w hag (Same.refl _ _ _) h)
 |ret=>intro V lo i f a w kn kx kr Q _ hag h _ _ hr _;exact wp_ret (hr f a w hag (Same.refl _ _ _) h)
 |goto l=>intro V lo i f a w kn kx kr Q _ _ h _ _ _ _;exact h.elim
 |refuse l=>intro V lo i f a w kn kx kr Q _ _ h _ _ _ _;exact h.elim
 |scope b ih=>
  intro V lo i f a w kn kx kr Q hc hag h hn hx hr hX;simp only[chk]at hc;simp only[nG]at h;refine wp_scope_straight ?_;exact ih V lo _ f a w kn kx kr _ hc hag h hn hx hr hX
 |rangeFunc f' ps az b=>intro V lo i f a w kn kx kr Q _ _ h _ _ _ _;exact h.elim
 |region id ops draw=>
  intro V lo i f a w kn kx kr Q hc hag h hn _ _ hX;simp only[chk,aZ,eR]at hc;simp only[nG]at h;cases draw with
  |false=>
   simp only[jF]at h hc;refine wp_region_list ?_;have:=tP (ops:=ops.toList) (Q:=Q) (n:=n) (V:=V) (lo:=lo) _ _ f a w hc.1 hc.2 hag h hn hX;simpa using this
  |true=>
   simp only[cY]at h hc;cases he:lk pl.ds i with
   |none=>simp only[he]at h
   |some e=>
    simp only[he]at h hc;have:=Ft (R:=Same V lo f) (id:=id) (Q:=Q) (K:=kn) (λf' o v ho hs=>Same.trans hs (Same.upd (hc.1 o ho).1 v)) hm hc.2
     (λf' a' w' hag' hs hk=>hn f' a' w' hag' hs hk) (λc f' a' w' hd hs ht hx=>hX c a' w' hd (λt hn=>(ht t λo ho he=>by
       have:=(hc.1 o ho).1;simp only[xE,he]at this;rw[this]at hn;cases hn).trans (hs t hn)) hx) hag (Same.refl _ _ _) h
    simpa using this
 |seq x y ihx ihy=>
  intro V lo i f a w kn kx kr Q hc hag h hn hx hr hX;simp only[chk,aZ]at hc;simp only[nG]at h;refine wp_seq ?_;cases he:lk pl.js i with
  |none=>
   simp only[he]at h hc;refine ihx V lo (i+1) f a w _ kx kr _ hc.1 hag h ?_ hx hr hX;intro f' a' w' hag' hs h';exact ihy V lo _ f' a' w' kn kx kr Q hc.2 hag' h' (λf'' a'' w'' hag'' hs' hk=>hn f'' a'' w'' hag'' (hs.trans hs') hk)
    (λj f'' a'' w'' hag'' hs' hk=>hx j f'' a'' w'' hag'' (hs.trans hs') hk) (λf'' a'' w'' hag'' hs' hk=>hr f'' a'' w'' hag'' (hs.trans hs') hk) (hX.same hs)
  |some e=>
   simp only[he,aZ]at h hc;obtain⟨hsub,hC⟩:=An hc.1.1;obtain⟨J,hA,hB⟩:=h;refine ihx e.V e.lo (i+1) f a w _ kx kr _ hc.1.2 hag hA ?_ (λj f' a' w' hag' hs hk=>hx j f' a' w' hag' (hs.wider hsub) hk) (λf' a' w' hag' hs hk=>hr f' a' w' hag' (hs.wider hsub) hk) (hX.sub hsub);intro f' a' w' hag' hs hJ;have h':=hB _ f' _ hJ;simp only[yQ hs]at h';have hs0:=hs.wider hsub;exact ihy V lo _ f' a' w' kn kx kr Q hc.2 hag' h' (λf'' a'' w'' hag'' hs' hk=>hn f'' a'' w'' hag'' (hs0.trans hs') hk)
    (λj f'' a'' w'' hag'' hs' hk=>hx j f'' a'' w'' hag'' (hs0.trans hs') hk) (λf'' a'' w'' hag'' hs' hk=>hr f'' a'' w'' hag'' (hs0.trans hs') hk) (hX.same hs0)
 |cond c x y ihx ihy=>
  intro V lo i f a w kn kx kr Q hc hag h hn hx hr hX;simp only[chk,aZ]at hc;simp only[nG]at h;have he:a.eval c=ev f c:=congrFun (vH hag) c;cases hv:ev f c<;>rw[hv]at h<;>simp only[aS]at h<;>try exact h.elim
  rename_i t;refine wp_cond_split (he.trans hv) (λht=>?_) (λht=>?_)
  ·exact ihx V lo _ f a w kn kx kr Q hc.1 hag (h.1 ht) hn hx hr hX
  ·exact ihy V lo _ f a w kn kx kr Q hc.2 hag (h.2 ht) hn hx hr hX
 |block id b ih=>
  intro V lo i f a w kn kx kr Q hc hag h hn hx hr hX;simp only[chk]at hc;simp only[nG]at h;refine wp_block ?_;refine ih V lo _ f a w kn _ kr _ hc hag h hn ?_ hr hX;intro j f' a' w' hag' hs hk;simp only[Exit.inBlock];cases hj:Nat.beq j id with
  |true=>
   rw[hj]at hk;rw[aF (gC hj)];exact hn f' a' w' hag' hs hk
  |false=>
   rw[hj]at hk;rw[aD (λe=>by subst e;simp at hj)];exact hx j f' a' w' hag' hs hk
 |loop b ih=>
  intro V lo i f a w kn kx kr Q hc hag h hn hx hr hX;simp only[chk]at hc;simp only[nG]at h;cases he:lk pl.js i with
  |none=>simp only[he]at h
  |some e=>
   simp only[he,aZ]at h hc;obtain⟨hsub,hC⟩:=An hc.1;obtain⟨I,μ,h0,hround⟩:=h;refine wp_loop (λa' w'=>∃f',Ag n D f' a'/\Same e.V e.lo f f'/\I (e.C.map f') w') (λa' w'=>μ (e.C.map λt=>a'.tmps.getD t undef) w') ⟨f,hag,Same.refl _ _ _,h0⟩ ?_;rintro a' w' ⟨f',hag',hs,hI⟩;have h':=hround _ f' _ hI;simp only[yQ hs]at h';have hfun:(λt=>a'.tmps.getD t undef)=f':=funext hag'.2.2;refine ih e.V e.lo _ f' a' w' _ kx kr _ hc.2 hag' h' ?_ (λj f'' a'' w'' hag'' hs' hk=>hx j f'' a'' w'' hag'' ((hs.trans hs').wider hsub) hk)
    (λf'' a'' w'' hag'' hs' hk=>hr f'' a'' w'' hag'' ((hs.trans hs').wider hsub) hk) ((hX.sub hsub).same hs)
   intro f'' a'' w'' hag'' hs' hk;have hfun':(λt=>a''.tmps.getD t undef)=f'':=funext hag''.2.2;refine⟨⟨f'',hag'',hs.trans hs',hk.1⟩,?_⟩;rw[hfun,hfun'];exact hk.2
def AH(P:Program):List ResultVar->Fr->World->(List Value->Prop)->Prop
 |[],_,_,K=>K []
 |.tmp t::r,f,w,K=>AH P r f w λl=>K (f t::l)
 |.cell a T::r,f,w,K=>kQ (P.underlying T).isSome (ldW (sE P T) (iY P T) (f a) w λv=>AH P r f w λl=>K (v::l))
def one:List Value->Value
 |[v]=>v
 |l=>.tuple l.toArray
def Fq(tmps:Array Value):ResultVar->Sem Value
 |.tmp t=>pure (tmps.getD t undef)
 |.cell x t=>do loadVar t (<-asAddr (tmps.getD x undef))
theorem GW(fn:Func)(tmps:Array Value):results fn tmps=(do let vs<-fn.results.mapM (Fq tmps);pure (if h:vs.size=1 then vs[0]else .tuple vs)):=rfl
theorem DX{f:Fr}{a:Act}{w:World}(hag:Ag n D f a):∀(l:List ResultVar) (K:List Value->Prop),AH P l f w K->
  ∃vs,K vs/\(l.mapM (Fq a.tmps)).run P w=.ok vs w
 |[],K,h=>⟨[],h,rfl⟩
 |.tmp t::r,K,h=>by
  obtain⟨vs,hk,hr⟩:=DX hag r _ h
  refine⟨_,hk,?_⟩
  rw[List.mapM_cons,run_bind]
  simp only[Fq,run_pure,run_bind,hr]
  rw[hag.2.2 t]
 |.cell x T::r,K,h=>by
  replace h:=kQ.out h
  obtain⟨hT,h⟩:=h
  obtain⟨v,h',hl⟩:=LB hT h
  obtain⟨vs,hk,hr⟩:=DX hag r _ h'
  refine⟨_,hk,?_⟩
  have hl':(Fq a.tmps (.cell x T)).run P w=.ok v w:=by
   show(do loadVar T (<-asAddr (a.tmps.getD x undef)):Sem Value).run P w=.ok v w;rw[hag.2.2 x];cases hv:f x<;>rw[hv]at h hl<;>simp only[ldW]at h<;>try exact h.elim
   rename_i p;cases p with
   |none=>exact h.elim
   |some p=>exact hl
  rw[List.mapM_cons,run_bind];simp only[hl',run_bind,hr,run_pure]
theorem rM{fn:Func}{f:Fr}{a:Act}{K:Value->Prop}(hag:Ag n D f a)(h:AH P fn.results.toList f w λl=>K (one l)):
  ∃v,K v/\(results fn a.tmps).run P w=.ok v w:=by
 obtain⟨vs,hk,hr⟩:=DX hag _ _ h;refine⟨_,hk,?_⟩;rw[GW,run_bind];have:(fn.results.mapM (Fq a.tmps)).run P w=.ok vs.toArray w:=by
  rw[Array.mapM_eq_mapM_toList,<-bind_pure_comp,run_bind,hr];rfl
 rw[this];simp only[run_pure];congr 1;cases vs with
 |nil=>rfl
 |cons v r=>cases r<;>rfl
def fr0(args:List Value):Fr:=λj=>args.getD j undef
def Td[HX](P:Program)(fn:Func)(pl:dP)(args:List Value)(w:World)(K:Value->World->Prop):Prop:=
 match fn.body with
 |some c=>nG P pl c 0 (fr0 args) w (λf w'=>AH P fn.results.toList f w' λl=>K (one l) w') (λ_ _ _=>False) (λf w'=>AH P fn.results.toList f w' λl=>K (one l) w')
 |none=>False
def HG(P:Program)(fn:Func)(pl:dP)(k:Nat):Bool:=
 match fn.body with
 |some c=>Nat.ble k fn.ntmps&&chk P fn.ntmps pl [] 0 c 0
 |none=>false
theorem Hy{g:FuncId}{fn:Func}{args:List Value}(hm:P.follows .mixedOrders=true)(hf:P.funcs[g]?=some fn)(hc:HG P fn pl args.length=true)
  (h:Td P fn pl args w K):QU P g args w K:=by
 unfold Td at h;unfold HG at hc;cases hb:fn.body with
 |none=>rw[hb]at h;exact h.elim
 |some c=>
  rw[hb]at h hc;simp only[aZ]at hc;unfold QU;refine calls_of_wp hf hb ?_;have hle:args.length<=fn.ntmps:=hY hc.1;have hag:Ag fn.ntmps [] (fr0 args) {tmps:=args.toArray++Array.replicate (fn.ntmps-args.toArray.size) undef,defers:=[]}:=by
   refine⟨rfl,by simp;omega,λt=>?_⟩;simp only[gG,Array.getElem?_append,List.size_toArray,eJ,Array.getElem?_replicate,fr0,aH];split
   ·rfl
   ·rename_i hlt;rw[cA (by omega)];split<;>rfl
  have hend:∀(f':Fr) (a':Act) (w':World),Ag fn.ntmps [] f' a'->(AH P fn.results.toList f' w' λl=>K (one l) w')->a'.defers=[]/\∃v,(results fn a'.tmps).run P w'=.ok v w'/\EO K (.returned v) w':=by
   intro f' a' w' hag' hk;obtain⟨v,hk',hr⟩:=rM (K:=λv=>K v w') hag' hk;exact⟨hag'.1,v,hr,hk'⟩
  exact rZ hm c [] 0 0 _ _ w _ _ _ _ hc.2 hag h (λf' a' w' hag' _ hk=>hend f' a' w' hag' hk) (λ_ _ _ _ _ _ hk=>hk.elim) (λf' a' w' hag' _ hk=>hend f' a' w' hag' hk) (λc a' w' hd _ hx=>⟨hd,hx⟩)
theorem tie(P:Program)(g:FuncId)(fn:Func)(pl:dP)(args:List Value)(w:World)(K:Value->World->Prop)(k:Nat)(X:Prop)(hk:args.length=k)(hm:P.follows .mixedOrders=true)(hf:P.funcs[g]?=some fn)
  (hc:HG P fn pl k=true)(he:Td P fn pl args w K=X)(hr:∀(az:Array Value) (w:World),(callFunc g az).run P w=.ok (.enter g az) w)(h:X):aI P g args w K:=by
 unfold aI;rw[hr];exact Hy hm hf (by rw[hk];exact hc) (by rw[he];exact h)
theorem callF_calls{g:FuncId}{args:List Value}(hr:(callFunc g args.toArray).run P w=.ok (.enter g args.toArray) w)(h:aI P g args w K):
  Calls P g args.toArray w (EO K):=by
 unfold aI at h;rw[hr]at h;exact h
end
def Mk(o:Option Obj)(i:Nat):Option Value:=match o with|some (.cells c _ _)=>c[i]?|_=>none
def frO(o:Option Obj)(i:Nat):Bool:=match o with|some (.cells _ _ (lo,hi))=>decide (lo<=i)&&decide (i<hi)|_=>false
def Rz(o:Option Obj)(i:Nat)(v:Value):Option Obj:=match o with|some (.cells c t f)=>some (.cells (c.setIfInBounds i v) t f)|o=>o
theorem cM(c:Array Value)(t:TypeId)(f:Nat×Nat)(i:Nat):Mk (some (.cells c t f)) i=c[i]?:=rfl
theorem Ca(c:Array Value)(t:TypeId)(i:Nat):frO (some (.cells c t (0,0))) i=false:=by simp[frO]
theorem CG(c:Array Value)(t:TypeId)(f:Nat×Nat)(i:Nat)(v:Value):Rz (some (.cells c t f)) i v=some (.cells (c.setIfInBounds i v) t f):=rfl
theorem cP(w:World)(b o:Nat):w.cell? ⟨b,o,none⟩=Mk w.heap[b]? o:=by
 unfold World.cell? Mk;cases w.heap[b]? with
 |none=>rfl
 |some x=>cases x<;>rfl
theorem wP(w:World)(b o:Nat):w.frozen? ⟨b,o,none⟩=frO w.heap[b]? o:=by
 unfold World.frozen? frO;cases w.heap[b]? with
 |none=>rfl
 |some x=>cases x<;>rfl
theorem sF(w:World)(b o:Nat)(v:Value):(w.setCell ⟨b,o,none⟩ v).heap[b]?=Rz w.heap[b]? o v:=by
 unfold World.setCell Rz;simp only[Array.getElem?_modify,gY];cases w.heap[b]? with
 |none=>rfl
 |some x=>cases x<;>simp
theorem BY(w:World)(b o k:Nat)(v:Value)(h:k≠b):(w.setCell ⟨b,o,none⟩ v).heap[k]?=w.heap[k]?:=by
 unfold World.setCell;simp only[Array.getElem?_modify];rw[aD (uH h)]
theorem EY(w:World)(a:Addr)(v:Value):(w.setCell a v).heap.size=w.heap.size:=by simp
theorem kO(w:World)(o:Obj)(k:Nat)(h:k=w.heap.size):(w.alloc o).heap[k]?=some o:=by subst h;show(w.heap.push o)[w.heap.size]?=_;simp
theorem JN(w:World)(o:Obj)(k:Nat)(h:k≠w.heap.size):(w.alloc o).heap[k]?=w.heap[k]?:=by
 show(w.heap.push o)[k]?=_;rw[Array.getElem?_push,aD h]
theorem size_alloc(w:World)(o:Obj):(w.alloc o).heap.size=w.heap.size+1:=by simp
theorem heap_drew(w:World)(k:Nat):w.drew.heap[k]?=w.heap[k]?:=rfl
theorem size_drew(w:World):w.drew.heap.size=w.heap.size:=rfl
theorem bO(b o n:Nat):(⟨b,o,none⟩:Addr).add n=⟨b,o+n,none⟩:=by
 unfold Addr.add;split
 ·rename_i h;subst h;rfl
 ·rfl
structure Chg(S:Nat->Prop)(w w':World):Prop where
 os:w'.os=w.os
 tape:w'.tape=w.tape
 output:w'.output=w.output
 size:w.heap.size<=w'.heap.size
 heap:∀k,k<w.heap.size->¬S k->w'.heap[k]?=w.heap[k]?
abbrev Ext:=Chg (λ_=>False)
theorem Chg.refl(S:Nat->Prop)(w:World):Chg S w w:=⟨rfl,rfl,rfl,aL _,λ_ _ _=>rfl⟩
theorem Chg.trans{w1 w2:World}(h1:Chg S w w1)(h2:Chg S w1 w2):Chg S w w2:=
 ⟨h2.os.trans h1.os,h2.tape.trans h1.tape,h2.output.trans h1.output,bZ h1.size h2.size,λk hk hs=>(h2.heap k (bX hk h1.size) hs).trans (h1.heap k hk hs)⟩
theorem Chg.mono{T:Nat->Prop}(h:Chg S w w')(hs:∀k,k<w.heap.size->S k->T k):Chg T w w':=
 ⟨h.os,h.tape,h.output,h.size,λk hk hn=>h.heap k hk λe=>hn (hs k hk e)⟩
theorem Chg.of_ext(h:Ext w w'):Chg S w w':=h.mono λ_ _ e=>e.elim
theorem Chg.drew(h:Chg S w w'):Chg S w w'.drew:=⟨h.os,h.tape,h.output,h.size,h.heap⟩
theorem Chg.alloc(h:Chg S w w')(o:Obj):Chg S w (w'.alloc o):=
 ⟨h.os,h.tape,h.output,by rw[size_alloc];exact Nat.le_succ_of_le h.size,λk hk hs=>by rw[JN _ _ _ (by have:=h.size;omega)];exact h.heap k hk hs⟩
theorem Chg.set(h:Chg S w w'){b o:Nat}(hb:S b\/w.heap.size<=b)(v:Value):Chg S w (w'.setCell ⟨b,o,none⟩ v):=
 ⟨h.os,h.tape,h.output,by rw[EY];exact h.size,λk hk hs=>by
  have hne:k≠b:=λe=>by
   subst e
   rcases hb with hb|hb
   ·exact hs hb
   ·omega
  rw[BY _ _ _ _ _ hne]
  exact h.heap k hk hs⟩
theorem Chg.then{T:Nat->Prop}{w1 w2:World}(h1:Chg S w w1)(h2:Chg T w1 w2)(hT:∀k,k<w.heap.size->T k->S k):Chg S w w2:=
 ⟨h2.os.trans h1.os,h2.tape.trans h1.tape,h2.output.trans h1.output,bZ h1.size h2.size,λk hk hs=>(h2.heap k (bX hk h1.size) λe=>hs (hT k hk e)).trans (h1.heap k hk hs)⟩
theorem Chg.below(h:Ext w w'):RowKit.Below w.heap.size w w':=⟨h.os,h.tape,h.output,h.size,λk hk=>h.heap k hk id⟩
theorem Chg.of_below(h:RowKit.Below w.heap.size w w'):Ext w w':=⟨h.os,h.tape,h.output,h.size,λk hk _=>h.block k hk⟩
abbrev str(l:List UInt8):Value:=.string (ofL l)
abbrev i64(n:Int):Value:=.int .i64 n
theorem dF{n:Int}(h1:-9223372036854775808<=n)(h2:n<9223372036854775808):IntKind.i64.wrap n=n:=by
 have e1:(2:Int)^64=18446744073709551616:=by decide
 have e2:(2:Int)^(64-1)=9223372036854775808:=by decide
 simp only[IntKind.wrap,IntKind.bits,IntKind.signed,Bool.true_and,e1,e2];by_cases h:n%18446744073709551616>=9223372036854775808
 ·rw[aF (by simpa using h)];omega
 ·rw[aD (by simpa using h)];omega
theorem fP(A B:Prop):aS (.bool true) A B↔A:=by simp[aS]
theorem cQ(A B:Prop):aS (.bool false) A B↔B:=by simp[aS]
theorem aN(p:Prop)[Decidable p](A B:Prop):aS (.bool (decide p)) A B↔(p->A)/\(¬p->B):=by simp[aS]
theorem pD(a b:Value)(K:Value->Prop):eG (.bool true) a b K↔K a:=jI
theorem kY(a b:Value)(K:Value->Prop):eG (.bool false) a b K↔K b:=jI
section forms
variable(k:IntKind)(a b:Int)(s t:ByteArray)(x y:Value)(ad:Addr)(w:World)(K:Value->Prop)(KE:Value->World->Prop)(KW:World->Prop)
theorem bU:aO .add (.int k a) (.int k b) K↔K (.int k (k.wrap (a+b))):=by simp[aO]
theorem nZ:aO .sub (.int k a) (.int k b) K↔K (.int k (k.wrap (a-b))):=by simp[aO]
theorem IS:aO .mul (.int k a) (.int k b) K↔K (.int k (k.wrap (a*b))):=by simp[aO]
theorem Po:aO .quo (.int k a) (.int k b) K↔b≠0/\K (.int k (k.wrap (a.tdiv b))):=by simp[aO]
theorem Pn:aO .rem (.int k a) (.int k b) K↔b≠0/\K (.int k (a.tmod b)):=by simp[aO]
theorem bI:aO .eql (.int k a) (.int k b) K↔K (.bool (decide (a=b))):=by simp[aO]
theorem gL:aO .neq (.int k a) (.int k b) K↔K (.bool (decide (a≠b))):=by simp[aO]
theorem eL:aO .lss (.int k a) (.int k b) K↔K (.bool (decide (a<b))):=by simp[aO]
theorem uC:aO .leq (.int k a) (.int k b) K↔K (.bool (decide (a<=b))):=by simp[aO]
theorem mU:aO .gtr (.int k a) (.int k b) K↔K (.bool (decide (b<a))):=by simp[aO]
theorem oF:aO .geq (.int k a) (.int k b) K↔K (.bool (decide (b<=a))):=by simp[aO]
theorem Pq:aO .and (.int k a) (.int k b) K↔K (.int k (k.wrap (BitVec.ofInt k.bits a&&&BitVec.ofInt k.bits b).toNat)):=by simp[aO]
theorem EH:aO .or (.int k a) (.int k b) K↔K (.int k (k.wrap (BitVec.ofInt k.bits a|||BitVec.ofInt k.bits b).toNat)):=by simp[aO]
theorem Oz(l m:List UInt8):ofL l++ofL m=ofL (l++m):=by
 apply ByteArray.ext;simp[ofL,ByteArray.data_append]
theorem bT(l m:List UInt8):aO .add (.string (ofL l)) (.string (ofL m)) K↔((l.length+m.length:Nat):Int)<=IntKind.i64.max/\K (.string (ofL (l++m))):=by simp[aO,gN,Oz]
theorem oD(l m:List UInt8):aO .eql (.string (ofL l)) (.string (ofL m)) K↔K (.bool (decide (l=m))):=by simp[aO,eP]
theorem pM(l m:List UInt8):aO .neq (.string (ofL l)) (.string (ofL m)) K↔K (.bool (decide (l≠m))):=by simp[aO,eP]
theorem Pj(l m:List UInt8):aO .lss (.string (ofL l)) (.string (ofL m)) K↔K (.bool (Op.bytesLess l m)):=by simp[aO,eP]
theorem Pl(l m:List UInt8):aO .gtr (.string (ofL l)) (.string (ofL m)) K↔K (.bool (!(Op.bytesLess l m||decide (l=m)))):=by simp[aO,eP]
theorem Pm(l m:List UInt8):aO .geq (.string (ofL l)) (.string (ofL m)) K↔K (.bool (!Op.bytesLess l m)):=by simp[aO,eP]
theorem Pk(l m:List UInt8):aO .leq (.string (ofL l)) (.string (ofL m)) K↔K (.bool (Op.bytesLess l m||decide (l=m))):=by simp[aO,eP]
theorem dZ:dR (.pointer (some ad)) K↔K (.pointer (some ad)):=jI
theorem bH(off:Nat):bA off (.pointer (some ad)) K↔K (.pointer (some (ad.add off))):=jI
theorem eC(n:Nat):ldW false n (.pointer (some ad)) w K↔∃v,w.cell? ad=some v/\K v:=jI
theorem BM(n:Nat):ldW true n (.pointer (some ad)) w K↔∃l,iR w ad 0 n=some l/\K (.agg l.toArray):=jI
theorem Rt(n:Nat)(l:List Value):stW n (.pointer (some ad)) (.agg l.toArray) w KW↔l.length=n/\tI ad l 0 w KW:=by simp[stW,Value.cells]
theorem Oy:nK (.int k a)=true:=rfl
theorem Ln(c:Bool):nK (.bool c)=true:=rfl
theorem Ou:nK (.string s)=true:=rfl
theorem Jx(p:Option Addr)(n m:Nat):nK (.slice p n m)=true:=rfl
theorem Ov(p:Option Addr):nK (.pointer p)=true:=rfl
theorem Ox(p:Option Nat):nK (.map p)=true:=rfl
theorem bK(i:Nat)(l:List Value):iX i (.tuple l.toArray) K↔∃v,l[i]?=some v/\K v:=by
 simp only[iX,eJ];cases l[i]?<;>simp
theorem wM(size n c:Nat):fO none size (.slice (some ad) n c) (.int k a) K↔0<=a/\a<n/\K (.pointer (some (ad.add (a.toNat*size)))):=jI
theorem OM(m size:Nat):fO (some m) size (.pointer (some ad)) (.int k a) K↔0<=a/\a<m/\K (.pointer (some (ad.add (a.toNat*size)))):=jI
theorem Ix(l:List UInt8):pH (.string (ofL l)) (.int k a) K↔0<=a/\∃c,l[a.toNat]?=some c/\K (.int .u8 c.toNat):=by simp[pH,eP]
theorem eQ(l:List UInt8):iK (.string (ofL l)) K↔K (.int .i64 l.length):=by simp[iK,gN]
theorem AZ(p:Option Addr)(n c:Nat):iB (.slice p n c) K↔K (.int .i64 n):=jI
theorem iN(c:Bool):unW .not (.bool c) K↔K (.bool (!c)):=jI
theorem Ri:unW .neg (.int k a) K↔K (.int k (k.wrap (0-a))):=jI
theorem rY(k':IntKind):wW k' (.int k a) K↔K (.int k' (k'.wrap a)):=jI
theorem Is:OE (.int k a) (.int k b) K↔K (.int k (if b<a then b else a)):=jI
theorem OF:SO (.int k a) (.int k b) K↔K (.int k (if a<b then b else a)):=jI
theorem fR(n m:Nat)(KN:Nat->Prop):bdW none n m KN↔KN n:=jI
theorem eM(n m:Nat)(KN:Nat->Prop):bdW (some (.int k a)) n m KN↔0<=a/\a<=m/\KN a.toNat:=jI
theorem fC(l:List UInt8)(lo hi:Option Value):mN (.string (ofL l)) lo hi K↔bdW hi l.length l.length λh=>bdW lo 0 h λm=>K (.string (ofL ((l.take h).drop m))):=by simp only[mN,gN,eP]
theorem lI(c:Bool):isB (.bool c) true=c:=by cases c<;>rfl
theorem mH(c:Bool):isB (.bool c) false=!c:=by cases c<;>rfl
end forms
theorem GdW.go{c:Bool}{u:List Value}{A:(List Value->World->Prop)->Prop}{B:List Value->Fr->World->Prop}
  (h1:c=true->A (λs w'=>∀g,B s g w'))(h2:c=false->∀g,B u g w):GdW c u w A B:=
 ⟨λs w'=>∀g,B s g w',h1,λh=>h2 h,λs g _ h=>h g⟩
theorem GdW.f{u:List Value}{A:(List Value->World->Prop)->Prop}{B:List Value->Fr->World->Prop}(h:∀g,B u g w):GdW false u w A B:=
 GdW.go (λe=>by cases e) (λ_=>h)
theorem cK.cut{A:(List Value->World->Prop)->Prop}{B:List Value->Fr->World->Prop}(J:List Value->World->Prop)(h1:A J)(h2:∀s g w',J s w'->B s g w'):cK A B:=⟨J,h1,h2⟩
theorem dD.go{s0:List Value}{w0:World}{B:List Value->Fr->World->(List Value->World->Prop)->Prop}(I:List Value->World->Prop)(μ:List Value->World->Nat)
 (h0:I s0 w0)(h:∀s g w,I s w->B s g w (λs' w'=>I s' w'/\μ s' w'<μ s w)):dD s0 w0 B:=⟨I,μ,h0,h⟩
theorem wA(c:List Value)(i:Nat)(v:Value)(r:List (Nat×Nat×Value))(K:List Value->Prop)(h:v.cells=#[v]):gJ c ((i,1,v)::r) K↔i<c.length/\gJ (c.set i v) r K:=by
 simp only[gJ,h];constructor
 ·rintro⟨_,h2,h3⟩;rw[List.set_eq_take_append_cons_drop,aF (by omega)];exact⟨by omega,by simpa using h3⟩
 ·rintro⟨h2,h3⟩;rw[List.set_eq_take_append_cons_drop,aF (by omega)]at h3;exact⟨rfl,by omega,by simpa using h3⟩
theorem dQ(c:List Value)(K:List Value->Prop):gJ c [] K↔K c:=jI
theorem Nh(c:List Value)(i:Nat)(v:Option Nat)(r:List (Nat×Nat×Value))(K:List Value->Prop):gJ c ((i,1,.map v)::r) K↔i<c.length/\gJ (c.set i (.map v)) r K:=wA c i _ r K rfl
theorem dJ(c:List Value)(i:Nat)(k:IntKind)(v:Int)(r:List (Nat×Nat×Value))(K:List Value->Prop):gJ c ((i,1,.int k v)::r) K↔i<c.length/\gJ (c.set i (.int k v)) r K:=wA c i _ r K rfl
theorem eA(c:List Value)(i:Nat)(v:ByteArray)(r:List (Nat×Nat×Value))(K:List Value->Prop):gJ c ((i,1,.string v)::r) K↔i<c.length/\gJ (c.set i (.string v)) r K:=wA c i _ r K rfl
theorem KX(c:List Value)(i:Nat)(v:Bool)(r:List (Nat×Nat×Value))(K:List Value->Prop):gJ c ((i,1,.bool v)::r) K↔i<c.length/\gJ (c.set i (.bool v)) r K:=wA c i _ r K rfl
theorem Ef(c:List Value)(i:Nat)(v:Option Addr)(r:List (Nat×Nat×Value))(K:List Value->Prop):gJ c ((i,1,.pointer v)::r) K↔i<c.length/\gJ (c.set i (.pointer v)) r K:=wA c i _ r K rfl
theorem iA(c:List Value)(i:Nat)(p:Option Addr)(n m:Nat)(r:List (Nat×Nat×Value))(K:List Value->Prop):gJ c ((i,1,.slice p n m)::r) K↔i<c.length/\gJ (c.set i (.slice p n m)) r K:=wA c i _ r K rfl
structure uI(P:Program)(t e:TypeId)(size bytes:Nat):Prop where
 und:P.underlying t=some (.slice e)
 info:(P.info? e).map (λi=>(i.zero.map (·.cells.size),i.size,i.bytes))=some (some size,size,bytes)
 pos:0<size
theorem uI.get{t e:TypeId}{size bytes:Nat}(h:uI P t e size bytes):∃i z,P.info? e=some i/\i.zero=some z/\i.size=size/\i.bytes=bytes/\z.cells.size=size:=by
 have hi:=h.info;cases hx:P.info? e with
 |none=>rw[hx]at hi;cases hi
 |some i=>
  rw[hx]at hi;simp only[jN,bD,eY]at hi;obtain⟨h1,h2,h3⟩:=hi;cases hz:i.zero with
  |none=>rw[hz]at h1;cases h1
  |some z=>
   rw[hz]at h1;exact⟨i,z,rfl,hz,h2,h3,by simpa using h1⟩
def gE(w:World)(T:TypeId)(v:Value)(n:Nat)(cs:List Value):Prop:=
 ∃p cap,v=.slice p n cap/\n<=cap/\(p=none->n=0/\cap=0)/\(cs≠[]->∃b off c fr,p=some ⟨b,off,none⟩/\w.heap[b]?=some (.cells c T fr)/\∀i,i<cs.length->c[off+i]?=cs[i]?)
theorem gE.nil(w:World)(T:TypeId):gE w T (.slice none 0 0) 0 []:=⟨none,0,rfl,aL _,λ_=>⟨rfl,rfl⟩,λh=>absurd rfl h⟩
theorem gE.chg(h:gE w T v n cs)(hc:Chg S w w')
  (hS:∀k c fr,S k->w.heap[k]?≠some (.cells c T fr)):gE w' T v n cs:=by
 obtain⟨p,cap,hv,h1,h2,h3⟩:=h;refine⟨p,cap,hv,h1,h2,λhne=>?_⟩;obtain⟨b,off,c,fr,hp,hb,hcs⟩:=h3 hne;have hlt:b<w.heap.size:=(jJ.1 hb).1;exact⟨b,off,c,fr,hp,by rw[hc.heap b hlt λe=>hS b c fr e hb];exact hb,hcs⟩
theorem gE.ext(h:gE w T v n cs)(hc:Ext w w'):gE w' T v n cs:=
 h.chg hc λ_ _ _ e=>e.elim
theorem gE.shape(h:gE w T v n cs):∃p cap,v=.slice p n cap/\n<=cap:=by
 obtain⟨p,cap,hv,h1,_⟩:=h;exact⟨p,cap,hv,h1⟩
theorem fD(h:gE w T v n cs)(K:Value->Prop):iB v K↔K (i64 n):=by
 obtain⟨p,cap,rfl,_⟩:=h.shape;exact jI
theorem BP{size:Nat}{k:IntKind}{K:Value->Prop}(h:gE w T v n cs)(hl:cs.length=n*size)(hs:0<size)(hi:i<n)
  (hK:∀b o c fr,w.heap[b]?=some (.cells c T fr)->(∀j,j<size->c[o+j]?=cs[i*size+j]?)->K (.pointer (some ⟨b,o,none⟩))):fO none size v (.int k i) K:=by
 obtain⟨p,cap,rfl,h1,_,h3⟩:=h;have hlt:i*size+size<=n*size:=by rw[<-Cq];exact kS _ hi
 obtain⟨b,off,c,fr,rfl,hb,hcs⟩:=h3 (λe=>by rw[e]at hl;simp at hl;omega);refine⟨Int.natCast_nonneg _,by omega,?_⟩;rw[bO,aP];exact hK b _ c fr hb λj hj=>by rw[show off+i*size+j=off+(i*size+j)by omega];exact hcs _ (by omega)
theorem kM{k:IntKind}{x:Value}{K:Value->Prop}(h:gE w T v n cs)(hl:cs.length=n)(hi:cs[i]?=some x)(hK:K x):
  fO none 1 v (.int k i) λt=>ldW false 1 t w K:=by
 have hi':i<cs.length:=(bF.1 hi).1;refine BP (size:=1) h (by omega) (by omega) (by omega) λb o c fr hb hc=>?_;refine⟨x,?_,hK⟩;rw[cP,hb,cM];have:=hc 0 (by omega);simpa[hi]using this
abbrev Own(w:World)(base:Nat)(e:TypeId)(size:Nat)(v:Value)(n:Nat)(xs:List Value):Prop:=w.ownsRow base e size v n xs
theorem Own.sl{base:Nat}{e:TypeId}{size:Nat}{xs:List Value}(h:Own w base e size v n xs):gE w e v n xs:=by
 obtain⟨hl,⟨rfl,rfl⟩|⟨g,cap,cur,rfl,_,hg,h1,_,h2,h3⟩⟩:=h
 ·have:xs=[]:=bY (by simpa using hl);subst this;exact gE.nil w e
 ·refine⟨_,_,rfl,h1,λh=>(by cases h),λ_=>⟨g,0,cur,(0,0),rfl,hg,λi hi=>?_⟩⟩;rw[<-h3,List.getElem?_take,aF (by omega),aQ];simp
def Kf(w:World)(base:Nat)(e:TypeId)(k:Nat):Prop:=base<=k/\∃c,w.heap[k]?=some (.cells c e (0,0))
theorem Own.block{base:Nat}{e:TypeId}{size:Nat}{xs:List Value}(h:Own w base e size v n xs):∀k,v.ownBlock=some k->Kf w base e k:=by
 intro k hk;obtain⟨hl,⟨rfl,rfl⟩|⟨g,cap,cur,rfl,hb,hg,_⟩⟩:=h
 ·simp[Value.ownBlock]at hk
 ·simp[Value.ownBlock]at hk;subst hk;exact⟨hb,cur,hg⟩
theorem xB(h:nK v=true):v.oneCell'=true:=by cases v<;>first|rfl|(simp[nK]at h)
theorem Chg.of_grown{row:Option Nat}(h:w.grownBy w' row)(hS:∀k,row=some k->S k):Chg S w w':=
 ⟨h.os,h.tape,h.output,h.size,λk hk hn=>h.block k hk λe=>hn (hS k e.symm)⟩
theorem sB{t e:TypeId}{size bytes:Nat}(hT:uI P t e size bytes){base:Nat}{x:Value}{m:Nat}{xs news:List Value}{ty:TypeId}
  (hown:Own w base e size v n xs)(hx:gE w T x m news)(hl:news.length=m*size)(h1:∀u∈news,nK u=true)(hlen:n+m<=4611686018427387904)(hb:(n+m)*bytes<=140737488355328)(hbase:base<=w.heap.size)
  (hK:∀v' w',Own w' base e size v' (n+m) (xs++news)->Chg (λk=>v.ownBlock=some k) w w'->(v'=.slice none 0 0↔v=.slice none 0 0/\m=0)->K v' w'):
  fG P (Builtin.append_ #[t,t] ty #[v,x]) w K:=by
 obtain⟨i,z,hi,hz,h2,h3,h4⟩:=hT.get;obtain⟨p,cap,rfl,hcap,hnil,hcells⟩:=hx;have hm:n+m<=maxLen:=by unfold maxLen;omega
 cases p with
 |none=>
  obtain⟨rfl,rfl⟩:=hnil rfl;have hn:news=[]:=bY (by simpa using hl);subst hn;have hr:(Builtin.append_ #[t,t] ty #[v,.slice none 0 0]).run P w=.ok v w:=by
   obtain⟨hl',⟨rfl,rfl⟩|⟨g,cap,cur,rfl,_,hg,h1,_,h2,h3⟩⟩:=hown
   ·simp[Builtin.append_,run_bind,bE hT.und,fE (show(P.info? e).isSome=true by rw[hi];rfl),Builtin.lenOf,run_pure,Builtin.firstCells]
   ·simp[Builtin.append_,run_bind,bE hT.und,fE (show(P.info? e).isSome=true by rw[hi];rfl),Builtin.lenOf,run_pure,Builtin.firstCells,h1,storeCells]
  unfold fG;rw[hr];simp only[gF,cH]at hK;exact hK v w hown (Chg.refl _ _) (by simp)
 |some a=>
  have hcell:∀j u,news[j]?=some u->w.cell? (a.add j)=some u:=by
   intro j u hu;have hne:news≠[]:=λe=>by subst e;simp at hu
   obtain⟨b,off,c,fr,hp,hb',hcs⟩:=hcells hne;cases hp;rw[bO,cP,hb',cM,hcs j (bF.1 hu).1,hu]
  obtain⟨v',w',hr,hown',hg,hnil'⟩:=run_append_own (P:=P) w base t ty e i z size bytes hT.und hi hz h2 h3 h4 hT.pos v n xs hown a m cap news hl hcell (λu hu=>xB (h1 u hu)) hm hb hbase;unfold fG;rw[hr];exact hK v' w' hown' (Chg.of_grown hg λk e=>e) hnil'
theorem Own.chg{base:Nat}{e:TypeId}{size:Nat}{xs:List Value}(h:Own w base e size v n xs)(hc:Chg S w w')(hS:∀k,Kf w base e k->¬S k):Own w' base e size v n xs:=by
 obtain⟨hl,hn|⟨g,cap,cur,hv,hb,hg,r⟩⟩:=h
 ·exact⟨hl,.inl hn⟩
 ·exact⟨hl,.inr ⟨g,cap,cur,hv,hb,by rw[hc.heap g (jJ.1 hg).1 (hS g ⟨hb,cur,hg⟩)];exact hg,r⟩⟩
theorem Own.ext{base:Nat}{e:TypeId}{size:Nat}{xs:List Value}(h:Own w base e size v n xs)(hc:Ext w w'):Own w' base e size v n xs:=h.chg hc λ_ _ e=>e
theorem Own.base{base base':Nat}{e:TypeId}{size:Nat}{xs:List Value}(h:Own w base e size v n xs)(hb:base'<=base):Own w base' e size v n xs:=by
 obtain⟨hl,hn|⟨g,cap,cur,hv,hg,r⟩⟩:=h
 ·exact⟨hl,.inl hn⟩
 ·exact⟨hl,.inr ⟨g,cap,cur,hv,bZ hb hg,r⟩⟩
def u8s(l:List UInt8):List Value:=l.map λb=>.int .u8 b.toNat
theorem xH(l:List UInt8):(u8s l).length=l.length:=by simp[u8s]
theorem HR(l:List UInt8)(i:Nat):(u8s l)[i]?=(l[i]?).map λb=>.int .u8 b.toNat:=by simp[u8s]
theorem DJ(a b:List UInt8):u8s (a++b)=u8s a++u8s b:=by simp[u8s]
abbrev Byt(w:World)(T:TypeId)(v:Value)(l:List UInt8):Prop:=gE w T v l.length (u8s l)
end
section
open Go
abbrev Str:=List UInt8
section
variable{P:Program}{T kt et:TypeId}{w:World}{m:Nat}{A:List (Str×Value)}
end
end
section
open Go
variable{w:World}{K:Value->World->Prop}{cs:List Value}{G:Nat->Prop}{T:TypeId}{i:Nat}{n:Nat}{v:Value}{w':World}{P:Program}{c:UInt8}{S:Nat->Prop}
theorem Chg.at{k:Nat}{o:Obj}(hc:Chg S w w')(h:w.heap[k]?=some o)(hS:¬S k):w'.heap[k]?=some o:=by
 rw[hc.heap k (jJ.1 h).1 hS];exact h
theorem Chg.new{w1 w2:World}{a:Nat}(h1:Ext w w1)(hc:Chg (λk=>k=a) w1 w2)(ha:w.heap.size<=a):Ext w w2:=h1.then hc λk hk e=>by omega
theorem vP{k:Nat}{o:Obj}(h:w.heap[k]?=some o):k<w.heap.size:=(jJ.1 h).1
theorem bN{z:List Value}(h:∀a w',a=w.heap.size->w'.heap.size=w.heap.size+1->w'.heap[a]?=some (.cells z.toArray T (0,0))->Ext w w'->K (.pointer (some ⟨a,0,none⟩)) w'):cN T z w K:=
 h _ _ rfl (by simp) (kO _ _ _ rfl) (Chg.alloc (Chg.refl _ _) _)
theorem iS{z:List Value}(h:∀a w',a=w.heap.size->w'.heap.size=w.heap.size+1->w'.heap[a]?=some (.cells z.toArray T (0,0))->Ext w w'->K (.pointer (some ⟨a,0,none⟩)) w'):mR T (.agg z.toArray) w K:=
 h _ _ rfl (by simp) (kO _ _ _ rfl) (Chg.alloc (Chg.refl _ _) _)
theorem row_new(h:∀a w',a=w.heap.size->w'.heap.size=w.heap.size+1->w'.heap[a]?=some (.cells cs.toArray T (0,0))->Ext w w'->w'=w.alloc (.cells cs.toArray T)->K (.slice (some ⟨a,0,none⟩) n n) w'):
  K (.slice (some ⟨w.heap.size,0,none⟩) n n) (w.alloc (.cells cs.toArray T)):=
 h _ _ rfl (by simp) (kO _ _ _ rfl) (Chg.alloc (Chg.refl _ _) _) rfl
theorem qA{a off:Nat}{cs:Array Value}{K:World->Prop}(hb:w.heap[a]?=some (.cells cs T (0,0)))(h1:nK v=true)(hoff:off<cs.size)
  (hK:∀w',w'.heap.size=w.heap.size->w'.heap[a]?=some (.cells (cs.setIfInBounds off v) T (0,0))->Chg (λk=>k=a) w w'->K w'):stW 1 (.pointer (some ⟨a,off,none⟩)) v w K:=by
 have hc:v.cells.toList=[v]:=by cases v<;>first|rfl|(simp[nK]at h1)
 have hc2:v.cells=#[v]:=by cases v<;>first|rfl|(simp[nK]at h1)
 have hz:(⟨a,off,none⟩:Addr).add 0=⟨a,off,none⟩:=rfl;simp only[stW,hc2];refine⟨rfl,?_⟩;simp only[tI,hz];refine⟨h1,?_,?_,?_⟩
 ·rw[cP,hb,cM];simp[hoff]
 ·rw[wP,hb,Ca]
 ·refine hK _ (by simp) ?_ (Chg.set (S:=λk=>k=a) (Chg.refl _ _) (.inl rfl) _);rw[sF,hb,CG]
theorem Rr{a:Nat}{K:World->Prop}:∀(l:List Value) (i:Nat) (cs:List Value),w.heap[a]?=some (.cells cs.toArray T (0,0))->cs.length=i+l.length->(∀v∈l,nK v=true)->
  (∀w',w'.heap.size=w.heap.size->w'.heap[a]?=some (.cells (cs.take i++l).toArray T (0,0))->Chg (λk=>k=a) w w'->K w')->tI ⟨a,0,none⟩ l i w K:=by
 intro l;induction l generalizing w with
 |nil=>
  intro i cs hb hl _ hK;refine hK w rfl ?_ (Chg.refl _ _);simp only[aC,gF]at hl;rw[lT (by omega),cH];exact hb
 |cons v r ih=>
  intro i cs hb hl h1 hK;have hadd:(⟨a,0,none⟩:Addr).add i=⟨a,i,none⟩:=by rw[bO];simp
  simp only[aA]at hl;simp only[tI,hadd];refine⟨h1 v aX,?_,?_,?_⟩
  ·rw[cP,hb,cM];simp;omega
  ·rw[wP,hb,Ca]
  ·have hb':(w.setCell ⟨a,i,none⟩ v).heap[a]?=some (.cells (cs.set i v).toArray T (0,0)):=by
    rw[sF,hb,CG];simp
   refine ih (i+1) (cs.set i v) hb' (by rw[List.length_set];omega) (λu hu=>h1 u (aK _ hu)) λw' hz hb2 hc=>?_;refine hK w' (by rw[hz];simp) ?_ ((Chg.set (S:=λk=>k=a) (Chg.refl _ _) (.inl rfl) _).trans hc);rw[hb2];have:(cs.set i v).take (i+1)++r=cs.take i++v::r:=by
    rw[qP,List.getElem?_set_self (by omega),List.take_set_of_le (by omega)];simp
   rw[this]
theorem cL{a:Nat}{l:List Value}{K:World->Prop}(hb:w.heap[a]?=some (.cells cs.toArray T (0,0)))(hl:l.length=n)(hc:cs.length=n)(h1:l.all nK=true)
  (hK:∀w',w'.heap.size=w.heap.size->w'.heap[a]?=some (.cells l.toArray T (0,0))->Chg (λk=>k=a) w w'->K w'):stW n (.pointer (some ⟨a,0,none⟩)) (.agg l.toArray) w K:=by
 rw[Rt];refine⟨hl,?_⟩;refine Rr l 0 cs hb (by omega) (λv hv=>eR.1 h1 v hv) λw' hz hb' hc'=>hK w' hz ?_ hc';simpa using hb'
theorem Ck{a:Nat}{w:World}{T:TypeId}{cs:List Value}{fr:Nat×Nat}(hb:w.heap[a]?=some (.cells cs.toArray T fr)):∀(n i:Nat),i+n=cs.length->iR w ⟨a,0,none⟩ i n=some (cs.drop i)
 |0,i,h=>by simp only[iR];rw[dO (by omega)]
 |n+1,i,h=>by
  have hi:i<cs.length:=by omega
  simp only[iR,bO,cP,hb,cM,aQ,eJ,aG hi]
  rw[Ck hb n (i+1) (by omega)]
  simp
theorem fY{a:Nat}{l:List Value}{fr:Nat×Nat}{K:Value->Prop}(hb:w.heap[a]?=some (.cells l.toArray T fr))(hn:l.length=n)(hK:K (.agg l.toArray)):ldW true n (.pointer (some ⟨a,0,none⟩)) w K:=by
 rw[BM];exact⟨l,by rw[Ck hb n 0 (by omega)];rfl,hK⟩
theorem AT{a:Nat}{l:List Value}(hb:w.heap[a]?=some (.cells cs.toArray T (0,0)))(hl:l.length=n)(hc:cs.length=n)(h1:l.all nK=true)
  (hK:∀w',Chg (λk=>k=a) w w'->K (.agg l.toArray) w'):stW n (.pointer (some ⟨a,0,none⟩)) (.agg l.toArray) w λw5=>ldW true n (.pointer (some ⟨a,0,none⟩)) w5 λr6=>K r6 w5:=
 cL hb hl hc h1 λw' _ hb' hcw=>fY hb' hl (hK w' hcw)
end
section
open Go
variable{w:World}{K:Value->World->Prop}{cs:List Value}{G:Nat->Prop}{T:TypeId}{i:Nat}{n:Nat}{v:Value}{w':World}{P:Program}{c:UInt8}{S:Nat->Prop}
theorem mA{t e:TypeId}{size bytes:Nat}(hT:uI P t e size bytes){base:Nat}{x:Value}{m:Nat}{xs news:List Value}{ty:TypeId}
  (hown:Own w base e size v n xs)(hx:gE w T x m news)(hl:news.length=m*size)(h1:∀u∈news,nK u=true)(hlen:n+m<=4611686018427387904)(hb:(n+m)*bytes<=140737488355328)(hbase:base<=w.heap.size)
  (hK:∀v' w',Own w' base e size v' (n+m) (xs++news)->Chg (λk=>v.ownBlock=some k) w w'->(∀k,v'.ownBlock=some k->v.ownBlock=some k\/w.heap.size<=k)->K v' w'):
  fG P (Builtin.append_ #[t,t] ty #[v,x]) w K:=by
 obtain⟨i,z,hi,hz,h2,h3,h4⟩:=hT.get;have hsame:∀{K':Value->World->Prop},fG P (Builtin.append_ #[t,t] ty #[v,x]) w K'->∃v' w',(Builtin.append_ #[t,t] ty #[v,x]).run P w=.ok v' w'/\K' v' w':=by
  intro K' h;unfold fG at h;split at h
  ·rename_i v' w' hr;exact⟨v',w',hr,h⟩
  ·exact h.elim
 obtain⟨v1,w1,hr1,hO1,hc1,hn1⟩:=hsame (sB hT hown hx hl h1 hlen hb hbase λv' w' a b c=>(⟨a,b,c⟩:Own w' base e size v' (n+m) (xs++news)/\Chg (λk=>v.ownBlock=some k) w w'/\(v'=.slice none 0 0↔v=.slice none 0 0/\m=0)));unfold fG;rw[hr1];refine hK v1 w1 hO1 hc1 ?_;obtain⟨hl',⟨rfl,rfl⟩|⟨g,cap,cur,rfl,hbg,hg,hnc,hcm,hcs,htake⟩⟩:=hown
 ·have hnil:xs=[]:=bY (by simpa using hl');subst hnil;obtain⟨v2,w2,hr2,hO2⟩:=hsame (sB hT (base:=w.heap.size) (show Own w w.heap.size e size (.slice none 0 0) 0 []from⟨by simp,.inl ⟨rfl,rfl⟩⟩) hx hl h1 hlen hb (aL _) λv' w' a _ _=>a);rw[hr1]at hr2;cases hr2;intro k hk;exact .inr (hO2.block k hk).1
 ·obtain⟨p,c,rfl,_,hpn,hcells⟩:=hx;cases p with
  |none=>
   obtain⟨rfl,rfl⟩:=hpn rfl;intro k hk;have hn:news=[]:=bY (by simpa using hl);subst hn;have hr:(Builtin.append_ #[t,t] ty #[.slice (some ⟨g,0,none⟩) n cap,.slice none 0 0]).run P w=.ok (.slice (some ⟨g,0,none⟩) n cap) w:=by
    simp[Builtin.append_,run_bind,bE hT.und,fE (show(P.info? e).isSome=true by rw[hi];rfl),Builtin.lenOf,run_pure,Builtin.firstCells,hnc,storeCells]
   rw[hr1]at hr;cases hr;exact .inl hk
  |some a=>
   have hcell:∀j u,news[j]?=some u->w.cell? (a.add j)=some u:=by
    intro j u hu;have hne:news≠[]:=λe=>by subst e;simp at hu
    obtain⟨b,off,c',fr,hp,hb',hcs'⟩:=hcells hne;cases hp;rw[bO,cP,hb',cM,hcs' j (bF.1 hu).1,hu]
   subst h2;by_cases hroom:n+m<=cap
   ·have hfit:n*i.size+news.length<=cur.size:=by rw[hl,hcs,<-Nat.add_mul];exact kS _ hroom
    have hr:=run_append_room (P:=P) w t ty e i hT.und hi g n cap cur hg a m c news hl hcell (λu hu=>xB (h1 u hu)) hroom hfit;rw[hr1]at hr;cases hr;intro k hk;exact .inl (by simpa[Value.ownBlock]using hk)
   ·have holds:∀j u,xs[j]?=some u->w.cell? ((⟨g,0,none⟩:Addr).add j)=some u:=World.ownsRow.cells (base:=base) (e:=e) (size:=i.size) (v:=.slice (some ⟨g,0,none⟩) n cap) (n:=n) ⟨hl',.inr ⟨g,cap,cur,rfl,hbg,hg,hnc,hcm,hcs,htake⟩⟩ rfl;have hr:=run_append_grow (P:=P) w t ty e i z hT.und hi hz ⟨g,0,none⟩ n cap xs hl' holds a m c news hl hcell (by omega) (by omega) (growslice_fits (by omega) (by rw[h3];exact hb));rw[hr1]at hr;cases hr;intro k hk;right;simp[Value.ownBlock]at hk;omega
theorem oG(c:Bool)(u v:Value)(w:World)(B:List Value->Fr->World->Prop):GdW c [u] w (λJ=>J [v] w) B↔∀g,B [bif c then v else u] g w:=by
 constructor
 ·rintro⟨J,h1,h2,h3⟩ g;cases c with
  |true=>exact h3 _ g _ (h1 rfl)
  |false=>exact h3 _ g _ (h2 rfl)
 ·intro h;refine⟨λs w'=>s=[bif c then v else u]/\w'=w,λhc=>⟨by rw[hc];rfl,rfl⟩,λhc=>⟨by rw[hc];rfl,rfl⟩,?_⟩;rintro s g w' ⟨rfl,rfl⟩;exact h g
theorem EN(g e f:Bool)(w:World)(B:List Value->Fr->World->Prop):
  GdW g [undef] w (λJ=>eG (bif g then .bool e else undef) (bif (g&&e)then .bool f else undef) (.bool false) λt=>J [t] w) B↔∀h,B [bif g then .bool (e&&f)else undef] h w:=by
 cases g with
 |true=>
  rw[<-oG];cases e<;>exact jI
 |false=>
  constructor
  ·rintro⟨J,_,h2,h3⟩ h;exact h3 _ h _ (h2 rfl)
  ·intro h;exact GdW.f h
theorem GE(g e f:Bool)(w:World)(B:List Value->Fr->World->Prop):
  GdW g [undef] w (λJ=>eG (bif g then .bool e else undef) (.bool true) (bif (g&&!e)then .bool f else undef) λt=>J [t] w) B↔∀h,B [bif g then .bool (e||f)else undef] h w:=by
 cases g with
 |true=>
  rw[<-oG];cases e<;>exact jI
 |false=>
  constructor
  ·rintro⟨J,_,h2,h3⟩ h;exact h3 _ h _ (h2 rfl)
  ·intro h;exact GdW.f h
theorem iW(c e:Bool)(K:Value->Prop):eG (.bool c) (bif c then .bool e else undef) (.bool false) K↔K (.bool (c&&e)):=by cases c<;>exact jI
theorem lV(c e:Bool)(K:Value->Prop):eG (.bool c) (.bool true) (bif !c then .bool e else undef) K↔K (.bool (c||e)):=by cases c<;>exact jI
theorem LM(c e:Bool):isB (bif c then .bool e else undef) true=(c&&e):=by cases c<;>cases e<;>rfl
theorem LN(c e:Bool):isB (bif c then .bool e else undef) false=(c&&!e):=by cases c<;>cases e<;>rfl
theorem GdW.look{c:Bool}{A:(List Value->World->Prop)->Prop}{B:List Value->Fr->World->Prop}(e:Bool)(h1:c=true->∀J:List Value->World->Prop,J [.bool e] w->A J)(h2:∀g,B [bif c then .bool e else undef] g w):GdW c [undef] w A B:=by
 refine⟨λs w'=>s=[bif c then .bool e else undef]/\w'=w,λhc=>h1 hc _ ⟨by rw[hc];rfl,rfl⟩,λhc=>⟨by rw[hc];rfl,rfl⟩,?_⟩;rintro s g w' ⟨rfl,rfl⟩;exact h2 g
theorem GdW.act{c:Bool}{A:(List Value->World->Prop)->Prop}{B:List Value->Fr->World->Prop}(e:Bool)(R:World->Prop)(h0:c=false->R w)(h1:c=true->∀J:List Value->World->Prop,(∀w',R w'->J [.bool e] w')->A J)(h2:∀g w',R w'->B [bif c then .bool e else undef] g w'):GdW c [undef] w A B:=by
 refine⟨λs w'=>s=[bif c then .bool e else undef]/\R w',λhc=>h1 hc _ λw' hR=>⟨by rw[hc];rfl,hR⟩,λhc=>⟨by rw[hc];rfl,h0 hc⟩,?_⟩;rintro s g w' ⟨rfl,hR⟩;exact h2 g w' hR
theorem Ra(A:(Value->Prop)->Prop)(B:Value->Prop):GqW false A B↔B undef:=by
 constructor
 ·rintro⟨v,_,h,hb⟩;rw[<-h rfl];exact hb
 ·intro h;exact⟨undef,(λe=>by cases e),λ_=>rfl,h⟩
theorem Jb(A:(Value->Prop)->Prop)(B:Value->Prop):GqW true A B↔∃v,A (λx=>x=v)/\B v:=by
 constructor
 ·rintro⟨v,h,_,hb⟩;exact⟨v,h rfl,hb⟩
 ·rintro⟨v,h,hb⟩;exact⟨v,λ_=>h,(λe=>by cases e),hb⟩
theorem AG(u:List Value)(w:World)(A:(List Value->World->Prop)->Prop)(B:List Value->Fr->World->Prop):GdW false u w A B↔∀g,B u g w:=by
 constructor
 ·rintro⟨J,_,h2,h3⟩ g;exact h3 _ g _ (h2 rfl)
 ·intro h;exact GdW.f h
theorem Iy(c:Bool):isB undef c=false:=rfl
theorem cU(b:Bool)(A B:Prop):aS (.bool b) A B↔(b=true->A)/\(b=false->B):=jI
def Um:=And.intro @dQ<|And.intro @Nh<|And.intro @dJ<|And.intro @eA<|And.intro @KX<|And.intro @Ef<|And.intro @iA<|And.intro @bU<|And.intro @nZ<|And.intro @IS<|
 And.intro @Po<|And.intro @Pn<|And.intro @bI<|And.intro @gL<|And.intro @eL<|And.intro @uC<|And.intro @mU<|And.intro @oF<|And.intro @bT<|And.intro @oD<|And.intro @pM<|
 And.intro @Pj<|And.intro @Pl<|And.intro @Pm<|And.intro @Pk<|And.intro @dZ<|And.intro @bH<|And.intro @eC<|And.intro @Oy<|And.intro @Ln<|And.intro @Ou<|And.intro @Jx<|
 And.intro @Ov<|And.intro @Ox<|And.intro @bK<|And.intro @wM<|And.intro @OM<|And.intro @Ix<|And.intro @eQ<|And.intro @AZ<|And.intro @iN<|And.intro @Ri<|And.intro @rY<|
 And.intro @Is<|And.intro @OF<|And.intro @fR<|And.intro @eM<|And.intro @fC<|And.intro @pD<|And.intro @kY<|And.intro @fP @cQ
def Uq:=And.intro @Iy<|And.intro @Ra<|And.intro @Jb<|And.intro @AG<|And.intro @oG<|And.intro @EN<|And.intro @GE<|And.intro @iW<|And.intro @lV<|And.intro @LM<|And.intro @LN<|And.intro @lI @mH
def Up:=And.intro @bO<|And.intro @cP<|And.intro @cM<|And.intro @wP<|And.intro @Ca<|And.intro @heap_drew @size_drew
def Uo:=And.intro @dB<|And.intro @oI<|And.intro @Bool.and_true<|And.intro @Bool.and_false<|And.intro @Bool.true_and<|And.intro @Bool.false_and<|And.intro @Bool.or_true<|
 And.intro @Bool.or_false<|And.intro @wX<|And.intro @qG<|And.intro @lU @fJ
theorem wsv:type_of%Um:=Um
theorem wsg:type_of%Uq:=Uq
theorem wsh:type_of%Up:=Up
theorem wsl:type_of%Uo:=Uo
universe u
def Un:=And.intro @bD.{u}<|And.intro @Option.isSome_some.{u}<|And.intro @eJ.{u}<|And.intro @dV.{u}<|And.intro @dK.{u}<|And.intro @aA.{u}<|And.intro @aC.{u}<|And.intro @aR.{u}<|And.intro @aV.{u}<|And.intro @aE.{u}<|And.intro @dX.{u}<|And.intro @aQ @gF
theorem QC:type_of%Un.{u}:=Un.{u}
end
end Go.Eng
namespace Go.Proofs.YtjblfcfdeaagpaaGreatDoor
section
open Go Go.Eng
variable{w:World}{K:Value->World->Prop}{cs:List Value}{G:Nat->Prop}{T:TypeId}{i:Nat}{n:Nat}{v:Value}{w':World}{P:Program}{c:UInt8}{S:Nat->Prop}
theorem mixed:Tryz.prog.follows .mixedOrders=true:=by kernel_rfl
end
end Go.Proofs.YtjblfcfdeaagpaaGreatDoor
namespace Go.Eng
section
open Go
variable{w:World}{K:Value->World->Prop}{cs:List Value}{G:Nat->Prop}{T:TypeId}{i:Nat}{n:Nat}{v:Value}{w':World}{P:Program}{c:UInt8}{S:Nat->Prop}
inductive JV where
 |mk (k:Int) (b:Bool) (t:Str) (xs:List JV) (ks:List Str)
namespace JV
def k:JV->Int|.mk k _ _ _ _=>k
def b:JV->Bool|.mk _ b _ _ _=>b
def t:JV->Str|.mk _ _ t _ _=>t
def xs:JV->List JV|.mk _ _ _ xs _=>xs
def ks:JV->List Str|.mk _ _ _ _ ks=>ks
theorem ind{p:JV->Prop}(h:∀k b t xs ks,(∀x∈xs,p x)->p (.mk k b t xs ks))(v:JV):p v:=
 JV.rec (motive_1:=p) (motive_2:=λl=>∀x∈l,p x) (λk b t xs ks ih=>h k b t xs ks ih) (by intro x hx;cases hx)
  (λx l hx hl y hy=>by rcases bC.1 hy with rfl|hy;exact hx;exact hl y hy) v
end JV
end
end Go.Eng
namespace Go.Num
section
open Go.Eng
variable{w:World}{K:Value->World->Prop}{cs:List Value}{G:Nat->Prop}{T:TypeId}{i:Nat}{n:Nat}{v:Value}{w':World}{P:Program}{c:UInt8}{S:Nat->Prop}
def isDig(c:UInt8):Bool:=decide (48<=c.toNat)&&decide (c.toNat<=57)
def dig(a:Str):Str:=match a with|[]=>[]|c::d=>if c=45 then d else c::d
def neg(a:Str):Bool:=a.head?==some 45
def goodN(a:Str):Bool:=decide (1<=(dig a).length)&&decide ((dig a).length<=100)&&(!((dig a).head?==some 48)||decide (a=[48]))&&(dig a).all isDig
def Wb(c:UInt8):Nat:=c.toNat-48
def dec(d:Str):Nat:=d.foldl (λn c=>n*10+Wb c) 0
def val:List Nat->Nat
 |[]=>0
 |x::r=>x+1000000000*val r
theorem GD{d:Str}(n:Nat)(h:d.all isDig=true):(d.take n).all isDig=true:=eR.2 λx hx=>eR.1 h x (List.mem_of_mem_take hx)
def num(a:Str):Int:=if neg a then-(dec (dig a):Int)else dec (dig a)
end
end Go.Num
namespace Go.Eng
section
open Go Go.Num
variable{w:World}{K:Value->World->Prop}{cs:List Value}{G:Nat->Prop}{T:TypeId}{i:Nat}{n:Nat}{v:Value}{w':World}{P:Program}{c:UInt8}{S:Nat->Prop}
def LD:List Str->Bool
 |[]=>true
 |[a]=>decide (a.length<=16384)
 |a::b::r=>decide (a.length<=16384)&&Op.bytesLess a b&&LD (b::r)
def Tc(k:Int)(b:Bool)(t:Str)(n:Nat)(ks:List Str):Bool:=
 decide (0<=k)&&decide (k<=6)&&(!b||decide (k=2))&&(decide (t=[])||decide (k=3)||decide (k=4))&&(decide (n=0)||decide (5<=k))&&(decide (k=6)||decide (ks=[]))&&
  (!decide (k=3)||goodN t)&&(!decide (k=4)||decide (t.length<=16384))&&(!decide (k=6)||decide (ks.length=n))&&LD ks
mutual
def plainM:JV->Bool
 |.mk k b t xs ks=>Tc k b t xs.length ks&&Ld xs
def Ld:List JV->Bool
 |[]=>true
 |x::xs=>plainM x&&Ld xs
end
theorem GD{α:Type}{p:α->Bool}{xs:List α}{x:α}(hi:xs[i]?=some x):(xs.take (i+1)).all p=((xs.take i).all p&&p x):=by
 rw[qP,hi];simp
theorem Ts{α:Type}{p:α->Bool}{xs:List α}{x:α}(hi:xs[i]?=some x)(h:p x=false):xs.all p=false:=by
 rw[List.all_eq_false];exact⟨x,bW hi,by simp[h]⟩
def insP:List (Str×JV)->Str->JV->List (Str×JV)
 |[],k,x=>[(k,x)]
 |(a,y)::r,k,x=>if Op.bytesLess k a then(k,x)::(a,y)::r else(a,y)::insP r k x
end
section
open Go
def gA(s:Str)(i:Nat):Int:=match s[i]? with|some b=>(b.toNat:Int)|none=>-1
def nB(s:Str)(i:Nat):Bool:=decide (128<=gA s i)&&decide (gA s i<192)
def fK(s:Str)(i:Nat):Nat:=
 let c:=gA s i
 if c<0 then 0 else if c<128 then 1
 else if 194<=c/\c<224/\nB s (i+1)=true then 2
 else if 224<=c/\c<240/\nB s (i+1)=true/\nB s (i+2)=true/\
  2048<=(c-224)*4096+(gA s (i+1)-128)*64+gA s (i+2)-128/\((c-224)*4096+(gA s (i+1)-128)*64+gA s (i+2)-128<55296\/57343<(c-224)*4096+(gA s (i+1)-128)*64+gA s (i+2)-128)then 3
 else if 240<=c/\c<245/\nB s (i+1)=true/\nB s (i+2)=true/\nB s (i+3)=true/\
  65536<=(c-240)*262144+(gA s (i+1)-128)*4096+(gA s (i+2)-128)*64+gA s (i+3)-128/\(c-240)*262144+(gA s (i+1)-128)*4096+(gA s (i+2)-128)*64+gA s (i+3)-128<=1114111 then 4
 else 0
def ES(s:Str):Nat->Nat->Bool
 |0,i=>decide (s.length<=i)
 |n+1,i=>if s.length<=i then true else if fK s i=0 then false else ES s n (i+fK s i)
def Rh(s:Str):Bool:=ES s s.length 0
def b8(n:Nat):UInt8:=UInt8.ofNat n
def wrM(n:Nat):Str:=
 if n<128 then [b8 n]else if n<2048 then [b8 (192+n/64),b8 (128+n%64)]
 else if n<65536 then [b8 (224+n/4096),b8 (128+n/64%64),b8 (128+n%64)]
 else [b8 (240+n/262144),b8 (128+n/4096%64),b8 (128+n/64%64),b8 (128+n%64)]
def VY(n:Nat):UInt8:=if n<10 then b8 (48+n)else b8 (87+n)
def VZ(c:UInt8):Str:=
 if c=34\/c=92 then [92,c]else if c=8 then [92,98]else if c=12 then [92,102]else if c=10 then [92,110]else if c=13 then [92,114]else if c=9 then [92,116]
 else if c<32 then [92,117,48,48,b8 (48+c.toNat/16),VY (c.toNat%16)]else [c]
inductive RR (α:Type) where
 |ok (v:α) (i:Nat) (count:Nat)
 |bad (code:Int) (i:Nat)
def isDig(c:Int):Bool:=decide (48<=c)&&decide (c<=57)
def Gb(c:Int):Int:=if 48<=c/\c<=57 then c-48 else if 97<=c/\c<=102 then c-87 else if 65<=c/\c<=70 then c-55 else-1
def SZ(s:Str)(i:Nat):Int:=
 if i+6<=s.length/\gA s i=92/\gA s (i+1)=117/\0<=Gb (gA s (i+2))/\0<=Gb (gA s (i+3))/\0<=Gb (gA s (i+4))/\0<=Gb (gA s (i+5))then
  ((Gb (gA s (i+2))*16+Gb (gA s (i+3)))*16+Gb (gA s (i+4)))*16+Gb (gA s (i+5))else-1
def UL(s:Str)(i:Nat):Option (Str×Nat):=
 let c:=gA s (i+1)
 if c=34 then some ([34],2)else if c=92 then some ([92],2)else if c=47 then some ([47],2)else if c=98 then some ([8],2)else if c=102 then some ([12],2)
 else if c=110 then some ([10],2)else if c=114 then some ([13],2)else if c=116 then some ([9],2)
 else
  let a:=SZ s i
  let b:=SZ s (i+6)
  if a<0\/56320<=a/\a<=57343 then none
  else if 55296<=a/\a<=56319 then(if b<56320\/57343<b then none else some (wrM (65536+(a-55296)*1024+b-56320).toNat,12))
  else some (wrM a.toNat,6)
structure Rb where
 json:Int
 long:Int
 deep:Int
 text:Int
 twice:Int
def GZ(E:Rb)(s:Str)(start:Nat):Nat->Nat->Str->Nat->RR Str
 |0,i,_,_=>.bad E.json i
 |n+1,i,out,cnt=>
  if gA s i=34 then(if 16384<out.length then .bad E.long start else .ok out (i+1) cnt)
  else if gA s i<0 then .bad E.json s.length
  else if gA s i=92 then(match UL s i with|none=>.bad E.json i|some (t,k)=>GZ E s start n (i+k) (out++t) cnt)
  else if gA s i<32 then .bad E.json i
  else if fK s i=0 then .bad E.text i
  else GZ E s start n (i+fK s i) (out++(s.drop i).take (fK s i)) cnt
def quotM(E:Rb)(s:Str)(i cnt:Nat):RR Str:=GZ E s i (s.length+1) (i+1) [] cnt
end
section
open Go
variable{w:World}{K:Value->World->Prop}{cs:List Value}{G:Nat->Prop}{T:TypeId}{i:Nat}{n:Nat}{v:Value}{w':World}{P:Program}{c:UInt8}{S:Nat->Prop}
def bt(s:Str)(i:Nat):Nat:=(s.getD i 0).toNat
theorem zI(s:Str)(i:Nat):bt s i<256:=oJ _
theorem lZ{s:Str}(h:i<s.length):gA s i=(bt s i:Int):=by
 unfold gA bt;rw[aG h,aH,aG h];rfl
theorem Dw{s:Str}(h:s.length<=i):gA s i=-1:=by
 unfold gA;rw[cA h]
theorem get_bt(s:Str)(i:Nat):((ofL s).get! i).toNat=bt s i:=by
 unfold bt;congr 1;show(s.toArray)[i]! =s.getD i 0;rw[List.getElem!_toArray,List.getElem!_eq_getElem?_getD,aH];rfl
theorem IL(s:Str)(i:Nat):Utf8.decode (ofL s) i=Lib.decodeN (s.length-i) (bt s i) (bt s (i+1)) (bt s (i+2)) (bt s (i+3)):=by
 rw[Lib.decode_at,get_bt,get_bt,get_bt,get_bt,gN]
abbrev mor(L k b:Nat):Prop:=k<L/\128<=b/\b<192
abbrev c3(b0 b1 b2:Nat):Nat:=(b0-224)*4096+(b1-128)*64+(b2-128)
abbrev c4(b0 b1 b2 b3:Nat):Nat:=(b0-240)*262144+(b1-128)*4096+(b2-128)*64+(b3-128)
def OZ(L b0 b1 b2 b3:Nat):Nat×Nat:=
 if b0<128 then(b0,1)
 else if 194<=b0/\b0<224/\mor L 1 b1 then((b0-192)*64+(b1-128),2)
 else if 224<=b0/\b0<240/\mor L 1 b1/\mor L 2 b2/\2048<=c3 b0 b1 b2/\(c3 b0 b1 b2<55296\/57343<c3 b0 b1 b2)then(c3 b0 b1 b2,3)
 else if 240<=b0/\b0<245/\mor L 1 b1/\mor L 2 b2/\mor L 3 b3/\65536<=c4 b0 b1 b2 b3/\c4 b0 b1 b2 b3<=1114111 then(c4 b0 b1 b2 b3,4)
 else(65533,1)
theorem Gl{L b0 b1 b2 b3:Nat}(h0:b0<256)(h1:b1<256)(h2:b2<256)(h3:b3<256):Lib.decodeN L b0 b1 b2 b3=OZ L b0 b1 b2 b3:=by
 have m1:(1<L/\b1/64=2)↔mor L 1 b1:=by unfold mor;omega
 have m2:(2<L/\b2/64=2)↔mor L 2 b2:=by unfold mor;omega
 have m3:(3<L/\b3/64=2)↔mor L 3 b3:=by unfold mor;omega
 unfold Lib.decodeN OZ;simp only[m1,m2,m3];by_cases a0:b0<128
 ·rw[aF a0,aF a0]
 rw[aD a0,aD a0];by_cases a1:b0<194
 ·rw[aD (show¬(194<=b0/\b0<224/\mor L 1 b1)fromλh=>by omega),aD (show¬(224<=b0/\b0<240/\_)fromλh=>by omega),aD (show¬(240<=b0/\b0<245/\_)fromλh=>by omega)];rw[aD (show¬(b0/16=14/\_)fromλh=>by omega),aD (show¬(b0/8=30/\_)fromλh=>by omega)];by_cases a2:b0/32=6/\mor L 1 b1
  ·rw[aF a2,aD (by omega)]
  ·rw[aD a2]
 by_cases a2:b0<224
 ·rw[aD (show¬(224<=b0/\b0<240/\_)fromλh=>by omega),aD (show¬(240<=b0/\b0<245/\_)fromλh=>by omega)];rw[aD (show¬(b0/16=14/\_)fromλh=>by omega),aD (show¬(b0/8=30/\_)fromλh=>by omega)];by_cases q:mor L 1 b1
  ·have q':=q;unfold mor at q';rw[aF ⟨by omega,q⟩,aF (by omega),aF ⟨by omega,a2,q⟩];apply eO
   ·show b0%32*64+b1%64=(b0-192)*64+(b1-128);omega
   ·rfl
  ·rw[aD (λh=>q h.2),aD (λh=>q h.2.2)]
 by_cases a3:b0<240
 ·rw[aD (show¬(194<=b0/\b0<224/\mor L 1 b1)fromλh=>by omega),aD (show¬(240<=b0/\b0<245/\_)fromλh=>by omega)];rw[aD (show¬(b0/32=6/\_)fromλh=>by omega),aD (show¬(b0/8=30/\_)fromλh=>by omega)];by_cases q:mor L 1 b1/\mor L 2 b2
  ·have q':=q;unfold mor at q';have e:b0%16*4096+b1%64*64+b2%64=c3 b0 b1 b2:=by unfold c3;omega
   have e2:c3 b0 b1 b2<=65535:=by unfold c3;omega
   rw[aF ⟨by omega,q.1,q.2⟩];simp only[e];by_cases r:2048<=c3 b0 b1 b2/\(c3 b0 b1 b2<55296\/57343<c3 b0 b1 b2)
   ·rw[aF ⟨r.1,by omega⟩,aF ⟨by omega,a3,q.1,q.2,r.1,r.2⟩]
   ·rw[aD (by omega),aD (λh=>r ⟨h.2.2.2.2.1,h.2.2.2.2.2⟩)]
  ·rw[aD (λh=>q ⟨h.2.1,h.2.2⟩),aD (λh=>q ⟨h.2.2.1,h.2.2.2.1⟩)]
 ·rw[aD (show¬(194<=b0/\b0<224/\mor L 1 b1)fromλh=>by omega),aD (show¬(224<=b0/\b0<240/\_)fromλh=>by omega)];rw[aD (show¬(b0/32=6/\_)fromλh=>by omega),aD (show¬(b0/16=14/\_)fromλh=>by omega)];by_cases q:mor L 1 b1/\mor L 2 b2/\mor L 3 b3
  ·have q':=q;unfold mor at q';by_cases a4:b0<248
   ·have e:b0%8*262144+b1%64*4096+b2%64*64+b3%64=c4 b0 b1 b2 b3:=by unfold c4;omega
    rw[aF ⟨by omega,q.1,q.2.1,q.2.2⟩];simp only[e];by_cases r:65536<=c4 b0 b1 b2 b3/\c4 b0 b1 b2 b3<=1114111
    ·rw[aF ⟨r.1,by omega⟩,aF ⟨by omega,by have:=r.2;unfold c4 at this;omega,q.1,q.2.1,q.2.2,r.1,r.2⟩]
    ·rw[aD (by omega),aD (λh=>r ⟨h.2.2.2.2.2.1,h.2.2.2.2.2.2⟩)]
   ·rw[aD (show¬(b0/8=30/\_)fromλh=>by omega),aD (show¬(240<=b0/\b0<245/\_)fromλh=>by omega)]
  ·rw[aD (λh=>q ⟨h.2.1,h.2.2.1,h.2.2.2⟩),aD (λh=>q ⟨h.2.2.1,h.2.2.2.1,h.2.2.2.2.1⟩)]
theorem Jz{s:Str}{k:Nat}:nB s (i+k)=true↔mor (s.length-i) k (bt s (i+k)):=by
 unfold nB mor;rw[aZ,decide_eq_true_iff,decide_eq_true_iff];rcases mZ (i+k) s.length with h|h
 ·rw[lZ h];omega
 ·rw[Dw h];omega
def Nc(L b0 b1 b2 b3:Nat):Nat:=
 if b0<128 then 1
 else if 194<=b0/\b0<224/\mor L 1 b1 then 2
 else if 224<=b0/\b0<240/\mor L 1 b1/\mor L 2 b2/\2048<=c3 b0 b1 b2/\(c3 b0 b1 b2<55296\/57343<c3 b0 b1 b2)then 3
 else if 240<=b0/\b0<245/\mor L 1 b1/\mor L 2 b2/\mor L 3 b3/\65536<=c4 b0 b1 b2 b3/\c4 b0 b1 b2 b3<=1114111 then 4
 else 0
set_option maxHeartbeats 4000000 in
theorem Bt{s:Str}(h:i<s.length):fK s i=Nc (s.length-i) (bt s i) (bt s (i+1)) (bt s (i+2)) (bt s (i+3)):=by
 unfold fK Nc;simp only[Jz,lZ h];by_cases h1:i+1<s.length
 ·by_cases h2:i+2<s.length
  ·by_cases h3:i+3<s.length
   ·simp only[lZ h1,lZ h2,lZ h3,mor,c3,c4]
    repeat' split
    all_goals first|rfl|(exfalso;omega)
   ·simp only[lZ h1,lZ h2,mor,c3,c4]
    repeat' split
    all_goals first|rfl|(exfalso;omega)
  ·simp only[lZ h1,mor,c3,c4]
   repeat' split
   all_goals first|rfl|(exfalso;omega)
 ·simp only[mor,c3,c4]
  repeat' split
  all_goals first|rfl|(exfalso;omega)
theorem QW(s:Str)(i:Nat)(h:i<s.length):UInt8.ofNat (bt s i)=s[i]:=by
 unfold bt;rw[aH,aG h];simp
theorem yC{s:Str}(h:i<s.length):(s.drop i).take 1=[UInt8.ofNat (bt s i)]:=by
 rw[QW s i h,fS h];rfl
theorem qL{s:Str}(h:i<s.length):(s.drop i).take (n+1)=UInt8.ofNat (bt s i)::(s.drop (i+1)).take n:=by
 rw[QW s i h,fS h];rfl
set_option maxHeartbeats 4000000 in
theorem Fi{s:Str}(h:i<s.length)(h0:fK s i=0):Utf8.decode (ofL s) i=(65533,1):=by
 rw[IL,Gl (zI _ _) (zI _ _) (zI _ _) (zI _ _)];rw[Bt h]at h0;unfold Nc at h0;unfold OZ
 repeat' split at h0
 all_goals first|(exfalso;omega)|skip
 all_goals(repeat rw[aD (by assumption)])
structure ME(s:Str)(i n c:Nat):Prop where
 dec:Utf8.decode (ofL s) i=(c,n)
 fits:i+n<=s.length
 small:n<=4
 bytes:Lib.encodeRune c=(s.drop i).take n
 low:n=1->c=bt s i/\c<128
 high:2<=n->128<=c/\128<=bt s i
 top:c<=1114111
 val:c<55296\/57343<c
theorem wR(l:List Int):(l.map λx=>x.toNat.toUInt8)=l.map λx=>UInt8.ofNat x.toNat:=rfl
set_option maxHeartbeats 8000000 in
theorem qM{s:Str}(h:i<s.length)(h0:fK s i≠0):∃c,ME s i (fK s i) c:=by
 have e:=IL s i;rw[Gl (zI _ _) (zI _ _) (zI _ _) (zI _ _)]at e;have hr:=Bt h;have l0:=zI s i;generalize hn:fK s i=n at*
 unfold Nc at hr;unfold OZ at e;by_cases a1:bt s i<128
 ·rw[aF a1]at hr e;subst hr;refine⟨_,e,by omega,by omega,?_,λ_=>⟨rfl,a1⟩,λh=>by omega,by omega,by omega⟩;rw[yC h,Lib.encodeRune,Lib.encodeRuneZ_one (by omega) (by omega)];simp
 rw[aD a1]at hr e;by_cases a2:194<=bt s i/\bt s i<224/\mor (s.length-i) 1 (bt s (i+1))
 ·rw[aF a2]at hr e;subst hr;obtain⟨a2,a3,a4,a5,a6⟩:=a2;refine⟨_,e,by omega,by omega,?_,λh=>by omega,λh=>by omega,by omega,by omega⟩;rw[qL h,yC (by omega),Lib.encodeRune,Lib.encodeRuneZ_two (by omega) (by omega)];simp only[bS,pR,wR];rw[show((192:Int)+(((bt s i-192)*64+(bt s (i+1)-128):Nat):Int)/64).toNat=bt s i by omega,show((128:Int)+(((bt s i-192)*64+(bt s (i+1)-128):Nat):Int)%64).toNat=bt s (i+1)by omega]
 rw[aD a2]at hr e;by_cases a3:224<=bt s i/\bt s i<240/\mor (s.length-i) 1 (bt s (i+1))/\mor (s.length-i) 2 (bt s (i+2))/\2048<=c3 (bt s i) (bt s (i+1)) (bt s (i+2))/\(c3 (bt s i) (bt s (i+1)) (bt s (i+2))<55296\/57343<c3 (bt s i) (bt s (i+1)) (bt s (i+2)))
 ·rw[aF a3]at hr e;subst hr;obtain⟨p1,p2,⟨p3,p4,p5⟩,⟨p6,p7,p8⟩,p9,p10⟩:=a3;have q3:c3 (bt s i) (bt s (i+1)) (bt s (i+2))=(bt s i-224)*4096+(bt s (i+1)-128)*64+(bt s (i+2)-128):=rfl;refine⟨_,e,by omega,by omega,?_,λh=>by omega,λh=>by omega,by omega,by omega⟩;rw[qL h,qL (by omega),yC (by omega),Lib.encodeRune,Lib.encodeRuneZ_three (by omega)];simp only[bS,pR,wR];rw[show((224:Int)+((c3 (bt s i) (bt s (i+1)) (bt s (i+2)):Nat):Int)/4096).toNat=bt s i by unfold c3;omega,show((128:Int)+((c3 (bt s i) (bt s (i+1)) (bt s (i+2)):Nat):Int)/64%64).toNat=bt s (i+1)by unfold c3;omega,show((128:Int)+((c3 (bt s i) (bt s (i+1)) (bt s (i+2)):Nat):Int)%64).toNat=bt s (i+2)by unfold c3;omega]
 rw[aD a3]at hr e;by_cases a4:240<=bt s i/\bt s i<245/\mor (s.length-i) 1 (bt s (i+1))/\mor (s.length-i) 2 (bt s (i+2))/\mor (s.length-i) 3 (bt s (i+3))/\65536<=c4 (bt s i) (bt s (i+1)) (bt s (i+2)) (bt s (i+3))/\c4 (bt s i) (bt s (i+1)) (bt s (i+2)) (bt s (i+3))<=1114111
 ·rw[aF a4]at hr e;subst hr;obtain⟨p1,p2,⟨p3,p4,p5⟩,⟨p6,p7,p8⟩,⟨p9,p10,p11⟩,p12,p13⟩:=a4;refine⟨_,e,by omega,by omega,?_,λh=>by omega,λh=>by omega,by omega,by omega⟩;rw[qL h,qL (by omega),qL (by omega),yC (by omega),Lib.encodeRune,Lib.encodeRuneZ_four (by omega) (by omega)];simp only[bS,pR,wR];rw[show((240:Int)+((c4 (bt s i) (bt s (i+1)) (bt s (i+2)) (bt s (i+3)):Nat):Int)/262144).toNat=bt s i by unfold c4;omega,show((128:Int)+((c4 (bt s i) (bt s (i+1)) (bt s (i+2)) (bt s (i+3)):Nat):Int)/4096%64).toNat=bt s (i+1)by unfold c4;omega,show((128:Int)+((c4 (bt s i) (bt s (i+1)) (bt s (i+2)) (bt s (i+3)):Nat):Int)/64%64).toNat=bt s (i+2)by unfold c4;omega,show((128:Int)+((c4 (bt s i) (bt s (i+1)) (bt s (i+2)) (bt s (i+3)):Nat):Int)%64).toNat=bt s (i+3)by unfold c4;omega]
 rw[aD a4]at hr;exact absurd hr h0
def sK(s:Str)(i:Nat):Nat:=max (fK s i) 1
theorem Mi{s:Str}(h:i<s.length):(Utf8.decode (ofL s) i).2=sK s i:=by
 unfold sK;by_cases h0:fK s i=0
 ·rw[Fi h h0,h0];rfl
 ·obtain⟨c,hc⟩:=qM h h0;rw[hc.dec];show fK s i=max (fK s i) 1;omega
theorem Ji{s:Str}(h:i<s.length):i+sK s i<=s.length:=by
 unfold sK;by_cases h0:fK s i=0
 ·rw[h0];show i+1<=_;omega
 ·obtain⟨c,hc⟩:=qM h h0;have:=hc.fits;omega
theorem KD(s:Str)(i:Nat):1<=sK s i:=by unfold sK;omega
theorem rune_end{s:Str}(h:s.length<=i):fK s i=0:=by
 unfold fK;simp only[Dw h];rfl
theorem Kj(h:n<55296\/57343<n/\n<=1114111):Lib.encodeRune n=wrM n:=by
 unfold Lib.encodeRune wrM b8;by_cases h1:n<128
 ·rw[Lib.encodeRuneZ_one (by omega) (by omega),aF h1];simp
 rw[aD h1];by_cases h2:n<2048
 ·rw[Lib.encodeRuneZ_two (by omega) (by omega),aF h2];simp only[bS,pR,wR];rw[show((192:Int)+(n:Int)/64).toNat=192+n/64 by omega,show((128:Int)+(n:Int)%64).toNat=128+n%64 by omega]
 rw[aD h2];by_cases h3:n<65536
 ·rw[Lib.encodeRuneZ_three (by omega),aF h3];simp only[bS,pR,wR];rw[show((224:Int)+(n:Int)/4096).toNat=224+n/4096 by omega,show((128:Int)+(n:Int)/64%64).toNat=128+n/64%64 by omega,show((128:Int)+(n:Int)%64).toNat=128+n%64 by omega]
 ·rw[Lib.encodeRuneZ_four (by omega) (by omega),aD h3];simp only[bS,pR,wR];rw[show((240:Int)+(n:Int)/262144).toNat=240+n/262144 by omega,show((128:Int)+(n:Int)/4096%64).toNat=128+n/4096%64 by omega,show((128:Int)+(n:Int)/64%64).toNat=128+n/64%64 by omega,show((128:Int)+(n:Int)%64).toNat=128+n%64 by omega]
end
end Go.Eng
namespace Go.Lex
section
open Go Go.Eng Go.Num
structure Tok where
 k:Int
 t:Str
 a:Int
deriving DecidableEq
def eD(c:UInt8):Bool:=(97<=c&&c<=122)||(65<=c&&c<=90)||c==95
def eH(c:UInt8):Bool:=48<=c&&c<=57
def dM(c:UInt8):Bool:=eD c||eH c||c==45
def cS(p:UInt8->Bool):Str->Nat
 |[]=>0
 |c::r=>if p c then cS p r+1 else 0
def kW(p s:Str):Bool:=p.isPrefixOf s
def cZ:Nat->Str->Nat×Int
 |0,_=>(0,0)
 |_+1,[]=>(0,0)
 |n+1,c::r=>
  if c==32||c==9||c==13 then((cZ n r).1+1,(cZ n r).2)
  else if c==35||kW [47,47] (c::r)then
   let k:=cS (λb=>b !=10) (c::r)
   ((cZ n ((c::r).drop k)).1+k,(cZ n ((c::r).drop k)).2)
  else if kW [47,42] (c::r)then
   let i:=Lib.index (r.drop 1) [42,47]
   if i<0 then(0,40)
   else((cZ n ((c::r).drop (i.toNat+4))).1+(i.toNat+4),(cZ n ((c::r).drop (i.toNat+4))).2)
  else(0,0)
def iT(k:Nat)(r:Nat×Int):Nat×Int:=if r.2=0 then(r.1+k,0)else(0,r.2)
def escOk(c:UInt8):Bool:=c==34||c==92||c==110||c==116||c==114||c==36
mutual
def mM:Nat->Str->Nat->Nat×Int
 |0,_,_=>(0,40)
 |_+1,[],_=>(0,40)
 |n+1,c::r,d=>
  if c==34 then(1,0)
  else if c==10 then(0,40)
  else if c==92 then
   match r with
   |[]=>(0,40)
   |e::r'=>if escOk e then iT 2 (mM n r' d)else(0,40)
  else if kW [36,123] (c::r)then
   if 24<d+1 then(0,7)
   else
    let i:=zB n (r.drop 1) (d+1)
    if i.2=0 then iT (i.1+2) (mM n ((r.drop 1).drop i.1) d)else(0,i.2)
  else iT 1 (mM n r d)
def zB:Nat->Str->Nat->Nat×Int
 |0,_,_=>(0,40)
 |_+1,[],_=>(0,40)
 |n+1,c::r,d=>
  if c==125 then(1,0)
  else if c==10 then(0,40)
  else if c==123 then
   if 24<d+1 then(0,7)
   else
    let i:=zB n r (d+1)
    if i.2=0 then iT (i.1+1) (zB n (r.drop i.1) d)else(0,i.2)
  else if c==34 then
   let i:=mM n r d
   if i.2=0 then iT (i.1+1) (zB n (r.drop i.1) d)else(0,i.2)
  else iT 1 (zB n r d)
end
def gO:Str->Str
 |[]=>[]
 |c::r=>if c==92||c==34||c==36 then 92::c::gO r else if c==9 then 92::116::gO r else if c==13 then 92::114::gO r else c::gO r
def kN:Nat->Str->Str->Str×Nat×Int
 |0,_,_=>([],0,40)
 |n+1,name,s=>
  let k:=cS (λb=>b !=10) s
  let line:=s.take k
  if line.drop (cS (λb=>b==32||b==9) line)=name then([],k,0)
  else if s.length<=k then([],0,40)
  else
   let x:=kN n name (s.drop (k+1))
   if x.2.2=0 then(gO line++[92,110]++x.1,x.2.1+(k+1),0)else([],0,x.2.2)
def fN(s:Str):Str×Nat×Int:=
 let n:=if eD ((s.drop 2).headD 0)then cS dM (s.drop 2)else 0
 if n=0 then([],0,40)
 else if(s.drop (2+n)).head?=some 10 then
  let x:=kN (s.length+1) ((s.drop 2).take n) (s.drop (2+n+1))
  if x.2.2=0 then(x.1,x.2.1+(2+n+1),0)else([],0,x.2.2)
 else([],0,40)
def qV:List Str:=[[61,61],[33,61],[60,61],[62,61],[38,38],[124,124]]
def zT:Str:=[123,125,91,93,40,41,61,43,45,42,47,37,60,62,33,63,58,44,46]
def nO(s:Str):Str:=
 if qV.contains (s.take 2)then s.take 2 else if zT.contains (s.headD 0)then s.take 1 else []
def iH(s:Str):Tok×Nat×Int:=
 let c:=s.headD 0
 if c==10 then(⟨5,[10],0⟩,1,0)
 else if eD c then
  let n:=cS dM s
  (⟨1,s.take n,0⟩,n,if 32<n then 3 else 0)
 else if eH c then
  let n:=cS eH s
  (⟨2,s.take n,0⟩,n,if(n<s.length&&eD ((s.drop n).headD 0))||(c==48&&1<n)then 40 else if goodN (s.take n)then 0 else 3)
 else if c==34 then
  let r:=mM (s.length+1) (s.drop 1) 0
  if r.2=0 then(⟨3,(s.drop 1).take (r.1-1),0⟩,r.1+1,0)else(⟨0,[],0⟩,0,r.2)
 else if kW [60,60] s then
  let r:=fN s
  (⟨3,r.1,0⟩,r.2.1,r.2.2)
 else(⟨4,nO s,0⟩,(nO s).length,if(nO s).length=0 then 40 else 0)
def zL:Nat->Str->Nat->Option Nat
 |0,_,_=>none
 |n+1,s,i=>if s.length<=i then none else if fK s i=0 then some i else zL n s (i+sK s i)
inductive RS where
 |ok (l:List Tok)
 |bad (code at_:Int)
deriving DecidableEq
def iJ:Nat->Str->Nat->Nat->RS
 |0,_,_,_=>.bad 0 0
 |n+1,s,at_,cnt=>
  let k:=cZ (s.length+1) s
  let r:=s.drop k.1
  if k.2≠0 then .bad k.2 (at_+k.1:Nat)
  else if r=[]then .ok [⟨0,[],(at_+k.1:Nat)⟩]
  else
   let o:=iH r
   if o.2.2≠0 then .bad o.2.2 (at_+k.1:Nat)
   else if cnt=4096 then .bad 3 (at_+k.1:Nat)
   else match iJ n (r.drop o.2.1) (at_+k.1+o.2.1) (cnt+1)with
    |.ok l=>.ok (⟨o.1.k,o.1.t,(at_+k.1:Nat)⟩::l)
    |x=>x
def iI(s:Str):RS:=
 if 16384<s.length then .bad 3 0
 else match zL (s.length+1) s 0 with
  |some i=>.bad 31 (i:Nat)
  |none=>iJ (s.length+1) s 0 0
end
end Go.Lex
namespace Go.Syn
section
open Go Go.Eng Go.Lex
structure Ex where
 k:Int
 t:Str
 args:List Nat
 keys:List Str
 a:Int
deriving DecidableEq
structure Atr where
 n:Str
 e:Nat
 a:Int
deriving DecidableEq
structure Blk where
 typ:Str
 labels:List Str
 attrs:List Atr
 blocks:List Nat
 a:Int
deriving DecidableEq
structure Fl where
 ex:List Ex
 bl:List Blk
 top:List Nat
deriving DecidableEq
structure PS where
 toks:List Tok
 i:Nat
 off:Int
 deep:Nat
 quiet:Bool
 ex:List Ex
 bl:List Blk
inductive R (α:Type) where
 |ok (x:α) (s:PS)
 |err (c a:Int)
def R.bind{α β:Type}(r:R α)(f:α->PS->R β):R β:=match r with
 |.ok x s=>f x s
 |.err c a=>.err c a
def eS:List Tok->Nat
 |[]=>0
 |t::r=>if t.k=5 then eS r+1 else 0
def aM(s:PS):PS:=if s.quiet=true then{s with i:=s.i+eS (s.toks.drop s.i)}else s
def jX(s:PS):Tok:=s.toks.getD s.i ⟨0,[],0⟩
def cur(s:PS):Tok:={jX (aM s)with a:=(jX (aM s)).a+s.off}
def step1(s:PS):PS:={s with i:=s.i+1}
def fB(s:PS):PS:=if(cur s).k≠0 then step1 (aM s)else aM s
def isS(s:PS)(w:Str):Bool:=decide ((cur s).k=4)&&decide ((cur s).t=w)
def aW(s:PS)(w:Str):Bool×PS:=if isS s w=true then(true,step1 (aM s))else(false,aM s)
def jR(s:PS)(w:Str):R Unit:=if isS s w=true then .ok () (step1 (aM s))else .err 50 (cur s).a
def iC(s:PS)(k:Int):R Tok:=if(cur s).k=k then .ok (cur s) (fB s)else .err 50 (cur s).a
def dG(s:PS):PS:={aM s with i:=(aM s).i+eS (s.toks.drop (aM s).i)}
def lL(s:PS)(e:Ex):R Nat:=.ok s.ex.length {s with ex:=s.ex++[e]}
def within{α:Type}(s:PS)(a:Int)(quiet:Bool)(f:PS->R α):R α:=
 if s.deep=24 then .err 7 a
 else(f {s with deep:=s.deep+1,quiet:=quiet}).bind λx s'=>.ok x {s' with deep:=s.deep,quiet:=s.quiet}
def dT:Str->Str
 |[]=>[]
 |[c]=>if c=92 then []else [c]
 |c::e::r=>if c=92 then(if e=110 then 10 else if e=116 then 9 else if e=114 then 13 else e)::dT r else c::dT (e::r)
mutual
def zK:Nat->Str->Int->Nat
 |0,_,_=>0
 |_+1,[],_=>0
 |n+1,c::r,d=>
  if c=123 then 1+zK n r (d+1)
  else if c=125 then(if d-1=0 then 1 else 1+zK n r (d-1))
  else if c=34 then(1+yJ n r)+zK n (r.drop (yJ n r)) d
  else 1+zK n r d
def yJ:Nat->Str->Nat
 |0,_=>0
 |_+1,[]=>0
 |n+1,c::r=>
  if c=34 then 1
  else if c=92 then(match r with|[]=>1|_::r'=>2+yJ n r')
  else if kW [36,123] (c::r)=true then(1+zK n r 0)+yJ n (r.drop (zK n r 0))
  else 1+yJ n r
end
def Ap(s:Str):Nat:=zK (s.length+1) s 0
def insP:Str->Option (Nat×Nat)
 |[]=>none
 |[_]=>none
 |c::e::r=>
  if c=92 then(insP r).map λx=>(x.1+2,x.2+2)
  else if c=36/\e=123 then some (0,1+Ap (e::r))
  else(insP (e::r)).map λx=>(x.1+1,x.2+1)
def kX(s:PS)(t:Tok):R Str:=if(insP t.t).isSome=true then .err 50 t.a else .ok (dT t.t) s
def jU(E:PS->R Nat)(s:PS)(t:Str)(a:Int):R Nat:=match iI t with
 |.bad c b=>.err c (a+b)
 |.ok l=>(E ⟨l,0,a,s.deep,false,s.ex,s.bl⟩).bind λx q=>(iC q 0).bind λ_ q'=>.ok x {s with ex:=q'.ex,bl:=q'.bl}
def gT(E:PS->R Nat):Nat->PS->Str->Int->List Nat->List Str->R (List Nat×List Str)
 |0,_,_,_,_,_=>.err 0 0
 |n+1,s,rest,a,us,ks=>
  if rest=[]then .ok (us,ks) s
  else match insP rest with
   |none=>.ok (us++[s.ex.length],ks++[[116]]) {s with ex:=s.ex++[⟨5,dT rest,[],[],a⟩]}
   |some (i,e)=>
    let s1:=if 0<i then{s with ex:=s.ex++[⟨5,dT (rest.take i),[],[],a⟩]}else s
    let as1:=if 0<i then us++[s.ex.length]else us
    let ks1:=if 0<i then ks++[[116]]else ks
    if i<e then
     (within s1 (a+i) false λq=>jU E q ((rest.drop (i+2)).take (e-1-(i+2))) (a+i+2)).bind λx s2=>gT E n s2 (rest.drop e) (a+e) (as1++[x]) (ks1++[[101]])
    else gT E n s1 (rest.drop e) (a+e) as1 ks1
def qT(E:PS->R Nat)(s:PS)(t:Tok):R Nat:=
 if(insP t.t).isSome=true then(gT E (t.t.length+1) s t.t (t.a+1) [] []).bind λx s'=>lL s' ⟨6,[],x.1,x.2,t.a⟩
 else lL s ⟨5,dT t.t,[],[],t.a⟩
def oH:Str:=[102,111,114]
def kIn:Str:=[105,110]
def kJ(t:Str):Int:=if t=[110,117,108,108]then 1 else if t=[116,114,117,101]then 2 else if t=[102,97,108,115,101]then 3 else 9
def lQ(E:PS->R Nat)(w:Str):Nat->PS->List Nat->R (List Nat)
 |0,_,_=>.err 0 0
 |n+1,s,out=>
  if(aW s w).1=true then .ok out (aW s w).2
  else if out=[]then(E (aW s w).2).bind λx s'=>lQ E w n s' (out++[x])
  else(jR (aW s w).2 [44]).bind λ_ s1=>
   if(aW s1 w).1=true then .ok out (aW s1 w).2
   else(E (aW s1 w).2).bind λx s'=>lQ E w n s' (out++[x])
def xF(E:PS->R Nat)(w:Str)(s:PS):R (List Nat):=lQ E w (s.toks.length+1) s []
def qY(E:PS->R Nat)(s:PS)(a:Int):R Ex:=
 let s1:=step1 s
 if(cur s1).k≠1\/(cur s1).t≠oH then(xF E [93] (aM s1)).bind λus s'=>.ok ⟨7,[],us,[],a⟩ s'
 else(iC (step1 (aM s1)) 1).bind λt s2=>(iC s2 1).bind λu s3=>
  if u.t≠kIn then .err 50 u.a
  else(E s3).bind λx s4=>(jR s4 [58]).bind λ_ s5=>(E s5).bind λy s6=>(jR s6 [93]).bind λ_ s7=>.ok ⟨29,t.t,[x,y],[],a⟩ s7
def tQ(E:PS->R Nat)(a:Int):Nat->PS->List Nat->List Str->R Ex
 |0,_,_,_=>.err 0 0
 |n+1,s,us,ks=>
  if(aW s [125]).1=true then .ok ⟨8,[],us,ks,a⟩ (aW s [125]).2
  else
   let s1:=(aW s [125]).2
   let t:=cur s1
   let s2:=fB s1
   (if t.k=3 then kX s2 t else if t.k=1 then .ok t.t s2 else .err 50 t.a).bind λk s3=>
     if ks.contains k=true then .err 2 t.a
     else(jR s3 [61]).bind λ_ s4=>(E s4).bind λx s5=>
      if(aW s5 [44]).1=false/\(cur (aW s5 [44]).2).k≠5/\isS (aM (aW s5 [44]).2) [125]=false then .err 50 (cur (aM (aW s5 [44]).2)).a
      else tQ E a n (dG (if(aW s5 [44]).1=true then(aW s5 [44]).2 else aM (aW s5 [44]).2)) (us++[x]) (ks++[k])
def BE(E:PS->R Nat)(s:PS)(a:Int):R Ex:=tQ E a (s.toks.length+1) (dG (step1 s)) [] []
def iL(E:PS->R Nat)(s:PS):R Nat:=
 let t:=cur s
 let s1:=aM s
 if t.k=2 then lL (step1 s1) ⟨4,t.t,[],[],t.a⟩
 else if t.k=3 then qT E (step1 s1) t
 else if t.k=1/\t.t≠oH then
  if isS (step1 s1) [40]=true then
   (within (aM (step1 s1)) (cur (step1 s1)).a true λq=>xF E [41] (step1 q)).bind λus s2=>lL s2 ⟨12,t.t,us,[],t.a⟩
  else lL (aM (step1 s1)) ⟨kJ t.t,if kJ t.t=9 then t.t else [],[],[],t.a⟩
 else if isS s1 [40]=true then within s1 t.a true λq=>(E (step1 q)).bind λx q1=>(jR q1 [41]).bind λ_ q2=>.ok x q2
 else if isS s1 [91]=true then(within s1 t.a true λq=>qY E q t.a).bind λe s2=>lL s2 e
 else if isS s1 [123]=true then(within s1 t.a false λq=>BE E q t.a).bind λe s2=>lL s2 e
 else .err 50 t.a
def iV(E:PS->R Nat):Nat->PS->Nat->R Nat
 |0,_,_=>.err 0 0
 |n+1,s,x=>
  let t:=cur s
  let s1:=aM s
  if(aW s1 [46]).1=true then(iC (aW s1 [46]).2 1).bind λu s2=>(lL s2 ⟨10,u.t,[x],[],t.a⟩).bind λy s3=>iV E n s3 y
  else if isS s1 [91]=true then
   (within s1 t.a true λq=>
     if(aW (step1 q) [42]).1=true then(jR (aW (step1 q) [42]).2 [93]).bind λ_ q2=>.ok none q2
     else(E (aW (step1 q) [42]).2).bind λy q1=>(jR q1 [93]).bind λ_ q2=>.ok (some y) q2).bind λo s2=>
     match o with
     |some y=>(lL s2 ⟨11,[],[x,y],[],t.a⟩).bind λz s3=>iV E n s3 z
     |none=>(jR s2 [46]).bind λ_ s3=>(iC s3 1).bind λu s4=>(lL s4 ⟨30,u.t,[x],[],t.a⟩).bind λz s5=>iV E n s5 z
  else .ok x s1
def xA(E:PS->R Nat)(s:PS):R Nat:=(iL E s).bind λx s1=>iV E (s.toks.length+1) s1 x
def nN(E S:PS->R Nat)(s:PS):R Nat:=
 let t:=cur s
 let s1:=aM s
 if isS s1 [33]=true then(within s1 t.a s1.quiet λq=>S (step1 q)).bind λx s2=>lL s2 ⟨14,[],[x],[],t.a⟩
 else if isS s1 [45]=true then(within s1 t.a s1.quiet λq=>S (step1 q)).bind λx s2=>lL s2 ⟨13,[],[x],[],t.a⟩
 else xA E s1
def sT(n:Nat)(w:Str):Int:=
 if n=0 then(if w=[124,124]then 27 else 0)
 else if n=1 then(if w=[38,38]then 26 else 0)
 else if n=2 then(if w=[61,61]then 20 else if w=[33,61]then 21 else 0)
 else if n=3 then(if w=[60]then 22 else if w=[62]then 23 else if w=[60,61]then 24 else if w=[62,61]then 25 else 0)
 else if n=4 then(if w=[43]then 15 else if w=[45]then 16 else 0)
 else if n=5 then(if w=[42]then 17 else if w=[47]then 18 else if w=[37]then 19 else 0)
 else 0
def lA(t:Tok)(n:Nat):Int:=if t.k=4 then sT n t.t else 0
def nW(J:PS->R Nat)(n:Nat):Nat->PS->Nat->R Nat
 |0,_,_=>.err 0 0
 |f+1,s,a=>
  let t:=cur s
  if lA t n=0 then .ok a (aM s)
  else(J (step1 (aM s))).bind λb s1=>(lL s1 ⟨lA t n,[],[a,b],[],t.a⟩).bind λx s2=>nW J n f s2 x
def iD(E S:PS->R Nat):Nat->PS->R Nat
 |0=>nN E S
 |m+1=>λs=>(iD E S m s).bind λa s1=>nW (iD E S m) (5-m) (s.toks.length+1) s1 a
def rX(E S:PS->R Nat)(s:PS):R Nat:=(iD E S 6 s).bind λa s1=>
 let t:=cur s1
 if(aW s1 [63]).1=true then
  (within (aW s1 [63]).2 t.a (aW s1 [63]).2.quiet λq=>(E q).bind λx q1=>(jR q1 [58]).bind λ_ q2=>(E q2).bind λy q3=>.ok (x,y) q3).bind λz s2=>lL s2 ⟨28,[],[a,z.1,z.2],[],t.a⟩
 else .ok a (aW s1 [63]).2
def dead:PS->R Nat:=λ_=>.err 0 0
def gV:Nat->(PS->R Nat)×(PS->R Nat)
 |0=>(rX dead dead,nN dead dead)
 |d+1=>(rX (gV d).1 (gV d).2,nN (gV d).1 (gV d).2)
def kB:Nat->PS->List Str->R (List Str)
 |0,_,_=>.err 0 0
 |n+1,s,ls=>
  if(cur s).k=3 then(kX (fB s) (cur s)).bind λl s1=>kB n s1 (ls++[l])
  else .ok ls (aM s)
def qF(E B:PS->R Nat)(s:PS)(us:List Atr)(bs:List Nat):R (List Atr×List Nat):=(iC s 1).bind λt s1=>
 if(aW s1 [61]).1=true then(E (aW s1 [61]).2).bind λx s2=>.ok (us++[⟨t.t,x,t.a⟩],bs) s2
 else(B {(aW s1 [61]).2 with i:=(aW s1 [61]).2.i-1}).bind λx s2=>.ok (us,bs++[x]) s2
def jT(E B:PS->R Nat):Nat->PS->List Atr->List Nat->R (List Atr×List Nat)
 |0,_,_,_=>.err 0 0
 |n+1,s,us,bs=>
  if(aW s [125]).1=true then .ok (us,bs) (aW s [125]).2
  else(qF E B (aW s [125]).2 us bs).bind λx s1=>
   if(cur s1).k≠5/\isS (aM s1) [125]=false then .err 50 (cur (aM s1)).a
   else jT E B n (dG (aM s1)) x.1 x.2
def nY(E B:PS->R Nat)(s:PS):R Nat:=(iC s 1).bind λt s1=>(kB (s.toks.length+1) s1 []).bind λls s2=>
 if isS s2 [123]=false then .err 50 (cur s2).a
 else(within (aM s2) (cur s2).a false λq=>jT E B (s.toks.length+1) (dG (step1 q)) [] []).bind λx s3=>
  .ok s3.bl.length {s3 with bl:=s3.bl++[⟨t.t,ls,x.1,x.2,t.a⟩]}
def pY:Nat->PS->R Nat
 |0=>nY dead dead
 |d+1=>nY (gV d).1 (pY d)
def tG:Nat->PS->List Nat->R (List Nat)
 |0,_,_=>.err 0 0
 |n+1,s,top=>
  if(cur s).k=0 then .ok top (aM s)
  else(pY 24 (aM s)).bind λx s1=>
   if(cur s1).k≠5/\(cur s1).k≠0 then .err 50 (cur (aM s1)).a
   else tG n (dG (aM s1)) (top++[x])
inductive PR where
 |ok (f:Fl)
 |bad (c a:Int)
deriving DecidableEq
def gD(s:Str):PR:=match iI s with
 |.bad c a=>.bad c a
 |.ok l=>match tG (l.length+1) (dG ⟨l,0,0,0,false,[],[]⟩) []with
  |.ok top s'=>.ok ⟨s'.ex,s'.bl,top⟩
  |.err c a=>.bad c a
end
end Go.Syn
namespace Go.Proofs.YtjblfcfdeaagpaaGreatDoor
section
open Go Go.Eng Go.RowKit Go.Syn Go.Lex
variable{w:World}{K:Value->World->Prop}{cs:List Value}{G:Nat->Prop}{T:TypeId}{i:Nat}{n:Nat}{v:Value}{w':World}{P:Program}{c:UInt8}{S:Nat->Prop}
abbrev TkT:TypeId:=95
abbrev ExT:TypeId:=35
abbrev AtT:TypeId:=40
abbrev BkT:TypeId:=38
abbrev FlT:TypeId:=28
abbrev PsT:TypeId:=92
abbrev gS:TypeId:=3
abbrev StT:TypeId:=9
theorem UM:uI Tryz.prog 24 ExT 5 80:=⟨by kernel_rfl,by kernel_rfl,by decide⟩
theorem UN:uI Tryz.prog 25 BkT 5 96:=⟨by kernel_rfl,by kernel_rfl,by decide⟩
theorem UO:uI Tryz.prog 36 AtT 3 32:=⟨by kernel_rfl,by kernel_rfl,by decide⟩
theorem Ak:uI Tryz.prog 26 gS 1 8:=⟨by kernel_rfl,by kernel_rfl,by decide⟩
theorem IK:uI Tryz.prog 33 StT 1 16:=⟨by kernel_rfl,by kernel_rfl,by decide⟩
theorem QQ:uI Tryz.prog 86 TkT 3 32:=⟨by kernel_rfl,by kernel_rfl,by decide⟩
def ints(l:List Nat):List Value:=l.map λn=>i64 (n:Nat)
def strs(l:List Str):List Value:=l.map str
def AJ(l:List Atr):List Value:=l.flatMap λa=>[str a.n,i64 (a.e:Nat),i64 a.a]
def toks(l:List Tok):List Value:=l.flatMap λt=>[i64 t.k,str t.t,i64 t.a]
theorem LO(l:List Nat):(ints l).length=l.length*1:=by simp[ints]
theorem BR(a b:List Nat):ints (a++b)=ints a++ints b:=by simp[ints]
theorem KA(a b:List Str):strs (a++b)=strs a++strs b:=by simp[strs]
theorem Ah{α:Type}(f:α->List Value)(h:∀a,(f a).length=3):∀l:List α,(l.flatMap f).length=l.length*3
 |[]=>rfl
 |a::l=>by rw[dL,aB,h,Ah f h l,aA];omega
theorem Gy(l:List Atr):(AJ l).length=l.length*3:=Ah _ (λ_=>rfl) l
theorem Bl(l:List Tok):(toks l).length=l.length*3:=Ah _ (λ_=>rfl) l
theorem wQ{α:Type}(f:α->List Value)(h:∀a,(f a).length=3):∀(l:List α) (i j:Nat) (x:α),l[i]?=some x->j<3->(l.flatMap f)[i*3+j]?=(f x)[j]?
 |[],i,_,_,hi,_=>by simp at hi
 |a::l,0,j,x,hi,hj=>by
  simp only[dV,bD]at hi
  subst hi
  rw[dL,dA (by rw[h];omega),Nat.zero_mul,aQ]
 |a::l,i+1,j,x,hi,hj=>by
  rw[dK]at hi
  rw[dL,cJ (by rw[h];omega),h,show(i+1)*3+j-3=i*3+j by omega]
  exact wQ f h l i j x hi hj
theorem EW{l:List Tok}{j:Nat}{t:Tok}(h:l[i]?=some t)(hj:j<3):(toks l)[i*3+j]?=[i64 t.k,str t.t,i64 t.a][j]?:=wQ _ (λ_=>rfl) l i j t h hj
def nH{α:Type}(R:α->List Value->Prop)(n:Nat)(xs:List α)(c:List Value):Prop:=c.length=xs.length*n/\∀i x,xs[i]?=some x->R x ((c.drop (i*n)).take n)
theorem nH.nil{α:Type}(R:α->List Value->Prop)(n:Nat):nH R n [] []:=⟨by simp,λi x h=>by simp at h⟩
theorem nH.snoc{α:Type}{R:α->List Value->Prop}{xs:List α}{c d:List Value}{x:α}(h:nH R n xs c)(hd:R x d)(hl:d.length=n):nH R n (xs++[x]) (c++d):=by
 refine⟨by rw[aB,h.1,hl,aB,aA,aC,Nat.add_mul];omega,λi y hy=>?_⟩;by_cases hi:i<xs.length
 ·rw[dA hi]at hy;have:=h.2 i y hy;have hm:i*n+n<=xs.length*n:=by rw[<-Cq];exact kS _ hi
  rw[Av (by rw[h.1];omega),As (by rw[aJ,h.1];omega)];exact this
 ·rw[cJ (by omega)]at hy;have h0:i-xs.length=0:=by
   by_cases h0:i-xs.length=0
   ·exact h0
   ·rw[cA (by simp;omega)]at hy;cases hy
  obtain rfl:i=xs.length:=by omega
  rw[h0]at hy;simp only[dV,bD]at hy;subst hy;rw[<-h.1,oU,lT (by omega)];exact hd
theorem nH.imp{α:Type}{R R':α->List Value->Prop}{xs:List α}{c:List Value}(h:nH R n xs c)(hi:∀x d,(∀v∈d,v∈c)->R x d->R' x d):nH R' n xs c:=
 ⟨h.1,λi x hx=>hi x _ (λv hv=>List.mem_of_mem_drop (List.mem_of_mem_take hv)) (h.2 i x hx)⟩
def ub(c:List Value):List Nat:=c.filterMap Value.ownBlock
theorem sC(a b:List Value):ub (a++b)=ub a++ub b:=List.filterMap_append
theorem kF{c:List Value}{k:Nat}(hv:v∈c)(hk:v.ownBlock=some k):k∈ub c:=fT.2 ⟨v,hv,hk⟩
theorem fX{k:Nat}:k∈ub [v]↔v.ownBlock=some k:=by simp[ub]
structure Lay where
 vE:Value
 vB:Value
 vT:Value
 cE:List Value
 cB:List Value
def Lay.uses(M:Lay)(f:Nat):List Nat:=f::ub ([M.vE,M.vB,M.vT]++(M.cE++M.cB))
def ExR(w:World)(B:Nat)(e:Ex)(c:List Value):Prop:=
 ∃va vk,c=[i64 e.k,str e.t,va,vk,i64 e.a]/\Own w B gS 1 va e.args.length (ints e.args)/\Own w B StT 1 vk e.keys.length (strs e.keys)
def BkR(w:World)(B:Nat)(b:Blk)(c:List Value):Prop:=
 ∃vl va vb,c=[str b.typ,vl,va,vb,i64 b.a]/\Own w B StT 1 vl b.labels.length (strs b.labels)/\Own w B AtT 3 va b.attrs.length (AJ b.attrs)/\Own w B gS 1 vb b.blocks.length (ints b.blocks)
theorem iG{B:Nat}{e:TypeId}{m:Nat}{xs:List Value}(h:Own w B e m v n xs)(hc:Chg S w w')(hS:∀k,v.ownBlock=some k->¬S k):Own w' B e m v n xs:=by
 obtain⟨hl,hn|⟨g,cap,cur,rfl,hb,hg,r⟩⟩:=h
 ·exact⟨hl,.inl hn⟩
 ·exact⟨hl,.inr ⟨g,cap,cur,rfl,hb,hc.at hg (hS g rfl),r⟩⟩
theorem pF{B:Nat}{e:TypeId}{m:Nat}{xs:List Value}(h:Own w B e m v n xs){k:Nat}(hk:v.ownBlock=some k):k<w.heap.size/\B<=k:=by
 obtain⟨h1,c,h2⟩:=h.block k hk;exact⟨vP h2,h1⟩
theorem ExR.at_{B:Nat}{e:Ex}{c:List Value}(h:ExR w B e c)(hc:Chg S w w')(hS:∀k∈ub c,¬S k):ExR w' B e c:=by
 obtain⟨va,vk,rfl,h1,h2⟩:=h;exact⟨va,vk,rfl,iG h1 hc λk hk=>hS k (kF (v:=va) (by simp) hk),iG h2 hc λk hk=>hS k (kF (v:=vk) (by simp) hk)⟩
theorem BkR.at_{B:Nat}{e:Blk}{c:List Value}(h:BkR w B e c)(hc:Chg S w w')(hS:∀k∈ub c,¬S k):BkR w' B e c:=by
 obtain⟨vl,va,vb,rfl,h1,h2,h3⟩:=h;exact⟨vl,va,vb,rfl,iG h1 hc λk hk=>hS k (kF (v:=vl) (by simp) hk),iG h2 hc λk hk=>hS k (kF (v:=va) (by simp) hk),iG h3 hc λk hk=>hS k (kF (v:=vb) (by simp) hk)⟩
theorem Kq{c d:List Value}(h:∀v∈d,v∈c):∀k∈ub d,k∈ub c:=by
 intro k hk;obtain⟨v,hv,hk⟩:=fT.1 hk;exact kF (h v hv) hk
structure FR(w:World)(B f:Nat)(M:Lay)(ex:List Ex)(bl:List Blk)(top:List Nat):Prop where
 hf:w.heap[f]?=some (.cells [M.vE,M.vB,M.vT].toArray FlT (0,0))
 oE:Own w B ExT 5 M.vE ex.length M.cE
 oB:Own w B BkT 5 M.vB bl.length M.cB
 oT:Own w B gS 1 M.vT top.length (ints top)
 ee:nH (ExR w B) 5 ex M.cE
 bb:nH (BkR w B) 5 bl M.cB
 nd:(M.uses f).Nodup
 lt:∀k∈M.uses f,k<w.heap.size
 lo:∀k∈M.uses f,k=f\/B<=k
theorem FR.keep{B f:Nat}{M:Lay}{ex:List Ex}{bl:List Blk}{top:List Nat}(h:FR w B f M ex bl top)(hc:Chg S w w')(hS:∀k∈M.uses f,¬S k):FR w' B f M ex bl top:=by
 have hu:∀v∈[M.vE,M.vB,M.vT]++(M.cE++M.cB),∀k,v.ownBlock=some k->¬S k:=λv hv k hk=>hS k (aK _ (kF hv hk));refine⟨hc.at h.hf (hS f aX),iG h.oE hc (hu _ (by simp)),iG h.oB hc (hu _ (by simp)),iG h.oT hc (hu _ (by simp)),?_,?_,h.nd,λk hk=>bX (h.lt k hk) hc.size,h.lo⟩
 ·refine h.ee.imp λx d hd hx=>hx.at_ hc λk hk=>?_;exact hS k (aK _ (Kq (λv hv=>by simp[hd v hv]) k hk))
 ·refine h.bb.imp λx d hd hx=>hx.at_ hc λk hk=>?_;exact hS k (aK _ (Kq (λv hv=>by simp[hd v hv]) k hk))
abbrev Of(f:Nat):Nat->Prop:=λk=>k=f
abbrev One(b:Nat):Nat->Prop:=λk=>k=b
structure PR(w0 w:World)(p f:Nat)(M:Lay)(vt:Value)(s:PS)(top:List Nat):Prop where
 ch:Chg (Of f) w0 w
 fr:FR w w0.heap.size f M s.ex s.bl top
 ps:w.heap[p]?=some (.cells [vt,i64 (s.i:Nat),i64 s.off,.pointer (some ⟨f,0,none⟩),i64 (s.deep:Nat),.bool s.quiet].toArray PsT (0,0))
 tk:gE w TkT vt s.toks.length (toks s.toks)
 np:p∉M.uses f
 lo:w0.heap.size<=p
 nt:∀k,vt.ownBlock=some k->k∉M.uses f/\k≠p/\k<w.heap.size
section
variable{w0 w w' w1 w2:World}{p f b k:Nat}{M M' M1 M2:Lay}{vt:Value}{s:PS}{top:List Nat}
theorem PR.lt(h:PR w0 w p f M vt s top):p<w.heap.size:=vP h.ps
theorem PR.base(h:PR w0 w p f M vt s top):w0.heap.size<=w.heap.size:=h.ch.size
def Tn(p f:Nat)(M:Lay)(k:Nat):Prop:=k=p\/k=f\/M.vE.ownBlock=some k\/M.vB.ownBlock=some k
structure Eff(p f:Nat)(M M':Lay)(w w':World):Prop where
 chg:Chg (Tn p f M) w w'
 us:∀k∈M'.uses f,k∈M.uses f\/w.heap.size<=k
 hE:∀k,M'.vE.ownBlock=some k->M.vE.ownBlock=some k\/w.heap.size<=k
 hB:∀k,M'.vB.ownBlock=some k->M.vB.ownBlock=some k\/w.heap.size<=k
 hT:M'.vT=M.vT
theorem Eff.of(h:Chg (Tn p f M) w w'):Eff p f M M w w':=⟨h,λ_ h=>.inl h,λ_ h=>.inl h,λ_ h=>.inl h,rfl⟩
theorem Eff.refl(p f:Nat)(M:Lay)(w:World):Eff p f M M w w:=Eff.of (Chg.refl _ _)
theorem Eff.ext(h:Ext w w'):Eff p f M M w w':=Eff.of (Chg.of_ext h)
theorem Eff.trans(h:Eff p f M M1 w w1)(h':Eff p f M1 M2 w1 w2):Eff p f M M2 w w2:=by
 have hz:=h.chg.size;refine⟨h.chg.then h'.chg λk hk e=>?_,λk hk=>?_,λk hk=>?_,λk hk=>?_,h'.hT.trans h.hT⟩
 ·rcases e with e|e|e|e
  ·exact .inl e
  ·exact .inr (.inl e)
  ·exact .inr (.inr (.inl ((h.hE k e).resolve_right (by omega))))
  ·exact .inr (.inr (.inr ((h.hB k e).resolve_right (by omega))))
 ·exact(h'.us k hk).elim (h.us k) λe=>.inr (by omega)
 ·exact(h'.hE k hk).elim (h.hE k) λe=>.inr (by omega)
 ·exact(h'.hB k hk).elim (h.hB k) λe=>.inr (by omega)
theorem Eff.then(h:Eff p f M M1 w w1)(hc:Chg S w1 w2)(hS:∀k,k<w.heap.size->¬S k):Eff p f M M1 w w2:=⟨h.chg.then hc λk hk e=>(hS k hk e).elim,h.us,h.hE,h.hB,h.hT⟩
theorem Eff.x(h:Eff p f M M1 w w1)(hc:Ext w1 w2):Eff p f M M1 w w2:=h.then hc λ_ _ e=>e
theorem Eff.one(h:Eff p f M M1 w w1)(hc:Chg (One b) w1 w2)(hb:w.heap.size<=b):Eff p f M M1 w w2:=h.then hc λk hk e=>by have e:k=b:=e;omega
theorem Eff.anew{q:Nat}(hx:Ext w0 w)(h:Eff q f M M' w w')(hq:w0.heap.size<=q):Eff p f M M' w0 w':=by
 have hz:=hx.size;refine⟨(Chg.of_ext hx).then h.chg λk hk e=>?_,λk hk=>(h.us k hk).imp id (by omega),λk hk=>(h.hE k hk).imp id (by omega),λk hk=>(h.hB k hk).imp id (by omega),h.hT⟩;rcases e with e|e|e|e
 ·omega
 ·exact .inr (.inl e)
 ·exact .inr (.inr (.inl e))
 ·exact .inr (.inr (.inr e))
theorem GK(h:Tn p f M k):k=p\/k∈M.uses f:=by
 rcases h with h|h|h|h
 ·exact .inl h
 ·exact .inr (by subst h;exact aX)
 ·exact .inr (aK _ (kF (v:=M.vE) (by simp) h))
 ·exact .inr (aK _ (kF (v:=M.vB) (by simp) h))
def Off(w0 w:World)(p f:Nat)(M:Lay)(vt:Value)(k:Nat):Prop:=(w0.heap.size<=k/\k<w.heap.size)/\k≠p/\k∉M.uses f/\vt.ownBlock≠some k
theorem Off.no(h:Off w0 w p f M vt k):¬Tn p f M k:=λe=>(GK e).elim h.2.1 h.2.2.1
theorem Off.eff(h:Off w0 w p f M vt k)(he:Eff p f M M' w w'):Off w0 w' p f M' vt k:=
 ⟨⟨h.1.1,bX h.1.2 he.chg.size⟩,h.2.1,λe=>(he.us k e).elim h.2.2.1 λe=>by have:=h.1.2;omega,h.2.2.2⟩
theorem Off.up(h:Off w0 w p f M vt k)(hz:w.heap.size<=w'.heap.size):Off w0 w' p f M vt k:=⟨⟨h.1.1,bX h.1.2 hz⟩,h.2⟩
theorem PR.off_new(h:PR w0 w p f M vt s top)(hk:w.heap.size<=k)(hk':k<w'.heap.size):Off w0 w' p f M vt k:=
 ⟨⟨bZ h.base hk,hk'⟩,λe=>by have:=h.lt;omega,λe=>by have:=h.fr.lt k e;omega,λe=>by have:=(h.nt k e).2.2;omega⟩
theorem Eff.at_{o:Obj}(he:Eff p f M M' w w')(hk:w.heap[k]?=some o)(h:Off w0 w p f M vt k):w'.heap[k]?=some o:=he.chg.at hk h.no
theorem Eff.own{B:Nat}{e:TypeId}{m:Nat}{xs:List Value}(he:Eff p f M M' w w')(h:Own w B e m v n xs)(ho:∀k,v.ownBlock=some k->Off w0 w p f M vt k):Own w' B e m v n xs:=iG h he.chg λk hk=>(ho k hk).no
theorem PR.keep(h:PR w0 w p f M vt s top)(hc:Chg S w w')(hb:∀k,k<w0.heap.size->¬S k)(hS:∀k∈M.uses f,¬S k)(hp:¬S p)(ht:∀k,vt.ownBlock=some k->¬S k):PR w0 w' p f M vt s top:=by
 refine⟨h.ch.then hc λk hk e=>(hb k hk e).elim,h.fr.keep hc hS,hc.at h.ps hp,?_,h.np,h.lo,λk hk=>⟨(h.nt k hk).1,(h.nt k hk).2.1,bX (h.nt k hk).2.2 hc.size⟩⟩;obtain⟨q,cap,hv,h1,h2,h3⟩:=h.tk;refine⟨q,cap,hv,h1,h2,λhne=>?_⟩;obtain⟨b,off,c,fr,hq,hb,hcs⟩:=h3 hne;exact⟨b,off,c,fr,hq,hc.at hb (ht b (by rw[hv,hq];rfl)),hcs⟩
theorem PR.ext(h:PR w0 w p f M vt s top)(hc:Ext w w'):PR w0 w' p f M vt s top:=h.keep hc (λ_ _ e=>e) (λ_ _ e=>e) (λe=>e) λ_ _ e=>e
theorem bM(w:World):Ext w w.drew:=Chg.drew (Chg.refl _ _)
theorem PR.drew(h:PR w0 w p f M vt s top):PR w0 w.drew p f M vt s top:=h.ext (bM w)
theorem PR.one{w3:World}(h:PR w0 w p f M vt s top)(hc:Chg (One b) w w')(ho:Off w0 w3 p f M vt b):PR w0 w' p f M vt s top:=
 h.keep hc (λk hk e=>by have e:k=b:=e;have:=ho.1.1;omega) (λk hk e=>ho.2.2.1 (by have e:k=b:=e;exact e▸hk)) (λe=>ho.2.1 e.symm) λk hk e=>ho.2.2.2 (by have e:k=b:=e;rw[hk,e])
theorem PR.ld{off:Nat}{K:Value->Prop}(h:PR w0 w p f M vt s top)(hv:[vt,i64 (s.i:Nat),i64 s.off,.pointer (some ⟨f,0,none⟩),i64 (s.deep:Nat),.bool s.quiet][off]?=some v)(hk:K v):
  dR (.pointer (some ⟨p,0,none⟩)) λt=>bA off t λt=>ldW false 1 t w K:=by
 rw[dZ,bH,eC];refine⟨v,?_,hk⟩;rw[bO,cP,h.ps,cM,aQ];simpa using hv
theorem PR.self{s':PS}(h:PR w0 w p f M vt s top)(hc:Chg (One p) w w')(hb:w'.heap[p]?=some (.cells [vt,i64 (s'.i:Nat),i64 s'.off,.pointer (some ⟨f,0,none⟩),i64 (s'.deep:Nat),.bool s'.quiet].toArray PsT (0,0)))
  (h1:s'.toks=s.toks)(h2:s'.ex=s.ex)(h3:s'.bl=s.bl):PR w0 w' p f M vt s' top:=by
 refine⟨h.ch.then hc λk hk e=>(by have e:k=p:=e;have:=h.lo;omega),by rw[h2,h3];exact h.fr.keep hc λk hk e=>h.np (by have e:k=p:=e;exact e▸hk),hb,?_,h.np,h.lo,λk hk=>⟨(h.nt k hk).1,(h.nt k hk).2.1,bX (h.nt k hk).2.2 hc.size⟩⟩;rw[h1];obtain⟨q,cap,hv,g1,g2,g3⟩:=h.tk;refine⟨q,cap,hv,g1,g2,λhne=>?_⟩;obtain⟨b,off,c,fr,hq,hb,hcs⟩:=g3 hne;exact⟨b,off,c,fr,hq,hc.at hb ((h.nt b (by rw[hv,hq];rfl)).2.1),hcs⟩
theorem Cg(hc:Chg (One p) w w'):Eff p f M M w w':=Eff.of (hc.mono λk _ e=>.inl e)
theorem PR.st_i{K:World->Prop}(h:PR w0 w p f M vt s top)(hK:∀w',PR w0 w' p f M vt {s with i:=i} top->Eff p f M M w w'->w'.heap.size=w.heap.size->K w'):
  dR (.pointer (some ⟨p,0,none⟩)) λt=>bA 1 t λt=>stW 1 t (i64 (i:Nat)) w K:=by
 rw[dZ,bH,bO,aQ];refine qA h.ps rfl (by simp) λw' hz hb hc=>hK w' (h.self hc (by rw[hb];simp) rfl rfl rfl) (Cg hc) hz
theorem PR.st_deep{K:World->Prop}(h:PR w0 w p f M vt s top)(hK:∀w',PR w0 w' p f M vt {s with deep:=i} top->Eff p f M M w w'->w'.heap.size=w.heap.size->K w'):
  dR (.pointer (some ⟨p,0,none⟩)) λt=>bA 4 t λt=>stW 1 t (i64 (i:Nat)) w K:=by
 rw[dZ,bH,bO,aQ];refine qA h.ps rfl (by simp) λw' hz hb hc=>hK w' (h.self hc (by rw[hb];simp) rfl rfl rfl) (Cg hc) hz
theorem PR.st_quiet{q:Bool}{K:World->Prop}(h:PR w0 w p f M vt s top)(hK:∀w',PR w0 w' p f M vt {s with quiet:=q} top->Eff p f M M w w'->w'.heap.size=w.heap.size->K w'):
  dR (.pointer (some ⟨p,0,none⟩)) λt=>bA 5 t λt=>stW 1 t (.bool q) w K:=by
 rw[dZ,bH,bO,aQ];refine qA h.ps rfl (by simp) λw' hz hb hc=>hK w' (h.self hc (by rw[hb];simp) rfl rfl rfl) (Cg hc) hz
theorem PR.go{K:World->Prop}(h:PR w0 w p f M vt s top)(hi:s.i<=1000000)(hK:∀w',PR w0 w' p f M vt (step1 s) top->Eff p f M M w w'->w'.heap.size=w.heap.size->K w'):
  dR (.pointer (some ⟨p,0,none⟩)) λt=>bA 1 t λt=>ldW false 1 t w λt=>aO .add t (.int .i64 1) λt1=>dR (.pointer (some ⟨p,0,none⟩)) λt=>bA 1 t λt=>stW 1 t t1 w K:=by
 refine h.ld rfl ?_;rw[bU,dF (by omega) (by omega)];exact h.st_i (i:=s.i+1) hK
def Loc(w0 w:World)(p f:Nat)(M:Lay)(vt:Value)(b:Nat)(T:TypeId)(cs:List Value):Prop:=w.heap[b]?=some (.cells cs.toArray T (0,0))/\Off w0 w p f M vt b
variable{T:TypeId}{cs:List Value}
theorem Loc.eff(h:Loc w0 w p f M vt b T cs)(he:Eff p f M M' w w'):Loc w0 w' p f M' vt b T cs:=⟨he.at_ h.1 h.2,h.2.eff he⟩
theorem Loc.ext(h:Loc w0 w p f M vt b T cs)(hx:Ext w w'):Loc w0 w' p f M vt b T cs:=h.eff (Eff.ext hx)
theorem Loc.drew(h:Loc w0 w p f M vt b T cs):Loc w0 w.drew p f M vt b T cs:=h.ext (bM w)
theorem Loc.one{b':Nat}(h:Loc w0 w p f M vt b T cs)(hc:Chg (One b') w w')(hb:b≠b'):Loc w0 w' p f M vt b T cs:=⟨hc.at h.1 hb,h.2.up hc.size⟩
theorem Loc.lt(h:Loc w0 w p f M vt b T cs):b<w.heap.size:=h.2.1.2
theorem Loc.ld{off:Nat}{K:Value->Prop}(h:Loc w0 w p f M vt b T cs)(hv:cs[off]?=some v)(hk:K v):ldW false 1 (.pointer (some ⟨b,off,none⟩)) w K:=by
 rw[eC];refine⟨v,?_,hk⟩;rw[cP,h.1,cM];simpa using hv
theorem Loc.ldf{off:Nat}{K:Value->Prop}(h:Loc w0 w p f M vt b T cs)(hv:cs[off]?=some v)(hk:K v):bA off (.pointer (some ⟨b,0,none⟩)) λt=>ldW false 1 t w K:=by
 rw[bH,bO,aQ];exact h.ld hv hk
theorem Loc.st{off:Nat}{K:World->Prop}(h:Loc w0 w p f M vt b T cs)(h1:nK v=true)(hoff:off<cs.length)
  (hK:∀w',Loc w0 w' p f M vt b T (cs.set off v)->Chg (One b) w w'->w'.heap.size=w.heap.size->K w'):stW 1 (.pointer (some ⟨b,off,none⟩)) v w K:=
 qA h.1 h1 (by simpa using hoff) λw' hz hb hc=>hK w' ⟨by rw[hb];simp,h.2.up (by omega)⟩ hc hz
theorem PR.loc(h:PR w0 w p f M vt s top)(hz:w'.heap.size=w.heap.size+1){b:Nat}(hb:b=w.heap.size)(hc:w'.heap[b]?=some (.cells cs.toArray T (0,0))):Loc w0 w' p f M vt b T cs:=⟨hc,h.off_new (by omega) (by omega)⟩
end
end
end Go.Proofs.YtjblfcfdeaagpaaGreatDoor
namespace Go.Syn
section
open Go Go.Eng Go.Lex
variable{w:World}{K:Value->World->Prop}{cs:List Value}{G:Nat->Prop}{T:TypeId}{i:Nat}{n:Nat}{v:Value}{w':World}{P:Program}{c:UInt8}{S:Nat->Prop}
theorem kC{s:Str}(k:Nat)(h:s.length<=n):(s.drop k).length<=n:=by rw[aJ];omega
theorem IF:∀(N:Nat) (r:Str),r.length<=N->(∀m m' c,r.length<m->r.length<m'->zK m r c=zK m' r c)/\(∀m m',r.length<m->r.length<m'->yJ m r=yJ m' r):=by
 intro N;induction N with
 |zero=>
  intro r hr;have:r=[]:=bY (by omega);subst this;refine⟨λm m' c h h'=>?_,λm m' h h'=>?_⟩
  ·obtain⟨m,rfl⟩:∃k,m=k+1:=⟨m-1,by simp at h;omega⟩;obtain⟨m',rfl⟩:∃k,m'=k+1:=⟨m'-1,by simp at h';omega⟩;rfl
  ·obtain⟨m,rfl⟩:∃k,m=k+1:=⟨m-1,by simp at h;omega⟩;obtain⟨m',rfl⟩:∃k,m'=k+1:=⟨m'-1,by simp at h';omega⟩;rfl
 |succ N ih=>
  intro r hr;cases r with
  |nil=>exact⟨λm m' c h h'=>(ih [] (by simp)).1 m m' c h h',λm m' h h'=>(ih [] (by simp)).2 m m' h h'⟩
  |cons c r=>
   simp only[aA]at hr;have hr:r.length<=N:=by omega
   refine⟨λm m' d h h'=>?_,λm m' h h'=>?_⟩
   ·obtain⟨m,rfl⟩:∃k,m=k+1:=⟨m-1,by simp at h;omega⟩;obtain⟨m',rfl⟩:∃k,m'=k+1:=⟨m'-1,by simp at h';omega⟩;simp only[aA]at h h';have hb:=λd=>(ih r hr).1 m m' d (by omega) (by omega);have hq:=(ih r hr).2 m m' (by omega) (by omega);have hd:=λk d=>(ih (r.drop k) (kC k hr)).1 m m' d (by rw[aJ];omega) (by rw[aJ];omega);simp only[zK,hb,hq,hd]
   ·obtain⟨m,rfl⟩:∃k,m=k+1:=⟨m-1,by simp at h;omega⟩;obtain⟨m',rfl⟩:∃k,m'=k+1:=⟨m'-1,by simp at h';omega⟩;simp only[aA]at h h';have hb:=λd=>(ih r hr).1 m m' d (by omega) (by omega);have hq:=(ih r hr).2 m m' (by omega) (by omega);have hd:=λk=>(ih (r.drop k) (kC k hr)).2 m m' (by rw[aJ];omega) (by rw[aJ];omega);cases r with
    |nil=>simp only[yJ,hb,hq,hd]
    |cons e r'=>
     have h2:=(ih r' (by simp at hr;omega)).2 m m' (by simp at h;omega) (by simp at h';omega);simp only[yJ,hb,hd,hq,h2]
def lR(r:Str)(c:Int):Nat:=zK (r.length+1) r c
def nJ(r:Str):Nat:=yJ (r.length+1) r
theorem Cm{m:Nat}{r:Str}{c:Int}(h:r.length<m):zK m r c=lR r c:=(IF r.length r (aL _)).1 _ _ _ h (zN _)
theorem DY{m:Nat}{r:Str}(h:r.length<m):yJ m r=nJ r:=(IF r.length r (aL _)).2 _ _ h (zN _)
theorem uA{r:Str}(k:Nat){m:Nat}(h:r.length<m):(r.drop k).length<m:=by rw[aJ];omega
theorem Mn(c:Int):lR [] c=0:=rfl
theorem gU(c:UInt8)(r:Str)(d:Int):lR (c::r) d=if c=123 then 1+lR r (d+1)else if c=125 then(if d-1=0 then 1 else 1+lR r (d-1))else if c=34 then(1+nJ r)+lR (r.drop (nJ r)) d else 1+lR r d:=by
 have h:r.length<(c::r).length:=by simp
 show zK ((c::r).length+1) (c::r) d=_;rw[zK,DY h];rw[Cm h,Cm h,Cm h,Cm (uA _ h)]
theorem KQ:nJ []=0:=rfl
theorem oZ(c:UInt8)(r:Str):nJ (c::r)=if c=34 then 1 else if c=92 then(match r with|[]=>1|_::r'=>2+nJ r')else if kW [36,123] (c::r)=true then(1+lR r 0)+nJ (r.drop (lR r 0))else 1+nJ r:=by
 cases r with
 |nil=>rfl
 |cons e r'=>
  have h:(e::r').length<(c::e::r').length:=by simp
  have h2:r'.length<(c::e::r').length:=by simp;omega
  have hd:∀k,yJ (c::e::r').length ((e::r').drop k)=nJ ((e::r').drop k):=λk=>DY (uA k h);show yJ ((c::e::r').length+1) (c::e::r')=_;rw[yJ.eq_def];simp only[DY h,Cm h,DY h2,hd]
theorem IE:∀(N:Nat) (r:Str),r.length<=N->(∀m m' d,r.length<m->r.length<m'->mM m r d=mM m' r d)/\(∀m m' d,r.length<m->r.length<m'->zB m r d=zB m' r d):=by
 intro N;induction N with
 |zero=>
  intro r hr;have:r=[]:=bY (by omega);subst this;refine⟨λm m' d h h'=>?_,λm m' d h h'=>?_⟩
  ·obtain⟨m,rfl⟩:∃k,m=k+1:=⟨m-1,by simp at h;omega⟩;obtain⟨m',rfl⟩:∃k,m'=k+1:=⟨m'-1,by simp at h';omega⟩;rfl
  ·obtain⟨m,rfl⟩:∃k,m=k+1:=⟨m-1,by simp at h;omega⟩;obtain⟨m',rfl⟩:∃k,m'=k+1:=⟨m'-1,by simp at h';omega⟩;rfl
 |succ N ih=>
  intro r hr;cases r with
  |nil=>exact⟨λm m' d h h'=>(ih [] (by simp)).1 m m' d h h',λm m' d h h'=>(ih [] (by simp)).2 m m' d h h'⟩
  |cons c r=>
   simp only[aA]at hr;have hr:r.length<=N:=by omega
   refine⟨λm m' d h h'=>?_,λm m' d h h'=>?_⟩
   ·obtain⟨m,rfl⟩:∃k,m=k+1:=⟨m-1,by simp at h;omega⟩;obtain⟨m',rfl⟩:∃k,m'=k+1:=⟨m'-1,by simp at h';omega⟩;simp only[aA]at h h';have ht:=λd=>(ih r hr).1 m m' d (by omega) (by omega);have hi:=λk d=>(ih (r.drop k) (kC k hr)).2 m m' d (by rw[aJ];omega) (by rw[aJ];omega);have hd:=λk j d=>(ih ((r.drop k).drop j) (kC j (kC k hr))).1 m m' d (by rw[aJ,aJ];omega) (by rw[aJ,aJ];omega);cases r with
    |nil=>simp only[mM,ht,hi,hd]
    |cons e r'=>
     have h2:=λd=>(ih r' (by simp at hr;omega)).1 m m' d (by simp at h;omega) (by simp at h';omega);simp only[mM,ht,hi,hd,h2]
   ·obtain⟨m,rfl⟩:∃k,m=k+1:=⟨m-1,by simp at h;omega⟩;obtain⟨m',rfl⟩:∃k,m'=k+1:=⟨m'-1,by simp at h';omega⟩;simp only[aA]at h h';have ht:=λd=>(ih r hr).1 m m' d (by omega) (by omega);have hi:=λd=>(ih r hr).2 m m' d (by omega) (by omega);have hd:=λk d=>(ih (r.drop k) (kC k hr)).2 m m' d (by rw[aJ];omega) (by rw[aJ];omega);simp only[zB,ht,hi,hd]
def dW(r:Str)(d:Nat):Nat×Int:=mM (r.length+1) r d
def hM(r:Str)(d:Nat):Nat×Int:=zB (r.length+1) r d
theorem pK{m:Nat}{r:Str}{d:Nat}(h:r.length<m):mM m r d=dW r d:=(IE r.length r (aL _)).1 _ _ _ h (zN _)
theorem Ht{m:Nat}{r:Str}{d:Nat}(h:r.length<m):zB m r d=hM r d:=(IE r.length r (aL _)).2 _ _ _ h (zN _)
theorem oW(d:Nat):dW [] d=(0,40):=rfl
theorem BS(d:Nat):hM [] d=(0,40):=rfl
theorem iF(c:UInt8)(r:Str)(d:Nat):dW (c::r) d=if c==34 then(1,0)else if c==10 then(0,40)else if c==92 then(match r with|[]=>(0,40)|e::r'=>if Lex.escOk e then iT 2 (dW r' d)else(0,40))
  else if kW [36,123] (c::r)then(if 24<d+1 then(0,7)else if(hM (r.drop 1) (d+1)).2=0 then iT ((hM (r.drop 1) (d+1)).1+2) (dW ((r.drop 1).drop (hM (r.drop 1) (d+1)).1) d)else(0,(hM (r.drop 1) (d+1)).2))else iT 1 (dW r d):=by
 cases r with
 |nil=>rfl
 |cons e r'=>
  have h:(e::r').length<(c::e::r').length:=by simp
  have h2:r'.length<(c::e::r').length:=by simp;omega
  have hi:∀k d,zB (c::e::r').length ((e::r').drop k) d=hM ((e::r').drop k) d:=λk d=>Ht (uA k h);have hd:∀k j d,mM (c::e::r').length (((e::r').drop k).drop j) d=dW (((e::r').drop k).drop j) d:=λk j d=>pK (uA j (uA k h));show mM ((c::e::r').length+1) (c::e::r') d=_;rw[mM.eq_def];simp only[pK h,pK h2,hi,hd]
theorem nC(c:UInt8)(r:Str)(d:Nat):hM (c::r) d=if c==125 then(1,0)else if c==10 then(0,40)else if c==123 then(if 24<d+1 then(0,7)else if(hM r (d+1)).2=0 then iT ((hM r (d+1)).1+1) (hM (r.drop (hM r (d+1)).1) d)else(0,(hM r (d+1)).2))
  else if c==34 then(if(dW r d).2=0 then iT ((dW r d).1+1) (hM (r.drop (dW r d).1) d)else(0,(dW r d).2))else iT 1 (hM r d):=by
 have h:r.length<(c::r).length:=by simp
 have hd:∀k d,zB (c::r).length (r.drop k) d=hM (r.drop k) d:=λk d=>Ht (uA k h);show zB ((c::r).length+1) (c::r) d=_;rw[zB.eq_def];simp only[Ht h,pK h,hd]
theorem lN{k:Nat}{r:Nat×Int}(h:iT k r=(n,0)):r=(n-k,0)/\k<=n:=by
 obtain⟨a,b⟩:=r;unfold iT at h;split at h
 ·rename_i e;simp only at e;subst e;injection h with h1 _
  subst h1;exact⟨by simp,by omega⟩
 ·rename_i e;injection h with _ h2
  exact absurd h2 e
theorem iE:∀(N:Nat) (r:Str),r.length<=N->
  (∀d k,dW r d=(k,0)->nJ r=k/\1<=k/\k<=r.length)/\
  (∀d k,hM r d=(k,0)->(1<=k/\k<=r.length)/\∀c:Int,1<=c->lR r c=if c=1 then k else k+lR (r.drop k) (c-1)):=by
 intro N;induction N with
 |zero=>
  intro r hr;have:r=[]:=bY (by omega);subst this;refine⟨λd k h=>?_,λd k h=>?_⟩
  ·rw[oW]at h;cases h
  ·rw[BS]at h;cases h
 |succ N ih=>
  intro r hr;cases r with
  |nil=>exact ih [] (by simp)
  |cons c r=>
   simp only[aA]at hr;have hr:r.length<=N:=by omega
   refine⟨λd k h=>?_,λd k h=>?_⟩
   ·rw[iF]at h;rw[oZ];simp only[fI]at h;split at h
    ·rename_i e;rw[aF e];injection h with h1 _
     subst h1;simp
    rename_i e;rw[aD e];split at h
    ·cases h
    split at h
    ·rename_i e2;rw[aF e2];cases r with
     |nil=>cases h
     |cons x r'=>
      simp only at h⊢;split at h
      ·obtain⟨h1,h2⟩:=lN h;obtain⟨q1,q2,q3⟩:=(ih r' (by simp at hr;omega)).1 d _ h1;simp only[aA];omega
      ·cases h
    rename_i e2;rw[aD e2];split at h
    ·rename_i e3;rw[aF e3];split at h
     ·cases h
     split at h
     ·rename_i e4;obtain⟨h1,h2⟩:=lN h;cases r with
      |nil=>simp[kW]at e3
      |cons x r'=>
       have hx:x=123:=by
        simp[kW]at e3;exact e3.2.symm
       subst hx;simp only[bG,bJ]at h1 h2 e4;have hr':r'.length<=N:=by simp at hr;omega
       obtain⟨⟨b1,b2⟩,b3⟩:=(ih r' hr').2 (d+1) (hM r' (d+1)).1 (eO rfl e4);have hb:=b3 1 (by omega);rw[aF rfl]at hb;have hbx:lR (123::r') 0=1+(hM r' (d+1)).1:=by
        rw[gU,aF rfl];show 1+lR r' (0+1)=_;rw[show(0:Int)+1=1 from rfl,hb]
       rw[hbx];have hdr:(123::r').drop (1+(hM r' (d+1)).1)=r'.drop (hM r' (d+1)).1:=by rw[lS];rfl
       rw[hdr];obtain⟨q1,q2,q3⟩:=(ih (r'.drop (hM r' (d+1)).1) (kC _ hr')).1 d _ h1;rw[aJ]at q3;simp only[aA];omega
     ·rename_i e4;injection h with _ h2
      exact absurd h2 e4
    ·rename_i e3;rw[aD e3];obtain⟨h1,h2⟩:=lN h;obtain⟨q1,q2,q3⟩:=(ih r hr).1 d _ h1;simp only[aA];omega
   ·rw[nC]at h;simp only[fI]at h;split at h
    ·rename_i e;injection h with h1 _
     subst h1;refine⟨by simp,λcc hc=>?_⟩;rw[gU,aD (by rw[e];decide),aF e];by_cases h1:cc=1
     ·subst h1;simp
     ·rw[aD (by omega),aD h1];rfl
    rename_i e;split at h
    ·cases h
    rename_i e10;split at h
    ·rename_i e2;split at h
     ·cases h
     split at h
     ·rename_i e4;obtain⟨h1,h2⟩:=lN h;obtain⟨⟨b1,b2⟩,b3⟩:=(ih r hr).2 (d+1) (hM r (d+1)).1 (eO rfl e4);obtain⟨⟨f1,f2⟩,f3⟩:=(ih (r.drop (hM r (d+1)).1) (kC _ hr)).2 d _ h1;rw[aJ]at f2;refine⟨by simp only[aA];omega,λcc hc=>?_⟩;rw[gU,aF e2,b3 (cc+1) (by omega),aD (by omega),show cc+1-1=cc from by omega,f3 cc hc];by_cases h1':cc=1
      ·rw[aF h1',aF h1'];omega
      ·rw[aD h1',aD h1',dY];have:(c::r).drop k=r.drop (k-1):=by
        obtain⟨j,rfl⟩:∃j,k=j+1:=⟨k-1,by omega⟩;rfl
       rw[this,show(hM r (d+1)).1+(k-((hM r (d+1)).1+1))=k-1 from by omega];omega
     ·rename_i e4;injection h with _ h2
      exact absurd h2 e4
    rename_i e2;split at h
    ·rename_i e3;split at h
     ·rename_i e4;obtain⟨h1,h2⟩:=lN h;obtain⟨q1,q2,q3⟩:=(ih r hr).1 d (dW r d).1 (eO rfl e4);obtain⟨⟨f1,f2⟩,f3⟩:=(ih (r.drop (dW r d).1) (kC _ hr)).2 d _ h1;rw[aJ]at f2;refine⟨by simp only[aA];omega,λcc hc=>?_⟩;rw[gU,aD e2,aD e,aF e3,q1,f3 cc hc];by_cases h1':cc=1
      ·rw[aF h1',aF h1'];omega
      ·rw[aD h1',aD h1',dY];have:(c::r).drop k=r.drop (k-1):=by
        obtain⟨j,rfl⟩:∃j,k=j+1:=⟨k-1,by omega⟩;rfl
       rw[this,show(dW r d).1+(k-((dW r d).1+1))=k-1 from by omega];omega
     ·rename_i e4;injection h with _ h2
      exact absurd h2 e4
    ·rename_i e3;obtain⟨h1,h2⟩:=lN h;obtain⟨⟨f1,f2⟩,f3⟩:=(ih r hr).2 d _ h1;refine⟨by simp only[aA];omega,λcc hc=>?_⟩;rw[gU,aD e2,aD e,aD e3,f3 cc hc];by_cases h1':cc=1
     ·rw[aF h1',aF h1'];omega
     ·rw[aD h1',aD h1'];have:(c::r).drop k=r.drop (k-1):=by
       obtain⟨j,rfl⟩:∃j,k=j+1:=⟨k-1,by omega⟩;rfl
      rw[this];omega
structure bR(L:List (List Nat))(roots:List Nat):Prop where
 ahead:∀(i:Nat) (us:List Nat),L[i]?=some us->∀a∈us,a<i
 once:∀j,j<L.length->L.flatten.count j+roots.count j=1
 low:∀r∈roots,r<L.length
theorem bR.perm{L:List (List Nat)}{r r':List Nat}(h:bR L r)(hp:r.Perm r'):bR L r':=
 ⟨h.ahead,λj hj=>by rw[<-hp.count_eq];exact h.once j hj,λx hx=>h.low x (hp.mem_iff.2 hx)⟩
theorem bR.nil:bR [] []:=⟨λi us h=>by simp at h,λj hj=>by simp at hj,λr h=>by simp at h⟩
theorem bR.flat_lt{L:List (List Nat)}{r:List Nat}(h:bR L r):∀x∈L.flatten,x<L.length:=by
 intro x hx;obtain⟨us,has,hxa⟩:=zO.1 hx;obtain⟨i,hi⟩:=List.getElem?_of_mem has;have h1:=h.ahead i us hi x hxa;have h2:=(bF.1 hi).1;omega
theorem bR.put{L:List (List Nat)}{us roots:List Nat}(h:bR L (us++roots)):bR (L++[us]) (L.length::roots):=by
 refine⟨λi bs hi=>?_,λj hj=>?_,λr hr=>?_⟩
 ·by_cases hl:i<L.length
  ·rw[dA hl]at hi;exact h.ahead i bs hi
  ·rw[cJ (by omega)]at hi;have:i-L.length=0:=by
    by_cases h0:i-L.length=0
    ·exact h0
    ·rw[cA (by simp;omega)]at hi;cases hi
   rw[this]at hi;simp only[dV,bD]at hi;subst hi;intro a ha;have:=h.low a (dI _ ha);omega
 ·rw[tC,jH];simp only[eV,List.flatten_nil,cH,AM];by_cases hl:j<L.length
  ·have h1:=h.once j hl;rw[jH]at h1;have:(L.length==j)=false:=by simp;omega
   rw[this];simp only[uJ,Cv];omega
  ·have hj2:j=L.length:=by rw[aB,aA,aC]at hj;omega
   subst hj2;have e1:L.flatten.count L.length=0:=List.count_eq_zero.2 λhm=>by have:=h.flat_lt _ hm;omega
   have e2:us.count L.length=0:=List.count_eq_zero.2 λhm=>by have:=h.low _ (dI _ hm);omega
   have e3:roots.count L.length=0:=List.count_eq_zero.2 λhm=>by have:=h.low _ (bV _ hm);omega
   rw[e1,e2,e3];simp
 ·rw[aB,aA,aC];rcases bC.1 hr with rfl|hr
  ·omega
  ·have:=h.low r (bV _ hr);omega
abbrev exL(ex:List Ex):List (List Nat):=ex.map (·.args)
theorem Cb{ex:List Ex}{e:Ex}{roots:List Nat}(h:bR (exL ex) (e.args++roots)):bR (exL (ex++[e])) (ex.length::roots):=by
 have:=h.put;rw[cD]at this;simpa[exL]using this
def Sat{α:Type}(r:R α)(P:α->PS->Prop)(Q:Int->Prop):Prop:=match r with
 |.ok x s=>P x s
 |.err _ a=>Q a
theorem Sat.bind{α β:Type}{r:R α}{f:α->PS->R β}{P:α->PS->Prop}{P':β->PS->Prop}{Q:Int->Prop}(h:Sat r P Q)(hf:∀x s,P x s->Sat (f x s) P' Q):Sat (r.bind f) P' Q:=by
 cases r with
 |ok x s=>exact hf x s h
 |err c a=>exact h
theorem Sat.mono{α:Type}{r:R α}{P P':α->PS->Prop}{Q:Int->Prop}(h:Sat r P Q)(hp:∀x s,P x s->P' x s):Sat r P' Q:=by
 cases r with
 |ok x s=>exact hp x s h
 |err c a=>exact h
def EM(N a:Int)(t:Str):Prop:=insP t=none\/a+t.length+2<=N
structure TG(N off:Int)(l:List Tok):Prop where
 ne:l≠[]
 pos:∀i t,l[i]?=some t->0<=t.a+off/\t.a+off<=N/\(t.k≠0->t.a+off<N)/\(t.k=3->EM N (t.a+off) t.t)/\(t.k=1->t.t≠[])/\(i+1=l.length->t.k=0)
structure WS(N:Int)(s:PS):Prop where
 tg:TG N s.off s.toks
 lt:s.i<s.toks.length
 pN:0<=N
structure Go1(N:Int)(s s':PS):Prop where
 toks:s'.toks=s.toks
 off:s'.off=s.off
 deep:s'.deep=s.deep
 quiet:s'.quiet=s.quiet
 le:s.i<=s'.i
 lt:s'.i<s'.toks.length
 exs:∀e∈s'.ex,e∈s.ex\/(0<=e.a/\e.a<N)
theorem Go1.trans{N:Int}{s s1 s2:PS}(h:Go1 N s s1)(h':Go1 N s1 s2):Go1 N s s2:=
 ⟨h'.toks.trans h.toks,h'.off.trans h.off,h'.deep.trans h.deep,h'.quiet.trans h.quiet,bZ h.le h'.le,h'.lt,λe he=>(h'.exs e he).elim (h.exs e) .inr⟩
theorem Go1.refl{N:Int}{s:PS}(h:WS N s):Go1 N s s:=⟨rfl,rfl,rfl,rfl,aL _,h.lt,λ_ he=>.inl he⟩
theorem Go1.ws{N:Int}{s s':PS}(h:Go1 N s s')(hs:WS N s):WS N s':=⟨by rw[h.toks,h.off];exact hs.tg,h.lt,hs.pN⟩
theorem uN{N:Int}{s:PS}(h:WS N s)(d:Nat)(q:Bool):WS N {s with deep:=d,quiet:=q}:=⟨h.tg,h.lt,h.pN⟩
theorem BK:∀{l:List Tok},l≠[]->(∀t,l.getLast?=some t->t.k≠5)->eS l<l.length
 |[],h,_=>absurd rfl h
 |[t],_,h=>by
  have:=h t rfl
  simp[eS,this]
 |t::u::r,_,h=>by
  have ih:=BK (l:=u::r) (by simp) (λx hx=>h x (by simpa using hx))
  simp only[eS,aA]at ih⊢
  split<;>omega
theorem TG.last{N off:Int}{l:List Tok}(h:TG N off l)(hi:i<l.length):eS (l.drop i)<l.length-i:=by
 have hne:l.drop i≠[]:=λe=>by have:=congrArg List.length e;rw[aJ,aC]at this;omega
 have:=BK hne λt ht=>by
  rw[List.getLast?_drop]at ht;rw[aD (by omega)]at ht;rw[List.getLast?_eq_getElem?]at ht;have:=(h.pos _ t ht).2.2.2.2.2 (by omega);omega
 rw[aJ]at this;exact this
theorem eW{N:Int}{s:PS}(h:WS N s):Go1 N s (aM s):=by
 unfold aM;split
 ·have:=h.tg.last h.lt;exact⟨rfl,rfl,rfl,rfl,Nat.le_add_right _ _,(by show s.i+_<s.toks.length;have:=h.lt;omega),λ_ he=>.inl he⟩
 ·exact Go1.refl h
theorem uR{N:Int}{s:PS}(h:WS N s):s.toks[s.i]?=some (jX s):=by
 unfold jX;rw[aH,aG h.lt];rfl
theorem iQ{N:Int}{s:PS}(h:WS N s):0<=(cur s).a/\(cur s).a<=N/\((cur s).k≠0->(cur s).a<N)/\((cur s).k=3->EM N (cur s).a (cur s).t)/\((cur s).k=1->(cur s).t≠[]):=by
 have hg:=eW h;have hn:=hg.ws h;have h1:=hn.tg.pos _ _ (uR hn);rw[hg.off]at h1;exact⟨h1.1,h1.2.1,h1.2.2.1,h1.2.2.2.1,h1.2.2.2.2.1⟩
theorem iP{N:Int}{s:PS}(h:WS N s)(hk:(cur s).k≠0):Go1 N s (step1 (aM s))/\s.i<(step1 (aM s)).i:=by
 have hg:=eW h;have hn:=hg.ws h;have h1:=(hn.tg.pos _ _ (uR hn)).2.2.2.2.2;have hlt:(aM s).i+1<(aM s).toks.length:=by
  have:=hn.lt;by_cases he:(aM s).i+1=(aM s).toks.length
  ·exact absurd (h1 he) hk
  ·omega
 exact⟨⟨hg.toks,hg.off,hg.deep,hg.quiet,bZ hg.le (Nat.le_succ _),hlt,hg.exs⟩,Nat.lt_succ_of_le hg.le⟩
theorem OA(s:PS)(h:∀k,s.quiet=true->k=eS (s.toks.drop s.i)->eS (s.toks.drop (s.i+k))=0):aM (aM s)=aM s:=by
 unfold aM;split
 ·rename_i hq;have:=h _ hq rfl;simp only[hq,gY,this,gF]
 ·rfl
theorem yV:∀(l:List Tok),eS (l.drop (eS l))=0
 |[]=>rfl
 |t::r=>by
  simp only[eS]
  split
  ·exact yV r
  ·rename_i h
   simp[eS,h]
theorem fW(s:PS):aM (aM s)=aM s:=OA s λk _ hk=>by rw[<-dY,hk];exact yV _
theorem kD(s:PS):cur (aM s)=cur s:=by
 unfold cur;rw[fW];have:(aM s).off=s.off:=by unfold aM;split<;>rfl
 rw[this]
abbrev Later(N:Int)(s:PS)(s':PS):Prop:=Go1 N s s'/\s.i<s'.i
abbrev InN(N:Int)(a:Int):Prop:=0<=a/\a<=N
theorem lP{s:PS}{w:Str}(h:isS s w=true):(cur s).k≠0:=by
 unfold isS at h;simp only[aZ,jE]at h;rw[h.1];decide
theorem iO{N:Int}{s:PS}(h:WS N s)(w:Str):Go1 N s (aW s w).2/\((aW s w).1=true->s.i<(aW s w).2.i)/\(aW s w).2.ex=s.ex/\(aW s w).2.bl=s.bl:=by
 have e1:(aM s).ex=s.ex:=by unfold aM;split<;>rfl
 have e2:(aM s).bl=s.bl:=by unfold aM;split<;>rfl
 unfold aW;split
 ·rename_i hi;have:=iP h (lP hi);exact⟨this.1,λ_=>this.2,e1,e2⟩
 ·exact⟨eW h,(λe=>by cases e),e1,e2⟩
theorem fA(s:PS):(aM s).ex=s.ex/\(aM s).bl=s.bl:=by unfold aM;split<;>exact⟨rfl,rfl⟩
theorem jQ{N:Int}{s:PS}(h:WS N s)(w:Str):Sat (jR s w) (λ_ s'=>Later N s s'/\s'.ex=s.ex/\s'.bl=s.bl) (InN N):=by
 unfold jR;split
 ·rename_i hi;exact⟨iP h (lP hi),fA s⟩
 ·have:=iQ h;exact⟨this.1,this.2.1⟩
theorem qJ{N:Int}{s:PS}(h:WS N s):Go1 N s (fB s)/\((cur s).k≠0->s.i<(fB s).i)/\(fB s).ex=s.ex/\(fB s).bl=s.bl:=by
 unfold fB;split
 ·rename_i hk;have:=iP h hk;exact⟨this.1,λ_=>this.2,fA s⟩
 ·rename_i hk;exact⟨eW h,λe=>absurd e hk,fA s⟩
theorem lH{N:Int}{s:PS}(h:WS N s)(k:Int)(hk0:k≠0):Sat (iC s k) (λt s'=>Later N s s'/\s'.ex=s.ex/\s'.bl=s.bl/\t=cur s/\t.k=k) (InN N):=by
 unfold iC;split
 ·rename_i hk;have:=qJ h;exact⟨⟨this.1,this.2.1 (by omega)⟩,this.2.2.1,this.2.2.2,rfl,hk⟩
 ·have:=iQ h;exact⟨this.1,this.2.1⟩
theorem kK{N:Int}{s:PS}(h:WS N s):Go1 N s (dG s)/\(dG s).ex=s.ex/\(dG s).bl=s.bl:=by
 have hg:=eW h;have hn:=hg.ws h;have h1:=hn.tg.last hn.lt;rw[hg.toks]at h1;have h2:=hn.lt;rw[hg.toks]at h2;refine⟨⟨hg.toks,hg.off,hg.deep,hg.quiet,?_,?_,hg.exs⟩,fA s⟩
 ·have:=hg.le;show s.i<=(aM s).i+_;omega
 ·show(aM s).i+_<(aM s).toks.length;rw[hg.toks];omega
def EOk(N:Int)(F:PS->R Nat):Prop:=∀s,WS N s->Sat (F s) (λx s'=>Later N s s'/\s'.bl=s.bl/\∀roots,bR (exL s.ex) roots->bR (exL s'.ex) (x::roots)) (InN N)
theorem yM{N:Int}{s:PS}(h:WS N s){e:Ex}(ha:0<=e.a/\e.a<N):Sat (lL s e) (λx s'=>Go1 N s s'/\s'.i=s.i/\s'.bl=s.bl/\∀roots,bR (exL s.ex) (e.args++roots)->bR (exL s'.ex) (x::roots)) (InN N):=
 ⟨⟨rfl,rfl,rfl,rfl,aL _,h.lt,λx hx=>by
   rcases bQ.1 hx with hx|hx
   ·exact .inl hx
   ·rw[aU]at hx
    subst hx
    exact .inr ha⟩,rfl,rfl,λ_ hf=>Cb hf⟩
theorem kV{N:Int}{s:PS}(h:WS N s){α:Type}{a:Int}(ha:InN N a){q:Bool}{f:PS->R α}{P:α->PS->Prop}(hf:WS N {s with deep:=s.deep+1,quiet:=q}->Sat (f {s with deep:=s.deep+1,quiet:=q}) P (InN N)):
  Sat (within s a q f) (λx s'=>∃s1,P x s1/\s'={s1 with deep:=s.deep,quiet:=s.quiet}) (InN N):=by
 unfold within;split
 ·exact ha
 ·exact(hf (uN h _ _)).bind λx s1 h1=>⟨s1,h1,rfl⟩
theorem Go1.back{N:Int}{s s1:PS}{d:Nat}{q:Bool}(h:Go1 N {s with deep:=d,quiet:=q} s1):Go1 N s {s1 with deep:=s.deep,quiet:=s.quiet}:=⟨h.toks,h.off,rfl,rfl,h.le,h.lt,h.exs⟩
theorem pU(p:UInt8->Bool):∀s:Str,cS p s<=s.length
 |[]=>aL _
 |c::r=>by
  have:=pU p r
  simp only[cS,aA]
  split<;>omega
theorem Ew:∀(s:Str) (i:Nat),Lib.index s [42,47]=(i:Int)->i+2<=s.length
 |[],i,h=>by
  unfold Lib.index at h
  simp at h
 |b::l,i,h=>by
  unfold Lib.index at h
  split at h
  ·rename_i hp
   have hi:i=0:=by omega
   subst hi
   cases l with
   |nil=>simp[List.isPrefixOf]at hp
   |cons c l=>simp
  ·split at h
   ·omega
   ·rename_i hq
    have h1:Lib.index l [42,47]≠-1:=by simpa using hq
    have hg:=Lib.index_ge l [42,47]
    have:=Ew l (i-1) (by omega)
    simp only[aA]
    omega
theorem Eh{p s:Str}(h:kW p s=true):p.length<=s.length:=by
 unfold kW at h;exact(Cx.1 h).length_le
theorem tJ:∀(n:Nat) (s:Str),(cZ n s).1<=s.length
 |0,_=>cX _
 |_+1,[]=>cX _
 |n+1,c::r=>by
  simp only[cZ]
  split
  ·have:=tJ n r
   simp only[aA]
   omega
  split
  ·have h1:=tJ n ((c::r).drop (cS (λb=>b !=10) (c::r)))
   have h2:=pU (λb=>b !=10) (c::r)
   rw[aJ]at h1
   simp only
   omega
  split
  ·rename_i hp
   split
   ·exact cX _
   ·rename_i hi
    obtain⟨i,hii⟩:=Int.eq_ofNat_of_zero_le (by omega:0<=Lib.index (r.drop 1) [42,47])
    have h1:=Ew _ _ hii
    have h2:=tJ n ((c::r).drop ((Lib.index (r.drop 1) [42,47]).toNat+4))
    rw[hii]at h2⊢
    rw[aJ]at h1 h2
    simp only[aA,aP]at h2⊢
    omega
  ·exact cX _
def noD:Str->Bool
 |[]=>true
 |[c]=>c !=92&&c !=36
 |c::e::r=>if c=92 then noD r else c !=36&&noD (e::r)
theorem AU:∀(n:Nat) (t:Str),t.length<=n->noD t=true->insP t=none
 |_,[],_,_=>rfl
 |_,[_],_,_=>rfl
 |0,c::e::r,h,_=>by simp at h
 |n+1,c::e::r,h,hd=>by
  simp only[noD]at hd
  simp only[insP]
  simp only[aA]at h
  split
  ·rename_i hc
   rw[aF hc]at hd
   rw[AU n r (by omega) hd]
   rfl
  ·rename_i hc
   rw[aD hc]at hd
   simp only[aZ,bne_iff_ne,AX]at hd
   rw[aD (λe=>hd.1 e.1),AU n (e::r) (by simp only[aA];omega) hd.2]
   rfl
theorem BG{r:Str}(h1:c≠92)(h2:c≠36)(h:noD r=true):noD (c::r)=true:=by
 cases r with
 |nil=>simp[noD,h1,h2]
 |cons e r=>simp[noD,h1,h2,h]
theorem AV{r:Str}(h:noD r=true):noD (92::c::r)=true:=by simp[noD,h]
theorem AW:∀(n:Nat) (a b:Str),a.length<=n->noD a=true->noD b=true->noD (a++b)=true
 |_,[],b,_,_,hb=>hb
 |0,_::_,b,h,_,_=>by simp at h
 |_,[c],b,_,ha,hb=>by
  simp only[noD,aZ,bne_iff_ne,AX]at ha
  exact BG ha.1 ha.2 hb
 |n+1,c::e::r,b,h,ha,hb=>by
  simp only[noD]at ha
  simp only[aA]at h
  split at ha
  ·rename_i hc
   subst hc
   exact AV (AW n r b (by omega) ha hb)
  ·rename_i hc
   simp only[aZ,bne_iff_ne,AX]at ha
   exact BG hc ha.1 (AW n (e::r) b (by simp only[aA];omega) ha.2 hb)
theorem FW:∀s:Str,noD (gO s)=true
 |[]=>rfl
 |c::r=>by
  have ih:=FW r
  simp only[gO]
  split
  ·exact AV ih
  rename_i h1
  split
  ·exact AV ih
  split
  ·exact AV ih
  ·simp only[eB,fI,not_or]at h1
   exact BG h1.1.1 h1.2 ih
theorem ID:∀(n:Nat) (name s:Str) (t:Str) (k:Nat),kN n name s=(t,k,0)->k<=s.length/\noD t=true
 |0,_,_,_,_,h=>by simp[kN]at h
 |n+1,name,s,t,k,h=>by
  have hr:=pU (λb=>b !=10) s
  simp only[kN]at h
  split at h
  ·injection h with h1 h2
   injection h2 with h2 _
   subst h1 h2
   exact⟨hr,rfl⟩
  split at h
  ·cases h
  rename_i hlen
  split at h
  ·rename_i he
   injection h with h1 h2
   injection h2 with h2 _
   obtain⟨i1,i2⟩:=ID n name (s.drop (cS (λb=>b !=10) s+1)) (kN n name (s.drop (cS (λb=>b !=10) s+1))).1 (kN n name (s.drop (cS (λb=>b !=10) s+1))).2.1 (eO rfl (eO rfl he))
   rw[aJ]at i1
   subst h1 h2
   refine⟨by omega,?_⟩
   refine AW _ _ _ (aL _) (AW _ _ _ (aL _) (FW _) rfl) i2
  ·rename_i he
   injection h with _ h2
   injection h2 with _ h2
   exact absurd h2 he
theorem OT{s:Str}{m:Nat}(hm:(s.drop m).head?=some c):m<s.length:=by
 by_cases hl:m<s.length
 ·exact hl
 ·rw[dO (by omega)]at hm;cases hm
theorem BW{s t:Str}{k:Nat}(h:fN s=(t,k,0)):1<=k/\k<=s.length/\noD t=true:=by
 unfold fN at h;simp only at h;generalize (if eD ((s.drop 2).headD 0)=true then cS dM (s.drop 2)else 0)=n at h;split at h
 ·cases h
 split at h
 ·rename_i hh;have hlt:=OT hh;generalize hH:kN (s.length+1) ((s.drop 2).take n) (s.drop (2+n+1))=x at h;obtain⟨x1,x2,x3⟩:=x;simp only at h;split at h
  ·rename_i he;subst he;injection h with h1 h2
   injection h2 with h2 _
   obtain⟨i1,i2⟩:=ID _ _ _ _ _ hH;rw[aJ]at i1;subst h1 h2;exact⟨by omega,by omega,i2⟩
  ·rename_i he;injection h with _ h2
   injection h2 with _ h2
   exact absurd h2 he
 ·cases h
theorem El{s:Str}{t:Tok}{k:Nat}(hs:s≠[])(h:iH s=(t,k,0)):1<=k/\k<=s.length/\t.k≠0/\t.a=0/\(t.k=1->t.t≠[])/\(t.k=3->insP t.t=none\/t.t.length+2<=k):=by
 obtain⟨c,r,rfl⟩:∃c r,s=c::r:=by
  cases s with
  |nil=>exact absurd rfl hs
  |cons c r=>exact⟨c,r,rfl⟩
 unfold iH at h;simp only[AL]at h;split at h
 ·injection h with h1 h2
  injection h2 with h2 _
  subst h1 h2;simp
 split at h
 ·rename_i hl;injection h with h1 h2
  injection h2 with h2 h3
  have hp:1<=cS dM (c::r):=by
   simp only[cS];rw[aF (by unfold dM;rw[hl];rfl)];omega
  have:=pU dM (c::r);subst h1 h2;refine⟨hp,this,by simp,rfl,λ_=>?_,λe=>by simp at e⟩;intro e;have e:=congrArg List.length e;rw[cG,aC]at e;omega
 split at h
 ·rename_i hl;injection h with h1 h2
  injection h2 with h2 h3
  have hp:1<=cS eH (c::r):=by
   simp only[cS];rw[aF hl];omega
  have:=pU eH (c::r);subst h1 h2;exact⟨hp,this,by simp,rfl,λe=>by simp at e,λe=>by simp at e⟩
 split at h
 ·split at h
  ·rename_i he;injection h with h1 h2
   injection h2 with h2 _
   have hx:mM ((c::r).length+1) ((c::r).drop 1) 0=dW r 0:=pK (by simp;omega);rw[hx]at he h1 h2;obtain⟨_,q2,q3⟩:=(iE r.length r (aL _)).1 0 (dW r 0).1 (eO rfl he);subst h1 h2;refine⟨by omega,by simp only[aA];omega,by simp,rfl,λe=>by simp at e,λ_=>.inr ?_⟩;rw[cG];simp only[bG,bJ];omega
  ·rename_i he;injection h with _ h2
   injection h2 with _ h2
   exact absurd h2 he
 split at h
 ·injection h with h1 h2
  injection h2 with h2 h3
  obtain⟨i1,i2,i3⟩:=BW (s:=c::r) (t:=(fN (c::r)).1) (k:=(fN (c::r)).2.1) (eO rfl (eO rfl h3));subst h1 h2;exact⟨i1,i2,by simp,rfl,λe=>by simp at e,λ_=>.inl (AU _ _ (aL _) i3)⟩
 ·injection h with h1 h2
  injection h2 with h2 h3
  subst h1 h2;split at h3
  ·cases h3
  rename_i hz;refine⟨by omega,?_,by simp,rfl,λe=>by simp at e,λe=>by simp at e⟩;unfold nO;split
  ·exact List.length_take_le' _ _
  ·split
   ·exact List.length_take_le' _ _
   ·simp
theorem Fh:∀(n:Nat) (s:Str) (a cnt:Nat) (l:List Tok),iJ n s a cnt=.ok l->TG ((a+s.length:Nat):Int) 0 l
 |0,_,_,_,_,h=>by simp[iJ]at h
 |n+1,s,a,cnt,l,h=>by
  have hk:=tJ (s.length+1) s
  simp only[iJ]at h
  split at h
  ·cases h
  split at h
  ·rename_i hr
   injection h with h
   subst h
   have:s.length<=(cZ (s.length+1) s).1:=by
    have:=congrArg List.length hr;rw[aJ,aC]at this;omega
   refine⟨by simp,λi t ht=>?_⟩;have hi:i=0:=by
    by_cases h0:i=0
    ·exact h0
    ·rw[cA (by simp;omega)]at ht;cases ht
   subst hi;simp only[dV,bD]at ht;subst ht;refine⟨by simp only;omega,by simp only;omega,λe=>absurd rfl e,λe=>by simp at e,λe=>by simp at e,λ_=>rfl⟩
  rename_i hr;split at h
  ·cases h
  rename_i ho;split at h
  ·cases h
  have hlen:s.length-(cZ (s.length+1) s).1=(s.drop (cZ (s.length+1) s).1).length:=(aJ ..).symm;obtain⟨o1,o2,o3,o4,o5,o6⟩:=El hr (eO rfl (eO rfl (Classical.not_not.1 ho)):iH (s.drop (cZ (s.length+1) s).1)=((iH (s.drop (cZ (s.length+1) s).1)).1,(iH (s.drop (cZ (s.length+1) s).1)).2.1,0));split at h
  ·rename_i l' hl';injection h with h
   subst h;have ih:=Fh n _ _ _ _ hl';rw[aJ]at ih;have eN:a+(cZ (s.length+1) s).1+(iH (s.drop (cZ (s.length+1) s).1)).2.1+((s.drop (cZ (s.length+1) s).1).length-(iH (s.drop (cZ (s.length+1) s).1)).2.1)=a+s.length:=by omega
   rw[eN]at ih;refine⟨by simp,λi t ht=>?_⟩;cases i with
   |zero=>
    simp only[dV,bD]at ht;subst ht;refine⟨by simp only;omega,by simp only;omega,λ_=>by simp only;omega,λe=>?_,λe=>o5 e,λe=>?_⟩
    ·rcases o6 e with h|h
     ·exact .inl h
     ·exact .inr (by simp only;omega)
    ·simp only[aA]at e;have:=ih.ne;exact absurd (bY (by omega)) this
   |succ i=>
    simp only[dK]at ht;have:=ih.pos i t ht;exact⟨this.1,this.2.1,this.2.2.1,this.2.2.2.1,this.2.2.2.2.1,λe=>this.2.2.2.2.2 (by simp only[aA]at e;omega)⟩
  ·rename_i hne;exact absurd h (hne l)
theorem CJ:∀(n:Nat) (s:Str) (a cnt:Nat) (c b:Int),iJ n s a cnt=.bad c b->0<=b/\b<=((a+s.length:Nat):Int)
 |0,_,_,_,_,_,h=>by
  simp only[iJ]at h
  injection h with _ h
  subst h
  omega
 |n+1,s,a,cnt,c,b,h=>by
  have hk:=tJ (s.length+1) s
  simp only[iJ]at h
  split at h
  ·injection h with _ h
   subst h
   omega
  split at h
  ·cases h
  rename_i hr
  split at h
  ·injection h with _ h
   subst h
   omega
  rename_i ho
  split at h
  ·injection h with _ h
   subst h
   omega
  obtain⟨o1,o2,_⟩:=El hr (eO rfl (eO rfl (Classical.not_not.1 ho)):iH (s.drop (cZ (s.length+1) s).1)=((iH (s.drop (cZ (s.length+1) s).1)).1,(iH (s.drop (cZ (s.length+1) s).1)).2.1,0))
  rw[aJ]at o2
  split at h
  ·cases h
  ·have ih:=CJ n _ _ _ c b h
   rw[aJ,aJ]at ih
   omega
theorem IU:∀(n:Nat) (s:Str) (i j:Nat),zL n s i=some j->j<s.length
 |0,_,_,_,h=>by simp[zL]at h
 |n+1,s,i,j,h=>by
  simp only[zL]at h
  split at h
  ·cases h
  split at h
  ·injection h with h
   omega
  ·exact IU n s _ j h
theorem AR{s:Str}{l:List Tok}(h:iI s=.ok l){N off:Int}(h0:0<=off)(hN:off+s.length<=N):TG N off l:=by
 unfold iI at h;split at h
 ·cases h
 split at h
 ·cases h
 have:=Fh _ _ _ _ _ h;refine⟨this.ne,λi t ht=>?_⟩;obtain⟨h1,h2,h3,h4,h5,h6⟩:=this.pos i t ht;rw[aQ]at h2 h3 h4;rw[Int.add_zero]at h1 h2 h3 h4;refine⟨by omega,by omega,λe=>by have:=h3 e;omega,λe=>?_,h5,h6⟩;rcases h4 e with h|h
 ·exact .inl h
 ·exact .inr (by omega)
theorem Bs{s:Str}{c b:Int}(h:iI s=.bad c b):0<=b/\b<=(s.length:Nat):=by
 unfold iI at h;split at h
 ·injection h with _ h
  subst h;omega
 split at h
 ·rename_i i hi;injection h with _ h
  subst h;have:=IU _ _ _ _ hi;omega
 ·have:=CJ _ _ _ _ _ _ h;rw[aQ]at this;exact this
theorem QV:∀(N:Nat) (r:Str),r.length<=N->(∀c,lR r c<=r.length)/\nJ r<=r.length:=by
 intro N;induction N with
 |zero=>
  intro r hr;have:r=[]:=bY (by omega);subst this;exact⟨λc=>aL _,aL _⟩
 |succ N ih=>
  intro r hr;cases r with
  |nil=>exact ih [] (by simp)
  |cons c r=>
   simp only[aA]at hr;have hr:r.length<=N:=by omega
   have h1:=ih r hr;refine⟨λd=>?_,?_⟩
   ·rw[gU];have h2:=(ih (r.drop (nJ r)) (kC _ hr)).1 d;rw[aJ]at h2;have h3:=h1.1 (d+1);have h4:=h1.1 (d-1);have h5:=h1.1 d;have h6:=h1.2;simp only[aA]
    (repeat' split)<;>omega
   ·rw[oZ];have h2:=(ih (r.drop (lR r 0)) (kC _ hr)).2;rw[aJ]at h2;have h3:=h1.1 0;have h6:=h1.2;cases r with
    |nil=>
     simp only[aA,aC]at*
     (repeat' split)<;>omega
    |cons e r'=>
     have h7:=(ih r' (by simp only[aA]at hr;omega)).2;simp only[aA]at*
     (repeat' split)<;>omega
theorem EG(r:Str)(c:Int):lR r c<=r.length:=(QV r.length r (aL _)).1 c
theorem zA:∀(n:Nat) (t:Str),t.length<=n->∀i e,insP t=some (i,e)->i+2<=t.length/\i+1<=e/\e<=t.length
 |_,[],_,i,e,h=>by simp[insP]at h
 |_,[_],_,i,e,h=>by simp[insP]at h
 |0,_::_::_,h,_,_,_=>by simp at h
 |n+1,c::x::r,hn,i,e,h=>by
  simp only[aA]at hn
  simp only[insP]at h
  split at h
  ·cases hr:insP r with
   |none=>rw[hr]at h;cases h
   |some y=>
    rw[hr]at h
    simp only[jN,bD,eY]at h
    obtain⟨rfl,rfl⟩:=h
    have:=zA n r (by omega) y.1 y.2 hr
    simp only[aA]
    omega
  split at h
  ·simp only[bD,eY]at h
   obtain⟨rfl,rfl⟩:=h
   have:=EG (x::r) 0
   have e1:Ap (x::r)=lR (x::r) 0:=rfl
   rw[e1]
   simp only[aA]at this⊢
   omega
  ·cases hr:insP (x::r)with
   |none=>rw[hr]at h;cases h
   |some y=>
    rw[hr]at h
    simp only[jN,bD,eY]at h
    obtain⟨rfl,rfl⟩:=h
    have:=zA n (x::r) (by simp only[aA];omega) y.1 y.2 hr
    simp only[aA]at this⊢
    omega
section
variable{N:Int}{E S:PS->R Nat}
theorem Dk(hE:EOk N E){s:PS}(h:WS N s){t:Str}{a:Int}(h0:0<=a)(h1:a+t.length<=N):Sat (jU E s t a) (λx s'=>Go1 N s s'/\s'.bl=s.bl/\∀roots,bR (exL s.ex) roots->bR (exL s'.ex) (x::roots)) (InN N):=by
 unfold jU;split
 ·rename_i c b hs;have:=Bs hs;exact⟨by omega,by omega⟩
 ·rename_i l hs;have htg:=AR hs h0 h1;have hw:WS N ⟨l,0,a,s.deep,false,s.ex,s.bl⟩:=⟨htg,gW.2 htg.ne,h.pN⟩;refine(hE _ hw).bind λx q ⟨⟨hg,_⟩,hb,hf⟩=>?_;have hq:=hg.ws hw;unfold iC;split
  ·refine⟨⟨rfl,rfl,rfl,rfl,aL _,h.lt,λe he=>?_⟩,?_,λroots hr=>?_⟩
   ·have:e∈(fB q).ex:=he;rw[(qJ hq).2.2.1]at this;exact hg.exs e this
   ·show(fB q).bl=s.bl;rw[(qJ hq).2.2.2];exact hb
   ·show bR (exL (fB q).ex) _;rw[(qJ hq).2.2.1];exact hf roots hr
  ·have:=iQ hq;exact⟨this.1,this.2.1⟩
theorem CO{s:PS}(h:WS N s){t:Tok}(ht:InN N t.a):Sat (kX s t) (λ_ s'=>s'=s) (InN N):=by
 unfold kX;split
 ·exact ht
 ·rfl
theorem Ab(hE:EOk N E):∀(n:Nat) (s:PS) (rest:Str) (a:Int) (us:List Nat) (ks:List Str),WS N s->0<=a->a+rest.length+1<=N->
  Sat (gT E n s rest a us ks) (λx s'=>Go1 N s s'/\s'.bl=s.bl/\∀roots,bR (exL s.ex) (us++roots)->bR (exL s'.ex) (x.1++roots)) (InN N)
 |0,s,_,_,_,_,h,_,_=>⟨kT _,h.pN⟩
 |n+1,s,rest,a,us,ks,h,h0,h1=>by
  have one:∀(e:Ex),e.args=[]->0<=e.a->e.a<N->Go1 N s {s with ex:=s.ex++[e]}/\∀roots,bR (exL s.ex) (us++roots)->bR (exL (s.ex++[e])) ((us++[s.ex.length])++roots):=λe he h2 h3=>
   ⟨⟨rfl,rfl,rfl,rfl,aL _,h.lt,λx hx=>by
     rcases bQ.1 hx with hx|hx
     ·exact .inl hx
     ·rw[aU]at hx;subst hx;exact .inr ⟨h2,h3⟩⟩,
    λroots hf=>by
     have:=Cb (e:=e) (roots:=us++roots) (by rw[he];exact hf)
     refine this.perm ?_
     rw[bB]
     exact(oP).symm⟩
  simp only[gT]
  split
  ·exact⟨Go1.refl h,rfl,λ_ hf=>hf⟩
  split
  ·have:=one ⟨5,dT rest,[],[],a⟩ rfl h0 (by show a<N;omega)
   exact⟨this.1,rfl,this.2⟩
  ·rename_i i e hi
   obtain⟨i1,i2,i3⟩:=zA rest.length rest (aL _) i e hi
   have hs1:∃s1 as1,s1=(if 0<i then{s with ex:=s.ex++[⟨5,dT (rest.take i),[],[],a⟩]}else s)/\as1=(if 0<i then us++[s.ex.length]else us)/\Go1 N s s1/\s1.bl=s.bl/\∀roots,bR (exL s.ex) (us++roots)->bR (exL s1.ex) (as1++roots):=by
    refine⟨_,_,rfl,rfl,?_⟩;split
    ·have:=one ⟨5,dT (rest.take i),[],[],a⟩ rfl h0 (by show a<N;omega);exact⟨this.1,rfl,this.2⟩
    ·exact⟨Go1.refl h,rfl,λ_ hf=>hf⟩
   obtain⟨s1,as1,e1,e2,g1,b1,f1⟩:=hs1;rw[<-e1,<-e2];have hw1:=g1.ws h;have hd:((rest.drop e).length:Int)=rest.length-e:=by rw[aJ];omega
   split
   ·refine Sat.bind (kV hw1 (a:=a+i) ⟨by omega,by omega⟩ (P:=λx s'=>Go1 N {s1 with deep:=s1.deep+1,quiet:=false} s'/\s'.bl=s1.bl/\∀roots,bR (exL s1.ex) roots->bR (exL s'.ex) (x::roots)) λhw=>Dk hE hw (by omega) ?_) λx s2 ⟨q,⟨g2,b2,f2⟩,e3⟩=>?_
    ·rw[cG,aJ];omega
    ·subst e3;have g2':=g2.back;refine Sat.mono (Ab hE n _ (rest.drop e) (a+e) (as1++[x]) _ ((g2').ws hw1) (by omega) (by rw[hd];omega)) λy s3 ⟨g3,b3,f3⟩=>⟨g1.trans (g2'.trans g3),b3.trans (b2.trans b1),λroots hf=>f3 roots ?_⟩;have:=f2 _ (f1 roots hf);refine this.perm ?_;rw[bB];exact(oP).symm
   ·refine Sat.mono (Ab hE n s1 (rest.drop e) (a+e) as1 _ hw1 (by omega) (by rw[hd];omega)) λy s3 ⟨g3,b3,f3⟩=>⟨g1.trans g3,b3.trans b1,λroots hf=>f3 roots (f1 roots hf)⟩
theorem Kw(hE:EOk N E){s:PS}(h:WS N s){t:Tok}(ha:0<=t.a/\t.a<N)(ht:EM N t.a t.t):Sat (qT E s t) (λx s'=>Go1 N s s'/\s'.bl=s.bl/\∀roots,bR (exL s.ex) roots->bR (exL s'.ex) (x::roots)) (InN N):=by
 unfold qT;split
 ·rename_i hi;have ht:t.a+t.t.length+2<=N:=ht.resolve_left λe=>by rw[e]at hi;cases hi
  refine(Ab hE (t.t.length+1) s t.t (t.a+1) [] [] h (by omega) (by omega)).bind λx s1 ⟨g1,b1,f1⟩=>?_;refine(yM (g1.ws h) (e:=⟨6,[],x.1,x.2,t.a⟩) ha).mono λy s2 ⟨g2,_,b2,f2⟩=>⟨g1.trans g2,b2.trans b1,λroots hf=>f2 roots (f1 roots hf)⟩
 ·exact(yM h (e:=⟨5,dT t.t,[],[],t.a⟩) ha).mono λy s2 ⟨g2,_,b2,f2⟩=>⟨g2,b2,λroots hf=>f2 roots hf⟩
theorem GC(hE:EOk N E)(w:Str):∀(n:Nat) (s:PS) (out:List Nat),WS N s->
  Sat (lQ E w n s out) (λx s'=>Later N s s'/\s'.bl=s.bl/\∀roots,bR (exL s.ex) (out++roots)->bR (exL s'.ex) (x++roots)) (InN N)
 |0,s,_,h=>⟨kT _,h.pN⟩
 |n+1,s,out,h=>by
  have step:∀{s1:PS},Go1 N s s1->s1.ex=s.ex->s1.bl=s.bl->Sat ((E s1).bind λx s'=>lQ E w n s' (out++[x])) (λx s'=>Later N s s'/\s'.bl=s.bl/\∀roots,bR (exL s.ex) (out++roots)->bR (exL s'.ex) (x++roots)) (InN N):=λ{s1} g1 x1 b1=>by
   refine(hE s1 (g1.ws h)).bind λx s2 ⟨g2,b2,f2⟩=>?_
   refine Sat.mono (GC hE w n s2 (out++[x]) (g2.1.ws (g1.ws h))) λy s3 ⟨g3,b3,f3⟩=>⟨⟨g1.trans (g2.1.trans g3.1),by have:=g1.le;have:=g2.2;have:=g3.2;omega⟩,b3.trans (b2.trans b1),λroots hf=>f3 roots ?_⟩
   have:=f2 _ (by rw[x1];exact hf)
   refine this.perm ?_
   rw[bB]
   exact(oP).symm
  have t1:=iO h w
  simp only[lQ]
  split
  ·rename_i ht
   exact⟨⟨t1.1,t1.2.1 ht⟩,t1.2.2.2,λroots hf=>by rw[t1.2.2.1];exact hf⟩
  split
  ·rename_i ho
   have:=step t1.1 t1.2.2.1 t1.2.2.2
   exact this
  ·refine(jQ (t1.1.ws h) [44]).bind λ_ s1 ⟨g1,x1,b1⟩=>?_
   have g01:=t1.1.trans g1.1
   have t2:=iO (g01.ws h) w
   split
   ·rename_i ht
    exact⟨⟨g01.trans t2.1,by have:=t1.1.le;have:=g1.2;have:=t2.1.le;omega⟩,t2.2.2.2.trans (b1.trans t1.2.2.2),λroots hf=>by rw[t2.2.2.1,x1,t1.2.2.1];exact hf⟩
   ·exact step (g01.trans t2.1) (t2.2.2.1.trans (x1.trans t1.2.2.1)) (t2.2.2.2.trans (b1.trans t1.2.2.2))
theorem Dz(hE:EOk N E)(w:Str){s:PS}(h:WS N s):Sat (xF E w s) (λx s'=>Later N s s'/\s'.bl=s.bl/\∀roots,bR (exL s.ex) roots->bR (exL s'.ex) (x++roots)) (InN N):=
 (GC hE w _ s [] h).mono λx s' ⟨g,b,f⟩=>⟨g,b,λroots hf=>f roots hf⟩
theorem Lz(hE:EOk N E){s:PS}(h:WS N s)(hk:(cur s).k≠0)(hq:aM s=s){a:Int}(ha:0<=a/\a<N):Sat (qY E s a) (λe s'=>Later N s s'/\s'.bl=s.bl/\(0<=e.a/\e.a<N)/\∀roots,bR (exL s.ex) roots->bR (exL s'.ex) (e.args++roots)) (InN N):=by
 have hs:=iP h hk;rw[hq]at hs;have hw:=hs.1.ws h;have hn:=eW hw;have ex1:(aM (step1 s)).ex=s.ex:=(fA _).1;have bl1:(aM (step1 s)).bl=s.bl:=(fA _).2;unfold qY;simp only;split
 ·refine(Dz hE [93] (hn.ws hw)).bind λus s1 ⟨g1,b1,f1⟩=>?_;exact⟨⟨hs.1.trans (hn.trans g1.1),by have:=hs.2;have:=hn.le;have:=g1.2;omega⟩,b1.trans bl1,ha,λroots hf=>f1 roots (by rw[ex1];exact hf)⟩
 ·rename_i hc;have hk1:(cur (step1 s)).k≠0:=λe=>hc (.inl (by rw[e];decide));have h2:=iP hw hk1;refine(lH (h2.1.ws hw) 1 (by decide)).bind λt s2 ⟨g2,x2,b2,_⟩=>?_;have hw2:=g2.1.ws (h2.1.ws hw);refine(lH hw2 1 (by decide)).bind λu s3 ⟨g3,x3,b3,hu,_⟩=>?_;have hw3:=g3.1.ws hw2;split
  ·have:=iQ hw2;rw[hu];exact⟨this.1,this.2.1⟩
  refine(hE s3 hw3).bind λx s4 ⟨g4,b4,f4⟩=>?_;have hw4:=g4.1.ws hw3;refine(jQ hw4 [58]).bind λ_ s5 ⟨g5,x5,b5⟩=>?_;have hw5:=g5.1.ws hw4;refine(hE s5 hw5).bind λy s6 ⟨g6,b6,f6⟩=>?_;have hw6:=g6.1.ws hw5;refine(jQ hw6 [93]).bind λ_ s7 ⟨g7,x7,b7⟩=>?_;have e01:(step1 (aM (step1 s))).ex=s.ex:=ex1;have e02:(step1 (aM (step1 s))).bl=s.bl:=bl1;refine⟨⟨hs.1.trans (h2.1.trans (g2.1.trans (g3.1.trans (g4.1.trans (g5.1.trans (g6.1.trans g7.1)))))),by have:=hs.2;have:=h2.2;have:=g2.2;have:=g3.2;have:=g4.2;have:=g5.2;have:=g6.2;have:=g7.2;omega⟩,
   b7.trans (b6.trans (b5.trans (b4.trans (b3.trans (b2.trans e02))))),ha,λroots hf=>?_⟩
  rw[x7];have h1:=f4 roots (by rw[x3,x2,e01];exact hf);have h2:=f6 _ (by rw[x5];exact h1);exact h2.perm (List.Perm.swap _ _ _)
theorem Ir(hE:EOk N E){a:Int}(ha:0<=a/\a<N):∀(n:Nat) (s:PS) (us:List Nat) (ks:List Str),WS N s->
  Sat (tQ E a n s us ks) (λe s'=>Later N s s'/\s'.bl=s.bl/\(0<=e.a/\e.a<N)/\∀roots,bR (exL s.ex) (us++roots)->bR (exL s'.ex) (e.args++roots)) (InN N)
 |0,s,_,_,h=>⟨kT _,h.pN⟩
 |n+1,s,us,ks,h=>by
  have t1:=iO h [125]
  simp only[tQ]
  split
  ·rename_i ht
   exact⟨⟨t1.1,t1.2.1 ht⟩,t1.2.2.2,ha,λroots hf=>by rw[t1.2.2.1];exact hf⟩
  have hw1:=t1.1.ws h
  have n1:=qJ hw1
  have hw2:=n1.1.ws hw1
  have hc:=iQ hw1
  have hca:InN N (cur (aW s [125]).2).a:=⟨hc.1,hc.2.1⟩
  refine Sat.bind (P:=λ_ s3=>s3=fB (aW s [125]).2/\(cur (aW s [125]).2).k≠0) ?_ λk s3 ⟨e3,hk0⟩=>?_
  ·split
   ·rename_i hk
    exact(CO hw2 hca).mono λ_ s3 e=>⟨e,by rw[hk];decide⟩
   ·split
    ·rename_i hk
     exact⟨rfl,by rw[hk];decide⟩
    ·exact hca
  subst e3
  split
  ·exact hca
  refine(jQ hw2 [61]).bind λ_ s4 ⟨g4,x4,b4⟩=>?_
  have hw4:=g4.1.ws hw2
  refine(hE s4 hw4).bind λx s5 ⟨g5,b5,f5⟩=>?_
  have hw5:=g5.1.ws hw4
  have t5:=iO hw5 [44]
  have hw6:=t5.1.ws hw5
  have n6:=eW hw6
  have g05:=t1.1.trans (n1.1.trans (g4.1.trans (g5.1.trans t5.1)))
  split
  ·have:=iQ (n6.ws hw6)
   exact⟨this.1,this.2.1⟩
  have l6:∃s6,s6=(if(aW s5 [44]).1=true then(aW s5 [44]).2 else aM (aW s5 [44]).2)/\Go1 N (aW s5 [44]).2 s6/\s6.ex=(aW s5 [44]).2.ex/\s6.bl=(aW s5 [44]).2.bl:=by
   refine⟨_,rfl,?_⟩;split
   ·exact⟨Go1.refl hw6,rfl,rfl⟩
   ·exact⟨n6,(fA _).1,(fA _).2⟩
  obtain⟨s6,e6,g6,x6,b6⟩:=l6;rw[<-e6];have hw7:=g6.ws hw6;have l7:=kK hw7;refine Sat.mono (Ir hE ha n (dG s6) (us++[x]) (ks++[k]) (l7.1.ws hw7)) λe s8 ⟨g8,b8,ha8,f8⟩=>⟨⟨g05.trans (g6.trans (l7.1.trans g8.1)),by have:=g05.le;have:=g6.le;have:=l7.1.le;have:=g8.2;omega⟩,
   b8.trans (l7.2.2.trans (b6.trans (t5.2.2.2.trans (b5.trans (b4.trans (n1.2.2.2.trans t1.2.2.2)))))),ha8,λroots hf=>f8 roots ?_⟩
  rw[l7.2.1,x6,t5.2.2.1];have:=f5 (us++roots) (by rw[x4,n1.2.2.1,t1.2.2.1];exact hf);refine this.perm ?_;rw[bB];exact(oP).symm
end
theorem _root_.And.tr{N:Int}{s s1 s2:PS}(h:Later N s s1)(h':Later N s1 s2):Later N s s2:=⟨h.1.trans h'.1,Nat.lt_trans h.2 h'.2⟩
theorem Go1.tr{N:Int}{s s1 s2:PS}(h:Go1 N s s1)(h':Later N s1 s2):Later N s s2:=⟨h.trans h'.1,Nat.lt_of_le_of_lt h.le h'.2⟩
section
variable{N:Int}{E S:PS->R Nat}
theorem Fp{l:List Tok}{t:Tok}(h:l[i]?=some t)(hk:t.k≠5):eS (l.drop i)=0:=by
 have hlt:=(bF.1 h).1;rw[fS hlt];have:l[i]=t:=(bF.1 h).2;simp[eS,this,hk]
theorem Ls{N:Int}{s:PS}(h:WS N s)(hk:(jX s).k≠5):aM s=s:=by
 unfold aM;split
 ·rw[Fp (uR h) hk];rfl
 ·rfl
theorem nA{N:Int}{s:PS}(h:WS N s){w:Str}(hi:isS s w=true)(d:Nat)(q:Bool):aM {aM s with deep:=d,quiet:=q}={aM s with deep:=d,quiet:=q}/\(cur {aM s with deep:=d,quiet:=q}).k≠0/\(cur {aM s with deep:=d,quiet:=q}).a=(cur s).a:=by
 have hw:=(eW h).ws h;have hk:(jX (aM s)).k=4:=by
  unfold isS cur at hi;simp only[aZ,jE]at hi;exact hi.1
 have e1:aM {aM s with deep:=d,quiet:=q}={aM s with deep:=d,quiet:=q}:=Ls (uN hw d q) (by show(jX (aM s)).k≠5;rw[hk];decide);have e2:(aM s).off=s.off:=by unfold aM;split<;>rfl
 refine⟨e1,?_,?_⟩
 ·unfold cur;rw[e1];show(jX (aM s)).k≠0;rw[hk];decide
 ·unfold cur;rw[e1];show(jX (aM s)).a+(aM s).off=(jX (aM s)).a+s.off;rw[e2]
abbrev Leaves(N:Int)(s:PS)(x:Nat)(s':PS):Prop:=Later N s s'/\s'.bl=s.bl/\∀roots,bR (exL s.ex) roots->bR (exL s'.ex) (x::roots)
theorem pC{s s1:PS}(h:WS N s)(hg:Later N s s1)(hb:s1.bl=s.bl){e:Ex}(ha:0<=e.a/\e.a<N)(hf:∀roots,bR (exL s.ex) roots->bR (exL s1.ex) (e.args++roots)):Sat (lL s1 e) (Leaves N s) (InN N):=
 (yM (hg.1.ws h) ha).mono λx s2 ⟨g2,i2,b2,f2⟩=>⟨⟨hg.1.trans g2,by have:=hg.2;rw[i2];exact this⟩,b2.trans hb,λroots hr=>f2 roots (hf roots hr)⟩
theorem GA(hE:EOk N E):EOk N (iL E):=by
 intro s h;have n1:=eW h;have hw1:=n1.ws h;have hc:=iQ h;have x1:=fA s;unfold iL;simp only;split
 ·rename_i hk;have h2:=iP h (by rw[hk];decide);exact pC h h2 x1.2 (e:=⟨4,(cur s).t,[],[],(cur s).a⟩) ⟨hc.1,hc.2.2.1 (by rw[hk];decide)⟩ λroots hr=>by show bR (exL (aM s).ex) _;rw[x1.1];exact hr
 split
 ·rename_i hk;have h2:=iP h (by rw[hk];decide);refine(Kw hE (h2.1.ws h) (t:=cur s) ⟨hc.1,hc.2.2.1 (by rw[hk];decide)⟩ (hc.2.2.2.1 hk)).mono λx s2 ⟨g2,b2,f2⟩=>⟨⟨h2.1.trans g2,by have:=h2.2;have:=g2.le;omega⟩,b2.trans x1.2,λroots hr=>f2 roots (by show bR (exL (aM s).ex) _;rw[x1.1];exact hr)⟩
 split
 ·rename_i hk;have hk0:(cur s).k≠0:=by rw[hk.1];decide
  have h2:=iP h hk0;have hw2:=h2.1.ws h;have n2:=eW hw2;have hw3:=n2.ws hw2;have hat:0<=(cur s).a/\(cur s).a<N:=⟨hc.1,hc.2.2.1 hk0⟩;split
  ·rename_i hi;have hc2:=iQ hw2;refine Sat.bind (kV hw3 (a:=(cur (step1 (aM s))).a) (q:=true) ⟨hc2.1,hc2.2.1⟩ (P:=λus s'=>Later N {aM (step1 (aM s))with deep:=(aM (step1 (aM s))).deep+1,quiet:=true} s'/\s'.bl=s.bl/\∀roots,bR (exL s.ex) roots->bR (exL s'.ex) (us++roots)) λhw=>?_) λus s2 ⟨q,⟨g2,b2,f2⟩,e2⟩=>?_
   ·have hh:=nA hw2 hi ((aM (step1 (aM s))).deep+1) true;have h4:=iP hw hh.2.1;rw[hh.1]at h4;exact(Dz hE [41] (h4.1.ws hw)).mono λus s' ⟨g,b,f⟩=>⟨h4.tr g,b.trans ((fA _).2.trans x1.2),λroots hr=>f roots (by show bR (exL (aM (step1 (aM s))).ex) _;rw[(fA _).1];show bR (exL (aM s).ex) _;rw[x1.1];exact hr)⟩
   ·subst e2;have g2':=g2.1.back;refine pC h ⟨h2.1.trans (n2.trans g2'),?_⟩ b2 (e:=⟨12,(cur s).t,us,[],(cur s).a⟩) hat f2;have:=h2.2;have:=n2.le;have:=g2'.le;omega
  ·exact pC h ⟨h2.1.trans n2,by have:=h2.2;have:=n2.le;omega⟩ ((fA _).2.trans x1.2) (e:=⟨kJ (cur s).t,if kJ (cur s).t=9 then(cur s).t else [],[],[],(cur s).a⟩) hat λroots hr=>by rw[(fA _).1];show bR (exL (aM s).ex) _;rw[x1.1];exact hr
 have hca:InN N (cur s).a:=⟨hc.1,hc.2.1⟩;have gH:∀w,isS (aM s) w=isS s w:=λw=>by unfold isS;rw[kD]
 split
 ·rename_i hi;rw[gH]at hi;refine(kV hw1 (a:=(cur s).a) (q:=true) hca (P:=λx s'=>Later N {aM s with deep:=(aM s).deep+1,quiet:=true} s'/\s'.bl=s.bl/\∀roots,bR (exL s.ex) roots->bR (exL s'.ex) (x::roots)) λhw=>?_).mono λx s2 ⟨q,⟨g2,b2,f2⟩,e2⟩=>?_
  ·have hh:=nA h hi ((aM s).deep+1) true;have h4:=iP hw hh.2.1;rw[hh.1]at h4;refine(hE _ (h4.1.ws hw)).bind λx q1 ⟨g1,b1,f1⟩=>?_;refine(jQ (g1.1.ws (h4.1.ws hw)) [41]).bind λ_ q2 ⟨g2,e2,b2⟩=>?_;refine⟨h4.tr (g1.tr g2),b2.trans (b1.trans x1.2),λroots hr=>?_⟩;rw[e2];exact f1 roots (by show bR (exL (aM s).ex) _;rw[x1.1];exact hr)
  ·subst e2;have g2':=g2.1.back;exact⟨⟨n1.trans g2',by have:=n1.le;have:=g2.2;show s.i<q.i;simp only at this;omega⟩,b2,f2⟩
 split
 ·rename_i hi;rw[gH]at hi;refine Sat.bind (kV hw1 (a:=(cur s).a) (q:=true) hca (P:=λ(e:Ex) s'=>Later N {aM s with deep:=(aM s).deep+1,quiet:=true} s'/\s'.bl=s.bl/\(0<=e.a/\e.a<N)/\∀roots,bR (exL s.ex) roots->bR (exL s'.ex) (e.args++roots)) λhw=>?_) λe s2 ⟨q,⟨g2,b2,a2,f2⟩,e2⟩=>?_
  ·have hh:=nA h hi ((aM s).deep+1) true;refine(Lz hE hw hh.2.1 hh.1 ⟨hc.1,hc.2.2.1 (lP hi)⟩).mono λe s' ⟨g,b,a,f⟩=>⟨g,b.trans x1.2,a,λroots hr=>f roots (by show bR (exL (aM s).ex) _;rw[x1.1];exact hr)⟩
  ·subst e2;have g2':=g2.1.back;exact pC h ⟨n1.trans g2',by have:=n1.le;have:=g2.2;show s.i<q.i;simp only at this;omega⟩ b2 a2 f2
 split
 ·rename_i hi;rw[gH]at hi;refine Sat.bind (kV hw1 (a:=(cur s).a) (q:=false) hca (P:=λ(e:Ex) s'=>Later N {aM s with deep:=(aM s).deep+1,quiet:=false} s'/\s'.bl=s.bl/\(0<=e.a/\e.a<N)/\∀roots,bR (exL s.ex) roots->bR (exL s'.ex) (e.args++roots)) λhw=>?_) λe s2 ⟨q,⟨g2,b2,a2,f2⟩,e2⟩=>?_
  ·have hh:=nA h hi ((aM s).deep+1) false;have h4:=iP hw hh.2.1;rw[hh.1]at h4;have l4:=kK (h4.1.ws hw);unfold BE;refine(Ir hE ⟨hc.1,hc.2.2.1 (lP hi)⟩ _ _ [] [] (l4.1.ws (h4.1.ws hw))).mono λe s' ⟨g,b,a,f⟩=>⟨h4.tr (Go1.tr l4.1 g),b.trans (l4.2.2.trans x1.2),a,λroots hr=>f roots (by rw[l4.2.1];show bR (exL (aM s).ex) _;rw[x1.1];exact hr)⟩
  ·subst e2;have g2':=g2.1.back;exact pC h ⟨n1.trans g2',by have:=n1.le;have:=g2.2;show s.i<q.i;simp only at this;omega⟩ b2 a2 f2
 ·exact hca
abbrev MJ(N:Int)(s:PS)(x:Nat)(y:Nat)(s':PS):Prop:=Go1 N s s'/\s'.bl=s.bl/\∀roots,bR (exL s.ex) (x::roots)->bR (exL s'.ex) (y::roots)
theorem CN(hE:EOk N E):∀(n:Nat) (s:PS) (x:Nat),WS N s->Sat (iV E n s x) (MJ N s x) (InN N)
 |0,s,_,h=>⟨kT _,h.pN⟩
 |n+1,s,x,h=>by
  have n1:=eW h
  have hw1:=n1.ws h
  have hc:=iQ h
  have x1:=fA s
  have gH:∀w,isS (aM s) w=isS s w:=λw=>by unfold isS;rw[kD]
  have hca:InN N (cur s).a:=⟨hc.1,hc.2.1⟩
  have more:∀{s2:PS} {e:Ex},Go1 N s s2->s2.bl=s.bl->0<=e.a/\e.a<N->(∀roots,bR (exL s.ex) (x::roots)->bR (exL s2.ex) (e.args++roots))->Sat ((lL s2 e).bind λy s3=>iV E n s3 y) (MJ N s x) (InN N):=λ{s2 e} g2 b2 ha f2=>by
   refine(yM (g2.ws h) ha).bind λy s3 ⟨g3,_,b3,f3⟩=>?_
   exact(CN hE n s3 y (g3.ws (g2.ws h))).mono λz s4 ⟨g4,b4,f4⟩=>⟨g2.trans (g3.trans g4),b4.trans (b3.trans b2),λroots hr=>f4 roots (f3 roots (f2 roots hr))⟩
  simp only[iV]
  have t1:=iO hw1 [46]
  split
  ·rename_i ht
   have hk0:(cur s).k≠0:=by
    have:isS (aM s) [46]=true:=by
     unfold aW at ht;split at ht
     ·assumption
     ·cases ht
    rw[gH]at this;exact lP this
   have hw2:=t1.1.ws hw1;refine(lH hw2 1 (by decide)).bind λu s2 ⟨g2,x2,b2,_⟩=>?_;exact more (e:=⟨10,u.t,[x],[],(cur s).a⟩) (n1.trans (t1.1.trans g2.1)) (b2.trans (t1.2.2.2.trans x1.2)) ⟨hc.1,hc.2.2.1 hk0⟩ λroots hr=>by rw[x2,t1.2.2.1,x1.1];exact hr
  split
  ·rename_i hi;rw[gH]at hi;have hat:0<=(cur s).a/\(cur s).a<N:=⟨hc.1,hc.2.2.1 (lP hi)⟩;refine Sat.bind (kV hw1 (a:=(cur s).a) (q:=true) hca (P:=λ(o:Option Nat) s'=>Go1 N {aM s with deep:=(aM s).deep+1,quiet:=true} s'/\s'.bl=s.bl/\(o=none->s'.ex=s.ex)/\∀y,o=some y->∀roots,bR (exL s.ex) roots->bR (exL s'.ex) (y::roots)) λhw=>?_) λo s2 ⟨q,⟨g2,b2,f2,f2'⟩,e2⟩=>?_
   ·have hh:=nA h hi ((aM s).deep+1) true;have h4:=iP hw hh.2.1;rw[hh.1]at h4;have hw4:=h4.1.ws hw;have t4:=iO hw4 [42];have ex4:(step1 {aM s with deep:=(aM s).deep+1,quiet:=true}).ex=s.ex:=x1.1;have bl4:(step1 {aM s with deep:=(aM s).deep+1,quiet:=true}).bl=s.bl:=x1.2;split
    ·refine(jQ (t4.1.ws hw4) [93]).bind λ_ q2 ⟨g5,x5,b5⟩=>?_;exact⟨h4.1.trans (t4.1.trans g5.1),b5.trans (t4.2.2.2.trans bl4),λ_=>x5.trans (t4.2.2.1.trans ex4),λy e=>by cases e⟩
    ·refine(hE _ (t4.1.ws hw4)).bind λy q1 ⟨g5,b5,f5⟩=>?_;refine(jQ (g5.1.ws (t4.1.ws hw4)) [93]).bind λ_ q2 ⟨g6,x6,b6⟩=>?_;refine⟨h4.1.trans (t4.1.trans (g5.1.trans g6.1)),b6.trans (b5.trans (t4.2.2.2.trans bl4)),λe=>(by cases e),λz e roots hr=>?_⟩;injection e with e
     subst e;rw[x6];exact f5 roots (by rw[t4.2.2.1,ex4];exact hr)
   ·subst e2;have g2':=g2.back;have g02:=n1.trans g2';cases o with
    |some y=>
     simp only;refine more (e:=⟨11,[],[x,y],[],(cur s).a⟩) g02 b2 hat λroots hr=>?_;exact(f2' y rfl _ hr).perm (List.Perm.swap _ _ _)
    |none=>
     simp only;have hw2:=g02.ws h;refine(jQ hw2 [46]).bind λ_ s3 ⟨g3,x3,b3⟩=>?_;refine(lH (g3.1.ws hw2) 1 (by decide)).bind λu s4 ⟨g4,x4,b4,_⟩=>?_;exact more (e:=⟨30,u.t,[x],[],(cur s).a⟩) (g02.trans (g3.1.trans g4.1)) (b4.trans (b3.trans b2)) hat λroots hr=>by rw[x4,x3];show bR (exL q.ex) _;rw[f2 rfl];exact hr
  ·exact⟨n1,x1.2,λroots hr=>by rw[x1.1];exact hr⟩
theorem La(hE:EOk N E):EOk N (xA E):=by
 intro s h;unfold xA;refine(GA hE s h).bind λx s1 ⟨g1,b1,f1⟩=>?_;exact(CN hE _ s1 x (g1.1.ws h)).mono λy s2 ⟨g2,b2,f2⟩=>⟨⟨g1.1.trans g2,by have:=g1.2;have:=g2.le;omega⟩,b2.trans b1,λroots hr=>f2 roots (f1 roots hr)⟩
theorem Bo(hE:EOk N E)(hS:EOk N S):EOk N (nN E S):=by
 intro s h;have n1:=eW h;have hw1:=n1.ws h;have hc:=iQ h;have x1:=fA s;have gH:∀w,isS (aM s) w=isS s w:=λw=>by unfold isS;rw[kD]
 have hca:InN N (cur s).a:=⟨hc.1,hc.2.1⟩;have one:∀(w:Str) (k:Int),isS s w=true->Sat ((within (aM s) (cur s).a (aM s).quiet λq=>S (step1 q)).bind λx s2=>lL s2 ⟨k,[],[x],[],(cur s).a⟩) (Leaves N s) (InN N):=λw k hi=>by
  refine Sat.bind (kV hw1 (a:=(cur s).a) (q:=(aM s).quiet) hca (P:=λx s'=>Later N {aM s with deep:=(aM s).deep+1,quiet:=(aM s).quiet} s'/\s'.bl=s.bl/\∀roots,bR (exL s.ex) roots->bR (exL s'.ex) (x::roots)) λhw=>?_) λx s2 ⟨q,⟨g2,b2,f2⟩,e2⟩=>?_
  ·have hh:=nA h hi ((aM s).deep+1) (aM s).quiet;have h4:=iP hw hh.2.1;rw[hh.1]at h4;refine(hS _ (h4.1.ws hw)).mono λx q1 ⟨g1,b1,f1⟩=>⟨h4.tr g1,b1.trans x1.2,λroots hr=>f1 roots (by show bR (exL (aM s).ex) _;rw[x1.1];exact hr)⟩
  ·subst e2;have g2':=g2.1.back;exact pC h ⟨n1.trans g2',by have:=n1.le;have:=g2.2;show s.i<q.i;simp only at this;omega⟩ b2 (e:=⟨k,[],[x],[],(cur s).a⟩) ⟨hc.1,hc.2.2.1 (lP hi)⟩ f2
 unfold nN;simp only;split
 ·rename_i hi;rw[gH]at hi;exact one [33] 14 hi
 split
 ·rename_i hi;rw[gH]at hi;exact one [45] 13 hi
 ·exact(La hE (aM s) hw1).mono λx s2 ⟨g2,b2,f2⟩=>⟨⟨n1.trans g2.1,by have:=n1.le;have:=g2.2;omega⟩,b2.trans x1.2,λroots hr=>f2 roots (by rw[x1.1];exact hr)⟩
theorem Df{J:PS->R Nat}(hJ:EOk N J)(k:Nat):∀(f:Nat) (s:PS) (x:Nat),WS N s->Sat (nW J k f s x) (MJ N s x) (InN N)
 |0,s,_,h=>⟨kT _,h.pN⟩
 |f+1,s,x,h=>by
  have n1:=eW h
  have x1:=fA s
  have hc:=iQ h
  simp only[nW]
  split
  ·exact⟨n1,x1.2,λroots hr=>by rw[x1.1];exact hr⟩
  ·rename_i hl
   have hk0:(cur s).k≠0:=λe=>hl (by unfold lA;rw[e];rfl)
   have h2:=iP h hk0
   refine(hJ _ (h2.1.ws h)).bind λb s1 ⟨g1,b1,f1⟩=>?_
   have g01:=h2.1.trans g1.1
   refine(yM (g01.ws h) (e:=⟨lA (cur s) k,[],[x,b],[],(cur s).a⟩) ⟨hc.1,hc.2.2.1 hk0⟩).bind λy s2 ⟨g2,_,b2,f2⟩=>?_
   refine(Df hJ k f s2 y (g2.ws (g01.ws h))).mono λz s3 ⟨g3,b3,f3⟩=>⟨g01.trans (g2.trans g3),b3.trans (b2.trans (b1.trans x1.2)),λroots hr=>f3 roots (f2 roots ?_)⟩
   exact(f1 _ (by show bR (exL (aM s).ex) _;rw[x1.1];exact hr)).perm (List.Perm.swap _ _ _)
theorem sS(hE:EOk N E)(hS:EOk N S):∀m,EOk N (iD E S m)
 |0=>Bo hE hS
 |m+1=>λs h=>by
  simp only[iD]
  refine(sS hE hS m s h).bind λa s1 ⟨g1,b1,f1⟩=>?_
  exact(Df (sS hE hS m) (5-m) _ s1 a (g1.1.ws h)).mono λy s2 ⟨g2,b2,f2⟩=>⟨⟨g1.1.trans g2,by have:=g1.2;have:=g2.le;omega⟩,b2.trans b1,λroots hr=>f2 roots (f1 roots hr)⟩
theorem Gg(hE:EOk N E)(hS:EOk N S):EOk N (rX E S):=by
 intro s h;unfold rX;refine(sS hE hS 6 s h).bind λa s1 ⟨g1,b1,f1⟩=>?_;have hw1:=g1.1.ws h;have hc:=iQ hw1;have t1:=iO hw1 [63];have hw2:=t1.1.ws hw1;simp only;split
 ·rename_i ht;have hk0:(cur s1).k≠0:=by
   have:isS s1 [63]=true:=by
    unfold aW at ht;split at ht
    ·assumption
    ·cases ht
   exact lP this
  refine Sat.bind (kV hw2 (a:=(cur s1).a) (q:=(aW s1 [63]).2.quiet) ⟨hc.1,hc.2.1⟩ (P:=λ(z:Nat×Nat) s'=>Go1 N {(aW s1 [63]).2 with deep:=(aW s1 [63]).2.deep+1,quiet:=(aW s1 [63]).2.quiet} s'/\s'.bl=s.bl/\∀roots,bR (exL s.ex) roots->bR (exL s'.ex) ([a,z.1,z.2]++roots)) λhw=>?_) λz s2 ⟨q,⟨g2,b2,f2⟩,e2⟩=>?_
  ·refine(hE _ hw).bind λx q1 ⟨g3,b3,f3⟩=>?_;have hw3:=g3.1.ws hw;refine(jQ hw3 [58]).bind λ_ q2 ⟨g4,x4,b4⟩=>?_;have hw4:=g4.1.ws hw3;refine(hE _ hw4).bind λy q3 ⟨g5,b5,f5⟩=>?_;refine⟨g3.1.trans (g4.1.trans g5.1),b5.trans (b4.trans (b3.trans (t1.2.2.2.trans b1))),λroots hr=>?_⟩;have k1:=f3 _ (by show bR (exL (aW s1 [63]).2.ex) _;rw[t1.2.2.1];exact f1 roots hr);have k2:=f5 _ (by rw[x4];exact k1);refine k2.perm ?_;show(y::x::a::roots).Perm (a::x::y::roots);exact((List.Perm.swap x y _).trans ((List.Perm.swap a y _).cons x)).trans (List.Perm.swap a x _)
  ·subst e2;have g2':=g2.back;exact pC h ⟨g1.1.trans (t1.1.trans g2'),by have:=g1.2;have:=t1.1.le;have:=g2.le;show s.i<q.i;simp only at this;omega⟩ b2 (e:=⟨28,[],[a,z.1,z.2],[],(cur s1).a⟩) ⟨hc.1,hc.2.2.1 hk0⟩ f2
 ·exact⟨⟨g1.1.trans t1.1,by have:=g1.2;have:=t1.1.le;omega⟩,t1.2.2.2.trans b1,λroots hr=>by rw[t1.2.2.1];exact f1 roots hr⟩
end
theorem wS(N:Int):EOk N dead:=λ_ h=>⟨kT _,h.pN⟩
theorem rC(N:Int):∀d,EOk N (gV d).1/\EOk N (gV d).2
 |0=>⟨Gg (wS N) (wS N),Bo (wS N) (wS N)⟩
 |d+1=>⟨Gg (rC N d).1 (rC N d).2,Bo (rC N d).1 (rC N d).2⟩
def wt(t:Tok):Nat:=if t.k=0 then 0 else if t.k=3/\(insP t.t).isSome=true then t.t.length+2 else 1
def wts(l:List Tok):Nat:=(l.map wt).sum
def phi(s:PS):Nat:=s.ex.length+s.bl.length+wts (s.toks.drop s.i)
theorem xW(t:Tok)(l:List Tok):wts (t::l)=wt t+wts l:=by simp[wts]
theorem qQ:∀(l:List Tok) (i:Nat),wts (l.drop i)<=wts l
 |[],i=>by simp
 |t::l,0=>aL _
 |t::l,i+1=>by
  rw[bG,xW]
  have:=qQ l i
  omega
theorem Ff:∀(n:Nat) (s:Str) (a cnt:Nat) (l:List Tok),iJ n s a cnt=.ok l->wts l<=s.length
 |0,_,_,_,_,h=>by simp[iJ]at h
 |n+1,s,a,cnt,l,h=>by
  have hk:=tJ (s.length+1) s
  simp only[iJ]at h
  split at h
  ·cases h
  split at h
  ·injection h with h
   subst h
   rw[xW]
   simp[wt,wts]
  rename_i hr
  split at h
  ·cases h
  rename_i ho
  split at h
  ·cases h
  have hlen:s.length-(cZ (s.length+1) s).1=(s.drop (cZ (s.length+1) s).1).length:=(aJ ..).symm
  obtain⟨o1,o2,o3,o4,o5,o6⟩:=El hr (eO rfl (eO rfl (Classical.not_not.1 ho)):iH (s.drop (cZ (s.length+1) s).1)=((iH (s.drop (cZ (s.length+1) s).1)).1,(iH (s.drop (cZ (s.length+1) s).1)).2.1,0))
  split at h
  ·rename_i l' hl'
   injection h with h
   subst h
   have ih:=Ff n _ _ _ _ hl'
   rw[aJ]at ih
   rw[xW]
   have:wt ⟨(iH (s.drop (cZ (s.length+1) s).1)).1.k,(iH (s.drop (cZ (s.length+1) s).1)).1.t,((a+(cZ (s.length+1) s).1:Nat):Int)⟩<=(iH (s.drop (cZ (s.length+1) s).1)).2.1:=by
    unfold wt;split
    ·omega
    split
    ·rename_i hx;rcases o6 hx.1 with h|h
     ·rw[h]at hx;simp at hx
     ·exact h
    ·omega
   omega
  ·rename_i hne;exact absurd h (hne l)
theorem DU{s:Str}{l:List Tok}(h:iI s=.ok l):wts l<=s.length:=by
 unfold iI at h;split at h
 ·cases h
 split at h
 ·cases h
 exact Ff _ _ _ _ _ h
abbrev TT:Int->Prop:=λ_=>True
theorem jD(s:PS):phi (aM s)<=phi s:=by
 unfold aM;split
 ·unfold phi;simp only;have:=qQ (s.toks.drop s.i) (eS (s.toks.drop s.i));rw[dY]at this;omega
 ·exact aL _
theorem yP{s:PS}(h:(jX s).k≠0):phi (step1 s)+wt (jX s)<=phi s:=by
 have hlt:s.i<s.toks.length:=by
  by_cases hl:s.i<s.toks.length
  ·exact hl
  ·unfold jX at h;rw[aH,cA (by omega)]at h;exact absurd rfl h
 unfold phi step1;simp only;rw[fS hlt,xW];have:jX s=s.toks[s.i]:=by unfold jX;rw[aH,aG hlt];rfl
 rw[this];omega
theorem DI{t:Tok}(h:t.k≠0):1<=wt t:=by unfold wt;rw[aD h];split<;>omega
theorem nT{s:PS}(h:(cur s).k≠0):phi (step1 (aM s))+wt (jX (aM s))<=phi s/\phi (step1 (aM s))+1<=phi s:=by
 have h':(jX (aM s)).k≠0:=h;have h1:=yP h';have h2:=jD s;have h3:=DI h';omega
theorem kI(s:PS)(w:Str):phi (aW s w).2<=phi s/\((aW s w).1=true->phi (aW s w).2+1<=phi s):=by
 unfold aW;split
 ·rename_i hi;have:=(nT (lP hi)).2;exact⟨Nat.le_of_succ_le this,λ_=>this⟩
 ·exact⟨jD s,λe=>by cases e⟩
theorem kH(s:PS)(w:Str):Sat (jR s w) (λ_ s'=>phi s'+1<=phi s) TT:=by
 unfold jR;split
 ·rename_i hi;exact(nT (lP hi)).2
 ·trivial
theorem sO(s:PS):phi (fB s)<=phi s/\((cur s).k≠0->phi (fB s)+wt (jX (aM s))<=phi s/\phi (fB s)+1<=phi s):=by
 unfold fB;split
 ·rename_i hk;have:=nT hk;exact⟨by omega,λ_=>this⟩
 ·rename_i hk;exact⟨jD s,λe=>absurd e hk⟩
theorem mQ(s:PS)(k:Int):Sat (iC s k) (λ_ s'=>phi s'<=phi s/\(k≠0->phi s'+1<=phi s)) TT:=by
 unfold iC;split
 ·rename_i hk;have:=sO s;exact⟨this.1,λh=>(this.2 (by rw[hk];exact h)).2⟩
 ·trivial
theorem sP(s:PS):phi (dG s)<=phi s:=by
 have h:=jD s;unfold dG phi at*
 simp only at*
 have e:(aM s).toks=s.toks:=by unfold aM;split<;>rfl
 have:=qQ ((aM s).toks.drop (aM s).i) (eS (s.toks.drop (aM s).i));rw[dY]at this;omega
theorem jZ(s:PS)(e:Ex):Sat (lL s e) (λ_ s'=>phi s'<=phi s+1) TT:=by
 show phi _<=_;unfold phi;simp only[aB,aA,aC];omega
theorem kZ{α:Type}{s:PS}{a:Int}{q:Bool}{f:PS->R α}{P:α->Nat->Prop}(h:Sat (f {s with deep:=s.deep+1,quiet:=q}) (λx s'=>P x (phi s')) TT):Sat (within s a q f) (λx s'=>P x (phi s')) TT:=by
 unfold within;split
 ·trivial
 ·exact h.bind λx s' hx=>hx
def EZ(F:PS->R Nat):Prop:=∀s,Sat (F s) (λ_ s'=>phi s'<=phi s) TT
section
variable{E S:PS->R Nat}
theorem CV(hE:EZ E)(s:PS)(t:Str)(a:Int):Sat (jU E s t a) (λ_ s'=>phi s'<=phi s+t.length) TT:=by
 unfold jU;split
 ·trivial
 ·rename_i l hs;have hw:=DU hs;refine(hE _).bind λx q hq=>?_;refine(mQ q 0).bind λ_ q' hq'=>?_;have h1:phi q'<=s.ex.length+s.bl.length+wts l:=bZ hq'.1 hq;show phi _<=_;unfold phi at h1⊢;simp only;omega
theorem CR(s:PS)(t:Tok):Sat (kX s t) (λ_ s'=>s'=s) TT:=by
 unfold kX;split
 ·trivial
 ·rfl
theorem zZ(hE:EZ E):∀(n:Nat) (s:PS) (rest:Str) (a:Int) (us:List Nat) (ks:List Str),Sat (gT E n s rest a us ks) (λ_ s'=>phi s'<=phi s+rest.length) TT
 |0,_,_,_,_,_=>trivial
 |n+1,s,rest,a,us,ks=>by
  have one:∀(e:Ex),phi {s with ex:=s.ex++[e]}<=phi s+1:=λe=>jZ s e
  simp only[gT]
  split
  ·exact Nat.le_add_right _ _
  rename_i hne
  have hpos:1<=rest.length:=gW.2 hne
  split
  ·have:=one ⟨5,dT rest,[],[],a⟩
   show phi _<=_
   omega
  ·rename_i i e hi
   obtain⟨i1,i2,i3⟩:=zA rest.length rest (aL _) i e hi
   have hs1:∃s1,s1=(if 0<i then{s with ex:=s.ex++[⟨5,dT (rest.take i),[],[],a⟩]}else s)/\phi s1<=phi s+i:=by
    refine⟨_,rfl,?_⟩;split
    ·have:=one ⟨5,dT (rest.take i),[],[],a⟩;omega
    ·omega
   obtain⟨s1,e1,g1⟩:=hs1;rw[<-e1];have hd:(rest.drop e).length=rest.length-e:=aJ ..;split
   ·refine Sat.bind (kZ (P:=λ_ n=>n<=phi s1+(e-1-(i+2))) ?_) λx s2 h2=>?_
    ·refine(CV hE _ _ _).mono λx s' h=>?_;refine bZ h ?_;have:((rest.drop (i+2)).take (e-1-(i+2))).length<=e-1-(i+2):=List.length_take_le _ _;exact tA this _
    ·refine(zZ hE n s2 (rest.drop e) _ _ _).mono λy s3 h3=>?_;rw[hd]at h3;omega
   ·refine(zZ hE n s1 (rest.drop e) _ _ _).mono λy s3 h3=>?_;rw[hd]at h3;omega
theorem Le(hE:EZ E)(s:PS)(t:Tok)(hk:t.k=3):Sat (qT E s t) (λ_ s'=>phi s'<=phi s+wt t) TT:=by
 unfold qT;split
 ·rename_i hi;have e:wt t=t.t.length+2:=by unfold wt;rw[aD (by omega),aF ⟨hk,hi⟩]
  refine(zZ hE _ s t.t _ _ _).bind λx s1 h1=>?_;refine(jZ s1 _).mono λy s2 h2=>?_;omega
 ·rename_i hi;have e:wt t=1:=by unfold wt;rw[aD (by omega),aD (λh=>hi h.2)]
  rw[e];exact jZ s _
theorem CX(hE:EZ E)(w:Str):∀(n:Nat) (s:PS) (out:List Nat),Sat (lQ E w n s out) (λ_ s'=>phi s'<=phi s) TT
 |0,_,_=>trivial
 |n+1,s,out=>by
  have t1:=kI s w
  have step:∀{s1:PS},phi s1<=phi s->Sat ((E s1).bind λx s'=>lQ E w n s' (out++[x])) (λ_ s'=>phi s'<=phi s) TT:=λ{s1} g1=>
   (hE s1).bind λx s2 g2=>(CX hE w n s2 (out++[x])).mono λy s3 g3=>by omega
  simp only[lQ]
  split
  ·exact t1.1
  split
  ·rename_i ho
   have:=step t1.1
   exact this
  ·refine(kH _ [44]).bind λ_ s1 g1=>?_
   have t2:=kI s1 w
   split
   ·show phi _<=_
    omega
   ·exact step (by omega)
theorem FE(hE:EZ E)(w:Str)(s:PS):Sat (xF E w s) (λ_ s'=>phi s'<=phi s) TT:=CX hE w _ s []
theorem Lg(hE:EZ E){s:PS}(h:(cur s).k≠0)(hn:aM s=s)(a:Int):Sat (qY E s a) (λ_ s'=>phi s'+1<=phi s) TT:=by
 have h0:=(nT h).2;rw[hn]at h0;have h1:=jD (step1 s);unfold qY;simp only;split
 ·refine(FE hE [93] _).bind λus s1 g1=>?_;show phi s1+1<=_;omega
 ·rename_i hc;have hk1:(cur (step1 s)).k≠0:=λe=>hc (.inl (by rw[e];decide));have h2:=(nT hk1).2;refine(mQ _ 1).bind λt s2 g2=>(mQ s2 1).bind λu s3 g3=>?_;split
  ·trivial
  refine(hE s3).bind λx s4 g4=>(kH s4 _).bind λ_ s5 g5=>(hE s5).bind λy s6 g6=>(kH s6 _).bind λ_ s7 g7=>?_;show phi s7+1<=_;omega
theorem FB(hE:EZ E)(a:Int):∀(n:Nat) (s:PS) (us:List Nat) (ks:List Str),Sat (tQ E a n s us ks) (λ_ s'=>phi s'<=phi s) TT
 |0,_,_,_=>trivial
 |n+1,s,us,ks=>by
  have t1:=kI s [125]
  have n1:=sO (aW s [125]).2
  simp only[tQ]
  split
  ·exact t1.1
  refine Sat.bind (P:=λ_ s3=>s3=fB (aW s [125]).2) ?_ λk s3 e3=>?_
  ·split
   ·exact CR _ _
   ·split
    ·rfl
    ·trivial
  subst e3
  split
  ·trivial
  refine(kH _ [61]).bind λ_ s4 g4=>(hE s4).bind λx s5 g5=>?_
  have t5:=kI s5 [44]
  have m5:=jD (aW s5 [44]).2
  split
  ·trivial
  have l6:phi (if(aW s5 [44]).1=true then(aW s5 [44]).2 else aM (aW s5 [44]).2)<=phi s5:=by split<;>omega
  generalize (if(aW s5 [44]).1=true then(aW s5 [44]).2 else aM (aW s5 [44]).2)=s6 at*
  have l7:=sP s6
  refine(FB hE a n (dG s6) _ _).mono λe s8 g8=>?_
  omega
theorem FD(hE:EZ E):EZ (iL E):=by
 intro s;have n1:=jD s;have gH:∀w,isS (aM s) w=isS s w:=λw=>by unfold isS;rw[kD]
 unfold iL;simp only;split
 ·rename_i hk;have h2:=(nT (s:=s) (by rw[hk];decide)).2;exact(jZ _ _).mono λx s' g=>by omega
 split
 ·rename_i hk;have h2:=(nT (s:=s) (by rw[hk];decide)).1;refine(Le hE _ _ hk).mono λx s' g=>?_;have e:wt (cur s)=wt (jX (aM s)):=rfl;omega
 split
 ·rename_i hk;have h2:=(nT (s:=s) (by rw[hk.1];decide)).2;have n2:=jD (step1 (aM s));split
  ·rename_i hi;refine Sat.bind (kZ (P:=λ_ n=>n<=phi (aM (step1 (aM s)))) ?_) λus s2 g2=>?_
   ·refine(FE hE [41] _).mono λx s' g=>bZ g ?_;show phi (step1 _)<=_;exact tA (by have:=qQ ((aM (step1 (aM s))).toks.drop (aM (step1 (aM s))).i) 1;rw[dY]at this;exact this) _
   ·exact(jZ s2 _).mono λx s' g=>by omega
  ·exact(jZ _ _).mono λx s' g=>by omega
 have step1_le:∀(s:PS),phi (step1 s)<=phi s:=λs=>tA (by have:=qQ (s.toks.drop s.i) 1;rw[dY]at this;exact this) _;have ph:∀(s:PS) (d:Nat) (q:Bool),phi {s with deep:=d,quiet:=q}=phi s:=λ_ _ _=>rfl;split
 ·refine Sat.mono (kZ (P:=λ_ n=>n<=phi (aM s)) ?_) λx s' g=>by omega
  refine(hE _).bind λx q1 g1=>(kH q1 _).bind λ_ q2 g2=>?_;show phi q2<=_;have h1:=step1_le (aM s);have h2:phi q1<=phi (step1 (aM s)):=g1;omega
 split
 ·rename_i hi;rw[gH]at hi;have hk:(jX (aM s)).k≠0:=lP hi;have h4:(jX (aM s)).k=4:=by
   unfold isS cur at hi;simp only[aZ,jE]at hi;exact hi.1
  refine Sat.bind (kZ (P:=λ_ n=>n+1<=phi (aM s)) ?_) λe s2 g2=>?_
  ·have hr:aM {aM s with deep:=(aM s).deep+1,quiet:=true}={aM s with deep:=(aM s).deep+1,quiet:=true}:=by
    have hlt:(aM s).i<(aM s).toks.length:=by
     by_cases hl:(aM s).i<(aM s).toks.length
     ·exact hl
     ·unfold jX at hk;rw[aH,cA (by omega)]at hk;exact absurd rfl hk
    have:eS ((aM s).toks.drop (aM s).i)=0:=by
     refine Fp (t:=jX (aM s)) ?_ (by omega);unfold jX;rw[aH,aG hlt];rfl
    unfold aM;simp only[gY];show({aM s with i:=(aM s).i+eS ((aM s).toks.drop (aM s).i),deep:=(aM s).deep+1,quiet:=true}:PS)=_;rw[this];rfl
   refine(Lg hE ?_ hr _).mono λe s' g=>g;unfold cur;rw[hr];exact hk
  ·exact(jZ s2 _).mono λx s' g=>by omega
 split
 ·rename_i hi;rw[gH]at hi;have hk:(jX (aM s)).k≠0:=lP hi;have h1:=yP hk;have h2:=DI hk;refine Sat.bind (kZ (P:=λ_ n=>n+1<=phi (aM s)) ?_) λe s2 g2=>?_
  ·unfold BE;refine(FB hE _ _ _ [] []).mono λe s' g=>?_;have h3:=sP (step1 (⟨(aM s).toks,(aM s).i,(aM s).off,(aM s).deep+1,false,(aM s).ex,(aM s).bl⟩:PS));have h4:phi (step1 (⟨(aM s).toks,(aM s).i,(aM s).off,(aM s).deep+1,false,(aM s).ex,(aM s).bl⟩:PS))=phi (step1 (aM s)):=rfl;omega
  ·exact(jZ s2 _).mono λx s' g=>by omega
 ·trivial
theorem wG(hE:EZ E):∀(n:Nat) (s:PS) (x:Nat),Sat (iV E n s x) (λ_ s'=>phi s'<=phi s) TT
 |0,_,_=>trivial
 |n+1,s,x=>by
  have n1:=jD s
  have t1:=kI (aM s) [46]
  have gH:∀w,isS (aM s) w=isS s w:=λw=>by unfold isS;rw[kD]
  have step1_le:∀(s:PS),phi (step1 s)<=phi s:=λs=>tA (by have:=qQ (s.toks.drop s.i) 1;rw[dY]at this;exact this) _
  simp only[iV]
  split
  ·rename_i ht
   refine(mQ _ 1).bind λu s2 g2=>(jZ s2 _).bind λy s3 g3=>(wG hE n s3 y).mono λz s4 g4=>?_
   have:=t1.2 ht
   have:=g2.2 (by decide)
   omega
  split
  ·rename_i hi
   rw[gH]at hi
   have hk:(jX (aM s)).k≠0:=lP hi
   have h1:=yP hk
   have h2:=DI hk
   refine Sat.bind (kZ (P:=λ_ n=>n+1<=phi (aM s)) ?_) λo s2 g2=>?_
   ·have h4:phi (step1 (⟨(aM s).toks,(aM s).i,(aM s).off,(aM s).deep+1,true,(aM s).ex,(aM s).bl⟩:PS))=phi (step1 (aM s)):=rfl
    have t5:=kI (step1 (⟨(aM s).toks,(aM s).i,(aM s).off,(aM s).deep+1,true,(aM s).ex,(aM s).bl⟩:PS)) [42]
    split
    ·refine(kH _ _).bind λ_ q2 g=>?_
     show phi q2+1<=_
     omega
    ·refine(hE _).bind λy q1 g=>(kH q1 _).bind λ_ q2 g'=>?_
     show phi q2+1<=_
     omega
   ·cases o with
    |some y=>
     simp only
     exact(jZ s2 _).bind λz s3 g3=>(wG hE n s3 z).mono λz s4 g4=>by omega
    |none=>
     simp only
     exact(kH s2 _).bind λ_ s3 g3=>(mQ s3 1).bind λu s4 g4=>(jZ s4 _).bind λz s5 g5=>(wG hE n s5 z).mono λz s6 g6=>by have:=g4.1;omega
  ·exact n1
theorem Lf(hE:EZ E):EZ (xA E):=λs=>by
 unfold xA
 exact(FD hE s).bind λx s1 g1=>(wG hE _ s1 x).mono λy s2 g2=>by omega
theorem Bz(hE:EZ E)(hS:EZ S):EZ (nN E S):=by
 intro s;have n1:=jD s;have gH:∀w,isS (aM s) w=isS s w:=λw=>by unfold isS;rw[kD]
 have one:∀(w:Str) (k:Int),isS s w=true->Sat ((within (aM s) (cur s).a (aM s).quiet λq=>S (step1 q)).bind λx s2=>lL s2 ⟨k,[],[x],[],(cur s).a⟩) (λ_ s'=>phi s'<=phi s) TT:=λw k hi=>by
  have hk:(jX (aM s)).k≠0:=lP hi;have h1:=yP hk;have h2:=DI hk;refine Sat.bind (kZ (P:=λ_ n=>n+1<=phi (aM s)) ?_) λx s2 g2=>?_
  ·refine(hS _).mono λx s' g=>?_;have h4:phi (step1 (⟨(aM s).toks,(aM s).i,(aM s).off,(aM s).deep+1,(aM s).quiet,(aM s).ex,(aM s).bl⟩:PS))=phi (step1 (aM s)):=rfl;omega
  ·exact(jZ s2 _).mono λy s3 g3=>by omega
 unfold nN;simp only;split
 ·rename_i hi;rw[gH]at hi;exact one [33] 14 hi
 split
 ·rename_i hi;rw[gH]at hi;exact one [45] 13 hi
 ·exact(Lf hE (aM s)).mono λx s2 g2=>by omega
theorem CS{J:PS->R Nat}(hJ:EZ J)(k:Nat):∀(f:Nat) (s:PS) (x:Nat),Sat (nW J k f s x) (λ_ s'=>phi s'<=phi s) TT
 |0,_,_=>trivial
 |f+1,s,x=>by
  have n1:=jD s
  simp only[nW]
  split
  ·exact n1
  ·rename_i hl
   have hk0:(cur s).k≠0:=λe=>hl (by unfold lA;rw[e];rfl)
   have h2:=(nT hk0).2
   exact(hJ _).bind λb s1 g1=>(jZ s1 _).bind λy s2 g2=>(CS hJ k f s2 y).mono λz s3 g3=>by omega
theorem sQ(hE:EZ E)(hS:EZ S):∀m,EZ (iD E S m)
 |0=>Bz hE hS
 |m+1=>λs=>by
  simp only[iD]
  exact(sQ hE hS m s).bind λa s1 g1=>(CS (sQ hE hS m) _ _ s1 a).mono λy s2 g2=>by omega
theorem FC(hE:EZ E)(hS:EZ S):EZ (rX E S):=by
 intro s;unfold rX;refine(sQ hE hS 6 s).bind λa s1 g1=>?_;have t1:=kI s1 [63];simp only;split
 ·rename_i ht;refine Sat.bind (kZ (P:=λ_ n=>n<=phi (aW s1 [63]).2) ?_) λz s2 g2=>?_
  ·refine(hE _).bind λx q1 g3=>(kH q1 _).bind λ_ q2 g4=>(hE q2).bind λy q3 g5=>?_;have h4:phi (⟨(aW s1 [63]).2.toks,(aW s1 [63]).2.i,(aW s1 [63]).2.off,(aW s1 [63]).2.deep+1,(aW s1 [63]).2.quiet,(aW s1 [63]).2.ex,(aW s1 [63]).2.bl⟩:PS)=phi (aW s1 [63]).2:=rfl;show phi q3<=_;omega
  ·exact(jZ s2 _).mono λy s3 g3=>by have:=t1.2 ht;omega
 ·show phi _<=_;omega
end
theorem vJ:EZ dead:=λ_=>trivial
theorem tX:∀d,EZ (gV d).1/\EZ (gV d).2
 |0=>⟨FC vJ vJ,Bz vJ vJ⟩
 |d+1=>⟨FC (tX d).1 (tX d).2,Bz (tX d).1 (tX d).2⟩
section
variable{E B:PS->R Nat}
theorem BA:∀(n:Nat) (s:PS) (ls:List Str),Sat (kB n s ls) (λ_ s'=>phi s'<=phi s) TT
 |0,_,_=>trivial
 |n+1,s,ls=>by
  have n1:=sO s
  simp only[kB]
  split
  ·exact(CR _ _).bind λl s1 e1=>by subst e1;exact(BA n _ (ls++[l])).mono λ_ s2 g=>by omega
  ·exact jD s
theorem GF(l:List Tok){j:Nat}(h:i<=j):wts (l.drop j)<=wts (l.drop i):=by
 have:=qQ (l.drop i) (j-i);rw[dY,show i+(j-i)=j by omega]at this;exact this
theorem FS(s:PS):s.i<=(aM s).i:=by unfold aM;split;exact Nat.le_add_right _ _;exact aL _
theorem Lh(hE:EZ E)(hB:EZ B)(s:PS)(us:List Atr)(bs:List Nat):Sat (qF E B s us bs) (λ_ s'=>phi s'<=phi s) TT:=by
 unfold qF;refine Sat.bind (P:=λ_ s1=>s1=step1 (aM s)/\phi s1+1<=phi s) ?_ λt s1 ⟨e1,h1⟩=>?_
 ·unfold iC;split
  ·rename_i hk;have hk0:(cur s).k≠0:=by rw[hk];decide
   refine⟨by unfold fB;rw[aF hk0],((sO s).2 hk0).2⟩
  ·trivial
 have t1:=kI s1 [61];split
 ·exact(hE _).bind λx s2 h2=>by show phi s2<=_;omega
 ·rename_i ht;refine Sat.bind (hB _) λx s2 h2=>?_;show phi s2<=_;refine bZ h2 ?_;have e2:(aW s1 [61]).2=aM s1:=by
   unfold aW at ht⊢;split
   ·rename_i hi;rw[aF hi]at ht;exact absurd rfl ht
   ·rfl
  rw[e2];have hi:s.i<=(aM s1).i-1:=by
   have h1:=FS s;have h2:=FS s1;have h3:s1.i=(aM s).i+1:=by rw[e1];rfl
   omega
  have x1:(aM s1).ex=s.ex:=(fA s1).1.trans (by rw[e1];exact(fA s).1);have x2:(aM s1).bl=s.bl:=(fA s1).2.trans (by rw[e1];exact(fA s).2);have x3:(aM s1).toks=s.toks:=by
   have h1:∀s:PS,(aM s).toks=s.toks:=λs=>by unfold aM;split<;>rfl
   rw[h1,e1];exact h1 s
  unfold phi;simp only;rw[x1,x2,x3];have:=GF s.toks hi;omega
theorem CU(hE:EZ E)(hB:EZ B):∀(n:Nat) (s:PS) (us:List Atr) (bs:List Nat),Sat (jT E B n s us bs) (λ_ s'=>phi s'<=phi s) TT
 |0,_,_,_=>trivial
 |n+1,s,us,bs=>by
  have t1:=kI s [125]
  simp only[jT]
  split
  ·exact t1.1
  refine(Lh hE hB _ us bs).bind λx s1 g1=>?_
  have m1:=jD s1
  split
  ·trivial
  have l1:=sP (aM s1)
  exact(CU hE hB n _ x.1 x.2).mono λy s2 g2=>by omega
theorem CW(hE:EZ E)(hB:EZ B):EZ (nY E B):=by
 intro s;unfold nY;refine(mQ s 1).bind λt s1 g1=>(BA _ s1 []).bind λls s2 g2=>?_;have n2:=jD s2;split
 ·trivial
 refine Sat.bind (kZ (P:=λ_ n=>n<=phi (aM s2)) ?_) λx s3 g3=>?_
 ·refine(CU hE hB _ _ [] []).mono λx s' g=>?_;have h3:=sP (step1 (⟨(aM s2).toks,(aM s2).i,(aM s2).off,(aM s2).deep+1,false,(aM s2).ex,(aM s2).bl⟩:PS));have h4:phi (step1 (⟨(aM s2).toks,(aM s2).i,(aM s2).off,(aM s2).deep+1,false,(aM s2).ex,(aM s2).bl⟩:PS))<=phi (aM s2):=tA (GF _ (Nat.le_succ _)) _;omega
 ·show phi _<=_;have h1:=g1.2 (by decide);have e:phi {s3 with bl:=s3.bl++[⟨t.t,ls,x.1,x.2,t.a⟩]}=phi s3+1:=by
   unfold phi;simp only[aB,aA,aC];omega
  have e':phi (⟨s3.toks,s3.i,s3.off,s3.deep,s3.quiet,s3.ex,s3.bl++[⟨t.t,ls,x.1,x.2,t.a⟩]⟩:PS)=phi s3+1:=e;omega
end
theorem Gw:∀d,EZ (pY d)
 |0=>CW vJ vJ
 |d+1=>CW (tX d).1 (Gw d)
theorem SF(s:PS):s.ex.length<=phi s/\s.bl.length<=phi s:=by unfold phi;omega
end
end Go.Syn
namespace Go.Eng
section
open Go
variable{w:World}{K:Value->World->Prop}{cs:List Value}{G:Nat->Prop}{T:TypeId}{i:Nat}{n:Nat}{v:Value}{w':World}{P:Program}{c:UInt8}{S:Nat->Prop}
section
variable{P:Program}
def AN(P:Program)(g:FuncId)(caps:List Value)(u:FrameMode)(w:World)(K:World->Prop):Prop:=
 CallsD P g caps.toArray u w λe u' w'=>(∃v,e=.returned v)/\settle u'=.returning/\K w'
def Gk:List Oper->Option (Nat×FuncId×List Operand)
 |[o1,o2]=>
  match o1.guard,o2.guard,o1.dst,o1.op,o2.dst,o2.op with
  |none,none,some t,.makeFunc (.func g) first caps,none,.defer c=>
   match first.toList,c.callee,c.args.toList with
   |[],.value (.tmp t'),[]=>bif Nat.beq t t' then some (t,g,caps.toList)else none
   |_,_,_=>none
  |_,_,_,_,_,_=>none
 |_=>none
def Jr(P:Program)(fn:Func)(R:Ending->World->Prop)(f:Fr)(w:World):Prop:=AH P fn.results.toList f w λl=>R (.returned (one l)) w
def Gq(P:Program)(pl:dP)(fn:Func)(R:Ending->World->Prop):Nat->Code->Nat->Fr->World->Prop
 |0,.seq (.region _ ops _) b,i,f,w=>
  match Gk ops.toList with
  |some (t,g,caps)=>
   @nG ⟨λch w'=>AN P g (caps.map (ev f)) (.panicking ch) w' λw''=>Jr P fn R f w''⟩ P pl b (i+2) (upd f (some t) (.func (.func g) #[] (caps.map (ev f)).toArray)) w
    (λf' w'=>AN P g (caps.map (ev f)) .returning w' λw''=>Jr P fn R f' w'') (λ_ _ _=>False) (λf' w'=>AN P g (caps.map (ev f)) .returning w' λw''=>Jr P fn R f' w'')
  |none=>False
 |k+1,.seq a b,i,f,w=>@nG ⟨λch w'=>R (.panicked ch) w'⟩ P pl a (i+1) f w (λf' w'=>Gq P pl fn R k b (i+1+rS a) f' w') (λ_ _ _=>False) (λf' w'=>Jr P fn R f' w')
 |_,_,_,_,_=>False
def Ux(lo t:Nat):ResultVar->Bool
 |.tmp x=>Nat.blt x lo&&!(Nat.beq x t)
 |.cell x _=>Nat.blt x lo&&!(Nat.beq x t)
def Gs(P:Program)(fn:Func)(pl:dP)(lo gd:Nat):Nat->Code->Nat->Bool
 |0,.seq (.region _ ops draw) b,i=> !draw&&(lk pl.js i).isNone&&
  (match Gk ops.toList with
  |some (t,g,_)=>Nat.blt t fn.ntmps&&Nat.beq g gd&&fn.results.toList.all (Ux lo t)&&chk P fn.ntmps pl [] lo b (i+2)
  |none=>false)
 |k+1,.seq a b,i=>(lk pl.js i).isNone&&chk P fn.ntmps pl [] 0 a (i+1)&&Gs P fn pl lo gd k b (i+1+rS a)
 |_,_,_=>false
theorem LC{agg:Bool}{x:Value}{K K':Value->Prop}(hk:∀v,K v->K' v)(h:ldW agg n x w K):ldW agg n x w K':=by
 cases x with
 |pointer a=>
  cases a with
  |none=>exact h
  |some a=>
   cases agg with
   |true=>obtain⟨l,h1,h2⟩:=h;exact⟨l,h1,hk _ h2⟩
   |false=>obtain⟨l,h1,h2⟩:=h;exact⟨l,h1,hk _ h2⟩
 |_=>exact h
theorem zX{f f':Fr}{w:World}:∀{l:List ResultVar} {K:List Value->Prop},(∀t,(∃r∈l,r=.tmp t\/∃T,r=.cell t T)->f t=f' t)->AH P l f w K->AH P l f' w K
 |[],_,_,h=>h
 |r::l,K,h,hk=>by
  have hl:∀t,(∃r∈l,r=.tmp t\/∃T,r=.cell t T)->f t=f' t:=λt ⟨r',hr,e⟩=>h t ⟨r',aK _ hr,e⟩
  cases r with
  |tmp t=>simp only[AH]at hk⊢;rw[<-h t ⟨_,aX,.inl rfl⟩];exact zX hl hk
  |cell t T=>
   simp only[AH]at hk⊢
   rw[<-h t ⟨_,aX,.inr ⟨T,rfl⟩⟩]
   obtain⟨h1,h2⟩:=kQ.out hk
   rw[h1]
   exact LC (λv hv=>zX hl hv) h2
theorem vI{fn:Func}{R:Ending->World->Prop}{g:FuncId}{caps:List Value}{u:FrameMode}{f:Fr}{a:Act}(hr:∀(ar:Array Value) (w:World),(callFunc g ar).run P w=.ok (.enter g ar) w)(hu:u≠.run)
  (ha:∀t,(∃r∈fn.results.toList,r=.tmp t\/∃T,r=.cell t T)->f t=a.tmps.getD t undef)(h:AN P g caps u w λw''=>Jr P fn R f w''):
  Leaves P fn a.tmps R [{target:=.fn (.func g) caps.toArray,args:=#[]}] u w:=by
 refine leaves_cons (f:=g) (args:=caps.toArray) hu ?_ (h.mono ?_)
 ·have:=hr (#[]++caps.toArray) w;rw[show(#[]++caps.toArray:Array Value)=caps.toArray from by simp]at this;show(callFunc g (#[]++caps.toArray)).run P w=_;rw[show(#[]++caps.toArray:Array Value)=caps.toArray from by simp];exact this
 ·rintro e u' w' ⟨⟨v,rfl⟩,hs,hk⟩;show Leaves P fn a.tmps R [] (settle u') w';rw[hs];have hag:Ag a.tmps.size a.defers (λt=>a.tmps.getD t undef) a:=⟨rfl,rfl,λ_=>rfl⟩;letI:=noX;obtain⟨v',hk',hr'⟩:=rM (fn:=fn) (K:=λv=>R (.returned v) w') hag (zX ha hk);exact⟨v',hr',hk'⟩
theorem HF{l:List Oper}{t:Nat}{g:FuncId}{caps:List Operand}(h:Gk l=some (t,g,caps)):∃o1 o2 first cp c,l=[o1,o2]/\o1.guard=none/\o2.guard=none/\o1.dst=some t/\o1.op=.makeFunc (.func g) first cp/\first=#[]/\cp.toList=caps/\o2.dst=none/\o2.op=.defer c/\c.callee=.value (.tmp t)/\c.args=#[]:=by
 unfold Gk at h;split at h
 ·rename_i o1 o2;split at h
  ·rename_i t' g' first cp c e1 e2 e3 e4 e5 e6
   split at h
   ·rename_i t'' h1 h2 h3;cases hb:Nat.beq t' t'' with
    |false=>rw[hb]at h;cases h
    |true=>
     rw[hb]at h;simp only[cY,bD,eY]at h;obtain⟨rfl,rfl,rfl⟩:=h;have:t'=t'':=gC hb;subst this;exact⟨o1,o2,first,cp,c,rfl,e1,e2,e3,e4,by simpa using h1,rfl,e5,e6,h2,by simpa using h3⟩
   ·cases h
  ·cases h
 ·cases h
theorem Gp(hm:P.follows .mixedOrders=true){pl:dP}{fn:Func}{R:Ending->World->Prop}{lo gd:Nat}(hr:∀(ar:Array Value) (w:World),(callFunc gd ar).run P w=.ok (.enter gd ar) w):
  ∀(k:Nat) (c:Code) (i:Nat) (f:Fr) (a:Act) (w:World),Gs P fn pl lo gd k c i=true->Ag fn.ntmps [] f a->Gq P pl fn R k c i f w->c.wp P (bodyPostD P fn R) a w:=by
 intro k;induction k with
 |zero=>
  intro c i f a w hc hag h;cases c with
  |seq x b=>
   cases x with
   |region id ops draw=>
    simp only[Gq]at h;simp only[Gs,aZ,gZ]at hc;obtain⟨⟨hdr,hl⟩,hc⟩:=hc;cases hd:Gk ops.toList with
    |none=>simp only[hd]at h
    |some x=>
     obtain⟨t,g,caps⟩:=x;simp only[hd,aZ]at h hc;obtain⟨⟨⟨ht,hg⟩,hres⟩,hchk⟩:=hc;obtain rfl:g=gd:=gC hg;obtain⟨o1,o2,first,cp,cl,hops,g1,g2,d1,p1,rfl,rfl,d2,p2,hcl,hca⟩:=HF hd;subst hdr;refine wp_seq (wp_region_list ?_);have hops':ops=[o1,o2].toArray:=by rw[<-hops]
     subst hops';have htn:t<fn.ntmps:=by simpa using ht
     have hv:(cp.toList.map (ev f)).toArray=cp.map a.eval:=by
      rw[vH hag];apply Array.ext';simp
     show wpList P [o1,o2].toArray _ [o1,o2] a w;letI:=noX;refine Ek (K:=λv w'=>v=.func (.func g) #[] (cp.toList.map (ev f)).toArray/\w'=w) hag (by simp[jW,g1]) ?_ ?_ (λ_ _ h=>h.elim)
     ·unfold EK;rw[p1];exact⟨rfl,rfl⟩
     ·rintro v w' ⟨rfl,rfl⟩;have hag1:=hag.put (d:=some t) (λx hx=>by cases hx;exact htn) (.func (.func g) #[] (cp.toList.map (ev f)).toArray);rw[d1];unfold wpList;rw[aF (by rw[xX hag1];simp[jW,g2])];refine .inl ?_;unfold Oper.wp;have hex:(execOp (a.put (some t) (.func (.func g) #[] (cp.toList.map (ev f)).toArray)).eval o2).run P w'=.ok (.defer {target:=.fn (.func g) (cp.toList.map (ev f)).toArray,args:=#[]}) w':=by
       rw[vH hag1];unfold execOp;rw[p2];have e:ev (upd f (some t) (.func (.func g) #[] (cp.toList.map (ev f)).toArray)) (.tmp t)=.func (.func g) #[] (cp.toList.map (ev f)).toArray:=by
        simp[ev,mL]
       simp[resolve,hcl,hca,Deferred.ofValue,run_bind,run_pure,e]
      rw[hex,Oper.upon_defer,d2];clear hex;have hag2:Ag fn.ntmps [{target:=.fn (.func g) (cp.toList.map (ev f)).toArray,args:=#[]}] (upd f (some t) (.func (.func g) #[] (cp.toList.map (ev f)).toArray)) ({(a.put (some t) (.func (.func g) #[] (cp.toList.map (ev f)).toArray))with defers:={target:=.fn (.func g) (cp.toList.map (ev f)).toArray,args:=#[]}::(a.put (some t) (.func (.func g) #[] (cp.toList.map (ev f)).toArray)).defers}.put none undef):=by
       refine⟨?_,hag1.2.1,hag1.2.2⟩;show _::(a.put _ _).defers=_;rw[hag1.1]
      generalize ({(a.put (some t) (.func (.func g) #[] (cp.toList.map (ev f)).toArray))with defers:={target:=.fn (.func g) (cp.toList.map (ev f)).toArray,args:=#[]}::(a.put (some t) (.func (.func g) #[] (cp.toList.map (ev f)).toArray)).defers}.put none undef)=a2 at hag2⊢;show b.wp P (bodyPostD P fn R) a2 w';refine@rZ ⟨λch w'=>AN P g (cp.toList.map (ev f)) (.panicking ch) w' λw''=>Jr P fn R f w''⟩ P fn.ntmps [{target:=.fn (.func g) (cp.toList.map (ev f)).toArray,args:=#[]}] pl hm b [] lo (i+2) _ a2 w' _ _ _ _ hchk hag2 h (λf' a' w' hag' _ hk=>?_) (λ_ _ _ _ _ _ hk=>hk.elim) (λf' a' w' hag' _ hk=>?_) (λch a' w' hd ht hx=>?_)
      ·show Leaves P fn a'.tmps R a'.defers .returning w';rw[hag'.1];exact vI hr (by simp) (λt _=>(hag'.2.2 t).symm) hk
      ·show Leaves P fn a'.tmps R a'.defers .returning w';rw[hag'.1];exact vI hr (by simp) (λt _=>(hag'.2.2 t).symm) hk
      ·show Leaves P fn a'.tmps R a'.defers (.panicking ch) w';rw[hd];refine vI (f:=f) hr (by simp) (λx hx'=>?_) hx;have hin:x<lo/\x≠t:=by
        obtain⟨r,hrm,hr'⟩:=hx';have:=eR.1 hres r hrm;have h2:(Nat.blt x lo&&!(Nat.beq x t))=true:=by
         rcases hr' with rfl|⟨T,rfl⟩
         ·exact this
         ·exact this
        simp only[aZ,gZ]at h2;refine⟨by simpa using h2.1,λe=>?_⟩;rw[e]at h2;have h3:=h2.2;rw[Nat.beq_refl]at h3;cases h3
       have hlt:Nat.ble lo x=false:=by
        cases hb:Nat.ble lo x with
        |false=>rfl
        |true=>exact absurd (bX hin.1 (hY hb)) (Nat.lt_irrefl _)
       rw[ht x (by unfold inS;rw[hlt];rfl)];simp[mL,hin.2]
   |_=>simp[Gs]at hc
  |_=>simp[Gs]at hc
 |succ k ih=>
  intro c i f a w hc hag h;cases c with
  |seq x y=>
   simp only[Gq]at h;simp only[Gs,aZ]at hc;obtain⟨⟨hl,hc1⟩,hc2⟩:=hc;refine wp_seq ?_;letI:HX:=⟨λch w'=>R (.panicked ch) w'⟩;refine rZ hm x [] 0 (i+1) f a w _ _ _ _ hc1 hag h (λf' a' w' hag' _ h'=>ih y _ f' a' w' hc2 hag' h') (λ_ _ _ _ _ _ hk=>hk.elim) (λf' a' w' hag' _ hk=>?_) (λch a' w' hd _ hx=>?_)
   ·show Leaves P fn a'.tmps R a'.defers .returning w';rw[hag'.1];obtain⟨v',hk',hr'⟩:=rM (fn:=fn) (K:=λv=>R (.returned v) w') hag' hk;exact⟨v',hr',hk'⟩
   ·show Leaves P fn a'.tmps R a'.defers (.panicking ch) w';rw[hd];exact hx
  |_=>simp[Gs]at hc
def OU(P:Program)(fn:Func)(pl:dP)(k:Nat)(args:List Value)(w:World)(R:Ending->World->Prop):Prop:=
 match fn.body with
 |some c=>Gq P pl fn R k c 0 (fr0 args) w
 |none=>False
def Bg(P:Program)(fn:Func)(pl:dP)(lo gd k na:Nat):Bool:=
 match fn.body with
 |some c=>Nat.ble na fn.ntmps&&Gs P fn pl lo gd k c 0
 |none=>false
theorem Gh{nt:Nat}{args:List Value}(hle:args.length<=nt):Ag nt [] (fr0 args) {tmps:=args.toArray++Array.replicate (nt-args.toArray.size) undef,defers:=[]}:=by
 refine⟨rfl,by simp;omega,λt=>?_⟩;simp only[gG,Array.getElem?_append,List.size_toArray,eJ,Array.getElem?_replicate,fr0,aH];split
 ·rfl
 ·rename_i hlt;rw[cA (by omega)];split<;>rfl
theorem HA{g:FuncId}{fn:Func}{pl:dP}{args:List Value}{R:Ending->World->Prop}{lo gd k:Nat}(hm:P.follows .mixedOrders=true)(hf:P.funcs[g]?=some fn)(hr:∀(ar:Array Value) (w:World),(callFunc gd ar).run P w=.ok (.enter gd ar) w)
  (hc:Bg P fn pl lo gd k args.length=true)(h:OU P fn pl k args w R):Calls P g args.toArray w R:=by
 unfold OU at h;unfold Bg at hc;cases hb:fn.body with
 |none=>rw[hb]at h;exact h.elim
 |some c=>
  rw[hb]at h hc;simp only[aZ]at hc;exact calls_of_wp_defers hf hb (Gp hm hr k c 0 _ _ w hc.2 (Gh (hY hc.1)) h)
theorem VU[HX](P:Program)(g:FuncId)(fn:Func)(pl:dP)(args:List Value)(w:World)(K:Value->World->Prop)(lo gd k na:Nat)(X:Prop)(hk:args.length=na)(hm:P.follows .mixedOrders=true)(hf:P.funcs[g]?=some fn)
  (hc:Bg P fn pl lo gd k na=true)(he:OU P fn pl k args w (EO K)=X)(hr:∀(az:Array Value) (w:World),(callFunc g az).run P w=.ok (.enter g az) w)(hrd:∀(ar:Array Value) (w:World),(callFunc gd ar).run P w=.ok (.enter gd ar) w)(h:X):aI P g args w K:=by
 unfold aI;rw[hr];exact HA hm hf hrd (by rw[hk];exact hc) (by rw[he];exact h)
end
section
variable{P:Program}
def Fu:List Oper->Option (Nat×Nat)
 |[o1,o2]=>
  match o1.guard,o2.guard,o1.dst,o1.op,o2.dst,o2.op with
  |none,none,some t,.call c,some t2,.assign (.tmp t')=>
   match c.callee,c.args.toList with
   |.builtin .recover,[]=>bif Nat.beq t t' then some (t,t2)else none
   |_,_=>none
  |_,_,_,_,_,_=>none
 |_=>none
theorem GY{l:List Oper}{t t2:Nat}(h:Fu l=some (t,t2)):∃o1 o2 c,l=[o1,o2]/\o1.guard=none/\o2.guard=none/\o1.dst=some t/\o1.op=.call c/\o2.dst=some t2/\o2.op=.assign (.tmp t)/\c.callee=.builtin .recover/\c.args=#[]:=by
 unfold Fu at h;split at h
 ·rename_i o1 o2;split at h
  ·rename_i t0 c t2' t' e1 e2 e3 e4 e5 e6;split at h
   ·rename_i h1 h2;cases hb:Nat.beq t0 t' with
    |false=>rw[hb]at h;cases h
    |true=>
     rw[hb]at h;simp only[cY,bD,eY]at h;obtain⟨rfl,rfl⟩:=h;have:t0=t':=gC hb;subst this;exact⟨o1,o2,c,rfl,e1,e2,e3,e4,e5,e6,h1,by simpa using h2⟩
   ·cases h
  ·cases h
 ·cases h
def Te(P:Program)(fn:Func)(pl:dP)(args:List Value)(x:Value)(w:World)(K:World->Prop):Prop:=
 match fn.body with
 |some (.seq (.region _ ops _) b)=>
  match Fu ops.toList with
  |some (t,t2)=>@nG noX P pl b 2 (upd (upd (fr0 args) (some t) x) (some t2) x) w (λ_ w'=>K w') (λ_ _ _=>False) (λ_ w'=>K w')
  |none=>False
 |_=>False
def ED(P:Program)(fn:Func)(pl:dP)(na:Nat):Bool:=
 match fn.body with
 |some (.seq (.region _ ops draw) b)=> !draw&&Nat.ble na fn.ntmps&&fn.results.toList.isEmpty&&
  (match Fu ops.toList with
  |some (t,t2)=>Nat.blt t fn.ntmps&&Nat.blt t2 fn.ntmps&&chk P fn.ntmps pl [] 0 b 2
  |none=>false)
 |_=>false
inductive Finds:FrameMode->Value->Prop
 |idle:Finds .returning .nilIface
 |thrown (v:Value):Finds (.panicking [{v,recovered:=false}]) v
theorem Hz{g:FuncId}{fn:Func}{pl:dP}{args:List Value}{x:Value}{u:FrameMode}{K:World->Prop}(hm:P.follows .mixedOrders=true)(hf:P.funcs[g]?=some fn)(hc:ED P fn pl args.length=true)
  (hu:Finds u x)(h:Te P fn pl args x w K):AN P g args u w K:=by
 unfold Te at h;unfold ED at hc;split at h
 ·rename_i id ops draw b hb;rw[hb]at hc;simp only[aZ,gZ]at hc;obtain⟨⟨⟨hd,hle⟩,hres⟩,hc⟩:=hc;subst hd;cases ho:Fu ops.toList with
  |none=>simp only[ho]at h
  |some y=>
   obtain⟨t,t2⟩:=y;simp only[ho,aZ]at h hc;obtain⟨⟨ht,ht2⟩,hchk⟩:=hc;obtain⟨o1,o2,c,hops,g1,g2,d1,p1,d2,p2,hcl,hca⟩:=GY ho;have hops':ops=#[o1,o2]:=by
    apply Array.ext';rw[hops]
   subst hops';letI:=noX;have hr0:∀tmps w,(results fn tmps).run P w=.ok (.tuple #[]) w:=by
    intro tmps w;have h1:fn.results.toList=[]:=by simpa using hres
    obtain⟨v,hv,hr⟩:=rM (P:=P) (fn:=fn) (n:=tmps.size) (D:=[]) (f:=λt=>tmps.getD t undef) (a:={tmps:=tmps,defers:=[]}) (w:=w) (K:=λv=>v=.tuple #[]) ⟨rfl,rfl,λ_=>rfl⟩ (by rw[h1];rfl);rw[hr,hv]
   have hag:=Gh (nt:=fn.ntmps) (args:=args) (hY hle);have ht:t<fn.ntmps:=by simpa using ht
   have ht2:t2<fn.ntmps:=by simpa using ht2
   refine callsD_of_wpS hf hb λc₀ cs hmode=>?_;generalize ({tmps:=args.toArray++Array.replicate (fn.ntmps-args.toArray.size) undef,defers:=[]}:Act)=a0 at hag⊢;have hag1:=hag.put (d:=some t) (λy hy=>by cases hy;exact ht) x;have hag2:=hag1.put (d:=some t2) (λy hy=>by cases hy;exact ht2) x;have w1:Region.wanted o1 (yielded #[o1,o2] a0.tmps)=true:=by
    have:=xX (ops:=[o1,o2]) (o:=o1) hag;rw[show([o1,o2]:List Oper).toArray=#[o1,o2]from rfl]at this;rw[this];simp[jW,g1]
   have w2:Region.wanted o2 (yielded #[o1,o2] (a0.put (some t) x).tmps)=true:=by
    have:=xX (ops:=[o1,o2]) (o:=o2) hag1;rw[show([o1,o2]:List Oper).toArray=#[o1,o2]from rfl]at this;rw[this];simp[jW,g2]
   have e1:(execOp a0.eval o1).run P w=.ok .recover w:=by
    unfold execOp;rw[p1];simp[resolve,hcl,hca,invoke,builtin,run_bind,run_pure]
   have e2:(execOp (a0.put (some t) x).eval o2).run P w=.ok (.value x) w:=by
    rw[vH hag1];unfold execOp;rw[p2];have e:ev (upd (fr0 args) (some t) x) (.tmp t)=x:=by simp[ev,mL]
    simp[run_pure,e]
   have rest:∀u':FrameMode,settle u'=.returning->b.wpS P (bodyPostS P fn c₀ cs λe u' w'=>(∃v,e=.returned v)/\settle u'=.returning/\K w') ((a0.put (some t) x).put (some t2) x) ({c₀ with mode:=u'}::cs) w:=by
    intro u' hs;refine wpS_of_wp ?_;refine@rZ noX P fn.ntmps [] pl hm b [] 0 2 _ _ w _ _ _ _ hchk hag2 h (λf' a' w' hag' _ hk=>?_) (λ_ _ _ _ _ _ hk=>hk.elim) (λf' a' w' hag' _ hk=>?_) (λch a' w' hd ht hx=>hx.elim)
    ·exact⟨hag'.1,u',rfl,_,hr0 _ _,⟨_,rfl⟩,hs,hk⟩
    ·exact⟨hag'.1,u',rfl,_,hr0 _ _,⟨_,rfl⟩,hs,hk⟩
   refine wpS_seq (wpS_region ?_);show wpOpsS P #[o1,o2] _ [0,1] a0 (c₀::cs) w;have tail:∀c1:Frame,b.wpS P (bodyPostS P fn c₀ cs λe u' w'=>(∃v,e=.returned v)/\settle u'=.returning/\K w') ((a0.put (some t) x).put (some t2) x) (c1::cs) w->
     wpOpsS P #[o1,o2] (Exit.thenS (b.wpS P (bodyPostS P fn c₀ cs λe u' w'=>(∃v,e=.returned v)/\settle u'=.returning/\K w')) (bodyPostS P fn c₀ cs λe u' w'=>(∃v,e=.returned v)/\settle u'=.returning/\K w')) [1] (a0.put (some t) x) (c1::cs) w:=by
    intro c1 hb1;unfold wpOpsS;rw[show(#[o1,o2]:Array Oper)[1]?=some o2 from rfl];show ite (Region.wanted o2 (yielded #[o1,o2] (a0.put (some t) x).tmps)=true) _ _;rw[aF w2,e2];simp only[Oper.upon_value,d2];exact hb1
   unfold wpOpsS;rw[show(#[o1,o2]:Array Oper)[0]?=some o1 from rfl];show ite (Region.wanted o1 (yielded #[o1,o2] a0.tmps)=true) _ _;rw[aF w1,e1];cases hu with
   |idle=>
    have:recoverD (c₀::cs)=none:=by simp[recoverD,hmode]
    simp only[this,d1];have e:({c₀ with mode:=.returning}:Frame)=c₀:=by rw[<-hmode]
    have:=rest .returning rfl;rw[e]at this;exact tail c₀ this
   |thrown=>
    have:recoverD (c₀::cs)=some (x,{c₀ with mode:=.panicking [{v:=x,recovered:=true}]}::cs):=by simp[recoverD,hmode]
    simp only[this,d1];exact tail _ (rest (.panicking [{v:=x,recovered:=true}]) rfl)
 ·exact h.elim
end
end
end Go.Eng
