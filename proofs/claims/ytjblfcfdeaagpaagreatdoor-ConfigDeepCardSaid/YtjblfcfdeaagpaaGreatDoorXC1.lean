/- One plain sentence: contracts and plain laws that the claim rests on. Conditions: those that each states. -/
import Derived.Orders
import Derived.Laws.World
import Derived.KernelRfl
import Derived.Laws.Strings
import Derived.Tactics
import Derived.Scope
import Derived.Below
import Derived.Laws.AppendOwn
import Derived.Laws.BytesArg
import Derived.Test.YtjblfcfdeaagpaaGreatDoorProg
import Derived.Lib.DecodeN
import Derived.Lib.RuneBytes
import Derived.Lib.Index
set_option linter.all false
set_option linter.unusedSimpArgs false
set_option linter.unusedVariables false
set_option linter.unusedSectionVars false
set_option maxRecDepth 100000
abbrev _root_.aV := @Option.some.injEq
abbrev _root_.fC := @List.map_cons
abbrev _root_.aJ := @if_neg
abbrev _root_.aB := @List.length_cons
abbrev _root_.aA := @List.setIfInBounds_toArray
abbrev _root_.cO := @List.length_take
abbrev _root_.lG := @List.length_set
abbrev _root_.cN := @Nat.add_zero
abbrev _root_.cJ := @ne_eq
abbrev _root_.bZ := @not_true_eq_false
abbrev _root_.rN := @if_false
abbrev _root_.aM := @cond_false
abbrev _root_.aQ := @cond_true
abbrev _root_.yH := @Array.all_eq_true_iff_forall_mem
abbrev _root_.aG := @Option.map_some
abbrev _root_.Dm := @Nat.add_comm
abbrev _root_.qD := @Nat.mod_eq_of_lt
abbrev _root_.kE := @Nat.eq_of_beq_eq_true
abbrev _root_.lA := @Nat.le_of_ble_eq_true
abbrev _root_.aO := @if_pos
abbrev _root_.aX := @List.mem_cons
abbrev _root_.nL := @Nat.lt_or_ge
abbrev _root_.kG := @Array.getD_eq_getD_getElem?
abbrev _root_.jS := @Ne.symm
abbrev _root_.bL := @Bool.and_eq_true
abbrev _root_.gI := @List.all_eq_true
abbrev _root_.lP := @List.mem_range
abbrev _root_.mA := @List.any_eq_true
abbrev _root_.fS := @Bool.or_eq_true
abbrev _root_.gR := @beq_iff_eq
abbrev _root_.fD := @decide_eq_true_eq
abbrev _root_.lR := @Bool.not_eq_true'
abbrev _root_.bS := @List.mem_append_left
abbrev _root_.bO := @List.mem_filterMap
abbrev _root_.bF := @List.mem_append_right
abbrev _root_.aE := @List.mem_cons_of_mem
abbrev _root_.gK := @Prod.mk.injEq
abbrev _root_.aW := @List.mem_cons_self
abbrev _root_.aY := @Nat.le_refl
abbrev _root_.bI := @List.mem_of_getElem?
abbrev _root_.mZ := @List.mem_filter
abbrev _root_.aC := @List.size_toArray
abbrev _root_.lQ := @List.mem_map
abbrev _root_.bR := @List.mem_singleton
abbrev _root_.dB := @List.nodup_cons
abbrev _root_.pH := @if_true
abbrev _root_.oH := @Bool.false_eq_true
abbrev _root_.dI := @Nat.le_trans
abbrev _root_.gH := @List.cons_append
abbrev _root_.cV := @Nat.lt_of_lt_of_le
abbrev _root_.dG := @Bool.true_and
abbrev _root_.iO := @Iff.rfl
abbrev _root_.eP := @Nat.mul_le_mul_right
abbrev _root_.bC := @Int.toNat_natCast
abbrev _root_.cK := @List.eq_nil_of_length_eq_zero
abbrev _root_.aH := @Nat.zero_add
abbrev _root_.eZ := @List.append_nil
abbrev _root_.gQ := @List.nodup_append
abbrev _root_.nA := @Bool.eq_iff_iff
abbrev _root_.fR := @List.cons.injEq
abbrev _root_.cH := @decide_false
abbrev _root_.bY := @Option.isSome_some
abbrev _root_.jQ := @List.map_nil
abbrev _root_.bH := @List.mem_append
abbrev _root_.Av := @Nat.lt_succ_self
abbrev _root_.aK := @List.length_nil
abbrev _root_.iJ := @List.take_of_length_le
abbrev _root_.pJ := @List.take_add_one
abbrev _root_.gL := @List.drop_of_length_le
abbrev _root_.qT := @Nat.add_mul
abbrev _root_.cZ := @true_and
abbrev _root_.eY := @and_true
abbrev _root_.dN := @Bool.and_true
abbrev _root_.dO := @Bool.and_false
abbrev _root_.dE := @Bool.false_and
abbrev _root_.eL := @Bool.or_true
abbrev _root_.dR := @Bool.or_false
abbrev _root_.dL := @Bool.true_or
abbrev _root_.cS := @Bool.false_or
abbrev _root_.dA := @Bool.not_true
abbrev _root_.cW := @Bool.not_false
abbrev _root_.aL := @List.set_cons_zero
abbrev _root_.aN := @List.set_cons_succ
abbrev _root_.aF := @List.getD_cons_zero
abbrev _root_.bJ := @List.getD_cons_succ
abbrev _root_.oG := @UInt8.toNat_lt
abbrev _root_.iY := @Prod.ext
abbrev _root_.dQ := @List.drop_eq_getElem_cons
abbrev _root_.fY := @List.flatMap_cons
abbrev _root_.aP := @List.length_append
abbrev _root_.AX := @List.drop_append_of_le_length
abbrev _root_.AW := @List.take_append_of_le_length
abbrev _root_.aR := @List.length_drop
abbrev _root_.dW := @List.drop_succ_cons
abbrev _root_.eU := @List.drop_zero
abbrev _root_.kB := @List.drop_drop
abbrev _root_.kV := @List.count_append
abbrev _root_.vQ := @List.count_cons
abbrev _root_.vX := @List.count_eq_zero
abbrev _root_.kN := @List.length_map
abbrev _root_.qS := @Nat.le_succ
abbrev _root_.Dv := @List.isPrefixOf_iff_prefix
abbrev _root_.fW := @Nat.zero_le
abbrev _root_.vZ := @Int.eq_ofNat_of_zero_le
abbrev _root_.gY := @List.length_pos_iff
abbrev _root_.mN := @Int.le_refl
abbrev _root_.fK := @List.append_assoc
abbrev _root_.lZ := @List.perm_middle
abbrev _root_.uJ := @Nat.add_le_add_left
abbrev _root_.gJ := @List.nil_append
abbrev _root_.fZ := @List.drop_length
abbrev _root_.BP := @List.perm_iff_count
abbrev _root_.nH := @List.take_succ_cons
abbrev _root_.bK := @decide_eq_true
abbrev _root_.cM := @decide_eq_false
abbrev _root_.lT := @UInt8.toNat_inj
abbrev _root_.aD := @exists_eq_left'
abbrev _root_.bT := @Nat.lt_add_one
abbrev _root_.aS := @Nat.zero_lt_succ
abbrev _root_.cY := @decide_true
abbrev _root_.eQ := @List.take_length
abbrev _root_.Az := @Int.lt_irrefl
abbrev _root_.yE := @Option.map_eq_some_iff
abbrev _root_.rF := @UInt8.toNat_ofNat'
abbrev _root_.yF := @List.map_map
abbrev _root_.bQ := @List.not_mem_nil
abbrev _root_.fF := @or_false
abbrev _root_.pI := @UInt8.ofNat_toNat
abbrev _root_.mM := @List.nodup_nil
abbrev _root_.Dw := @List.Perm.refl
abbrev _root_.rZ := @List.take_append_drop
abbrev _root_.rH := @List.drop_eq_nil_of_le
abbrev _root_.Aw := @List.getElem_mem
abbrev _root_.Ax := @List.flatMap_nil
abbrev _root_.yG := @List.any_eq_false
abbrev _root_.rG := @List.pairwise_cons
abbrev _root_.cL := @not_false_eq_true
abbrev _root_.jA := @Classical.byContradiction
abbrev _root_.dJ := @of_decide_eq_true
namespace Go.Eng
section
open Go
variable{w:World}{K:Value->World->Prop}{cs:List Value}{G:Nat->Prop}{T:TypeId}{i:Nat}{n:Nat}{v:Value}{w':World}{P:Program}{c:UInt8}{S:Nat->Prop}
abbrev Fr:=Nat->Value
def upd(f:Fr)(d:Option Nat)(v:Value):Fr:=
 match d with
 |none=>f
 |some d=>λj=>bif Nat.beq j d then v else f j
def ev(f:Fr):Operand->Value
 |.tmp t=>f t
 |.const v=>v
 |.global g=>.pointer (some ⟨g,0,none⟩)
 |.func g=>.func (.func g) #[] #[]
def evl(f:Fr)(a:Array Operand):List Value:=a.toList.map (ev f)
def ofL(l:List UInt8):ByteArray:=⟨l.toArray⟩
theorem iP(l:List UInt8):(ofL l).data.toList=l:=by simp[ofL]
theorem jG(l:List UInt8):(ofL l).size=l.length:=by simp[ofL,ByteArray.size]
theorem Qf{a b:List UInt8}:ofL a=ofL b↔a=b:=by
 constructor
 ·intro h;have:=congrArg (λs=>s.data.toList) h;simpa[ofL]using this
 ·rintro rfl;rfl
class HX where
 X:List PanicEntry->World->Prop
@[reducible] def noX:HX:=⟨λ_ _=>False⟩
def Dx[HX](K:Value->World->Prop):Ending->World->Prop
 |.returned v,w=>K v w
 |.panicked c,w=>HX.X c w
 |.outgrown,_=>False
theorem Dx.mono[HX]{K':Value->World->Prop}(j:∀v w,K v w->K' v w){e:Ending}(h:Dx K e w):Dx K' e w:=by
 cases e with
 |returned v=>exact j _ _ h
 |panicked c=>exact h
 |outgrown=>exact h.elim
def Res[HX](P:Program)(K:Value->World->Prop):Result Next->Prop
 |.ok (.value v) w=>K v w
 |.ok .skip w=>K undef w
 |.ok (.enter g args) w=>Calls P g args w (Dx K)
 |.ok (.row r args) w=>Rows P r args w K
 |.halt (.panic v) w=>HX.X [{v,recovered:=false}] w
 |_=>False
theorem Res.upon[HX]{o:Oper}{a:Act}{next:Act->World->Prop}{Q:Exit->Act->World->Prop}
  (I:∀v w,K v w->next (a.put o.dst v) w)(J:∀c w,HX.X c w->Q (.panic c) a w){r:Result Next}(h:Res P K r):o.upon P a next Q r:=by
 cases r with
 |ok n w=>
  cases n<;>simp only[Res]at h<;>simp only[Oper.upon]<;>first
   |exact I _ _ h
   |exact h.elim
   |exact h.mono λ_ _ j=>I _ _ j
   |(refine h.mono λe w' j=>?_
     cases e with
     |returned v=>exact I _ _ j
     |panicked c=>exact J _ _ j
     |outgrown=>exact j.elim)
 |halt x w=>
  cases x<;>simp only[Res]at h<;>simp only[Oper.upon]<;>first
   |exact h.elim
   |exact J _ _ h
theorem Res.mono[HX]{K':Value->World->Prop}(j:∀v w,K v w->K' v w){r:Result Next}(h:Res P K r):Res P K' r:=by
 cases r with
 |ok n w=>
  cases n<;>simp only[Res]at h⊢<;>first
   |exact j _ _ h
   |exact h.elim
   |exact h.mono λ_ _ o=>j _ _ o
   |exact h.mono λe w' o=>o.mono j
 |halt x w=>
  cases x<;>simp only[Res]at h⊢<;>first
   |exact h.elim
   |exact h
def mK(c:Bool)(A:Prop):Prop:=bif c then A else False
theorem mK.out{c:Bool}{A:Prop}(h:mK c A):c=true/\A:=by
 cases c with
 |true=>exact⟨rfl,h⟩
 |false=>exact h.elim
def eO(c a b:Value)(K:Value->Prop):Prop:=match c with|.bool t=>K (bif t then a else b)|_=>False
def dV(v:Value)(K:Value->Prop):Prop:=
 match v with
 |.pointer (some _)=>K v
 |.func (.func _) _ _=>K v
 |.iface _ _=>K v
 |_=>False
def aU(op:BinOp)(x y:Value)(K:Value->Prop):Prop:=
 match x,y with
 |.int k a,.int k' b=>
  match op with
  |.shl=>0<=b/\K (.int k (k.wrap (a*2^min b.toNat k.bits)))
  |.shr=>0<=b/\K (.int k (a.fdiv (2^min b.toNat k.bits)))
  |.add=>k=k'/\K (.int k (k.wrap (a+b)))
  |.sub=>k=k'/\K (.int k (k.wrap (a-b)))
  |.mul=>k=k'/\K (.int k (k.wrap (a*b)))
  |.quo=>k=k'/\b≠0/\K (.int k (k.wrap (a.tdiv b)))
  |.rem=>k=k'/\b≠0/\K (.int k (a.tmod b))
  |.and=>k=k'/\K (.int k (k.wrap (BitVec.ofInt k.bits a&&&BitVec.ofInt k.bits b).toNat))
  |.or=>k=k'/\K (.int k (k.wrap (BitVec.ofInt k.bits a|||BitVec.ofInt k.bits b).toNat))
  |.xor=>k=k'/\K (.int k (k.wrap (BitVec.ofInt k.bits a^^^BitVec.ofInt k.bits b).toNat))
  |.andNot=>k=k'/\K (.int k (k.wrap (BitVec.ofInt k.bits a&&&~~~BitVec.ofInt k.bits b).toNat))
  |.eql=>k=k'/\K (.bool (decide (a=b)))
  |.neq=>k=k'/\K (.bool (decide (a≠b)))
  |.lss=>k=k'/\K (.bool (decide (a<b)))
  |.leq=>k=k'/\K (.bool (decide (a<=b)))
  |.gtr=>k=k'/\K (.bool (decide (b<a)))
  |.geq=>k=k'/\K (.bool (decide (b<=a)))
 |.string a,.string b=>
  match op with
  |.add=>((a.size+b.size:Nat):Int)<=IntKind.i64.max/\K (.string (a++b))
  |.eql=>K (.bool (decide (a.data.toList=b.data.toList)))
  |.neq=>K (.bool (decide (a.data.toList≠b.data.toList)))
  |.lss=>K (.bool (Op.bytesLess a.data.toList b.data.toList))
  |.leq=>K (.bool (Op.bytesLess a.data.toList b.data.toList||decide (a.data.toList=b.data.toList)))
  |.gtr=>K (.bool (!(Op.bytesLess a.data.toList b.data.toList||decide (a.data.toList=b.data.toList))))
  |.geq=>K (.bool (!Op.bytesLess a.data.toList b.data.toList))
  |_=>False
 |_,_=>False
inductive EqK|bool|ptr|slice|map|func
def EqK.of:TypeDesc->Option EqK
 |.bool=>some .bool
 |.pointer _=>some .ptr
 |.slice _=>some .slice
 |.map _ _=>some .map
 |.func _ _ _=>some .func
 |_=>none
def eqW(k:EqK)(n:Bool)(x y:Value)(K:Value->Prop):Prop:=
 match k,x,y with
 |.bool,.bool a,.bool b=>K (.bool (n^^(a==b)))
 |.ptr,.pointer none,.pointer b=>K (.bool (n^^b.isNone))
 |.ptr,.pointer (some _),.pointer none=>K (.bool n)
 |.slice,.slice none _ _,.slice b _ _=>K (.bool (n^^b.isNone))
 |.slice,.slice (some _) _ _,.slice none _ _=>K (.bool n)
 |.map,.map none,.map b=>K (.bool (n^^b.isNone))
 |.map,.map (some _),.map none=>K (.bool n)
 |.func,.nilFunc,.nilFunc=>K (.bool (!n))
 |.func,.nilFunc,.func _ _ _=>K (.bool n)
 |.func,.func _ _ _,.nilFunc=>K (.bool n)
 |_,_,_=>False
def unW(op:UnOp)(x:Value)(K:Value->Prop):Prop:=
 match op,x with
 |.not,.bool b=>K (.bool (!b))
 |.neg,.int k n=>K (.int k (k.wrap (0-n)))
 |.xor,.int k n=>K (.int k (k.wrap (BitVec.ofInt k.bits (if k.signed then-1 else k.max)^^^BitVec.ofInt k.bits n).toNat))
 |_,_=>False
def sT(k:IntKind)(x:Value)(K:Value->Prop):Prop:=match x with|.int _ n=>K (.int k (k.wrap n))|_=>False
def KS(x:Value)(K:Value->Prop):Prop:=match x with|.int _ n=>K (.string (Utf8.encode n))|.string s=>K (.string s)|_=>False
def mV(agg:Bool)(off size:Nat)(x:Value)(K:Value->Prop):Prop:=
 match x with
 |.agg cs=>bif agg then K (.agg (cs.extract off (off+size)))else(∃c,cs[off]?=some c/\K c)
 |_=>False
def aZ(off:Nat)(x:Value)(K:Value->Prop):Prop:=
 match x with
 |.pointer (some a)=>K (.pointer (some (a.add off)))
 |_=>False
def iN(len:Option Nat)(size:Nat)(x i:Value)(K:Value->Prop):Prop:=
 match len,x,i with
 |none,.slice (some a) n _,.int _ i=>0<=i/\i<n/\K (.pointer (some (a.add (i.toNat*size))))
 |some n,.pointer (some a),.int _ i=>0<=i/\i<n/\K (.pointer (some (a.add (i.toNat*size))))
 |_,_,_=>False
def mX(x i:Value)(K:Value->Prop):Prop:=
 match x,i with
 |.string s,.int _ i=>0<=i/\∃b,s.data.toList[i.toNat]?=some b/\K (.int .u8 b.toNat)
 |_,_=>False
def XF(len:Nat)(agg:Bool)(size:Nat)(x i:Value)(K:Value->Prop):Prop:=
 match i with
 |.int _ i=>0<=i/\i<len/\mV agg (i.toNat*size) size x K
 |_=>False
def bdW(x:Option Value)(dflt:Nat)(lim:Nat)(K:Nat->Prop):Prop:=
 match x with
 |none=>K dflt
 |some (.int _ i)=>0<=i/\i<=lim/\K i.toNat
 |some _=>False
def oK(x:Value)(lo hi:Option Value)(K:Value->Prop):Prop:=
 match x with
 |.string s=>bdW hi s.size s.size λh=>bdW lo 0 h λl=>K (.string (ofL ((s.data.toList.take h).drop l)))
 |_=>False
def LJ(size:Nat)(x:Value)(lo hi mx:Option Value)(K:Value->Prop):Prop:=
 match x with
 |.slice a len cap=>bdW mx cap cap λm=>(bdW hi len m λh=>bdW lo 0 h λl=>
   K (.slice (if m=l then a else a.map (·.add (l*size))) (h-l) (m-l)))
 |_=>False
def Xr(n size:Nat)(x:Value)(lo hi mx:Option Value)(K:Value->Prop):Prop:=
 match x with
 |.pointer (some a)=>bdW mx n n λm=>(bdW hi n m λh=>bdW lo 0 h λl=>
   K (.slice (some (if m=l then a else a.add (l*size))) (h-l) (m-l)))
 |_=>False
def jC(i:Nat)(x:Value)(K:Value->Prop):Prop:=match x with|.tuple vs=>(match vs[i]? with|some v=>K v|none=>False)|_=>False
def iX(cells:List Value):List (Nat×Nat×Value)->(List Value->Prop)->Prop
 |[],K=>K cells
 |(off,size,v)::r,K=>v.cells.size=size/\off+size<=cells.length/\iX (cells.take off++(v.cells.toList++cells.drop (off+size))) r K
def jM(x:Value)(K:Value->Prop):Prop:=match x with|.string s=>K (.int .i64 s.size)|_=>False
def jN(x:Value)(K:Value->Prop):Prop:=match x with|.slice _ n _=>K (.int .i64 n)|_=>False
def XP(x:Value)(K:Value->Prop):Prop:=match x with|.slice _ _ n=>K (.int .i64 n)|_=>False
def Ql(x y:Value)(K:Value->Prop):Prop:=match x,y with|.int k a,.int _ b=>K (.int k (if b<a then b else a))|_,_=>False
def Tt(x y z:Value)(K:Value->Prop):Prop:=match x,y,z with|.int k a,.int _ b,.int _ c=>K (.int k (if c<(if b<a then b else a)then c else(if b<a then b else a)))|_,_,_=>False
def Vo(x y:Value)(K:Value->Prop):Prop:=match x,y with|.int k a,.int _ b=>K (.int k (if a<b then b else a))|_,_=>False
def bN(w:World)(a:Addr):Nat->Nat->Option (List Value)
 |_,0=>some []
 |i,n+1=>match w.cell? (a.add i)with|some v=>(bN w a (i+1) n).map (v::·)|none=>none
def ldW(agg:Bool)(n:Nat)(x:Value)(w:World)(K:Value->Prop):Prop:=
 match x with
 |.pointer (some a)=>bif agg then(∃l,bN w a 0 n=some l/\K (.agg l.toArray))else(∃v,w.cell? a=some v/\K v)
 |_=>False
def oU(P:Program)(s:Sem Value)(w:World)(K:Value->Prop):Prop:=∃v,s.run P w=.ok v w/\K v
def fH(P:Program)(s:Sem Value)(w:World)(K:Value->World->Prop):Prop:=match s.run P w with|.ok v w'=>K v w'|_=>False
def BX(P:Program)(s:Sem Unit)(w:World)(K:World->Prop):Prop:=match s.run P w with|.ok _ w'=>K w'|_=>False
def Uf[HX](P:Program)(s:Sem Next)(w:World)(K:Value->World->Prop):Prop:=Res P K (s.run P w)
def dY(T:TypeId)(zero:List Value)(w:World)(K:Value->World->Prop):Prop:=
 K (.pointer (some ⟨w.heap.size,0,none⟩)) (w.alloc (.cells zero.toArray T))
def jI(T:TypeId)(v:Value)(w:World)(K:Value->World->Prop):Prop:=
 K (.pointer (some ⟨w.heap.size,0,none⟩)) (w.alloc (.cells v.cells T))
def fV(T:TypeId)(len:Nat)(zero:List Value)(parts:List (Nat×Nat×Value))(w:World)(K:Value->World->Prop):Prop:=
 iX zero parts λcs=>K (.slice (some ⟨w.heap.size,0,none⟩) len len) (w.alloc (.cells cs.toArray T))
def jD:Value->Bool
 |.agg _|.tuple _=>false
 |_=>true
def lD(a:Addr):List Value->Nat->World->(World->Prop)->Prop
 |[],_,w,K=>K w
 |v::r,i,w,K=>jD v=true/\(w.cell? (a.add i)).isSome=true/\w.frozen? (a.add i)=false/\lD a r (i+1) (w.setCell (a.add i) v) K
def stW(n:Nat)(x v:Value)(w:World)(K:World->Prop):Prop:=
 match x with
 |.pointer (some a)=>v.cells.size=n/\lD a v.cells.toList 0 w K
 |_=>False
def TD[HX](P:Program)(g:FuncId)(args:List Value)(w:World)(K:Value->World->Prop):Prop:=
 Calls P g args.toArray w (Dx K)
def Kl[HX](x:Value)(w:World):Prop:=match x with|.iface T v=>HX.X [{v:=.iface T v,recovered:=false}] w|_=>False
def aI[HX](P:Program)(g:FuncId)(args:List Value)(w:World)(K:Value->World->Prop):Prop:=
 Res P K ((callFunc g args.toArray).run P w)
def mY[HX](P:Program)(v:Value)(args:List Value)(w:World)(K:Value->World->Prop):Prop:=
 Uf P (do let d<-Deferred.ofValue v args.toArray;invoke d.target d.args) w K
def VD:TypeDesc->Bool
 |.struct _|.array _ _=>true
 |_=>false
def tL(P:Program)(T:TypeId):Bool:=match P.underlying T with|some d=>VD d|none=>false
def lK(P:Program)(T:TypeId):Nat:=match P.info? T with|some i=>i.size|none=>0
def Dy(P:Program)(T:TypeId):Option Value:=match P.info? T with|some i=>i.zero|none=>none
def sZ(places:Nat->Option (Nat×Nat))(f:Fr):List (Nat×Operand)->Option (List (Nat×Nat×Value))
 |[]=>some []
 |(i,x)::r=>match places i,sZ places f r with
  |some (off,size),some l=>some ((off,size,ev f x)::l)
  |_,_=>none
def HV(P:Program)(fs:Array Field)(i:Nat):Option (Nat×Nat):=match fs[i]? with|some g=>some (g.offset,lK P g.type)|none=>none
def IM(P:Program)(T:TypeId)(f:Fr)(parts:List (Nat×Operand))(K:Value->Prop):Prop:=
 match P.underlying T,Dy P T with
 |some (.struct fs),some z=>
  (match sZ (HV P fs) f parts with
   |some l=>mK (fs.all (λg=>(P.info? g.type).isSome)) (iX z.cells.toList l λcs=>K (.agg cs.toArray))
   |none=>False)
 |some (.array _ e),some z=>
  (match sZ (λi=>some (i*lK P e,lK P e)) f parts with
   |some l=>mK (P.info? e).isSome (iX z.cells.toList l λcs=>K (.agg cs.toArray))
   |none=>False)
 |_,_=>False
def XO(P:Program)(op:BinOp)(T:TypeId)(x y:Value)(K:Value->Prop):Prop:=
 match op,(match P.underlying T with|some d=>EqK.of d|none=>none)with
 |.eql,some k=>eqW k false x y K
 |.neq,some k=>eqW k true x y K
 |_,_=>aU op x y K
def Tz(P:Program)(s d:TypeId)(x:Value)(K:Value->Prop):Prop:=
 match P.underlying s,P.underlying d with
 |some (.int _),some (.int k)=>sT k x K
 |some (.int _),some .string=>KS x K
 |some .string,some .string=>KS x K
 |_,_=>False
def CB(P:Program)(T:TypeId)(x i:Value)(K:Value->Prop):Prop:=
 match P.underlying T with
 |some (.slice e)=>mK (P.info? e).isSome (iN none (lK P e) x i K)
 |some (.array n e)=>mK (P.info? e).isSome (iN (some n) (lK P e) x i K)
 |_=>False
def MK(P:Program)(T:TypeId)(x i:Value)(K:Value->Prop):Prop:=
 match P.underlying T with
 |some .string=>mX x i K
 |some (.array n e)=>mK (P.underlying e).isSome (XF n (tL P e) (lK P e) x i K)
 |_=>False
def HS(P:Program)(T:TypeId)(x:Value)(lo hi mx:Option Value)(K:Value->Prop):Prop:=
 match P.underlying T with
 |some .string=>mK (!mx.isSome) (oK x lo hi K)
 |some (.slice e)=>mK (!mx.isSome||hi.isSome) (mK (P.info? e).isSome (LJ (lK P e) x lo hi mx K))
 |some (.array n e)=>mK (!mx.isSome||hi.isSome) (mK (P.info? e).isSome (Xr n (lK P e) x lo hi mx K))
 |_=>False
def DV(P:Program)(b:Builtin)(argTypes:Array TypeId)(args:List Value)(K:Value->Prop):Prop:=
 match b,args with
 |.len,[x]=>(match argTypes[0]? with
   |some T=>(match P.underlying T with
    |some .string=>jM x K
    |some (.slice _)=>jN x K
    |some (.array n _)=>K (.int .i64 n)
    |_=>False)
   |none=>False)
 |.cap,[x]=>(match argTypes[0]? with
   |some T=>(match P.underlying T with
    |some (.slice _)=>XP x K
    |_=>False)
   |none=>False)
 |.min,[x,y]=>Ql x y K
 |.min,[x,y,z]=>Tt x y z K
 |.max,[x,y]=>Vo x y K
 |_,_=>False
def Jj(P:Program)(f:Fr)(op:Op)(K:Value->Prop):Prop:=
 match op with
 |.move x|.assign x=>K (ev f x)
 |.pick c a b=>eO (ev f c) (ev f a) (ev f b) K
 |.nilCheck x=>dV (ev f x) K
 |.binOp op T x y _=>XO P op T (ev f x) (ev f y) K
 |.unOp op _ x=>unW op (ev f x) K
 |.convert s d x=>Tz P s d (ev f x) K
 |.makeInterface T x=>(match P.underlying T with|some (.interface _)=>False|none=>False|_=>K (.iface T (ev f x)))
 |.makeFunc fn first cap=>K (.func fn (evl f first).toArray (evl f cap).toArray)
 |.field T x i=>(match P.underlying T with
   |some (.struct fs)=>(match fs[i]? with|some g=>mK (P.underlying g.type).isSome (mV (tL P g.type) g.offset (lK P g.type) (ev f x) K)|none=>False)
   |_=>False)
 |.fieldAddr T x i=>(match P.underlying T with
   |some (.struct fs)=>(match fs[i]? with|some g=>mK (!(Nat.beq (lK P g.type) 0)) (aZ g.offset (ev f x) K)|none=>False)
   |_=>False)
 |.indexAddr T x i=>CB P T (ev f x) (ev f i) K
 |.index T x i=>MK P T (ev f x) (ev f i) K
 |.slice T x lo hi mx=>HS P T (ev f x) (lo.map (ev f)) (hi.map (ev f)) (mx.map (ev f)) K
 |.extract t i=>jC i (ev f t) K
 |.build T parts=>IM P T f parts.toList K
 |.call {callee:=.builtin b,args,argTypes}=>DV P b argTypes (evl f args) K
 |_=>False
def nN(P:Program):Op->Bool
 |.move _|.assign _|.pick ..|.nilCheck _|.unOp ..|.makeInterface ..|.makeFunc ..|.field ..|.fieldAddr ..|.indexAddr ..|.index ..|.slice ..
 |.extract ..|.build ..=>true
 |.binOp op T _ _ _=>(match op with
  |.eql|.neq=>(match P.underlying T with|some (.interface _)|some (.struct _)|some (.array _ _)|some (.chan _ _)|none=>false|_=>true)
  |_=>true)
 |.convert s d _=>(match P.underlying s,P.underlying d with|some (.int _),some (.int _)|some (.int _),some .string|some .string,some .string=>true|_,_=>false)
 |.call {callee:=.builtin b,argTypes,..}=>(match b with
  |.min|.max|.cap=>true
  |.len=>(match argTypes[0]? with|some T=>(match P.underlying T with|some (.map _ _)|none=>false|_=>true)|none=>false)
  |_=>false)
 |_=>false
def vI(P:Program)(s:Sem Value)(K:Value->Prop):Prop:=∃v,K v/\∀w,s.run P w=.ok v w
theorem run_bind{α β:Type}(P:Program)(s:Sem α)(k:α->Sem β)(w:World):
  (s>>=k).run P w=match s.run P w with|.ok a w'=>(k a).run P w'|.halt h w'=>.halt h w':=by
 show(Sem.bind s k).run P w=_;induction s generalizing w with
 |pure a=>simp[Sem.bind,Sem.run]
 |load m a c ih=>simp only[Sem.bind,Sem.run];(repeat' split)<;>simp_all
 |store m a v c ih=>
  cases v<;>simp only[Sem.bind,Sem.run]<;>((repeat' split)<;>simp_all)
 |new o c ih=>simp[Sem.bind,Sem.run,ih]
 |shape r c ih=>simp[Sem.bind,Sem.run,ih]
 |freeze a n c ih=>simp[Sem.bind,Sem.run,ih]
 |frozen a c ih=>simp[Sem.bind,Sem.run,ih]
 |getObj r c ih=>simp only[Sem.bind,Sem.run];(repeat' split)<;>simp_all
 |setObj r o c ih=>simp only[Sem.bind,Sem.run];(repeat' split)<;>simp_all
 |choose q c ih=>simp only[Sem.bind,Sem.run];(repeat' split)<;>simp_all
 |sys c k' ih=>simp[Sem.bind,Sem.run,ih]
 |program c ih=>simp[Sem.bind,Sem.run,ih]
 |mark m c ih=>simp[Sem.bind,Sem.run,ih]
 |halt h=>simp[Sem.bind,Sem.run]
theorem run_pure{α:Type}(P:Program)(a:α)(w:World):(pure a:Sem α).run P w=.ok a w:=rfl
theorem bU{d:TypeDesc}(h:P.underlying T=some d)(w:World):(underlying T).run P w=.ok d w:=by
 simp[underlying,run_bind,program,Sem.run,h,run_pure]
theorem yJ{i:TypeInfo}(h:P.info? T=some i)(w:World):(typeInfo T).run P w=.ok i w:=by
 simp[typeInfo,run_bind,program,Sem.run,h,run_pure]
theorem iU(h:(P.info? T).isSome=true)(w:World):(sizeOf T).run P w=.ok (lK P T) w:=by
 cases hi:P.info? T with
 |none=>rw[hi]at h;cases h
 |some i=>simp[sizeOf,run_bind,yJ hi,run_pure,lK,hi]
theorem rI(h:(P.underlying T).isSome=true):(P.info? T).isSome=true:=by
 unfold Program.underlying at h;cases hi:P.info? T with
 |none=>simp[hi]at h
 |some i=>rfl
theorem uQ(h:(P.underlying T).isSome=true)(w:World):(isAgg T).run P w=.ok (tL P T) w:=by
 cases hi:P.underlying T with
 |none=>rw[hi]at h;cases h
 |some d=>
  simp only[isAgg,run_bind,bU hi,tL,hi];cases d<;>rfl
theorem xJ{z:Value}(h:Dy P T=some z)(w:World):(zeroValue T).run P w=.ok z w:=by
 unfold Dy at h;cases hi:P.info? T with
 |none=>simp[hi]at h
 |some i=>
  simp only[hi]at h;simp[zeroValue,run_bind,yJ hi,h,run_pure]
theorem GA{off:Nat}{x:Value}{K:Value->Prop}(hT:(P.underlying T).isSome=true)(h:mV (tL P T) off (lK P T) x K):
  ∃cs,x=.agg cs/\vI P (part T cs off) K:=by
 cases x with
 |agg cs=>
  refine⟨cs,rfl,?_⟩;simp only[mV]at h;cases j:tL P T with
  |true=>
   rw[j]at h;exact⟨_,h,λw=>by simp[part,run_bind,uQ hT,j,iU (rI hT),run_pure]⟩
  |false=>
   rw[j]at h;obtain⟨c,I,o⟩:=h;exact⟨c,o,λw=>by simp[part,run_bind,uQ hT,j,I,run_pure]⟩
 |_=>exact h.elim
theorem FJ{x:Option Value}{dflt lim:Nat}{K:Nat->Prop}(h:bdW x dflt lim K):
  ∃n,K n/\((x=none/\n=dflt)\/∃v,x=some v/\∀(code:BoundsCode) (w:World),(Instr.sliceBound v lim code).run P w=.ok n w):=by
 cases x with
 |none=>exact⟨dflt,h,.inl ⟨rfl,rfl⟩⟩
 |some v=>
  cases v<;>simp only[bdW]at h
  case int k i=>
   obtain⟨I,o,j⟩:=h;exact⟨_,j,.inr ⟨_,rfl,λcode w=>by simp[Instr.sliceBound,asIntOf,run_bind,run_pure,I,o]⟩⟩
theorem zD{isSlice:Bool}{len cap:Nat}{lo hi mx:Option Value}{K:Nat->Nat->Nat->Prop}(J:mx.isSome=true->hi.isSome=true)
  (h:bdW mx cap cap λm=>bdW hi len m λh=>bdW lo 0 h λl=>K l h m):
  ∃l h m,K l h m/\∀w,(Instr.sliceBounds isSlice len cap lo hi mx).run P w=.ok (l,h,m) w:=by
 obtain⟨m,h1,j⟩:=FJ (P:=P) h;obtain⟨U,h2,I⟩:=FJ (P:=P) h1;obtain⟨l,h3,o⟩:=FJ (P:=P) h2;refine⟨l,U,m,h3,λw=>?_⟩;rcases j with⟨rfl,rfl⟩|⟨vm,rfl,rm⟩<;>rcases I with⟨rfl,rfl⟩|⟨vh,rfl,rh⟩<;>rcases o with⟨rfl,rfl⟩|⟨vl,rfl,rl⟩<;>
  first
   |(simp at J;done)
   |simp[Instr.sliceBounds,run_bind,run_pure, *]
theorem xP{place:Nat->Option (Nat×Nat)}{f:Fr}{K:List Value->Prop}:∀(parts:List (Nat×Operand)) (l:List (Nat×Nat×Value)) (cells:List Value),
  sZ place f parts=some l->iX cells l K->∃cs,K cs/\Instr.fill place cells.toArray (parts.map λp=>(p.1,ev f p.2))=some cs.toArray
 |[],l,cells,I,h=>by
  simp only[sZ,aV]at I
  subst I
  exact⟨cells,h,rfl⟩
 |(i,x)::r,l,cells,I,h=>by
  simp only[sZ]at I
  cases o:place i with
  |none=>simp[o]at I
  |some os=>
   obtain⟨off,size⟩:=os
   cases hr:sZ place f r with
   |none=>simp[o,hr]at I
   |some l'=>
    simp only[o,hr,aV]at I
    subst I
    obtain⟨U,h2,h3⟩:=h
    obtain⟨cs,J,hf⟩:=xP r l' _ hr h3
    refine⟨cs,J,?_⟩
    simp only[fC,Instr.fill,o]
    rw[aJ (by simp[U];omega)]
    rw[<-hf]
    congr 1
    have key:∀(vs:List Value) (k:Nat) (cs:List Value),off+k+vs.length<=cs.length->
      (vs.zipIdx k).foldl (λ(a:Array Value) (p:Value×Nat)=>a.setIfInBounds (off+p.2) p.1) cs.toArray=(cs.take (off+k)++(vs++cs.drop (off+k+vs.length))).toArray:=by
     intro vs;induction vs with
     |nil=>intro k cs _;simp
     |cons v vs ih=>
      intro k cs hg;simp only[aB]at hg;simp only[List.zipIdx_cons,List.foldl_cons];rw[aA,ih (k+1) _ (by simp;omega)];congr 1;apply List.ext_getElem?;intro j;simp only[List.getElem?_append,cO,lG,List.getElem?_take,List.getElem?_set,List.getElem?_drop,aB,List.getElem?_cons]
      (repeat' split)<;>first
        |rfl
        |omega
        |(simp_all;done)
        |(congr 1;omega)
        |(rename_i U h2 h3;simp at U;omega)
    have J:=key (ev f x).cells.toList 0 cells (by simp;omega);simp only[cN]at J;rw[<-U];simp only[Array.length_toList]at J;rw[<-J,<-Array.foldl_toList];simp
def mT(P:Program)(s:Sem Next)(K:Value->Prop):Prop:=∃v,K v/\∀w,s.run P w=.ok (.value v) w
theorem mT.of1{s:Sem Value}{K:Value->Prop}(h:vI P s K):mT P (do pure (.value (<-s))) K:=by
 obtain⟨v,o,j⟩:=h;exact⟨v,o,λw=>by rw[run_bind,j];rfl⟩
theorem BN{α:Type}[BEq α][LawfulBEq α][DecidableEq α](a b:α):(a==b)=decide (a=b):=by
 by_cases h:a=b<;>simp[h]
theorem Lj{op:BinOp}{x y:Operand}{f:Fr}{K:Value->Prop}(h:aU op (ev f x) (ev f y) K):
  vI P (do eqGuard op T x y (ev f x) (ev f y);binOp op T (ev f x) (ev f y)) K:=by
 generalize ev f x=a at*
 generalize ev f y=b at*
 cases a<;>cases b<;>simp only[aU]at h<;>first|exact h.elim|skip
 case int.int k a k' b=>
  have o:∀w,(eqGuard op T x y (.int k a) (.int k' b)).run P w=.ok () w:=λw=>by cases op<;>simp[eqGuard,run_pure]
  cases op<;>simp only at h
  case shl=>exact⟨_,h.2,λw=>by rw[run_bind,o];simp[binOp,Op.shift,run_pure,Int.not_lt.2 h.1]⟩
  case shr=>exact⟨_,h.2,λw=>by rw[run_bind,o];simp[binOp,Op.shift,run_pure,Int.not_lt.2 h.1]⟩
  case quo=>obtain⟨rfl,hb,j⟩:=h;exact⟨_,j,λw=>by rw[run_bind,o];simp[binOp,Op.intDiv,run_pure,hb]⟩
  case rem=>obtain⟨rfl,hb,j⟩:=h;exact⟨_,j,λw=>by rw[run_bind,o];simp[binOp,Op.intDiv,run_pure,hb]⟩
  case add=>obtain⟨rfl,j⟩:=h;exact⟨_,j,λw=>by rw[run_bind,o];simp[binOp,Op.intArith,run_pure]⟩
  case sub=>obtain⟨rfl,j⟩:=h;exact⟨_,j,λw=>by rw[run_bind,o];simp[binOp,Op.intArith,run_pure]⟩
  case mul=>obtain⟨rfl,j⟩:=h;exact⟨_,j,λw=>by rw[run_bind,o];simp[binOp,Op.intArith,run_pure]⟩
  case and=>obtain⟨rfl,j⟩:=h;exact⟨_,j,λw=>by rw[run_bind,o];simp only[binOp,Op.intBits,cJ,bZ,rN];rfl⟩
  case or=>obtain⟨rfl,j⟩:=h;exact⟨_,j,λw=>by rw[run_bind,o];simp only[binOp,Op.intBits,cJ,bZ,rN];rfl⟩
  case xor=>obtain⟨rfl,j⟩:=h;exact⟨_,j,λw=>by rw[run_bind,o];simp only[binOp,Op.intBits,cJ,bZ,rN];rfl⟩
  case andNot=>obtain⟨rfl,j⟩:=h;exact⟨_,j,λw=>by rw[run_bind,o];simp only[binOp,Op.intBits,cJ,bZ,rN];rfl⟩
  case eql=>obtain⟨rfl,j⟩:=h;exact⟨_,j,λw=>by rw[run_bind,o];simp[binOp,Op.intCmp,run_pure,BN]⟩
  case neq=>obtain⟨rfl,j⟩:=h;exact⟨_,j,λw=>by rw[run_bind,o];simp[binOp,Op.intCmp,run_pure,bne,BN]⟩
  case lss=>obtain⟨rfl,j⟩:=h;exact⟨_,j,λw=>by rw[run_bind,o];simp[binOp,Op.intCmp,run_pure]⟩
  case leq=>obtain⟨rfl,j⟩:=h;exact⟨_,j,λw=>by rw[run_bind,o];simp[binOp,Op.intCmp,run_pure]⟩
  case gtr=>obtain⟨rfl,j⟩:=h;exact⟨_,j,λw=>by rw[run_bind,o];simp[binOp,Op.intCmp,run_pure]⟩
  case geq=>obtain⟨rfl,j⟩:=h;exact⟨_,j,λw=>by rw[run_bind,o];simp[binOp,Op.intCmp,run_pure]⟩
 case string.string a b=>
  have o:∀w,(eqGuard op T x y (.string a) (.string b)).run P w=.ok () w:=λw=>by cases op<;>simp[eqGuard,run_pure]
  have I:(a.toList==b.toList)=decide (a.data.toList=b.data.toList):=by rw[ByteArray.toList_eq,ByteArray.toList_eq,BN]
  have hl:Op.bytesLess a.toList b.toList=Op.bytesLess a.data.toList b.data.toList:=by rw[ByteArray.toList_eq,ByteArray.toList_eq]
  cases op<;>simp only at h<;>first|exact h.elim|skip
  case add=>exact⟨_,h.2,λw=>by rw[run_bind,o];simp only[binOp,Op.stringOp];rw[aJ (by have:=h.1;omega)];rfl⟩
  case eql=>exact⟨_,h,λw=>by rw[run_bind,o];simp only[binOp,Op.stringOp];rw[I];rfl⟩
  case neq=>exact⟨_,h,λw=>by rw[run_bind,o];simp only[binOp,Op.stringOp];rw[I];simp[run_pure]⟩
  case lss=>exact⟨_,h,λw=>by rw[run_bind,o];simp only[binOp,Op.stringOp];rw[hl];rfl⟩
  case leq=>exact⟨_,h,λw=>by rw[run_bind,o];simp only[binOp,Op.stringOp];rw[I,hl];rfl⟩
  case gtr=>exact⟨_,h,λw=>by rw[run_bind,o];simp only[binOp,Op.stringOp];rw[I,hl];rfl⟩
  case geq=>exact⟨_,h,λw=>by rw[run_bind,o];simp only[binOp,Op.stringOp];rw[hl];rfl⟩
theorem KO{op:BinOp}{x y:Operand}{k:EqK}{n:Bool}{a b:Value}{K:Value->Prop}(h:eqW k n a b K)(w:World):
  (eqGuard op T x y a b).run P w=.ok () w:=by
 cases op<;>simp only[eqGuard]<;>first|rfl|(cases a<;>cases b<;>first|rfl|(cases k<;>exact h.elim))
theorem Xc{x y:Operand}{f:Fr}{d:TypeDesc}{k:EqK}{n:Bool}{K:Value->Prop}(hd:P.underlying T=some d)(U:EqK.of d=some k)
  (h:eqW k n (ev f x) (ev f y) K):
  vI P (do eqGuard (bif n then .neq else .eql) T x y (ev f x) (ev f y);binOp (bif n then .neq else .eql) T (ev f x) (ev f y)) K:=by
 have o:=λw=>KO (P:=P) (op:=(bif n then .neq else .eql)) (T:=T) (x:=x) (y:=y) h w;generalize ev f x=a at*
 generalize ev f y=b at*
 have key:∀(a b:Value) (r:Bool),(∀m w,(Op.equalIn (m+1) T a b).run P w=.ok r w)->
   (binOp .eql T a b=(do pure (.bool (<-Op.equal T a b))))->(binOp .neq T a b=(do pure (.bool (!(<-Op.equal T a b)))))->K (.bool (n^^r))->(∀w,(eqGuard (bif n then .neq else .eql) T x y a b).run P w=.ok () w)->
   vI P (do eqGuard (bif n then .neq else .eql) T x y a b;binOp (bif n then .neq else .eql) T a b) K:=by
  intro a b r h0 h1 h2 hK o;have j:∀w,(Op.equal T a b).run P w=.ok r w:=λw=>h0 9999 w;refine⟨_,hK,λw=>?_⟩;rw[run_bind,o];cases n
  ·simp only[aM,h1,run_bind,j,run_pure,Bool.false_bne]
  ·simp only[aQ,h2,run_bind,j,run_pure,Bool.true_bne]
 have I:=λw=>bU hd w;cases d<;>simp only[EqK.of,reduceCtorEq,aV]at U<;>subst U<;>unfold eqW at h<;>split at h<;>first
  |exact h.elim
  |(rename_i j _ _;cases j;done)
  |(rename_i j;cases j;done)
  |exact key _ _ _ (λm w=>by simp only[Op.equalIn,run_bind,I];exact run_pure _ _ _) rfl rfl h o
  |exact key _ _ true (λm w=>by simp[Op.equalIn,run_bind,I,run_pure]) rfl rfl (by simpa using h) o
  |exact key _ _ false (λm w=>by simp[Op.equalIn,run_bind,I,run_pure]) rfl rfl (by simpa using h) o
  |(rename_i J hh hc;cases J;done)
  |(simp_all;done)
theorem uZ(f:Fr)(a:Array Operand):a.map (ev f)=(evl f a).toArray:=by apply Array.ext';simp[evl]
theorem Gk{fn:Fn}{a b:Array Value}:(Instr.makeFunc fn a b).run P w=.ok (.func fn a b) w:=rfl
theorem KX{f:Fr}{parts:Array (Nat×Operand)}{K:Value->Prop}(h:IM P T f parts.toList K):
  vI P (Instr.build T (parts.map λ(i,x)=>(i,ev f x))) K:=by
 unfold IM at h;have hparts:(parts.map λ(i,x)=>(i,ev f x)).toList=parts.toList.map λp=>(p.1,ev f p.2):=by simp
 split at h
 ·rename_i fs z hd J;split at h
  ·rename_i l hl
   replace h:=mK.out h
   obtain⟨j,hp⟩:=h;obtain⟨cs,hk,hf⟩:=xP _ _ _ hl hp;refine⟨_,hk,λw=>?_⟩;have o:∀w,(fs.mapM λg=>do pure (g.offset,<-sizeOf g.type):Sem (Array (Nat×Nat))).run P w=.ok (fs.map λg=>(g.offset,lK P g.type)) w:=by
    intro w;have:∀(l:List Field),(∀g∈l,(P.info? g.type).isSome=true)->∀w,(l.mapM λg=>do pure (g.offset,<-sizeOf g.type):Sem (List (Nat×Nat))).run P w=.ok (l.map λg=>(g.offset,lK P g.type)) w:=by
     intro l;induction l with
     |nil=>intro _ w;rfl
     |cons g l ih=>
      intro I w;rw[List.mapM_cons];simp only[run_bind,iU (I g (by simp)),run_pure,ih (λx hx=>I x (by simp[hx])),fC]
    have hi:=this fs.toList (λg I=>yH.1 j g (by simpa using I)) w;rw[Array.mapM_eq_mapM_toList,<-bind_pure_comp,run_bind,hi];show Result.ok _ _=_;congr 1;apply Array.ext';simp
   simp only[Instr.build,run_bind,xJ J,bU hd,o];rw[hparts];have U:(λ(i:Nat)=>(fs.map λ(g:Field)=>(g.offset,lK P g.type))[i]?)=HV P fs:=by
    funext i;rw[Array.getElem?_map];unfold HV;cases fs[i]?<;>rfl
   rw[U];simp only[Array.toArray_toList]at hf;rw[hf];rfl
  ·exact h.elim
 ·rename_i n e z hd J;split at h
  ·rename_i l hl
   replace h:=mK.out h
   obtain⟨j,hp⟩:=h;obtain⟨cs,hk,hf⟩:=xP _ _ _ hl hp;refine⟨_,hk,λw=>?_⟩;simp only[Instr.build,run_bind,xJ J,bU hd,iU j];rw[hparts];simp only[Array.toArray_toList]at hf;rw[hf];rfl
  ·exact h.elim
 ·exact h.elim
theorem Hc(s:ByteArray)(l h:Nat):s.extract l h=ofL ((s.data.toList.take h).drop l):=by
 apply ByteArray.ext;apply Array.ext';simp[ofL,ByteArray.extract,ByteArray.copySlice,List.drop_take]
theorem JY{x:Value}{lo hi mx:Option Value}{K:Value->Prop}(h:HS P T x lo hi mx K):
  vI P (Instr.sliceAt T x lo hi mx) K:=by
 unfold HS at h;split at h
 ·rename_i hd
  replace h:=mK.out h
  obtain⟨j,h⟩:=h;cases mx with
  |some _=>cases j
  |none=>
   cases x<;>simp only[oK]at h<;>try exact h.elim
   rename_i s;have h':bdW (none:Option Value) s.size s.size λm=>bdW hi s.size m λh=>bdW lo 0 h λl=>(λl h (_:Nat)=>K (.string (ofL ((s.data.toList.take h).drop l)))) l h m:=h;obtain⟨l,hh,m,I,o⟩:=zD (P:=P) (isSlice:=false) (by simp) h';refine⟨_,I,λw=>?_⟩;simp only[Instr.sliceAt,run_bind,bU hd,Instr.slice];simp[o,run_bind,bU hd,run_pure];apply Hc
 ·rename_i e hd
  replace h:=mK.out h
  obtain⟨j,h⟩:=h
  replace h:=mK.out h
  obtain⟨U,h⟩:=h
  replace j:mx.isSome=true->hi.isSome=true:=λJ=>by rw[J]at j;simpa using j
  cases x<;>simp only[LJ]at h<;>try exact h.elim
  rename_i a len cap;obtain⟨l,hh,m,I,o⟩:=zD (P:=P) (isSlice:=true) (K:=λl h m=>K (.slice (if m=l then a else a.map (·.add (l*lK P e))) (h-l) (m-l))) j h;refine⟨_,I,λw=>?_⟩;simp only[Instr.sliceAt,run_bind,bU hd,Instr.slice];simp[o,run_bind,bU hd,run_pure,iU U]
 ·rename_i n e hd
  replace h:=mK.out h
  obtain⟨j,h⟩:=h
  replace h:=mK.out h
  obtain⟨U,h⟩:=h
  replace j:mx.isSome=true->hi.isSome=true:=λJ=>by rw[J]at j;simpa using j
  cases x<;>simp only[Xr]at h<;>try exact h.elim
  rename_i a;cases a with
  |none=>exact h.elim
  |some a=>
   obtain⟨l,hh,m,I,o⟩:=zD (P:=P) (isSlice:=false) (K:=λl h m=>K (.slice (some (if m=l then a else a.add (l*lK P e))) (h-l) (m-l))) j h;refine⟨_,I,λw=>?_⟩;simp[Instr.sliceAt,Instr.sureAddr,run_bind,bU hd,o,run_pure,iU U]
 ·exact h.elim
theorem Cc{f:Fr}{o:Oper}{K:Value->Prop}(h:Jj P f o.op K):mT P (execOp (ev f) o) K:=by
 obtain⟨dst,op,type,pos,after,guard⟩:=o;cases op<;>simp only[Jj]at h<;>try exact h.elim
 case move x=>exact⟨_,h,λw=>rfl⟩
 case assign x=>exact⟨_,h,λw=>rfl⟩
 case pick c a b=>
  simp only[execOp];generalize ev f c=cv at*
  cases cv<;>simp only[eO]at h<;>try exact h.elim
  rename_i t;exact⟨_,h,λw=>by cases t<;>rfl⟩
 case nilCheck x=>
  simp only[execOp];generalize ev f x=v at*
  cases v<;>simp only[dV]at h<;>try exact h.elim
  case pointer a=>cases a<;>first|exact h.elim|exact⟨_,h,λw=>rfl⟩
  case func fn _ _=>cases fn<;>first|exact h.elim|exact⟨_,h,λw=>rfl⟩
  case iface=>exact⟨_,h,λw=>rfl⟩
 case binOp op T x y yT=>
  simp only[execOp];refine mT.of1 ?_;unfold XO at h;cases hd:P.underlying T with
  |none=>
   rw[hd]at h;exact Lj (by cases op<;>exact h)
  |some d=>
   rw[hd]at h;cases J:EqK.of d with
   |none=>simp only[J]at h;exact Lj (by cases op<;>exact h)
   |some k=>
    simp only[J]at h;cases op<;>first
     |exact Xc (n:=false) hd J h
     |exact Xc (n:=true) hd J h
     |exact Lj h
 case unOp op T x=>
  simp only[execOp];refine mT.of1 ?_;generalize ev f x=v at*
  cases op<;>cases v<;>simp only[unW]at h<;>first
   |exact h.elim
   |exact⟨_,h,λw=>rfl⟩
 case convert s d x=>
  simp only[execOp];refine mT.of1 ?_;unfold Tz at h;generalize ev f x=v at*
  split at h
  ·rename_i k1 k2 hs hd;cases v<;>simp only[sT]at h<;>try exact h.elim
   exact⟨_,h,λw=>by simp[convert,run_bind,bU hs,bU hd,Conv.intToInt,run_pure]⟩
  ·rename_i k1 hs hd;cases v<;>simp only[KS]at h<;>try exact h.elim
   ·exact⟨_,h,λw=>by simp[convert,run_bind,bU hs,bU hd,Conv.intToString,run_pure]⟩
   ·exact⟨_,h,λw=>by simp[convert,run_bind,bU hs,bU hd,run_pure]⟩
  ·rename_i hs hd;cases v<;>simp only[KS]at h<;>try exact h.elim
   ·exact⟨_,h,λw=>by simp[convert,run_bind,bU hs,bU hd,Conv.intToString,run_pure]⟩
   ·exact⟨_,h,λw=>by simp[convert,run_bind,bU hs,bU hd,run_pure]⟩
  ·exact h.elim
 case makeInterface T x=>
  simp only[execOp];refine mT.of1 ?_;cases hd:P.underlying T with
  |none=>rw[hd]at h;exact h.elim
  |some d=>
   rw[hd]at h;cases d<;>first
    |exact h.elim
    |exact⟨_,h,λw=>by simp[Instr.makeInterface,run_bind,bU hd,run_pure]⟩
 case makeFunc fn first cap=>
  simp only[execOp];refine mT.of1 ⟨_,h,λw=>by rw[Gk,uZ,uZ]⟩
 case field T x i=>
  simp only[execOp];refine mT.of1 ?_;split at h
  ·rename_i fs hd;split at h
   ·rename_i g hg
    replace h:=mK.out h
    obtain⟨I,h2⟩:=h;obtain⟨cs,hx,v,J,hr⟩:=GA I h2;exact⟨v,J,λw=>by simp[Instr.field,run_bind,bU hd,hg,hx,asAgg,run_pure,hr]⟩
   ·exact h.elim
  ·exact h.elim
 case fieldAddr T x i=>
  simp only[execOp];refine mT.of1 ?_;split at h
  ·rename_i fs hd;split at h
   ·rename_i g hg
    replace h:=mK.out h
    obtain⟨I,h2⟩:=h
    replace I:lK P g.type≠0:=λhz=>by rw[hz]at I;simp at I
    generalize ev f x=v at*
    cases v<;>simp only[aZ]at h2<;>try exact h2.elim
    rename_i a;cases a with
    |none=>exact h2.elim
    |some a=>
     have hinfo:(P.info? g.type).isSome=true:=by
      unfold lK at I;cases hi:P.info? g.type with
      |none=>rw[hi]at I;exact absurd rfl I
      |some i=>rfl
     exact⟨_,h2,λw=>by simp[Instr.fieldAt,run_bind,bU hd,hg,Instr.sureAddr,run_pure,fieldPlace,iU hinfo,I]⟩
   ·exact h.elim
  ·exact h.elim
 case indexAddr T x i=>
  simp only[execOp];refine mT.of1 ?_;unfold CB at h;generalize ev f x=v at*
  generalize ev f i=iv at*
  split at h
  ·rename_i e hd
   replace h:=mK.out h
   obtain⟨he,h⟩:=h;unfold iN at h;split at h
   ·rename_i a n cap k j _;obtain⟨h0,I,J⟩:=h;exact⟨_,J,λw=>by simp[Instr.indexAt,asIntOf,run_bind,bU hd,run_pure,h0,I,iU he]⟩
   ·rename_i heq;cases heq
   ·exact h.elim
  ·rename_i n e hd
   replace h:=mK.out h
   obtain⟨he,h⟩:=h;unfold iN at h;split at h
   ·rename_i heq;cases heq
   ·rename_i n' a k j heq;cases heq;obtain⟨h0,I,J⟩:=h;exact⟨_,J,λw=>by simp[Instr.indexAt,asIntOf,run_bind,bU hd,run_pure,h0,I,Instr.sureAddr,iU he]⟩
   ·exact h.elim
  ·exact h.elim
 case index T x i=>
  simp only[execOp];refine mT.of1 ?_;unfold MK at h;generalize ev f x=v at*
  generalize ev f i=iv at*
  split at h
  ·rename_i hd;unfold mX at h;split at h
   ·rename_i s k j;obtain⟨h0,b,hb,J⟩:=h;have xa:s[j.toNat]?=some b:=by
     rw[<-hb];show(if h:j.toNat<s.size then some s[j.toNat]else none)=_;by_cases U:j.toNat<s.size
     ·rw[dif_pos U,List.getElem?_eq_getElem (by simpa using U)];rfl
     ·rw[dif_neg U,List.getElem?_eq_none (by simpa using U)]
    exact⟨_,J,λw=>by simp[Instr.index,asIntOf,run_bind,bU hd,run_pure,h0,xa]⟩
   ·exact h.elim
  ·rename_i n e hd
   replace h:=mK.out h
   obtain⟨he,h⟩:=h;cases iv<;>simp only[XF]at h<;>try exact h.elim
   rename_i k j;obtain⟨h0,I,hp⟩:=h;obtain⟨cs,hx,u,J,hr⟩:=GA (P:=P) he hp;exact⟨u,J,λw=>by simp[Instr.index,asIntOf,run_bind,bU hd,run_pure,hx,h0,I,iU (rI he),hr]⟩
  ·exact h.elim
 case slice T x lo hi mx=>
  simp only[execOp];exact mT.of1 (JY h)
 case extract t i=>
  simp only[execOp];refine mT.of1 ?_;generalize ev f t=v at*
  cases v<;>simp only[jC]at h<;>try exact h.elim
  split at h
  ·rename_i v hv;exact⟨_,h,λw=>by simp[Instr.extract,hv,run_pure]⟩
  ·exact h.elim
 case build T parts=>
  simp only[execOp];exact mT.of1 (KX h)
 case call c=>
  obtain⟨callee,args,argTypes⟩:=c;cases callee<;>simp only at h<;>try exact h.elim
  rename_i b;have hargs:args.map (ev f)=(evl f args).toArray:=by rw[uZ]
  simp only[execOp,resolve,hargs];generalize evl f args=az at*
  unfold DV at h;split at h
  ·rename_i x;split at h
   ·rename_i T hT;split at h
    ·rename_i hd;unfold jM at h;split at h
     ·exact⟨_,h,λw=>by simp[run_bind,run_pure,invoke,builtin,Builtin.len_,hT,bU hd,goInt]⟩
     ·exact h.elim
    ·rename_i e hd;unfold jN at h;split at h
     ·exact⟨_,h,λw=>by simp[run_bind,run_pure,invoke,builtin,Builtin.len_,hT,bU hd,goInt]⟩
     ·exact h.elim
    ·rename_i n e hd;exact⟨_,h,λw=>by simp[run_bind,run_pure,invoke,builtin,Builtin.len_,hT,bU hd,goInt]⟩
    ·exact h.elim
   ·exact h.elim
  ·rename_i x;split at h
   ·rename_i T hT;split at h
    ·rename_i e hd;unfold XP at h;split at h
     ·exact⟨_,h,λw=>by simp[run_bind,run_pure,invoke,builtin,Builtin.cap_,hT,bU hd,goInt]⟩
     ·exact h.elim
    ·exact h.elim
   ·exact h.elim
  ·rename_i x y;unfold Ql at h;split at h
   ·exact⟨_,h,λw=>by simp[run_bind,run_pure,invoke,builtin,Builtin.min_,Builtin.min2]⟩
   ·exact h.elim
  ·rename_i x y z;unfold Tt at h;split at h
   ·exact⟨_,h,λw=>by simp[run_bind,run_pure,invoke,builtin,Builtin.min_,Builtin.min2]⟩
   ·exact h.elim
  ·rename_i x y;unfold Vo at h;split at h
   ·exact⟨_,h,λw=>by simp[run_bind,run_pure,invoke,builtin,Builtin.max_,Builtin.max2]⟩
   ·exact h.elim
  ·exact h.elim
def isC:Operand->Bool
 |.const _=>true
 |_=>false
def AY(c:Bool):Operand:=bif c then .const undef else .tmp 0
def eqQ(P:Program)(op:BinOp)(T:TypeId)(cx cy:Bool)(a b:Value)(w:World)(K:Value->Prop):Prop:=
 oU P (do eqGuard op T (AY cx) (AY cy) a b;binOp op T a b) w K
def Ca(P:Program)(f:Fr)(o:Oper)(w:World)(K:Value->Prop):Prop:=
 match o.op with
 |.load T a=>mK (P.underlying T).isSome (ldW (tL P T) (lK P T) (ev f a) w K)
 |.lookup T x i ok=>oU P (Instr.lookup T (ev f x) (ev f i) ok) w K
 |.binOp op T x y _=>eqQ P op T (isC x) (isC y) (ev f x) (ev f y) w K
 |.convert s d x=>oU P (convert s d (ev f x)) w K
 |.typeAssert x xT aT ok=>oU P (Instr.typeAssert (ev f x) xT aT ok) w K
 |.entry it=>oU P (Instr.entry (ev f it)) w K
 |.call {callee:=.builtin b,args,argTypes}=>(match b with
   |.len=>oU P (Builtin.len_ argTypes o.type (evl f args).toArray) w K
   |_=>False)
 |_=>False
def isRead(P:Program):Op->Bool
 |.load ..|.lookup ..|.binOp ..|.typeAssert ..|.entry ..=>true
 |.convert s d _=>(match P.underlying s,P.underlying d with|some (.slice _),some .string=>true|_,_=>false)
 |.call {callee:=.builtin b,..}=>(match b with|.len=>true|_=>false)
 |_=>false
def pP(n:Nat)(z:List Value):List Value:=match n with|0=>[]|n+1=>z++pP n z
def Bp(P:Program)(T:TypeId)(len:Nat)(f:Fr)(parts:List (Nat×Operand))(w:World)(K:Value->World->Prop):Prop:=
 match P.underlying T with
 |some (.slice e)=>(match Dy P e,sZ (λi=>some (i*lK P e,lK P e)) f parts with
   |some z,some l=>mK (P.info? e).isSome (mK (Nat.beq z.cells.size (lK P e)) (mK (Nat.ble (len*lK P e) 1000) (fV e len (pP len z.cells.toList) l w K)))
   |_,_=>False)
 |_=>False
def VH[HX](P:Program)(f:Fr)(o:Oper)(w:World)(K:Value->World->Prop):Prop:=
 match o.op with
 |.alloc T=>(match Dy P T with|some z=>dY T z.cells.toList w K|none=>False)
 |.box T x=>jI T (ev f x) w K
 |.buildSlice T n parts=>Bp P T n f parts.toList w K
 |.store T a x=>mK (P.info? T).isSome (stW (lK P T) (ev f a) (ev f x) w (K undef))
 |.mapUpdate T m k x|.insert T m k x=>BX P (Instr.mapUpdate T (ev f m) (ev f k) (ev f x)) w (K undef)
 |.makeMap T r=>fH P (Instr.makeMap T (r.map (ev f))) w K
 |.makeSlice T l c=>fH P (Instr.makeSlice T (ev f l) (ev f c)) w K
 |.range T x=>fH P (Instr.range T (ev f x)) w K
 |.next it s=>fH P (Instr.next (ev f it) s o.type) w K
 |.convert s d x=>fH P (convert s d (ev f x)) w K
 |.call {callee:=.value x,args,..}=>(match x with
   |.func g=>aI P g (evl f args) w K
   |_=>mY P (ev f x) (evl f args) w K)
 |.call {callee:=.invoke r m,args,..}=>Uf P (callMethod (ev f r) m (evl f args).toArray) w K
 |.panic x=>Kl (ev f x) w
 |.call {callee:=.builtin b,args,argTypes}=>(match b with
   |.append=>fH P (Builtin.append_ argTypes o.type (evl f args).toArray) w K
   |.copy=>fH P (Builtin.copy_ argTypes o.type (evl f args).toArray) w K
   |.delete=>fH P (Builtin.delete_ argTypes o.type (evl f args).toArray) w K
   |.clear=>fH P (Builtin.clear_ argTypes o.type (evl f args).toArray) w K
   |.panic=>Kl ((evl f args).getD 0 undef) w
   |_=>False)
 |_=>False
def FL[HX](P:Program)(f:Fr)(o:Oper)(w:World)(K:Value->World->Prop):Prop:=
 match nN P o.op with
 |true=>Jj P f o.op (λv=>K v w)
 |false=>(match isRead P o.op with
  |true=>Ca P f o w (λv=>K v w)
  |false=>VH P f o w K)
theorem DR{a:Addr}(h:w.cell? a=some v):(load a).run P w=.ok v w:=by
 simp[load,Sem.run,h]
theorem tC{P:Program}{a:Addr}{w:World}:∀(n i:Nat) (l:List Value) (acc:Array Value),bN w a i n=some l->
  (loadCellsFrom a i n acc).run P w=.ok (acc++l.toArray) w
 |0,i,l,acc,h=>by
  simp only[bN,aV]at h
  subst h
  simp[loadCellsFrom,run_pure]
 |n+1,i,l,acc,h=>by
  simp only[bN]at h
  cases j:w.cell? (a.add i)with
  |none=>simp[j]at h
  |some v=>
   cases o:bN w a (i+1) n with
   |none=>simp[j,o]at h
   |some l'=>
    simp only[j,o,aG,aV]at h
    subst h
    simp only[loadCellsFrom,run_bind,DR j,tC n (i+1) l' _ o]
    simp
theorem MA{x:Value}{K:Value->Prop}(hT:(P.underlying T).isSome=true)(h:ldW (tL P T) (lK P T) x w K):
  ∃v,K v/\(Instr.loadAt T x).run P w=.ok v w:=by
 cases x<;>simp only[ldW]at h<;>try exact h.elim
 rename_i a;cases a with
 |none=>exact h.elim
 |some a=>
  simp only at h;cases j:tL P T with
  |true=>
   rw[j]at h;obtain⟨l,hl,o⟩:=h;refine⟨_,o,?_⟩;simp[Instr.loadAt,Instr.sureAddr,loadVar,run_bind,run_pure,uQ hT,j,iU (rI hT),loadCells,tC _ _ _ _ hl]
  |false=>
   rw[j]at h;obtain⟨v,I,o⟩:=h;refine⟨_,o,?_⟩;simp[Instr.loadAt,Instr.sureAddr,loadVar,run_bind,run_pure,uQ hT,j]
   first|exact DR I|(rw[I])
theorem Ds(op:BinOp)(T:TypeId)(x y:Operand)(a b:Value):eqGuard op T (AY (isC x)) (AY (isC y)) a b=eqGuard op T x y a b:=by
 cases x<;>cases y<;>rfl
theorem yS{f:Fr}{o:Oper}{K:Value->Prop}(h:Ca P f o w K):
  ∃v,K v/\(execOp (ev f) o).run P w=.ok (.value v) w:=by
 have key:∀(s:Sem Value),(∃v,K v/\s.run P w=.ok v w)->∃v,K v/\(do pure (.value (<-s)):Sem Next).run P w=.ok (.value v) w:=by
  rintro s ⟨v,I,j⟩;exact⟨v,I,by rw[run_bind,j];rfl⟩
 have key2:∀(s:Sem Value),oU P s w K->∃v,K v/\s.run P w=.ok v w:=λs ⟨v,j,I⟩=>⟨v,I,j⟩;obtain⟨dst,op,type,pos,after,guard⟩:=o;cases op<;>simp only[Ca]at h<;>try exact h.elim
 case load T a=>simp only[execOp];exact key _ (MA (mK.out h).1 (mK.out h).2)
 case lookup T x i ok=>simp only[execOp];exact key _ (key2 _ h)
 case binOp op T x y yT=>
  simp only[execOp];refine key _ (key2 _ ?_);unfold eqQ at h;rw[Ds]at h;exact h
 case convert s d x=>simp only[execOp];exact key _ (key2 _ h)
 case typeAssert x xT aT ok=>simp only[execOp];exact key _ (key2 _ h)
 case entry it=>simp only[execOp];exact key _ (key2 _ h)
 case call c=>
  obtain⟨callee,args,argTypes⟩:=c;cases callee<;>simp only at h<;>try exact h.elim
  rename_i b;cases b<;>simp only at h<;>try exact h.elim
  simp only[execOp,resolve,uZ];obtain⟨v,I,j⟩:=key2 _ h;exact⟨v,I,by simp[run_bind,run_pure,invoke,builtin,j]⟩
theorem wI{P:Program}{a:Addr}{K:World->Prop}:∀(l:List Value) (i:Nat) (w:World),lD a l i w K->∃w',K w'/\(storeCells a l i).run P w=.ok () w'
 |[],i,w,h=>⟨w,h,rfl⟩
 |v::r,i,w,h=>by
  obtain⟨h1,h2,h3,U⟩:=h
  obtain⟨w',J,o⟩:=wI (P:=P) r (i+1) _ U
  refine⟨w',J,?_⟩
  obtain⟨old,I⟩:=Option.isSome_iff_exists.1 h2
  have j:(store (a.add i) v).run P w=.ok () (w.setCell (a.add i) v):=by
   cases v<;>first
    |(simp[jD]at h1;done)
    |(simp[store,Sem.run,I,h3];done)
  simp only[storeCells,run_bind,j,o]
theorem TX{x:Value}{K:World->Prop}(hT:(P.info? T).isSome=true)(h:stW (lK P T) x v w K):
  ∃w',K w'/\(Instr.storeAt T x v).run P w=.ok () w':=by
 cases x<;>simp only[stW]at h<;>try exact h.elim
 rename_i a;cases a with
 |none=>exact h.elim
 |some a=>
  obtain⟨J,I⟩:=h;obtain⟨w',o,j⟩:=wI (P:=P) _ _ _ I;refine⟨w',o,?_⟩;simp[Instr.storeAt,Instr.sureAddr,storeVar,run_bind,run_pure,iU hT,J,j]
theorem Dq{z:Array Value}{size:Nat}(U:z.size=size):∀len,((Array.range (len*size)).map (z[· %z.size]!))=(pP len z.toList).toArray:=by
 subst U;have o:∀len,(pP len z.toList).length=len*z.size:=by
  intro len;induction len with
  |zero=>simp[pP]
  |succ n ih=>simp[pP,ih,Nat.succ_mul,Dm]
 intro len;apply Array.ext (by simp[o]);intro i h1 h2;simp only[Array.getElem_map,Array.getElem_range,List.getElem_toArray];simp at h1;have:∀(len i:Nat) (h:i<(pP len z.toList).length),(pP len z.toList)[i]=z[i%z.size]!:=by
  intro len;induction len with
  |zero=>intro i h;simp[pP]at h
  |succ n ih=>
   intro i h;have J:0<z.size:=by
    rcases Nat.eq_zero_or_pos z.size with I|I
    ·rw[o,I]at h;simp at h
    ·exact I
   simp only[pP,List.getElem_append];split
   ·rename_i hi;have j:i<z.size:=by simpa using hi
    rw[qD j,getElem!_pos z i j];simp
   ·rename_i hi;have j:z.size<=i:=by simpa using hi
    rw[ih];simp only[Array.length_toList];congr 1;rw[Nat.mod_eq_sub_mod j]
 rw[this]
theorem KQ[HX]{f:Fr}{o:Oper}(h:VH P f o w K):Res P K ((execOp (ev f) o).run P w):=by
 have keyV:∀(s:Sem Value),fH P s w K->Res P K ((do pure (.value (<-s)):Sem Next).run P w):=by
  intro s j;unfold fH at j;rw[run_bind];cases I:s.run P w with
  |ok v w'=>rw[I]at j;exact j
  |halt x w'=>rw[I]at j;exact j.elim
 have keyU:∀(s:Sem Unit),BX P s w (K undef)->Res P K ((do s;pure .skip:Sem Next).run P w):=by
  intro s j;unfold BX at j;rw[run_bind];cases I:s.run P w with
  |ok v w'=>rw[I]at j;exact j
  |halt x w'=>rw[I]at j;exact j.elim
 have keyP:∀(x:Value),Kl x w->Res P K ((do pure (.value (<-Instr.panic x)):Sem Next).run P w):=by
  intro x j;unfold Kl at j;split at j
  ·exact j
  ·exact j.elim
 obtain⟨dst,op,type,pos,after,guard⟩:=o;cases op<;>simp only[VH]at h<;>try exact h.elim
 case alloc T=>
  cases J:Dy P T with
  |none=>rw[J]at h;exact h.elim
  |some z=>
   rw[J]at h;simp only[execOp];have I:(Instr.alloc T true (.tuple #[])).run P w=.ok (.pointer (some ⟨w.heap.size,0,none⟩)) (w.alloc (.cells z.cells T)):=by
    simp[Instr.alloc,run_bind,xJ J,newVar,newRow,newObj,Sem.run,run_pure]
   rw[run_bind,I];exact h
 case box T x=>
  simp only[execOp];have I:(Instr.box T (ev f x)).run P w=.ok (.pointer (some ⟨w.heap.size,0,none⟩)) (w.alloc (.cells (ev f x).cells T)):=by
   simp[Instr.box,run_bind,newVar,newRow,newObj,Sem.run,run_pure]
  rw[run_bind,I];exact h
 case buildSlice T n parts=>
  simp only[execOp];unfold Bp at h;split at h
  ·rename_i e hd;split at h
   ·rename_i z l J hl
    replace h:=mK.out h
    obtain⟨h1,h⟩:=h
    replace h:=mK.out h
    obtain⟨h2,h⟩:=h
    replace h:=mK.out h
    obtain⟨h3,h4⟩:=h
    replace h2:=kE h2
    replace h3:=lA h3
    unfold fV at h4;obtain⟨cs,U,hf⟩:=xP _ _ _ hl h4;have hparts:(parts.map λ(i,x)=>(i,ev f x)).toList=parts.toList.map λp=>(p.1,ev f p.2):=by simp
    have I:(Instr.buildSlice T n (parts.map λ(i,x)=>(i,ev f x))).run P w=.ok (.slice (some ⟨w.heap.size,0,none⟩) n n) (w.alloc (.cells cs.toArray e)):=by
     simp only[Instr.buildSlice,run_bind,bU hd,iU h1];rw[aJ (by omega)];have hcells:=Dq (z:=z.cells) h2 n;by_cases h0:n*lK P e=0
     ·rw[aO h0];simp only[run_bind,run_pure];have hc:((Array.range (n*lK P e)).map ((#[]:Array Value)[· %(#[]:Array Value).size]!))=(pP n z.cells.toList).toArray:=by
       rw[<-hcells,h0];simp[show Array.range 0=#[]from rfl]
      rw[hc,hparts,hf];simp[run_bind,newRow,newObj,Sem.run,run_pure]
     ·rw[aJ h0];simp only[run_bind,run_pure,xJ J];rw[hcells,hparts,hf];simp[run_bind,newRow,newObj,Sem.run,run_pure]
    rw[run_bind,I];exact U
   ·exact h.elim
  ·exact h.elim
 case store T a x=>
  simp only[execOp];obtain⟨w',U,I⟩:=TX (mK.out h).1 (mK.out h).2;rw[run_bind,I];exact U
 case mapUpdate T m k x=>simp only[execOp];exact keyU _ h
 case insert T m k x=>simp only[execOp];exact keyU _ h
 case makeMap T r=>simp only[execOp];exact keyV _ h
 case makeSlice T l c=>simp only[execOp];exact keyV _ h
 case range T x=>simp only[execOp];exact keyV _ h
 case next it s=>simp only[execOp];exact keyV _ h
 case panic x=>
  simp only[execOp];exact keyP _ h
 case convert s d x=>simp only[execOp];exact keyV _ h
 case call c=>
  obtain⟨callee,args,argTypes⟩:=c;cases callee with
  |value x=>
   simp only[execOp,resolve,uZ];cases x<;>simp only at h
   case func g=>
    unfold aI at h;have:(do let d<-(Deferred.ofValue (ev f (.func g)) (evl f args).toArray);invoke d.target d.args:Sem Next)=callFunc g (evl f args).toArray:=by
     show callFunc g (#[]++(evl f args).toArray++#[])=_;simp
    rw[this];exact h
   all_goals exact h
  |invoke r m=>
   simp only at h;simp only[execOp,resolve,uZ];have:(do let d<-(pure {target:=.fn (.method m) #[],args:=#[ev f r]++(evl f args).toArray}:Sem Deferred);invoke d.target d.args:Sem Next)=callMethod (ev f r) m (evl f args).toArray:=by
    show invoke (.fn (.method m) #[]) (#[ev f r]++(evl f args).toArray)=_;simp[invoke]
   rw[this];exact h
  |builtin b=>
   simp only[execOp,resolve,uZ];cases b<;>simp only at h<;>first
    |exact h.elim
    |exact keyV _ h
    |(have e:(evl f args).getD 0 undef=(evl f args).toArray.getD 0 .nilIface:=by
       cases hl:evl f args with
       |nil=>rw[hl]at h;exact h.elim
       |cons a r=>rfl
      rw[e]at h;exact keyP _ h)
theorem EI[HX]{f:Fr}{o:Oper}(h:FL P f o w K):Res P K ((execOp (ev f) o).run P w):=by
 unfold FL at h;cases U:nN P o.op with
 |true=>
  rw[U]at h;simp only at h;obtain⟨v,I,j⟩:=Cc (o:=o) h;rw[j];exact I
 |false=>
  rw[U]at h;simp only at h;cases J:isRead P o.op with
  |true=>
   rw[J]at h;simp only at h;obtain⟨v,I,j⟩:=yS (o:=o) h;rw[j];exact I
  |false=>
   rw[J]at h;exact KQ h
def pG:List Nat->Nat->Bool
 |[],_=>false
 |x::r,i=>bif Nat.beq x i then true else pG r i
theorem kY{l:List Nat}:pG l i=true↔i∈l:=by
 induction l with
 |nil=>simp[pG]
 |cons x r ih=>
  simp only[pG,aX];cases h:Nat.beq x i with
  |true=>simp[kE h]
  |false=>
   have:¬i=x:=λe=>by subst e;simp at h
   simp[this,ih]
def isB(v:Value)(want:Bool):Bool:=match v with|.bool b=>b==want|_=>false
def rC(ops:List Oper)(g:Nat):Option Nat:=match ops[g]? with|some o=>o.dst|none=>none
def yv(ops:List Oper)(f:Fr)(g:Nat)(want:Bool):Bool:=match rC ops g with|some d=>isB (f d) want|none=>false
def lY(ops:List Oper)(f:Fr)(o:Oper):Bool:=match o.guard with|none=>true|some (g,want)=>yv ops f g want
def Ag(n:Nat)(D:List Deferred)(f:Fr)(a:Act):Prop:=a.defers=D/\a.tmps.size=n/\∀t,a.tmps.getD t undef=f t
theorem Tx{f:Fr}{a:Act}{x:Operand}(h:∀t,x=.tmp t->a.tmps.getD t undef=f t):a.eval x=ev f x:=by
 cases x<;>first|rfl|exact h _ rfl
theorem wZ{D:List Deferred}{f:Fr}{a:Act}(h:Ag n D f a):a.eval=ev f:=funext λ_=>Tx λt _=>h.2.2 t
theorem Dz{ops:List Oper}{f:Fr}{a:Act}{o:Oper}(h:∀g want d,o.guard=some (g,want)->rC ops g=some d->a.tmps.getD d undef=f d):
  Region.wanted o (yielded ops.toArray a.tmps)=lY ops f o:=by
 unfold Region.wanted lY;cases hg:o.guard with
 |none=>rfl
 |some gw=>
  obtain⟨g,want⟩:=gw;have hy:yielded ops.toArray a.tmps g=match rC ops g with|some d=>(match f d with|.bool b=>some b|_=>none)|none=>none:=by
   unfold yielded;have U:=h g want;unfold rC at*
   simp only[List.getElem?_toArray];cases hx:ops[g]? with
   |none=>rfl
   |some o'=>
    rw[hx]at U;cases hd:o'.dst with
    |none=>simp[hd]
    |some d=>
     have J:=U d hg hd;simp only[Option.bind_some,hd];rw[<-J];rcases nL d a.tmps.size with j|I
     ·have e1:a.tmps[d]?=some a.tmps[d]:=by simp[j]
      have e2:a.tmps.getD d undef=a.tmps[d]:=by simp[j]
      rw[e1,e2];generalize a.tmps[d]=x;cases x<;>rfl
     ·simp[Array.getElem?_eq_none I,undef,Array.getD,Nat.not_lt.2 I]
  simp only[yv,hy];cases hd:rC ops g with
  |none=>simp
  |some d=>simp only[isB];cases f d<;>simp
theorem Cb(a:Act)(d:Option Nat)(v:Value):(a.put d v).tmps.size=a.tmps.size:=by cases d<;>simp[Act.put]
theorem put_defers(a:Act)(d:Option Nat)(v:Value):(a.put d v).defers=a.defers:=by cases d<;>rfl
theorem Fa(a:Act)(d:Nat)(v:Value)(t:Nat)(hd:d<a.tmps.size):(a.put (some d) v).tmps.getD t undef=if t=d then v else a.tmps.getD t undef:=by
 simp only[Act.put,kG,Array.getElem?_setIfInBounds];by_cases h:t=d
 ·subst h;simp[hd]
 ·rw[aJ h,aJ (jS h)]
theorem oQ(f:Fr)(d:Nat)(v:Value)(t:Nat):upd f (some d) v t=if t=d then v else f t:=by
 simp only[upd];by_cases h:t=d
 ·subst h;simp
 ·have:Nat.beq t d=false:=by
   cases hb:Nat.beq t d with
   |false=>rfl
   |true=>exact absurd (kE hb) h
  simp[this,h]
theorem Ag.put{D:List Deferred}{f:Fr}{a:Act}{d:Option Nat}(h:Ag n D f a)(hd:∀t,d=some t->t<n)(v:Value):Ag n D (upd f d v) (a.put d v):=by
 refine⟨by rw[put_defers];exact h.1,by rw[Cb];exact h.2.1,λt=>?_⟩;cases d with
 |none=>exact h.2.2 t
 |some d=>rw[Fa _ _ _ _ (by rw[h.2.1];exact hd d rfl),oQ,h.2.2]
structure DE where
 fl:List Nat
 anc:List (List Nat)
def jV(o:Oper):List Nat:=(o.after.toList.filter (Region.binds .any)).map (·.on)
def allIn(done:List Nat):List Nat->Bool
 |[]=>true
 |x::r=>bif pG done x then allIn done r else false
theorem yC{done l:List Nat}:allIn done l=true↔∀x∈l,x∈done:=by
 induction l with
 |nil=>simp[allIn]
 |cons x r ih=>
  simp only[allIn,aX,forall_eq_or_imp];cases h:pG done x with
  |true=>simp[kY.1 h,ih]
  |false=>
   have:x∉done:=λe=>by simp[kY.2 e]at h
   simp[this]
def sM(ops:List Oper)(done:List Nat):List Nat->Option (Nat×Oper)
 |[]=>none
 |i::r=>bif pG done i then sM ops done r else
   (match ops[i]? with
    |some o=>bif allIn done (jV o)then some (i,o)else sM ops done r
    |none=>sM ops done r)
def AQ(ops:List Oper)(fl done:List Nat):Nat->List Oper->List (Nat×Oper)
 |_,[]=>[]
 |i,o::r=>bif (bif pG done i then false else(bif pG fl i then false else allIn done (jV o)))then(i,o)::AQ ops fl done (i+1) r else AQ ops fl done (i+1) r
def Ri(P:Program)(f:Fr)(o:Oper)(w:World)(K:Value->Prop):Prop:=
 match nN P o.op with
 |true=>Jj P f o.op K
 |false=>Ca P f o w K
def GqW(c:Bool)(A:(Value->Prop)->Prop)(B:Value->Prop):Prop:=∃v,(c=true->A (λx=>x=v))/\(c=false->v=undef)/\B v
def GeW(c:Bool)(w:World)(A:(Value->World->Prop)->Prop)(B:Value->World->Prop):Prop:=(c=true->A B)/\(c=false->B undef w)
def qfW(P:Program)(ops:List Oper)(f:Fr)(o:Oper)(w:World)(K:Value->Prop):Prop:=
 match o.guard with
 |none=>Ri P f o w K
 |some (g,want)=>GqW (yv ops f g want) (Ri P f o w) K
def geW[HX](P:Program)(ops:List Oper)(f:Fr)(o:Oper)(w:World)(K:Value->World->Prop):Prop:=
 match o.guard with
 |none=>FL P f o w K
 |some (g,want)=>GeW (yv ops f g want) w (FL P f o w) K
def vJ(P:Program)(ops:List Oper)(f:Fr)(w:World)(rest:Prop):List Nat->Prop
 |[]=>rest
 |i::r=>match ops[i]? with
  |some o=>(match o.dst with
   |some d=>(match nN P o.op with
    |true=>vJ P ops f w rest r
    |false=>
     ((match o.guard with
       |none=>Ca P f o w (λx=>x=f d)
       |some (g,want)=>yv ops f g want=true->Ca P f o w (λx=>x=f d))/\vJ P ops f w rest r))
   |none=>vJ P ops f w rest r)
  |none=>vJ P ops f w rest r
def wR(l:List Nat):List Nat->List Nat
 |[]=>[]
 |x::r=>bif pG l x then wR l r else x::wR l r
theorem Ef{l r:List Nat}{x:Nat}(h:x∈r)(hl:x∉l):x∈wR l r:=by
 induction r with
 |nil=>cases h
 |cons y r ih=>
  simp only[wR];rcases aX.1 h with rfl|h
  ·have:pG l x=false:=by
    cases j:pG l x with
    |false=>rfl
    |true=>exact absurd (kY.1 j) hl
   simp[this]
  ·cases j:pG l y with
   |true=>exact ih h
   |false=>simp[ih h]
def Xp:Prop:=∀(_:HX) (P:Program) (ops:List Oper) (f:Fr) (o:Oper) (w:World) (K:Value->World->Prop),geW P ops f o w K->True
def Nh(p:Nat×Oper->Prop):List (Nat×Oper)->Prop
 |[]=>Xp
 |[x]=>p x
 |x::y::r=>p x/\Nh p (y::r)
theorem Ez{p:Nat×Oper->Prop}:∀{l:List (Nat×Oper)} {x},Nh p l->x∈l->p x
 |[],_,_,h=>by cases h
 |[y],x,h,j=>by simp at j;subst j;exact h
 |y::z::r,x,h,j=>by
  rcases aX.1 j with rfl|j
  ·exact h.1
  ·exact Ez h.2 j
def uD[HX](P:Program)(ops:List Oper)(e:DE):Nat->List Nat->List Nat->Fr->World->(Fr->World->Prop)->Prop
 |0,_,_,_,_,_=>False
 |n+1,done,pend,f,w,K=>
  match sM ops done e.fl with
  |some (i,o)=>qfW P ops f o w λv=>uD P ops e n (i::done) (i::pend) (upd f o.dst v) w K
  |none=>match AQ ops e.fl done 0 ops with
   |[]=>K f w
   |x::r=>Nh (λio=>geW P ops f io.2 w λv w'=>
     vJ P ops (upd f io.2.dst v) w' (uD P ops e n (io.1::done) (wR (e.anc.getD io.1 []) pend) (upd f io.2.dst v) w' K) (wR (e.anc.getD io.1 []) pend)) (x::r)
def oM(ops:List Oper)(o:Oper):List Nat:=
 (o.op.operands.toList.filterMap λ|.tmp t=>some t|_=>none)++(match o.guard with|some (g,_)=>(rC ops g).toList|none=>[])
def Ee(o:Oper):Bool:=match o.op with|.select ..=>false|_=>true
def TB(P:Program)(ops:List Oper)(e:DE)(i:Nat):Bool:=
 match ops[i]? with
 |some o=>(nN P o.op||isRead P o.op)&&
  (match o.dst with
   |some d=>(List.range ops.length).all λk=>match ops[k]? with
     |some ok=>(k==i||ok.dst !=some d)&&(!(pG (oM ops ok) d)||pG (e.anc.getD k []) i)&&
       (match ok.dst with
        |some dk=> !(pG (oM ops o) dk)||pG (e.anc.getD i []) k||(!(pG e.fl k)&&pG (e.anc.getD k []) i)
        |none=>true)
     |none=>true
   |none=>false)
 |none=>false
def TA(n:Nat)(ops:List Oper)(e:DE)(k:Nat):Bool:=
 match ops[k]? with
 |some o=>(match o.dst with|some d=>decide (d<n)|none=>true)&&Ee o&&(jV o).all (λx=>decide (x<k))&&
   (e.anc.getD k []).all (λx=>(jV o).any λy=>x==y||pG (e.anc.getD y []) x)
 |none=>true
def qR(P:Program)(n:Nat)(ops:List Oper)(e:DE):Bool:=
 e.fl.all (TB P ops e)&&(List.range ops.length).all (TA n ops e)
section
variable{P:Program}{n:Nat}{ops:List Oper}{e:DE}
theorem rO(h:qR P n ops e=true){k:Nat}{o:Oper}(J:ops[k]?=some o):
  (∀d,o.dst=some d->d<n)/\Ee o=true/\(∀x∈jV o,x<k)/\∀x∈e.anc.getD k [],∃y∈jV o,x=y\/x∈e.anc.getD y []:=by
 simp only[qR,bL,gI]at h;have I:k<ops.length:=by
  rcases nL k ops.length with U|U
  ·exact U
  ·rw[List.getElem?_eq_none U]at J;cases J
 have:=h.2 k (lP.2 I);simp only[TA,J,bL,gI,mA,fS,gR,fD]at this;obtain⟨⟨⟨h1,h2⟩,h3⟩,h4⟩:=this;refine⟨λd hd=>by simpa[hd]using h1,h2,h3,λx hx=>?_⟩;obtain⟨y,hy,j⟩:=h4 x hx;exact⟨y,hy,j.imp id kY.1⟩
theorem CS(h:qR P n ops e=true)(hi:i∈e.fl):∃o d,ops[i]?=some o/\o.dst=some d/\(nN P o.op=true\/isRead P o.op=true)/\
  ∀k ok,ops[k]?=some ok->(k≠i->ok.dst≠some d)/\(d∈oM ops ok->i∈e.anc.getD k [])/\
   ∀dk,ok.dst=some dk->dk∈oM ops o->k∈e.anc.getD i []\/(k∉e.fl/\i∈e.anc.getD k []):=by
 simp only[qR,bL,gI]at h;have I:=h.1 i hi;unfold TB at I;cases ho:ops[i]? with
 |none=>simp[ho]at I
 |some o=>
  simp only[ho]at I;cases hd:o.dst with
  |none=>simp[hd]at I
  |some d=>
   simp only[hd,bL,fS,gI]at I;refine⟨o,d,rfl,hd,I.1,λk ok hk=>?_⟩;have hg:k<ops.length:=by
    rcases nL k ops.length with h'|h'
    ·exact h'
    ·rw[List.getElem?_eq_none h']at hk;cases hk
   have h2:=I.2 k (lP.2 hg);simp only[hk,bL,fS,gR,bne_iff_ne,lR]at h2;obtain⟨⟨h3,J⟩,j⟩:=h2;refine⟨λU=>h3.resolve_left U,λhm=>?_,λdk hq hm=>?_⟩
   ·rcases J with J|J
    ·rw[kY.2 hm]at J;cases J
    ·exact kY.1 J
   ·simp only[hq,bL,fS,lR]at j;rcases j with(j|j)|⟨j,h6⟩
    ·rw[kY.2 hm]at j;cases j
    ·exact .inl (kY.1 j)
    ·exact .inr ⟨(λhh=>by rw[kY.2 hh]at j;cases j),kY.1 h6⟩
theorem Dh(h:qR P n ops e=true){done:List Nat}(hc:∀k∈done,∀o,ops[k]?=some o->∀x∈jV o,x∈done):
  ∀(k:Nat) (o:Oper),ops[k]?=some o->(∀x∈jV o,x∈done)->∀x∈e.anc.getD k [],x∈done:=by
 intro k;induction k using Nat.strongRecOn with
 |_ k ih=>
  intro o ho hd x hx;obtain⟨_,_,h3,h4⟩:=rO h ho;obtain⟨y,J,j⟩:=h4 x hx;rcases j with rfl|j
  ·exact hd x J
  ·have U:=hd y J;cases I:ops[y]? with
   |none=>
    rw[List.getElem?_eq_none_iff]at I;have hk:k<ops.length:=by
     rcases nL k ops.length with h'|h'
     ·exact h'
     ·rw[List.getElem?_eq_none h']at ho;cases ho
    have:=h3 y J;omega
   |some oy=>exact ih y (h3 y J) oy I (λz hz=>hc y U oy I z hz) x j
end
section
variable{P:Program}{n:Nat}{D:List Deferred}{ops:List Oper}{e:DE}
def YY(P:Program)(ops:List Oper)(f:Fr)(o:Oper)(d:Nat)(w:World):Prop:=
 (lY ops f o=true/\(execOp (ev f) o).run P w=.ok (.value (f d)) w)\/(lY ops f o=false/\f d=undef)
structure Inv(R:Fr->Prop)(P:Program)(n:Nat)(D:List Deferred)(ops:List Oper)(e:DE)(listed:Array Bool)(a:Act)(done pend:List Nat)(f:Fr)(w:World):Prop where
 fr:R f
 defers:a.defers=D
 size:a.tmps.size=n
 lsize:listed.size=ops.length
 l1:∀i:Nat,listed.getD i false=true->i∈done
 l2:∀i∈done,i<ops.length/\(listed.getD i false=false->i∈e.fl/\i∈pend)
 l3:∀t,(∀i∈done,listed.getD i false=false->rC ops i≠some t)->a.tmps.getD t undef=f t
 l4:∀i∈done,listed.getD i false=false->∀o d,ops[i]?=some o->o.dst=some d->YY P ops f o d w/\(nN P o.op=true->∀w',YY P ops f o d w')
 l5:∀i∈done,∀o,ops[i]?=some o->∀x∈jV o,x∈done
 l6:∀i:Nat,listed.getD i false=true->∀o,ops[i]?=some o->∀x∈jV o,listed.getD x false=true
theorem Co{o:Oper}{t:Nat}(h:Operand.tmp t∈o.op.operands.toList):t∈oM ops o:=by
 unfold oM;exact bS _ (bO.2 ⟨.tmp t,h,rfl⟩)
theorem Be{o:Oper}{g:Nat}{want:Bool}{d:Nat}(j:o.guard=some (g,want))(hd:rC ops g=some d):d∈oM ops o:=by
 unfold oM;refine bF _ ?_;simp[j,hd]
theorem Il{o:Oper}(h:Ee o=true):∀cs b,o.op≠.select cs b:=by
 intro cs b j;simp[Ee,j]at h
theorem AO{o:Oper}(I:Ee o=true){ρ ρ':Operand->Value}(h:∀x∈o.op.operands.toList,ρ x=ρ' x):execOp ρ o=execOp ρ' o:=
 execOp_congr o (Il I) (λx j=>h x (by simpa using j))
theorem JH{f f':Fr}{x:Operand}(h:∀t,x=.tmp t->f t=f' t):ev f x=ev f' x:=by
 cases x<;>first|rfl|exact h _ rfl
theorem uK{f f':Fr}{o:Oper}(h:∀t∈oM ops o,f t=f' t):lY ops f o=lY ops f' o:=by
 unfold lY;cases j:o.guard with
 |none=>rfl
 |some gw=>
  obtain⟨g,want⟩:=gw;simp only[yv];cases hd:rC ops g with
  |none=>rfl
  |some d=>simp only[h d (Be j hd)]
theorem YY.same{f f':Fr}{o:Oper}{d:Nat}(U:Ee o=true)(h:∀t∈oM ops o,f t=f' t)(hd:f d=f' d)(j:YY P ops f o d w):YY P ops f' o d w:=by
 unfold YY at*
 rw[<-uK h,<-hd];rw[<-AO U (ρ:=ev f) (ρ':=ev f') (λx I=>JH λt J=>h t (Co (J▸I)))];exact j
theorem LU{f:Fr}{o:Oper}{K:Value->Prop}(hp:nN P o.op=true\/isRead P o.op=true)(h:qfW P ops f o w K):
  ∃v,K v/\((lY ops f o=true/\(execOp (ev f) o).run P w=.ok (.value v) w/\(nN P o.op=true->∀w',(execOp (ev f) o).run P w'=.ok (.value v) w'))\/(lY ops f o=false/\v=undef)):=by
 have key:∀K:Value->Prop,Ri P f o w K->∃v,K v/\(execOp (ev f) o).run P w=.ok (.value v) w/\(nN P o.op=true->∀w',(execOp (ev f) o).run P w'=.ok (.value v) w'):=by
  intro K h;unfold Ri at h;cases I:nN P o.op with
  |true=>
   rw[I]at h;obtain⟨v,j,J⟩:=Cc (o:=o) h;exact⟨v,j,J w,λ_=>J⟩
  |false=>
   rw[I]at h;obtain⟨v,j,J⟩:=yS (o:=o) h;exact⟨v,j,J,λhh=>by cases hh⟩
 unfold qfW at h;unfold lY;cases hg:o.guard with
 |none=>
  simp only[hg]at h;obtain⟨v,j,h1,h2⟩:=key K h;exact⟨v,j,.inl ⟨rfl,h1,h2⟩⟩
 |some gw=>
  obtain⟨g,want⟩:=gw;simp only[hg]at h;obtain⟨v,ht,hf,j⟩:=h;cases U:yv ops f g want with
  |true=>
   obtain⟨v',rfl,h1,h2⟩:=key _ (ht U);exact⟨v',j,.inl ⟨U,h1,h2⟩⟩
  |false=>exact⟨v,j,.inr ⟨U,hf U⟩⟩
theorem wS{done:List Nat}:∀{l:List Nat} {i:Nat} {o:Oper},sM ops done l=some (i,o)->i∈l/\i∉done/\ops[i]?=some o/\∀x∈jV o,x∈done
 |[],_,_,h=>by cases h
 |j::l,i,o,h=>by
  simp only[sM]at h
  cases J:pG done j with
  |true=>rw[J]at h;obtain⟨h1,h2⟩:=wS (l:=l) h;exact⟨aE _ h1,h2⟩
  |false=>
   rw[J]at h
   simp only[aM]at h
   have rec_:sM ops done l=some (i,o)->i∈j::l/\i∉done/\ops[i]?=some o/\∀x∈jV o,x∈done:=λh=>by
    obtain⟨h1,h2⟩:=wS (l:=l) h
    exact⟨aE _ h1,h2⟩
   cases U:ops[j]? with
   |none=>rw[U]at h;exact rec_ h
   |some o'=>
    rw[U]at h
    simp only at h
    cases I:allIn done (jV o')with
    |true=>
     rw[I]at h
     simp only[aQ,aV,gK]at h
     obtain⟨rfl,rfl⟩:=h
     exact⟨aW,(λhd=>by rw[kY.2 hd]at J;cases J),U,yC.1 I⟩
    |false=>rw[I]at h;exact rec_ h
theorem tB{done:List Nat}:∀{l:List Nat},sM ops done l=none->∀i∈l,i∉done->∀o,ops[i]?=some o->¬∀x∈jV o,x∈done
 |[],_,_,hi,_,_,_,_=>by cases hi
 |j::l,h,i,hi,hd,o,ho,I=>by
  simp only[sM]at h
  cases hm:pG done j with
  |true=>
   rw[hm]at h
   rcases aX.1 hi with rfl|hi
   ·exact hd (kY.1 hm)
   ·exact tB (l:=l) h i hi hd o ho I
  |false=>
   rw[hm]at h
   simp only[aM]at h
   rcases aX.1 hi with rfl|hi
   ·rw[ho]at h
    simp[yC.2 I]at h
   ·cases U:ops[j]? with
    |none=>rw[U]at h;exact tB (l:=l) h i hi hd o ho I
    |some o'=>
     rw[U]at h
     simp only at h
     cases J:allIn done (jV o')with
     |true=>rw[J]at h;cases h
     |false=>rw[J]at h;exact tB (l:=l) h i hi hd o ho I
theorem GJ{fl done:List Nat}:∀(l:List Oper) (k i:Nat) (o:Oper),l[i]?=some o->k+i∉done->k+i∉fl->(∀x∈jV o,x∈done)->(k+i,o)∈AQ ops fl done k l
 |[],_,i,o,h,_,_,_=>by simp at h
 |p::l,k,0,o,h,U,J,I=>by
  simp only[List.getElem?_cons_zero,aV]at h
  subst h
  have e1:pG done k=false:=by
   cases j:pG done k with
   |false=>rfl
   |true=>exact absurd (kY.1 j) U
  have e2:pG fl k=false:=by
   cases j:pG fl k with
   |false=>rfl
   |true=>exact absurd (kY.1 j) J
  simp[AQ,e1,e2,yC.2 I]
 |p::l,k,i+1,o,h,U,J,I=>by
  have h':l[i]?=some o:=by simpa using h
  have:=GJ (fl:=fl) (done:=done) l (k+1) i o h' (by rwa[show k+1+i=k+(i+1)by omega]) (by rwa[show k+1+i=k+(i+1)by omega]) I;rw[show k+1+i=k+(i+1)by omega]at this;simp only[AQ];generalize (bif pG done k then false else bif pG fl k then false else allIn done (jV p))=b;cases b
  ·exact this
  ·exact aE _ this
theorem Hg{fl done:List Nat}:∀(l:List Oper) (k:Nat) (io:Nat×Oper),io∈AQ ops fl done k l->k<=io.1/\l[io.1-k]?=some io.2/\io.1∉done/\io.1∉fl/\∀x∈jV io.2,x∈done
 |[],_,_,h=>by cases h
 |p::l,k,io,h=>by
  simp only[AQ]at h
  have tail:io∈AQ ops fl done (k+1) l->k<=io.1/\(p::l)[io.1-k]?=some io.2/\io.1∉done/\io.1∉fl/\∀x∈jV io.2,x∈done:=by
   intro h;obtain⟨U,J,I⟩:=Hg l (k+1) io h;refine⟨by omega,?_,I⟩;rw[show io.1-k=(io.1-(k+1))+1 by omega];simpa using J
  cases j:pG done k with
  |true=>rw[j]at h;exact tail h
  |false=>
   cases hf:pG fl k with
   |true=>rw[j,hf]at h;exact tail h
   |false=>
    cases o:allIn done (jV p)with
    |false=>rw[j,hf,o]at h;exact tail h
    |true=>
     rw[j,hf,o]at h;simp only[aM,aQ]at h;rcases aX.1 h with rfl|h
     ·refine⟨aY _,by simp,(λhd=>by rw[kY.2 hd]at j;cases j),(λhd=>by rw[kY.2 hd]at hf;cases hf),yC.1 o⟩
     ·exact tail h
theorem tQ{f:Fr}{w:World}{R:Prop}:∀{l:List Nat},vJ P ops f w R l->R
 |[],h=>h
 |i::l,h=>by
  unfold vJ at h
  split at h
  ·split at h
   ·cases j:nN P _<;>rw[j]at h
    ·exact tQ (l:=l) h.2
    ·exact tQ (l:=l) h
   ·exact tQ (l:=l) h
  ·exact tQ (l:=l) h
theorem wK{f:Fr}{w:World}{R:Prop}:∀{l:List Nat},vJ P ops f w R l->∀i∈l,∀o d,ops[i]?=some o->o.dst=some d->nN P o.op=false->lY ops f o=true->
  Ca P f o w (λx=>x=f d)
 |[],_,_,hi,_,_,_,_,_,_=>by cases hi
 |j::l,h,i,hi,o,d,U,hd,J,I=>by
  rcases aX.1 hi with rfl|hi
  ·unfold vJ at h
   simp only[U,hd,J]at h
   unfold lY at I
   cases hg:o.guard with
   |none=>simp only[hg]at h;exact h.1
   |some gw=>
    obtain⟨g,want⟩:=gw
    simp only[hg]at h I
    exact h.1 I
  ·unfold vJ at h
   split at h
   ·split at h
    ·cases hc:nN P _<;>rw[hc]at h
     ·exact wK (l:=l) h.2 i hi o d U hd J I
     ·exact wK (l:=l) h i hi o d U hd J I
    ·exact wK (l:=l) h i hi o d U hd J I
   ·exact wK (l:=l) h i hi o d U hd J I
end
section
variable{R:Fr->Prop}{P:Program}{n:Nat}{D:List Deferred}{ops:List Oper}{e:DE}
theorem sL:∀(N:Nat) (l:List Nat),l.Nodup->(∀i∈l,i<N)->l.length<=N
 |0,[],_,_=>aY _
 |0,x::_,_,h=>by have:=h x aW;omega
 |N+1,l,j,h=>by
  have U:(l.erase N).length<=N:=sL N (l.erase N) (j.erase N) λi hi=>by
   have J:=h i (List.mem_of_mem_erase hi)
   have I:i≠N:=λe=>by subst e;exact(List.Nodup.not_mem_erase j) hi
   omega
  have o:=List.length_erase (a:=N) (l:=l)
  split at o<;>omega
theorem lt_of_some{k:Nat}{o:Oper}(h:ops[k]?=some o):k<ops.length:=by
 rcases nL k ops.length with j|j
 ·exact j
 ·rw[List.getElem?_eq_none j]at h;cases h
theorem vD{k:Nat}{o:Oper}(h:ops[k]?=some o):rC ops k=o.dst:=by simp[rC,h]
theorem Inv.float(hR:∀f o v,o∈ops->R f->R (upd f o.dst v))(hc:qR P n ops e=true){listed:Array Bool}{a:Act}{done pend:List Nat}{f:Fr}(I:Inv R P n D ops e listed a done pend f w){o:Oper}(hi:i∈e.fl)(hd:i∉done)(ho:ops[i]?=some o)(hb:∀x∈jV o,x∈done)
  (hv:(lY ops f o=true/\(execOp (ev f) o).run P w=.ok (.value v) w/\(nN P o.op=true->∀w',(execOp (ev f) o).run P w'=.ok (.value v) w'))\/(lY ops f o=false/\v=undef)):
  Inv R P n D ops e listed a (i::done) (i::pend) (upd f o.dst v) w:=by
 obtain⟨o',d,xa,hh,hkind,hq⟩:=CS hc hi;rw[ho]at xa;cases xa;have hself:d∉oM ops o:=λhm=>hd (Dh hc I.l5 i o ho hb i ((hq i o ho).2.1 hm));have hj:∀t,t≠d->upd f o.dst v t=f t:=λt ht=>by rw[hh,oQ,aJ ht]
 refine⟨hR _ _ _ (bI ho) I.fr,I.defers,I.size,I.lsize,λk J=>aE _ (I.l1 k J),?_,?_,?_,?_,I.l6⟩
 ·intro k J;rcases aX.1 J with rfl|J
  ·exact⟨lt_of_some ho,λ_=>⟨hi,aW⟩⟩
  ·exact⟨(I.l2 k J).1,λhl=>⟨((I.l2 k J).2 hl).1,aE _ ((I.l2 k J).2 hl).2⟩⟩
 ·intro t ht;have xf:t≠d:=λh=>by
   subst h;refine ht i aW ?_ (by rw[vD ho,hh]);cases hl:listed.getD i false with
   |false=>rfl
   |true=>exact absurd (I.l1 i hl) hd
  rw[hj t xf];exact I.l3 t λk J hl=>ht k (aE _ J) hl
 ·intro k J hl ok dk j hy;rcases aX.1 J with rfl|J
  ·rw[ho]at j;cases j;rw[hh]at hy;cases hy;have hsame:∀t∈oM ops o,f t=upd f o.dst v t:=λt ht=>(hj t (λh=>hself (h▸ht))).symm;have U:upd f o.dst v d=v:=by rw[hh,oQ,aO rfl]
   have hg:=(rO hc ho).2.1;have xj:execOp (ev f) o=execOp (ev (upd f o.dst v)) o:=AO hg (λx hx=>JH λt ht=>hsame t (Co (ht▸hx)));rcases hv with⟨h1,h2,h3⟩|⟨h1,h2⟩
   ·rw[xj]at h2 h3;rw[uK hsame]at h1;exact⟨.inl ⟨h1,by rw[U];exact h2⟩,λhp w'=>.inl ⟨h1,by rw[U];exact h3 hp w'⟩⟩
   ·rw[uK hsame]at h1;exact⟨.inr ⟨h1,by rw[U];exact h2⟩,λ_ _=>.inr ⟨h1,by rw[U];exact h2⟩⟩
  ·have xi:k≠i:=λh=>hd (h▸J);have xk:d∉oM ops ok:=λhm=>hd (Dh hc I.l5 k ok j (I.l5 k J ok j) i ((hq k ok j).2.1 hm));have xb:dk≠d:=λh=>(hq k ok j).1 xi (by rw[hy,h]);have hg:=(rO hc j).2.1;have h4:=I.l4 k J hl ok dk j hy;have hsame:∀t∈oM ops ok,f t=upd f o.dst v t:=λt ht=>(hj t (λh=>xk (h▸ht))).symm;exact⟨h4.1.same hg hsame (hj dk xb).symm,λhp w'=>(h4.2 hp w').same hg hsame (hj dk xb).symm⟩
 ·intro k J ok j x hx;rcases aX.1 J with rfl|J
  ·rw[ho]at j;cases j;exact aE _ (hb x hx)
  ·exact aE _ (I.l5 k J ok j x hx)
theorem AR[HX](hR:∀f o v,o∈ops->R f->R (upd f o.dst v))(U:qR P n ops e=true){K:Fr->World->Prop}{listed:Array Bool}{a:Act}{w:World}:∀(m:Nat) (done pend:List Nat) (f:Fr),
  Inv R P n D ops e listed a done pend f w->uD P ops e m done pend f w K->
  ∃m' done' pend' f',Inv R P n D ops e listed a done' pend' f' w/\uD P ops e (m'+1) done' pend' f' w K/\sM ops done' e.fl=none
 |0,_,_,_,_,h=>by cases h
 |m+1,done,pend,f,I,h=>by
  cases J:sM ops done e.fl with
  |none=>exact⟨m,done,pend,f,I,h,J⟩
  |some io=>
   obtain⟨i,o⟩:=io
   simp only[uD,J]at h
   obtain⟨h1,h2,h3,h4⟩:=wS J
   obtain⟨o',d,j,hg,hkind,_⟩:=CS U h1
   rw[h3]at j
   cases j
   obtain⟨v,hk,hv⟩:=LU hkind h
   exact AR hR U m _ _ _ (I.float hR U h1 h2 h3 h4 hv) hk
theorem yW{listed:Array Bool}(I:listed.size=ops.length):i∈Region.ready .any ops.toArray listed↔
  ∃o,ops[i]?=some o/\listed.getD i false=false/\∀x∈jV o,listed.getD x false=true:=by
 unfold Region.ready;simp only[mZ,lP,aC,bL,lR,List.getElem?_toArray];constructor
 ·rintro⟨h1,U,j⟩;have J:ops[i]?=some ops[i]:=List.getElem?_eq_getElem h1;rw[J]at j;simp only[aG,Option.getD_some,yH,fS,lR]at j;refine⟨_,J,?_,λx hx=>?_⟩
  ·simp only[kG]at U⊢;have:i<listed.size:=by rw[I];exact h1
   simpa[this]using U
  ·simp only[jV,lQ,mZ,Array.mem_toList_iff]at hx;obtain⟨ed,⟨hm,hb⟩,rfl⟩:=hx;rcases j ed hm with j|j
   ·rw[hb]at j;cases j
   ·exact j
 ·rintro⟨o,J,U,j⟩;have h1:=lt_of_some J;refine⟨h1,?_,?_⟩
  ·simp only[kG]at U⊢;have:i<listed.size:=by rw[I];exact h1
   simpa[this]using U
  ·rw[J];simp only[aG,Option.getD_some,yH,fS,lR];intro ed hm;cases hb:Region.binds .any ed with
   |false=>exact .inl rfl
   |true=>exact .inr (j _ (by simp only[jV,lQ,mZ,Array.mem_toList_iff];exact⟨ed,⟨hm,hb⟩,rfl⟩))
theorem nP(listed:Array Bool)(i k:Nat)(hi:i<listed.size):(listed.setIfInBounds i true).getD k false=(if k=i then true else listed.getD k false):=by
 simp only[kG,Array.getElem?_setIfInBounds];by_cases h:k=i
 ·subst h;simp[hi]
 ·rw[aJ h,aJ (jS h)]
theorem IH[HX](hR:∀f o v,o∈ops->R f->R (upd f o.dst v))(hc:qR P n ops e=true){Q:Exit->Act->World->Prop}{K:Fr->World->Prop}
  (hQ:∀f a w,Ag n D f a->R f->K f w->Q .normal a w)(hX:∀c f a w,a.defers=D->R f->(∀t,(∀o∈ops,o.dst≠some t)->a.tmps.getD t undef=f t)->HX.X c w->Q (.panic c) a w):∀(m:Nat) (listed:Array Bool) (a:Act) (done pend:List Nat) (f:Fr) (w:World) (k:Nat),
  Inv R P n D ops e listed a done pend f w->uD P ops e k done pend f w K->(∀l:List Nat,l.Nodup->(∀i∈l,i<ops.length/\listed.getD i false=false)->l.length<=m)->
  wpAny P .any ops.toArray Q m listed a w:=by
 have fin:∀(listed:Array Bool) (a:Act) (done pend:List Nat) (f:Fr) (w:World) (k:Nat),Inv R P n D ops e listed a done pend f w->uD P ops e k done pend f w K->
   (∀i,i<ops.length->listed.getD i false=true)->Q .normal a w:=by
  intro listed a done pend f w k I h hz;obtain⟨k',done',pend',f',I',h',hn⟩:=AR hR hc k done pend f I h;simp only[uD,hn]at h';have za:Ag n D f' a:=⟨I'.defers,I'.size,λt=>I'.l3 t λi hi hl=>by
   have:=hz i (I'.l2 i hi).1;rw[this]at hl;cases hl⟩
  cases he:AQ ops e.fl done' 0 ops with
  |nil=>rw[he]at h';exact hQ _ _ _ za I'.fr h'
  |cons x r=>
   have hx:x∈AQ ops e.fl done' 0 ops:=by rw[he];exact aW
   obtain⟨_,h2,h3,_⟩:=Hg ops 0 x hx;exact absurd (I'.l1 x.1 (hz x.1 (lt_of_some (by simpa using h2)))) h3
 have stop:∀(listed:Array Bool),listed.size=ops.length->Region.ready .any ops.toArray listed=[]->∀i,i<ops.length->listed.getD i false=true:=by
  intro listed yt hr i;induction i using Nat.strongRecOn with
  |_ i ih=>
   intro hi;cases hl:listed.getD i false with
   |true=>rfl
   |false=>
    have ho:ops[i]?=some ops[i]:=List.getElem?_eq_getElem hi;have:i∈Region.ready .any ops.toArray listed:=(yW yt).2 ⟨_,ho,hl,λx hx=>by
     have:=(rO hc ho).2.2.1 x hx;exact ih x this (by omega)⟩
    rw[hr]at this;cases this
 intro m;induction m with
 |zero=>
  intro listed a done pend f w k I h hcount;have hz:∀i,i<ops.length->listed.getD i false=true:=λi hi=>by
   cases hl:listed.getD i false with
   |true=>rfl
   |false=>have:=hcount [i] (by simp) (by intro j hj;rw[bR.1 hj];exact⟨hi,hl⟩);simp at this
  refine⟨?_,fin _ _ _ _ _ _ _ I h hz⟩;cases hr:Region.ready .any ops.toArray listed with
  |nil=>rfl
  |cons i r=>
   have:i∈Region.ready .any ops.toArray listed:=by rw[hr];exact aW
   obtain⟨o,ho,hl,_⟩:=(yW I.lsize).1 this;rw[hz i (lt_of_some ho)]at hl;cases hl
 |succ m ih=>
  intro listed a done pend f w k I h hcount;refine⟨λhr=>fin _ _ _ _ _ _ _ I h (stop listed I.lsize hr),λi hi=>?_⟩;obtain⟨o,ho,hl,hb⟩:=(yW I.lsize).1 hi;have xm:=lt_of_some ho;have hv:i<listed.size:=by rw[I.lsize];exact xm
  obtain⟨k',done',pend',f',I',h',hn⟩:=AR hR hc k done pend f I h;clear I h;have hagree:∀t∈oM ops o,a.tmps.getD t undef=f' t:=λt ht=>I'.l3 t λj hj J xb=>by
   obtain⟨xy,_⟩:=(I'.l2 j hj).2 J;obtain⟨oj,dj,hs,hq,_,hz⟩:=CS hc xy;rw[vD hs,hq]at xb;cases xb;have xj:=(hz i o ho).2.1 ht;have hlist:∀x∈e.anc.getD i [],listed.getD x false=true:=by
    have:=Dh hc (done:=(List.range ops.length).filter λx=>listed.getD x false) (λx hx ox xk y hy=>by
     simp only[mZ,lP]at hx⊢;exact⟨by have:=(rO hc xk).2.2.1 y hy;omega,I'.l6 x hx.2 ox xk y hy⟩) i o ho (λx hx=>by
     simp only[mZ,lP];exact⟨by have:=(rO hc ho).2.2.1 x hx;omega,hb x hx⟩)
    intro x hx;have:=this x hx;simp only[mZ]at this;exact this.2
   rw[hlist j xj]at J;cases J
  have yd:=(rO hc ho).2.1;have hwant:Region.wanted o (yielded ops.toArray a.tmps)=lY ops f' o:=Dz λg want d hg hd=>hagree d (Be hg hd);have hexec:execOp a.eval o=execOp (ev f') o:=AO yd λx hx=>Tx λt ht=>hagree t (Co (ht▸hx));have hcount':∀l:List Nat,l.Nodup->(∀j∈l,j<ops.length/\(listed.setIfInBounds i true).getD j false=false)->l.length<=m:=by
   intro l yx yh;have yi:i∉l:=λhm=>by
    have:=(yh i hm).2;rw[nP _ _ _ hv,aO rfl]at this;cases this
   have:=hcount (i::l) (dB.2 ⟨yi,yx⟩) (λj hj=>by
    rcases aX.1 hj with rfl|hj
    ·exact⟨xm,hl⟩
    ·have yw:j≠i:=λh=>yi (h▸hj);have:=yh j hj;rw[nP _ _ _ hv,aJ yw]at this;exact this)
   simpa using this
  have yg:∀j:Nat,(listed.setIfInBounds i true).getD j false=true->∀oj,ops[j]?=some oj->∀x∈jV oj,(listed.setIfInBounds i true).getD x false=true:=by
   intro j hj oj hs x hx;rw[nP _ _ _ hv];by_cases yb:x=i
   ·rw[aO yb]
   ·rw[aJ yb];rw[nP _ _ _ hv]at hj;by_cases U:j=i
    ·subst U;rw[ho]at hs;cases hs;exact hb x hx
    ·rw[aJ U]at hj;exact I'.l6 j hj oj hs x hx
  by_cases hdone:i∈done'
  ·
   obtain⟨yz,_⟩:=(I'.l2 i hdone).2 hl;obtain⟨o',d,ye,hq,_,hz⟩:=CS hc yz;rw[ho]at ye;cases ye;have xz:=(rO hc ho).1 d hq;have hI:Inv R P n D ops e (listed.setIfInBounds i true) (a.put o.dst (f' d)) done' pend' f' w:=by
    refine⟨I'.fr,by rw[put_defers];exact I'.defers,by rw[Cb];exact I'.size,by simp[I'.lsize],?_,?_,?_,?_,I'.l5,yg⟩
    ·intro j hj;rw[nP _ _ _ hv]at hj;by_cases U:j=i
     ·subst U;exact hdone
     ·rw[aJ U]at hj;exact I'.l1 j hj
    ·intro j hj;refine⟨(I'.l2 j hj).1,λJ=>?_⟩;rw[nP _ _ _ hv]at J;by_cases U:j=i
     ·rw[aO U]at J;cases J
     ·rw[aJ U]at J;exact(I'.l2 j hj).2 J
    ·intro t ht;rw[hq,Fa _ _ _ _ (by rw[I'.size];exact xz)];by_cases xc:t=d
     ·rw[aO xc,xc]
     ·rw[aJ xc];refine I'.l3 t λj hj J xb=>?_;by_cases U:j=i
      ·subst U;rw[vD ho,hq]at xb;cases xb;exact xc rfl
      ·exact ht j hj (by rw[nP _ _ _ hv,aJ U];exact J) xb
    ·intro j hj J;rw[nP _ _ _ hv]at J;by_cases U:j=i
     ·rw[aO U]at J;cases J
     ·rw[aJ U]at J;exact I'.l4 j hj J
   have hnext:=ih _ _ done' pend' f' w (k'+1) hI h' hcount';have hy:=(I'.l4 i hdone hl o d ho hq).1;unfold wpOp;simp only[List.getElem?_toArray,ho];rw[hwant];rcases hy with⟨h1,h2⟩|⟨h1,h2⟩
   ·rw[aO h1];refine .inl ?_;unfold Oper.wp;rw[hexec,h2];exact hnext
   ·rw[aJ (by rw[h1];simp),<-h2];exact hnext
  ·
   have ya:∀x∈jV o,x∈done':=λx hx=>I'.l1 x (hb x hx);have yu:i∉e.fl:=λhf=>tB hn i hf hdone o ho ya;have xi:(i,o)∈AQ ops e.fl done' 0 ops:=by
    have:=GJ (ops:=ops) (fl:=e.fl) (done:=done') ops 0 i o ho (by simpa using hdone) (by simpa using yu) ya;simpa using this
   simp only[uD,hn]at h';have xn:geW P ops f' o w λv w'=>vJ P ops (upd f' o.dst v) w' (uD P ops e k' (i::done') (wR (e.anc.getD i []) pend') (upd f' o.dst v) w' K) (wR (e.anc.getD i []) pend'):=by
    cases he:AQ ops e.fl done' 0 ops with
    |nil=>rw[he]at xi;cases xi
    |cons x r=>
     rw[he]at h' xi;exact Ez h' xi
   have xz:=(rO hc ho).1;have hlanc:∀x∈e.anc.getD i [],listed.getD x false=true:=by
    have:=Dh hc (done:=(List.range ops.length).filter λx=>listed.getD x false) (λx hx ox xk y hy=>by
     simp only[mZ,lP]at hx⊢;exact⟨by have:=(rO hc xk).2.2.1 y hy;omega,I'.l6 x hx.2 ox xk y hy⟩) i o ho (λx hx=>by
     simp only[mZ,lP];exact⟨by have:=(rO hc ho).2.2.1 x hx;omega,hb x hx⟩)
    intro x hx;have:=this x hx;simp only[mZ]at this;exact this.2
   have cont:∀v w',vJ P ops (upd f' o.dst v) w' (uD P ops e k' (i::done') (wR (e.anc.getD i []) pend') (upd f' o.dst v) w' K) (wR (e.anc.getD i []) pend')->
     wpAny P .any ops.toArray Q m (listed.setIfInBounds i true) (a.put o.dst v) w':=by
    intro v w' yc;refine ih _ _ (i::done') (wR (e.anc.getD i []) pend') (upd f' o.dst v) w' k' ?_ (tQ yc) hcount';have xt:∀j∈i::done',(listed.setIfInBounds i true).getD j false=false->j≠i/\j∈done'/\listed.getD j false=false:=by
     intro j hj J;rw[nP _ _ _ hv]at J;by_cases U:j=i
     ·rw[aO U]at J;cases J
     ·rw[aJ U]at J;exact⟨U,(aX.1 hj).resolve_left U,J⟩
    refine⟨hR _ _ _ (bI ho) I'.fr,by rw[put_defers];exact I'.defers,by rw[Cb];exact I'.size,by simp[I'.lsize],?_,?_,?_,?_,?_,yg⟩
    ·intro j hj;rw[nP _ _ _ hv]at hj;by_cases U:j=i
     ·subst U;exact aW
     ·rw[aJ U]at hj;exact aE _ (I'.l1 j hj)
    ·intro j hj;refine⟨?_,λJ=>?_⟩
     ·rcases aX.1 hj with rfl|hj
      ·exact xm
      ·exact(I'.l2 j hj).1
     ·obtain⟨U,xl,xe⟩:=xt j hj J;obtain⟨h1,h2⟩:=(I'.l2 j xl).2 xe;exact⟨h1,Ef h2 λhm=>by rw[hlanc j hm]at xe;cases xe⟩
    ·intro t ht;have h3:∀(h:∀d,o.dst=some d->t≠d),a.tmps.getD t undef=f' t:=λh=>I'.l3 t λj hj J xb=>by
      have U:j≠i:=λh'=>hdone (h'▸hj);exact ht j (aE _ hj) (by rw[nP _ _ _ hv,aJ U];exact J) xb
     cases hq:o.dst with
     |none=>rw[hq]at h3;exact h3 (λd hd=>by cases hd)
     |some d=>
      rw[Fa _ _ _ _ (by rw[I'.size];exact xz d hq),oQ];by_cases xc:t=d
      ·rw[aO xc,aO xc]
      ·rw[aJ xc,aJ xc];exact h3 (λd' yk=>by rw[hq]at yk;cases yk;exact xc)
    ·intro j hj J oj dj hs xb;obtain⟨U,xl,xe⟩:=xt j hj J;obtain⟨xy,yy⟩:=(I'.l2 j xl).2 xe;obtain⟨oj',dj',xu,xv,hkind,hz⟩:=CS hc xy;rw[hs]at xu;cases xu;rw[xb]at xv;cases xv;have hselj:=(rO hc hs).2.1;have xj:j∉e.anc.getD i []:=λhm=>by rw[hlanc j hm]at xe;cases xe
     have hfree:∀t,(t∈oM ops oj\/t=dj)->f' t=upd f' o.dst v t:=by
      intro t ht;cases hq:o.dst with
      |none=>rfl
      |some d=>
       rw[oQ];by_cases xc:t=d
       ·exfalso;subst xc;rcases ht with ht|ht
        ·rcases(hz i o ho).2.2 t hq ht with h1|⟨_,h1⟩
         ·exact hdone (Dh hc I'.l5 j oj hs (I'.l5 j xl oj hs) i h1)
         ·exact xj h1
        ·exact(hz i o ho).1 (jS U) (by rw[hq,ht])
       ·rw[aJ xc]
     obtain⟨yq,yp⟩:=I'.l4 j xl xe oj dj hs xb;have hpure:nN P oj.op=true->∀w',YY P ops (upd f' o.dst v) oj dj w':=λhp w'=>(yp hp w').same hselj (λt ht=>hfree t (.inl ht)) (hfree dj (.inr rfl));refine⟨?_,hpure⟩;cases hp:nN P oj.op with
     |true=>exact hpure hp w'
     |false=>
      cases xp:lY ops (upd f' o.dst v) oj with
      |true=>
       have:=wK yc j (Ef yy xj) oj dj hs xb hp xp;obtain⟨x,rfl,hr⟩:=yS this;exact .inl ⟨xp,hr⟩
      |false=>
       refine .inr ⟨xp,?_⟩;have ys:lY ops f' oj=false:=by rw[uK (λt ht=>hfree t (.inl ht))];exact xp
       rcases yq with⟨h1,_⟩|⟨_,h1⟩
       ·rw[ys]at h1;cases h1
       ·rw[<-hfree dj (.inr rfl)];exact h1
    ·intro j hj oj hs x hx;rcases aX.1 hj with rfl|hj
     ·rw[ho]at hs;cases hs;exact aE _ (ya x hx)
     ·exact aE _ (I'.l5 j hj oj hs x hx)
   unfold wpOp;simp only[List.getElem?_toArray,ho];rw[hwant];unfold geW at xn;unfold lY;have yr:∀c w,HX.X c w->Q (.panic c) a w:=λc w hx=>hX c f' a w I'.defers I'.fr (λt ht=>I'.l3 t λj hj _ xb=>by
    obtain⟨oj,hs⟩:∃oj,ops[j]?=some oj:=⟨_,List.getElem?_eq_getElem (I'.l2 j hj).1⟩;rw[vD hs]at xb;exact ht oj (bI hs) xb) hx
   have act:∀{K':Value->World->Prop},(∀v w',K' v w'->wpAny P .any ops.toArray Q m (listed.setIfInBounds i true) (a.put o.dst v) w')->FL P f' o w K'->
     o.wp P a w (wpAny P .any ops.toArray Q m (listed.setIfInBounds i true)) Q:=by
    intro K' hk ha;unfold Oper.wp;rw[hexec];exact(EI ha).upon hk yr
   cases hg:o.guard with
   |none=>
    simp only[hg]at xn;exact .inl (act cont xn)
   |some gw=>
    obtain⟨g,want⟩:=gw;simp only[hg]at xn;obtain⟨h1,h2⟩:=xn;cases xq:yv ops f' g want with
    |true=>simp only[xq,pH];exact .inl (act cont (h1 xq))
    |false=>simp only[xq,oH,rN];exact cont _ _ (h2 xq)
theorem Gp[HX]{id:Nat}(hR:∀f o v,o∈ops->R f->R (upd f o.dst v))(J:P.follows .mixedOrders=true)(U:qR P n ops e=true){Q:Exit->Act->World->Prop}{K:Fr->World->Prop}{f:Fr}{a:Act}{k:Nat}
  (hQ:∀f a w,Ag n D f a->R f->K f w->Q .normal a w)(hX:∀c f a w,a.defers=D->R f->(∀t,(∀o∈ops,o.dst≠some t)->a.tmps.getD t undef=f t)->HX.X c w->Q (.panic c) a w)(I:Ag n D f a)(hf:R f)(h:uD P ops e k [] [] f w.drew K):(Code.region id ops.toArray true).wp P Q a w:=by
 refine wp_region_any J ?_;have hfalse:∀i:Nat,(Array.replicate ops.length false).getD i false=false:=λi=>by
  simp only[kG,Array.getElem?_replicate];split<;>rfl
 refine IH hR U hQ hX _ _ a [] [] f _ k ⟨hf,I.1,I.2.1,by simp,?_,?_,?_,?_,?_,?_⟩ h ?_
 ·intro i hi;rw[show ops.toArray.size=ops.length from by simp,hfalse]at hi;cases hi
 ·intro i hi;cases hi
 ·intro t _;exact I.2.2 t
 ·intro i hi;cases hi
 ·intro i hi;cases hi
 ·intro i hi;rw[show ops.toArray.size=ops.length from by simp,hfalse]at hi;cases hi
 ·intro l j hl;have:l.length<=ops.length:=by
   exact sL _ l j λi hi=>(hl i hi).1
  simpa using this
end
structure PE where
 C:List Nat
 V:List Nat
 lo:Nat
structure eH where
 js:List (Nat×PE)
 ds:List (Nat×DE)
def lk{α:Type}:List (Nat×α)->Nat->Option α
 |[],_=>none
 |(k,e)::r,i=>bif Nat.beq k i then some e else lk r i
def inS(V:List Nat)(lo t:Nat):Bool:=bif Nat.ble lo t then true else pG V t
def ovl:List Nat->Nat->List Value->Fr->Fr
 |[],_,_,f=>f
 |c::C,k,s,f=>λj=>bif Nat.beq j c then s.getD k undef else ovl C (k+1) s f j
def ovf(e:PE)(f:Fr)(s:List Value)(g:Fr):Fr:=ovl e.C 0 s (λj=>bif inS e.V e.lo j then g j else f j)
def cX(A:(List Value->World->Prop)->Prop)(B:List Value->Fr->World->Prop):Prop:=
 ∃J:List Value->World->Prop,A J/\∀s g w,J s w->B s g w
def GdW(c:Bool)(u:List Value)(w:World)(A:(List Value->World->Prop)->Prop)(B:List Value->Fr->World->Prop):Prop:=
 ∃J:List Value->World->Prop,(c=true->A J)/\(c=false->J u w)/\∀s g w',J s w'->B s g w'
def eJ(s0:List Value)(w0:World)(B:List Value->Fr->World->(List Value->World->Prop)->Prop):Prop:=
 ∃(I:List Value->World->Prop) (μ:List Value->World->Nat),I s0 w0/\∀s g w,I s w->B s g w (λs' w'=>I s' w'/\μ s' w'<μ s w)
def bB(v:Value)(A B:Prop):Prop:=match v with|.bool t=>(t=true->A)/\(t=false->B)|_=>False
def gEq:Option (Nat×Bool)->Nat->Bool->Bool
 |some (g',w'),g,w=>bif Nat.beq g g' then w==w' else false
 |none,_,_=>false
def yO(g:Nat)(want:Bool):List Oper->List Oper
 |[]=>[]
 |o::r=>bif gEq o.guard g want then o::yO g want r else []
def AF(g:Nat)(want:Bool):List Oper->List Oper
 |[]=>[]
 |o::r=>bif gEq o.guard g want then AF g want r else o::r
def Vi[HX](P:Program):List Oper->Fr->World->(Fr->World->Prop)->Prop
 |[],f,w,K=>K f w
 |o::r,f,w,K=>FL P f o w λv w'=>Vi P r (upd f o.dst v) w' K
def BR:List Oper->Fr->Fr
 |[],f=>f
 |o::r,f=>BR r (upd f o.dst undef)
def MN(i k:Nat):Nat:=i*1000+k
def Mh[HX](P:Program)(pl:eH)(i:Nat)(ops:List Oper):Nat->List Oper->Fr->World->(Fr->World->Prop)->Prop
 |0,_,_,_,_=>False
 |_+1,[],f,w,K=>K f w
 |n+1,o::r,f,w,K=>
  match o.guard with
  |none=>FL P f o w λv w'=>Mh P pl i ops n r (upd f o.dst v) w' K
  |some (g,want)=>
   match lk pl.js (MN i (o::r).length)with
   |some e=>GdW (yv ops f g want) (e.C.map (BR (yO g want (o::r)) f)) w (λJ=>Vi P (yO g want (o::r)) f w λf' w'=>J (e.C.map f') w')
     λs h w'=>Mh P pl i ops n (AF g want (o::r)) (ovf e f s h) w' K
   |none=>False
def tA:Code->Nat
 |.seq a b=>tA a+tA b+1
 |.cond _ a b=>tA a+tA b+1
 |.block _ b=>tA b+1
 |.loop b=>tA b+1
 |.scope b=>tA b+1
 |_=>1
def pO[HX](P:Program)(pl:eH):Code->Nat->Fr->World->(Fr->World->Prop)->(Nat->Fr->World->Prop)->(Fr->World->Prop)->Prop
 |.skip,_,f,w,kn,_,_=>kn f w
 |.label _,_,f,w,kn,_,_=>kn f w
 |.region _ ops draw,i,f,w,kn,_,_=>
  bif draw then(match lk pl.ds i with|some e=>uD P ops.toList e (ops.toList.length+1) [] [] f w.drew kn|none=>False)
  else Mh P pl i ops.toList (ops.toList.length+1) ops.toList f w kn
 |.seq a b,i,f,w,kn,kx,kr=>
  match lk pl.js i with
  |none=>pO P pl a (i+1) f w (λf' w'=>pO P pl b (i+1+tA a) f' w' kn kx kr) kx kr
  |some e=>cX (λJ=>pO P pl a (i+1) f w (λf' w'=>J (e.C.map f') w') kx kr) λs g w'=>pO P pl b (i+1+tA a) (ovf e f s g) w' kn kx kr
 |.cond c a b,i,f,w,kn,kx,kr=>bB (ev f c) (pO P pl a (i+1) f w kn kx kr) (pO P pl b (i+1+tA a) f w kn kx kr)
 |.block id b,i,f,w,kn,kx,kr=>pO P pl b (i+1) f w kn (λj f' w'=>bif Nat.beq j id then kn f' w' else kx j f' w') kr
 |.loop b,i,f,w,_,kx,kr=>
  match lk pl.js i with
  |none=>False
  |some e=>eJ (e.C.map f) w λs g w' again=>pO P pl b (i+1) (ovf e f s g) w' (λf' w''=>again (e.C.map f') w'') kx kr
 |.scope b,i,f,w,kn,kx,kr=>pO P pl b (i+1) f w kn kx kr
 |.exit id,_,f,w,_,kx,_=>kx id f w
 |.ret,_,f,w,_,_,kr=>kr f w
 |_,_,_,_,_,_,_=>False
def Hq(V:List Nat)(lo:Nat)(e:PE):Bool:=Nat.ble lo e.lo&&e.V.all (inS V lo)&&e.C.all (inS e.V e.lo)
def yR(V:List Nat)(lo:Nat)(o:Oper):Bool:=match o.dst with|some d=>inS V lo d|none=>true
def Hh(n:Nat)(o:Oper):Bool:=match o.dst with|some d=>Nat.blt d n|none=>true
def oD(pl:eH)(V:List Nat)(lo:Nat)(i:Nat)(ops:List Oper):List Oper->Bool
 |[]=>true
 |o::r=>(match o.guard with
  |none=>true
  |some (g,want)=>(match lk pl.js (MN i (o::r).length)with
   |some e=>Hq V lo e&&(yO g want (o::r)).all λx=>yR e.V e.lo x&&(match x.dst,rC ops g with|some d,some dg=> !(Nat.beq d dg)|_,_=>true)
   |none=>true))&&oD pl V lo i ops r
def chk(P:Program)(n:Nat)(pl:eH)(V:List Nat)(lo:Nat):Code->Nat->Bool
 |.region _ ops draw,i=>ops.toList.all (λo=>yR V lo o&&Hh n o)&&
  (bif draw then(match lk pl.ds i with|some e=>qR P n ops.toList e|none=>true)else oD pl V lo i ops.toList ops.toList)
 |.seq a b,i=>(match lk pl.js i with|none=>chk P n pl V lo a (i+1)|some e=>Hq V lo e&&chk P n pl e.V e.lo a (i+1))&&chk P n pl V lo b (i+1+tA a)
 |.cond _ a b,i=>chk P n pl V lo a (i+1)&&chk P n pl V lo b (i+1+tA a)
 |.block _ b,i=>chk P n pl V lo b (i+1)
 |.scope b,i=>chk P n pl V lo b (i+1)
 |.loop b,i=>(match lk pl.js i with|none=>true|some e=>Hq V lo e&&chk P n pl e.V e.lo b (i+1))
 |_,_=>true
def Same(V:List Nat)(lo:Nat)(f f':Fr):Prop:=∀t,inS V lo t=false->f' t=f t
theorem Same.refl(V:List Nat)(lo:Nat)(f:Fr):Same V lo f f:=λ_ _=>rfl
theorem Same.trans{V:List Nat}{lo:Nat}{f g h:Fr}(I:Same V lo f g)(o:Same V lo g h):Same V lo f h:=λt j=>(o t j).trans (I t j)
theorem Jy{V:List Nat}{lo t:Nat}:inS V lo t=true↔lo<=t\/t∈V:=by
 unfold inS;cases h:Nat.ble lo t with
 |true=>simp[lA h]
 |false=>
  have:¬lo<=t:=λj=>by rw[Nat.ble_eq_true_of_le j]at h;cases h
  simp[this,kY]
theorem AT{V:List Nat}{lo:Nat}{e:PE}(h:Hq V lo e=true):(∀t,inS e.V e.lo t=true->inS V lo t=true)/\∀c∈e.C,inS e.V e.lo c=true:=by
 simp only[Hq,bL,gI]at h;refine⟨λt o=>?_,h.2⟩;rcases Jy.1 o with j|j
 ·exact Jy.2 (.inl (dI (lA h.1.1) j))
 ·exact h.1.2 t j
theorem Same.wider{V V':List Nat}{lo lo':Nat}{f f':Fr}(o:∀t,inS V lo t=true->inS V' lo' t=true)(h:Same V lo f f'):Same V' lo' f f':=λt j=>h t (by
 cases hi:inS V lo t with
 |false=>rfl
 |true=>rw[o t hi]at j;cases j)
theorem Jm(f':Fr):∀(C:List Nat) (k:Nat) (s:List Value) (f:Fr) (t:Nat),(∀j,j<C.length->s.getD (k+j) undef=f' (C.getD j 0))->(t∉C->f t=f' t)->ovl C k s f t=f' t
 |[],_,_,_,_,_,h=>h (by simp)
 |c::C,k,s,f,t,I,h=>by
  simp only[ovl]
  cases hb:Nat.beq t c with
  |true=>
   have:=I 0 (by simp)
   simp only[aQ]
   rw[kE hb]
   simpa using this
  |false=>
   simp only[aM]
   have o:t≠c:=λe=>by subst e;simp at hb
   refine Jm f' C (k+1) s f t (λj U=>?_) λJ=>h (by simp[o,J])
   have:=I (j+1) (by simp;omega)
   rw[show k+1+j=k+(j+1)by omega,this]
   rfl
theorem zY{e:PE}{f f':Fr}(h:Same e.V e.lo f f'):ovf e f (e.C.map f') f'=f':=by
 funext t;refine Jm f' e.C 0 _ _ t (λj o=>?_) λ_=>?_
 ·simp[o]
 ·cases hi:inS e.V e.lo t with
  |true=>simp[hi]
  |false=>simp[hi,h t hi]
theorem Same.upd{V:List Nat}{lo:Nat}{f:Fr}{o:Oper}(h:yR V lo o=true)(v:Value):Same V lo f (upd f o.dst v):=by
 intro t j;unfold yR at h;cases hd:o.dst with
 |none=>rfl
 |some d=>
  rw[hd]at h;rw[oQ,aJ];intro e;subst e;have h:inS V lo t=true:=h;rw[h]at j;cases j
theorem CM{o:Oper}(h:Hh n o=true):∀t,o.dst=some t->t<n:=by
 intro t j;rw[Hh,j]at h;exact lA h
theorem MV{x:Option (Nat×Bool)}{g:Nat}{w:Bool}(h:gEq x g w=true):x=some (g,w):=by
 cases x with
 |none=>cases h
 |some p=>
  obtain⟨g',w'⟩:=p;simp only[gEq]at h;cases hb:Nat.beq g g' with
  |false=>rw[hb]at h;cases h
  |true=>
   rw[hb]at h;simp only[aQ,gR]at h;rw[kE hb,h]
theorem Ep(g:Nat)(want:Bool):∀l:List Oper,l=yO g want l++AF g want l/\∀o∈yO g want l,o.guard=some (g,want)
 |[]=>⟨rfl,by simp[yO]⟩
 |o::r=>by
  simp only[yO,AF]
  cases h:gEq o.guard g want with
  |false=>simp
  |true=>
   obtain⟨J,I⟩:=Ep g want r
   refine⟨by simp only[aQ,gH];rw[<-J],λx j=>?_⟩
   simp only[aQ,aX]at j
   rcases j with rfl|j
   ·exact MV h
   ·exact I x j
section
variable [HX]{P:Program}{n:Nat}{D:List Deferred}{ops:List Oper}{Q:Exit->Act->World->Prop}{V:List Nat}{lo:Nat}
def PX[HX](V:List Nat)(lo:Nat)(D:List Deferred)(Q:Exit->Act->World->Prop)(f:Fr):Prop:=
 ∀c a w,a.defers=D->(∀t,inS V lo t=false->a.tmps.getD t undef=f t)->HX.X c w->Q (.panic c) a w
theorem PX.same{f f':Fr}(h:PX V lo D Q f)(J:Same V lo f f'):PX V lo D Q f':=λc a w hd I o=>h c a w hd (λt j=>(I t j).trans (J t j)) o
theorem PX.sub{V':List Nat}{lo':Nat}{f:Fr}(h:PX V lo D Q f)(J:∀t,inS V' lo' t=true->inS V lo t=true):PX V' lo' D Q f:=λc a w hd I o=>h c a w hd (λt j=>I t (by
 cases U:inS V' lo' t with
 |false=>rfl
 |true=>rw[J t U]at j;cases j)) o
theorem PX.ag{f:Fr}{a:Act}(h:PX V lo D Q f)(j:Ag n D f a):∀c w,HX.X c w->Q (.panic c) a w:=λc w o=>h c a w j.1 (λt _=>j.2.2 t) o
theorem zI{f:Fr}{a:Act}{o:Oper}(h:Ag n D f a):Region.wanted o (yielded ops.toArray a.tmps)=lY ops f o:=Dz λ_ _ d _ _=>h.2.2 d
theorem Fe{f:Fr}{a:Act}{o:Oper}{rest:List Oper}(j:Ag n D f a)(J:lY ops f o=true)(h:FL P f o w K)
  (U:∀v w',K v w'->wpList P ops.toArray Q rest (a.put o.dst v) w')(I:∀c w,HX.X c w->Q (.panic c) a w):wpList P ops.toArray Q (o::rest) a w:=by
 unfold wpList;rw[aO (by rw[zI j];exact J)];refine .inl ?_;unfold Oper.wp;rw[wZ j];exact(EI h).upon U I
theorem Qd{f:Fr}{a:Act}{o:Oper}{rest:List Oper}(j:Ag n D f a)(I:lY ops f o=false)
  (J:wpList P ops.toArray Q rest (a.put o.dst undef) w):wpList P ops.toArray Q (o::rest) a w:=by
 unfold wpList;rw[aJ (by rw[zI j,I];simp)];exact J
theorem Li{f:Fr}{g:Nat}{want:Bool}{o:Oper}(h:∀d dg,o.dst=some d->rC ops g=some dg->d≠dg):yv ops (upd f o.dst v) g want=yv ops f g want:=by
 unfold yv;cases j:rC ops g with
 |none=>rfl
 |some dg=>
  cases hd:o.dst with
  |none=>rfl
  |some d=>simp only;rw[oQ,aJ (jS (h d dg hd j))]
theorem Cf{g:Nat}{want:Bool}:∀(grp rest:List Oper) (f:Fr) (a:Act) (w:World) (K:Fr->World->Prop),(∀o∈grp,o.guard=some (g,want))->
  (∀o∈grp,yR V lo o=true/\(∀t,o.dst=some t->t<n)/\∀d dg,o.dst=some d->rC ops g=some dg->d≠dg)->Ag n D f a->yv ops f g want=true->Vi P grp f w K->
  (∀f' a' w',Ag n D f' a'->Same V lo f f'->K f' w'->wpList P ops.toArray Q rest a' w')->PX V lo D Q f->wpList P ops.toArray Q (grp++rest) a w
 |[],rest,f,a,w,K,_,_,j,_,h,U,_=>U f a w j (Same.refl _ _ _) h
 |o::grp,rest,f,a,w,K,hg,hd,j,hy,h,U,hX=>by
  obtain⟨h1,h2,h3⟩:=hd o aW
  refine Fe j (by simp only[lY,hg o aW];exact hy) h (λv w' h'=>?_) (hX.ag j)
  refine Cf grp rest (upd f o.dst v) (a.put o.dst v) w' K (λx J=>hg x (aE _ J)) (λx J=>hd x (aE _ J)) (j.put h2 v) (by rw[Li h3];exact hy) h' ?_ (hX.same (Same.upd h1 v))
  exactλf' a' w'' I hs hK=>U f' a' w'' I (Same.trans (Same.upd h1 v) hs) hK
theorem zL{g:Nat}{want:Bool}:∀(grp rest:List Oper) (f:Fr) (a:Act) (w:World),(∀o∈grp,o.guard=some (g,want))->
  (∀o∈grp,yR V lo o=true/\(∀t,o.dst=some t->t<n)/\∀d dg,o.dst=some d->rC ops g=some dg->d≠dg)->Ag n D f a->yv ops f g want=false->
  (∀a',Ag n D (BR grp f) a'->Same V lo f (BR grp f)->wpList P ops.toArray Q rest a' w)->wpList P ops.toArray Q (grp++rest) a w
 |[],rest,f,a,w,_,_,j,_,U=>U a j (Same.refl _ _ _)
 |o::grp,rest,f,a,w,hg,hd,j,hy,U=>by
  obtain⟨h1,h2,h3⟩:=hd o aW
  refine Qd j (by simp only[lY,hg o aW];exact hy) ?_
  refine zL grp rest (upd f o.dst undef) (a.put o.dst undef) w (λx J=>hg x (aE _ J)) (λx J=>hd x (aE _ J)) (j.put h2 undef) (by rw[Li h3];exact hy) ?_
  exactλa' I hs=>U a' I (Same.trans (Same.upd h1 undef) hs)
theorem xF{pl:eH}{i:Nat}:∀(x y:List Oper),oD pl V lo i ops (x++y)=true->oD pl V lo i ops y=true
 |[],_,h=>h
 |o::x,y,h=>by
  simp only[gH,oD,bL]at h
  exact xF x y h.2
theorem uT{pl:eH}{i:Nat}{K:Fr->World->Prop}:∀(m:Nat) (l:List Oper) (f:Fr) (a:Act) (w:World),(∀o∈l,yR V lo o=true/\Hh n o=true)->oD pl V lo i ops l=true->
  Ag n D f a->Mh P pl i ops m l f w K->(∀f' a' w',Ag n D f' a'->Same V lo f f'->K f' w'->Q .normal a' w')->PX V lo D Q f->wpList P ops.toArray Q l a w
 |0,_,_,_,_,_,_,_,h,_,_=>by cases h
 |m+1,[],f,a,w,_,_,hh,h,hQ,_=>hQ f a w hh (Same.refl _ _ _) h
 |m+1,o::r,f,a,w,hd,hc,hh,h,hQ,hX=>by
  unfold Mh at h
  cases hg:o.guard with
  |none=>
   simp only[hg]at h
   have hk:=hd o aW
   refine Fe hh (by simp[lY,hg]) h (λv w' h'=>?_) (hX.ag hh)
   simp only[oD,bL]at hc
   refine uT m r _ _ w' (λx hx=>hd x (aE _ hx)) hc.2 (hh.put (CM hk.2) v) h' ?_ (hX.same (Same.upd hk.1 v))
   exactλf' a' w'' I hs hK=>hQ f' a' w'' I (Same.trans (Same.upd hk.1 v) hs) hK
  |some gw=>
   obtain⟨g,want⟩:=gw
   simp only[hg]at h
   cases he:lk pl.js (MN i (o::r).length)with
   |none=>simp only[he]at h
   |some e=>
    simp only[he]at h
    obtain⟨J,hT,hF,hB⟩:=h
    obtain⟨hsplit,hr⟩:=Ep g want (o::r)
    have xb:=hc
    simp only[oD,hg,he,bL,gI]at hc
    obtain⟨⟨xj,ht⟩,xp⟩:=hc
    obtain⟨j,hC⟩:=AT xj
    have hv:∀x∈yO g want (o::r),yR e.V e.lo x=true/\(∀t,x.dst=some t->t<n)/\∀d dg,x.dst=some d->rC ops g=some dg->d≠dg:=by
     intro x hx;have h1:=ht x hx;refine⟨h1.1,CM (hd x (by rw[hsplit];exact bS _ hx)).2,λd dg xi xm xk=>?_⟩;have h2:=h1.2;simp only[xi,xm,xk]at h2;simp at h2
    have xa:oD pl V lo i ops (AF g want (o::r))=true:=by
     rw[hsplit]at xb;exact xF _ _ xb
    have hz:∀x∈AF g want (o::r),yR V lo x=true/\Hh n x=true:=λx hx=>hd x (by rw[hsplit];exact bF _ hx);rw[hsplit];cases hy:yv ops f g want with
    |true=>
     refine Cf (V:=e.V) (lo:=e.lo) _ _ f a w _ hr hv hh hy (hT hy) (λf' a' w' I hs hJ=>?_) (hX.sub j);have h':=hB _ f' _ hJ;simp only[zY hs]at h';refine uT m _ f' a' w' hz xa I h' ?_ (hX.same (Same.wider j hs));exactλf'' a'' w'' U hj hK=>hQ f'' a'' w'' U (Same.trans (Same.wider j hs) hj) hK
    |false=>
     refine zL (V:=e.V) (lo:=e.lo) _ _ f a w hr hv hh hy λa' I hs=>?_;have h':=hB _ (BR (yO g want (o::r)) f) _ (hF hy);simp only[zY hs]at h';refine uT m _ _ a' w hz xa I h' ?_ (hX.same (Same.wider j hs));exactλf'' a'' w'' U hj hK=>hQ f'' a'' w'' U (Same.trans (Same.wider j hs) hj) hK
end
section
variable [HX]{P:Program}{n:Nat}{D:List Deferred}{pl:eH}
theorem tG(hm:P.follows .mixedOrders=true):∀(c:Code) (V:List Nat) (lo i:Nat) (f:Fr) (a:Act) (w:World) (kn:Fr->World->Prop) (kx:Nat->Fr->World->Prop) (kr:Fr->World->Prop) (Q:Exit->Act->World->Prop),
  chk P n pl V lo c i=true->Ag n D f a->pO P pl c i f w kn kx kr->
  (∀f' a' w',Ag n D f' a'->Same V lo f f'->kn f' w'->Q .normal a' w')->(∀j f' a' w',Ag n D f' a'->Same V lo f f'->kx j f' w'->Q (.exit j) a' w')->
  (∀f' a' w',Ag n D f' a'->Same V lo f f'->kr f' w'->Q .ret a' w')->PX V lo D Q f->c.wp P Q a w:=by
 intro c;induction c with
 |skip=>intro V lo i f a w kn kx kr Q _ hh h hn _ _ _;exact wp_skip (hn f a w hh (Same.refl _ _ _) h)
 |label l=>intro V lo i f a w kn kx kr Q _ hh h hn _ _ _;exact wp_label (hn f a w hh (Same.refl _ _ _) h)
 |exit id=>intro V lo i f a w kn kx kr Q _ hh h _ hx _ _;exact wp_exit (hx id f a w hh (Same.refl _ _ _) h)
 |ret=>intro V lo i f a w kn kx kr Q _ hh h _ _ hr _;exact wp_ret (hr f a w hh (Same.refl _ _ _) h)
 |goto l=>intro V lo i f a w kn kx kr Q _ _ h _ _ _ _;exact h.elim
 |refuse l=>intro V lo i f a w kn kx kr Q _ _ h _ _ _ _;exact h.elim
 |scope b ih=>
  intro V lo i f a w kn kx kr Q hc hh h hn hx hr hX;simp only[chk]at hc;simp only[pO]at h;refine wp_scope_straight ?_;exact ih V lo _ f a w kn kx kr _ hc hh h hn hx hr hX
 |rangeFunc f' ps az b=>intro V lo i f a w kn kx kr Q _ _ h _ _ _ _;exact h.elim
 |region id ops draw=>
  intro V lo i f a w kn kx kr Q hc hh h hn _ _ hX;simp only[chk,bL,gI]at hc;simp only[pO]at h;cases draw with
  |false=>
   simp only[aM]at h hc;refine wp_region_list ?_;have:=uT (ops:=ops.toList) (Q:=Q) (n:=n) (V:=V) (lo:=lo) _ _ f a w hc.1 hc.2 hh h hn hX;simpa using this
  |true=>
   simp only[aQ]at h hc;cases he:lk pl.ds i with
   |none=>simp only[he]at h
   |some e=>
    simp only[he]at h hc;have:=Gp (R:=Same V lo f) (id:=id) (Q:=Q) (K:=kn) (λf' o v ho hs=>Same.trans hs (Same.upd (hc.1 o ho).1 v)) hm hc.2
     (λf' a' w' hg hs hk=>hn f' a' w' hg hs hk) (λc f' a' w' hd hs ht hx=>hX c a' w' hd (λt hn=>(ht t λo ho he=>by
       have:=(hc.1 o ho).1;simp only[yR,he]at this;rw[this]at hn;cases hn).trans (hs t hn)) hx) hh (Same.refl _ _ _) h
    simpa using this
 |seq x y ihx ihy=>
  intro V lo i f a w kn kx kr Q hc hh h hn hx hr hX;simp only[chk,bL]at hc;simp only[pO]at h;refine wp_seq ?_;cases he:lk pl.js i with
  |none=>
   simp only[he]at h hc;refine ihx V lo (i+1) f a w _ kx kr _ hc.1 hh h ?_ hx hr hX;intro f' a' w' hg hs h';exact ihy V lo _ f' a' w' kn kx kr Q hc.2 hg h' (λf'' a'' w'' U hi hk=>hn f'' a'' w'' U (hs.trans hi) hk)
    (λj f'' a'' w'' U hi hk=>hx j f'' a'' w'' U (hs.trans hi) hk) (λf'' a'' w'' U hi hk=>hr f'' a'' w'' U (hs.trans hi) hk) (hX.same hs)
  |some e=>
   simp only[he,bL]at h hc;obtain⟨hz,hC⟩:=AT hc.1.1;obtain⟨J,hA,hB⟩:=h;refine ihx e.V e.lo (i+1) f a w _ kx kr _ hc.1.2 hh hA ?_ (λj f' a' w' hg hs hk=>hx j f' a' w' hg (hs.wider hz) hk) (λf' a' w' hg hs hk=>hr f' a' w' hg (hs.wider hz) hk) (hX.sub hz);intro f' a' w' hg hs hJ;have h':=hB _ f' _ hJ;simp only[zY hs]at h';have xg:=hs.wider hz;exact ihy V lo _ f' a' w' kn kx kr Q hc.2 hg h' (λf'' a'' w'' U hi hk=>hn f'' a'' w'' U (xg.trans hi) hk)
    (λj f'' a'' w'' U hi hk=>hx j f'' a'' w'' U (xg.trans hi) hk) (λf'' a'' w'' U hi hk=>hr f'' a'' w'' U (xg.trans hi) hk) (hX.same xg)
 |cond c x y ihx ihy=>
  intro V lo i f a w kn kx kr Q hc hh h hn hx hr hX;simp only[chk,bL]at hc;simp only[pO]at h;have he:a.eval c=ev f c:=congrFun (wZ hh) c;cases hv:ev f c<;>rw[hv]at h<;>simp only[bB]at h<;>try exact h.elim
  rename_i t;refine wp_cond_split (he.trans hv) (λht=>?_) (λht=>?_)
  ·exact ihx V lo _ f a w kn kx kr Q hc.1 hh (h.1 ht) hn hx hr hX
  ·exact ihy V lo _ f a w kn kx kr Q hc.2 hh (h.2 ht) hn hx hr hX
 |block id b ih=>
  intro V lo i f a w kn kx kr Q hc hh h hn hx hr hX;simp only[chk]at hc;simp only[pO]at h;refine wp_block ?_;refine ih V lo _ f a w kn _ kr _ hc hh h hn ?_ hr hX;intro j f' a' w' hg hs hk;simp only[Exit.inBlock];cases hj:Nat.beq j id with
  |true=>
   rw[hj]at hk;rw[aO (kE hj)];exact hn f' a' w' hg hs hk
  |false=>
   rw[hj]at hk;rw[aJ (λe=>by subst e;simp at hj)];exact hx j f' a' w' hg hs hk
 |loop b ih=>
  intro V lo i f a w kn kx kr Q hc hh h hn hx hr hX;simp only[chk]at hc;simp only[pO]at h;cases he:lk pl.js i with
  |none=>simp only[he]at h
  |some e=>
   simp only[he,bL]at h hc;obtain⟨hz,hC⟩:=AT hc.1;obtain⟨I,μ,h0,hround⟩:=h;refine wp_loop (λa' w'=>∃f',Ag n D f' a'/\Same e.V e.lo f f'/\I (e.C.map f') w') (λa' w'=>μ (e.C.map λt=>a'.tmps.getD t undef) w') ⟨f,hh,Same.refl _ _ _,h0⟩ ?_;rintro a' w' ⟨f',hg,hs,hI⟩;have h':=hround _ f' _ hI;simp only[zY hs]at h';have xk:(λt=>a'.tmps.getD t undef)=f':=funext hg.2.2;refine ih e.V e.lo _ f' a' w' _ kx kr _ hc.2 hg h' ?_ (λj f'' a'' w'' U hi hk=>hx j f'' a'' w'' U ((hs.trans hi).wider hz) hk)
    (λf'' a'' w'' U hi hk=>hr f'' a'' w'' U ((hs.trans hi).wider hz) hk) ((hX.sub hz).same hs)
   intro f'' a'' w'' U hi hk;have xh:(λt=>a''.tmps.getD t undef)=f'':=funext U.2.2;refine⟨⟨f'',U,hs.trans hi,hk.1⟩,?_⟩;rw[xk,xh];exact hk.2
def Bv(P:Program):List ResultVar->Fr->World->(List Value->Prop)->Prop
 |[],_,_,K=>K []
 |.tmp t::r,f,w,K=>Bv P r f w λl=>K (f t::l)
 |.cell a T::r,f,w,K=>mK (P.underlying T).isSome (ldW (tL P T) (lK P T) (f a) w λv=>Bv P r f w λl=>K (v::l))
def one:List Value->Value
 |[v]=>v
 |l=>.tuple l.toArray
def Gn(tmps:Array Value):ResultVar->Sem Value
 |.tmp t=>pure (tmps.getD t undef)
 |.cell x t=>do loadVar t (<-asAddr (tmps.getD x undef))
theorem Ia(fn:Func)(tmps:Array Value):results fn tmps=(do let vs<-fn.results.mapM (Gn tmps);pure (if h:vs.size=1 then vs[0]else .tuple vs)):=rfl
theorem EX{f:Fr}{a:Act}{w:World}(j:Ag n D f a):∀(l:List ResultVar) (K:List Value->Prop),Bv P l f w K->
  ∃vs,K vs/\(l.mapM (Gn a.tmps)).run P w=.ok vs w
 |[],K,h=>⟨[],h,rfl⟩
 |.tmp t::r,K,h=>by
  obtain⟨vs,J,o⟩:=EX j r _ h
  refine⟨_,J,?_⟩
  rw[List.mapM_cons,run_bind]
  simp only[Gn,run_pure,run_bind,o]
  rw[j.2.2 t]
 |.cell x T::r,K,h=>by
  replace h:=mK.out h
  obtain⟨hT,h⟩:=h
  obtain⟨v,h',hl⟩:=MA hT h
  obtain⟨vs,J,o⟩:=EX j r _ h'
  refine⟨_,J,?_⟩
  have I:(Gn a.tmps (.cell x T)).run P w=.ok v w:=by
   show(do loadVar T (<-asAddr (a.tmps.getD x undef)):Sem Value).run P w=.ok v w;rw[j.2.2 x];cases U:f x<;>rw[U]at h hl<;>simp only[ldW]at h<;>try exact h.elim
   rename_i p;cases p with
   |none=>exact h.elim
   |some p=>exact hl
  rw[List.mapM_cons,run_bind];simp only[I,run_bind,o,run_pure]
theorem sY{fn:Func}{f:Fr}{a:Act}{K:Value->Prop}(j:Ag n D f a)(h:Bv P fn.results.toList f w λl=>K (one l)):
  ∃v,K v/\(results fn a.tmps).run P w=.ok v w:=by
 obtain⟨vs,I,o⟩:=EX j _ _ h;refine⟨_,I,?_⟩;rw[Ia,run_bind];have:(fn.results.mapM (Gn a.tmps)).run P w=.ok vs.toArray w:=by
  rw[Array.mapM_eq_mapM_toList,<-bind_pure_comp,run_bind,o];rfl
 rw[this];simp only[run_pure];congr 1;cases vs with
 |nil=>rfl
 |cons v r=>cases r<;>rfl
def fr0(args:List Value):Fr:=λj=>args.getD j undef
def VF[HX](P:Program)(fn:Func)(pl:eH)(args:List Value)(w:World)(K:Value->World->Prop):Prop:=
 match fn.body with
 |some c=>pO P pl c 0 (fr0 args) w (λf w'=>Bv P fn.results.toList f w' λl=>K (one l) w') (λ_ _ _=>False) (λf w'=>Bv P fn.results.toList f w' λl=>K (one l) w')
 |none=>False
def IJ(P:Program)(fn:Func)(pl:eH)(k:Nat):Bool:=
 match fn.body with
 |some c=>Nat.ble k fn.ntmps&&chk P fn.ntmps pl [] 0 c 0
 |none=>false
theorem IE{g:FuncId}{fn:Func}{args:List Value}(hm:P.follows .mixedOrders=true)(hf:P.funcs[g]?=some fn)(J:IJ P fn pl args.length=true)
  (h:VF P fn pl args w K):TD P g args w K:=by
 unfold VF at h;unfold IJ at J;cases hb:fn.body with
 |none=>rw[hb]at h;exact h.elim
 |some c=>
  rw[hb]at h J;simp only[bL]at J;unfold TD;refine calls_of_wp hf hb ?_;have hq:args.length<=fn.ntmps:=lA J.1;have hg:Ag fn.ntmps [] (fr0 args) {tmps:=args.toArray++Array.replicate (fn.ntmps-args.toArray.size) undef,defers:=[]}:=by
   refine⟨rfl,by simp;omega,λt=>?_⟩;simp only[kG,Array.getElem?_append,aC,List.getElem?_toArray,Array.getElem?_replicate,fr0,List.getD_eq_getElem?_getD];split
   ·rfl
   ·rename_i ho;rw[List.getElem?_eq_none (by omega)];split<;>rfl
  have o:∀(f':Fr) (a':Act) (w':World),Ag fn.ntmps [] f' a'->(Bv P fn.results.toList f' w' λl=>K (one l) w')->a'.defers=[]/\∃v,(results fn a'.tmps).run P w'=.ok v w'/\Dx K (.returned v) w':=by
   intro f' a' w' j I;obtain⟨v,U,hr⟩:=sY (K:=λv=>K v w') j I;exact⟨j.1,v,hr,U⟩
  exact tG hm c [] 0 0 _ _ w _ _ _ _ J.2 hg h (λf' a' w' j _ I=>o f' a' w' j I) (λ_ _ _ _ _ _ I=>I.elim) (λf' a' w' j _ I=>o f' a' w' j I) (λc a' w' hd _ hx=>⟨hd,hx⟩)
theorem tie(P:Program)(g:FuncId)(fn:Func)(pl:eH)(args:List Value)(w:World)(K:Value->World->Prop)(k:Nat)(X:Prop)(I:args.length=k)(o:P.follows .mixedOrders=true)(hf:P.funcs[g]?=some fn)
  (U:IJ P fn pl k=true)(J:VF P fn pl args w K=X)(j:∀(az:Array Value) (w:World),(callFunc g az).run P w=.ok (.enter g az) w)(h:X):aI P g args w K:=by
 unfold aI;rw[j];exact IE o hf (by rw[I];exact U) (by rw[J];exact h)
theorem callF_calls{g:FuncId}{args:List Value}(j:(callFunc g args.toArray).run P w=.ok (.enter g args.toArray) w)(h:aI P g args w K):
  Calls P g args.toArray w (Dx K):=by
 unfold aI at h;rw[j]at h;exact h
end
def Nj(o:Option Obj)(i:Nat):Option Value:=match o with|some (.cells c _ _)=>c[i]?|_=>none
def frO(o:Option Obj)(i:Nat):Bool:=match o with|some (.cells _ _ (lo,hi))=>decide (lo<=i)&&decide (i<hi)|_=>false
def Ue(o:Option Obj)(i:Nat)(v:Value):Option Obj:=match o with|some (.cells c t f)=>some (.cells (c.setIfInBounds i v) t f)|o=>o
theorem bM(c:Array Value)(t:TypeId)(f:Nat×Nat)(i:Nat):Nj (some (.cells c t f)) i=c[i]?:=rfl
theorem fN(c:Array Value)(t:TypeId)(i:Nat):frO (some (.cells c t (0,0))) i=false:=by simp[frO]
theorem fA(c:Array Value)(t:TypeId)(f:Nat×Nat)(i:Nat)(v:Value):Ue (some (.cells c t f)) i v=some (.cells (c.setIfInBounds i v) t f):=rfl
theorem cA(w:World)(b o:Nat):w.cell? ⟨b,o,none⟩=Nj w.heap[b]? o:=by
 unfold World.cell? Nj;cases w.heap[b]? with
 |none=>rfl
 |some x=>cases x<;>rfl
theorem eW(w:World)(b o:Nat):w.frozen? ⟨b,o,none⟩=frO w.heap[b]? o:=by
 unfold World.frozen? frO;cases w.heap[b]? with
 |none=>rfl
 |some x=>cases x<;>rfl
theorem nC(w:World)(b o:Nat)(v:Value):(w.setCell ⟨b,o,none⟩ v).heap[b]?=Ue w.heap[b]? o v:=by
 unfold World.setCell Ue;simp only[Array.getElem?_modify,pH];cases w.heap[b]? with
 |none=>rfl
 |some x=>cases x<;>simp
theorem wY(w:World)(b o k:Nat)(v:Value)(h:k≠b):(w.setCell ⟨b,o,none⟩ v).heap[k]?=w.heap[k]?:=by
 unfold World.setCell;simp only[Array.getElem?_modify];rw[aJ (jS h)]
theorem dH(w:World)(a:Addr)(v:Value):(w.setCell a v).heap.size=w.heap.size:=by simp
theorem jY(w:World)(o:Obj)(k:Nat)(h:k=w.heap.size):(w.alloc o).heap[k]?=some o:=by subst h;show(w.heap.push o)[w.heap.size]?=_;simp
theorem AM(w:World)(o:Obj)(k:Nat)(h:k≠w.heap.size):(w.alloc o).heap[k]?=w.heap[k]?:=by
 show(w.heap.push o)[k]?=_;rw[Array.getElem?_push,aJ h]
theorem size_alloc(w:World)(o:Obj):(w.alloc o).heap.size=w.heap.size+1:=by simp
theorem heap_drew(w:World)(k:Nat):w.drew.heap[k]?=w.heap[k]?:=rfl
theorem size_drew(w:World):w.drew.heap.size=w.heap.size:=rfl
theorem bG(b o n:Nat):(⟨b,o,none⟩:Addr).add n=⟨b,o+n,none⟩:=by
 unfold Addr.add;split
 ·rename_i h;subst h;rfl
 ·rfl
structure Chg(S:Nat->Prop)(w w':World):Prop where
 os:w'.os=w.os
 tape:w'.tape=w.tape
 output:w'.output=w.output
 size:w.heap.size<=w'.heap.size
 heap:∀k,k<w.heap.size->¬S k->w'.heap[k]?=w.heap[k]?
abbrev Ext:=Chg (λ_=>False)
theorem Chg.refl(S:Nat->Prop)(w:World):Chg S w w:=⟨rfl,rfl,rfl,aY _,λ_ _ _=>rfl⟩
theorem Chg.trans{w1 w2:World}(j:Chg S w w1)(o:Chg S w1 w2):Chg S w w2:=
 ⟨o.os.trans j.os,o.tape.trans j.tape,o.output.trans j.output,dI j.size o.size,λk J I=>(o.heap k (cV J j.size) I).trans (j.heap k J I)⟩
theorem Chg.mono{T:Nat->Prop}(h:Chg S w w')(o:∀k,k<w.heap.size->S k->T k):Chg T w w':=
 ⟨h.os,h.tape,h.output,h.size,λk j I=>h.heap k j λe=>I (o k j e)⟩
theorem Chg.of_ext(h:Ext w w'):Chg S w w':=h.mono λ_ _ e=>e.elim
theorem Chg.drew(h:Chg S w w'):Chg S w w'.drew:=⟨h.os,h.tape,h.output,h.size,h.heap⟩
theorem Chg.alloc(h:Chg S w w')(o:Obj):Chg S w (w'.alloc o):=
 ⟨h.os,h.tape,h.output,by rw[size_alloc];exact Nat.le_succ_of_le h.size,λk I j=>by rw[AM _ _ _ (by have:=h.size;omega)];exact h.heap k I j⟩
theorem Chg.set(h:Chg S w w'){b o:Nat}(hb:S b\/w.heap.size<=b)(v:Value):Chg S w (w'.setCell ⟨b,o,none⟩ v):=
 ⟨h.os,h.tape,h.output,by rw[dH];exact h.size,λk J I=>by
  have j:k≠b:=λe=>by
   subst e
   rcases hb with hb|hb
   ·exact I hb
   ·omega
  rw[wY _ _ _ _ _ j]
  exact h.heap k J I⟩
theorem Chg.then{T:Nat->Prop}{w1 w2:World}(j:Chg S w w1)(o:Chg T w1 w2)(hT:∀k,k<w.heap.size->T k->S k):Chg S w w2:=
 ⟨o.os.trans j.os,o.tape.trans j.tape,o.output.trans j.output,dI j.size o.size,λk I J=>(o.heap k (cV I j.size) λe=>J (hT k I e)).trans (j.heap k I J)⟩
theorem Chg.below(h:Ext w w'):RowKit.Below w.heap.size w w':=⟨h.os,h.tape,h.output,h.size,λk j=>h.heap k j id⟩
theorem Chg.of_below(h:RowKit.Below w.heap.size w w'):Ext w w':=⟨h.os,h.tape,h.output,h.size,λk j _=>h.block k j⟩
abbrev str(l:List UInt8):Value:=.string (ofL l)
abbrev i64(n:Int):Value:=.int .i64 n
theorem Jd{a b:List UInt8}:str a=str b↔a=b:=by simp[str,Qf]
theorem fE{n:Int}(o:-9223372036854775808<=n)(j:n<9223372036854775808):IntKind.i64.wrap n=n:=by
 have e1:(2:Int)^64=18446744073709551616:=by decide
 have e2:(2:Int)^(64-1)=9223372036854775808:=by decide
 simp only[IntKind.wrap,IntKind.bits,IntKind.signed,dG,e1,e2];by_cases h:n%18446744073709551616>=9223372036854775808
 ·rw[aO (by simpa using h)];omega
 ·rw[aJ (by simpa using h)];omega
theorem cU(A B:Prop):bB (.bool true) A B↔A:=by simp[bB]
theorem bW(A B:Prop):bB (.bool false) A B↔B:=by simp[bB]
theorem bA(p:Prop)[Decidable p](A B:Prop):bB (.bool (decide p)) A B↔(p->A)/\(¬p->B):=by simp[bB]
theorem iM(s t:Bool)(K:Value->Prop):eO (.bool s) (.bool true) (.bool t) K↔K (.bool (s||t)):=by cases s<;>exact iO
theorem gF(s t:Bool)(K:Value->Prop):eO (.bool s) (.bool t) (.bool false) K↔K (.bool (s&&t)):=by cases s<;>exact iO
theorem gS(a b:Value)(K:Value->Prop):eO (.bool true) a b K↔K a:=iO
theorem gP(a b:Value)(K:Value->Prop):eO (.bool false) a b K↔K b:=iO
section forms
variable(k:IntKind)(a b:Int)(s t:ByteArray)(x y:Value)(ad:Addr)(w:World)(K:Value->Prop)(KE:Value->World->Prop)(KW:World->Prop)
theorem cG:aU .add (.int k a) (.int k b) K↔K (.int k (k.wrap (a+b))):=by simp[aU]
theorem fU:aU .sub (.int k a) (.int k b) K↔K (.int k (k.wrap (a-b))):=by simp[aU]
theorem gX:aU .mul (.int k a) (.int k b) K↔K (.int k (k.wrap (a*b))):=by simp[aU]
theorem gW:aU .quo (.int k a) (.int k b) K↔b≠0/\K (.int k (k.wrap (a.tdiv b))):=by simp[aU]
theorem gO:aU .rem (.int k a) (.int k b) K↔b≠0/\K (.int k (a.tmod b)):=by simp[aU]
theorem bX:aU .eql (.int k a) (.int k b) K↔K (.bool (decide (a=b))):=by simp[aU]
theorem eX:aU .neq (.int k a) (.int k b) K↔K (.bool (decide (a≠b))):=by simp[aU]
theorem dT:aU .lss (.int k a) (.int k b) K↔K (.bool (decide (a<b))):=by simp[aU]
theorem fL:aU .leq (.int k a) (.int k b) K↔K (.bool (decide (a<=b))):=by simp[aU]
theorem fJ:aU .gtr (.int k a) (.int k b) K↔K (.bool (decide (b<a))):=by simp[aU]
theorem fP:aU .geq (.int k a) (.int k b) K↔K (.bool (decide (b<=a))):=by simp[aU]
theorem Re:aU .and (.int k a) (.int k b) K↔K (.int k (k.wrap (BitVec.ofInt k.bits a&&&BitVec.ofInt k.bits b).toNat)):=by simp[aU]
theorem FH:aU .or (.int k a) (.int k b) K↔K (.int k (k.wrap (BitVec.ofInt k.bits a|||BitVec.ofInt k.bits b).toNat)):=by simp[aU]
theorem Qg(l m:List UInt8):ofL l++ofL m=ofL (l++m):=by
 apply ByteArray.ext;simp[ofL,ByteArray.data_append]
theorem eR(l m:List UInt8):aU .add (.string (ofL l)) (.string (ofL m)) K↔((l.length+m.length:Nat):Int)<=IntKind.i64.max/\K (.string (ofL (l++m))):=by simp[aU,jG,Qg]
theorem eC(l m:List UInt8):aU .eql (.string (ofL l)) (.string (ofL m)) K↔K (.bool (decide (l=m))):=by simp[aU,iP]
theorem gC(l m:List UInt8):aU .neq (.string (ofL l)) (.string (ofL m)) K↔K (.bool (decide (l≠m))):=by simp[aU,iP]
theorem iF(l m:List UInt8):aU .lss (.string (ofL l)) (.string (ofL m)) K↔K (.bool (Op.bytesLess l m)):=by simp[aU,iP]
theorem iH(l m:List UInt8):aU .gtr (.string (ofL l)) (.string (ofL m)) K↔K (.bool (!(Op.bytesLess l m||decide (l=m)))):=by simp[aU,iP]
theorem iI(l m:List UInt8):aU .geq (.string (ofL l)) (.string (ofL m)) K↔K (.bool (!Op.bytesLess l m)):=by simp[aU,iP]
theorem iG(l m:List UInt8):aU .leq (.string (ofL l)) (.string (ofL m)) K↔K (.bool (Op.bytesLess l m||decide (l=m))):=by simp[aU,iP]
theorem cQ:dV (.pointer (some ad)) K↔K (.pointer (some ad)):=iO
theorem bD(off:Nat):aZ off (.pointer (some ad)) K↔K (.pointer (some (ad.add off))):=iO
theorem dX(n:Nat):ldW false n (.pointer (some ad)) w K↔∃v,w.cell? ad=some v/\K v:=iO
theorem yZ(n:Nat):ldW true n (.pointer (some ad)) w K↔∃l,bN w ad 0 n=some l/\K (.agg l.toArray):=iO
theorem Ua:stW 1 (.pointer (some ad)) (.int k a) w KW↔(w.cell? (ad.add 0)).isSome=true/\w.frozen? (ad.add 0)=false/\KW (w.setCell (ad.add 0) (.int k a)):=by simp[stW,lD,Value.cells,jD]
theorem NT(c:Bool):stW 1 (.pointer (some ad)) (.bool c) w KW↔(w.cell? (ad.add 0)).isSome=true/\w.frozen? (ad.add 0)=false/\KW (w.setCell (ad.add 0) (.bool c)):=by simp[stW,lD,Value.cells,jD]
theorem TW:stW 1 (.pointer (some ad)) (.string s) w KW↔(w.cell? (ad.add 0)).isSome=true/\w.frozen? (ad.add 0)=false/\KW (w.setCell (ad.add 0) (.string s)):=by simp[stW,lD,Value.cells,jD]
theorem LI(p:Option Addr)(n m:Nat):stW 1 (.pointer (some ad)) (.slice p n m) w KW↔(w.cell? (ad.add 0)).isSome=true/\w.frozen? (ad.add 0)=false/\KW (w.setCell (ad.add 0) (.slice p n m)):=by simp[stW,lD,Value.cells,jD]
theorem TY(p:Option Addr):stW 1 (.pointer (some ad)) (.pointer p) w KW↔(w.cell? (ad.add 0)).isSome=true/\w.frozen? (ad.add 0)=false/\KW (w.setCell (ad.add 0) (.pointer p)):=by simp[stW,lD,Value.cells,jD]
theorem TZ(p:Option Nat):stW 1 (.pointer (some ad)) (.map p) w KW↔(w.cell? (ad.add 0)).isSome=true/\w.frozen? (ad.add 0)=false/\KW (w.setCell (ad.add 0) (.map p)):=by simp[stW,lD,Value.cells,jD]
theorem EO(n:Nat)(l:List Value):stW n (.pointer (some ad)) (.agg l.toArray) w KW↔l.length=n/\lD ad l 0 w KW:=by simp[stW,Value.cells]
theorem NR(i:Nat):lD ad [] i w KW↔KW w:=iO
theorem LH(v:Value)(r:List Value)(i:Nat):lD ad (v::r) i w KW↔jD v=true/\(w.cell? (ad.add i)).isSome=true/\w.frozen? (ad.add i)=false/\lD ad r (i+1) (w.setCell (ad.add i) v) KW:=iO
theorem iC:jD (.int k a)=true:=rfl
theorem gB(c:Bool):jD (.bool c)=true:=rfl
theorem hY:jD (.string s)=true:=rfl
theorem fI(p:Option Addr)(n m:Nat):jD (.slice p n m)=true:=rfl
theorem iA(p:Option Addr):jD (.pointer p)=true:=rfl
theorem iB(p:Option Nat):jD (.map p)=true:=rfl
theorem bP(i:Nat)(l:List Value):jC i (.tuple l.toArray) K↔∃v,l[i]?=some v/\K v:=by
 simp only[jC,List.getElem?_toArray];cases l[i]?<;>simp
theorem eG(size n c:Nat):iN none size (.slice (some ad) n c) (.int k a) K↔0<=a/\a<n/\K (.pointer (some (ad.add (a.toNat*size)))):=iO
theorem iE(m size:Nat):iN (some m) size (.pointer (some ad)) (.int k a) K↔0<=a/\a<m/\K (.pointer (some (ad.add (a.toNat*size)))):=iO
theorem gU(l:List UInt8):mX (.string (ofL l)) (.int k a) K↔0<=a/\∃c,l[a.toNat]?=some c/\K (.int .u8 c.toNat):=by simp[mX,iP]
theorem dM(l:List UInt8):jM (.string (ofL l)) K↔K (.int .i64 l.length):=by simp[jM,jG]
theorem gN(p:Option Addr)(n c:Nat):jN (.slice p n c) K↔K (.int .i64 n):=iO
theorem fG(c:Bool):unW .not (.bool c) K↔K (.bool (!c)):=iO
theorem jP:unW .neg (.int k a) K↔K (.int k (k.wrap (0-a))):=iO
theorem fM(k':IntKind):sT k' (.int k a) K↔K (.int k' (k'.wrap a)):=iO
theorem gT:Ql (.int k a) (.int k b) K↔K (.int k (if b<a then b else a)):=iO
theorem iD:Vo (.int k a) (.int k b) K↔K (.int k (if a<b then b else a)):=iO
theorem Nv(T:TypeId)(z:List Value):dY T z w KE↔KE (.pointer (some ⟨w.heap.size,0,none⟩)) (w.alloc (.cells z.toArray T)):=iO
theorem Rb(T:TypeId)(l:List Value):jI T (.agg l.toArray) w KE↔KE (.pointer (some ⟨w.heap.size,0,none⟩)) (w.alloc (.cells l.toArray T)):=iO
theorem Ra(T:TypeId):jI T (.int k a) w KE↔KE (.pointer (some ⟨w.heap.size,0,none⟩)) (w.alloc (.cells #[(.int k a)] T)):=iO
theorem Np(T:TypeId)(c:Bool):jI T (.bool c) w KE↔KE (.pointer (some ⟨w.heap.size,0,none⟩)) (w.alloc (.cells #[(.bool c)] T)):=iO
theorem QX(T:TypeId):jI T (.string s) w KE↔KE (.pointer (some ⟨w.heap.size,0,none⟩)) (w.alloc (.cells #[(.string s)] T)):=iO
theorem KY(T:TypeId)(p:Option Addr)(n m:Nat):jI T (.slice p n m) w KE↔KE (.pointer (some ⟨w.heap.size,0,none⟩)) (w.alloc (.cells #[(.slice p n m)] T)):=iO
theorem QY(T:TypeId)(p:Option Addr):jI T (.pointer p) w KE↔KE (.pointer (some ⟨w.heap.size,0,none⟩)) (w.alloc (.cells #[(.pointer p)] T)):=iO
theorem QZ(T:TypeId)(p:Option Nat):jI T (.map p) w KE↔KE (.pointer (some ⟨w.heap.size,0,none⟩)) (w.alloc (.cells #[(.map p)] T)):=iO
theorem eK(n m:Nat)(KN:Nat->Prop):bdW none n m KN↔KN n:=iO
theorem eD(n m:Nat)(KN:Nat->Prop):bdW (some (.int k a)) n m KN↔0<=a/\a<=m/\KN a.toNat:=iO
theorem eF(l:List UInt8)(lo hi:Option Value):oK (.string (ofL l)) lo hi K↔bdW hi l.length l.length λh=>bdW lo 0 h λm=>K (.string (ofL ((l.take h).drop m))):=by simp only[oK,jG,iP]
theorem jR(size:Nat)(p:Option Addr)(n c:Nat)(lo hi mx:Option Value):LJ size (.slice p n c) lo hi mx K↔bdW mx c c λm=>(bdW hi n m λh=>bdW lo 0 h λl=>K (.slice (if m=l then p else p.map (·.add (l*size))) (h-l) (m-l))):=iO
theorem fO(c:Bool):isB (.bool c) true=c:=by cases c<;>rfl
theorem iW(c:Bool):isB (.bool c) false=!c:=by cases c<;>rfl
end forms
theorem GdW.go{c:Bool}{u:List Value}{A:(List Value->World->Prop)->Prop}{B:List Value->Fr->World->Prop}
  (o:c=true->A (λs w'=>∀g,B s g w'))(j:c=false->∀g,B u g w):GdW c u w A B:=
 ⟨λs w'=>∀g,B s g w',o,λh=>j h,λs g _ h=>h g⟩
theorem GdW.t{u:List Value}{A:(List Value->World->Prop)->Prop}{B:List Value->Fr->World->Prop}(h:A (λs w'=>∀g,B s g w')):GdW true u w A B:=
 GdW.go (λ_=>h) (λe=>by cases e)
theorem GdW.f{u:List Value}{A:(List Value->World->Prop)->Prop}{B:List Value->Fr->World->Prop}(h:∀g,B u g w):GdW false u w A B:=
 GdW.go (λe=>by cases e) (λ_=>h)
theorem GdW.meet{c:Bool}{u:List Value}{A:(List Value->World->Prop)->Prop}{B:List Value->Fr->World->Prop}(s:List Value)
  (I:c=true->A (λs' w'=>s'=s/\w'=w))(o:c=false->u=s)(j:∀g,B s g w):GdW c u w A B:=
 ⟨λs' w'=>s'=s/\w'=w,I,λh=>⟨o h,rfl⟩,λs' g w' h=>by obtain⟨rfl,rfl⟩:=h;exact j g⟩
theorem cX.go{A:(List Value->World->Prop)->Prop}{B:List Value->Fr->World->Prop}(h:A (λs w'=>∀g,B s g w')):cX A B:=⟨_,h,λ_ g _ h=>h g⟩
theorem cX.cut{A:(List Value->World->Prop)->Prop}{B:List Value->Fr->World->Prop}(J:List Value->World->Prop)(o:A J)(j:∀s g w',J s w'->B s g w'):cX A B:=⟨J,o,j⟩
theorem eJ.go{s0:List Value}{w0:World}{B:List Value->Fr->World->(List Value->World->Prop)->Prop}(I:List Value->World->Prop)(μ:List Value->World->Nat)
 (j:I s0 w0)(h:∀s g w,I s w->B s g w (λs' w'=>I s' w'/\μ s' w'<μ s w)):eJ s0 w0 B:=⟨I,μ,j,h⟩
theorem xO(c:List Value)(i:Nat)(v:Value)(r:List (Nat×Nat×Value))(K:List Value->Prop)(h:v.cells=#[v]):iX c ((i,1,v)::r) K↔i<c.length/\iX (c.set i v) r K:=by
 simp only[iX,h];constructor
 ·rintro⟨_,o,j⟩;rw[List.set_eq_take_append_cons_drop,aO (by omega)];exact⟨by omega,by simpa using j⟩
 ·rintro⟨o,j⟩;rw[List.set_eq_take_append_cons_drop,aO (by omega)]at j;exact⟨rfl,by omega,by simpa using j⟩
theorem dC(c:List Value)(K:List Value->Prop):iX c [] K↔K c:=iO
theorem gZ(c:List Value)(i:Nat)(v:Option Nat)(r:List (Nat×Nat×Value))(K:List Value->Prop):iX c ((i,1,.map v)::r) K↔i<c.length/\iX (c.set i (.map v)) r K:=xO c i _ r K rfl
theorem dF(c:List Value)(i:Nat)(k:IntKind)(v:Int)(r:List (Nat×Nat×Value))(K:List Value->Prop):iX c ((i,1,.int k v)::r) K↔i<c.length/\iX (c.set i (.int k v)) r K:=xO c i _ r K rfl
theorem dK(c:List Value)(i:Nat)(v:ByteArray)(r:List (Nat×Nat×Value))(K:List Value->Prop):iX c ((i,1,.string v)::r) K↔i<c.length/\iX (c.set i (.string v)) r K:=xO c i _ r K rfl
theorem gA(c:List Value)(i:Nat)(v:Bool)(r:List (Nat×Nat×Value))(K:List Value->Prop):iX c ((i,1,.bool v)::r) K↔i<c.length/\iX (c.set i (.bool v)) r K:=xO c i _ r K rfl
theorem gM(c:List Value)(i:Nat)(v:Option Addr)(r:List (Nat×Nat×Value))(K:List Value->Prop):iX c ((i,1,.pointer v)::r) K↔i<c.length/\iX (c.set i (.pointer v)) r K:=xO c i _ r K rfl
theorem dZ(c:List Value)(i:Nat)(p:Option Addr)(n m:Nat)(r:List (Nat×Nat×Value))(K:List Value->Prop):iX c ((i,1,.slice p n m)::r) K↔i<c.length/\iX (c.set i (.slice p n m)) r K:=xO c i _ r K rfl
structure qB(P:Program)(t e:TypeId)(size bytes:Nat):Prop where
 und:P.underlying t=some (.slice e)
 info:(P.info? e).map (λi=>(i.zero.map (·.cells.size),i.size,i.bytes))=some (some size,size,bytes)
 pos:0<size
theorem qB.get{t e:TypeId}{size bytes:Nat}(h:qB P t e size bytes):∃i z,P.info? e=some i/\i.zero=some z/\i.size=size/\i.bytes=bytes/\z.cells.size=size:=by
 have hi:=h.info;cases I:P.info? e with
 |none=>rw[I]at hi;cases hi
 |some i=>
  rw[I]at hi;simp only[aG,aV,gK]at hi;obtain⟨j,U,J⟩:=hi;cases o:i.zero with
  |none=>rw[o]at j;cases j
  |some z=>
   rw[o]at j;exact⟨i,z,rfl,o,U,J,by simpa using j⟩
def gD(w:World)(T:TypeId)(v:Value)(n:Nat)(cs:List Value):Prop:=
 ∃p cap,v=.slice p n cap/\n<=cap/\(p=none->n=0/\cap=0)/\(cs≠[]->∃b off c fr,p=some ⟨b,off,none⟩/\w.heap[b]?=some (.cells c T fr)/\∀i,i<cs.length->c[off+i]?=cs[i]?)
theorem gD.nil(w:World)(T:TypeId):gD w T (.slice none 0 0) 0 []:=⟨none,0,rfl,aY _,λ_=>⟨rfl,rfl⟩,λh=>absurd rfl h⟩
theorem gD.chg(h:gD w T v n cs)(hc:Chg S w w')
  (hS:∀k c fr,S k->w.heap[k]?≠some (.cells c T fr)):gD w' T v n cs:=by
 obtain⟨p,cap,J,h1,h2,h3⟩:=h;refine⟨p,cap,J,h1,h2,λj=>?_⟩;obtain⟨b,off,c,fr,U,hb,I⟩:=h3 j;have o:b<w.heap.size:=(Array.getElem?_eq_some_iff.1 hb).1;exact⟨b,off,c,fr,U,by rw[hc.heap b o λe=>hS b c fr e hb];exact hb,I⟩
theorem gD.ext(h:gD w T v n cs)(j:Ext w w'):gD w' T v n cs:=
 h.chg j λ_ _ _ e=>e.elim
theorem gD.shape(h:gD w T v n cs):∃p cap,v=.slice p n cap/\n<=cap:=by
 obtain⟨p,cap,j,o,_⟩:=h;exact⟨p,cap,j,o⟩
theorem jH(h:gD w T v n cs)(K:Value->Prop):jN v K↔K (i64 n):=by
 obtain⟨p,cap,rfl,_⟩:=h.shape;exact iO
theorem Cu{size:Nat}{k:IntKind}{K:Value->Prop}(h:gD w T v n cs)(hl:cs.length=n*size)(hs:0<size)(hi:i<n)
  (U:∀b o c fr,w.heap[b]?=some (.cells c T fr)->(∀j,j<size->c[o+j]?=cs[i*size+j]?)->K (.pointer (some ⟨b,o,none⟩))):iN none size v (.int k i) K:=by
 obtain⟨p,cap,rfl,h1,_,h3⟩:=h;have J:i*size+size<=n*size:=by rw[<-Nat.succ_mul];exact eP _ hi
 obtain⟨b,off,c,fr,rfl,hb,I⟩:=h3 (λe=>by rw[e]at hl;simp at hl;omega);refine⟨Int.natCast_nonneg _,by omega,?_⟩;rw[bG,bC];exact U b _ c fr hb λj hj=>by rw[show off+i*size+j=off+(i*size+j)by omega];exact I _ (by omega)
theorem pX{k:IntKind}{x:Value}{K:Value->Prop}(h:gD w T v n cs)(hl:cs.length=n)(hi:cs[i]?=some x)(J:K x):
  iN none 1 v (.int k i) λt=>ldW false 1 t w K:=by
 have j:i<cs.length:=(List.getElem?_eq_some_iff.1 hi).1;refine Cu (size:=1) h (by omega) (by omega) (by omega) λb o c fr hb I=>?_;refine⟨x,?_,J⟩;rw[cA,hb,bM];have:=I 0 (by omega);simpa[hi]using this
abbrev Own(w:World)(base:Nat)(e:TypeId)(size:Nat)(v:Value)(n:Nat)(xs:List Value):Prop:=w.ownsRow base e size v n xs
theorem Own.sl{base:Nat}{e:TypeId}{size:Nat}{xs:List Value}(h:Own w base e size v n xs):gD w e v n xs:=by
 obtain⟨hl,⟨rfl,rfl⟩|⟨g,cap,cur,rfl,_,j,I,_,J,o⟩⟩:=h
 ·have:xs=[]:=cK (by simpa using hl);subst this;exact gD.nil w e
 ·refine⟨_,_,rfl,I,λh=>(by cases h),λ_=>⟨g,0,cur,(0,0),rfl,j,λi hi=>?_⟩⟩;rw[<-o,List.getElem?_take,aO (by omega),aH];simp
def Du(w:World)(base:Nat)(e:TypeId)(k:Nat):Prop:=base<=k/\∃c,w.heap[k]?=some (.cells c e (0,0))
theorem Own.block{base:Nat}{e:TypeId}{size:Nat}{xs:List Value}(h:Own w base e size v n xs):∀k,v.ownBlock=some k->Du w base e k:=by
 intro k j;obtain⟨hl,⟨rfl,rfl⟩|⟨g,cap,cur,rfl,hb,o,_⟩⟩:=h
 ·simp[Value.ownBlock]at j
 ·simp[Value.ownBlock]at j;subst j;exact⟨hb,cur,o⟩
theorem tK(h:jD v=true):v.oneCell'=true:=by cases v<;>first|rfl|(simp[jD]at h)
theorem Chg.of_grown{row:Option Nat}(h:w.grownBy w' row)(I:∀k,row=some k->S k):Chg S w w':=
 ⟨h.os,h.tape,h.output,h.size,λk o j=>h.block k o λe=>j (I k e.symm)⟩
theorem Df{t e:TypeId}{size bytes:Nat}(hT:qB P t e size bytes){base:Nat}{x:Value}{m:Nat}{xs news:List Value}{ty:TypeId}
  (o:Own w base e size v n xs)(hx:gD w T x m news)(hl:news.length=m*size)(h1:∀u∈news,jD u=true)(ht:n+m<=4611686018427387904)(hb:(n+m)*bytes<=140737488355328)(hbase:base<=w.heap.size)
  (hK:∀v' w',Own w' base e size v' (n+m) (xs++news)->Chg (Du w base e) w w'->(v'=.slice none 0 0↔v=.slice none 0 0/\m=0)->K v' w'):
  fH P (Builtin.append_ #[t,t] ty #[v,x]) w K:=by
 obtain⟨i,z,hi,hz,h2,h3,h4⟩:=hT.get;obtain⟨p,cap,rfl,hy,hc,hcells⟩:=hx;have hm:n+m<=maxLen:=by unfold maxLen;omega
 cases p with
 |none=>
  obtain⟨rfl,rfl⟩:=hc rfl;have hn:news=[]:=cK (by simpa using hl);subst hn;have hr:(Builtin.append_ #[t,t] ty #[v,.slice none 0 0]).run P w=.ok v w:=by
   obtain⟨xh,⟨rfl,rfl⟩|⟨g,cap,cur,rfl,_,hg,h1,_,h2,h3⟩⟩:=o
   ·simp[Builtin.append_,run_bind,bU hT.und,iU (show(P.info? e).isSome=true by rw[hi];rfl),Builtin.lenOf,run_pure,Builtin.firstCells]
   ·simp[Builtin.append_,run_bind,bU hT.und,iU (show(P.info? e).isSome=true by rw[hi];rfl),Builtin.lenOf,run_pure,Builtin.firstCells,h1,storeCells]
  unfold fH;rw[hr];simp only[cN,eZ]at hK;exact hK v w o (Chg.refl _ _) (by simp)
 |some a=>
  have hcell:∀j u,news[j]?=some u->w.cell? (a.add j)=some u:=by
   intro j u U;have hj:news≠[]:=λe=>by subst e;simp at U
   obtain⟨b,off,c,fr,hp,ho,hk⟩:=hcells hj;cases hp;rw[bG,cA,ho,bM,hk j (List.getElem?_eq_some_iff.1 U).1,U]
  obtain⟨v',w',hr,I,hg,J⟩:=run_append_own (P:=P) w base t ty e i z size bytes hT.und hi hz h2 h3 h4 hT.pos v n xs o a m cap news hl hcell (λu U=>tK (h1 u U)) hm hb hbase;unfold fH;rw[hr];exact hK v' w' I (Chg.of_grown hg o.block) J
theorem tI{t e:TypeId}{size bytes:Nat}(hT:qB P t e size bytes){base:Nat}{x:Value}{m:Nat}{xs news:List Value}{ty:TypeId}
  (o:Own w base e size v n xs)(hx:gD w T x m news)(hl:news.length=m*size)(h1:∀u∈news,jD u=true)(ht:n+m<=4611686018427387904)(hb:(n+m)*bytes<=140737488355328)(hbase:base<=w.heap.size)
  (hK:∀v' w',Own w' base e size v' (n+m) (xs++news)->Chg (λk=>v.ownBlock=some k) w w'->(v'=.slice none 0 0↔v=.slice none 0 0/\m=0)->K v' w'):
  fH P (Builtin.append_ #[t,t] ty #[v,x]) w K:=by
 obtain⟨i,z,hi,hz,h2,h3,h4⟩:=hT.get;obtain⟨p,cap,rfl,hy,hc,hcells⟩:=hx;have hm:n+m<=maxLen:=by unfold maxLen;omega
 cases p with
 |none=>
  obtain⟨rfl,rfl⟩:=hc rfl;have hn:news=[]:=cK (by simpa using hl);subst hn;have hr:(Builtin.append_ #[t,t] ty #[v,.slice none 0 0]).run P w=.ok v w:=by
   obtain⟨xh,⟨rfl,rfl⟩|⟨g,cap,cur,rfl,_,hg,h1,_,h2,h3⟩⟩:=o
   ·simp[Builtin.append_,run_bind,bU hT.und,iU (show(P.info? e).isSome=true by rw[hi];rfl),Builtin.lenOf,run_pure,Builtin.firstCells]
   ·simp[Builtin.append_,run_bind,bU hT.und,iU (show(P.info? e).isSome=true by rw[hi];rfl),Builtin.lenOf,run_pure,Builtin.firstCells,h1,storeCells]
  unfold fH;rw[hr];simp only[cN,eZ]at hK;exact hK v w o (Chg.refl _ _) (by simp)
 |some a=>
  have hcell:∀j u,news[j]?=some u->w.cell? (a.add j)=some u:=by
   intro j u U;have hj:news≠[]:=λe=>by subst e;simp at U
   obtain⟨b,off,c,fr,hp,ho,hk⟩:=hcells hj;cases hp;rw[bG,cA,ho,bM,hk j (List.getElem?_eq_some_iff.1 U).1,U]
  obtain⟨v',w',hr,I,hg,J⟩:=run_append_own (P:=P) w base t ty e i z size bytes hT.und hi hz h2 h3 h4 hT.pos v n xs o a m cap news hl hcell (λu U=>tK (h1 u U)) hm hb hbase;unfold fH;rw[hr];exact hK v' w' I (Chg.of_grown hg λk e=>e) J
theorem zW{base:Nat}{e:TypeId}{size:Nat}(hb:base<=w.heap.size)(hl:cs.length=n*size)(j:n<=4611686018427387904):Own (w.alloc (.cells cs.toArray e)) base e size (.slice (some ⟨w.heap.size,0,none⟩) n n) n cs:=
 ⟨hl,.inr ⟨w.heap.size,n,cs.toArray,rfl,hb,jY _ _ _ rfl,aY _,by unfold maxLen;omega,by simpa using hl,by simp[<-hl]⟩⟩
theorem Own.chg{base:Nat}{e:TypeId}{size:Nat}{xs:List Value}(h:Own w base e size v n xs)(J:Chg S w w')(U:∀k,Du w base e k->¬S k):Own w' base e size v n xs:=by
 obtain⟨hl,I|⟨g,cap,cur,o,hb,j,r⟩⟩:=h
 ·exact⟨hl,.inl I⟩
 ·exact⟨hl,.inr ⟨g,cap,cur,o,hb,by rw[J.heap g (Array.getElem?_eq_some_iff.1 j).1 (U g ⟨hb,cur,j⟩)];exact j,r⟩⟩
theorem Own.ext{base:Nat}{e:TypeId}{size:Nat}{xs:List Value}(h:Own w base e size v n xs)(j:Ext w w'):Own w' base e size v n xs:=h.chg j λ_ _ e=>e
theorem Own.base{base base':Nat}{e:TypeId}{size:Nat}{xs:List Value}(h:Own w base e size v n xs)(hb:base'<=base):Own w base' e size v n xs:=by
 obtain⟨hl,o|⟨g,cap,cur,j,I,r⟩⟩:=h
 ·exact⟨hl,.inl o⟩
 ·exact⟨hl,.inr ⟨g,cap,cur,j,dI hb I,r⟩⟩
def u8s(l:List UInt8):List Value:=l.map λb=>.int .u8 b.toNat
theorem uM(l:List UInt8):(u8s l).length=l.length:=by simp[u8s]
theorem Bz(l:List UInt8)(i:Nat):(u8s l)[i]?=(l[i]?).map λb=>.int .u8 b.toNat:=by simp[u8s]
theorem EN(a b:List UInt8):u8s (a++b)=u8s a++u8s b:=by simp[u8s]
theorem NN(l:List UInt8):∀u∈u8s l,jD u=true:=by intro u j;simp[u8s]at j;obtain⟨b,_,rfl⟩:=j;rfl
abbrev Byt(w:World)(T:TypeId)(v:Value)(l:List UInt8):Prop:=gD w T v l.length (u8s l)
theorem CR{src dst e:TypeId}(o:P.underlying src=some (.slice e))(J:P.underlying e=some (.int .u8))(hd:P.underlying dst=some .string){l:List UInt8}{K:Value->Prop}
  (h:Byt w T v l):oU P (convert src dst v) w K↔K (str l):=by
 have hr:(convert src dst v).run P w=.ok (str l) w:=by
  obtain⟨p,cap,rfl,hh,j,hcells⟩:=h;cases p with
  |none=>
   obtain⟨h0,_⟩:=j rfl;have:l=[]:=cK h0;subst this;rw[run_convert_bytes_nil (P:=P) w src e o J _ _ dst hd];rfl
  |some a=>
   cases l with
   |nil=>
    rw[run_convert_bytes_string w src dst e _ _ cap o J hd];have hl:(loadCells a 0).run P w=.ok (([]:List Int).map (Value.int .u8)).toArray w:=rfl;have:=run_bytesToString w a 0 cap [] hl;exact this
   |cons x l=>
    obtain⟨b,off,c,fr,hp,hb,U⟩:=hcells (by simp[u8s]);cases hp;have:=run_convert_bytes_arg (P:=P) w src e o J b off (x::l).length cap ((x::l).map λb=>(b.toNat:Int)) (by simp) (λi hi=>by
     rw[cA,hb,bM,U i (by rw[uM];exact hi),Bz,List.getElem?_eq_getElem hi];rw[List.getD_eq_getElem?_getD,List.getElem?_map,List.getElem?_eq_getElem hi];rfl) dst hd
    rw[this];simp[str,ofL,strOfNums,Function.comp_def]
 constructor
 ·rintro⟨u,hu,I⟩;rw[hr]at hu;cases hu;exact I
 ·exactλI=>⟨_,hr,I⟩
abbrev Str:=List UInt8
def kR:List (Str×Value)->Str->Option Value
 |[],_=>none
 |(k,v)::r,x=>if k=x then some v else kR r x
def yD:List (Str×Value)->Str->Value->List (Str×Value)
 |[],x,v=>[(x,v)]
 |(k,u)::r,x,v=>if k=x then(x,v)::r else(k,u)::yD r x v
def vH:List (Str×Value)->Str->List (Str×Value)
 |[],_=>[]
 |(k,u)::r,x=>if k=x then r else(k,u)::vH r x
theorem Dj{A:List (Str×Value)}{x:Str}:kR A x=none↔x∉A.map (·.1):=by
 induction A with
 |nil=>simp[kR]
 |cons p r ih=>
  obtain⟨k,v⟩:=p;simp only[kR];by_cases h:k=x
  ·simp[h]
  ·simp only[aJ h,ih,fC,aX];constructor
   ·exactλo j=>j.elim (λe=>h e.symm) o
   ·exactλo j=>o (.inr j)
theorem EH{A:List (Str×Value)}{x:Str}:(yD A x v).map (·.1)=if x∈A.map (·.1)then A.map (·.1)else A.map (·.1)++[x]:=by
 induction A with
 |nil=>simp[yD]
 |cons p r ih=>
  obtain⟨k,u⟩:=p;simp only[yD];by_cases h:k=x
  ·simp[h]
  ·rw[aJ h,fC,ih];simp only[fC,aX,jS h,false_or];split<;>simp
theorem De{A:List (Str×Value)}{x:Str}(h:(A.map (·.1)).Nodup):((yD A x v).map (·.1)).Nodup:=by
 rw[EH];split
 ·exact h
 ·rename_i j;exact gQ.2 ⟨h,by simp,λa o b hb=>by simp at hb;subst hb;exactλe=>j (e▸o)⟩
theorem Nw{A:List (Str×Value)}{x:Str}:List.Sublist (vH A x) A:=by
 induction A with
 |nil=>exact List.Sublist.refl _
 |cons p r ih=>
  obtain⟨k,u⟩:=p;simp only[vH];split
  ·exact List.sublist_cons_self _ _
  ·exact ih.cons_cons _
theorem Dl{A:List (Str×Value)}{x:Str}(h:(A.map (·.1)).Nodup):((vH A x).map (·.1)).Nodup:=(Nw.map _).nodup h
def MapAt(w:World)(m:Nat)(A:List (Str×Value)):Prop:=
 ∃es clock,w.heap[m]?=some (.map es clock)/\es.toList.map (λe=>(e.key,e.val))=A.map (λp=>(str p.1,p.2))/\(A.map (·.1)).Nodup/\(es.toList.map (·.born)).Nodup/\∀e∈es.toList,e.born<clock
theorem MapAt.nodup{m:Nat}{A:List (Str×Value)}(h:MapAt w m A):(A.map (·.1)).Nodup:=h.choose_spec.choose_spec.2.2.1
theorem MapAt.lt{m:Nat}{A:List (Str×Value)}(h:MapAt w m A):m<w.heap.size:=by
 obtain⟨es,clock,hb,_⟩:=h;exact(Array.getElem?_eq_some_iff.1 hb).1
theorem MapAt.ne{m b:Nat}{A:List (Str×Value)}{c:Array Value}{fr:Nat×Nat}(h:MapAt w m A)(hb:w.heap[b]?=some (.cells c T fr)):m≠b:=by
 obtain⟨es,clock,j,_⟩:=h;intro e;subst e;rw[j]at hb;cases hb
theorem MapAt.chg{m:Nat}{A:List (Str×Value)}(h:MapAt w m A)(j:Chg S w w')(o:¬S m):MapAt w' m A:=by
 have hl:=h.lt;obtain⟨es,clock,hb,r⟩:=h;exact⟨es,clock,by rw[j.heap m hl o];exact hb,r⟩
theorem Je(a b:Str):(ofL a==ofL b)=decide (a=b):=by
 have h:(ofL a==ofL b)=((ofL a).data==(ofL b).data):=rfl;rw[h,nA];simp[ofL]
def uI:List (Str×Value)->Str->Nat->Option (Nat×Value)
 |[],_,_=>none
 |(k,v)::r,x,i=>if x=k then some (i,v)else uI r x (i+1)
theorem Bj:∀(l:List MapEntry) (A:List (Str×Value)) (x:Str) (i:Nat),l.map (λe=>(e.key,e.val))=A.map (λp=>(str p.1,p.2))->Instr.findNow .string (str x) l i=some (uI A x i)
 |[],A,x,i,h=>by
  have:A=[]:=by simpa using h.symm
  subst this
  rfl
 |e::l,[],x,i,h=>by simp at h
 |e::l,(k,v)::A,x,i,h=>by
  simp only[fC,fR,gK]at h
  obtain⟨⟨J,o⟩,I⟩:=h
  simp only[Instr.findNow,J,Instr.sameNow,Je,uI,o]
  by_cases j:x=k
  ·simp[j]
  ·simp only[j,cH,rN]
   exact Bj l A x (i+1) I
theorem IQ(A:List (Str×Value))(x:Str)(i:Nat):(uI A x i).map (·.2)=kR A x:=by
 induction A generalizing i with
 |nil=>rfl
 |cons p r ih=>
  obtain⟨k,v⟩:=p;simp only[uI,kR];by_cases h:x=k
  ·simp[h]
  ·rw[aJ h,aJ (jS h),ih]
theorem Dk:∀(A:List (Str×Value)) (x:Str) (i j:Nat) (v:Value),uI A x i=some (j,v)->∃k,j=i+k/\A[k]?=some (x,v)/\∀u,yD A x u=A.set k (x,u)/\vH A x=A.eraseIdx k
 |[],_,_,_,_,h=>by cases h
 |(k,u)::r,x,i,j,v,h=>by
  simp only[uI]at h
  by_cases o:x=k
  ·rw[aO o]at h
   cases h
   subst o
   exact⟨0,rfl,rfl,λu=>⟨by simp[yD],by simp[vH]⟩⟩
  ·rw[aJ o]at h
   obtain⟨k',U,J,I⟩:=Dk r x (i+1) j v h
   exact⟨k'+1,by omega,by simpa using J,λu=>⟨by simp[yD,jS o,(I u).1],by simp[vH,jS o,(I u).2]⟩⟩
theorem xR{α β:Type}(f:α->β):∀(l:List α) (j:Nat),(l.map f).eraseIdx j=(l.eraseIdx j).map f
 |[],_=>rfl
 |_::_,0=>rfl
 |a::l,j+1=>by simp[xR f l j]
theorem zG:∀(A:List (Str×Value)) (x:Str) (i:Nat),uI A x i=none->∀u,yD A x u=A++[(x,u)]/\vH A x=A
 |[],_,_,_,_=>⟨rfl,rfl⟩
 |(k,u)::r,x,i,h,u'=>by
  simp only[uI]at h
  by_cases j:x=k
  ·rw[aO j]at h;cases h
  ·rw[aJ j]at h
   obtain⟨I,o⟩:=zG r x (i+1) h u'
   exact⟨by simp[yD,jS j,I],by simp[vH,jS j,o]⟩
section
variable{P:Program}{T kt et:TypeId}{w:World}{m:Nat}{A:List (Str×Value)}
theorem run_checkKey(j:P.underlying kt=some .string)(e:Bool)(s:ByteArray)(w:World):(Instr.checkKey e 10000 kt (.string s)).run P w=.ok () w:=by
 show(Instr.checkKey e (9999+1) kt (.string s)).run P w=.ok () w;unfold Instr.checkKey;simp[run_bind,bU j,run_pure]
theorem run_findKey(j:P.underlying kt=some .string)(x:Str)(es:List MapEntry)(h:es.map (λe=>(e.key,e.val))=A.map (λp=>(str p.1,p.2)))(w:World):(Instr.findKey kt (str x) es).run P w=.ok (uI A x 0) w:=by
 simp only[Instr.findKey,run_bind,bU j];rw[Bj es A x 0 h];rfl
theorem Eg(hT:P.underlying T=some (.map kt et))(J:P.underlying kt=some .string){z:Value}(U:∀w,(zeroValue et).run P w=.ok z w){x:Str}{ok:Bool}{K:Value->Prop}(h:MapAt w m A):
  oU P (Instr.lookup T (.map (some m)) (str x) ok) w K↔K (bif ok then .tuple #[(kR A x).getD z,.bool (kR A x).isSome]else(kR A x).getD z):=by
 obtain⟨es,clock,hb,he,_⟩:=h;have I:(Instr.lookup T (.map (some m)) (str x) ok).run P w=.ok (bif ok then .tuple #[(kR A x).getD z,.bool (kR A x).isSome]else(kR A x).getD z) w:=by
  have hg:(getObj m).run P w=.ok (.map es clock) w:=by simp[getObj,Sem.run,hb]
  simp only[Instr.lookup,run_bind,bU hT,hg,run_pure,run_checkKey J,run_findKey (A:=A) J x _ he];rw[<-IQ A x 0];cases hf:uI A x 0 with
  |none=>simp only[run_bind,U,run_pure,Option.map_none,Option.getD_none,Option.isSome_none];cases ok<;>rfl
  |some p=>obtain⟨i,v⟩:=p;simp only[run_pure,aG,Option.getD_some,bY];cases ok<;>rfl
 constructor
 ·rintro⟨u,o,j⟩;rw[I]at o;cases o;exact j
 ·exactλj=>⟨_,I,j⟩
theorem Vu(hT:P.underlying T=some (.map kt et)){ty:TypeId}{K:Value->Prop}(h:MapAt w m A):oU P (Builtin.len_ #[T] ty #[.map (some m)]) w K↔K (i64 A.length):=by
 obtain⟨es,clock,hb,he,_⟩:=h;have j:es.size=A.length:=by simpa using congrArg List.length he
 have J:(Builtin.len_ #[T] ty #[.map (some m)]).run P w=.ok (i64 A.length) w:=by
  have U:(getObj m).run P w=.ok (.map es clock) w:=by simp[getObj,Sem.run,hb]
  simp[Builtin.len_,run_bind,bU hT,U,run_pure,goInt,j]
 constructor
 ·rintro⟨u,I,o⟩;rw[J]at I;cases I;exact o
 ·exactλo=>⟨_,J,o⟩
theorem sI{m:Nat}{o:Obj}:Chg (· =m) w {w with heap:=w.heap.setIfInBounds m o}:=
 ⟨rfl,rfl,rfl,by simp,λk I j=>by simp[Array.getElem?_setIfInBounds,jS j]⟩
theorem DC(hT:P.underlying T=some (.map kt et))(hk:P.underlying kt=some .string){x:Str}{K:World->Prop}(h:MapAt w m A)
  (hK:∀w',MapAt w' m (yD A x v)->Chg (· =m) w w'->K w'):BX P (Instr.mapUpdate T (.map (some m)) (str x) v) w K:=by
 have hn:=h.nodup;have ho:=h.lt;obtain⟨es,clock,hb,he,_,hv,hc⟩:=h;have hg:(getObj m).run P w=.ok (.map es clock) w:=by simp[getObj,Sem.run,hb]
 have hh:∀o:Obj,(setObj m o).run P w=.ok () {w with heap:=w.heap.setIfInBounds m o}:=λo=>by simp[setObj,Sem.run,hb]
 have hq:es.toList.length=A.length:=by simpa using congrArg List.length he
 unfold BX;simp only[Instr.mapUpdate,run_bind,bU hT,hg,run_checkKey hk,run_findKey (A:=A) hk x _ he];cases hf:uI A x 0 with
 |none=>
  simp only[hh];refine hK _ ⟨es.push {key:=str x,val:=v,born:=clock},clock+1,by simp[ho],?_,De hn,?_,?_⟩ sI
  ·rw[(zG A x 0 hf v).1];simp[he]
  ·simp only[Array.toList_push,List.map_append,fC,jQ];exact gQ.2 ⟨hv,by simp,λa ha b hx=>by
    simp at hx;subst hx;obtain⟨e,I,rfl⟩:=lQ.1 ha;have:=hc e I;omega⟩
  ·intro e I;simp only[Array.toList_push,bH,bR]at I;rcases I with I|rfl
   ·have:=hc e I;omega
   ·exact Av _
 |some p=>
  obtain⟨j,u⟩:=p;obtain⟨k,hs,hy,hj⟩:=Dk A x 0 j u hf;have hs:j=k:=by omega
  subst hs;have hz:j<es.toList.length:=by rw[hq];exact(List.getElem?_eq_some_iff.1 hy).1
  have U:j<es.size:=by simpa using hz
  have hr:es[j].key=str x:=by
   have h1:=congrArg (λl=>l[j]?) he;simp only[List.getElem?_map,hy,aG]at h1;have h2:es.toList[j]?=some es[j]:=by simp[U]
   rw[h2]at h1;simp only[aG,aV,gK]at h1;exact h1.1
  have hkeep:(Instr.keyThatStays (((es[j]?).map (·.key)).getD (str x)) (str x)).run P w=.ok (str x) w:=by
   have:((es[j]?).map (·.key)).getD (str x)=str x:=by simp[U,hr]
   rw[this];have hsame:Instr.sameBits 10000 (str x) (str x)=true:=by
    have:(ofL x==ofL x)=true:=by rw[Je];simp
    simpa[Instr.sameBits,str]using this
   simp[Instr.keyThatStays,hsame,run_pure]
  simp only[run_bind,hkeep,hh];have J:(es.modify j λe=>{e with key:=str x,val:=v}).toList=es.toList.set j {es[j]with key:=str x,val:=v}:=by
   rw[Array.toList_modify,List.modify_eq_set];simp[U]
  refine hK _ ⟨es.modify j λe=>{e with key:=str x,val:=v},clock,by simp[ho],?_,De hn,?_,?_⟩ sI
  ·rw[J,(hj v).1,List.map_set,List.map_set,he]
  ·rw[J,List.map_set];have:(es.toList.map (·.born)).set j es[j].born=es.toList.map (·.born):=by
    apply List.ext_getElem?;intro i;rw[List.getElem?_set];split
    ·rename_i xa;subst xa;simp[U]
    ·rfl
   simp only[this];exact hv
  ·intro e I;rw[J]at I;rcases List.mem_or_eq_of_mem_set I with h1|rfl
   ·exact hc e h1
   ·exact hc es[j] (by simp)
theorem KR(hT:P.underlying T=some (.map kt et))(hk:P.underlying kt=some .string){x:Str}{ts:Array TypeId}{ty:TypeId}(h:MapAt w m A)(hs:ts[0]?=some T)
  (hK:∀w',MapAt w' m (vH A x)->Chg (· =m) w w'->K (.tuple #[]) w'):fH P (Builtin.delete_ ts ty #[.map (some m),str x]) w K:=by
 have hn:=h.nodup;have hc:=h.lt;obtain⟨es,clock,hb,he,_,hq,ho⟩:=h;have hg:(getObj m).run P w=.ok (.map es clock) w:=by simp[getObj,Sem.run,hb]
 have I:∀o:Obj,(setObj m o).run P w=.ok () {w with heap:=w.heap.setIfInBounds m o}:=λo=>by simp[setObj,Sem.run,hb]
 have hh:es.toList.length=A.length:=by simpa using congrArg List.length he
 unfold fH;have hargs:((#[.map (some m),str x]:Array Value)[0]?,(#[.map (some m),str x]:Array Value)[1]?)=(some (.map (some m)),some (str x)):=rfl;simp only[Builtin.delete_,hs,show(#[.map (some m),str x]:Array Value)[0]?=some (.map (some m))from rfl,show(#[.map (some m),str x]:Array Value)[1]?=some (str x)from rfl,run_bind,bU hT,hg,run_checkKey hk,run_findKey (A:=A) hk x _ he];cases hf:uI A x 0 with
 |none=>
  simp only[run_bind,I,run_pure];refine hK {w with heap:=w.heap.setIfInBounds m (.map es clock)} ⟨es,clock,by simp[hc],?_,Dl hn,hq,ho⟩ sI;rw[(zG A x 0 hf (.nilIface)).2,he]
 |some p=>
  obtain⟨j,u⟩:=p;obtain⟨k,hi,hx,U⟩:=Dk A x 0 j u hf;have hi:j=k:=by omega
  subst hi;have hv:j<es.toList.length:=by rw[hh];exact(List.getElem?_eq_some_iff.1 hx).1
  have ht:j<es.size:=by simpa using hv
  simp only[run_bind,I,run_pure];have J:(es.eraseIdxIfInBounds j).toList=es.toList.eraseIdx j:=by simp[Array.eraseIdxIfInBounds,ht]
  refine hK {w with heap:=w.heap.setIfInBounds m (.map (es.eraseIdxIfInBounds j) clock)} ⟨es.eraseIdxIfInBounds j,clock,by simp[hc],?_,Dl hn,?_,?_⟩ sI
  ·rw[J,(U .nilIface).2,<-xR,<-xR,he]
  ·rw[J,<-xR];exact(List.eraseIdx_sublist _ _).nodup hq
  ·intro e hj;rw[J]at hj;exact ho e ((List.eraseIdx_sublist _ _).subset hj)
theorem yX(o:MapAt (w.alloc (.map #[] 0)) w.heap.size []->K (.map (some w.heap.size)) (w.alloc (.map #[] 0))):fH P (Instr.makeMap T none) w K:=by
 unfold fH;have j:(Instr.makeMap T none).run P w=.ok (.map (some w.heap.size)) (w.alloc (.map #[] 0)):=by
  simp[Instr.makeMap,run_bind,newObj,Sem.run,run_pure]
 rw[j];exact o ⟨#[],0,jY _ _ _ rfl,by simp,by simp,by simp,by simp⟩
end
theorem Chg.at{k:Nat}{o:Obj}(j:Chg S w w')(h:w.heap[k]?=some o)(I:¬S k):w'.heap[k]?=some o:=by
 rw[j.heap k (Array.getElem?_eq_some_iff.1 h).1 I];exact h
theorem Chg.new{w1 w2:World}{a:Nat}(o:Ext w w1)(j:Chg (λk=>k=a) w1 w2)(J:w.heap.size<=a):Ext w w2:=o.then j λk I e=>by omega
theorem mJ{k:Nat}{o:Obj}(h:w.heap[k]?=some o):k<w.heap.size:=(Array.getElem?_eq_some_iff.1 h).1
theorem cI{z:List Value}(h:∀a w',a=w.heap.size->w'.heap.size=w.heap.size+1->w'.heap[a]?=some (.cells z.toArray T (0,0))->Ext w w'->K (.pointer (some ⟨a,0,none⟩)) w'):dY T z w K:=
 h _ _ rfl (by simp) (jY _ _ _ rfl) (Chg.alloc (Chg.refl _ _) _)
theorem fX{z:List Value}(h:∀a w',a=w.heap.size->w'.heap.size=w.heap.size+1->w'.heap[a]?=some (.cells z.toArray T (0,0))->Ext w w'->K (.pointer (some ⟨a,0,none⟩)) w'):jI T (.agg z.toArray) w K:=
 h _ _ rfl (by simp) (jY _ _ _ rfl) (Chg.alloc (Chg.refl _ _) _)
theorem row_new(h:∀a w',a=w.heap.size->w'.heap.size=w.heap.size+1->w'.heap[a]?=some (.cells cs.toArray T (0,0))->Ext w w'->w'=w.alloc (.cells cs.toArray T)->K (.slice (some ⟨a,0,none⟩) n n) w'):
  K (.slice (some ⟨w.heap.size,0,none⟩) n n) (w.alloc (.cells cs.toArray T)):=
 h _ _ rfl (by simp) (jY _ _ _ rfl) (Chg.alloc (Chg.refl _ _) _) rfl
theorem jZ{a off:Nat}{cs:Array Value}{K:World->Prop}(hb:w.heap[a]?=some (.cells cs T (0,0)))(I:jD v=true)(j:off<cs.size)
  (U:∀w',w'.heap.size=w.heap.size->w'.heap[a]?=some (.cells (cs.setIfInBounds off v) T (0,0))->Chg (λk=>k=a) w w'->K w'):stW 1 (.pointer (some ⟨a,off,none⟩)) v w K:=by
 have hc:v.cells.toList=[v]:=by cases v<;>first|rfl|(simp[jD]at I)
 have o:v.cells=#[v]:=by cases v<;>first|rfl|(simp[jD]at I)
 have J:(⟨a,off,none⟩:Addr).add 0=⟨a,off,none⟩:=rfl;simp only[stW,o];refine⟨rfl,?_⟩;simp only[lD,J];refine⟨I,?_,?_,?_⟩
 ·rw[cA,hb,bM];simp[j]
 ·rw[eW,hb,fN]
 ·refine U _ (by simp) ?_ (Chg.set (S:=λk=>k=a) (Chg.refl _ _) (.inl rfl) _);rw[nC,hb,fA]
theorem Ub{a:Nat}{K:World->Prop}:∀(l:List Value) (i:Nat) (cs:List Value),w.heap[a]?=some (.cells cs.toArray T (0,0))->cs.length=i+l.length->(∀v∈l,jD v=true)->
  (∀w',w'.heap.size=w.heap.size->w'.heap[a]?=some (.cells (cs.take i++l).toArray T (0,0))->Chg (λk=>k=a) w w'->K w')->lD ⟨a,0,none⟩ l i w K:=by
 intro l;induction l generalizing w with
 |nil=>
  intro i cs hb hl _ J;refine J w rfl ?_ (Chg.refl _ _);simp only[aK,cN]at hl;rw[iJ (by omega),eZ];exact hb
 |cons v r ih=>
  intro i cs hb hl U J;have j:(⟨a,0,none⟩:Addr).add i=⟨a,i,none⟩:=by rw[bG];simp
  simp only[aB]at hl;simp only[lD,j];refine⟨U v aW,?_,?_,?_⟩
  ·rw[cA,hb,bM];simp;omega
  ·rw[eW,hb,fN]
  ·have I:(w.setCell ⟨a,i,none⟩ v).heap[a]?=some (.cells (cs.set i v).toArray T (0,0)):=by
    rw[nC,hb,fA];simp
   refine ih (i+1) (cs.set i v) I (by rw[lG];omega) (λu hu=>U u (aE _ hu)) λw' hz o hc=>?_;refine J w' (by rw[hz];simp) ?_ ((Chg.set (S:=λk=>k=a) (Chg.refl _ _) (.inl rfl) _).trans hc);rw[o];have:(cs.set i v).take (i+1)++r=cs.take i++v::r:=by
    rw[pJ,List.getElem?_set_self (by omega),List.take_set_of_le (by omega)];simp
   rw[this]
theorem dD{a:Nat}{l:List Value}{K:World->Prop}(hb:w.heap[a]?=some (.cells cs.toArray T (0,0)))(hl:l.length=n)(hc:cs.length=n)(h1:l.all jD=true)
  (U:∀w',w'.heap.size=w.heap.size->w'.heap[a]?=some (.cells l.toArray T (0,0))->Chg (λk=>k=a) w w'->K w'):stW n (.pointer (some ⟨a,0,none⟩)) (.agg l.toArray) w K:=by
 rw[EO];refine⟨hl,?_⟩;refine Ub l 0 cs hb (by omega) (λv J=>gI.1 h1 v J) λw' I o j=>U w' I ?_ j;simpa using o
theorem CV{a:Nat}{w:World}{T:TypeId}{cs:List Value}{fr:Nat×Nat}(hb:w.heap[a]?=some (.cells cs.toArray T fr)):∀(n i:Nat),i+n=cs.length->bN w ⟨a,0,none⟩ i n=some (cs.drop i)
 |0,i,h=>by simp only[bN];rw[gL (by omega)]
 |n+1,i,h=>by
  have hi:i<cs.length:=by omega
  simp only[bN,bG,cA,hb,bM,aH,List.getElem?_toArray,List.getElem?_eq_getElem hi]
  rw[CV hb n (i+1) (by omega)]
  simp
theorem fQ{a:Nat}{l:List Value}{fr:Nat×Nat}{K:Value->Prop}(hb:w.heap[a]?=some (.cells l.toArray T fr))(o:l.length=n)(j:K (.agg l.toArray)):ldW true n (.pointer (some ⟨a,0,none⟩)) w K:=by
 rw[yZ];exact⟨l,by rw[CV hb n 0 (by omega)];rfl,j⟩
theorem uR{a:Nat}{l:List Value}(hb:w.heap[a]?=some (.cells cs.toArray T (0,0)))(hl:l.length=n)(I:cs.length=n)(U:l.all jD=true)
  (J:∀w',Chg (λk=>k=a) w w'->K (.agg l.toArray) w'):stW n (.pointer (some ⟨a,0,none⟩)) (.agg l.toArray) w λw5=>ldW true n (.pointer (some ⟨a,0,none⟩)) w5 λr6=>K r6 w5:=
 dD hb hl I U λw' _ o j=>fQ o hl (J w' j)
end
section
open Go
variable{w:World}{K:Value->World->Prop}{cs:List Value}{G:Nat->Prop}{T:TypeId}{i:Nat}{n:Nat}{v:Value}{w':World}{P:Program}{c:UInt8}{S:Nat->Prop}
theorem iL{t e:TypeId}{size bytes:Nat}(hT:qB P t e size bytes){base:Nat}{x:Value}{m:Nat}{xs news:List Value}{ty:TypeId}
  (J:Own w base e size v n xs)(hx:gD w T x m news)(hl:news.length=m*size)(h1:∀u∈news,jD u=true)(U:n+m<=4611686018427387904)(hb:(n+m)*bytes<=140737488355328)(hbase:base<=w.heap.size)
  (hK:∀v' w',Own w' base e size v' (n+m) (xs++news)->Chg (λk=>v.ownBlock=some k) w w'->(∀k,v'.ownBlock=some k->v.ownBlock=some k\/w.heap.size<=k)->K v' w'):
  fH P (Builtin.append_ #[t,t] ty #[v,x]) w K:=by
 obtain⟨i,z,hi,hz,h2,h3,h4⟩:=hT.get;have hsame:∀{K':Value->World->Prop},fH P (Builtin.append_ #[t,t] ty #[v,x]) w K'->∃v' w',(Builtin.append_ #[t,t] ty #[v,x]).run P w=.ok v' w'/\K' v' w':=by
  intro K' h;unfold fH at h;split at h
  ·rename_i v' w' I;exact⟨v',w',I,h⟩
  ·exact h.elim
 obtain⟨v1,w1,o,xi,xe,xn⟩:=hsame (tI hT J hx hl h1 U hb hbase λv' w' a b c=>(⟨a,b,c⟩:Own w' base e size v' (n+m) (xs++news)/\Chg (λk=>v.ownBlock=some k) w w'/\(v'=.slice none 0 0↔v=.slice none 0 0/\m=0)));unfold fH;rw[o];refine hK v1 w1 xi xe ?_;obtain⟨hc,⟨rfl,rfl⟩|⟨g,cap,cur,rfl,xf,hg,hs,xd,hy,htake⟩⟩:=J
 ·have hq:xs=[]:=cK (by simpa using hc);subst hq;obtain⟨v2,w2,ho,xh⟩:=hsame (tI hT (base:=w.heap.size) (show Own w w.heap.size e size (.slice none 0 0) 0 []from⟨by simp,.inl ⟨rfl,rfl⟩⟩) hx hl h1 U hb (aY _) λv' w' a _ _=>a);rw[o]at ho;cases ho;intro k hk;exact .inr (xh.block k hk).1
 ·obtain⟨p,c,rfl,_,xb,hcells⟩:=hx;cases p with
  |none=>
   obtain⟨rfl,rfl⟩:=xb rfl;intro k hk;have hn:news=[]:=cK (by simpa using hl);subst hn;have I:(Builtin.append_ #[t,t] ty #[.slice (some ⟨g,0,none⟩) n cap,.slice none 0 0]).run P w=.ok (.slice (some ⟨g,0,none⟩) n cap) w:=by
    simp[Builtin.append_,run_bind,bU hT.und,iU (show(P.info? e).isSome=true by rw[hi];rfl),Builtin.lenOf,run_pure,Builtin.firstCells,hs,storeCells]
   rw[o]at I;cases I;exact .inl hk
  |some a=>
   have hcell:∀j u,news[j]?=some u->w.cell? (a.add j)=some u:=by
    intro j u hu;have xc:news≠[]:=λe=>by subst e;simp at hu
    obtain⟨b,off,c',fr,hp,xg,hv⟩:=hcells xc;cases hp;rw[bG,cA,xg,bM,hv j (List.getElem?_eq_some_iff.1 hu).1,hu]
   subst h2;by_cases hroom:n+m<=cap
   ·have ht:n*i.size+news.length<=cur.size:=by rw[hl,hy,<-qT];exact eP _ hroom
    have I:=run_append_room (P:=P) w t ty e i hT.und hi g n cap cur hg a m c news hl hcell (λu hu=>tK (h1 u hu)) hroom ht;rw[o]at I;cases I;intro k hk;exact .inl (by simpa[Value.ownBlock]using hk)
   ·have holds:∀j u,xs[j]?=some u->w.cell? ((⟨g,0,none⟩:Addr).add j)=some u:=World.ownsRow.cells (base:=base) (e:=e) (size:=i.size) (v:=.slice (some ⟨g,0,none⟩) n cap) (n:=n) ⟨hc,.inr ⟨g,cap,cur,rfl,xf,hg,hs,xd,hy,htake⟩⟩ rfl;have I:=run_append_grow (P:=P) w t ty e i z hT.und hi hz ⟨g,0,none⟩ n cap xs hc holds a m c news hl hcell (by omega) (by omega) (growslice_fits (by omega) (by rw[h3];exact hb));rw[o]at I;cases I;intro k hk;right;simp[Value.ownBlock]at hk;omega
theorem nU(c:Bool)(u v:Value)(w:World)(B:List Value->Fr->World->Prop):GdW c [u] w (λJ=>J [v] w) B↔∀g,B [bif c then v else u] g w:=by
 constructor
 ·rintro⟨J,U,I,o⟩ g;cases c with
  |true=>exact o _ g _ (U rfl)
  |false=>exact o _ g _ (I rfl)
 ·intro h;refine⟨λs w'=>s=[bif c then v else u]/\w'=w,λj=>⟨by rw[j];rfl,rfl⟩,λj=>⟨by rw[j];rfl,rfl⟩,?_⟩;rintro s g w' ⟨rfl,rfl⟩;exact h g
theorem Ay(g e f:Bool)(w:World)(B:List Value->Fr->World->Prop):
  GdW g [undef] w (λJ=>eO (bif g then .bool e else undef) (bif (g&&e)then .bool f else undef) (.bool false) λt=>J [t] w) B↔∀h,B [bif g then .bool (e&&f)else undef] h w:=by
 cases g with
 |true=>
  rw[<-nU];cases e<;>exact iO
 |false=>
  constructor
  ·rintro⟨J,_,o,j⟩ h;exact j _ h _ (o rfl)
  ·intro h;exact GdW.f h
theorem Br(g e f:Bool)(w:World)(B:List Value->Fr->World->Prop):
  GdW g [undef] w (λJ=>eO (bif g then .bool e else undef) (.bool true) (bif (g&&!e)then .bool f else undef) λt=>J [t] w) B↔∀h,B [bif g then .bool (e||f)else undef] h w:=by
 cases g with
 |true=>
  rw[<-nU];cases e<;>exact iO
 |false=>
  constructor
  ·rintro⟨J,_,o,j⟩ h;exact j _ h _ (o rfl)
  ·intro h;exact GdW.f h
theorem fB(c e:Bool)(K:Value->Prop):eO (.bool c) (bif c then .bool e else undef) (.bool false) K↔K (.bool (c&&e)):=by cases c<;>exact iO
theorem kS(c e:Bool)(K:Value->Prop):eO (.bool c) (.bool true) (bif !c then .bool e else undef) K↔K (.bool (c||e)):=by cases c<;>exact iO
theorem GR(c e:Bool):isB (bif c then .bool e else undef) true=(c&&e):=by cases c<;>cases e<;>rfl
theorem GT(c e:Bool):isB (bif c then .bool e else undef) false=(c&&!e):=by cases c<;>cases e<;>rfl
theorem GdW.look{c:Bool}{A:(List Value->World->Prop)->Prop}{B:List Value->Fr->World->Prop}(e:Bool)(I:c=true->∀J:List Value->World->Prop,J [.bool e] w->A J)(o:∀g,B [bif c then .bool e else undef] g w):GdW c [undef] w A B:=by
 refine⟨λs w'=>s=[bif c then .bool e else undef]/\w'=w,λj=>I j _ ⟨by rw[j];rfl,rfl⟩,λj=>⟨by rw[j];rfl,rfl⟩,?_⟩;rintro s g w' ⟨rfl,rfl⟩;exact o g
theorem GdW.act{c:Bool}{A:(List Value->World->Prop)->Prop}{B:List Value->Fr->World->Prop}(e:Bool)(R:World->Prop)(h0:c=false->R w)(U:c=true->∀J:List Value->World->Prop,(∀w',R w'->J [.bool e] w')->A J)(I:∀g w',R w'->B [bif c then .bool e else undef] g w'):GdW c [undef] w A B:=by
 refine⟨λs w'=>s=[bif c then .bool e else undef]/\R w',λj=>U j _ λw' o=>⟨by rw[j];rfl,o⟩,λj=>⟨by rw[j];rfl,h0 j⟩,?_⟩;rintro s g w' ⟨rfl,o⟩;exact I g w' o
theorem HG(A:(Value->Prop)->Prop)(B:Value->Prop):GqW false A B↔B undef:=by
 constructor
 ·rintro⟨v,_,h,hb⟩;rw[<-h rfl];exact hb
 ·intro h;exact⟨undef,(λe=>by cases e),λ_=>rfl,h⟩
theorem ND(A:(Value->Prop)->Prop)(B:Value->Prop):GqW true A B↔∃v,A (λx=>x=v)/\B v:=by
 constructor
 ·rintro⟨v,h,_,hb⟩;exact⟨v,h rfl,hb⟩
 ·rintro⟨v,h,hb⟩;exact⟨v,λ_=>h,(λe=>by cases e),hb⟩
theorem Bs(u:List Value)(w:World)(A:(List Value->World->Prop)->Prop)(B:List Value->Fr->World->Prop):GdW false u w A B↔∀g,B u g w:=by
 constructor
 ·rintro⟨J,_,o,j⟩ g;exact j _ g _ (o rfl)
 ·intro h;exact GdW.f h
theorem GQ(c:Bool):isB undef c=false:=rfl
theorem dU(b:Bool)(A B:Prop):bB (.bool b) A B↔(b=true->A)/\(b=false->B):=iO
def Xe:=And.intro @dC<|And.intro @gZ<|And.intro @dF<|And.intro @dK<|And.intro @gA<|And.intro @gM<|And.intro @dZ<|And.intro @cG<|And.intro @fU<|And.intro @gX<|
 And.intro @gW<|And.intro @gO<|And.intro @bX<|And.intro @eX<|And.intro @dT<|And.intro @fL<|And.intro @fJ<|And.intro @fP<|And.intro @eR<|And.intro @eC<|And.intro @gC<|
 And.intro @iF<|And.intro @iH<|And.intro @iI<|And.intro @iG<|And.intro @cQ<|And.intro @bD<|And.intro @dX<|And.intro @iC<|And.intro @gB<|And.intro @hY<|And.intro @fI<|
 And.intro @iA<|And.intro @iB<|And.intro @bP<|And.intro @eG<|And.intro @iE<|And.intro @gU<|And.intro @dM<|And.intro @gN<|And.intro @fG<|And.intro @jP<|And.intro @fM<|
 And.intro @gT<|And.intro @iD<|And.intro @eK<|And.intro @eD<|And.intro @eF<|And.intro @gS<|And.intro @gP<|And.intro @cU @bW
def Xi:=And.intro @GQ<|And.intro @HG<|And.intro @ND<|And.intro @Bs<|And.intro @nU<|And.intro @Ay<|And.intro @Br<|And.intro @fB<|And.intro @kS<|And.intro @GR<|And.intro @GT<|And.intro @fO @iW
def Xh:=And.intro @bG<|And.intro @cA<|And.intro @bM<|And.intro @eW<|And.intro @fN<|And.intro @heap_drew @size_drew
def Xg:=And.intro @cZ<|And.intro @eY<|And.intro @dN<|And.intro @dO<|And.intro @dG<|And.intro @dE<|And.intro @eL<|
 And.intro @dR<|And.intro @dL<|And.intro @cS<|And.intro @dA @cW
theorem wsv:type_of%Xe:=Xe
theorem wsg:type_of%Xi:=Xi
theorem wsh:type_of%Xh:=Xh
theorem wsl:type_of%Xg:=Xg
universe u
def Xf:=And.intro @aV.{u}<|And.intro @bY.{u}<|And.intro @List.getElem?_toArray.{u}<|And.intro @List.getElem?_cons_zero.{u}<|And.intro @List.getElem?_cons_succ.{u}<|And.intro @aB.{u}<|And.intro @aK.{u}<|And.intro @aL.{u}<|And.intro @aN.{u}<|And.intro @aF.{u}<|And.intro @bJ.{u}<|And.intro @aH @cN
theorem jU:type_of%Xf.{u}:=Xf.{u}
end
end Go.Eng
namespace Go.Proofs.YtjblfcfdeaagpaaGreatDoor
section
open Go Go.Eng
variable{w:World}{K:Value->World->Prop}{cs:List Value}{G:Nat->Prop}{T:TypeId}{i:Nat}{n:Nat}{v:Value}{w':World}{P:Program}{c:UInt8}{S:Nat->Prop}
theorem mixed:Tryz.prog.follows .mixedOrders=true:=by kernel_rfl
end
end Go.Proofs.YtjblfcfdeaagpaaGreatDoor
namespace Go.Eng
section
open Go
inductive JV where
 |mk (k:Int) (b:Bool) (t:Str) (xs:List JV) (ks:List Str)
namespace JV
def k:JV->Int|.mk k _ _ _ _=>k
def b:JV->Bool|.mk _ b _ _ _=>b
def t:JV->Str|.mk _ _ t _ _=>t
def xs:JV->List JV|.mk _ _ _ xs _=>xs
def ks:JV->List Str|.mk _ _ _ _ ks=>ks
end JV
end
end Go.Eng
namespace Go.Num
section
open Go.Eng
variable{w:World}{K:Value->World->Prop}{cs:List Value}{G:Nat->Prop}{T:TypeId}{i:Nat}{n:Nat}{v:Value}{w':World}{P:Program}{c:UInt8}{S:Nat->Prop}
def isDig(c:UInt8):Bool:=decide (48<=c.toNat)&&decide (c.toNat<=57)
def dig(a:Str):Str:=match a with|[]=>[]|c::d=>if c=45 then d else c::d
def neg(a:Str):Bool:=a.head?==some 45
def goodN(a:Str):Bool:=decide (1<=(dig a).length)&&decide ((dig a).length<=100)&&(!((dig a).head?==some 48)||decide (a=[48]))&&(dig a).all isDig
def ZZ(c:UInt8):Nat:=c.toNat-48
def dec(d:Str):Nat:=d.foldl (λn c=>n*10+ZZ c) 0
def val:List Nat->Nat
 |[]=>0
 |x::r=>x+1000000000*val r
theorem HE{d:Str}(n:Nat)(h:d.all isDig=true):(d.take n).all isDig=true:=gI.2 λx j=>gI.1 h x (List.mem_of_mem_take j)
def num(a:Str):Int:=if neg a then-(dec (dig a):Int)else dec (dig a)
end
end Go.Num
namespace Go.Eng
section
open Go Go.Num
variable{w:World}{K:Value->World->Prop}{cs:List Value}{G:Nat->Prop}{T:TypeId}{i:Nat}{n:Nat}{v:Value}{w':World}{P:Program}{c:UInt8}{S:Nat->Prop}
theorem HE{α:Type}{p:α->Bool}{xs:List α}{x:α}(hi:xs[i]?=some x):(xs.take (i+1)).all p=((xs.take i).all p&&p x):=by
 rw[pJ,hi];simp
theorem VP{α:Type}{p:α->Bool}{xs:List α}{x:α}(hi:xs[i]?=some x)(h:p x=false):xs.all p=false:=by
 rw[List.all_eq_false];exact⟨x,bI hi,by simp[h]⟩
def insP:List (Str×JV)->Str->JV->List (Str×JV)
 |[],k,x=>[(k,x)]
 |(a,y)::r,k,x=>if Op.bytesLess k a then(k,x)::(a,y)::r else(a,y)::insP r k x
end
section
open Go
def kL(s:Str)(i:Nat):Int:=match s[i]? with|some b=>(b.toNat:Int)|none=>-1
def pM(s:Str)(i:Nat):Bool:=decide (128<=kL s i)&&decide (kL s i<192)
def kH(s:Str)(i:Nat):Nat:=
 let c:=kL s i
 if c<0 then 0 else if c<128 then 1
 else if 194<=c/\c<224/\pM s (i+1)=true then 2
 else if 224<=c/\c<240/\pM s (i+1)=true/\pM s (i+2)=true/\
  2048<=(c-224)*4096+(kL s (i+1)-128)*64+kL s (i+2)-128/\((c-224)*4096+(kL s (i+1)-128)*64+kL s (i+2)-128<55296\/57343<(c-224)*4096+(kL s (i+1)-128)*64+kL s (i+2)-128)then 3
 else if 240<=c/\c<245/\pM s (i+1)=true/\pM s (i+2)=true/\pM s (i+3)=true/\
  65536<=(c-240)*262144+(kL s (i+1)-128)*4096+(kL s (i+2)-128)*64+kL s (i+3)-128/\(c-240)*262144+(kL s (i+1)-128)*4096+(kL s (i+2)-128)*64+kL s (i+3)-128<=1114111 then 4
 else 0
def b8(n:Nat):UInt8:=UInt8.ofNat n
def wrM(n:Nat):Str:=
 if n<128 then [b8 n]else if n<2048 then [b8 (192+n/64),b8 (128+n%64)]
 else if n<65536 then [b8 (224+n/4096),b8 (128+n/64%64),b8 (128+n%64)]
 else [b8 (240+n/262144),b8 (128+n/4096%64),b8 (128+n/64%64),b8 (128+n%64)]
def ZV(n:Nat):UInt8:=if n<10 then b8 (48+n)else b8 (87+n)
def ZX(c:UInt8):Str:=
 if c=34\/c=92 then [92,c]else if c=8 then [92,98]else if c=12 then [92,102]else if c=10 then [92,110]else if c=13 then [92,114]else if c=9 then [92,116]
 else if c<32 then [92,117,48,48,b8 (48+c.toNat/16),ZV (c.toNat%16)]else [c]
def isDig(c:Int):Bool:=decide (48<=c)&&decide (c<=57)
def GW(c:Int):Int:=if 48<=c/\c<=57 then c-48 else if 97<=c/\c<=102 then c-87 else if 65<=c/\c<=70 then c-55 else-1
def VE(s:Str)(i:Nat):Int:=
 if i+6<=s.length/\kL s i=92/\kL s (i+1)=117/\0<=GW (kL s (i+2))/\0<=GW (kL s (i+3))/\0<=GW (kL s (i+4))/\0<=GW (kL s (i+5))then
  ((GW (kL s (i+2))*16+GW (kL s (i+3)))*16+GW (kL s (i+4)))*16+GW (kL s (i+5))else-1
def ZW(s:Str)(i:Nat):Option (Str×Nat):=
 let c:=kL s (i+1)
 if c=34 then some ([34],2)else if c=92 then some ([92],2)else if c=47 then some ([47],2)else if c=98 then some ([8],2)else if c=102 then some ([12],2)
 else if c=110 then some ([10],2)else if c=114 then some ([13],2)else if c=116 then some ([9],2)
 else
  let a:=VE s i
  let b:=VE s (i+6)
  if a<0\/56320<=a/\a<=57343 then none
  else if 55296<=a/\a<=56319 then(if b<56320\/57343<b then none else some (wrM (65536+(a-55296)*1024+b-56320).toNat,12))
  else some (wrM a.toNat,6)
end
section
open Go
variable{w:World}{K:Value->World->Prop}{cs:List Value}{G:Nat->Prop}{T:TypeId}{i:Nat}{n:Nat}{v:Value}{w':World}{P:Program}{c:UInt8}{S:Nat->Prop}
def bt(s:Str)(i:Nat):Nat:=(s.getD i 0).toNat
theorem An(s:Str)(i:Nat):bt s i<256:=oG _
theorem oY{s:Str}(h:i<s.length):kL s i=(bt s i:Int):=by
 unfold kL bt;rw[List.getElem?_eq_getElem h,List.getD_eq_getElem?_getD,List.getElem?_eq_getElem h];rfl
theorem ED{s:Str}(h:s.length<=i):kL s i=-1:=by
 unfold kL;rw[List.getElem?_eq_none h]
theorem get_bt(s:Str)(i:Nat):((ofL s).get! i).toNat=bt s i:=by
 unfold bt;congr 1;show(s.toArray)[i]! =s.getD i 0;rw[List.getElem!_toArray,List.getElem!_eq_getElem?_getD,List.getD_eq_getElem?_getD];rfl
theorem JI(s:Str)(i:Nat):Utf8.decode (ofL s) i=Lib.decodeN (s.length-i) (bt s i) (bt s (i+1)) (bt s (i+2)) (bt s (i+3)):=by
 rw[Lib.decode_at,get_bt,get_bt,get_bt,get_bt,jG]
abbrev mor(L k b:Nat):Prop:=k<L/\128<=b/\b<192
abbrev c3(b0 b1 b2:Nat):Nat:=(b0-224)*4096+(b1-128)*64+(b2-128)
abbrev c4(b0 b1 b2 b3:Nat):Nat:=(b0-240)*262144+(b1-128)*4096+(b2-128)*64+(b3-128)
def QP(L b0 b1 b2 b3:Nat):Nat×Nat:=
 if b0<128 then(b0,1)
 else if 194<=b0/\b0<224/\mor L 1 b1 then((b0-192)*64+(b1-128),2)
 else if 224<=b0/\b0<240/\mor L 1 b1/\mor L 2 b2/\2048<=c3 b0 b1 b2/\(c3 b0 b1 b2<55296\/57343<c3 b0 b1 b2)then(c3 b0 b1 b2,3)
 else if 240<=b0/\b0<245/\mor L 1 b1/\mor L 2 b2/\mor L 3 b3/\65536<=c4 b0 b1 b2 b3/\c4 b0 b1 b2 b3<=1114111 then(c4 b0 b1 b2 b3,4)
 else(65533,1)
theorem Hj{L b0 b1 b2 b3:Nat}(J:b0<256)(I:b1<256)(o:b2<256)(j:b3<256):Lib.decodeN L b0 b1 b2 b3=QP L b0 b1 b2 b3:=by
 have m1:(1<L/\b1/64=2)↔mor L 1 b1:=by unfold mor;omega
 have m2:(2<L/\b2/64=2)↔mor L 2 b2:=by unfold mor;omega
 have m3:(3<L/\b3/64=2)↔mor L 3 b3:=by unfold mor;omega
 unfold Lib.decodeN QP;simp only[m1,m2,m3];by_cases a0:b0<128
 ·rw[aO a0,aO a0]
 rw[aJ a0,aJ a0];by_cases a1:b0<194
 ·rw[aJ (show¬(194<=b0/\b0<224/\mor L 1 b1)fromλh=>by omega),aJ (show¬(224<=b0/\b0<240/\_)fromλh=>by omega),aJ (show¬(240<=b0/\b0<245/\_)fromλh=>by omega)];rw[aJ (show¬(b0/16=14/\_)fromλh=>by omega),aJ (show¬(b0/8=30/\_)fromλh=>by omega)];by_cases a2:b0/32=6/\mor L 1 b1
  ·rw[aO a2,aJ (by omega)]
  ·rw[aJ a2]
 by_cases a2:b0<224
 ·rw[aJ (show¬(224<=b0/\b0<240/\_)fromλh=>by omega),aJ (show¬(240<=b0/\b0<245/\_)fromλh=>by omega)];rw[aJ (show¬(b0/16=14/\_)fromλh=>by omega),aJ (show¬(b0/8=30/\_)fromλh=>by omega)];by_cases q:mor L 1 b1
  ·have q':=q;unfold mor at q';rw[aO ⟨by omega,q⟩,aO (by omega),aO ⟨by omega,a2,q⟩];apply iY
   ·show b0%32*64+b1%64=(b0-192)*64+(b1-128);omega
   ·rfl
  ·rw[aJ (λh=>q h.2),aJ (λh=>q h.2.2)]
 by_cases a3:b0<240
 ·rw[aJ (show¬(194<=b0/\b0<224/\mor L 1 b1)fromλh=>by omega),aJ (show¬(240<=b0/\b0<245/\_)fromλh=>by omega)];rw[aJ (show¬(b0/32=6/\_)fromλh=>by omega),aJ (show¬(b0/8=30/\_)fromλh=>by omega)];by_cases q:mor L 1 b1/\mor L 2 b2
  ·have q':=q;unfold mor at q';have e:b0%16*4096+b1%64*64+b2%64=c3 b0 b1 b2:=by unfold c3;omega
   have e2:c3 b0 b1 b2<=65535:=by unfold c3;omega
   rw[aO ⟨by omega,q.1,q.2⟩];simp only[e];by_cases r:2048<=c3 b0 b1 b2/\(c3 b0 b1 b2<55296\/57343<c3 b0 b1 b2)
   ·rw[aO ⟨r.1,by omega⟩,aO ⟨by omega,a3,q.1,q.2,r.1,r.2⟩]
   ·rw[aJ (by omega),aJ (λh=>r ⟨h.2.2.2.2.1,h.2.2.2.2.2⟩)]
  ·rw[aJ (λh=>q ⟨h.2.1,h.2.2⟩),aJ (λh=>q ⟨h.2.2.1,h.2.2.2.1⟩)]
 ·rw[aJ (show¬(194<=b0/\b0<224/\mor L 1 b1)fromλh=>by omega),aJ (show¬(224<=b0/\b0<240/\_)fromλh=>by omega)];rw[aJ (show¬(b0/32=6/\_)fromλh=>by omega),aJ (show¬(b0/16=14/\_)fromλh=>by omega)];by_cases q:mor L 1 b1/\mor L 2 b2/\mor L 3 b3
  ·have q':=q;unfold mor at q';by_cases a4:b0<248
   ·have e:b0%8*262144+b1%64*4096+b2%64*64+b3%64=c4 b0 b1 b2 b3:=by unfold c4;omega
    rw[aO ⟨by omega,q.1,q.2.1,q.2.2⟩];simp only[e];by_cases r:65536<=c4 b0 b1 b2 b3/\c4 b0 b1 b2 b3<=1114111
    ·rw[aO ⟨r.1,by omega⟩,aO ⟨by omega,by have:=r.2;unfold c4 at this;omega,q.1,q.2.1,q.2.2,r.1,r.2⟩]
    ·rw[aJ (by omega),aJ (λh=>r ⟨h.2.2.2.2.2.1,h.2.2.2.2.2.2⟩)]
   ·rw[aJ (show¬(b0/8=30/\_)fromλh=>by omega),aJ (show¬(240<=b0/\b0<245/\_)fromλh=>by omega)]
  ·rw[aJ (λh=>q ⟨h.2.1,h.2.2.1,h.2.2.2⟩),aJ (λh=>q ⟨h.2.2.1,h.2.2.2.1,h.2.2.2.2.1⟩)]
theorem Ks{s:Str}{k:Nat}:pM s (i+k)=true↔mor (s.length-i) k (bt s (i+k)):=by
 unfold pM mor;rw[bL,decide_eq_true_iff,decide_eq_true_iff];rcases nL (i+k) s.length with h|h
 ·rw[oY h];omega
 ·rw[ED h];omega
def NX(L b0 b1 b2 b3:Nat):Nat:=
 if b0<128 then 1
 else if 194<=b0/\b0<224/\mor L 1 b1 then 2
 else if 224<=b0/\b0<240/\mor L 1 b1/\mor L 2 b2/\2048<=c3 b0 b1 b2/\(c3 b0 b1 b2<55296\/57343<c3 b0 b1 b2)then 3
 else if 240<=b0/\b0<245/\mor L 1 b1/\mor L 2 b2/\mor L 3 b3/\65536<=c4 b0 b1 b2 b3/\c4 b0 b1 b2 b3<=1114111 then 4
 else 0
set_option maxHeartbeats 4000000 in
theorem BZ{s:Str}(h:i<s.length):kH s i=NX (s.length-i) (bt s i) (bt s (i+1)) (bt s (i+2)) (bt s (i+3)):=by
 unfold kH NX;simp only[Ks,oY h];by_cases j:i+1<s.length
 ·by_cases o:i+2<s.length
  ·by_cases I:i+3<s.length
   ·simp only[oY j,oY o,oY I,mor,c3,c4]
    repeat' split
    all_goals first|rfl|(exfalso;omega)
   ·simp only[oY j,oY o,mor,c3,c4]
    repeat' split
    all_goals first|rfl|(exfalso;omega)
  ·simp only[oY j,mor,c3,c4]
   repeat' split
   all_goals first|rfl|(exfalso;omega)
 ·simp only[mor,c3,c4]
  repeat' split
  all_goals first|rfl|(exfalso;omega)
theorem TI(s:Str)(i:Nat)(h:i<s.length):UInt8.ofNat (bt s i)=s[i]:=by
 unfold bt;rw[List.getD_eq_getElem?_getD,List.getElem?_eq_getElem h];simp
theorem zM{s:Str}(h:i<s.length):(s.drop i).take 1=[UInt8.ofNat (bt s i)]:=by
 rw[TI s i h,dQ h];rfl
theorem sA{s:Str}(h:i<s.length):(s.drop i).take (n+1)=UInt8.ofNat (bt s i)::(s.drop (i+1)).take n:=by
 rw[TI s i h,dQ h];rfl
set_option maxHeartbeats 4000000 in
theorem Gj{s:Str}(h:i<s.length)(j:kH s i=0):Utf8.decode (ofL s) i=(65533,1):=by
 rw[JI,Hj (An _ _) (An _ _) (An _ _) (An _ _)];rw[BZ h]at j;unfold NX at j;unfold QP
 repeat' split at j
 all_goals first|(exfalso;omega)|skip
 all_goals(repeat rw[aJ (by assumption)])
structure Nz(s:Str)(i n c:Nat):Prop where
 dec:Utf8.decode (ofL s) i=(c,n)
 fits:i+n<=s.length
 small:n<=4
 bytes:Lib.encodeRune c=(s.drop i).take n
 low:n=1->c=bt s i/\c<128
 high:2<=n->128<=c/\128<=bt s i
 top:c<=1114111
 val:c<55296\/57343<c
theorem xX(l:List Int):(l.map λx=>x.toNat.toUInt8)=l.map λx=>UInt8.ofNat x.toNat:=rfl
set_option maxHeartbeats 8000000 in
theorem tS{s:Str}(h:i<s.length)(o:kH s i≠0):∃c,Nz s i (kH s i) c:=by
 have e:=JI s i;rw[Hj (An _ _) (An _ _) (An _ _) (An _ _)]at e;have j:=BZ h;have l0:=An s i;generalize I:kH s i=n at*
 unfold NX at j;unfold QP at e;by_cases a1:bt s i<128
 ·rw[aO a1]at j e;subst j;refine⟨_,e,by omega,by omega,?_,λ_=>⟨rfl,a1⟩,λh=>by omega,by omega,by omega⟩;rw[zM h,Lib.encodeRune,Lib.encodeRuneZ_one (by omega) (by omega)];simp
 rw[aJ a1]at j e;by_cases a2:194<=bt s i/\bt s i<224/\mor (s.length-i) 1 (bt s (i+1))
 ·rw[aO a2]at j e;subst j;obtain⟨a2,a3,a4,a5,a6⟩:=a2;refine⟨_,e,by omega,by omega,?_,λh=>by omega,λh=>by omega,by omega,by omega⟩;rw[sA h,zM (by omega),Lib.encodeRune,Lib.encodeRuneZ_two (by omega) (by omega)];simp only[fC,jQ,xX];rw[show((192:Int)+(((bt s i-192)*64+(bt s (i+1)-128):Nat):Int)/64).toNat=bt s i by omega,show((128:Int)+(((bt s i-192)*64+(bt s (i+1)-128):Nat):Int)%64).toNat=bt s (i+1)by omega]
 rw[aJ a2]at j e;by_cases a3:224<=bt s i/\bt s i<240/\mor (s.length-i) 1 (bt s (i+1))/\mor (s.length-i) 2 (bt s (i+2))/\2048<=c3 (bt s i) (bt s (i+1)) (bt s (i+2))/\(c3 (bt s i) (bt s (i+1)) (bt s (i+2))<55296\/57343<c3 (bt s i) (bt s (i+1)) (bt s (i+2)))
 ·rw[aO a3]at j e;subst j;obtain⟨p1,p2,⟨p3,p4,p5⟩,⟨p6,p7,p8⟩,p9,p10⟩:=a3;have q3:c3 (bt s i) (bt s (i+1)) (bt s (i+2))=(bt s i-224)*4096+(bt s (i+1)-128)*64+(bt s (i+2)-128):=rfl;refine⟨_,e,by omega,by omega,?_,λh=>by omega,λh=>by omega,by omega,by omega⟩;rw[sA h,sA (by omega),zM (by omega),Lib.encodeRune,Lib.encodeRuneZ_three (by omega)];simp only[fC,jQ,xX];rw[show((224:Int)+((c3 (bt s i) (bt s (i+1)) (bt s (i+2)):Nat):Int)/4096).toNat=bt s i by unfold c3;omega,show((128:Int)+((c3 (bt s i) (bt s (i+1)) (bt s (i+2)):Nat):Int)/64%64).toNat=bt s (i+1)by unfold c3;omega,show((128:Int)+((c3 (bt s i) (bt s (i+1)) (bt s (i+2)):Nat):Int)%64).toNat=bt s (i+2)by unfold c3;omega]
 rw[aJ a3]at j e;by_cases a4:240<=bt s i/\bt s i<245/\mor (s.length-i) 1 (bt s (i+1))/\mor (s.length-i) 2 (bt s (i+2))/\mor (s.length-i) 3 (bt s (i+3))/\65536<=c4 (bt s i) (bt s (i+1)) (bt s (i+2)) (bt s (i+3))/\c4 (bt s i) (bt s (i+1)) (bt s (i+2)) (bt s (i+3))<=1114111
 ·rw[aO a4]at j e;subst j;obtain⟨p1,p2,⟨p3,p4,p5⟩,⟨p6,p7,p8⟩,⟨p9,p10,p11⟩,p12,p13⟩:=a4;refine⟨_,e,by omega,by omega,?_,λh=>by omega,λh=>by omega,by omega,by omega⟩;rw[sA h,sA (by omega),sA (by omega),zM (by omega),Lib.encodeRune,Lib.encodeRuneZ_four (by omega) (by omega)];simp only[fC,jQ,xX];rw[show((240:Int)+((c4 (bt s i) (bt s (i+1)) (bt s (i+2)) (bt s (i+3)):Nat):Int)/262144).toNat=bt s i by unfold c4;omega,show((128:Int)+((c4 (bt s i) (bt s (i+1)) (bt s (i+2)) (bt s (i+3)):Nat):Int)/4096%64).toNat=bt s (i+1)by unfold c4;omega,show((128:Int)+((c4 (bt s i) (bt s (i+1)) (bt s (i+2)) (bt s (i+3)):Nat):Int)/64%64).toNat=bt s (i+2)by unfold c4;omega,show((128:Int)+((c4 (bt s i) (bt s (i+1)) (bt s (i+2)) (bt s (i+3)):Nat):Int)%64).toNat=bt s (i+3)by unfold c4;omega]
 rw[aJ a4]at j;exact absurd j o
def wJ(s:Str)(i:Nat):Nat:=max (kH s i) 1
theorem Nf{s:Str}(h:i<s.length):(Utf8.decode (ofL s) i).2=wJ s i:=by
 unfold wJ;by_cases j:kH s i=0
 ·rw[Gj h j,j];rfl
 ·obtain⟨c,o⟩:=tS h j;rw[o.dec];show kH s i=max (kH s i) 1;omega
theorem JW{s:Str}(h:i<s.length):i+wJ s i<=s.length:=by
 unfold wJ;by_cases j:kH s i=0
 ·rw[j];show i+1<=_;omega
 ·obtain⟨c,o⟩:=tS h j;have:=o.fits;omega
theorem LG(s:Str)(i:Nat):1<=wJ s i:=by unfold wJ;omega
theorem rune_end{s:Str}(h:s.length<=i):kH s i=0:=by
 unfold kH;simp only[ED h];rfl
theorem TN(h:n<55296\/57343<n/\n<=1114111):Lib.encodeRune n=wrM n:=by
 unfold Lib.encodeRune wrM b8;by_cases I:n<128
 ·rw[Lib.encodeRuneZ_one (by omega) (by omega),aO I];simp
 rw[aJ I];by_cases o:n<2048
 ·rw[Lib.encodeRuneZ_two (by omega) (by omega),aO o];simp only[fC,jQ,xX];rw[show((192:Int)+(n:Int)/64).toNat=192+n/64 by omega,show((128:Int)+(n:Int)%64).toNat=128+n%64 by omega]
 rw[aJ o];by_cases j:n<65536
 ·rw[Lib.encodeRuneZ_three (by omega),aO j];simp only[fC,jQ,xX];rw[show((224:Int)+(n:Int)/4096).toNat=224+n/4096 by omega,show((128:Int)+(n:Int)/64%64).toNat=128+n/64%64 by omega,show((128:Int)+(n:Int)%64).toNat=128+n%64 by omega]
 ·rw[Lib.encodeRuneZ_four (by omega) (by omega),aJ j];simp only[fC,jQ,xX];rw[show((240:Int)+(n:Int)/262144).toNat=240+n/262144 by omega,show((128:Int)+(n:Int)/4096%64).toNat=128+n/4096%64 by omega,show((128:Int)+(n:Int)/64%64).toNat=128+n/64%64 by omega,show((128:Int)+(n:Int)%64).toNat=128+n%64 by omega]
end
end Go.Eng
namespace Go.Lex
section
open Go Go.Eng Go.Num
structure Tok where
 k:Int
 t:Str
 a:Int
deriving DecidableEq
def gV(c:UInt8):Bool:=(97<=c&&c<=122)||(65<=c&&c<=90)||c==95
def kU(c:UInt8):Bool:=48<=c&&c<=57
def iS(c:UInt8):Bool:=gV c||kU c||c==45
def fT(p:UInt8->Bool):Str->Nat
 |[]=>0
 |c::r=>if p c then fT p r+1 else 0
def qC(p s:Str):Bool:=p.isPrefixOf s
def iZ:Nat->Str->Nat×Int
 |0,_=>(0,0)
 |_+1,[]=>(0,0)
 |n+1,c::r=>
  if c==32||c==9||c==13 then((iZ n r).1+1,(iZ n r).2)
  else if c==35||qC [47,47] (c::r)then
   let k:=fT (λb=>b !=10) (c::r)
   ((iZ n ((c::r).drop k)).1+k,(iZ n ((c::r).drop k)).2)
  else if qC [47,42] (c::r)then
   let i:=Lib.index (r.drop 1) [42,47]
   if i<0 then(0,40)
   else((iZ n ((c::r).drop (i.toNat+4))).1+(i.toNat+4),(iZ n ((c::r).drop (i.toNat+4))).2)
  else(0,0)
def nR(k:Nat)(r:Nat×Int):Nat×Int:=if r.2=0 then(r.1+k,0)else(0,r.2)
def escOk(c:UInt8):Bool:=c==34||c==92||c==110||c==116||c==114||c==36
mutual
def pK:Nat->Str->Nat->Nat×Int
 |0,_,_=>(0,40)
 |_+1,[],_=>(0,40)
 |n+1,c::r,d=>
  if c==34 then(1,0)
  else if c==10 then(0,40)
  else if c==92 then
   match r with
   |[]=>(0,40)
   |e::r'=>if escOk e then nR 2 (pK n r' d)else(0,40)
  else if qC [36,123] (c::r)then
   if 24<d+1 then(0,7)
   else
    let i:=Ae n (r.drop 1) (d+1)
    if i.2=0 then nR (i.1+2) (pK n ((r.drop 1).drop i.1) d)else(0,i.2)
  else nR 1 (pK n r d)
def Ae:Nat->Str->Nat->Nat×Int
 |0,_,_=>(0,40)
 |_+1,[],_=>(0,40)
 |n+1,c::r,d=>
  if c==125 then(1,0)
  else if c==10 then(0,40)
  else if c==123 then
   if 24<d+1 then(0,7)
   else
    let i:=Ae n r (d+1)
    if i.2=0 then nR (i.1+1) (Ae n (r.drop i.1) d)else(0,i.2)
  else if c==34 then
   let i:=pK n r d
   if i.2=0 then nR (i.1+1) (Ae n (r.drop i.1) d)else(0,i.2)
  else nR 1 (Ae n r d)
end
def kP:Str->Str
 |[]=>[]
 |c::r=>if c==92||c==34||c==36 then 92::c::kP r else if c==9 then 92::116::kP r else if c==13 then 92::114::kP r else c::kP r
def mI:Nat->Str->Str->Str×Nat×Int
 |0,_,_=>([],0,40)
 |n+1,name,s=>
  let k:=fT (λb=>b !=10) s
  let line:=s.take k
  if line.drop (fT (λb=>b==32||b==9) line)=name then([],k,0)
  else if s.length<=k then([],0,40)
  else
   let x:=mI n name (s.drop (k+1))
   if x.2.2=0 then(kP line++[92,110]++x.1,x.2.1+(k+1),0)else([],0,x.2.2)
def jT(s:Str):Str×Nat×Int:=
 let n:=if gV ((s.drop 2).headD 0)then fT iS (s.drop 2)else 0
 if n=0 then([],0,40)
 else if(s.drop (2+n)).head?=some 10 then
  let x:=mI (s.length+1) ((s.drop 2).take n) (s.drop (2+n+1))
  if x.2.2=0 then(x.1,x.2.1+(2+n+1),0)else([],0,x.2.2)
 else([],0,40)
def uO:List Str:=[[61,61],[33,61],[60,61],[62,61],[38,38],[124,124]]
def AD:Str:=[123,125,91,93,40,41,61,43,45,42,47,37,60,62,33,63,58,44,46]
def qU(s:Str):Str:=
 if uO.contains (s.take 2)then s.take 2 else if AD.contains (s.headD 0)then s.take 1 else []
def nM(s:Str):Tok×Nat×Int:=
 let c:=s.headD 0
 if c==10 then(⟨5,[10],0⟩,1,0)
 else if gV c then
  let n:=fT iS s
  (⟨1,s.take n,0⟩,n,if 32<n then 3 else 0)
 else if kU c then
  let n:=fT kU s
  (⟨2,s.take n,0⟩,n,if(n<s.length&&gV ((s.drop n).headD 0))||(c==48&&1<n)then 40 else if goodN (s.take n)then 0 else 3)
 else if c==34 then
  let r:=pK (s.length+1) (s.drop 1) 0
  if r.2=0 then(⟨3,(s.drop 1).take (r.1-1),0⟩,r.1+1,0)else(⟨0,[],0⟩,0,r.2)
 else if qC [60,60] s then
  let r:=jT s
  (⟨3,r.1,0⟩,r.2.1,r.2.2)
 else(⟨4,qU s,0⟩,(qU s).length,if(qU s).length=0 then 40 else 0)
def Db:Nat->Str->Nat->Option Nat
 |0,_,_=>none
 |n+1,s,i=>if s.length<=i then none else if kH s i=0 then some i else Db n s (i+wJ s i)
inductive RS where
 |ok (l:List Tok)
 |bad (code at_:Int)
deriving DecidableEq
def mU:Nat->Str->Nat->Nat->RS
 |0,_,_,_=>.bad 0 0
 |n+1,s,at_,cnt=>
  let k:=iZ (s.length+1) s
  let r:=s.drop k.1
  if k.2≠0 then .bad k.2 (at_+k.1:Nat)
  else if r=[]then .ok [⟨0,[],(at_+k.1:Nat)⟩]
  else
   let o:=nM r
   if o.2.2≠0 then .bad o.2.2 (at_+k.1:Nat)
   else if cnt=4096 then .bad 3 (at_+k.1:Nat)
   else match mU n (r.drop o.2.1) (at_+k.1+o.2.1) (cnt+1)with
    |.ok l=>.ok (⟨o.1.k,o.1.t,(at_+k.1:Nat)⟩::l)
    |x=>x
def nI(s:Str):RS:=
 if 16384<s.length then .bad 3 0
 else match Db (s.length+1) s 0 with
  |some i=>.bad 31 (i:Nat)
  |none=>mU (s.length+1) s 0 0
end
end Go.Lex
namespace Go.Syn
section
open Go Go.Eng Go.Lex
structure Ex where
 k:Int
 t:Str
 args:List Nat
 keys:List Str
 a:Int
deriving DecidableEq
structure Atr where
 n:Str
 e:Nat
 a:Int
deriving DecidableEq
structure Blk where
 typ:Str
 labels:List Str
 attrs:List Atr
 blocks:List Nat
 a:Int
deriving DecidableEq
structure Fl where
 ex:List Ex
 bl:List Blk
 top:List Nat
deriving DecidableEq
structure PS where
 toks:List Tok
 i:Nat
 off:Int
 deep:Nat
 quiet:Bool
 ex:List Ex
 bl:List Blk
inductive R (α:Type) where
 |ok (x:α) (s:PS)
 |err (c a:Int)
def R.bind{α β:Type}(r:R α)(f:α->PS->R β):R β:=match r with
 |.ok x s=>f x s
 |.err c a=>.err c a
def kF:List Tok->Nat
 |[]=>0
 |t::r=>if t.k=5 then kF r+1 else 0
def bE(s:PS):PS:=if s.quiet=true then{s with i:=s.i+kF (s.toks.drop s.i)}else s
def mR(s:PS):Tok:=s.toks.getD s.i ⟨0,[],0⟩
def cur(s:PS):Tok:={mR (bE s)with a:=(mR (bE s)).a+s.off}
def step1(s:PS):PS:={s with i:=s.i+1}
def kI(s:PS):PS:=if(cur s).k≠0 then step1 (bE s)else bE s
def isS(s:PS)(w:Str):Bool:=decide ((cur s).k=4)&&decide ((cur s).t=w)
def cD(s:PS)(w:Str):Bool×PS:=if isS s w=true then(true,step1 (bE s))else(false,bE s)
def oI(s:PS)(w:Str):R Unit:=if isS s w=true then .ok () (step1 (bE s))else .err 50 (cur s).a
def mH(s:PS)(k:Int):R Tok:=if(cur s).k=k then .ok (cur s) (kI s)else .err 50 (cur s).a
def iR(s:PS):PS:={bE s with i:=(bE s).i+kF (s.toks.drop (bE s).i)}
def qV(s:PS)(e:Ex):R Nat:=.ok s.ex.length {s with ex:=s.ex++[e]}
def within{α:Type}(s:PS)(a:Int)(quiet:Bool)(f:PS->R α):R α:=
 if s.deep=24 then .err 7 a
 else(f {s with deep:=s.deep+1,quiet:=quiet}).bind λx s'=>.ok x {s' with deep:=s.deep,quiet:=s.quiet}
def jB:Str->Str
 |[]=>[]
 |[c]=>if c=92 then []else [c]
 |c::e::r=>if c=92 then(if e=110 then 10 else if e=116 then 9 else if e=114 then 13 else e)::jB r else c::jB (e::r)
mutual
def Ar:Nat->Str->Int->Nat
 |0,_,_=>0
 |_+1,[],_=>0
 |n+1,c::r,d=>
  if c=123 then 1+Ar n r (d+1)
  else if c=125 then(if d-1=0 then 1 else 1+Ar n r (d-1))
  else if c=34 then(1+zT n r)+Ar n (r.drop (zT n r)) d
  else 1+Ar n r d
def zT:Nat->Str->Nat
 |0,_=>0
 |_+1,[]=>0
 |n+1,c::r=>
  if c=34 then 1
  else if c=92 then(match r with|[]=>1|_::r'=>2+zT n r')
  else if qC [36,123] (c::r)=true then(1+Ar n r 0)+zT n (r.drop (Ar n r 0))
  else 1+zT n r
end
def CW(s:Str):Nat:=Ar (s.length+1) s 0
def insP:Str->Option (Nat×Nat)
 |[]=>none
 |[_]=>none
 |c::e::r=>
  if c=92 then(insP r).map λx=>(x.1+2,x.2+2)
  else if c=36/\e=123 then some (0,1+CW (e::r))
  else(insP (e::r)).map λx=>(x.1+1,x.2+1)
def pF(s:PS)(t:Tok):R Str:=if(insP t.t).isSome=true then .err 50 t.a else .ok (jB t.t) s
def oP(E:PS->R Nat)(s:PS)(t:Str)(a:Int):R Nat:=match nI t with
 |.bad c b=>.err c (a+b)
 |.ok l=>(E ⟨l,0,a,s.deep,false,s.ex,s.bl⟩).bind λx q=>(mH q 0).bind λ_ q'=>.ok x {s with ex:=q'.ex,bl:=q'.bl}
def nD(E:PS->R Nat):Nat->PS->Str->Int->List Nat->List Str->R (List Nat×List Str)
 |0,_,_,_,_,_=>.err 0 0
 |n+1,s,rest,a,us,ks=>
  if rest=[]then .ok (us,ks) s
  else match insP rest with
   |none=>.ok (us++[s.ex.length],ks++[[116]]) {s with ex:=s.ex++[⟨5,jB rest,[],[],a⟩]}
   |some (i,e)=>
    let s1:=if 0<i then{s with ex:=s.ex++[⟨5,jB (rest.take i),[],[],a⟩]}else s
    let as1:=if 0<i then us++[s.ex.length]else us
    let ks1:=if 0<i then ks++[[116]]else ks
    if i<e then
     (within s1 (a+i) false λq=>oP E q ((rest.drop (i+2)).take (e-1-(i+2))) (a+i+2)).bind λx s2=>nD E n s2 (rest.drop e) (a+e) (as1++[x]) (ks1++[[101]])
    else nD E n s1 (rest.drop e) (a+e) as1 ks1
def yI(E:PS->R Nat)(s:PS)(t:Tok):R Nat:=
 if(insP t.t).isSome=true then(nD E (t.t.length+1) s t.t (t.a+1) [] []).bind λx s'=>qV s' ⟨6,[],x.1,x.2,t.a⟩
 else qV s ⟨5,jB t.t,[],[],t.a⟩
def GP:Str:=[102,111,114]
def kIn:Str:=[105,110]
def qL(t:Str):Int:=if t=[110,117,108,108]then 1 else if t=[116,114,117,101]then 2 else if t=[102,97,108,115,101]then 3 else 9
def rE(E:PS->R Nat)(w:Str):Nat->PS->List Nat->R (List Nat)
 |0,_,_=>.err 0 0
 |n+1,s,out=>
  if(cD s w).1=true then .ok out (cD s w).2
  else if out=[]then(E (cD s w).2).bind λx s'=>rE E w n s' (out++[x])
  else(oI (cD s w).2 [44]).bind λ_ s1=>
   if(cD s1 w).1=true then .ok out (cD s1 w).2
   else(E (cD s1 w).2).bind λx s'=>rE E w n s' (out++[x])
def Dd(E:PS->R Nat)(w:Str)(s:PS):R (List Nat):=rE E w (s.toks.length+1) s []
def yL(E:PS->R Nat)(s:PS)(a:Int):R Ex:=
 let s1:=step1 s
 if(cur s1).k≠1\/(cur s1).t≠GP then(Dd E [93] (bE s1)).bind λus s'=>.ok ⟨7,[],us,[],a⟩ s'
 else(mH (step1 (bE s1)) 1).bind λt s2=>(mH s2 1).bind λu s3=>
  if u.t≠kIn then .err 50 u.a
  else(E s3).bind λx s4=>(oI s4 [58]).bind λ_ s5=>(E s5).bind λy s6=>(oI s6 [93]).bind λ_ s7=>.ok ⟨29,t.t,[x,y],[],a⟩ s7
def Bw(E:PS->R Nat)(a:Int):Nat->PS->List Nat->List Str->R Ex
 |0,_,_,_=>.err 0 0
 |n+1,s,us,ks=>
  if(cD s [125]).1=true then .ok ⟨8,[],us,ks,a⟩ (cD s [125]).2
  else
   let s1:=(cD s [125]).2
   let t:=cur s1
   let s2:=kI s1
   (if t.k=3 then pF s2 t else if t.k=1 then .ok t.t s2 else .err 50 t.a).bind λk s3=>
     if ks.contains k=true then .err 2 t.a
     else(oI s3 [61]).bind λ_ s4=>(E s4).bind λx s5=>
      if(cD s5 [44]).1=false/\(cur (cD s5 [44]).2).k≠5/\isS (bE (cD s5 [44]).2) [125]=false then .err 50 (cur (bE (cD s5 [44]).2)).a
      else Bw E a n (iR (if(cD s5 [44]).1=true then(cD s5 [44]).2 else bE (cD s5 [44]).2)) (us++[x]) (ks++[k])
def GD(E:PS->R Nat)(s:PS)(a:Int):R Ex:=Bw E a (s.toks.length+1) (iR (step1 s)) [] []
def xH(E:PS->R Nat)(s:PS):R Nat:=
 let t:=cur s
 let s1:=bE s
 if t.k=2 then qV (step1 s1) ⟨4,t.t,[],[],t.a⟩
 else if t.k=3 then yI E (step1 s1) t
 else if t.k=1/\t.t≠GP then
  if isS (step1 s1) [40]=true then
   (within (bE (step1 s1)) (cur (step1 s1)).a true λq=>Dd E [41] (step1 q)).bind λus s2=>qV s2 ⟨12,t.t,us,[],t.a⟩
  else qV (bE (step1 s1)) ⟨qL t.t,if qL t.t=9 then t.t else [],[],[],t.a⟩
 else if isS s1 [40]=true then within s1 t.a true λq=>(E (step1 q)).bind λx q1=>(oI q1 [41]).bind λ_ q2=>.ok x q2
 else if isS s1 [91]=true then(within s1 t.a true λq=>yL E q t.a).bind λe s2=>qV s2 e
 else if isS s1 [123]=true then(within s1 t.a false λq=>GD E q t.a).bind λe s2=>qV s2 e
 else .err 50 t.a
def qE(E:PS->R Nat):Nat->PS->Nat->R Nat
 |0,_,_=>.err 0 0
 |n+1,s,x=>
  let t:=cur s
  let s1:=bE s
  if(cD s1 [46]).1=true then(mH (cD s1 [46]).2 1).bind λu s2=>(qV s2 ⟨10,u.t,[x],[],t.a⟩).bind λy s3=>qE E n s3 y
  else if isS s1 [91]=true then
   (within s1 t.a true λq=>
     if(cD (step1 q) [42]).1=true then(oI (cD (step1 q) [42]).2 [93]).bind λ_ q2=>.ok none q2
     else(E (cD (step1 q) [42]).2).bind λy q1=>(oI q1 [93]).bind λ_ q2=>.ok (some y) q2).bind λo s2=>
     match o with
     |some y=>(qV s2 ⟨11,[],[x,y],[],t.a⟩).bind λz s3=>qE E n s3 z
     |none=>(oI s2 [46]).bind λ_ s3=>(mH s3 1).bind λu s4=>(qV s4 ⟨30,u.t,[x],[],t.a⟩).bind λz s5=>qE E n s5 z
  else .ok x s1
def Ba(E:PS->R Nat)(s:PS):R Nat:=(xH E s).bind λx s1=>qE E (s.toks.length+1) s1 x
def vK(E S:PS->R Nat)(s:PS):R Nat:=
 let t:=cur s
 let s1:=bE s
 if isS s1 [33]=true then(within s1 t.a s1.quiet λq=>S (step1 q)).bind λx s2=>qV s2 ⟨14,[],[x],[],t.a⟩
 else if isS s1 [45]=true then(within s1 t.a s1.quiet λq=>S (step1 q)).bind λx s2=>qV s2 ⟨13,[],[x],[],t.a⟩
 else Ba E s1
def Ej(n:Nat)(w:Str):Int:=
 if n=0 then(if w=[124,124]then 27 else 0)
 else if n=1 then(if w=[38,38]then 26 else 0)
 else if n=2 then(if w=[61,61]then 20 else if w=[33,61]then 21 else 0)
 else if n=3 then(if w=[60]then 22 else if w=[62]then 23 else if w=[60,61]then 24 else if w=[62,61]then 25 else 0)
 else if n=4 then(if w=[43]then 15 else if w=[45]then 16 else 0)
 else if n=5 then(if w=[42]then 17 else if w=[47]then 18 else if w=[37]then 19 else 0)
 else 0
def qM(t:Tok)(n:Nat):Int:=if t.k=4 then Ej n t.t else 0
def vN(J:PS->R Nat)(n:Nat):Nat->PS->Nat->R Nat
 |0,_,_=>.err 0 0
 |f+1,s,a=>
  let t:=cur s
  if qM t n=0 then .ok a (bE s)
  else(J (step1 (bE s))).bind λb s1=>(qV s1 ⟨qM t n,[],[a,b],[],t.a⟩).bind λx s2=>vN J n f s2 x
def qX(E S:PS->R Nat):Nat->PS->R Nat
 |0=>vK E S
 |m+1=>λs=>(qX E S m s).bind λa s1=>vN (qX E S m) (5-m) (s.toks.length+1) s1 a
def yP(E S:PS->R Nat)(s:PS):R Nat:=(qX E S 6 s).bind λa s1=>
 let t:=cur s1
 if(cD s1 [63]).1=true then
  (within (cD s1 [63]).2 t.a (cD s1 [63]).2.quiet λq=>(E q).bind λx q1=>(oI q1 [58]).bind λ_ q2=>(E q2).bind λy q3=>.ok (x,y) q3).bind λz s2=>qV s2 ⟨28,[],[a,z.1,z.2],[],t.a⟩
 else .ok a (cD s1 [63]).2
def dead:PS->R Nat:=λ_=>.err 0 0
def qZ:Nat->(PS->R Nat)×(PS->R Nat)
 |0=>(yP dead dead,vK dead dead)
 |d+1=>(yP (qZ d).1 (qZ d).2,vK (qZ d).1 (qZ d).2)
def pV:Nat->PS->List Str->R (List Str)
 |0,_,_=>.err 0 0
 |n+1,s,ls=>
  if(cur s).k=3 then(pF (kI s) (cur s)).bind λl s1=>pV n s1 (ls++[l])
  else .ok ls (bE s)
def yN(E B:PS->R Nat)(s:PS)(us:List Atr)(bs:List Nat):R (List Atr×List Nat):=(mH s 1).bind λt s1=>
 if(cD s1 [61]).1=true then(E (cD s1 [61]).2).bind λx s2=>.ok (us++[⟨t.t,x,t.a⟩],bs) s2
 else(B {(cD s1 [61]).2 with i:=(cD s1 [61]).2.i-1}).bind λx s2=>.ok (us,bs++[x]) s2
def pY(E B:PS->R Nat):Nat->PS->List Atr->List Nat->R (List Atr×List Nat)
 |0,_,_,_=>.err 0 0
 |n+1,s,us,bs=>
  if(cD s [125]).1=true then .ok (us,bs) (cD s [125]).2
  else(yN E B (cD s [125]).2 us bs).bind λx s1=>
   if(cur s1).k≠5/\isS (bE s1) [125]=false then .err 50 (cur (bE s1)).a
   else pY E B n (iR (bE s1)) x.1 x.2
def tM(E B:PS->R Nat)(s:PS):R Nat:=(mH s 1).bind λt s1=>(pV (s.toks.length+1) s1 []).bind λls s2=>
 if isS s2 [123]=false then .err 50 (cur s2).a
 else(within (bE s2) (cur s2).a false λq=>pY E B (s.toks.length+1) (iR (step1 q)) [] []).bind λx s3=>
  .ok s3.bl.length {s3 with bl:=s3.bl++[⟨t.t,ls,x.1,x.2,t.a⟩]}
def zF:Nat->PS->R Nat
 |0=>tM dead dead
 |d+1=>tM (qZ d).1 (zF d)
def Bu:Nat->PS->List Nat->R (List Nat)
 |0,_,_=>.err 0 0
 |n+1,s,top=>
  if(cur s).k=0 then .ok top (bE s)
  else(zF 24 (bE s)).bind λx s1=>
   if(cur s1).k≠5/\(cur s1).k≠0 then .err 50 (cur (bE s1)).a
   else Bu n (iR (bE s1)) (top++[x])
inductive PR where
 |ok (f:Fl)
 |bad (c a:Int)
deriving DecidableEq
def sJ(s:Str):PR:=match nI s with
 |.bad c a=>.bad c a
 |.ok l=>match Bu (l.length+1) (iR ⟨l,0,0,0,false,[],[]⟩) []with
  |.ok top s'=>.ok ⟨s'.ex,s'.bl,top⟩
  |.err c a=>.bad c a
end
end Go.Syn
namespace Go.Proofs.YtjblfcfdeaagpaaGreatDoor
section
open Go Go.Eng Go.RowKit Go.Syn Go.Lex
variable{w:World}{K:Value->World->Prop}{cs:List Value}{G:Nat->Prop}{T:TypeId}{i:Nat}{n:Nat}{v:Value}{w':World}{P:Program}{c:UInt8}{S:Nat->Prop}
abbrev TkT:TypeId:=95
abbrev ExT:TypeId:=35
abbrev AtT:TypeId:=40
abbrev BkT:TypeId:=38
abbrev FlT:TypeId:=28
abbrev PsT:TypeId:=92
abbrev lC:TypeId:=3
abbrev StT:TypeId:=9
theorem XJ:qB Tryz.prog 24 ExT 5 80:=⟨by kernel_rfl,by kernel_rfl,by decide⟩
theorem XL:qB Tryz.prog 25 BkT 5 96:=⟨by kernel_rfl,by kernel_rfl,by decide⟩
theorem Hf:qB Tryz.prog 36 AtT 3 32:=⟨by kernel_rfl,by kernel_rfl,by decide⟩
theorem AP:qB Tryz.prog 26 lC 1 8:=⟨by kernel_rfl,by kernel_rfl,by decide⟩
theorem CK:qB Tryz.prog 33 StT 1 16:=⟨by kernel_rfl,by kernel_rfl,by decide⟩
theorem Ty:qB Tryz.prog 86 TkT 3 32:=⟨by kernel_rfl,by kernel_rfl,by decide⟩
def ints(l:List Nat):List Value:=l.map λn=>i64 (n:Nat)
def strs(l:List Str):List Value:=l.map str
def kK(l:List Atr):List Value:=l.flatMap λa=>[str a.n,i64 (a.e:Nat),i64 a.a]
def toks(l:List Tok):List Value:=l.flatMap λt=>[i64 t.k,str t.t,i64 t.a]
theorem sQ(l:List Nat):(ints l).length=l.length*1:=by simp[ints]
theorem sG(l:List Str):(strs l).length=l.length*1:=by simp[strs]
theorem Cv(a b:List Nat):ints (a++b)=ints a++ints b:=by simp[ints]
theorem wH(a b:List Str):strs (a++b)=strs a++strs b:=by simp[strs]
theorem Au(a b:List Atr):kK (a++b)=kK a++kK b:=by simp[kK]
theorem xW{α:Type}(f:α->List Value)(h:∀a,(f a).length=3):∀l:List α,(l.flatMap f).length=l.length*3
 |[]=>rfl
 |a::l=>by rw[fY,aP,h,xW f h l,aB];omega
theorem As(l:List Atr):(kK l).length=l.length*3:=xW _ (λ_=>rfl) l
theorem BU(l:List Tok):(toks l).length=l.length*3:=xW _ (λ_=>rfl) l
theorem AN{α:Type}(f:α->List Value)(h:∀a,(f a).length=3):∀(l:List α) (i j:Nat) (x:α),l[i]?=some x->j<3->(l.flatMap f)[i*3+j]?=(f x)[j]?
 |[],i,_,_,hi,_=>by simp at hi
 |a::l,0,j,x,hi,o=>by
  simp only[List.getElem?_cons_zero,aV]at hi
  subst hi
  rw[fY,List.getElem?_append_left (by rw[h];omega),Nat.zero_mul,aH]
 |a::l,i+1,j,x,hi,o=>by
  rw[List.getElem?_cons_succ]at hi
  rw[fY,List.getElem?_append_right (by rw[h];omega),h,show(i+1)*3+j-3=i*3+j by omega]
  exact AN f h l i j x hi o
theorem FX{l:List Tok}{j:Nat}{t:Tok}(h:l[i]?=some t)(o:j<3):(toks l)[i*3+j]?=[i64 t.k,str t.t,i64 t.a][j]?:=AN _ (λ_=>rfl) l i j t h o
def kM{α:Type}(R:α->List Value->Prop)(n:Nat)(xs:List α)(c:List Value):Prop:=c.length=xs.length*n/\∀i x,xs[i]?=some x->R x ((c.drop (i*n)).take n)
theorem kM.nil{α:Type}(R:α->List Value->Prop)(n:Nat):kM R n [] []:=⟨by simp,λi x h=>by simp at h⟩
theorem kM.snoc{α:Type}{R:α->List Value->Prop}{xs:List α}{c d:List Value}{x:α}(h:kM R n xs c)(hd:R x d)(hl:d.length=n):kM R n (xs++[x]) (c++d):=by
 refine⟨by rw[aP,h.1,hl,aP,aB,aK,qT];omega,λi y j=>?_⟩;by_cases hi:i<xs.length
 ·rw[List.getElem?_append_left hi]at j;have:=h.2 i y j;have I:i*n+n<=xs.length*n:=by rw[<-Nat.succ_mul];exact eP _ hi
  rw[AX (by rw[h.1];omega),AW (by rw[aR,h.1];omega)];exact this
 ·rw[List.getElem?_append_right (by omega)]at j;have o:i-xs.length=0:=by
   by_cases o:i-xs.length=0
   ·exact o
   ·rw[List.getElem?_eq_none (by simp;omega)]at j;cases j
  obtain rfl:i=xs.length:=by omega
  rw[o]at j;simp only[List.getElem?_cons_zero,aV]at j;subst j;rw[<-h.1,List.drop_left,iJ (by omega)];exact hd
theorem kM.imp{α:Type}{R R':α->List Value->Prop}{xs:List α}{c:List Value}(h:kM R n xs c)(hi:∀x d,(∀v∈d,v∈c)->R x d->R' x d):kM R' n xs c:=
 ⟨h.1,λi x j=>hi x _ (λv o=>List.mem_of_mem_drop (List.mem_of_mem_take o)) (h.2 i x j)⟩
def ub(c:List Value):List Nat:=c.filterMap Value.ownBlock
theorem mQ(a b:List Value):ub (a++b)=ub a++ub b:=List.filterMap_append
theorem dS{c:List Value}{k:Nat}(j:v∈c)(o:v.ownBlock=some k):k∈ub c:=bO.2 ⟨v,j,o⟩
theorem jJ{k:Nat}:k∈ub [v]↔v.ownBlock=some k:=by simp[ub]
structure Lay where
 vE:Value
 vB:Value
 vT:Value
 cE:List Value
 cB:List Value
def Lay.uses(M:Lay)(f:Nat):List Nat:=f::ub ([M.vE,M.vB,M.vT]++(M.cE++M.cB))
def ExR(w:World)(B:Nat)(e:Ex)(c:List Value):Prop:=
 ∃va vk,c=[i64 e.k,str e.t,va,vk,i64 e.a]/\Own w B lC 1 va e.args.length (ints e.args)/\Own w B StT 1 vk e.keys.length (strs e.keys)
def BkR(w:World)(B:Nat)(b:Blk)(c:List Value):Prop:=
 ∃vl va vb,c=[str b.typ,vl,va,vb,i64 b.a]/\Own w B StT 1 vl b.labels.length (strs b.labels)/\Own w B AtT 3 va b.attrs.length (kK b.attrs)/\Own w B lC 1 vb b.blocks.length (ints b.blocks)
theorem dP{B:Nat}{e:TypeId}{m:Nat}{xs:List Value}(h:Own w B e m v n xs)(I:Chg S w w')(J:∀k,v.ownBlock=some k->¬S k):Own w' B e m v n xs:=by
 obtain⟨hl,j|⟨g,cap,cur,rfl,hb,o,r⟩⟩:=h
 ·exact⟨hl,.inl j⟩
 ·exact⟨hl,.inr ⟨g,cap,cur,rfl,hb,I.at o (J g rfl),r⟩⟩
theorem kA{B:Nat}{e:TypeId}{m:Nat}{xs:List Value}(h:Own w B e m v n xs){k:Nat}(j:v.ownBlock=some k):k<w.heap.size/\B<=k:=by
 obtain⟨I,c,o⟩:=h.block k j;exact⟨mJ o,I⟩
theorem ExR.at_{B:Nat}{e:Ex}{c:List Value}(h:ExR w B e c)(o:Chg S w w')(I:∀k∈ub c,¬S k):ExR w' B e c:=by
 obtain⟨va,vk,rfl,U,J⟩:=h;exact⟨va,vk,rfl,dP U o λk j=>I k (dS (v:=va) (by simp) j),dP J o λk j=>I k (dS (v:=vk) (by simp) j)⟩
theorem BkR.at_{B:Nat}{e:Blk}{c:List Value}(h:BkR w B e c)(o:Chg S w w')(I:∀k∈ub c,¬S k):BkR w' B e c:=by
 obtain⟨vl,va,vb,rfl,h1,U,J⟩:=h;exact⟨vl,va,vb,rfl,dP h1 o λk j=>I k (dS (v:=vl) (by simp) j),dP U o λk j=>I k (dS (v:=va) (by simp) j),dP J o λk j=>I k (dS (v:=vb) (by simp) j)⟩
theorem BS{c d:List Value}(h:∀v∈d,v∈c):∀k∈ub d,k∈ub c:=by
 intro k j;obtain⟨v,o,j⟩:=bO.1 j;exact dS (h v o) j
structure FR(w:World)(B f:Nat)(M:Lay)(ex:List Ex)(bl:List Blk)(top:List Nat):Prop where
 hf:w.heap[f]?=some (.cells [M.vE,M.vB,M.vT].toArray FlT (0,0))
 oE:Own w B ExT 5 M.vE ex.length M.cE
 oB:Own w B BkT 5 M.vB bl.length M.cB
 oT:Own w B lC 1 M.vT top.length (ints top)
 ee:kM (ExR w B) 5 ex M.cE
 bb:kM (BkR w B) 5 bl M.cB
 nd:(M.uses f).Nodup
 lt:∀k∈M.uses f,k<w.heap.size
 lo:∀k∈M.uses f,k=f\/B<=k
theorem FR.keep{B f:Nat}{M:Lay}{ex:List Ex}{bl:List Blk}{top:List Nat}(h:FR w B f M ex bl top)(o:Chg S w w')(J:∀k∈M.uses f,¬S k):FR w' B f M ex bl top:=by
 have hu:∀v∈[M.vE,M.vB,M.vT]++(M.cE++M.cB),∀k,v.ownBlock=some k->¬S k:=λv I k j=>J k (aE _ (dS I j));refine⟨o.at h.hf (J f aW),dP h.oE o (hu _ (by simp)),dP h.oB o (hu _ (by simp)),dP h.oT o (hu _ (by simp)),?_,?_,h.nd,λk j=>cV (h.lt k j) o.size,h.lo⟩
 ·refine h.ee.imp λx d hd U=>U.at_ o λk j=>?_;exact J k (aE _ (BS (λv I=>by simp[hd v I]) k j))
 ·refine h.bb.imp λx d hd U=>U.at_ o λk j=>?_;exact J k (aE _ (BS (λv I=>by simp[hd v I]) k j))
abbrev Of(f:Nat):Nat->Prop:=λk=>k=f
abbrev One(b:Nat):Nat->Prop:=λk=>k=b
structure PR(w0 w:World)(p f:Nat)(M:Lay)(vt:Value)(s:PS)(top:List Nat):Prop where
 ch:Chg (Of f) w0 w
 fr:FR w w0.heap.size f M s.ex s.bl top
 ps:w.heap[p]?=some (.cells [vt,i64 (s.i:Nat),i64 s.off,.pointer (some ⟨f,0,none⟩),i64 (s.deep:Nat),.bool s.quiet].toArray PsT (0,0))
 tk:gD w TkT vt s.toks.length (toks s.toks)
 np:p∉M.uses f
 lo:w0.heap.size<=p
 nt:∀k,vt.ownBlock=some k->k∉M.uses f/\k≠p/\k<w.heap.size
section
variable{w0 w w' w1 w2:World}{p f b k:Nat}{M M' M1 M2:Lay}{vt:Value}{s:PS}{top:List Nat}
theorem PR.lt(h:PR w0 w p f M vt s top):p<w.heap.size:=mJ h.ps
theorem PR.base(h:PR w0 w p f M vt s top):w0.heap.size<=w.heap.size:=h.ch.size
def Tn(p f:Nat)(M:Lay)(k:Nat):Prop:=k=p\/k=f\/M.vE.ownBlock=some k\/M.vB.ownBlock=some k
structure Eff(p f:Nat)(M M':Lay)(w w':World):Prop where
 chg:Chg (Tn p f M) w w'
 us:∀k∈M'.uses f,k∈M.uses f\/w.heap.size<=k
 hE:∀k,M'.vE.ownBlock=some k->M.vE.ownBlock=some k\/w.heap.size<=k
 hB:∀k,M'.vB.ownBlock=some k->M.vB.ownBlock=some k\/w.heap.size<=k
 hT:M'.vT=M.vT
theorem Eff.of(h:Chg (Tn p f M) w w'):Eff p f M M w w':=⟨h,λ_ h=>.inl h,λ_ h=>.inl h,λ_ h=>.inl h,rfl⟩
theorem Eff.refl(p f:Nat)(M:Lay)(w:World):Eff p f M M w w:=Eff.of (Chg.refl _ _)
theorem Eff.ext(h:Ext w w'):Eff p f M M w w':=Eff.of (Chg.of_ext h)
theorem Eff.trans(h:Eff p f M M1 w w1)(o:Eff p f M1 M2 w1 w2):Eff p f M M2 w w2:=by
 have I:=h.chg.size;refine⟨h.chg.then o.chg λk j e=>?_,λk j=>?_,λk j=>?_,λk j=>?_,o.hT.trans h.hT⟩
 ·rcases e with e|e|e|e
  ·exact .inl e
  ·exact .inr (.inl e)
  ·exact .inr (.inr (.inl ((h.hE k e).resolve_right (by omega))))
  ·exact .inr (.inr (.inr ((h.hB k e).resolve_right (by omega))))
 ·exact(o.us k j).elim (h.us k) λe=>.inr (by omega)
 ·exact(o.hE k j).elim (h.hE k) λe=>.inr (by omega)
 ·exact(o.hB k j).elim (h.hB k) λe=>.inr (by omega)
theorem Eff.then(h:Eff p f M M1 w w1)(o:Chg S w1 w2)(I:∀k,k<w.heap.size->¬S k):Eff p f M M1 w w2:=⟨h.chg.then o λk j e=>(I k j e).elim,h.us,h.hE,h.hB,h.hT⟩
theorem Eff.x(h:Eff p f M M1 w w1)(j:Ext w1 w2):Eff p f M M1 w w2:=h.then j λ_ _ e=>e
theorem Eff.one(h:Eff p f M M1 w w1)(j:Chg (One b) w1 w2)(hb:w.heap.size<=b):Eff p f M M1 w w2:=h.then j λk o e=>by have e:k=b:=e;omega
theorem Eff.anew{q:Nat}(o:Ext w0 w)(h:Eff q f M M' w w')(J:w0.heap.size<=q):Eff p f M M' w0 w':=by
 have I:=o.size;refine⟨(Chg.of_ext o).then h.chg λk j e=>?_,λk j=>(h.us k j).imp id (by omega),λk j=>(h.hE k j).imp id (by omega),λk j=>(h.hB k j).imp id (by omega),h.hT⟩;rcases e with e|e|e|e
 ·omega
 ·exact .inr (.inl e)
 ·exact .inr (.inr (.inl e))
 ·exact .inr (.inr (.inr e))
theorem HR(h:Tn p f M k):k=p\/k∈M.uses f:=by
 rcases h with h|h|h|h
 ·exact .inl h
 ·exact .inr (by subst h;exact aW)
 ·exact .inr (aE _ (dS (v:=M.vE) (by simp) h))
 ·exact .inr (aE _ (dS (v:=M.vB) (by simp) h))
def Off(w0 w:World)(p f:Nat)(M:Lay)(vt:Value)(k:Nat):Prop:=(w0.heap.size<=k/\k<w.heap.size)/\k≠p/\k∉M.uses f/\vt.ownBlock≠some k
theorem Off.no(h:Off w0 w p f M vt k):¬Tn p f M k:=λe=>(HR e).elim h.2.1 h.2.2.1
theorem Off.eff(h:Off w0 w p f M vt k)(j:Eff p f M M' w w'):Off w0 w' p f M' vt k:=
 ⟨⟨h.1.1,cV h.1.2 j.chg.size⟩,h.2.1,λe=>(j.us k e).elim h.2.2.1 λe=>by have:=h.1.2;omega,h.2.2.2⟩
theorem Off.up(h:Off w0 w p f M vt k)(j:w.heap.size<=w'.heap.size):Off w0 w' p f M vt k:=⟨⟨h.1.1,cV h.1.2 j⟩,h.2⟩
theorem PR.off_new(h:PR w0 w p f M vt s top)(o:w.heap.size<=k)(j:k<w'.heap.size):Off w0 w' p f M vt k:=
 ⟨⟨dI h.base o,j⟩,λe=>by have:=h.lt;omega,λe=>by have:=h.fr.lt k e;omega,λe=>by have:=(h.nt k e).2.2;omega⟩
theorem Eff.at_{o:Obj}(I:Eff p f M M' w w')(j:w.heap[k]?=some o)(h:Off w0 w p f M vt k):w'.heap[k]?=some o:=I.chg.at j h.no
theorem Eff.own{B:Nat}{e:TypeId}{m:Nat}{xs:List Value}(I:Eff p f M M' w w')(h:Own w B e m v n xs)(j:∀k,v.ownBlock=some k->Off w0 w p f M vt k):Own w' B e m v n xs:=dP h I.chg λk o=>(j k o).no
theorem PR.keep(h:PR w0 w p f M vt s top)(o:Chg S w w')(hb:∀k,k<w0.heap.size->¬S k)(hS:∀k∈M.uses f,¬S k)(hp:¬S p)(ht:∀k,vt.ownBlock=some k->¬S k):PR w0 w' p f M vt s top:=by
 refine⟨h.ch.then o λk j e=>(hb k j e).elim,h.fr.keep o hS,o.at h.ps hp,?_,h.np,h.lo,λk j=>⟨(h.nt k j).1,(h.nt k j).2.1,cV (h.nt k j).2.2 o.size⟩⟩;obtain⟨q,cap,U,h1,h2,h3⟩:=h.tk;refine⟨q,cap,U,h1,h2,λI=>?_⟩;obtain⟨b,off,c,fr,hq,hb,J⟩:=h3 I;exact⟨b,off,c,fr,hq,o.at hb (ht b (by rw[U,hq];rfl)),J⟩
theorem PR.ext(h:PR w0 w p f M vt s top)(j:Ext w w'):PR w0 w' p f M vt s top:=h.keep j (λ_ _ e=>e) (λ_ _ e=>e) (λe=>e) λ_ _ e=>e
theorem cP(w:World):Ext w w.drew:=Chg.drew (Chg.refl _ _)
theorem PR.drew(h:PR w0 w p f M vt s top):PR w0 w.drew p f M vt s top:=h.ext (cP w)
theorem PR.one{w3:World}(h:PR w0 w p f M vt s top)(I:Chg (One b) w w')(j:Off w0 w3 p f M vt b):PR w0 w' p f M vt s top:=
 h.keep I (λk o e=>by have e:k=b:=e;have:=j.1.1;omega) (λk o e=>j.2.2.1 (by have e:k=b:=e;exact e▸o)) (λe=>j.2.1 e.symm) λk o e=>j.2.2.2 (by have e:k=b:=e;rw[o,e])
theorem PR.ld{off:Nat}{K:Value->Prop}(h:PR w0 w p f M vt s top)(j:[vt,i64 (s.i:Nat),i64 s.off,.pointer (some ⟨f,0,none⟩),i64 (s.deep:Nat),.bool s.quiet][off]?=some v)(o:K v):
  dV (.pointer (some ⟨p,0,none⟩)) λt=>aZ off t λt=>ldW false 1 t w K:=by
 rw[cQ,bD,dX];refine⟨v,?_,o⟩;rw[bG,cA,h.ps,bM,aH];simpa using j
theorem PR.self{s':PS}(h:PR w0 w p f M vt s top)(o:Chg (One p) w w')(hb:w'.heap[p]?=some (.cells [vt,i64 (s'.i:Nat),i64 s'.off,.pointer (some ⟨f,0,none⟩),i64 (s'.deep:Nat),.bool s'.quiet].toArray PsT (0,0)))
  (h1:s'.toks=s.toks)(h2:s'.ex=s.ex)(h3:s'.bl=s.bl):PR w0 w' p f M vt s' top:=by
 refine⟨h.ch.then o λk j e=>(by have e:k=p:=e;have:=h.lo;omega),by rw[h2,h3];exact h.fr.keep o λk j e=>h.np (by have e:k=p:=e;exact e▸j),hb,?_,h.np,h.lo,λk j=>⟨(h.nt k j).1,(h.nt k j).2.1,cV (h.nt k j).2.2 o.size⟩⟩;rw[h1];obtain⟨q,cap,U,g1,g2,g3⟩:=h.tk;refine⟨q,cap,U,g1,g2,λI=>?_⟩;obtain⟨b,off,c,fr,hq,hb,J⟩:=g3 I;exact⟨b,off,c,fr,hq,o.at hb ((h.nt b (by rw[U,hq];rfl)).2.1),J⟩
theorem CL(j:Chg (One p) w w'):Eff p f M M w w':=Eff.of (j.mono λk _ e=>.inl e)
theorem PR.st_i{K:World->Prop}(h:PR w0 w p f M vt s top)(I:∀w',PR w0 w' p f M vt {s with i:=i} top->Eff p f M M w w'->w'.heap.size=w.heap.size->K w'):
  dV (.pointer (some ⟨p,0,none⟩)) λt=>aZ 1 t λt=>stW 1 t (i64 (i:Nat)) w K:=by
 rw[cQ,bD,bG,aH];refine jZ h.ps rfl (by simp) λw' o hb j=>I w' (h.self j (by rw[hb];simp) rfl rfl rfl) (CL j) o
theorem PR.st_deep{K:World->Prop}(h:PR w0 w p f M vt s top)(I:∀w',PR w0 w' p f M vt {s with deep:=i} top->Eff p f M M w w'->w'.heap.size=w.heap.size->K w'):
  dV (.pointer (some ⟨p,0,none⟩)) λt=>aZ 4 t λt=>stW 1 t (i64 (i:Nat)) w K:=by
 rw[cQ,bD,bG,aH];refine jZ h.ps rfl (by simp) λw' o hb j=>I w' (h.self j (by rw[hb];simp) rfl rfl rfl) (CL j) o
theorem PR.st_quiet{q:Bool}{K:World->Prop}(h:PR w0 w p f M vt s top)(I:∀w',PR w0 w' p f M vt {s with quiet:=q} top->Eff p f M M w w'->w'.heap.size=w.heap.size->K w'):
  dV (.pointer (some ⟨p,0,none⟩)) λt=>aZ 5 t λt=>stW 1 t (.bool q) w K:=by
 rw[cQ,bD,bG,aH];refine jZ h.ps rfl (by simp) λw' o hb j=>I w' (h.self j (by rw[hb];simp) rfl rfl rfl) (CL j) o
theorem PR.go{K:World->Prop}(h:PR w0 w p f M vt s top)(hi:s.i<=1000000)(j:∀w',PR w0 w' p f M vt (step1 s) top->Eff p f M M w w'->w'.heap.size=w.heap.size->K w'):
  dV (.pointer (some ⟨p,0,none⟩)) λt=>aZ 1 t λt=>ldW false 1 t w λt=>aU .add t (.int .i64 1) λt1=>dV (.pointer (some ⟨p,0,none⟩)) λt=>aZ 1 t λt=>stW 1 t t1 w K:=by
 refine h.ld rfl ?_;rw[cG,fE (by omega) (by omega)];exact h.st_i (i:=s.i+1) j
def Loc(w0 w:World)(p f:Nat)(M:Lay)(vt:Value)(b:Nat)(T:TypeId)(cs:List Value):Prop:=w.heap[b]?=some (.cells cs.toArray T (0,0))/\Off w0 w p f M vt b
variable{T:TypeId}{cs:List Value}
theorem Loc.eff(h:Loc w0 w p f M vt b T cs)(j:Eff p f M M' w w'):Loc w0 w' p f M' vt b T cs:=⟨j.at_ h.1 h.2,h.2.eff j⟩
theorem Loc.ext(h:Loc w0 w p f M vt b T cs)(j:Ext w w'):Loc w0 w' p f M vt b T cs:=h.eff (Eff.ext j)
theorem Loc.drew(h:Loc w0 w p f M vt b T cs):Loc w0 w.drew p f M vt b T cs:=h.ext (cP w)
theorem Loc.one{b':Nat}(h:Loc w0 w p f M vt b T cs)(j:Chg (One b') w w')(hb:b≠b'):Loc w0 w' p f M vt b T cs:=⟨j.at h.1 hb,h.2.up j.size⟩
theorem Loc.lt(h:Loc w0 w p f M vt b T cs):b<w.heap.size:=h.2.1.2
theorem Loc.ld{off:Nat}{K:Value->Prop}(h:Loc w0 w p f M vt b T cs)(j:cs[off]?=some v)(o:K v):ldW false 1 (.pointer (some ⟨b,off,none⟩)) w K:=by
 rw[dX];refine⟨v,?_,o⟩;rw[cA,h.1,bM];simpa using j
theorem Loc.ldf{off:Nat}{K:Value->Prop}(h:Loc w0 w p f M vt b T cs)(j:cs[off]?=some v)(o:K v):aZ off (.pointer (some ⟨b,0,none⟩)) λt=>ldW false 1 t w K:=by
 rw[bD,bG,aH];exact h.ld j o
theorem Loc.st{off:Nat}{K:World->Prop}(h:Loc w0 w p f M vt b T cs)(U:jD v=true)(j:off<cs.length)
  (J:∀w',Loc w0 w' p f M vt b T (cs.set off v)->Chg (One b) w w'->w'.heap.size=w.heap.size->K w'):stW 1 (.pointer (some ⟨b,off,none⟩)) v w K:=
 jZ h.1 U (by simpa using j) λw' o hb I=>J w' ⟨by rw[hb];simp,h.2.up (by omega)⟩ I o
theorem PR.loc(h:PR w0 w p f M vt s top)(o:w'.heap.size=w.heap.size+1){b:Nat}(hb:b=w.heap.size)(j:w'.heap[b]?=some (.cells cs.toArray T (0,0))):Loc w0 w' p f M vt b T cs:=⟨j,h.off_new (by omega) (by omega)⟩
end
end
end Go.Proofs.YtjblfcfdeaagpaaGreatDoor
namespace Go.Syn
section
open Go Go.Eng Go.Lex
variable{w:World}{K:Value->World->Prop}{cs:List Value}{G:Nat->Prop}{T:TypeId}{i:Nat}{n:Nat}{v:Value}{w':World}{P:Program}{c:UInt8}{S:Nat->Prop}
theorem mC{s:Str}(k:Nat)(h:s.length<=n):(s.drop k).length<=n:=by rw[aR];omega
theorem JD:∀(N:Nat) (r:Str),r.length<=N->(∀m m' c,r.length<m->r.length<m'->Ar m r c=Ar m' r c)/\(∀m m',r.length<m->r.length<m'->zT m r=zT m' r):=by
 intro N;induction N with
 |zero=>
  intro r o;have:r=[]:=cK (by omega);subst this;refine⟨λm m' c h j=>?_,λm m' h j=>?_⟩
  ·obtain⟨m,rfl⟩:∃k,m=k+1:=⟨m-1,by simp at h;omega⟩;obtain⟨m',rfl⟩:∃k,m'=k+1:=⟨m'-1,by simp at j;omega⟩;rfl
  ·obtain⟨m,rfl⟩:∃k,m=k+1:=⟨m-1,by simp at h;omega⟩;obtain⟨m',rfl⟩:∃k,m'=k+1:=⟨m'-1,by simp at j;omega⟩;rfl
 |succ N ih=>
  intro r o;cases r with
  |nil=>exact⟨λm m' c h j=>(ih [] (by simp)).1 m m' c h j,λm m' h j=>(ih [] (by simp)).2 m m' h j⟩
  |cons c r=>
   simp only[aB]at o;have o:r.length<=N:=by omega
   refine⟨λm m' d h j=>?_,λm m' h j=>?_⟩
   ·obtain⟨m,rfl⟩:∃k,m=k+1:=⟨m-1,by simp at h;omega⟩;obtain⟨m',rfl⟩:∃k,m'=k+1:=⟨m'-1,by simp at j;omega⟩;simp only[aB]at h j;have hb:=λd=>(ih r o).1 m m' d (by omega) (by omega);have I:=(ih r o).2 m m' (by omega) (by omega);have hd:=λk d=>(ih (r.drop k) (mC k o)).1 m m' d (by rw[aR];omega) (by rw[aR];omega);simp only[Ar,hb,I,hd]
   ·obtain⟨m,rfl⟩:∃k,m=k+1:=⟨m-1,by simp at h;omega⟩;obtain⟨m',rfl⟩:∃k,m'=k+1:=⟨m'-1,by simp at j;omega⟩;simp only[aB]at h j;have hb:=λd=>(ih r o).1 m m' d (by omega) (by omega);have I:=(ih r o).2 m m' (by omega) (by omega);have hd:=λk=>(ih (r.drop k) (mC k o)).2 m m' (by rw[aR];omega) (by rw[aR];omega);cases r with
    |nil=>simp only[zT,hb,I,hd]
    |cons e r'=>
     have J:=(ih r' (by simp at o;omega)).2 m m' (by simp at h;omega) (by simp at j;omega);simp only[zT,hb,hd,I,J]
def oZ(r:Str)(c:Int):Nat:=Ar (r.length+1) r c
def rM(r:Str):Nat:=zT (r.length+1) r
theorem CX{m:Nat}{r:Str}{c:Int}(h:r.length<m):Ar m r c=oZ r c:=(JD r.length r (aY _)).1 _ _ _ h (Av _)
theorem EY{m:Nat}{r:Str}(h:r.length<m):zT m r=rM r:=(JD r.length r (aY _)).2 _ _ h (Av _)
theorem vF{r:Str}(k:Nat){m:Nat}(h:r.length<m):(r.drop k).length<m:=by rw[aR];omega
theorem No(c:Int):oZ [] c=0:=rfl
theorem oF(c:UInt8)(r:Str)(d:Int):oZ (c::r) d=if c=123 then 1+oZ r (d+1)else if c=125 then(if d-1=0 then 1 else 1+oZ r (d-1))else if c=34 then(1+rM r)+oZ (r.drop (rM r)) d else 1+oZ r d:=by
 have h:r.length<(c::r).length:=by simp
 show Ar ((c::r).length+1) (c::r) d=_;rw[Ar,EY h];rw[CX h,CX h,CX h,CX (vF _ h)]
theorem LS:rM []=0:=rfl
theorem AH(c:UInt8)(r:Str):rM (c::r)=if c=34 then 1 else if c=92 then(match r with|[]=>1|_::r'=>2+rM r')else if qC [36,123] (c::r)=true then(1+oZ r 0)+rM (r.drop (oZ r 0))else 1+rM r:=by
 cases r with
 |nil=>rfl
 |cons e r'=>
  have h:(e::r').length<(c::e::r').length:=by simp
  have j:r'.length<(c::e::r').length:=by simp;omega
  have hd:∀k,zT (c::e::r').length ((e::r').drop k)=rM ((e::r').drop k):=λk=>EY (vF k h);show zT ((c::e::r').length+1) (c::e::r')=_;rw[zT.eq_def];simp only[EY h,CX h,EY j,hd]
theorem JC:∀(N:Nat) (r:Str),r.length<=N->(∀m m' d,r.length<m->r.length<m'->pK m r d=pK m' r d)/\(∀m m' d,r.length<m->r.length<m'->Ae m r d=Ae m' r d):=by
 intro N;induction N with
 |zero=>
  intro r I;have:r=[]:=cK (by omega);subst this;refine⟨λm m' d h o=>?_,λm m' d h o=>?_⟩
  ·obtain⟨m,rfl⟩:∃k,m=k+1:=⟨m-1,by simp at h;omega⟩;obtain⟨m',rfl⟩:∃k,m'=k+1:=⟨m'-1,by simp at o;omega⟩;rfl
  ·obtain⟨m,rfl⟩:∃k,m=k+1:=⟨m-1,by simp at h;omega⟩;obtain⟨m',rfl⟩:∃k,m'=k+1:=⟨m'-1,by simp at o;omega⟩;rfl
 |succ N ih=>
  intro r I;cases r with
  |nil=>exact⟨λm m' d h o=>(ih [] (by simp)).1 m m' d h o,λm m' d h o=>(ih [] (by simp)).2 m m' d h o⟩
  |cons c r=>
   simp only[aB]at I;have I:r.length<=N:=by omega
   refine⟨λm m' d h o=>?_,λm m' d h o=>?_⟩
   ·obtain⟨m,rfl⟩:∃k,m=k+1:=⟨m-1,by simp at h;omega⟩;obtain⟨m',rfl⟩:∃k,m'=k+1:=⟨m'-1,by simp at o;omega⟩;simp only[aB]at h o;have J:=λd=>(ih r I).1 m m' d (by omega) (by omega);have hi:=λk d=>(ih (r.drop k) (mC k I)).2 m m' d (by rw[aR];omega) (by rw[aR];omega);have hd:=λk j d=>(ih ((r.drop k).drop j) (mC j (mC k I))).1 m m' d (by rw[aR,aR];omega) (by rw[aR,aR];omega);cases r with
    |nil=>simp only[pK,J,hi,hd]
    |cons e r'=>
     have U:=λd=>(ih r' (by simp at I;omega)).1 m m' d (by simp at h;omega) (by simp at o;omega);simp only[pK,J,hi,hd,U]
   ·obtain⟨m,rfl⟩:∃k,m=k+1:=⟨m-1,by simp at h;omega⟩;obtain⟨m',rfl⟩:∃k,m'=k+1:=⟨m'-1,by simp at o;omega⟩;simp only[aB]at h o;have J:=λd=>(ih r I).1 m m' d (by omega) (by omega);have hi:=λd=>(ih r I).2 m m' d (by omega) (by omega);have hd:=λk d=>(ih (r.drop k) (mC k I)).2 m m' d (by rw[aR];omega) (by rw[aR];omega);simp only[Ae,J,hi,hd]
def jL(r:Str)(d:Nat):Nat×Int:=pK (r.length+1) r d
def lO(r:Str)(d:Nat):Nat×Int:=Ae (r.length+1) r d
theorem rT{m:Nat}{r:Str}{d:Nat}(h:r.length<m):pK m r d=jL r d:=(JC r.length r (aY _)).1 _ _ _ h (Av _)
theorem Iz{m:Nat}{r:Str}{d:Nat}(h:r.length<m):Ae m r d=lO r d:=(JC r.length r (aY _)).2 _ _ _ h (Av _)
theorem qG(d:Nat):jL [] d=(0,40):=rfl
theorem Cx(d:Nat):lO [] d=(0,40):=rfl
theorem qH(c:UInt8)(r:Str)(d:Nat):jL (c::r) d=if c==34 then(1,0)else if c==10 then(0,40)else if c==92 then(match r with|[]=>(0,40)|e::r'=>if Lex.escOk e then nR 2 (jL r' d)else(0,40))
  else if qC [36,123] (c::r)then(if 24<d+1 then(0,7)else if(lO (r.drop 1) (d+1)).2=0 then nR ((lO (r.drop 1) (d+1)).1+2) (jL ((r.drop 1).drop (lO (r.drop 1) (d+1)).1) d)else(0,(lO (r.drop 1) (d+1)).2))else nR 1 (jL r d):=by
 cases r with
 |nil=>rfl
 |cons e r'=>
  have h:(e::r').length<(c::e::r').length:=by simp
  have o:r'.length<(c::e::r').length:=by simp;omega
  have hi:∀k d,Ae (c::e::r').length ((e::r').drop k) d=lO ((e::r').drop k) d:=λk d=>Iz (vF k h);have hd:∀k j d,pK (c::e::r').length (((e::r').drop k).drop j) d=jL (((e::r').drop k).drop j) d:=λk j d=>rT (vF j (vF k h));show pK ((c::e::r').length+1) (c::e::r') d=_;rw[pK.eq_def];simp only[rT h,rT o,hi,hd]
theorem AL(c:UInt8)(r:Str)(d:Nat):lO (c::r) d=if c==125 then(1,0)else if c==10 then(0,40)else if c==123 then(if 24<d+1 then(0,7)else if(lO r (d+1)).2=0 then nR ((lO r (d+1)).1+1) (lO (r.drop (lO r (d+1)).1) d)else(0,(lO r (d+1)).2))
  else if c==34 then(if(jL r d).2=0 then nR ((jL r d).1+1) (lO (r.drop (jL r d).1) d)else(0,(jL r d).2))else nR 1 (lO r d):=by
 have h:r.length<(c::r).length:=by simp
 have hd:∀k d,Ae (c::r).length (r.drop k) d=lO (r.drop k) d:=λk d=>Iz (vF k h);show Ae ((c::r).length+1) (c::r) d=_;rw[Ae.eq_def];simp only[Iz h,rT h,hd]
theorem nG{k:Nat}{r:Nat×Int}(h:nR k r=(n,0)):r=(n-k,0)/\k<=n:=by
 obtain⟨a,b⟩:=r;unfold nR at h;split at h
 ·rename_i e;simp only at e;subst e;injection h with o _
  subst o;exact⟨by simp,by omega⟩
 ·rename_i e;injection h with _ j
  exact absurd j e
theorem lF:∀(N:Nat) (r:Str),r.length<=N->
  (∀d k,jL r d=(k,0)->rM r=k/\1<=k/\k<=r.length)/\
  (∀d k,lO r d=(k,0)->(1<=k/\k<=r.length)/\∀c:Int,1<=c->oZ r c=if c=1 then k else k+oZ (r.drop k) (c-1)):=by
 intro N;induction N with
 |zero=>
  intro r U;have:r=[]:=cK (by omega);subst this;refine⟨λd k h=>?_,λd k h=>?_⟩
  ·rw[qG]at h;cases h
  ·rw[Cx]at h;cases h
 |succ N ih=>
  intro r U;cases r with
  |nil=>exact ih [] (by simp)
  |cons c r=>
   simp only[aB]at U;have U:r.length<=N:=by omega
   refine⟨λd k h=>?_,λd k h=>?_⟩
   ·rw[qH]at h;rw[AH];simp only[gR]at h;split at h
    ·rename_i e;rw[aO e];injection h with I _
     subst I;simp
    rename_i e;rw[aJ e];split at h
    ·cases h
    split at h
    ·rename_i e2;rw[aO e2];cases r with
     |nil=>cases h
     |cons x r'=>
      simp only at h⊢;split at h
      ·obtain⟨I,J⟩:=nG h;obtain⟨q1,q2,q3⟩:=(ih r' (by simp at U;omega)).1 d _ I;simp only[aB];omega
      ·cases h
    rename_i e2;rw[aJ e2];split at h
    ·rename_i e3;rw[aO e3];split at h
     ·cases h
     split at h
     ·rename_i e4;obtain⟨I,J⟩:=nG h;cases r with
      |nil=>simp[qC]at e3
      |cons x r'=>
       have hx:x=123:=by
        simp[qC]at e3;exact e3.2.symm
       subst hx;simp only[dW,eU]at I J e4;have hh:r'.length<=N:=by simp at U;omega
       obtain⟨⟨b1,b2⟩,b3⟩:=(ih r' hh).2 (d+1) (lO r' (d+1)).1 (iY rfl e4);have hb:=b3 1 (by omega);rw[aO rfl]at hb;have hj:oZ (123::r') 0=1+(lO r' (d+1)).1:=by
        rw[oF,aO rfl];show 1+oZ r' (0+1)=_;rw[show(0:Int)+1=1 from rfl,hb]
       rw[hj];have hi:(123::r').drop (1+(lO r' (d+1)).1)=r'.drop (lO r' (d+1)).1:=by rw[Dm];rfl
       rw[hi];obtain⟨q1,q2,q3⟩:=(ih (r'.drop (lO r' (d+1)).1) (mC _ hh)).1 d _ I;rw[aR]at q3;simp only[aB];omega
     ·rename_i e4;injection h with _ J
      exact absurd J e4
    ·rename_i e3;rw[aJ e3];obtain⟨I,J⟩:=nG h;obtain⟨q1,q2,q3⟩:=(ih r U).1 d _ I;simp only[aB];omega
   ·rw[AL]at h;simp only[gR]at h;split at h
    ·rename_i e;injection h with I _
     subst I;refine⟨by simp,λcc hc=>?_⟩;rw[oF,aJ (by rw[e];decide),aO e];by_cases I:cc=1
     ·subst I;simp
     ·rw[aJ (by omega),aJ I];rfl
    rename_i e;split at h
    ·cases h
    rename_i e10;split at h
    ·rename_i e2;split at h
     ·cases h
     split at h
     ·rename_i e4;obtain⟨I,J⟩:=nG h;obtain⟨⟨b1,b2⟩,b3⟩:=(ih r U).2 (d+1) (lO r (d+1)).1 (iY rfl e4);obtain⟨⟨f1,f2⟩,f3⟩:=(ih (r.drop (lO r (d+1)).1) (mC _ U)).2 d _ I;rw[aR]at f2;refine⟨by simp only[aB];omega,λcc hc=>?_⟩;rw[oF,aO e2,b3 (cc+1) (by omega),aJ (by omega),show cc+1-1=cc from by omega,f3 cc hc];by_cases o:cc=1
      ·rw[aO o,aO o];omega
      ·rw[aJ o,aJ o,kB];have:(c::r).drop k=r.drop (k-1):=by
        obtain⟨j,rfl⟩:∃j,k=j+1:=⟨k-1,by omega⟩;rfl
       rw[this,show(lO r (d+1)).1+(k-((lO r (d+1)).1+1))=k-1 from by omega];omega
     ·rename_i e4;injection h with _ J
      exact absurd J e4
    rename_i e2;split at h
    ·rename_i e3;split at h
     ·rename_i e4;obtain⟨I,J⟩:=nG h;obtain⟨q1,q2,q3⟩:=(ih r U).1 d (jL r d).1 (iY rfl e4);obtain⟨⟨f1,f2⟩,f3⟩:=(ih (r.drop (jL r d).1) (mC _ U)).2 d _ I;rw[aR]at f2;refine⟨by simp only[aB];omega,λcc hc=>?_⟩;rw[oF,aJ e2,aJ e,aO e3,q1,f3 cc hc];by_cases o:cc=1
      ·rw[aO o,aO o];omega
      ·rw[aJ o,aJ o,kB];have:(c::r).drop k=r.drop (k-1):=by
        obtain⟨j,rfl⟩:∃j,k=j+1:=⟨k-1,by omega⟩;rfl
       rw[this,show(jL r d).1+(k-((jL r d).1+1))=k-1 from by omega];omega
     ·rename_i e4;injection h with _ J
      exact absurd J e4
    ·rename_i e3;obtain⟨I,J⟩:=nG h;obtain⟨⟨f1,f2⟩,f3⟩:=(ih r U).2 d _ I;refine⟨by simp only[aB];omega,λcc hc=>?_⟩;rw[oF,aJ e2,aJ e,aJ e3,f3 cc hc];by_cases o:cc=1
     ·rw[aO o,aO o];omega
     ·rw[aJ o,aJ o];have:(c::r).drop k=r.drop (k-1):=by
       obtain⟨j,rfl⟩:∃j,k=j+1:=⟨k-1,by omega⟩;rfl
      rw[this];omega
structure eB(L:List (List Nat))(roots:List Nat):Prop where
 ahead:∀(i:Nat) (us:List Nat),L[i]?=some us->∀a∈us,a<i
 once:∀j,j<L.length->L.flatten.count j+roots.count j=1
 low:∀r∈roots,r<L.length
theorem eB.perm{L:List (List Nat)}{r r':List Nat}(h:eB L r)(o:r.Perm r'):eB L r':=
 ⟨h.ahead,λj J=>by rw[<-o.count_eq];exact h.once j J,λx I=>h.low x (o.mem_iff.2 I)⟩
theorem eB.nil:eB [] []:=⟨λi us h=>by simp at h,λj o=>by simp at o,λr h=>by simp at h⟩
theorem eB.flat_lt{L:List (List Nat)}{r:List Nat}(h:eB L r):∀x∈L.flatten,x<L.length:=by
 intro x I;obtain⟨us,o,j⟩:=List.mem_flatten.1 I;obtain⟨i,hi⟩:=List.getElem?_of_mem o;have U:=h.ahead i us hi x j;have J:=(List.getElem?_eq_some_iff.1 hi).1;omega
theorem eB.put{L:List (List Nat)}{us roots:List Nat}(h:eB L (us++roots)):eB (L++[us]) (L.length::roots):=by
 refine⟨λi bs hi=>?_,λj U=>?_,λr I=>?_⟩
 ·by_cases hl:i<L.length
  ·rw[List.getElem?_append_left hl]at hi;exact h.ahead i bs hi
  ·rw[List.getElem?_append_right (by omega)]at hi;have:i-L.length=0:=by
    by_cases h0:i-L.length=0
    ·exact h0
    ·rw[List.getElem?_eq_none (by simp;omega)]at hi;cases hi
   rw[this]at hi;simp only[List.getElem?_cons_zero,aV]at hi;subst hi;intro a ha;have:=h.low a (bS _ ha);omega
 ·rw[List.flatten_append,kV];simp only[List.flatten_cons,List.flatten_nil,eZ,vQ];by_cases hl:j<L.length
  ·have h1:=h.once j hl;rw[kV]at h1;have:(L.length==j)=false:=by simp;omega
   rw[this];simp only[oH,rN];omega
  ·have J:j=L.length:=by rw[aP,aB,aK]at U;omega
   subst J;have e1:L.flatten.count L.length=0:=vX.2 λo=>by have:=h.flat_lt _ o;omega
   have e2:us.count L.length=0:=vX.2 λo=>by have:=h.low _ (bS _ o);omega
   have e3:roots.count L.length=0:=vX.2 λo=>by have:=h.low _ (bF _ o);omega
   rw[e1,e2,e3];simp
 ·rw[aP,aB,aK];rcases aX.1 I with rfl|I
  ·omega
  ·have:=h.low r (bF _ I);omega
abbrev exL(ex:List Ex):List (List Nat):=ex.map (·.args)
theorem CH{ex:List Ex}{e:Ex}{roots:List Nat}(h:eB (exL ex) (e.args++roots)):eB (exL (ex++[e])) (ex.length::roots):=by
 have:=h.put;rw[kN]at this;simpa[exL]using this
def Sat{α:Type}(r:R α)(P:α->PS->Prop)(Q:Int->Prop):Prop:=match r with
 |.ok x s=>P x s
 |.err _ a=>Q a
theorem Sat.bind{α β:Type}{r:R α}{f:α->PS->R β}{P:α->PS->Prop}{P':β->PS->Prop}{Q:Int->Prop}(h:Sat r P Q)(hf:∀x s,P x s->Sat (f x s) P' Q):Sat (r.bind f) P' Q:=by
 cases r with
 |ok x s=>exact hf x s h
 |err c a=>exact h
theorem Sat.mono{α:Type}{r:R α}{P P':α->PS->Prop}{Q:Int->Prop}(h:Sat r P Q)(j:∀x s,P x s->P' x s):Sat r P' Q:=by
 cases r with
 |ok x s=>exact j x s h
 |err c a=>exact h
def FM(N a:Int)(t:Str):Prop:=insP t=none\/a+t.length+2<=N
structure TG(N off:Int)(l:List Tok):Prop where
 ne:l≠[]
 pos:∀i t,l[i]?=some t->0<=t.a+off/\t.a+off<=N/\(t.k≠0->t.a+off<N)/\(t.k=3->FM N (t.a+off) t.t)/\(t.k=1->t.t≠[])/\(i+1=l.length->t.k=0)
structure WS(N:Int)(s:PS):Prop where
 tg:TG N s.off s.toks
 lt:s.i<s.toks.length
 pN:0<=N
structure Go1(N:Int)(s s':PS):Prop where
 toks:s'.toks=s.toks
 off:s'.off=s.off
 deep:s'.deep=s.deep
 quiet:s'.quiet=s.quiet
 le:s.i<=s'.i
 lt:s'.i<s'.toks.length
 exs:∀e∈s'.ex,e∈s.ex\/(0<=e.a/\e.a<N)
theorem Go1.trans{N:Int}{s s1 s2:PS}(h:Go1 N s s1)(j:Go1 N s1 s2):Go1 N s s2:=
 ⟨j.toks.trans h.toks,j.off.trans h.off,j.deep.trans h.deep,j.quiet.trans h.quiet,dI h.le j.le,j.lt,λe o=>(j.exs e o).elim (h.exs e) .inr⟩
theorem Go1.refl{N:Int}{s:PS}(h:WS N s):Go1 N s s:=⟨rfl,rfl,rfl,rfl,aY _,h.lt,λ_ j=>.inl j⟩
theorem Go1.ws{N:Int}{s s':PS}(h:Go1 N s s')(j:WS N s):WS N s':=⟨by rw[h.toks,h.off];exact j.tg,h.lt,j.pN⟩
theorem wD{N:Int}{s:PS}(h:WS N s)(d:Nat)(q:Bool):WS N {s with deep:=d,quiet:=q}:=⟨h.tg,h.lt,h.pN⟩
theorem Cq:∀{l:List Tok},l≠[]->(∀t,l.getLast?=some t->t.k≠5)->kF l<l.length
 |[],h,_=>absurd rfl h
 |[t],_,h=>by
  have:=h t rfl
  simp[kF,this]
 |t::u::r,_,h=>by
  have ih:=Cq (l:=u::r) (by simp) (λx j=>h x (by simpa using j))
  simp only[kF,aB]at ih⊢
  split<;>omega
theorem TG.last{N off:Int}{l:List Tok}(h:TG N off l)(hi:i<l.length):kF (l.drop i)<l.length-i:=by
 have o:l.drop i≠[]:=λe=>by have:=congrArg List.length e;rw[aR,aK]at this;omega
 have:=Cq o λt j=>by
  rw[List.getLast?_drop]at j;rw[aJ (by omega)]at j;rw[List.getLast?_eq_getElem?]at j;have:=(h.pos _ t j).2.2.2.2.2 (by omega);omega
 rw[aR]at this;exact this
theorem jE{N:Int}{s:PS}(h:WS N s):Go1 N s (bE s):=by
 unfold bE;split
 ·have:=h.tg.last h.lt;exact⟨rfl,rfl,rfl,rfl,Nat.le_add_right _ _,(by show s.i+_<s.toks.length;have:=h.lt;omega),λ_ j=>.inl j⟩
 ·exact Go1.refl h
theorem wG{N:Int}{s:PS}(h:WS N s):s.toks[s.i]?=some (mR s):=by
 unfold mR;rw[List.getD_eq_getElem?_getD,List.getElem?_eq_getElem h.lt];rfl
theorem lJ{N:Int}{s:PS}(h:WS N s):0<=(cur s).a/\(cur s).a<=N/\((cur s).k≠0->(cur s).a<N)/\((cur s).k=3->FM N (cur s).a (cur s).t)/\((cur s).k=1->(cur s).t≠[]):=by
 have I:=jE h;have o:=I.ws h;have j:=o.tg.pos _ _ (wG o);rw[I.off]at j;exact⟨j.1,j.2.1,j.2.2.1,j.2.2.2.1,j.2.2.2.2.1⟩
theorem lI{N:Int}{s:PS}(h:WS N s)(J:(cur s).k≠0):Go1 N s (step1 (bE s))/\s.i<(step1 (bE s)).i:=by
 have j:=jE h;have o:=j.ws h;have h1:=(o.tg.pos _ _ (wG o)).2.2.2.2.2;have I:(bE s).i+1<(bE s).toks.length:=by
  have:=o.lt;by_cases U:(bE s).i+1=(bE s).toks.length
  ·exact absurd (h1 U) J
  ·omega
 exact⟨⟨j.toks,j.off,j.deep,j.quiet,dI j.le (qS _),I,j.exs⟩,Nat.lt_succ_of_le j.le⟩
theorem Qh(s:PS)(h:∀k,s.quiet=true->k=kF (s.toks.drop s.i)->kF (s.toks.drop (s.i+k))=0):bE (bE s)=bE s:=by
 unfold bE;split
 ·rename_i j;have:=h _ j rfl;simp only[j,pH,this,cN]
 ·rfl
theorem Aa:∀(l:List Tok),kF (l.drop (kF l))=0
 |[]=>rfl
 |t::r=>by
  simp only[kF]
  split
  ·exact Aa r
  ·rename_i h
   simp[kF,h]
theorem jX(s:PS):bE (bE s)=bE s:=Qh s λk _ j=>by rw[<-kB,j];exact Aa _
theorem mD(s:PS):cur (bE s)=cur s:=by
 unfold cur;rw[jX];have:(bE s).off=s.off:=by unfold bE;split<;>rfl
 rw[this]
abbrev Later(N:Int)(s:PS)(s':PS):Prop:=Go1 N s s'/\s.i<s'.i
abbrev InN(N:Int)(a:Int):Prop:=0<=a/\a<=N
theorem nJ{s:PS}{w:Str}(h:isS s w=true):(cur s).k≠0:=by
 unfold isS at h;simp only[bL,fD]at h;rw[h.1];decide
theorem lH{N:Int}{s:PS}(h:WS N s)(w:Str):Go1 N s (cD s w).2/\((cD s w).1=true->s.i<(cD s w).2.i)/\(cD s w).2.ex=s.ex/\(cD s w).2.bl=s.bl:=by
 have e1:(bE s).ex=s.ex:=by unfold bE;split<;>rfl
 have e2:(bE s).bl=s.bl:=by unfold bE;split<;>rfl
 unfold cD;split
 ·rename_i hi;have:=lI h (nJ hi);exact⟨this.1,λ_=>this.2,e1,e2⟩
 ·exact⟨jE h,(λe=>by cases e),e1,e2⟩
theorem jK(s:PS):(bE s).ex=s.ex/\(bE s).bl=s.bl:=by unfold bE;split<;>exact⟨rfl,rfl⟩
theorem lU{N:Int}{s:PS}(h:WS N s)(w:Str):Sat (oI s w) (λ_ s'=>Later N s s'/\s'.ex=s.ex/\s'.bl=s.bl) (InN N):=by
 unfold oI;split
 ·rename_i hi;exact⟨lI h (nJ hi),jK s⟩
 ·have:=lJ h;exact⟨this.1,this.2.1⟩
theorem rW{N:Int}{s:PS}(h:WS N s):Go1 N s (kI s)/\((cur s).k≠0->s.i<(kI s).i)/\(kI s).ex=s.ex/\(kI s).bl=s.bl:=by
 unfold kI;split
 ·rename_i j;have:=lI h j;exact⟨this.1,λ_=>this.2,jK s⟩
 ·rename_i j;exact⟨jE h,λe=>absurd e j,jK s⟩
theorem mW{N:Int}{s:PS}(h:WS N s)(k:Int)(j:k≠0):Sat (mH s k) (λt s'=>Later N s s'/\s'.ex=s.ex/\s'.bl=s.bl/\t=cur s/\t.k=k) (InN N):=by
 unfold mH;split
 ·rename_i o;have:=rW h;exact⟨⟨this.1,this.2.1 (by omega)⟩,this.2.2.1,this.2.2.2,rfl,o⟩
 ·have:=lJ h;exact⟨this.1,this.2.1⟩
theorem mG{N:Int}{s:PS}(h:WS N s):Go1 N s (iR s)/\(iR s).ex=s.ex/\(iR s).bl=s.bl:=by
 have j:=jE h;have o:=j.ws h;have J:=o.tg.last o.lt;rw[j.toks]at J;have I:=o.lt;rw[j.toks]at I;refine⟨⟨j.toks,j.off,j.deep,j.quiet,?_,?_,j.exs⟩,jK s⟩
 ·have:=j.le;show s.i<=(bE s).i+_;omega
 ·show(bE s).i+_<(bE s).toks.length;rw[j.toks];omega
def EOk(N:Int)(F:PS->R Nat):Prop:=∀s,WS N s->Sat (F s) (λx s'=>Later N s s'/\s'.bl=s.bl/\∀roots,eB (exL s.ex) roots->eB (exL s'.ex) (x::roots)) (InN N)
theorem zU{N:Int}{s:PS}(h:WS N s){e:Ex}(o:0<=e.a/\e.a<N):Sat (qV s e) (λx s'=>Go1 N s s'/\s'.i=s.i/\s'.bl=s.bl/\∀roots,eB (exL s.ex) (e.args++roots)->eB (exL s'.ex) (x::roots)) (InN N):=
 ⟨⟨rfl,rfl,rfl,rfl,aY _,h.lt,λx j=>by
   rcases bH.1 j with j|j
   ·exact .inl j
   ·rw[bR]at j
    subst j
    exact .inr o⟩,rfl,rfl,λ_ hf=>CH hf⟩
theorem mP{N:Int}{s:PS}(h:WS N s){α:Type}{a:Int}(j:InN N a){q:Bool}{f:PS->R α}{P:α->PS->Prop}(hf:WS N {s with deep:=s.deep+1,quiet:=q}->Sat (f {s with deep:=s.deep+1,quiet:=q}) P (InN N)):
  Sat (within s a q f) (λx s'=>∃s1,P x s1/\s'={s1 with deep:=s.deep,quiet:=s.quiet}) (InN N):=by
 unfold within;split
 ·exact j
 ·exact(hf (wD h _ _)).bind λx s1 o=>⟨s1,o,rfl⟩
theorem Go1.back{N:Int}{s s1:PS}{d:Nat}{q:Bool}(h:Go1 N {s with deep:=d,quiet:=q} s1):Go1 N s {s1 with deep:=s.deep,quiet:=s.quiet}:=⟨h.toks,h.off,rfl,rfl,h.le,h.lt,h.exs⟩
theorem rJ(p:UInt8->Bool):∀s:Str,fT p s<=s.length
 |[]=>aY _
 |c::r=>by
  have:=rJ p r
  simp only[fT,aB]
  split<;>omega
theorem Fz:∀(s:Str) (i:Nat),Lib.index s [42,47]=(i:Int)->i+2<=s.length
 |[],i,h=>by
  unfold Lib.index at h
  simp at h
 |b::l,i,h=>by
  unfold Lib.index at h
  split at h
  ·rename_i o
   have hi:i=0:=by omega
   subst hi
   cases l with
   |nil=>simp[List.isPrefixOf]at o
   |cons c l=>simp
  ·split at h
   ·omega
   ·rename_i j
    have J:Lib.index l [42,47]≠-1:=by simpa using j
    have I:=Lib.index_ge l [42,47]
    have:=Fz l (i-1) (by omega)
    simp only[aB]
    omega
theorem Fb{p s:Str}(h:qC p s=true):p.length<=s.length:=by
 unfold qC at h;exact(Dv.1 h).length_le
theorem uN:∀(n:Nat) (s:Str),(iZ n s).1<=s.length
 |0,_=>fW _
 |_+1,[]=>fW _
 |n+1,c::r=>by
  simp only[iZ]
  split
  ·have:=uN n r
   simp only[aB]
   omega
  split
  ·have I:=uN n ((c::r).drop (fT (λb=>b !=10) (c::r)))
   have o:=rJ (λb=>b !=10) (c::r)
   rw[aR]at I
   simp only
   omega
  split
  ·rename_i J
   split
   ·exact fW _
   ·rename_i hi
    obtain⟨i,j⟩:=vZ (by omega:0<=Lib.index (r.drop 1) [42,47])
    have I:=Fz _ _ j
    have o:=uN n ((c::r).drop ((Lib.index (r.drop 1) [42,47]).toNat+4))
    rw[j]at o⊢
    rw[aR]at I o
    simp only[aB,bC]at o⊢
    omega
  ·exact fW _
def noD:Str->Bool
 |[]=>true
 |[c]=>c !=92&&c !=36
 |c::e::r=>if c=92 then noD r else c !=36&&noD (e::r)
theorem BE:∀(n:Nat) (t:Str),t.length<=n->noD t=true->insP t=none
 |_,[],_,_=>rfl
 |_,[_],_,_=>rfl
 |0,c::e::r,h,_=>by simp at h
 |n+1,c::e::r,h,hd=>by
  simp only[noD]at hd
  simp only[insP]
  simp only[aB]at h
  split
  ·rename_i j
   rw[aO j]at hd
   rw[BE n r (by omega) hd]
   rfl
  ·rename_i j
   rw[aJ j]at hd
   simp only[bL,bne_iff_ne,cJ]at hd
   rw[aJ (λe=>hd.1 e.1),BE n (e::r) (by simp only[aB];omega) hd.2]
   rfl
theorem Ci{r:Str}(o:c≠92)(j:c≠36)(h:noD r=true):noD (c::r)=true:=by
 cases r with
 |nil=>simp[noD,o,j]
 |cons e r=>simp[noD,o,j,h]
theorem BF{r:Str}(h:noD r=true):noD (92::c::r)=true:=by simp[noD,h]
theorem BG:∀(n:Nat) (a b:Str),a.length<=n->noD a=true->noD b=true->noD (a++b)=true
 |_,[],b,_,_,hb=>hb
 |0,_::_,b,h,_,_=>by simp at h
 |_,[c],b,_,j,hb=>by
  simp only[noD,bL,bne_iff_ne,cJ]at j
  exact Ci j.1 j.2 hb
 |n+1,c::e::r,b,h,j,hb=>by
  simp only[noD]at j
  simp only[aB]at h
  split at j
  ·rename_i o
   subst o
   exact BF (BG n r b (by omega) j hb)
  ·rename_i o
   simp only[bL,bne_iff_ne,cJ]at j
   exact Ci o j.1 (BG n (e::r) b (by simp only[aB];omega) j.2 hb)
theorem GG:∀s:Str,noD (kP s)=true
 |[]=>rfl
 |c::r=>by
  have ih:=GG r
  simp only[kP]
  split
  ·exact BF ih
  rename_i j
  split
  ·exact BF ih
  split
  ·exact BF ih
  ·simp only[fS,gR,not_or]at j
   exact Ci j.1.1 j.2 ih
theorem JA:∀(n:Nat) (name s:Str) (t:Str) (k:Nat),mI n name s=(t,k,0)->k<=s.length/\noD t=true
 |0,_,_,_,_,h=>by simp[mI]at h
 |n+1,name,s,t,k,h=>by
  have U:=rJ (λb=>b !=10) s
  simp only[mI]at h
  split at h
  ·injection h with I j
   injection j with j _
   subst I j
   exact⟨U,rfl⟩
  split at h
  ·cases h
  rename_i J
  split at h
  ·rename_i o
   injection h with I j
   injection j with j _
   obtain⟨i1,i2⟩:=JA n name (s.drop (fT (λb=>b !=10) s+1)) (mI n name (s.drop (fT (λb=>b !=10) s+1))).1 (mI n name (s.drop (fT (λb=>b !=10) s+1))).2.1 (iY rfl (iY rfl o))
   rw[aR]at i1
   subst I j
   refine⟨by omega,?_⟩
   refine BG _ _ _ (aY _) (BG _ _ _ (aY _) (GG _) rfl) i2
  ·rename_i o
   injection h with _ j
   injection j with _ j
   exact absurd j o
theorem QF{s:Str}{m:Nat}(j:(s.drop m).head?=some c):m<s.length:=by
 by_cases hl:m<s.length
 ·exact hl
 ·rw[gL (by omega)]at j;cases j
theorem CC{s t:Str}{k:Nat}(h:jT s=(t,k,0)):1<=k/\k<=s.length/\noD t=true:=by
 unfold jT at h;simp only at h;generalize (if gV ((s.drop 2).headD 0)=true then fT iS (s.drop 2)else 0)=n at h;split at h
 ·cases h
 split at h
 ·rename_i J;have I:=QF J;generalize U:mI (s.length+1) ((s.drop 2).take n) (s.drop (2+n+1))=x at h;obtain⟨x1,x2,x3⟩:=x;simp only at h;split at h
  ·rename_i o;subst o;injection h with h1 j
   injection j with j _
   obtain⟨i1,i2⟩:=JA _ _ _ _ _ U;rw[aR]at i1;subst h1 j;exact⟨by omega,by omega,i2⟩
  ·rename_i o;injection h with _ j
   injection j with _ j
   exact absurd j o
 ·cases h
theorem Ff{s:Str}{t:Tok}{k:Nat}(hs:s≠[])(h:nM s=(t,k,0)):1<=k/\k<=s.length/\t.k≠0/\t.a=0/\(t.k=1->t.t≠[])/\(t.k=3->insP t.t=none\/t.t.length+2<=k):=by
 obtain⟨c,r,rfl⟩:∃c r,s=c::r:=by
  cases s with
  |nil=>exact absurd rfl hs
  |cons c r=>exact⟨c,r,rfl⟩
 unfold nM at h;simp only[List.headD_cons]at h;split at h
 ·injection h with o j
  injection j with j _
  subst o j;simp
 split at h
 ·rename_i hl;injection h with o j
  injection j with j I
  have U:1<=fT iS (c::r):=by
   simp only[fT];rw[aO (by unfold iS;rw[hl];rfl)];omega
  have:=rJ iS (c::r);subst o j;refine⟨U,this,by simp,rfl,λ_=>?_,λe=>by simp at e⟩;intro e;have e:=congrArg List.length e;rw[cO,aK]at e;omega
 split at h
 ·rename_i hl;injection h with o j
  injection j with j I
  have U:1<=fT kU (c::r):=by
   simp only[fT];rw[aO hl];omega
  have:=rJ kU (c::r);subst o j;exact⟨U,this,by simp,rfl,λe=>by simp at e,λe=>by simp at e⟩
 split at h
 ·split at h
  ·rename_i J;injection h with o j
   injection j with j _
   have hx:pK ((c::r).length+1) ((c::r).drop 1) 0=jL r 0:=rT (by simp;omega);rw[hx]at J o j;obtain⟨_,q2,q3⟩:=(lF r.length r (aY _)).1 0 (jL r 0).1 (iY rfl J);subst o j;refine⟨by omega,by simp only[aB];omega,by simp,rfl,λe=>by simp at e,λ_=>.inr ?_⟩;rw[cO];simp only[dW,eU];omega
  ·rename_i J;injection h with _ j
   injection j with _ j
   exact absurd j J
 split at h
 ·injection h with o j
  injection j with j I
  obtain⟨i1,i2,i3⟩:=CC (s:=c::r) (t:=(jT (c::r)).1) (k:=(jT (c::r)).2.1) (iY rfl (iY rfl I));subst o j;exact⟨i1,i2,by simp,rfl,λe=>by simp at e,λ_=>.inl (BE _ _ (aY _) i3)⟩
 ·injection h with o j
  injection j with j I
  subst o j;split at I
  ·cases I
  rename_i hz;refine⟨by omega,?_,by simp,rfl,λe=>by simp at e,λe=>by simp at e⟩;unfold qU;split
  ·exact List.length_take_le' _ _
  ·split
   ·exact List.length_take_le' _ _
   ·simp
theorem Gg:∀(n:Nat) (s:Str) (a cnt:Nat) (l:List Tok),mU n s a cnt=.ok l->TG ((a+s.length:Nat):Int) 0 l
 |0,_,_,_,_,h=>by simp[mU]at h
 |n+1,s,a,cnt,l,h=>by
  have hk:=uN (s.length+1) s
  simp only[mU]at h
  split at h
  ·cases h
  split at h
  ·rename_i o
   injection h with h
   subst h
   have:s.length<=(iZ (s.length+1) s).1:=by
    have:=congrArg List.length o;rw[aR,aK]at this;omega
   refine⟨by simp,λi t j=>?_⟩;have hi:i=0:=by
    by_cases h0:i=0
    ·exact h0
    ·rw[List.getElem?_eq_none (by simp;omega)]at j;cases j
   subst hi;simp only[List.getElem?_cons_zero,aV]at j;subst j;refine⟨by simp only;omega,by simp only;omega,λe=>absurd rfl e,λe=>by simp at e,λe=>by simp at e,λ_=>rfl⟩
  rename_i o;split at h
  ·cases h
  rename_i ho;split at h
  ·cases h
  have U:s.length-(iZ (s.length+1) s).1=(s.drop (iZ (s.length+1) s).1).length:=(aR ..).symm;obtain⟨o1,o2,o3,o4,o5,o6⟩:=Ff o (iY rfl (iY rfl (Classical.not_not.1 ho)):nM (s.drop (iZ (s.length+1) s).1)=((nM (s.drop (iZ (s.length+1) s).1)).1,(nM (s.drop (iZ (s.length+1) s).1)).2.1,0));split at h
  ·rename_i l' J;injection h with h
   subst h;have ih:=Gg n _ _ _ _ J;rw[aR]at ih;have eN:a+(iZ (s.length+1) s).1+(nM (s.drop (iZ (s.length+1) s).1)).2.1+((s.drop (iZ (s.length+1) s).1).length-(nM (s.drop (iZ (s.length+1) s).1)).2.1)=a+s.length:=by omega
   rw[eN]at ih;refine⟨by simp,λi t j=>?_⟩;cases i with
   |zero=>
    simp only[List.getElem?_cons_zero,aV]at j;subst j;refine⟨by simp only;omega,by simp only;omega,λ_=>by simp only;omega,λe=>?_,λe=>o5 e,λe=>?_⟩
    ·rcases o6 e with h|h
     ·exact .inl h
     ·exact .inr (by simp only;omega)
    ·simp only[aB]at e;have:=ih.ne;exact absurd (cK (by omega)) this
   |succ i=>
    simp only[List.getElem?_cons_succ]at j;have:=ih.pos i t j;exact⟨this.1,this.2.1,this.2.2.1,this.2.2.2.1,this.2.2.2.2.1,λe=>this.2.2.2.2.2 (by simp only[aB]at e;omega)⟩
  ·rename_i I;exact absurd h (I l)
theorem DL:∀(n:Nat) (s:Str) (a cnt:Nat) (c b:Int),mU n s a cnt=.bad c b->0<=b/\b<=((a+s.length:Nat):Int)
 |0,_,_,_,_,_,h=>by
  simp only[mU]at h
  injection h with _ h
  subst h
  omega
 |n+1,s,a,cnt,c,b,h=>by
  have I:=uN (s.length+1) s
  simp only[mU]at h
  split at h
  ·injection h with _ h
   subst h
   omega
  split at h
  ·cases h
  rename_i j
  split at h
  ·injection h with _ h
   subst h
   omega
  rename_i o
  split at h
  ·injection h with _ h
   subst h
   omega
  obtain⟨o1,o2,_⟩:=Ff j (iY rfl (iY rfl (Classical.not_not.1 o)):nM (s.drop (iZ (s.length+1) s).1)=((nM (s.drop (iZ (s.length+1) s).1)).1,(nM (s.drop (iZ (s.length+1) s).1)).2.1,0))
  rw[aR]at o2
  split at h
  ·cases h
  ·have ih:=DL n _ _ _ c b h
   rw[aR,aR]at ih
   omega
theorem JM:∀(n:Nat) (s:Str) (i j:Nat),Db n s i=some j->j<s.length
 |0,_,_,_,h=>by simp[Db]at h
 |n+1,s,i,j,h=>by
  simp only[Db]at h
  split at h
  ·cases h
  split at h
  ·injection h with h
   omega
  ·exact JM n s _ j h
theorem BB{s:Str}{l:List Tok}(h:nI s=.ok l){N off:Int}(h0:0<=off)(hN:off+s.length<=N):TG N off l:=by
 unfold nI at h;split at h
 ·cases h
 split at h
 ·cases h
 have:=Gg _ _ _ _ _ h;refine⟨this.ne,λi t J=>?_⟩;obtain⟨h1,I,o,j,h5,U⟩:=this.pos i t J;rw[aH]at I o j;rw[Int.add_zero]at h1 I o j;refine⟨by omega,by omega,λe=>by have:=o e;omega,λe=>?_,h5,U⟩;rcases j e with h|h
 ·exact .inl h
 ·exact .inr (by omega)
theorem BY{s:Str}{c b:Int}(h:nI s=.bad c b):0<=b/\b<=(s.length:Nat):=by
 unfold nI at h;split at h
 ·injection h with _ h
  subst h;omega
 split at h
 ·rename_i i hi;injection h with _ h
  subst h;have:=JM _ _ _ _ hi;omega
 ·have:=DL _ _ _ _ _ _ h;rw[aH]at this;exact this
theorem TE:∀(N:Nat) (r:Str),r.length<=N->(∀c,oZ r c<=r.length)/\rM r<=r.length:=by
 intro N;induction N with
 |zero=>
  intro r j;have:r=[]:=cK (by omega);subst this;exact⟨λc=>aY _,aY _⟩
 |succ N ih=>
  intro r j;cases r with
  |nil=>exact ih [] (by simp)
  |cons c r=>
   simp only[aB]at j;have j:r.length<=N:=by omega
   have o:=ih r j;refine⟨λd=>?_,?_⟩
   ·rw[oF];have I:=(ih (r.drop (rM r)) (mC _ j)).1 d;rw[aR]at I;have U:=o.1 (d+1);have h4:=o.1 (d-1);have h5:=o.1 d;have J:=o.2;simp only[aB]
    (repeat' split)<;>omega
   ·rw[AH];have I:=(ih (r.drop (oZ r 0)) (mC _ j)).2;rw[aR]at I;have U:=o.1 0;have J:=o.2;cases r with
    |nil=>
     simp only[aB,aK]at*
     (repeat' split)<;>omega
    |cons e r'=>
     have h7:=(ih r' (by simp only[aB]at j;omega)).2;simp only[aB]at*
     (repeat' split)<;>omega
theorem FG(r:Str)(c:Int):oZ r c<=r.length:=(TE r.length r (aY _)).1 c
theorem Ad:∀(n:Nat) (t:Str),t.length<=n->∀i e,insP t=some (i,e)->i+2<=t.length/\i+1<=e/\e<=t.length
 |_,[],_,i,e,h=>by simp[insP]at h
 |_,[_],_,i,e,h=>by simp[insP]at h
 |0,_::_::_,h,_,_,_=>by simp at h
 |n+1,c::x::r,o,i,e,h=>by
  simp only[aB]at o
  simp only[insP]at h
  split at h
  ·cases j:insP r with
   |none=>rw[j]at h;cases h
   |some y=>
    rw[j]at h
    simp only[aG,aV,gK]at h
    obtain⟨rfl,rfl⟩:=h
    have:=Ad n r (by omega) y.1 y.2 j
    simp only[aB]
    omega
  split at h
  ·simp only[aV,gK]at h
   obtain⟨rfl,rfl⟩:=h
   have:=FG (x::r) 0
   have e1:CW (x::r)=oZ (x::r) 0:=rfl
   rw[e1]
   simp only[aB]at this⊢
   omega
  ·cases j:insP (x::r)with
   |none=>rw[j]at h;cases h
   |some y=>
    rw[j]at h
    simp only[aG,aV,gK]at h
    obtain⟨rfl,rfl⟩:=h
    have:=Ad n (x::r) (by simp only[aB];omega) y.1 y.2 j
    simp only[aB]at this⊢
    omega
section
variable{N:Int}{E S:PS->R Nat}
theorem El(hE:EOk N E){s:PS}(h:WS N s){t:Str}{a:Int}(h0:0<=a)(h1:a+t.length<=N):Sat (oP E s t a) (λx s'=>Go1 N s s'/\s'.bl=s.bl/\∀roots,eB (exL s.ex) roots->eB (exL s'.ex) (x::roots)) (InN N):=by
 unfold oP;split
 ·rename_i c b I;have:=BY I;exact⟨by omega,by omega⟩
 ·rename_i l I;have j:=BB I h0 h1;have J:WS N ⟨l,0,a,s.deep,false,s.ex,s.bl⟩:=⟨j,gY.2 j.ne,h.pN⟩;refine(hE _ J).bind λx q ⟨⟨U,_⟩,hb,hf⟩=>?_;have o:=U.ws J;unfold mH;split
  ·refine⟨⟨rfl,rfl,rfl,rfl,aY _,h.lt,λe he=>?_⟩,?_,λroots hr=>?_⟩
   ·have:e∈(kI q).ex:=he;rw[(rW o).2.2.1]at this;exact U.exs e this
   ·show(kI q).bl=s.bl;rw[(rW o).2.2.2];exact hb
   ·show eB (exL (kI q).ex) _;rw[(rW o).2.2.1];exact hf roots hr
  ·have:=lJ o;exact⟨this.1,this.2.1⟩
theorem DX{s:PS}(h:WS N s){t:Tok}(j:InN N t.a):Sat (pF s t) (λ_ s'=>s'=s) (InN N):=by
 unfold pF;split
 ·exact j
 ·rfl
theorem AJ(hE:EOk N E):∀(n:Nat) (s:PS) (rest:Str) (a:Int) (us:List Nat) (ks:List Str),WS N s->0<=a->a+rest.length+1<=N->
  Sat (nD E n s rest a us ks) (λx s'=>Go1 N s s'/\s'.bl=s.bl/\∀roots,eB (exL s.ex) (us++roots)->eB (exL s'.ex) (x.1++roots)) (InN N)
 |0,s,_,_,_,_,h,_,_=>⟨mN _,h.pN⟩
 |n+1,s,rest,a,us,ks,h,J,h1=>by
  have one:∀(e:Ex),e.args=[]->0<=e.a->e.a<N->Go1 N s {s with ex:=s.ex++[e]}/\∀roots,eB (exL s.ex) (us++roots)->eB (exL (s.ex++[e])) ((us++[s.ex.length])++roots):=λe he h2 h3=>
   ⟨⟨rfl,rfl,rfl,rfl,aY _,h.lt,λx o=>by
     rcases bH.1 o with o|o
     ·exact .inl o
     ·rw[bR]at o;subst o;exact .inr ⟨h2,h3⟩⟩,
    λroots hf=>by
     have:=CH (e:=e) (roots:=us++roots) (by rw[he];exact hf)
     refine this.perm ?_
     rw[fK]
     exact(lZ).symm⟩
  simp only[nD]
  split
  ·exact⟨Go1.refl h,rfl,λ_ hf=>hf⟩
  split
  ·have:=one ⟨5,jB rest,[],[],a⟩ rfl J (by show a<N;omega)
   exact⟨this.1,rfl,this.2⟩
  ·rename_i i e hi
   obtain⟨i1,i2,i3⟩:=Ad rest.length rest (aY _) i e hi
   have I:∃s1 as1,s1=(if 0<i then{s with ex:=s.ex++[⟨5,jB (rest.take i),[],[],a⟩]}else s)/\as1=(if 0<i then us++[s.ex.length]else us)/\Go1 N s s1/\s1.bl=s.bl/\∀roots,eB (exL s.ex) (us++roots)->eB (exL s1.ex) (as1++roots):=by
    refine⟨_,_,rfl,rfl,?_⟩;split
    ·have:=one ⟨5,jB (rest.take i),[],[],a⟩ rfl J (by show a<N;omega);exact⟨this.1,rfl,this.2⟩
    ·exact⟨Go1.refl h,rfl,λ_ hf=>hf⟩
   obtain⟨s1,as1,e1,e2,g1,b1,f1⟩:=I;rw[<-e1,<-e2];have j:=g1.ws h;have hd:((rest.drop e).length:Int)=rest.length-e:=by rw[aR];omega
   split
   ·refine Sat.bind (mP j (a:=a+i) ⟨by omega,by omega⟩ (P:=λx s'=>Go1 N {s1 with deep:=s1.deep+1,quiet:=false} s'/\s'.bl=s1.bl/\∀roots,eB (exL s1.ex) roots->eB (exL s'.ex) (x::roots)) λU=>El hE U (by omega) ?_) λx s2 ⟨q,⟨g2,b2,f2⟩,e3⟩=>?_
    ·rw[cO,aR];omega
    ·subst e3;have g2':=g2.back;refine Sat.mono (AJ hE n _ (rest.drop e) (a+e) (as1++[x]) _ ((g2').ws j) (by omega) (by rw[hd];omega)) λy s3 ⟨g3,b3,f3⟩=>⟨g1.trans (g2'.trans g3),b3.trans (b2.trans b1),λroots hf=>f3 roots ?_⟩;have:=f2 _ (f1 roots hf);refine this.perm ?_;rw[fK];exact(lZ).symm
   ·refine Sat.mono (AJ hE n s1 (rest.drop e) (a+e) as1 _ j (by omega) (by rw[hd];omega)) λy s3 ⟨g3,b3,f3⟩=>⟨g1.trans g3,b3.trans b1,λroots hf=>f3 roots (f1 roots hf)⟩
theorem LA(hE:EOk N E){s:PS}(h:WS N s){t:Tok}(o:0<=t.a/\t.a<N)(j:FM N t.a t.t):Sat (yI E s t) (λx s'=>Go1 N s s'/\s'.bl=s.bl/\∀roots,eB (exL s.ex) roots->eB (exL s'.ex) (x::roots)) (InN N):=by
 unfold yI;split
 ·rename_i hi;have j:t.a+t.t.length+2<=N:=j.resolve_left λe=>by rw[e]at hi;cases hi
  refine(AJ hE (t.t.length+1) s t.t (t.a+1) [] [] h (by omega) (by omega)).bind λx s1 ⟨g1,b1,f1⟩=>?_;refine(zU (g1.ws h) (e:=⟨6,[],x.1,x.2,t.a⟩) o).mono λy s2 ⟨g2,_,b2,f2⟩=>⟨g1.trans g2,b2.trans b1,λroots hf=>f2 roots (f1 roots hf)⟩
 ·exact(zU h (e:=⟨5,jB t.t,[],[],t.a⟩) o).mono λy s2 ⟨g2,_,b2,f2⟩=>⟨g2,b2,λroots hf=>f2 roots hf⟩
theorem HA(hE:EOk N E)(w:Str):∀(n:Nat) (s:PS) (out:List Nat),WS N s->
  Sat (rE E w n s out) (λx s'=>Later N s s'/\s'.bl=s.bl/\∀roots,eB (exL s.ex) (out++roots)->eB (exL s'.ex) (x++roots)) (InN N)
 |0,s,_,h=>⟨mN _,h.pN⟩
 |n+1,s,out,h=>by
  have step:∀{s1:PS},Go1 N s s1->s1.ex=s.ex->s1.bl=s.bl->Sat ((E s1).bind λx s'=>rE E w n s' (out++[x])) (λx s'=>Later N s s'/\s'.bl=s.bl/\∀roots,eB (exL s.ex) (out++roots)->eB (exL s'.ex) (x++roots)) (InN N):=λ{s1} g1 x1 b1=>by
   refine(hE s1 (g1.ws h)).bind λx s2 ⟨g2,b2,f2⟩=>?_
   refine Sat.mono (HA hE w n s2 (out++[x]) (g2.1.ws (g1.ws h))) λy s3 ⟨g3,b3,f3⟩=>⟨⟨g1.trans (g2.1.trans g3.1),by have:=g1.le;have:=g2.2;have:=g3.2;omega⟩,b3.trans (b2.trans b1),λroots hf=>f3 roots ?_⟩
   have:=f2 _ (by rw[x1];exact hf)
   refine this.perm ?_
   rw[fK]
   exact(lZ).symm
  have t1:=lH h w
  simp only[rE]
  split
  ·rename_i j
   exact⟨⟨t1.1,t1.2.1 j⟩,t1.2.2.2,λroots hf=>by rw[t1.2.2.1];exact hf⟩
  split
  ·rename_i o
   have:=step t1.1 t1.2.2.1 t1.2.2.2
   exact this
  ·refine(lU (t1.1.ws h) [44]).bind λ_ s1 ⟨g1,x1,b1⟩=>?_
   have g01:=t1.1.trans g1.1
   have t2:=lH (g01.ws h) w
   split
   ·rename_i j
    exact⟨⟨g01.trans t2.1,by have:=t1.1.le;have:=g1.2;have:=t2.1.le;omega⟩,t2.2.2.2.trans (b1.trans t1.2.2.2),λroots hf=>by rw[t2.2.2.1,x1,t1.2.2.1];exact hf⟩
   ·exact step (g01.trans t2.1) (t2.2.2.1.trans (x1.trans t1.2.2.1)) (t2.2.2.2.trans (b1.trans t1.2.2.2))
theorem EG(hE:EOk N E)(w:Str){s:PS}(h:WS N s):Sat (Dd E w s) (λx s'=>Later N s s'/\s'.bl=s.bl/\∀roots,eB (exL s.ex) roots->eB (exL s'.ex) (x++roots)) (InN N):=
 (HA hE w _ s [] h).mono λx s' ⟨g,b,f⟩=>⟨g,b,λroots hf=>f roots hf⟩
theorem Mw(hE:EOk N E){s:PS}(h:WS N s)(hk:(cur s).k≠0)(hq:bE s=s){a:Int}(ha:0<=a/\a<N):Sat (yL E s a) (λe s'=>Later N s s'/\s'.bl=s.bl/\(0<=e.a/\e.a<N)/\∀roots,eB (exL s.ex) roots->eB (exL s'.ex) (e.args++roots)) (InN N):=by
 have o:=lI h hk;rw[hq]at o;have hw:=o.1.ws h;have hn:=jE hw;have ex1:(bE (step1 s)).ex=s.ex:=(jK _).1;have bl1:(bE (step1 s)).bl=s.bl:=(jK _).2;unfold yL;simp only;split
 ·refine(EG hE [93] (hn.ws hw)).bind λus s1 ⟨g1,b1,f1⟩=>?_;exact⟨⟨o.1.trans (hn.trans g1.1),by have:=o.2;have:=hn.le;have:=g1.2;omega⟩,b1.trans bl1,ha,λroots hf=>f1 roots (by rw[ex1];exact hf)⟩
 ·rename_i hc;have ho:(cur (step1 s)).k≠0:=λe=>hc (.inl (by rw[e];decide));have I:=lI hw ho;refine(mW (I.1.ws hw) 1 (by decide)).bind λt s2 ⟨g2,x2,b2,_⟩=>?_;have j:=g2.1.ws (I.1.ws hw);refine(mW j 1 (by decide)).bind λu s3 ⟨g3,x3,b3,hu,_⟩=>?_;have hg:=g3.1.ws j;split
  ·have:=lJ j;rw[hu];exact⟨this.1,this.2.1⟩
  refine(hE s3 hg).bind λx s4 ⟨g4,b4,f4⟩=>?_;have U:=g4.1.ws hg;refine(lU U [58]).bind λ_ s5 ⟨g5,x5,b5⟩=>?_;have J:=g5.1.ws U;refine(hE s5 J).bind λy s6 ⟨g6,b6,f6⟩=>?_;have hi:=g6.1.ws J;refine(lU hi [93]).bind λ_ s7 ⟨g7,x7,b7⟩=>?_;have e01:(step1 (bE (step1 s))).ex=s.ex:=ex1;have e02:(step1 (bE (step1 s))).bl=s.bl:=bl1;refine⟨⟨o.1.trans (I.1.trans (g2.1.trans (g3.1.trans (g4.1.trans (g5.1.trans (g6.1.trans g7.1)))))),by have:=o.2;have:=I.2;have:=g2.2;have:=g3.2;have:=g4.2;have:=g5.2;have:=g6.2;have:=g7.2;omega⟩,
   b7.trans (b6.trans (b5.trans (b4.trans (b3.trans (b2.trans e02))))),ha,λroots hf=>?_⟩
  rw[x7];have h1:=f4 roots (by rw[x3,x2,e01];exact hf);have I:=f6 _ (by rw[x5];exact h1);exact I.perm (List.Perm.swap _ _ _)
theorem Jp(hE:EOk N E){a:Int}(ha:0<=a/\a<N):∀(n:Nat) (s:PS) (us:List Nat) (ks:List Str),WS N s->
  Sat (Bw E a n s us ks) (λe s'=>Later N s s'/\s'.bl=s.bl/\(0<=e.a/\e.a<N)/\∀roots,eB (exL s.ex) (us++roots)->eB (exL s'.ex) (e.args++roots)) (InN N)
 |0,s,_,_,h=>⟨mN _,h.pN⟩
 |n+1,s,us,ks,h=>by
  have t1:=lH h [125]
  simp only[Bw]
  split
  ·rename_i ht
   exact⟨⟨t1.1,t1.2.1 ht⟩,t1.2.2.2,ha,λroots hf=>by rw[t1.2.2.1];exact hf⟩
  have I:=t1.1.ws h
  have n1:=rW I
  have o:=n1.1.ws I
  have hc:=lJ I
  have J:InN N (cur (cD s [125]).2).a:=⟨hc.1,hc.2.1⟩
  refine Sat.bind (P:=λ_ s3=>s3=kI (cD s [125]).2/\(cur (cD s [125]).2).k≠0) ?_ λk s3 ⟨e3,hs⟩=>?_
  ·split
   ·rename_i hk
    exact(DX o J).mono λ_ s3 e=>⟨e,by rw[hk];decide⟩
   ·split
    ·rename_i hk
     exact⟨rfl,by rw[hk];decide⟩
    ·exact J
  subst e3
  split
  ·exact J
  refine(lU o [61]).bind λ_ s4 ⟨g4,x4,b4⟩=>?_
  have hh:=g4.1.ws o
  refine(hE s4 hh).bind λx s5 ⟨g5,b5,f5⟩=>?_
  have hg:=g5.1.ws hh
  have t5:=lH hg [44]
  have j:=t5.1.ws hg
  have n6:=jE j
  have g05:=t1.1.trans (n1.1.trans (g4.1.trans (g5.1.trans t5.1)))
  split
  ·have:=lJ (n6.ws j)
   exact⟨this.1,this.2.1⟩
  have l6:∃s6,s6=(if(cD s5 [44]).1=true then(cD s5 [44]).2 else bE (cD s5 [44]).2)/\Go1 N (cD s5 [44]).2 s6/\s6.ex=(cD s5 [44]).2.ex/\s6.bl=(cD s5 [44]).2.bl:=by
   refine⟨_,rfl,?_⟩;split
   ·exact⟨Go1.refl j,rfl,rfl⟩
   ·exact⟨n6,(jK _).1,(jK _).2⟩
  obtain⟨s6,e6,g6,x6,b6⟩:=l6;rw[<-e6];have U:=g6.ws j;have l7:=mG U;refine Sat.mono (Jp hE ha n (iR s6) (us++[x]) (ks++[k]) (l7.1.ws U)) λe s8 ⟨g8,b8,hj,f8⟩=>⟨⟨g05.trans (g6.trans (l7.1.trans g8.1)),by have:=g05.le;have:=g6.le;have:=l7.1.le;have:=g8.2;omega⟩,
   b8.trans (l7.2.2.trans (b6.trans (t5.2.2.2.trans (b5.trans (b4.trans (n1.2.2.2.trans t1.2.2.2)))))),hj,λroots hf=>f8 roots ?_⟩
  rw[l7.2.1,x6,t5.2.2.1];have:=f5 (us++roots) (by rw[x4,n1.2.2.1,t1.2.2.1];exact hf);refine this.perm ?_;rw[fK];exact(lZ).symm
end
theorem _root_.And.tr{N:Int}{s s1 s2:PS}(h:Later N s s1)(j:Later N s1 s2):Later N s s2:=⟨h.1.trans j.1,Nat.lt_trans h.2 j.2⟩
theorem Go1.tr{N:Int}{s s1 s2:PS}(h:Go1 N s s1)(j:Later N s1 s2):Later N s s2:=⟨h.trans j.1,Nat.lt_of_le_of_lt h.le j.2⟩
section
variable{N:Int}{E S:PS->R Nat}
theorem Gm{l:List Tok}{t:Tok}(h:l[i]?=some t)(o:t.k≠5):kF (l.drop i)=0:=by
 have j:=(List.getElem?_eq_some_iff.1 h).1;rw[dQ j];have:l[i]=t:=(List.getElem?_eq_some_iff.1 h).2;simp[kF,this,o]
theorem Mk{N:Int}{s:PS}(h:WS N s)(j:(mR s).k≠5):bE s=s:=by
 unfold bE;split
 ·rw[Gm (wG h) j];rfl
 ·rfl
theorem pL{N:Int}{s:PS}(h:WS N s){w:Str}(hi:isS s w=true)(d:Nat)(q:Bool):bE {bE s with deep:=d,quiet:=q}={bE s with deep:=d,quiet:=q}/\(cur {bE s with deep:=d,quiet:=q}).k≠0/\(cur {bE s with deep:=d,quiet:=q}).a=(cur s).a:=by
 have o:=(jE h).ws h;have j:(mR (bE s)).k=4:=by
  unfold isS cur at hi;simp only[bL,fD]at hi;exact hi.1
 have e1:bE {bE s with deep:=d,quiet:=q}={bE s with deep:=d,quiet:=q}:=Mk (wD o d q) (by show(mR (bE s)).k≠5;rw[j];decide);have e2:(bE s).off=s.off:=by unfold bE;split<;>rfl
 refine⟨e1,?_,?_⟩
 ·unfold cur;rw[e1];show(mR (bE s)).k≠0;rw[j];decide
 ·unfold cur;rw[e1];show(mR (bE s)).a+(bE s).off=(mR (bE s)).a+s.off;rw[e2]
abbrev Leaves(N:Int)(s:PS)(x:Nat)(s':PS):Prop:=Later N s s'/\s'.bl=s.bl/\∀roots,eB (exL s.ex) roots->eB (exL s'.ex) (x::roots)
theorem qJ{s s1:PS}(h:WS N s)(j:Later N s s1)(hb:s1.bl=s.bl){e:Ex}(I:0<=e.a/\e.a<N)(hf:∀roots,eB (exL s.ex) roots->eB (exL s1.ex) (e.args++roots)):Sat (qV s1 e) (Leaves N s) (InN N):=
 (zU (j.1.ws h) I).mono λx s2 ⟨g2,i2,b2,f2⟩=>⟨⟨j.1.trans g2,by have:=j.2;rw[i2];exact this⟩,b2.trans hb,λroots o=>f2 roots (hf roots o)⟩
theorem Hz(hE:EOk N E):EOk N (xH E):=by
 intro s h;have n1:=jE h;have hs:=n1.ws h;have o:=lJ h;have x1:=jK s;unfold xH;simp only;split
 ·rename_i hk;have h2:=lI h (by rw[hk];decide);exact qJ h h2 x1.2 (e:=⟨4,(cur s).t,[],[],(cur s).a⟩) ⟨o.1,o.2.2.1 (by rw[hk];decide)⟩ λroots j=>by show eB (exL (bE s).ex) _;rw[x1.1];exact j
 split
 ·rename_i hk;have h2:=lI h (by rw[hk];decide);refine(LA hE (h2.1.ws h) (t:=cur s) ⟨o.1,o.2.2.1 (by rw[hk];decide)⟩ (o.2.2.2.1 hk)).mono λx s2 ⟨g2,b2,f2⟩=>⟨⟨h2.1.trans g2,by have:=h2.2;have:=g2.le;omega⟩,b2.trans x1.2,λroots j=>f2 roots (by show eB (exL (bE s).ex) _;rw[x1.1];exact j)⟩
 split
 ·rename_i hk;have ht:(cur s).k≠0:=by rw[hk.1];decide
  have h2:=lI h ht;have hj:=h2.1.ws h;have n2:=jE hj;have hy:=n2.ws hj;have hx:0<=(cur s).a/\(cur s).a<N:=⟨o.1,o.2.2.1 ht⟩;split
  ·rename_i hi;have hv:=lJ hj;refine Sat.bind (mP hy (a:=(cur (step1 (bE s))).a) (q:=true) ⟨hv.1,hv.2.1⟩ (P:=λus s'=>Later N {bE (step1 (bE s))with deep:=(bE (step1 (bE s))).deep+1,quiet:=true} s'/\s'.bl=s.bl/\∀roots,eB (exL s.ex) roots->eB (exL s'.ex) (us++roots)) λJ=>?_) λus s2 ⟨q,⟨g2,b2,f2⟩,e2⟩=>?_
   ·have U:=pL hj hi ((bE (step1 (bE s))).deep+1) true;have I:=lI J U.2.1;rw[U.1]at I;exact(EG hE [41] (I.1.ws J)).mono λus s' ⟨g,b,f⟩=>⟨I.tr g,b.trans ((jK _).2.trans x1.2),λroots j=>f roots (by show eB (exL (bE (step1 (bE s))).ex) _;rw[(jK _).1];show eB (exL (bE s).ex) _;rw[x1.1];exact j)⟩
   ·subst e2;have g2':=g2.1.back;refine qJ h ⟨h2.1.trans (n2.trans g2'),?_⟩ b2 (e:=⟨12,(cur s).t,us,[],(cur s).a⟩) hx f2;have:=h2.2;have:=n2.le;have:=g2'.le;omega
  ·exact qJ h ⟨h2.1.trans n2,by have:=h2.2;have:=n2.le;omega⟩ ((jK _).2.trans x1.2) (e:=⟨qL (cur s).t,if qL (cur s).t=9 then(cur s).t else [],[],[],(cur s).a⟩) hx λroots j=>by rw[(jK _).1];show eB (exL (bE s).ex) _;rw[x1.1];exact j
 have ho:InN N (cur s).a:=⟨o.1,o.2.1⟩;have kJ:∀w,isS (bE s) w=isS s w:=λw=>by unfold isS;rw[mD]
 split
 ·rename_i hi;rw[kJ]at hi;refine(mP hs (a:=(cur s).a) (q:=true) ho (P:=λx s'=>Later N {bE s with deep:=(bE s).deep+1,quiet:=true} s'/\s'.bl=s.bl/\∀roots,eB (exL s.ex) roots->eB (exL s'.ex) (x::roots)) λJ=>?_).mono λx s2 ⟨q,⟨g2,b2,f2⟩,e2⟩=>?_
  ·have U:=pL h hi ((bE s).deep+1) true;have I:=lI J U.2.1;rw[U.1]at I;refine(hE _ (I.1.ws J)).bind λx q1 ⟨g1,b1,f1⟩=>?_;refine(lU (g1.1.ws (I.1.ws J)) [41]).bind λ_ q2 ⟨g2,e2,b2⟩=>?_;refine⟨I.tr (g1.tr g2),b2.trans (b1.trans x1.2),λroots j=>?_⟩;rw[e2];exact f1 roots (by show eB (exL (bE s).ex) _;rw[x1.1];exact j)
  ·subst e2;have g2':=g2.1.back;exact⟨⟨n1.trans g2',by have:=n1.le;have:=g2.2;show s.i<q.i;simp only at this;omega⟩,b2,f2⟩
 split
 ·rename_i hi;rw[kJ]at hi;refine Sat.bind (mP hs (a:=(cur s).a) (q:=true) ho (P:=λ(e:Ex) s'=>Later N {bE s with deep:=(bE s).deep+1,quiet:=true} s'/\s'.bl=s.bl/\(0<=e.a/\e.a<N)/\∀roots,eB (exL s.ex) roots->eB (exL s'.ex) (e.args++roots)) λJ=>?_) λe s2 ⟨q,⟨g2,b2,a2,f2⟩,e2⟩=>?_
  ·have U:=pL h hi ((bE s).deep+1) true;refine(Mw hE J U.2.1 U.1 ⟨o.1,o.2.2.1 (nJ hi)⟩).mono λe s' ⟨g,b,a,f⟩=>⟨g,b.trans x1.2,a,λroots j=>f roots (by show eB (exL (bE s).ex) _;rw[x1.1];exact j)⟩
  ·subst e2;have g2':=g2.1.back;exact qJ h ⟨n1.trans g2',by have:=n1.le;have:=g2.2;show s.i<q.i;simp only at this;omega⟩ b2 a2 f2
 split
 ·rename_i hi;rw[kJ]at hi;refine Sat.bind (mP hs (a:=(cur s).a) (q:=false) ho (P:=λ(e:Ex) s'=>Later N {bE s with deep:=(bE s).deep+1,quiet:=false} s'/\s'.bl=s.bl/\(0<=e.a/\e.a<N)/\∀roots,eB (exL s.ex) roots->eB (exL s'.ex) (e.args++roots)) λJ=>?_) λe s2 ⟨q,⟨g2,b2,a2,f2⟩,e2⟩=>?_
  ·have U:=pL h hi ((bE s).deep+1) false;have I:=lI J U.2.1;rw[U.1]at I;have l4:=mG (I.1.ws J);unfold GD;refine(Jp hE ⟨o.1,o.2.2.1 (nJ hi)⟩ _ _ [] [] (l4.1.ws (I.1.ws J))).mono λe s' ⟨g,b,a,f⟩=>⟨I.tr (Go1.tr l4.1 g),b.trans (l4.2.2.trans x1.2),a,λroots j=>f roots (by rw[l4.2.1];show eB (exL (bE s).ex) _;rw[x1.1];exact j)⟩
  ·subst e2;have g2':=g2.1.back;exact qJ h ⟨n1.trans g2',by have:=n1.le;have:=g2.2;show s.i<q.i;simp only at this;omega⟩ b2 a2 f2
 ·exact ho
abbrev NC(N:Int)(s:PS)(x:Nat)(y:Nat)(s':PS):Prop:=Go1 N s s'/\s'.bl=s.bl/\∀roots,eB (exL s.ex) (x::roots)->eB (exL s'.ex) (y::roots)
theorem DW(hE:EOk N E):∀(n:Nat) (s:PS) (x:Nat),WS N s->Sat (qE E n s x) (NC N s x) (InN N)
 |0,s,_,h=>⟨mN _,h.pN⟩
 |n+1,s,x,h=>by
  have n1:=jE h
  have U:=n1.ws h
  have hc:=lJ h
  have x1:=jK s
  have kJ:∀w,isS (bE s) w=isS s w:=λw=>by unfold isS;rw[mD]
  have hs:InN N (cur s).a:=⟨hc.1,hc.2.1⟩
  have more:∀{s2:PS} {e:Ex},Go1 N s s2->s2.bl=s.bl->0<=e.a/\e.a<N->(∀roots,eB (exL s.ex) (x::roots)->eB (exL s2.ex) (e.args++roots))->Sat ((qV s2 e).bind λy s3=>qE E n s3 y) (NC N s x) (InN N):=λ{s2 e} g2 b2 ha f2=>by
   refine(zU (g2.ws h) ha).bind λy s3 ⟨g3,_,b3,f3⟩=>?_
   exact(DW hE n s3 y (g3.ws (g2.ws h))).mono λz s4 ⟨g4,b4,f4⟩=>⟨g2.trans (g3.trans g4),b4.trans (b3.trans b2),λroots j=>f4 roots (f3 roots (f2 roots j))⟩
  simp only[qE]
  have t1:=lH U [46]
  split
  ·rename_i ht
   have hq:(cur s).k≠0:=by
    have:isS (bE s) [46]=true:=by
     unfold cD at ht;split at ht
     ·assumption
     ·cases ht
    rw[kJ]at this;exact nJ this
   have J:=t1.1.ws U;refine(mW J 1 (by decide)).bind λu s2 ⟨g2,x2,b2,_⟩=>?_;exact more (e:=⟨10,u.t,[x],[],(cur s).a⟩) (n1.trans (t1.1.trans g2.1)) (b2.trans (t1.2.2.2.trans x1.2)) ⟨hc.1,hc.2.2.1 hq⟩ λroots j=>by rw[x2,t1.2.2.1,x1.1];exact j
  split
  ·rename_i hi;rw[kJ]at hi;have hj:0<=(cur s).a/\(cur s).a<N:=⟨hc.1,hc.2.2.1 (nJ hi)⟩;refine Sat.bind (mP U (a:=(cur s).a) (q:=true) hs (P:=λ(o:Option Nat) s'=>Go1 N {bE s with deep:=(bE s).deep+1,quiet:=true} s'/\s'.bl=s.bl/\(o=none->s'.ex=s.ex)/\∀y,o=some y->∀roots,eB (exL s.ex) roots->eB (exL s'.ex) (y::roots)) λhw=>?_) λo s2 ⟨q,⟨g2,b2,f2,f2'⟩,e2⟩=>?_
   ·have hh:=pL h hi ((bE s).deep+1) true;have h4:=lI hw hh.2.1;rw[hh.1]at h4;have I:=h4.1.ws hw;have t4:=lH I [42];have ex4:(step1 {bE s with deep:=(bE s).deep+1,quiet:=true}).ex=s.ex:=x1.1;have bl4:(step1 {bE s with deep:=(bE s).deep+1,quiet:=true}).bl=s.bl:=x1.2;split
    ·refine(lU (t4.1.ws I) [93]).bind λ_ q2 ⟨g5,x5,b5⟩=>?_;exact⟨h4.1.trans (t4.1.trans g5.1),b5.trans (t4.2.2.2.trans bl4),λ_=>x5.trans (t4.2.2.1.trans ex4),λy e=>by cases e⟩
    ·refine(hE _ (t4.1.ws I)).bind λy q1 ⟨g5,b5,f5⟩=>?_;refine(lU (g5.1.ws (t4.1.ws I)) [93]).bind λ_ q2 ⟨g6,x6,b6⟩=>?_;refine⟨h4.1.trans (t4.1.trans (g5.1.trans g6.1)),b6.trans (b5.trans (t4.2.2.2.trans bl4)),λe=>(by cases e),λz e roots j=>?_⟩;injection e with e
     subst e;rw[x6];exact f5 roots (by rw[t4.2.2.1,ex4];exact j)
   ·subst e2;have g2':=g2.back;have g02:=n1.trans g2';cases o with
    |some y=>
     simp only;refine more (e:=⟨11,[],[x,y],[],(cur s).a⟩) g02 b2 hj λroots j=>?_;exact(f2' y rfl _ j).perm (List.Perm.swap _ _ _)
    |none=>
     simp only;have J:=g02.ws h;refine(lU J [46]).bind λ_ s3 ⟨g3,x3,b3⟩=>?_;refine(mW (g3.1.ws J) 1 (by decide)).bind λu s4 ⟨g4,x4,b4,_⟩=>?_;exact more (e:=⟨30,u.t,[x],[],(cur s).a⟩) (g02.trans (g3.1.trans g4.1)) (b4.trans (b3.trans b2)) hj λroots j=>by rw[x4,x3];show eB (exL q.ex) _;rw[f2 rfl];exact j
  ·exact⟨n1,x1.2,λroots j=>by rw[x1.1];exact j⟩
theorem LW(hE:EOk N E):EOk N (Ba E):=by
 intro s h;unfold Ba;refine(Hz hE s h).bind λx s1 ⟨g1,b1,f1⟩=>?_;exact(DW hE _ s1 x (g1.1.ws h)).mono λy s2 ⟨g2,b2,f2⟩=>⟨⟨g1.1.trans g2,by have:=g1.2;have:=g2.le;omega⟩,b2.trans b1,λroots j=>f2 roots (f1 roots j)⟩
theorem BW(hE:EOk N E)(hS:EOk N S):EOk N (vK E S):=by
 intro s h;have n1:=jE h;have j:=n1.ws h;have o:=lJ h;have x1:=jK s;have kJ:∀w,isS (bE s) w=isS s w:=λw=>by unfold isS;rw[mD]
 have J:InN N (cur s).a:=⟨o.1,o.2.1⟩;have one:∀(w:Str) (k:Int),isS s w=true->Sat ((within (bE s) (cur s).a (bE s).quiet λq=>S (step1 q)).bind λx s2=>qV s2 ⟨k,[],[x],[],(cur s).a⟩) (Leaves N s) (InN N):=λw k hi=>by
  refine Sat.bind (mP j (a:=(cur s).a) (q:=(bE s).quiet) J (P:=λx s'=>Later N {bE s with deep:=(bE s).deep+1,quiet:=(bE s).quiet} s'/\s'.bl=s.bl/\∀roots,eB (exL s.ex) roots->eB (exL s'.ex) (x::roots)) λhw=>?_) λx s2 ⟨q,⟨g2,b2,f2⟩,e2⟩=>?_
  ·have hh:=pL h hi ((bE s).deep+1) (bE s).quiet;have U:=lI hw hh.2.1;rw[hh.1]at U;refine(hS _ (U.1.ws hw)).mono λx q1 ⟨g1,b1,f1⟩=>⟨U.tr g1,b1.trans x1.2,λroots I=>f1 roots (by show eB (exL (bE s).ex) _;rw[x1.1];exact I)⟩
  ·subst e2;have g2':=g2.1.back;exact qJ h ⟨n1.trans g2',by have:=n1.le;have:=g2.2;show s.i<q.i;simp only at this;omega⟩ b2 (e:=⟨k,[],[x],[],(cur s).a⟩) ⟨o.1,o.2.2.1 (nJ hi)⟩ f2
 unfold vK;simp only;split
 ·rename_i hi;rw[kJ]at hi;exact one [33] 14 hi
 split
 ·rename_i hi;rw[kJ]at hi;exact one [45] 13 hi
 ·exact(LW hE (bE s) j).mono λx s2 ⟨g2,b2,f2⟩=>⟨⟨n1.trans g2.1,by have:=n1.le;have:=g2.2;omega⟩,b2.trans x1.2,λroots I=>f2 roots (by rw[x1.1];exact I)⟩
theorem Ei{J:PS->R Nat}(U:EOk N J)(k:Nat):∀(f:Nat) (s:PS) (x:Nat),WS N s->Sat (vN J k f s x) (NC N s x) (InN N)
 |0,s,_,h=>⟨mN _,h.pN⟩
 |f+1,s,x,h=>by
  have n1:=jE h
  have x1:=jK s
  have I:=lJ h
  simp only[vN]
  split
  ·exact⟨n1,x1.2,λroots o=>by rw[x1.1];exact o⟩
  ·rename_i hl
   have j:(cur s).k≠0:=λe=>hl (by unfold qM;rw[e];rfl)
   have h2:=lI h j
   refine(U _ (h2.1.ws h)).bind λb s1 ⟨g1,b1,f1⟩=>?_
   have g01:=h2.1.trans g1.1
   refine(zU (g01.ws h) (e:=⟨qM (cur s) k,[],[x,b],[],(cur s).a⟩) ⟨I.1,I.2.2.1 j⟩).bind λy s2 ⟨g2,_,b2,f2⟩=>?_
   refine(Ei U k f s2 y (g2.ws (g01.ws h))).mono λz s3 ⟨g3,b3,f3⟩=>⟨g01.trans (g2.trans g3),b3.trans (b2.trans (b1.trans x1.2)),λroots o=>f3 roots (f2 roots ?_)⟩
   exact(f1 _ (by show eB (exL (bE s).ex) _;rw[x1.1];exact o)).perm (List.Perm.swap _ _ _)
theorem uA(hE:EOk N E)(j:EOk N S):∀m,EOk N (qX E S m)
 |0=>BW hE j
 |m+1=>λs h=>by
  simp only[qX]
  refine(uA hE j m s h).bind λa s1 ⟨g1,b1,f1⟩=>?_
  exact(Ei (uA hE j m) (5-m) _ s1 a (g1.1.ws h)).mono λy s2 ⟨g2,b2,f2⟩=>⟨⟨g1.1.trans g2,by have:=g1.2;have:=g2.le;omega⟩,b2.trans b1,λroots o=>f2 roots (f1 roots o)⟩
theorem Hd(hE:EOk N E)(hS:EOk N S):EOk N (yP E S):=by
 intro s h;unfold yP;refine(uA hE hS 6 s h).bind λa s1 ⟨g1,b1,f1⟩=>?_;have j:=g1.1.ws h;have I:=lJ j;have t1:=lH j [63];have U:=t1.1.ws j;simp only;split
 ·rename_i ht;have hi:(cur s1).k≠0:=by
   have:isS s1 [63]=true:=by
    unfold cD at ht;split at ht
    ·assumption
    ·cases ht
   exact nJ this
  refine Sat.bind (mP U (a:=(cur s1).a) (q:=(cD s1 [63]).2.quiet) ⟨I.1,I.2.1⟩ (P:=λ(z:Nat×Nat) s'=>Go1 N {(cD s1 [63]).2 with deep:=(cD s1 [63]).2.deep+1,quiet:=(cD s1 [63]).2.quiet} s'/\s'.bl=s.bl/\∀roots,eB (exL s.ex) roots->eB (exL s'.ex) ([a,z.1,z.2]++roots)) λhw=>?_) λz s2 ⟨q,⟨g2,b2,f2⟩,e2⟩=>?_
  ·refine(hE _ hw).bind λx q1 ⟨g3,b3,f3⟩=>?_;have o:=g3.1.ws hw;refine(lU o [58]).bind λ_ q2 ⟨g4,x4,b4⟩=>?_;have J:=g4.1.ws o;refine(hE _ J).bind λy q3 ⟨g5,b5,f5⟩=>?_;refine⟨g3.1.trans (g4.1.trans g5.1),b5.trans (b4.trans (b3.trans (t1.2.2.2.trans b1))),λroots hr=>?_⟩;have k1:=f3 _ (by show eB (exL (cD s1 [63]).2.ex) _;rw[t1.2.2.1];exact f1 roots hr);have k2:=f5 _ (by rw[x4];exact k1);refine k2.perm ?_;show(y::x::a::roots).Perm (a::x::y::roots);exact((List.Perm.swap x y _).trans ((List.Perm.swap a y _).cons x)).trans (List.Perm.swap a x _)
  ·subst e2;have g2':=g2.back;exact qJ h ⟨g1.1.trans (t1.1.trans g2'),by have:=g1.2;have:=t1.1.le;have:=g2.le;show s.i<q.i;simp only at this;omega⟩ b2 (e:=⟨28,[],[a,z.1,z.2],[],(cur s1).a⟩) ⟨I.1,I.2.2.1 hi⟩ f2
 ·exact⟨⟨g1.1.trans t1.1,by have:=g1.2;have:=t1.1.le;omega⟩,t1.2.2.2.trans b1,λroots hr=>by rw[t1.2.2.1];exact f1 roots hr⟩
end
theorem xZ(N:Int):EOk N dead:=λ_ h=>⟨mN _,h.pN⟩
theorem sR(N:Int):∀d,EOk N (qZ d).1/\EOk N (qZ d).2
 |0=>⟨Hd (xZ N) (xZ N),BW (xZ N) (xZ N)⟩
 |d+1=>⟨Hd (sR N d).1 (sR N d).2,BW (sR N d).1 (sR N d).2⟩
def wt(t:Tok):Nat:=if t.k=0 then 0 else if t.k=3/\(insP t.t).isSome=true then t.t.length+2 else 1
def wts(l:List Tok):Nat:=(l.map wt).sum
def phi(s:PS):Nat:=s.ex.length+s.bl.length+wts (s.toks.drop s.i)
theorem zH(t:Tok)(l:List Tok):wts (t::l)=wt t+wts l:=by simp[wts]
theorem sD:∀(l:List Tok) (i:Nat),wts (l.drop i)<=wts l
 |[],i=>by simp
 |t::l,0=>aY _
 |t::l,i+1=>by
  rw[dW,zH]
  have:=sD l i
  omega
theorem Ge:∀(n:Nat) (s:Str) (a cnt:Nat) (l:List Tok),mU n s a cnt=.ok l->wts l<=s.length
 |0,_,_,_,_,h=>by simp[mU]at h
 |n+1,s,a,cnt,l,h=>by
  have hk:=uN (s.length+1) s
  simp only[mU]at h
  split at h
  ·cases h
  split at h
  ·injection h with h
   subst h
   rw[zH]
   simp[wt,wts]
  rename_i U
  split at h
  ·cases h
  rename_i ho
  split at h
  ·cases h
  have J:s.length-(iZ (s.length+1) s).1=(s.drop (iZ (s.length+1) s).1).length:=(aR ..).symm
  obtain⟨o1,o2,o3,o4,o5,o6⟩:=Ff U (iY rfl (iY rfl (Classical.not_not.1 ho)):nM (s.drop (iZ (s.length+1) s).1)=((nM (s.drop (iZ (s.length+1) s).1)).1,(nM (s.drop (iZ (s.length+1) s).1)).2.1,0))
  split at h
  ·rename_i l' I
   injection h with h
   subst h
   have ih:=Ge n _ _ _ _ I
   rw[aR]at ih
   rw[zH]
   have:wt ⟨(nM (s.drop (iZ (s.length+1) s).1)).1.k,(nM (s.drop (iZ (s.length+1) s).1)).1.t,((a+(iZ (s.length+1) s).1:Nat):Int)⟩<=(nM (s.drop (iZ (s.length+1) s).1)).2.1:=by
    unfold wt;split
    ·omega
    split
    ·rename_i j;rcases o6 j.1 with h|h
     ·rw[h]at j;simp at j
     ·exact h
    ·omega
   omega
  ·rename_i o;exact absurd h (o l)
theorem ES{s:Str}{l:List Tok}(h:nI s=.ok l):wts l<=s.length:=by
 unfold nI at h;split at h
 ·cases h
 split at h
 ·cases h
 exact Ge _ _ _ _ _ h
abbrev TT:Int->Prop:=λ_=>True
theorem lN(s:PS):phi (bE s)<=phi s:=by
 unfold bE;split
 ·unfold phi;simp only;have:=sD (s.toks.drop s.i) (kF (s.toks.drop s.i));rw[kB]at this;omega
 ·exact aY _
theorem zV{s:PS}(h:(mR s).k≠0):phi (step1 s)+wt (mR s)<=phi s:=by
 have j:s.i<s.toks.length:=by
  by_cases hl:s.i<s.toks.length
  ·exact hl
  ·unfold mR at h;rw[List.getD_eq_getElem?_getD,List.getElem?_eq_none (by omega)]at h;exact absurd rfl h
 unfold phi step1;simp only;rw[dQ j,zH];have:mR s=s.toks[s.i]:=by unfold mR;rw[List.getD_eq_getElem?_getD,List.getElem?_eq_getElem j];rfl
 rw[this];omega
theorem EK{t:Tok}(h:t.k≠0):1<=wt t:=by unfold wt;rw[aJ h];split<;>omega
theorem pS{s:PS}(h:(cur s).k≠0):phi (step1 (bE s))+wt (mR (bE s))<=phi s/\phi (step1 (bE s))+1<=phi s:=by
 have j:(mR (bE s)).k≠0:=h;have J:=zV j;have I:=lN s;have o:=EK j;omega
theorem mF(s:PS)(w:Str):phi (cD s w).2<=phi s/\((cD s w).1=true->phi (cD s w).2+1<=phi s):=by
 unfold cD;split
 ·rename_i hi;have:=(pS (nJ hi)).2;exact⟨Nat.le_of_succ_le this,λ_=>this⟩
 ·exact⟨lN s,λe=>by cases e⟩
theorem mE(s:PS)(w:Str):Sat (oI s w) (λ_ s'=>phi s'+1<=phi s) TT:=by
 unfold oI;split
 ·rename_i hi;exact(pS (nJ hi)).2
 ·trivial
theorem tW(s:PS):phi (kI s)<=phi s/\((cur s).k≠0->phi (kI s)+wt (mR (bE s))<=phi s/\phi (kI s)+1<=phi s):=by
 unfold kI;split
 ·rename_i j;have:=pS j;exact⟨by omega,λ_=>this⟩
 ·rename_i j;exact⟨lN s,λe=>absurd e j⟩
theorem oW(s:PS)(k:Int):Sat (mH s k) (λ_ s'=>phi s'<=phi s/\(k≠0->phi s'+1<=phi s)) TT:=by
 unfold mH;split
 ·rename_i j;have:=tW s;exact⟨this.1,λh=>(this.2 (by rw[j];exact h)).2⟩
 ·trivial
theorem tX(s:PS):phi (iR s)<=phi s:=by
 have h:=lN s;unfold iR phi at*
 simp only at*
 have e:(bE s).toks=s.toks:=by unfold bE;split<;>rfl
 have:=sD ((bE s).toks.drop (bE s).i) (kF (s.toks.drop (bE s).i));rw[kB]at this;omega
theorem mB(s:PS)(e:Ex):Sat (qV s e) (λ_ s'=>phi s'<=phi s+1) TT:=by
 show phi _<=_;unfold phi;simp only[aP,aB,aK];omega
theorem mS{α:Type}{s:PS}{a:Int}{q:Bool}{f:PS->R α}{P:α->Nat->Prop}(h:Sat (f {s with deep:=s.deep+1,quiet:=q}) (λx s'=>P x (phi s')) TT):Sat (within s a q f) (λx s'=>P x (phi s')) TT:=by
 unfold within;split
 ·trivial
 ·exact h.bind λx s' j=>j
def EZ(F:PS->R Nat):Prop:=∀s,Sat (F s) (λ_ s'=>phi s'<=phi s) TT
section
variable{E S:PS->R Nat}
theorem Eb(hE:EZ E)(s:PS)(t:Str)(a:Int):Sat (oP E s t a) (λ_ s'=>phi s'<=phi s+t.length) TT:=by
 unfold oP;split
 ·trivial
 ·rename_i l o;have U:=ES o;refine(hE _).bind λx q I=>?_;refine(oW q 0).bind λ_ q' j=>?_;have J:phi q'<=s.ex.length+s.bl.length+wts l:=dI j.1 I;show phi _<=_;unfold phi at J⊢;simp only;omega
theorem DY(s:PS)(t:Tok):Sat (pF s t) (λ_ s'=>s'=s) TT:=by
 unfold pF;split
 ·trivial
 ·rfl
theorem AI(hE:EZ E):∀(n:Nat) (s:PS) (rest:Str) (a:Int) (us:List Nat) (ks:List Str),Sat (nD E n s rest a us ks) (λ_ s'=>phi s'<=phi s+rest.length) TT
 |0,_,_,_,_,_=>trivial
 |n+1,s,rest,a,us,ks=>by
  have one:∀(e:Ex),phi {s with ex:=s.ex++[e]}<=phi s+1:=λe=>mB s e
  simp only[nD]
  split
  ·exact Nat.le_add_right _ _
  rename_i o
  have J:1<=rest.length:=gY.2 o
  split
  ·have:=one ⟨5,jB rest,[],[],a⟩
   show phi _<=_
   omega
  ·rename_i i e hi
   obtain⟨i1,i2,i3⟩:=Ad rest.length rest (aY _) i e hi
   have j:∃s1,s1=(if 0<i then{s with ex:=s.ex++[⟨5,jB (rest.take i),[],[],a⟩]}else s)/\phi s1<=phi s+i:=by
    refine⟨_,rfl,?_⟩;split
    ·have:=one ⟨5,jB (rest.take i),[],[],a⟩;omega
    ·omega
   obtain⟨s1,e1,g1⟩:=j;rw[<-e1];have hd:(rest.drop e).length=rest.length-e:=aR ..;split
   ·refine Sat.bind (mS (P:=λ_ n=>n<=phi s1+(e-1-(i+2))) ?_) λx s2 U=>?_
    ·refine(Eb hE _ _ _).mono λx s' h=>?_;refine dI h ?_;have:((rest.drop (i+2)).take (e-1-(i+2))).length<=e-1-(i+2):=List.length_take_le _ _;exact uJ this _
    ·refine(AI hE n s2 (rest.drop e) _ _ _).mono λy s3 I=>?_;rw[hd]at I;omega
   ·refine(AI hE n s1 (rest.drop e) _ _ _).mono λy s3 I=>?_;rw[hd]at I;omega
theorem LZ(hE:EZ E)(s:PS)(t:Tok)(j:t.k=3):Sat (yI E s t) (λ_ s'=>phi s'<=phi s+wt t) TT:=by
 unfold yI;split
 ·rename_i hi;have e:wt t=t.t.length+2:=by unfold wt;rw[aJ (by omega),aO ⟨j,hi⟩]
  refine(AI hE _ s t.t _ _ _).bind λx s1 I=>?_;refine(mB s1 _).mono λy s2 o=>?_;omega
 ·rename_i hi;have e:wt t=1:=by unfold wt;rw[aJ (by omega),aJ (λh=>hi h.2)]
  rw[e];exact mB s _
theorem Ed(hE:EZ E)(w:Str):∀(n:Nat) (s:PS) (out:List Nat),Sat (rE E w n s out) (λ_ s'=>phi s'<=phi s) TT
 |0,_,_=>trivial
 |n+1,s,out=>by
  have t1:=mF s w
  have step:∀{s1:PS},phi s1<=phi s->Sat ((E s1).bind λx s'=>rE E w n s' (out++[x])) (λ_ s'=>phi s'<=phi s) TT:=λ{s1} g1=>
   (hE s1).bind λx s2 g2=>(Ed hE w n s2 (out++[x])).mono λy s3 g3=>by omega
  simp only[rE]
  split
  ·exact t1.1
  split
  ·rename_i j
   have:=step t1.1
   exact this
  ·refine(mE _ [44]).bind λ_ s1 g1=>?_
   have t2:=mF s1 w
   split
   ·show phi _<=_
    omega
   ·exact step (by omega)
theorem Gy(hE:EZ E)(w:Str)(s:PS):Sat (Dd E w s) (λ_ s'=>phi s'<=phi s) TT:=Ed hE w _ s []
theorem Mb(hE:EZ E){s:PS}(h:(cur s).k≠0)(o:bE s=s)(a:Int):Sat (yL E s a) (λ_ s'=>phi s'+1<=phi s) TT:=by
 have J:=(pS h).2;rw[o]at J;have h1:=lN (step1 s);unfold yL;simp only;split
 ·refine(Gy hE [93] _).bind λus s1 g1=>?_;show phi s1+1<=_;omega
 ·rename_i I;have j:(cur (step1 s)).k≠0:=λe=>I (.inl (by rw[e];decide));have U:=(pS j).2;refine(oW _ 1).bind λt s2 g2=>(oW s2 1).bind λu s3 g3=>?_;split
  ·trivial
  refine(hE s3).bind λx s4 g4=>(mE s4 _).bind λ_ s5 g5=>(hE s5).bind λy s6 g6=>(mE s6 _).bind λ_ s7 g7=>?_;show phi s7+1<=_;omega
theorem Gv(hE:EZ E)(a:Int):∀(n:Nat) (s:PS) (us:List Nat) (ks:List Str),Sat (Bw E a n s us ks) (λ_ s'=>phi s'<=phi s) TT
 |0,_,_,_=>trivial
 |n+1,s,us,ks=>by
  have t1:=mF s [125]
  have n1:=tW (cD s [125]).2
  simp only[Bw]
  split
  ·exact t1.1
  refine Sat.bind (P:=λ_ s3=>s3=kI (cD s [125]).2) ?_ λk s3 e3=>?_
  ·split
   ·exact DY _ _
   ·split
    ·rfl
    ·trivial
  subst e3
  split
  ·trivial
  refine(mE _ [61]).bind λ_ s4 g4=>(hE s4).bind λx s5 g5=>?_
  have t5:=mF s5 [44]
  have m5:=lN (cD s5 [44]).2
  split
  ·trivial
  have l6:phi (if(cD s5 [44]).1=true then(cD s5 [44]).2 else bE (cD s5 [44]).2)<=phi s5:=by split<;>omega
  generalize (if(cD s5 [44]).1=true then(cD s5 [44]).2 else bE (cD s5 [44]).2)=s6 at*
  have l7:=tX s6
  refine(Gv hE a n (iR s6) _ _).mono λe s8 g8=>?_
  omega
theorem Gx(hE:EZ E):EZ (xH E):=by
 intro s;have n1:=lN s;have kJ:∀w,isS (bE s) w=isS s w:=λw=>by unfold isS;rw[mD]
 unfold xH;simp only;split
 ·rename_i j;have o:=(pS (s:=s) (by rw[j];decide)).2;exact(mB _ _).mono λx s' g=>by omega
 split
 ·rename_i j;have o:=(pS (s:=s) (by rw[j];decide)).1;refine(LZ hE _ _ j).mono λx s' g=>?_;have e:wt (cur s)=wt (mR (bE s)):=rfl;omega
 split
 ·rename_i j;have o:=(pS (s:=s) (by rw[j.1];decide)).2;have n2:=lN (step1 (bE s));split
  ·rename_i hi;refine Sat.bind (mS (P:=λ_ n=>n<=phi (bE (step1 (bE s)))) ?_) λus s2 g2=>?_
   ·refine(Gy hE [41] _).mono λx s' g=>dI g ?_;show phi (step1 _)<=_;exact uJ (by have:=sD ((bE (step1 (bE s))).toks.drop (bE (step1 (bE s))).i) 1;rw[kB]at this;exact this) _
   ·exact(mB s2 _).mono λx s' g=>by omega
  ·exact(mB _ _).mono λx s' g=>by omega
 have step1_le:∀(s:PS),phi (step1 s)<=phi s:=λs=>uJ (by have:=sD (s.toks.drop s.i) 1;rw[kB]at this;exact this) _;have ph:∀(s:PS) (d:Nat) (q:Bool),phi {s with deep:=d,quiet:=q}=phi s:=λ_ _ _=>rfl;split
 ·refine Sat.mono (mS (P:=λ_ n=>n<=phi (bE s)) ?_) λx s' g=>by omega
  refine(hE _).bind λx q1 g1=>(mE q1 _).bind λ_ q2 g2=>?_;show phi q2<=_;have h1:=step1_le (bE s);have o:phi q1<=phi (step1 (bE s)):=g1;omega
 split
 ·rename_i hi;rw[kJ]at hi;have j:(mR (bE s)).k≠0:=nJ hi;have U:(mR (bE s)).k=4:=by
   unfold isS cur at hi;simp only[bL,fD]at hi;exact hi.1
  refine Sat.bind (mS (P:=λ_ n=>n+1<=phi (bE s)) ?_) λe s2 g2=>?_
  ·have J:bE {bE s with deep:=(bE s).deep+1,quiet:=true}={bE s with deep:=(bE s).deep+1,quiet:=true}:=by
    have I:(bE s).i<(bE s).toks.length:=by
     by_cases hl:(bE s).i<(bE s).toks.length
     ·exact hl
     ·unfold mR at j;rw[List.getD_eq_getElem?_getD,List.getElem?_eq_none (by omega)]at j;exact absurd rfl j
    have:kF ((bE s).toks.drop (bE s).i)=0:=by
     refine Gm (t:=mR (bE s)) ?_ (by omega);unfold mR;rw[List.getD_eq_getElem?_getD,List.getElem?_eq_getElem I];rfl
    unfold bE;simp only[pH];show({bE s with i:=(bE s).i+kF ((bE s).toks.drop (bE s).i),deep:=(bE s).deep+1,quiet:=true}:PS)=_;rw[this];rfl
   refine(Mb hE ?_ J _).mono λe s' g=>g;unfold cur;rw[J];exact j
  ·exact(mB s2 _).mono λx s' g=>by omega
 split
 ·rename_i hi;rw[kJ]at hi;have j:(mR (bE s)).k≠0:=nJ hi;have h1:=zV j;have o:=EK j;refine Sat.bind (mS (P:=λ_ n=>n+1<=phi (bE s)) ?_) λe s2 g2=>?_
  ·unfold GD;refine(Gv hE _ _ _ [] []).mono λe s' g=>?_;have h3:=tX (step1 (⟨(bE s).toks,(bE s).i,(bE s).off,(bE s).deep+1,false,(bE s).ex,(bE s).bl⟩:PS));have U:phi (step1 (⟨(bE s).toks,(bE s).i,(bE s).off,(bE s).deep+1,false,(bE s).ex,(bE s).bl⟩:PS))=phi (step1 (bE s)):=rfl;omega
  ·exact(mB s2 _).mono λx s' g=>by omega
 ·trivial
theorem xQ(hE:EZ E):∀(n:Nat) (s:PS) (x:Nat),Sat (qE E n s x) (λ_ s'=>phi s'<=phi s) TT
 |0,_,_=>trivial
 |n+1,s,x=>by
  have n1:=lN s
  have t1:=mF (bE s) [46]
  have kJ:∀w,isS (bE s) w=isS s w:=λw=>by unfold isS;rw[mD]
  have step1_le:∀(s:PS),phi (step1 s)<=phi s:=λs=>uJ (by have:=sD (s.toks.drop s.i) 1;rw[kB]at this;exact this) _
  simp only[qE]
  split
  ·rename_i I
   refine(oW _ 1).bind λu s2 g2=>(mB s2 _).bind λy s3 g3=>(xQ hE n s3 y).mono λz s4 g4=>?_
   have:=t1.2 I
   have:=g2.2 (by decide)
   omega
  split
  ·rename_i hi
   rw[kJ]at hi
   have j:(mR (bE s)).k≠0:=nJ hi
   have h1:=zV j
   have U:=EK j
   refine Sat.bind (mS (P:=λ_ n=>n+1<=phi (bE s)) ?_) λo s2 g2=>?_
   ·have J:phi (step1 (⟨(bE s).toks,(bE s).i,(bE s).off,(bE s).deep+1,true,(bE s).ex,(bE s).bl⟩:PS))=phi (step1 (bE s)):=rfl
    have t5:=mF (step1 (⟨(bE s).toks,(bE s).i,(bE s).off,(bE s).deep+1,true,(bE s).ex,(bE s).bl⟩:PS)) [42]
    split
    ·refine(mE _ _).bind λ_ q2 g=>?_
     show phi q2+1<=_
     omega
    ·refine(hE _).bind λy q1 g=>(mE q1 _).bind λ_ q2 g'=>?_
     show phi q2+1<=_
     omega
   ·cases o with
    |some y=>
     simp only
     exact(mB s2 _).bind λz s3 g3=>(xQ hE n s3 z).mono λz s4 g4=>by omega
    |none=>
     simp only
     exact(mE s2 _).bind λ_ s3 g3=>(oW s3 1).bind λu s4 g4=>(mB s4 _).bind λz s5 g5=>(xQ hE n s5 z).mono λz s6 g6=>by have:=g4.1;omega
  ·exact n1
theorem Ma(hE:EZ E):EZ (Ba E):=λs=>by
 unfold Ba
 exact(Gx hE s).bind λx s1 g1=>(xQ hE _ s1 x).mono λy s2 g2=>by omega
theorem Cd(hE:EZ E)(o:EZ S):EZ (vK E S):=by
 intro s;have n1:=lN s;have kJ:∀w,isS (bE s) w=isS s w:=λw=>by unfold isS;rw[mD]
 have one:∀(w:Str) (k:Int),isS s w=true->Sat ((within (bE s) (cur s).a (bE s).quiet λq=>S (step1 q)).bind λx s2=>qV s2 ⟨k,[],[x],[],(cur s).a⟩) (λ_ s'=>phi s'<=phi s) TT:=λw k hi=>by
  have j:(mR (bE s)).k≠0:=nJ hi;have U:=zV j;have J:=EK j;refine Sat.bind (mS (P:=λ_ n=>n+1<=phi (bE s)) ?_) λx s2 g2=>?_
  ·refine(o _).mono λx s' g=>?_;have I:phi (step1 (⟨(bE s).toks,(bE s).i,(bE s).off,(bE s).deep+1,(bE s).quiet,(bE s).ex,(bE s).bl⟩:PS))=phi (step1 (bE s)):=rfl;omega
  ·exact(mB s2 _).mono λy s3 g3=>by omega
 unfold vK;simp only;split
 ·rename_i hi;rw[kJ]at hi;exact one [33] 14 hi
 split
 ·rename_i hi;rw[kJ]at hi;exact one [45] 13 hi
 ·exact(Ma hE (bE s)).mono λx s2 g2=>by omega
theorem DZ{J:PS->R Nat}(o:EZ J)(k:Nat):∀(f:Nat) (s:PS) (x:Nat),Sat (vN J k f s x) (λ_ s'=>phi s'<=phi s) TT
 |0,_,_=>trivial
 |f+1,s,x=>by
  have n1:=lN s
  simp only[vN]
  split
  ·exact n1
  ·rename_i hl
   have j:(cur s).k≠0:=λe=>hl (by unfold qM;rw[e];rfl)
   have I:=(pS j).2
   exact(o _).bind λb s1 g1=>(mB s1 _).bind λy s2 g2=>(DZ o k f s2 y).mono λz s3 g3=>by omega
theorem tY(hE:EZ E)(j:EZ S):∀m,EZ (qX E S m)
 |0=>Cd hE j
 |m+1=>λs=>by
  simp only[qX]
  exact(tY hE j m s).bind λa s1 g1=>(DZ (tY hE j m) _ _ s1 a).mono λy s2 g2=>by omega
theorem Gw(hE:EZ E)(o:EZ S):EZ (yP E S):=by
 intro s;unfold yP;refine(tY hE o 6 s).bind λa s1 g1=>?_;have t1:=mF s1 [63];simp only;split
 ·rename_i j;refine Sat.bind (mS (P:=λ_ n=>n<=phi (cD s1 [63]).2) ?_) λz s2 g2=>?_
  ·refine(hE _).bind λx q1 g3=>(mE q1 _).bind λ_ q2 g4=>(hE q2).bind λy q3 g5=>?_;have I:phi (⟨(cD s1 [63]).2.toks,(cD s1 [63]).2.i,(cD s1 [63]).2.off,(cD s1 [63]).2.deep+1,(cD s1 [63]).2.quiet,(cD s1 [63]).2.ex,(cD s1 [63]).2.bl⟩:PS)=phi (cD s1 [63]).2:=rfl;show phi q3<=_;omega
  ·exact(mB s2 _).mono λy s3 g3=>by have:=t1.2 j;omega
 ·show phi _<=_;omega
end
theorem xC:EZ dead:=λ_=>trivial
theorem uY:∀d,EZ (qZ d).1/\EZ (qZ d).2
 |0=>⟨Gw xC xC,Cd xC xC⟩
 |d+1=>⟨Gw (uY d).1 (uY d).2,Cd (uY d).1 (uY d).2⟩
section
variable{E B:PS->R Nat}
theorem Ce:∀(n:Nat) (s:PS) (ls:List Str),Sat (pV n s ls) (λ_ s'=>phi s'<=phi s) TT
 |0,_,_=>trivial
 |n+1,s,ls=>by
  have n1:=tW s
  simp only[pV]
  split
  ·exact(DY _ _).bind λl s1 e1=>by subst e1;exact(Ce n _ (ls++[l])).mono λ_ s2 g=>by omega
  ·exact lN s
theorem HK(l:List Tok){j:Nat}(h:i<=j):wts (l.drop j)<=wts (l.drop i):=by
 have:=sD (l.drop i) (j-i);rw[kB,show i+(j-i)=j by omega]at this;exact this
theorem GF(s:PS):s.i<=(bE s).i:=by unfold bE;split;exact Nat.le_add_right _ _;exact aY _
theorem Mc(hE:EZ E)(hB:EZ B)(s:PS)(us:List Atr)(bs:List Nat):Sat (yN E B s us bs) (λ_ s'=>phi s'<=phi s) TT:=by
 unfold yN;refine Sat.bind (P:=λ_ s1=>s1=step1 (bE s)/\phi s1+1<=phi s) ?_ λt s1 ⟨e1,o⟩=>?_
 ·unfold mH;split
  ·rename_i U;have j:(cur s).k≠0:=by rw[U];decide
   refine⟨by unfold kI;rw[aO j],((tW s).2 j).2⟩
  ·trivial
 have t1:=mF s1 [61];split
 ·exact(hE _).bind λx s2 J=>by show phi s2<=_;omega
 ·rename_i I;refine Sat.bind (hB _) λx s2 J=>?_;show phi s2<=_;refine dI J ?_;have e2:(cD s1 [61]).2=bE s1:=by
   unfold cD at I⊢;split
   ·rename_i hi;rw[aO hi]at I;exact absurd rfl I
   ·rfl
  rw[e2];have hi:s.i<=(bE s1).i-1:=by
   have o:=GF s;have J:=GF s1;have h3:s1.i=(bE s).i+1:=by rw[e1];rfl
   omega
  have x1:(bE s1).ex=s.ex:=(jK s1).1.trans (by rw[e1];exact(jK s).1);have x2:(bE s1).bl=s.bl:=(jK s1).2.trans (by rw[e1];exact(jK s).2);have x3:(bE s1).toks=s.toks:=by
   have o:∀s:PS,(bE s).toks=s.toks:=λs=>by unfold bE;split<;>rfl
   rw[o,e1];exact o s
  unfold phi;simp only;rw[x1,x2,x3];have:=HK s.toks hi;omega
theorem Ea(hE:EZ E)(hB:EZ B):∀(n:Nat) (s:PS) (us:List Atr) (bs:List Nat),Sat (pY E B n s us bs) (λ_ s'=>phi s'<=phi s) TT
 |0,_,_,_=>trivial
 |n+1,s,us,bs=>by
  have t1:=mF s [125]
  simp only[pY]
  split
  ·exact t1.1
  refine(Mc hE hB _ us bs).bind λx s1 g1=>?_
  have m1:=lN s1
  split
  ·trivial
  have l1:=tX (bE s1)
  exact(Ea hE hB n _ x.1 x.2).mono λy s2 g2=>by omega
theorem Ec(hE:EZ E)(hB:EZ B):EZ (tM E B):=by
 intro s;unfold tM;refine(oW s 1).bind λt s1 g1=>(Ce _ s1 []).bind λls s2 g2=>?_;have n2:=lN s2;split
 ·trivial
 refine Sat.bind (mS (P:=λ_ n=>n<=phi (bE s2)) ?_) λx s3 g3=>?_
 ·refine(Ea hE hB _ _ [] []).mono λx s' g=>?_;have o:=tX (step1 (⟨(bE s2).toks,(bE s2).i,(bE s2).off,(bE s2).deep+1,false,(bE s2).ex,(bE s2).bl⟩:PS));have j:phi (step1 (⟨(bE s2).toks,(bE s2).i,(bE s2).off,(bE s2).deep+1,false,(bE s2).ex,(bE s2).bl⟩:PS))<=phi (bE s2):=uJ (HK _ (qS _)) _;omega
 ·show phi _<=_;have I:=g1.2 (by decide);have e:phi {s3 with bl:=s3.bl++[⟨t.t,ls,x.1,x.2,t.a⟩]}=phi s3+1:=by
   unfold phi;simp only[aP,aB,aK];omega
  have e':phi (⟨s3.toks,s3.i,s3.off,s3.deep,s3.quiet,s3.ex,s3.bl++[⟨t.t,ls,x.1,x.2,t.a⟩]⟩:PS)=phi s3+1:=e;omega
end
theorem Hw:∀d,EZ (zF d)
 |0=>Ec xC xC
 |d+1=>Ec (uY d).1 (Hw d)
theorem Vh(s:PS):s.ex.length<=phi s/\s.bl.length<=phi s:=by unfold phi;omega
end
end Go.Syn
